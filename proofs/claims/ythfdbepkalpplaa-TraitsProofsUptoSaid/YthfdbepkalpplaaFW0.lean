/- Part of the proofs of the statements of this seat. -/
import Derived.Orders
import Derived.Below
import Derived.Laws.OwnMore
import Derived.Maps.AppendAt
import Derived.WalkKit
import Derived.KernelRfl
import Derived.Lib.AppendStr
import Derived.Laws.BytesString
import Derived.Laws.StructEq
import Derived.Lib.AppendZeros
import Derived.ArgAppend
import Derived.Laws.CopyRow
import Derived.Laws.IdiomCopy
import Derived.Carry
import Derived.Maps.RangeRun
set_option maxRecDepth 10000
set_option linter.unusedVariables false
set_option linter.unusedSimpArgs false
namespace Go.Fr
open Go Go.RowKit
abbrev o5:=@if_pos
abbrev q9:=@if_neg
abbrev vv:=@absurd
abbrev xo:=@congrArg
abbrev aaN:=@Bool.and_eq_true
abbrev aaO:=@Option.some.injEq
abbrev aaP:=@List.length_map
abbrev aaQ:=@List.getElem?_eq_getElem
abbrev aaR:=@Nat.eq_of_beq_eq_true
abbrev aaS:=@decide_eq_true
abbrev aaT:=@decide_eq_false
abbrev aaU:=@List.getElem?_eq_some_iff
abbrev aaV:=@Bool.true_and
abbrev aaW:=@List.mem_cons
abbrev aaX:=@List.mem_append
abbrev aaY:=@Bool.false_and
abbrev aaZ:=@List.mem_of_getElem?
abbrev aa0:=@List.map_cons
abbrev aa1:=@List.all_eq_true
abbrev aa2:=@decide_eq_true_eq
abbrev aa3:=@Nat.le_refl
abbrev aa4:=@List.cons_append
abbrev aa5:=@Bool.false_eq_true
abbrev aa6:=@List.getElem?_cons_zero
abbrev aa7:=@List.length_cons
abbrev aa8:=@Array.getD_eq_getD_getElem?
abbrev aa9:=@List.getElem?_map
abbrev abb:=@Nat.le_of_ble_eq_true
abbrev abd:=@Bool.false_ne_true
abbrev abe:=@Nat.zero_le
abbrev abf:=@List.all_cons
abbrev abg:=@List.getElem?_cons_succ
abbrev abh:=@List.mem_iff_getElem?
abbrev abj:=@List.mem_cons_of_mem
abbrev abk:=@Bool.and_false
abbrev abl:=@if_true
abbrev abm:=@Int.le_refl
abbrev abn:=@List.getElem?_eq_none
abbrev abo:=@List.append_nil
abbrev abp:=@Bool.or_eq_true
abbrev abq:=@Option.map_some
abbrev abr:=@List.nil_append
abbrev abt:=@List.mem_map
abbrev abu:=@List.eq_nil_of_length_eq_zero
abbrev abv:=@of_decide_eq_true
abbrev abw:=@Option.some.inj
abbrev abx:=@Nat.le_trans
abbrev aby:=@List.length_replicate
abbrev abz:=@List.getElem?_drop
abbrev abA:=@List.getElem?_eq_none_iff
abbrev abB:=@Nat.not_lt_zero
abbrev abC:=@List.take_of_length_le
abbrev abD:=@List.map_append
abbrev abE:=@List.map_nil
abbrev abF:=@List.any_cons
abbrev abG:=@List.getElem?_append_left
abbrev abH:=@List.getElem?_append_right
abbrev abI:=@List.mem_singleton
abbrev abJ:=@List.length_append
abbrev abK:=@List.length_set
abbrev abL:=@List.getElem?_take
abbrev abM:=@List.append_assoc
abbrev abN:=@List.length_nil
abbrev abO:=@of_decide_eq_false
abbrev abP:=@List.length_take
abbrev abQ:=@List.ext_getElem?
abbrev abR:=@if_false
abbrev abS:=@List.map_map
abbrev abT:=@List.any_eq_true
abbrev abU:=@Nat.lt_succ_self
abbrev abV:=@List.map_congr_left
abbrev abW:=@List.getElem?_set_ne
abbrev abX:=@List.any_eq_false
abbrev abY:=@List.mem_replicate
abbrev abZ:=@decide_eq_false_iff_not
abbrev ab0:=@Bool.not_false
abbrev ab1:=@List.getElem?_set_self
abbrev ab2:=@List.getElem?_replicate
abbrev ab3:=@Bool.not_eq_true
abbrev ab4:=@List.replicate_succ
abbrev ab5:=@Bool.and_true
abbrev ab6:=@List.map_replicate
abbrev ab8:=@List.mem_or_eq_of_mem_set
abbrev au:=Nat->Option Obj
def au.le (F G:au):Prop:=∀b o,F b=some o->G b=some o
theorem au.le_refl (F:au):F.le F:=fun _ _ h=>h
theorem au.le_trans {F G H:au}(h:F.le G) (k:G.le H):F.le H:=fun b o e=>k b o (h b o e)
def fF:Nat:=2 ^ 64
def I6:Nat->Value
 | 0=>.slice none 0 0
 | m+1=>.slice (some ⟨m / (fF*fF),0,none⟩) (m / fF % fF) (m % fF)
def gJ (k:Nat) (F:au) (v:Value):Prop:=(k=0/\v=.nilIface)\/∃m,k=m+1/\v=I6 m
theorem gJ.mono {k:Nat}{F G:au}{v:Value}(h:F.le G) (r:gJ k F v):gJ k G v:=r
theorem gJ.one {k:Nat}{F:au}{v:Value}(r:gJ k F v):v.oneCell'=true:=by
 rcases r with⟨_,rfl⟩ | ⟨m,_,rfl⟩
 ·rfl
 ·cases m<;>rfl
theorem Mf {F:au}:gJ 0 F .nilIface:=.inl ⟨rfl,rfl⟩
def rJ:Nat->Option Nat
 | 0=>none
 | 1=>some 0
 | m+2=>some (m / fF % fF)
theorem Mg {F:au}{k n:Nat}{v:Value}(h:gJ k F v) (e:rJ k=some n):∃a c,v=.slice a n c:=by
 rcases h with⟨rfl,_⟩ | ⟨m,rfl,rfl⟩
 ·cases e
 ·cases m with
  | zero=>injection e with e;subst e;exact⟨none,0,rfl⟩
  | succ m=>injection e with e;subst e;exact⟨_,_,rfl⟩
def sK (F:au):Prop:=True
theorem sK.mono {F G:au}(h:F.le G) (g:sK F):sK G:=g
def v9 (g:Nat):Option Nat:=none
theorem I7 {F:au}{g k:Nat}(h:sK F) (e:v9 g=some k):∃v t a,F g=some (.cells #[v] t a)/\gJ k F v:=by cases e
def Mi (k:Nat) (n:Int):Option (Int×Bool):=none
def Er (k:Nat):Option Bool:=match k with | 0=>some true | _=>none
theorem I8 {F:au}{k:Nat}{v:Value}{b:Bool}(h:gJ k F v) (e:Er k=some b):(b=true->v=.nilIface)/\(b=false->∃t u,v=.iface t u):=by
 unfold Er at e;split at e
 case h_2=>cases e
 injection e with e;subst e
 refine⟨fun _=>?_,fun e=>by cases e⟩;rcases h with h | ⟨m,h,_⟩
 ·exact h.2
 ·cases h
def Mj:Bool:=false
def QB:List (TypeId×String):=[]
inductive SV where
 | v (x:Value)
 | own (k off:Nat)
 | el (a:Option Addr) (j:Nat)
 deriving Inhabited
inductive Own where
 | box (g:Nat) (t:TypeId) (cs:List Value)
 | row (v:Value) (t:TypeId) (sz n:Nat) (xs:List Value)
def Own.blk:Own->Option Nat
 | .box g _ _=>some g
 | .row v _ _ _ _=>v.ownBlock
abbrev Loc:=List (Nat×Own)
def Loc.get:Loc->Nat->Option Own
 | [],_=>none
 | (j,o)::l,k=>match Nat.beq j k with | true=>some o | false=>Loc.get l k
def Loc.set:Loc->Nat->Own->Loc
 | [],k,o=>[(k,o)]
 | (j,p)::l,k,o=>match Nat.beq j k with
  | true=>(k,o)::l
  | false=>match Nat.ble j k with
   | true=>(j,p)::Loc.set l k o
   | false=>(k,o)::(j,p)::l
def Loc.del:Loc->Nat->Loc
 | [],_=>[]
 | (j,o)::l,k=>match Nat.beq j k with | true=>Loc.del l k | false=>(j,o)::Loc.del l k
abbrev Env:=Nat->SV
def put (d:Option Nat) (v:SV) (ρ:Env):Env :=
 match d with
 | some d=>fun j=>match Nat.beq j d with | true=>v | false=>ρ j
 | none=>ρ
def conc (L:Loc):SV->Value
 | .v x=>x
 | .own k off=>match L.get k with | some (.box g _ _)=>.pointer (some ⟨g,off,none⟩) | _=>undef
 | .el a j=>match a with | some ad=>.pointer (some (ad.add j)) | none=>undef
def fK:Value->Nat->MapEntry
 | .agg ⟨[k,v]⟩,i=>{key:=k,val:=v,born:=i}
 | v,i=>{key:=v,val:=v,born:=i}
def iK:Value->Nat
 | .int _ n=>n.toNat
 | _=>0
def aW:List Value->Nat->List MapEntry
 | [],_=>[]
 | v::l,i=>fK v i::aW l (i+1)
def gT:List Value->Obj
 | .tuple ⟨[.map (some m),.int .i64 n]⟩::a=>.mapIter (some m) n.toNat (a.map iK).toArray n.toNat
 | es=>.map (aW es 0).toArray es.length
def mS:TypeId->List Value->Obj
 | 0,cs=>gT cs
 | t+1,cs=>.cells cs.toArray (t+1) (0,0)
theorem jn {t:TypeId}(h:t≠0) (cs:List Value):mS t cs=.cells cs.toArray t (0,0):=by
 cases t with
 | zero=>exact vv rfl h
 | succ t=>rfl
def Own.ok (w:World):Own->Prop
 | .box g t cs=>w.heap[g]?=some (mS t cs)
 | .row v t sz n xs=>w.ownsRow 0 t sz v n xs
structure St (F:au) (L:Loc) (w:World):Prop where
 frz:∀b o,F b=some o->w.heap[b]?=some o
 own:∀k o,L.get k=some o->o.ok w
 off:∀k o g,L.get k=some o->o.blk=some g->F g=none
 sep:∀k k' o o' g,L.get k=some o->L.get k'=some o'->o.blk=some g->o'.blk=some g->k=k'
 glob:sK F
def Loc.owns (L:Loc) (b:Nat):Prop:=∃k o,L.get k=some o/\o.blk=some b
structure Step (F:au) (L:Loc) (w:World) (F':au) (L':Loc) (w':World):Prop where
 le:F.le F'
 os:w'.os=w.os
 tape:w'.tape=w.tape
 output:w'.output=w.output
 size:w.heap.size<=w'.heap.size
 same:∀b,b<w.heap.size->¬L.owns b->w'.heap[b]?=w.heap[b]?
 frz:∀b,F' b≠none->F b≠none\/L.owns b\/w.heap.size<=b
 own:∀b,L'.owns b->L.owns b\/w.heap.size<=b
def dG (F:au) (a:Option Addr) (j:Nat) (cs:List Value):Prop :=
 ∃c b t d,a=some c/\F c.block=some (.cells b t d)/\c.spot=none/\∀(i:Nat) (v:Value),cs[i]?=some v->b[c.off+j+i]?=some v
def sL:Nat->List Own->Loc
 | _,[]=>[]
 | k,o::l=>(k,o)::sL (k+1) l
def inp (l:List Own):Loc:=sL 1000 l
structure CallsA (P:Program) (f:FuncId) (args:Array Value) (F:au) (Lin:List Own) (R:au->List Own->Value->Prop):Prop where
 ent:∃fn,P.funcs[f]?=some fn/\fn.body.isSome=true/\(fn.name == "runtime.NumGoroutine")=false
 mono:∀F G L v,F.le G->R F L v->R G L v
 run:∀w,St F (inp Lin) w->Calls P f args w fun e w'=>∃v F' Lo,e=.returned v/\St F' (inp Lo) w'/\Step F (inp Lin) w F' (inp Lo) w'/\R F' Lo v
def rK (v:Value) (b:List PanicEntry):Prop:=∃a,b={v,recovered:=false}::a/\∀e∈a,e.goexit=false
theorem rK.one (v:Value):rK v [{v,recovered:=false}]:=⟨[],rfl,fun e h=>by cases h⟩
structure n8 (P:Program) (f:FuncId) (args:Array Value) (F:au) (Lin:List Own) (R:au->List Own->Value->Prop) (Pp:Value->Prop):Prop where
 ent:∃fn,P.funcs[f]?=some fn/\fn.body.isSome=true/\(fn.name == "runtime.NumGoroutine")=false
 mono:∀F G L v,F.le G->R F L v->R G L v
 run:∀w,St F (inp Lin) w->Calls P f args w fun e w'=>(∃v F' Lo,e=.returned v/\St F' (inp Lo) w'/\Step F (inp Lin) w F' (inp Lo) w'/\R F' Lo v) \/
  ∃v ch F' Lo,e=.panicked ch/\rK v ch/\St F' (inp Lo) w'/\Step F (inp Lin) w F' (inp Lo) w'/\Lo.length=Lin.length/\(∀(i:Nat) g t cs,Lin[i]?=some (.box g t cs)->∃cs',Lo[i]?=some (.box g t cs'))/\Pp v
theorem CallsA.toX {P:Program}{f:FuncId}{args:Array Value}{F:au}{Lin:List Own}{R:au->List Own->Value->Prop}{Pp:Value->Prop}(h:CallsA P f args F Lin R):n8 P f args F Lin R Pp :=
 ⟨h.ent,h.mono,fun w a=>(h.run w a).mono fun _ _ k=>.inl k⟩
structure wg (P:Program) (f:FuncId) (args:Array Value) (F:au) (Lin:List Own) (R:au->List Own->Value->Prop) (Pp:au->List Own->Value->Prop):Prop where
 ent:∃fn,P.funcs[f]?=some fn/\fn.body.isSome=true/\(fn.name == "runtime.NumGoroutine")=false
 mono:∀F G L v,F.le G->R F L v->R G L v
 run:∀w,St F (inp Lin) w->Calls P f args w fun e w'=>(∃v F' Lo,e=.returned v/\St F' (inp Lo) w'/\Step F (inp Lin) w F' (inp Lo) w'/\R F' Lo v) \/
  ∃v ch F' Lo,e=.panicked ch/\rK v ch/\St F' (inp Lo) w'/\Step F (inp Lin) w F' (inp Lo) w'/\Lo.length=Lin.length/\(∀(i:Nat) g t cs,Lin[i]?=some (.box g t cs)->∃cs',Lo[i]?=some (.box g t cs'))/\Pp F' Lo v
theorem n8.toS {P:Program}{f:FuncId}{args:Array Value}{F:au}{Lin:List Own}{R:au->List Own->Value->Prop}{Pp:Value->Prop}(h:n8 P f args F Lin R Pp):wg P f args F Lin R (fun _ _=>Pp):=⟨h.ent,h.mono,h.run⟩
inductive X where
 | t (n:Nat)
 | c (v:Value)
 | fn (f:Nat)
 | mt (nm:String) (n:Nat)
 deriving Inhabited
def SE (a:String):SV->SV
 | .v x=>.v (.func (.method a) #[x] #[])
 | .own _ _=>.v undef
 | .el _ _=>.v undef
def ev (ρ:Env):X->SV
 | .t n=>ρ n
 | .c v=>.v v
 | .fn f=>.v (.func (.func f) #[] #[])
 | .mt a n=>SE a (ρ n)
def sM (P:Program) (t:TypeId) (b:String):Option FuncId :=
 match P.info? t with
 | some i=>match i.methods.find? (·.name == b) with
  | some m=>match m.path.toList,m.func with
   | [],some (f,a)=>match P.underlying t,a with
    | some (.pointer _),true=>some f
    | some (.pointer _),false=>none
    | some _,false=>some f
    | _,_=>none
   | _,_=>none
  | none=>none
 | none=>none
def SG:List (TypeId×String)->TypeId->String->Bool
 | [],_,_=>false
 | (t,c)::l,b,a=>match Nat.beq t b,decide (c=a) with | true,true=>true | _,_=>SG l b a
def PI (P:Program):Bool:=QB.all fun x=>(sM P x.1 x.2).isSome
def rL (P:Program):SV->Option (Nat×List Value×List Value)
 | .v (.func (.func f) a b)=>some (f,a.toList,b.toList)
 | .v (.func (.method c) a b)=>match a.toList with
  | [.iface t u]=>match sM P t c with
   | some f=>some (f,[u],[])
   | none=>none
  | _=>none
 | _=>none
def zW (P:Program) (f:SV) (args:List Value):Option (Nat×List Value) :=
 match f,args with
 | .v (.func (.methodOf t c) ⟨[]⟩ _),.iface b u::a=>match P.underlying t with
  | some (.interface _)=>match sM P b c with
   | some f=>some (f,u::a)
   | none=>none
  | _=>none
 | _,_=>none
def val (L:Loc) (ρ:Env) (x:X):Value:=conc L (ev ρ x)
inductive dN where
 | mov (x:X)
 | pick (c a b:X)
 | box (t:TypeId) (x:X)
 | boxF (t:TypeId) (x:X)
 | alloc (t:TypeId) (zs:List Value)
 | mkF (e:TypeId) (n sz:Nat) (xs:List X)
 | mkR (e:TypeId) (n sz:Nat) (xs:List X)
 | build (zs:List Value) (ps:List (Nat×Nat×X))
 | load (agg:Bool) (n:Nat) (x:X)
 | loadD (agg:Bool) (n:Nat) (x:X)
 | store (n:Nat) (a x:X)
 | nilck (x:X)
 | bin (op:BinOp) (x y:X)
 | eqB (neg:Bool) (x y:X)
 | eqS (neg:Bool) (x y:X)
 | eqN (neg:Bool) (x:X)
 | tas (t:TypeId) (z:Value) (x:X)
 | eqA (neg:Bool) (ks:List Bool) (x y:X)
 | un (op:UnOp) (x:X)
 | conv (k:IntKind) (x:X)
 | mkfn (f:Nat) (first cap:List X)
 | makeS (e:TypeId) (sz bytes:Nat) (zs:List Value) (l c:X)
 | slc (sz:Nat) (x:X) (lo hi:Option X)
 | fieldA (off:Nat) (x:X)
 | idxA (sz:Nat) (x i:X)
 | extr (x:X) (i:Nat)
 | call (f:Nat) (args:List X)
 | callV (f:X) (args:List X)
 | callD (f:Nat) (args:List X)
 | boxD (t:TypeId) (x:X)
 | allocD (t:TypeId) (zs:List Value)
 | mkFD (e:TypeId) (n sz:Nat) (xs:List X)
 | callVD (f:X) (args:List X)
 | callO (f:Nat) (args:List X)
 | callVO (f:X) (args:List X)
 | len (x:X)
 | mm (mx:Bool) (args:List X)
 | app (e:TypeId) (sz bytes:Nat) (zs:List Value) (s x:X)
 | appD (e:TypeId) (sz bytes:Nat) (zs:List Value) (s x:X)
 | storeD (n:Nat) (a x:X)
 | appX (e:TypeId) (sz bytes:Nat) (zs:List Value) (s x:X)
 | mkif (t:TypeId) (x:X)
 | makeSD (e sz n:Nat) (zs:List Value)
 | makeSV (e sz b:Nat) (zs:List Value) (x:X)
 | loadK (key:Nat) (agg:Bool) (n:Nat) (x:X)
 | storeK (key n:Nat) (a x:X)
 | storeX (n:Nat) (a x:X)
 | pan (x:X)
 | gload (g:Nat)
 | loadF (agg:Bool) (n:Nat) (x:X)
 | loadR (agg:Bool) (n:Nat) (x:X)
 | mkmap
 | mlook (str ok:Bool) (z:Value) (x i:X)
 | mupd (str:Bool) (x i v:X)
 | mrange (x:X)
 | mnext (x:X)
 | mentry (x:X)
 | dead
 deriving Inhabited
structure XP where
 dst:Option Nat
 op:dN
 guard:Option (Nat×Bool)
 deriving Inhabited
abbrev di:=au->Loc->Env->Prop
def bP (cs:List Value) (off:Nat) (a:List Value):List Value:=cs.take off++a++cs.drop (off+a.length)
structure Fit (k:IntKind) (n:Int) (K:Int->Prop):Prop where
 out:K (k.wrap n)
structure QC (n:Int) (K:Prop):Prop where
 ne:n≠0
 out:K
structure FH (i:Int) (n:Int) (K:Prop):Prop where
 lo:0<=i
 hi:i<n
 out:K
structure I9 (a:Option Addr) (i:Int) (n:Int) (K:Prop):Prop where
 ne:a≠none
 lo:0<=i
 hi:i<n
 out:K
structure jW (F:au) (L:Loc) (a:Option Addr) (j n:Nat) (K:List Value->Prop):Prop where
 out:∃cs,cs.length=n/\(dG F a j cs\/(∃k v t sz m xs ad c,L.get k=some (.row v t sz m xs)/\a=some ad/\v=.slice (some ad) m c/\∀(i:Nat) (u:Value),cs[i]?=some u->xs[j+i]?=some u)\/n=0\/∃k g t bs o,L.get k=some (.box g t bs)/\t≠0/\a=some ⟨g,o,none⟩/\∀(i:Nat) (u:Value),cs[i]?=some u->bs[o+j+i]?=some u)/\K cs
structure SH (F:au) (g:Nat) (K:Value->Prop):Prop where
 out:∃v t fr,F g=some (.cells #[v] t fr)/\K v
structure ja (F:au) (a:Option Addr) (j n:Nat) (K:List Value->Prop):Prop where
 out:∃cs,cs.length=n/\(dG F a j cs\/n=0)/\K cs
structure qG (L:Loc) (a:Option Addr) (j:Nat) (cs:List Value) (K:Loc->Prop):Prop where
 out:∃k v t sz m xs ad c,L.get k=some (.row v t sz m xs)/\a=some ad/\v=.slice (some ad) m c/\j+cs.length<=xs.length/\(∀u∈cs,u.oneCell'=true) /\
  K (L.set k (.row v t sz m (bP xs j cs)))
def Loc.sub (L:Loc):List Nat->Option (List Own)
 | []=>some []
 | k::ks=>match L.get k,Loc.sub L ks with
  | some o,some l=>some (o::l)
  | _,_=>none
def Loc.aae (L:Loc):List Nat->Loc
 | []=>L
 | k::ks=>Loc.aae (L.del k) ks
def Loc.puts (L:Loc):List Nat->List Own->Loc
 | k::ks,o::l=>Loc.puts (L.set k o) ks l
 | _,_=>L
structure dO (P:Program) (f:Nat) (args:List Value) (F:au) (L:Loc) (K:au->Loc->Value->Prop):Prop where
 out:∃(ks ko:List Nat) (Lin:List Own) (R:au->List Own->Value->Prop),L.sub ks=some Lin/\ks.Nodup/\ko.Nodup/\(∀k,k∈ko->k∈ks\/L.get k=none)/\CallsA P f args.toArray F Lin R /\
  ∀v F' Lo,F.le F'->R F' Lo v->ko.length=Lo.length /\
   (∀k g t cs,k∈ks->L.get k=some (.box g t cs)->∃cs',Loc.get ((L.aae ks).puts ko Lo) k=some (.box g t cs')) /\
   K F' ((L.aae ks).puts ko Lo) v
def Real (F:au) (L:Loc):Prop:=∃w,St F L w
inductive dI (P:Program) (f:Nat) (args:List Value) (F:au) (L:Loc) (d:Option Nat) (K:au->Loc->Value->Prop):Prop
 | frz (R:au->List Own->Value->Prop) (h:CallsA P f args.toArray F [] R) (k:∀v F' Lo,F.le F'->R F' Lo v->Lo=[]/\(Real F' L->K F' L v))
 | own (R:au->List Own->Value->Prop) (k:Nat) (h:CallsA P f args.toArray F [] R) (hd:d=some k) (hk:L.get k=none)
   (kk:∀v F' Lo,F.le F'->R F' Lo v->∃o,Lo=[o]/\(Real F' (L.set k o)->K F' (L.set k o) v))
 | row (R:au->List Own->Value->Prop) (kr:Nat) (rv:Value) (t:TypeId) (sz n:Nat) (xs:List Value) (h:CallsA P f args.toArray F [.row rv t sz n xs] R) (hk:L.get kr=some (.row rv t sz n xs))
   (kk:∀v F' Lo,F.le F'->R F' Lo v->Lo=[]/\(Real F' (L.set kr (.row (.slice none 0 0) t sz 0 []))->K F' (L.set kr (.row (.slice none 0 0) t sz 0 [])) v))
 | lent (R:au->Value->Prop) (kr:Nat) (rv:Value) (t:TypeId) (sz n:Nat) (xs:List Value) (h:CallsA P f args.toArray F [.row rv t sz n xs] (fun F' Lo v=>Lo=[.row rv t sz n xs]/\R F' v)) (hk:L.get kr=some (.row rv t sz n xs))
   (kk:∀v F',F.le F'->R F' v->Real F' L->K F' L v)
structure FI (F:au) (L:Loc) (e:TypeId) (sz bytes:Nat) (s x:Value) (K:Loc->Value->Prop):Prop where
 out:∃(kd:Nat) (n:Nat) (xs:List Value) (m:Nat) (news:List Value),
  (L.get kd=some (.row s e sz n xs)\/(L.get kd=none/\n=0/\xs=[]/\s=.slice none 0 0)\/(L.get kd=none/\∃ad,s=.slice (some ad) n n/\0<m/\xs.length=n*sz/\(dG F (some ad) 0 xs\/(n=0/\xs=[])))) /\
  (∃a c,x=.slice a m c/\news.length=m*sz/\(dG F a 0 news\/(m=0/\news=[]) \/
    ∃k v t sz' m' ys ad c',L.get k=some (.row v t sz' m' ys)/\a=some ad/\v=.slice (some ad) m' c'/\∀(i:Nat) (u:Value),news[i]?=some u->ys[i]?=some u)) /\
  (∀u∈news,u.oneCell'=true)/\n+m<=maxLen/\(n+m)*bytes<=140737488355328 /\
  ∀v,(∃a c,v=.slice a (n+m) c/\(a=none->n+m=0))->K (L.set kd (.row v e sz (n+m) (xs++news))) v
structure pF (F:au) (L:Loc) (d:Option Nat) (e:TypeId) (sz bytes:Nat) (s x:Value) (K:Loc->Value->Prop):Prop where
 out:∃(kd:Nat) (n:Nat) (xs:List Value) (m:Nat) (news:List Value),
  (L.get kd=some (.row s e sz n xs)\/(d=some kd/\L.get kd=none/\n=0/\xs=[]/\s=.slice none 0 0) \/
   (d=some kd/\L.get kd=none/\∃ad,s=.slice (some ad) n n/\0<m/\xs.length=n*sz/\(dG F (some ad) 0 xs\/(n=0/\xs=[])))) /\
  (∃a c,x=.slice a m c/\news.length=m*sz/\(dG F a 0 news\/(m=0/\news=[]))) /\
  (∀u∈news,u.oneCell'=true)/\n+m<=maxLen/\(n+m)*bytes<=140737488355328 /\
  ∀v,(∃a c,v=.slice a (n+m) c/\(a=none->n+m=0))->Real F (L.set kd (.row v e sz (n+m) (xs++news)))->K (L.set kd (.row v e sz (n+m) (xs++news))) v
structure U7 (L:Loc) (e:TypeId) (s:Value) (t:ByteArray) (K:Loc->Value->Prop):Prop where
 out:∃(kd:Nat) (n:Nat) (xs:List Value),
  (L.get kd=some (.row s e 1 n xs)\/(L.get kd=none/\n=0/\xs=[]/\s=.slice none 0 0)) /\
  n+t.size<=maxLen/\(n+t.size)<=140737488355328 /\
  ∀v,(∃a c,v=.slice a (n+t.size) c/\(a=none->n+t.size=0))->K (L.set kd (.row v e 1 (n+t.size) (xs++t.data.toList.map fun b=>Value.int .u8 b.toNat))) v
structure U8 (L:Loc) (e:TypeId) (bytes:Nat) (ki:IntKind) (s:Value) (m:Nat) (K:Loc->Value->Prop):Prop where
 out:∃(kd:Nat) (n:Nat) (xs:List Value),
  (L.get kd=some (.row s e 1 n xs)\/(L.get kd=none/\n=0/\xs=[]/\s=.slice none 0 0)) /\
  n+m<=maxLen/\(n+m)*bytes<=140737488355328 /\
  ∀v,(∃a c,v=.slice a (n+m) c/\(a=none->n+m=0))->K (L.set kd (.row v e 1 (n+m) (xs++List.replicate m (.int ki 0)))) v
structure U9 (F:au) (L:Loc) (e:TypeId) (sz:Nat) (d x:Value) (K:Loc->Nat->Prop):Prop where
 out:(∃(k n:Nat) (v:Value) (nr:Nat) (xs:List Value) (ad:Addr) (cr cd j m:Nat) (a:Option Addr) (c:Nat) (news:List Value),
  L.get k=some (.row v e sz nr xs)/\v=.slice (some ad) nr cr/\d=.slice (some (ad.add (j*sz))) n cd/\j+n<=nr /\
  x=.slice a m c/\news.length=(min m n)*sz/\(dG F a 0 news\/(min m n=0/\news=[]))/\(∀u∈news,u.oneCell'=true) /\
  K (L.set k (.row v e sz nr (bP xs (j*sz) news))) (min m n)) \/
  ∃(da:Option Addr) (n cd:Nat) (a:Option Addr) (m c:Nat),d=.slice da n cd/\x=.slice a m c/\min m n=0/\K L 0
structure UL (L:Loc) (e:TypeId) (d:Value) (t:ByteArray) (K:Loc->Nat->Prop):Prop where
 out:∃(k n:Nat) (v:Value) (nr:Nat) (xs:List Value) (ad:Addr) (cr cd j:Nat),
  L.get k=some (.row v e 1 nr xs)/\v=.slice (some ad) nr cr/\d=.slice (some (ad.add j)) n cd/\j+n<=nr /\
  K (L.set k (.row v e 1 nr (bP xs j ((t.data.toList.take n).map fun b=>Value.int .u8 b.toNat)))) (min t.size n)
structure Mk (cs:List Value) (K:List UInt8->Prop):Prop where
 out:∃bs:List UInt8,cs=bs.map (fun b=>Value.int .u8 b.toNat)/\K bs
structure Yi (L:Loc) (a:Option Addr) (n:Nat) (K:List UInt8->Prop):Prop where
 out:∃k t c,∃bs:List UInt8,L.get k=some (.row (.slice a n c) t 1 n (bs.map (fun b=>Value.int .u8 b.toNat)))/\bs.length=n/\(a=none->n=0)/\K bs
def ld:List Value->Bool
 | .tuple _::_=>false
 | _=>true
def eU:Bool->Value->Value->Option Bool
 | false,.int .i64 a,.int .i64 b=>some (decide (a=b))
 | true,.string a,.string b=>some (decide (a.data.toList=b.data.toList))
 | _,_,_=>none
def lM (str:Bool) (key:Value):List Value->Nat->Option (Option (Nat×Value))
 | [],_=>some none
 | .agg ⟨[k,v]⟩::l,i=>match eU str key k with
  | some true=>some (some (i,v))
  | some false=>lM str key l (i+1)
  | none=>none
 | _::_,_=>none
def wK (str:Bool) (key val:Value):List Value->Option (List Value)
 | []=>some [.agg #[key,val]]
 | .agg ⟨[k,v]⟩::l=>match eU str key k with
  | some true=>some (.agg #[key,val]::l)
  | some false=>match wK str key val l with | some l'=>some (.agg #[k,v]::l') | none=>none
  | none=>none
 | _::_=>none
structure CI (L:Loc) (g:Nat) (K:Nat->List Value->Prop):Prop where
 out:∃k cs,L.get k=some (.box g 0 cs)/\ld cs=true/\K k cs
structure FJ (str:Bool) (cs:List Value) (key:Value) (ok:Bool) (z:Value) (K:Value->Prop):Prop where
 out:(∃i v,lM str key cs 0=some (some (i,v))/\K (match ok with | true=>.tuple #[v,.bool true] | false=>v))\/(lM str key cs 0=some none/\K (match ok with | true=>.tuple #[z,.bool false] | false=>z))
structure QD (str:Bool) (cs:List Value) (key val:Value) (K:List Value->Prop):Prop where
 isKey:eU str key key=some true
 out:∃cs',wK str key val cs=some cs'/\K cs'
structure Ja (L:Loc) (k gi g n:Nat) (seen:List Value) (K:Loc->Value->Prop):Prop where
 out:∃km cs,L.get km=some (.box g 0 cs)/\ld cs=true/\cs.length=n/\(∀j e,cs[j]?=some e->j∉seen.map iK->K (L.set k (.box gi 0 (.tuple #[.map (some g),.int .i64 n]::(seen++[.int .i64 j])))) (.tuple #[.bool true,(fK e j).key,(fK e j).val])) /\
  ((∀j,j<n->j∈seen.map iK)->K L (.tuple #[.bool false]))
structure FK (L:Loc) (g n:Nat) (seen:List Value) (K:Value->Prop):Prop where
 out:∃km cs j e,L.get km=some (.box g 0 cs)/\ld cs=true/\cs.length=n/\seen.getLast?=some (.int .i64 (.ofNat j))/\cs[j]?=some e/\K (.tuple #[(fK e j).key,(fK e j).val])
structure Va (F:au) (mv:Value) (n:Int) (K:Int->Bool->Prop):Prop where
 out:∃k r b,gJ k F mv/\Mi k n=some (r,b)/\K r b
structure uw (n c:Int) (bytes:Nat) (K:Nat->Prop):Prop where
 lo:0<=n
 le:n<=c
 hi:c.toNat*bytes<=140737488355328
 max:c.toNat<=maxLen
 out:K n.toNat
structure PJ (l h:Int) (c:Nat) (K:Nat->Nat->Prop):Prop where
 lo:0<=l
 le:l<=h
 hi:h<=c
 out:K l.toNat h.toNat
abbrev zq:Bool->Prop->Prop->Prop
 | true,A,_=>A
 | false,_,B=>B
def aL:Value->List Value
 | .agg cs=>cs.toList
 | v=>[v]
def bn (L:Loc) (ρ:Env):List X->List Value
 | []=>[]
 | x::xs=>val L ρ x::bn L ρ xs
def cellsOf (L:Loc) (ρ:Env):List X->List Value
 | []=>[]
 | x::xs=>aL (val L ρ x)++cellsOf L ρ xs
def gU (agg:Bool) (cs:List Value):Value :=
 match agg,cs with
 | true,cs=>.agg cs.toArray
 | false,[v]=>v
 | false,_=>undef
def gQ:List Value->Nat->Bool
 | [],0=>true
 | _::l,n+1=>gQ l n
 | _,_=>false
def jg (t:TypeId) (l:List Value) (n:Nat):Bool:=match Nat.beq t 0 with | true=>false | false=>gQ l n
def fL (L:Loc) (ρ:Env) (sz:Nat):List X->Bool
 | []=>true
 | x::xs=>match gQ (aL (val L ρ x)) sz with | true=>fL L ρ sz xs | false=>false
def jT:List Value->Bool
 | []=>true
 | v::l=>match v.oneCell' with | true=>jT l | false=>false
def sN:Bool->Bool->Bool
 | true,b=>!b
 | false,b=>b
def PK (a b:ByteArray):Bool:=decide (a.data.toList=b.data.toList)
def PL (a b:ByteArray):Bool:=Op.bytesLess a.data.toList b.data.toList
def built (L:Loc) (ρ:Env):List Value->List (Nat×Nat×X)->Option (List Value)
 | zs,[]=>some zs
 | zs,(off,n,x)::ps=>match gQ (aL (val L ρ x)) n with
  | true=>built L ρ (bP zs off (aL (val L ρ x))) ps
  | false=>none
def PN (mx:Bool):Int->List SV->Option Int
 | a,[]=>some a
 | a,.v (.int _ b)::l=>PN mx (match mx with | true=>if b>a then b else a | false=>if b<a then b else a) l
 | _,_=>none
def rM (a:Option Addr) (c l h sz:Nat):Value:=.slice (if c=l then a else a.map (·.add (l*sz))) (h-l) (c-l)
def mY (ρ:Env) (d:Int):Option X->Option Int
 | none=>some d
 | some x=>match ev ρ x with | .v (.int _ i)=>some i | _=>none
def lN:Value->Nat
 | .int _ m=>m.toNat
 | _=>0
def sO (b:Nat):Value->Bool
 | .int _ m=>Nat.ble (m.toNat*b) 140737488355328&&Nat.ble m.toNat 9223372036854775807&&decide (0<=m)
 | _=>false
theorem CJ {b:Nat}{v:Value}(h:sO b v=true):∃k m,v=.int k m/\0<=m/\lN v=m.toNat/\m.toNat*b<=140737488355328/\m.toNat<=maxLen:=by
 cases v<;>simp only[sO] at h<;>try (cases h;done)
 rename_i k m;simp only[aaN,aa2] at h;exact⟨k,m,rfl,h.2,rfl,abb h.1.1,abb h.1.2⟩
theorem Ho {b:Nat}{v:Value}(h:sO b v=true):lN v<=maxLen:=by
 obtain⟨k,m,rfl,_,e,_,a⟩:=CJ h;rw[e];exact a
def binI (op:BinOp) (k:IntKind) (a b:Int) (K:Value->Prop):Prop :=
 match op with
 | .add=>Fit k (a+b) fun n=>K (.int k n)
 | .sub=>Fit k (a-b) fun n=>K (.int k n)
 | .mul=>Fit k (a*b) fun n=>K (.int k n)
 | .quo=>QC b (Fit k (a.tdiv b) fun n=>K (.int k n))
 | .rem=>QC b (K (.int k (a.tmod b)))
 | .and=>K (.int k (k.wrap (BitVec.ofInt k.bits a &&& BitVec.ofInt k.bits b).toNat))
 | .or=>K (.int k (k.wrap (BitVec.ofInt k.bits a ||| BitVec.ofInt k.bits b).toNat))
 | .xor=>K (.int k (k.wrap (BitVec.ofInt k.bits a ^^^ BitVec.ofInt k.bits b).toNat))
 | .andNot=>K (.int k (k.wrap (BitVec.ofInt k.bits a &&& ~~~ BitVec.ofInt k.bits b).toNat))
 | .eql=>K (.bool (decide (a=b)))
 | .neq=>K (.bool (!decide (a=b)))
 | .lss=>K (.bool (decide (a<b)))
 | .leq=>K (.bool (decide (a<=b)))
 | .gtr=>K (.bool (decide (b<a)))
 | .geq=>K (.bool (decide (b<=a)))
 | _=>False
def shI (op:BinOp) (k:IntKind) (a b:Int) (K:Value->Prop):Prop :=
 match op with
 | .shl=>0<=b/\Fit k (a*2 ^ (min b.toNat k.bits)) fun n=>K (.int k n)
 | .shr=>0<=b/\K (.int k (a.fdiv (2 ^ (min b.toNat k.bits))))
 | _=>False
def binS (op:BinOp) (a b:ByteArray) (K:Value->Prop):Prop :=
 match op with
 | .add=>((a.size+b.size:Nat):Int)<=IntKind.i64.max/\K (.string (a++b))
 | .eql=>K (.bool (PK a b))
 | .neq=>K (.bool (!PK a b))
 | .lss=>K (.bool (PL a b))
 | .geq=>K (.bool (!PL a b))
 | _=>False
def pG:IntKind->IntKind->Bool
 | .i64,.i64=>true | .u8,.u8=>true | .u64,.u64=>true | .i32,.i32=>true | .u16,.u16=>true | .u32,.u32=>true | .i8,.i8=>true | .i16,.i16=>true
 | _,_=>false
def Jb:BinOp->Bool
 | .shl | .shr=>true
 | _=>false
def iU:List Bool->List Value->List Value->Bool->Option Bool
 | [],[],[],c=>some c
 | true::ks,.int k a::l,.int e b::d,c=>match pG k e with | true=>iU ks l d (c&&decide (a=b)) | false=>none
 | false::ks,.bool a::l,.bool b::d,c=>iU ks l d (c&&decide (a=b))
 | _,_,_,_=>none
def aH (o:dN) (F:au) (L:Loc) (ρ:Env) (V:SV->Prop):Prop :=
 match o with
 | .mov x=>V (ev ρ x)
 | .pick c a b=>match ev ρ c with
  | .v (.bool true)=>V (ev ρ a)
  | .v (.bool false)=>V (ev ρ b)
  | _=>False
 | .build zs ps=>match built L ρ zs ps with
  | some cs=>V (.v (.agg cs.toArray))
  | none=>False
 | .load agg n x=>match ev ρ x with
  | .own k off=>match L.get k with
   | some (.box _ t cs)=>match jg t ((cs.drop off).take n) n with
    | true=>V (.v (gU agg ((cs.drop off).take n)))
    | false=>False
   | _=>False
  | .el a j=>jW F L a j n fun cs=>V (.v (gU agg cs))
  | .v (.pointer (some a))=>jW F L (some a) 0 n fun cs=>V (.v (gU agg cs))
  | _=>False
 | .loadR agg n x=>match ev ρ x with
  | .own k off=>match L.get k with
   | some (.box _ t cs)=>match jg t ((cs.drop off).take n) n with
    | true=>V (.v (gU agg ((cs.drop off).take n)))
    | false=>False
   | _=>False
  | .el a j=>jW F L a j n fun cs=>V (.v (gU agg cs))
  | .v (.pointer (some a))=>jW F L (some a) 0 n fun cs=>V (.v (gU agg cs))
  | _=>False
 | .nilck x=>match ev ρ x with
  | .own k off=>V (.own k off)
  | .el a j=>a≠none/\V (.el a j)
  | .v (.pointer (some a))=>V (.v (.pointer (some a)))
  | .v (.func (.func f) d e)=>V (.v (.func (.func f) d e))
  | .v (.func (.method p) d e)=>match d.toList with
   | [.iface t u]=>SG QB t p=true/\V (.v (.func (.method p) d e))
   | _=>False
  | _=>False
 | .bin op x y=>match ev ρ x,ev ρ y with
  | .v (.int k a),.v (.int s b)=>match Jb op with
   | true=>shI op k a b fun v=>V (.v v)
   | false=>match pG k s with
    | true=>binI op k a b fun v=>V (.v v)
    | false=>False
  | .v (.string a),.v (.string b)=>binS op a b fun v=>V (.v v)
  | _,_=>False
 | .eqB neg x y=>match ev ρ x,ev ρ y with
  | .v (.bool a),.v (.bool b)=>V (.v (.bool (sN neg (decide (a=b)))))
  | _,_=>False
 | .eqS neg x y=>match ev ρ x,ev ρ y with
  | .v (.slice a _ _),.v (.slice none _ _)=>V (.v (.bool (sN neg a.isNone)))
  | _,_=>False
 | .eqN neg x=>match ev ρ x with
  | .v .nilIface=>V (.v (.bool (sN neg true)))
  | .v (.iface _ _)=>V (.v (.bool (sN neg false)))
  | _=>False
 | .tas t z x=>match ev ρ x with
  | .v .nilIface=>V (.v (.tuple #[z,.bool false]))
  | .v (.iface q u)=>match Nat.beq q t with
   | true=>V (.v (.tuple #[u,.bool true]))
   | false=>V (.v (.tuple #[z,.bool false]))
  | _=>False
 | .eqA neg ks x y=>match ev ρ x,ev ρ y with
  | .v (.agg cs),.v (.agg ds)=>match iU ks cs.toList ds.toList true with
   | some b=>V (.v (.bool (sN neg b)))
   | none=>False
  | _,_=>False
 | .un op x=>match op,ev ρ x with
  | .not,.v (.bool b)=>V (.v (.bool (!b)))
  | .neg,.v (.int k n)=>Fit k (0-n) fun m=>V (.v (.int k m))
  | .xor,.v (.int k n)=>V (.v (.int k (k.wrap (BitVec.ofInt k.bits (if k.signed then -1 else k.max) ^^^ BitVec.ofInt k.bits n).toNat)))
  | _,_=>False
 | .conv k x=>match ev ρ x with
  | .v (.int _ n)=>Fit k n fun m=>V (.v (.int k m))
  | _=>False
 | .mkfn f d e=>V (.v (.func (.func f) (bn L ρ d).toArray (bn L ρ e).toArray))
 | .slc sz x lo hi=>match ev ρ x with
  | .v (.slice a n c)=>match mY ρ 0 lo,mY ρ n hi with
   | some l,some h=>PJ l h c fun l h=>V (.v (rM a c l h sz))
   | _,_=>False
  | _=>False
 | .fieldA off x=>match ev ρ x with
  | .own k o=>V (.own k (o+off))
  | .el a j=>V (.el a (j+off))
  | .v (.pointer (some a))=>V (.el (some a) off)
  | _=>False
 | .idxA sz x i=>match ev ρ x,ev ρ i with
  | .v (.slice a n _),.v (.int _ i)=>I9 a i n (V (.el a (i.toNat*sz)))
  | _,_=>False
 | .extr x i=>match ev ρ x with
  | .v (.tuple w)=>match w.toList[i]? with
   | some v=>V (.v v)
   | none=>False
  | _=>False
 | .len x=>match ev ρ x with
  | .v (.slice _ n _)=>V (.v (.int .i64 n))
  | _=>False
 | .mm mx args=>match args.map (ev ρ) with
  | .v (.int k a)::l=>match PN mx a l with
   | some m=>V (.v (.int k m))
   | none=>False
  | _=>False
 | .loadD agg n x=>match ev ρ x with
  | .own k off=>match L.get k with
   | some (.box _ t cs)=>match jg t ((cs.drop off).take n) n with
    | true=>V (.v (gU agg ((cs.drop off).take n)))
    | false=>False
   | _=>False
  | .el a j=>ja F a j n fun cs=>V (.v (gU agg cs))
  | .v (.pointer (some a))=>ja F (some a) 0 n fun cs=>V (.v (gU agg cs))
  | _=>False
 | .gload g=>SH F g fun v=>V (.v v)
 | .loadF agg n x=>match ev ρ x with
  | .el a j=>ja F a j n fun cs=>V (.v (gU agg cs))
  | .v (.pointer (some a))=>ja F (some a) 0 n fun cs=>V (.v (gU agg cs))
  | _=>False
 | .mkif t x=>match ev ρ x with
  | .v v=>V (.v (.iface t v))
  | .el (some r) j=>V (.v (.iface t (.pointer (some (r.add j)))))
  | _=>False
 | .mlook str ok z x i=>match ev ρ x with
  | .v (.map (some g))=>CI L g fun _ cs=>FJ str cs (val L ρ i) ok z fun v=>V (.v v)
  | _=>False
 | .loadK key agg n x=>match ev ρ x with
  | .own k off=>match Nat.beq k key with
   | true=>match L.get k with
    | some (.box _ t cs)=>match jg t ((cs.drop off).take n) n with
     | true=>V (.v (gU agg ((cs.drop off).take n)))
     | false=>False
    | _=>False
   | false=>False
  | _=>False
 | _=>False
def evalOp (P:Program) (o:dN) (d:Option Nat) (F:au) (L:Loc) (ρ:Env) (K:di):Prop :=
 match o with
 | .mov x=>aH (.mov x) F L ρ fun v=>K F L (put d v ρ)
 | .pick c a b=>aH (.pick c a b) F L ρ fun v=>K F L (put d v ρ)
 | .box t x=>match d with
  | some k=>match L.get k with
   | none=>∀g,K F (L.set k (.box g t (aL (val L ρ x)))) (put d (.own k 0) ρ)
   | some _=>False
  | none=>False
 | .boxF t x=>∀g F',F.le F'->F' g=some (.cells (aL (val L ρ x)).toArray t (0,0))->K F' L (put d (.v (.pointer (some ⟨g,0,none⟩))) ρ)
 | .alloc t zs=>match d with
  | some k=>match L.get k with
   | none=>∀g,K F (L.set k (.box g t zs)) (put d (.own k 0) ρ)
   | some _=>False
  | none=>False
 | .mkF e n sz xs=>match fL L ρ sz xs with
  | true=>∀g F',F.le F'->F' g=some (.cells (cellsOf L ρ xs).toArray e (0,0))->K F' L (put d (.v (.slice (some ⟨g,0,none⟩) n n)) ρ)
  | false=>False
 | .mkR e n sz xs=>match fL L ρ sz xs,d with
  | true,some k=>match L.get k with
   | none=>∀g,K F (L.set k (.row (.slice (some ⟨g,0,none⟩) n n) e sz n (cellsOf L ρ xs))) (put d (.v (.slice (some ⟨g,0,none⟩) n n)) ρ)
   | some _=>False
  | _,_=>False
 | .build zs ps=>aH (.build zs ps) F L ρ fun v=>K F L (put d v ρ)
 | .load agg n x=>aH (.load agg n x) F L ρ fun v=>K F L (put d v ρ)
 | .store n a x=>match gQ (aL (val L ρ x)) n,jT (aL (val L ρ x)),ev ρ a with
  | true,true,.own k off=>match L.get k with
   | some (.box g t cs)=>match jg t ((cs.drop off).take n) n with
    | true=>K F (L.set k (.box g t (bP cs off (aL (val L ρ x))))) (put d (.v undef) ρ)
    | false=>False
   | _=>False
  | true,true,.el q j=>qG L q j (aL (val L ρ x)) fun L'=>K F L' (put d (.v undef) ρ)
  | true,true,.v (.pointer (some q))=>qG L (some q) 0 (aL (val L ρ x)) fun L'=>K F L' (put d (.v undef) ρ)
  | _,_,_=>False
 | .nilck x=>aH (.nilck x) F L ρ fun v=>K F L (put d v ρ)
 | .mkif t x=>aH (.mkif t x) F L ρ fun v=>K F L (put d v ρ)
 | .pan _=>False
 | .dead=>False
 | .bin op x y=>aH (.bin op x y) F L ρ fun v=>K F L (put d v ρ)
 | .eqB neg x y=>aH (.eqB neg x y) F L ρ fun v=>K F L (put d v ρ)
 | .eqS neg x y=>aH (.eqS neg x y) F L ρ fun v=>K F L (put d v ρ)
 | .eqN neg x=>aH (.eqN neg x) F L ρ fun v=>K F L (put d v ρ)
 | .tas t z x=>aH (.tas t z x) F L ρ fun v=>K F L (put d v ρ)
 | .eqA neg ks x y=>aH (.eqA neg ks x y) F L ρ fun v=>K F L (put d v ρ)
 | .un op x=>aH (.un op x) F L ρ fun v=>K F L (put d v ρ)
 | .conv k x=>aH (.conv k x) F L ρ fun v=>K F L (put d v ρ)
 | .mkfn f r p=>aH (.mkfn f r p) F L ρ fun v=>K F L (put d v ρ)
 | .makeS e sz bytes zs l c=>match ev ρ l,ev ρ c,d with
  | .v (.int _ n),.v (.int _ m),some k=>match L.get k with
   | none=>uw n m bytes fun n=>∀g,K F (L.set k (.row (.slice (some ⟨g,0,none⟩) n m.toNat) e sz n (List.replicate n zs).flatten)) (put d (.v (.slice (some ⟨g,0,none⟩) n m.toNat)) ρ)
   | some _=>False
  | _,_,_=>False
 | .slc sz x lo hi=>aH (.slc sz x lo hi) F L ρ fun v=>K F L (put d v ρ)
 | .fieldA off x=>aH (.fieldA off x) F L ρ fun v=>K F L (put d v ρ)
 | .idxA sz x i=>aH (.idxA sz x i) F L ρ fun v=>K F L (put d v ρ)
 | .extr x i=>aH (.extr x i) F L ρ fun v=>K F L (put d v ρ)
 | .call f args=>dO P f (bn L ρ args) F L fun F' L' v=>K F' L' (put d (.v v) ρ)
 | .callV f args=>match rL P (ev ρ f) with
  | some (f,r,p)=>dO P f (r++bn L ρ args++p) F L fun F' L' v=>K F' L' (put d (.v v) ρ)
  | none=>match zW P (ev ρ f) (bn L ρ args) with
   | some (f,args)=>dO P f args F L fun F' L' v=>K F' L' (put d (.v v) ρ)
   | none=>False
 | .gload g=>aH (.gload g) F L ρ fun v=>K F L (put d v ρ)
 | .mkmap=>match d with
  | some k=>match L.get k with
   | none=>∀g,K F (L.set k (.box g 0 [])) (put d (.v (.map (some g))) ρ)
   | some _=>False
  | none=>False
 | .mlook str ok z x i=>aH (.mlook str ok z x i) F L ρ fun v=>K F L (put d v ρ)
 | .mupd str x i v=>match ev ρ x with
  | .v (.map (some g))=>CI L g fun k cs=>QD str cs (val L ρ i) (val L ρ v) fun cs'=>K F (L.set k (.box g 0 cs')) (put d (.v undef) ρ)
  | _=>False
 | .mrange x=>match ev ρ x,d with
  | .v (.map (some g)),some k=>match L.get k with
   | none=>CI L g fun _ cs=>∀w,K F (L.set k (.box w 0 [.tuple #[.map (some g),.int .i64 cs.length]])) (put d (.own k 0) ρ)
   | some _=>False
  | _,_=>False
 | .mnext x=>match ev ρ x with
  | .own k 0=>match L.get k with
   | some (.box w 0 (.tuple ⟨[.map (some g),.int .i64 (.ofNat n)]⟩::h))=>Ja L k w g n h fun L' v=>K F L' (put d (.v v) ρ)
   | _=>False
  | _=>False
 | .mentry x=>match ev ρ x with
  | .own k 0=>match L.get k with
   | some (.box w 0 (.tuple ⟨[.map (some g),.int .i64 (.ofNat n)]⟩::h))=>FK L g n h fun v=>K F L (put d (.v v) ρ)
   | _=>False
  | _=>False
 | .len x=>aH (.len x) F L ρ fun v=>K F L (put d v ρ)
 | .mm mx args=>aH (.mm mx args) F L ρ fun v=>K F L (put d v ρ)
 | .app e sz bytes _ s x=>match ev ρ s,ev ρ x with
  | .v sv,.v u=>FI F L e sz bytes sv u fun L1 v=>K F L1 (put d (.v v) ρ)
  | _,_=>False
 | .appX e sz bytes _ s x=>match ev ρ s,ev ρ x with
  | .v sv,.v u=>FI F L e sz bytes sv u fun L1 v=>Real F L1->K F L1 (put d (.v v) ρ)
  | _,_=>False
 | .appD e sz bytes _ s x=>match ev ρ s,ev ρ x with
  | .v sv,.v u=>pF F L d e sz bytes sv u fun L1 v=>K F L1 (put d (.v v) ρ)
  | _,_=>False
 | .storeD n a x=>match gQ (aL (val L ρ x)) n,jT (aL (val L ρ x)),ev ρ a with
  | true,true,.own k off=>match L.get k with
   | some (.box g t cs)=>match jg t ((cs.drop off).take n) n with
    | true=>K F (L.set k (.box g t (bP cs off (aL (val L ρ x))))) (put d (.v undef) ρ)
    | false=>False
   | _=>False
  | _,_,_=>False
 | .storeK key n a x=>match gQ (aL (val L ρ x)) n,jT (aL (val L ρ x)),ev ρ a with
  | true,true,.own k off=>match Nat.beq k key with
   | true=>match L.get k with
    | some (.box g t cs)=>match jg t ((cs.drop off).take n) n with
     | true=>K F (L.set k (.box g t (bP cs off (aL (val L ρ x))))) (put d (.v undef) ρ)
     | false=>False
    | _=>False
   | false=>False
  | _,_,_=>False
 | .loadD agg n x=>aH (.loadD agg n x) F L ρ fun v=>K F L (put d v ρ)
 | .loadF agg n x=>aH (.loadF agg n x) F L ρ fun v=>K F L (put d v ρ)
 | .loadR agg n x=>aH (.loadR agg n x) F L ρ fun v=>K F L (put d v ρ)
 | .loadK key agg n x=>aH (.loadK key agg n x) F L ρ fun v=>K F L (put d v ρ)
 | .makeSD e sz n zs=>match d with
  | some k=>match L.get k,gQ zs sz,Nat.ble n 9223372036854775807 with
   | none,true,true=>∀g,Real F (L.set k (.row (.slice (some ⟨g,0,none⟩) n n) e sz n (List.replicate n zs).flatten))->K F (L.set k (.row (.slice (some ⟨g,0,none⟩) n n) e sz n (List.replicate n zs).flatten)) (put d (.v (.slice (some ⟨g,0,none⟩) n n)) ρ)
   | _,_,_=>False
  | none=>False
 | .makeSV e sz b zs x=>match d with
  | some k=>match L.get k,gQ zs sz,sO b (val L ρ x) with
   | none,true,true=>∀g,Real F (L.set k (.row (.slice (some ⟨g,0,none⟩) (lN (val L ρ x)) (lN (val L ρ x))) e sz (lN (val L ρ x)) (List.replicate (lN (val L ρ x)) zs).flatten))->K F (L.set k (.row (.slice (some ⟨g,0,none⟩) (lN (val L ρ x)) (lN (val L ρ x))) e sz (lN (val L ρ x)) (List.replicate (lN (val L ρ x)) zs).flatten)) (put d (.v (.slice (some ⟨g,0,none⟩) (lN (val L ρ x)) (lN (val L ρ x)))) ρ)
   | _,_,_=>False
  | none=>False
 | .storeX n a x=>match gQ (aL (val L ρ x)) n,jT (aL (val L ρ x)),ev ρ a with
  | true,true,.own k off=>match L.get k with
   | some (.box g t cs)=>match jg t ((cs.drop off).take n) n with
    | true=>Real F (L.set k (.box g t (bP cs off (aL (val L ρ x)))))->K F (L.set k (.box g t (bP cs off (aL (val L ρ x))))) (put d (.v undef) ρ)
    | false=>False
   | _=>False
  | true,true,.el q j=>qG L q j (aL (val L ρ x)) fun L'=>Real F L'->K F L' (put d (.v undef) ρ)
  | true,true,.v (.pointer (some q))=>qG L (some q) 0 (aL (val L ρ x)) fun L'=>Real F L'->K F L' (put d (.v undef) ρ)
  | _,_,_=>False
 | .boxD t x=>match d with
  | some k=>match L.get k with
   | none=>∀g,Real F (L.set k (.box g t (aL (val L ρ x))))->K F (L.set k (.box g t (aL (val L ρ x)))) (put d (.own k 0) ρ)
   | some _=>False
  | none=>False
 | .allocD t zs=>match d with
  | some k=>match L.get k with
   | none=>∀g,Real F (L.set k (.box g t zs))->K F (L.set k (.box g t zs)) (put d (.own k 0) ρ)
   | some _=>False
  | none=>False
 | .mkFD e n sz xs=>match fL L ρ sz xs with
  | true=>∀g F',F.le F'->F' g=some (.cells (cellsOf L ρ xs).toArray e (0,0))->Real F' L->K F' L (put d (.v (.slice (some ⟨g,0,none⟩) n n)) ρ)
  | false=>False
 | .callD f args=>dI P f (bn L ρ args) F L d fun F' L' v=>K F' L' (put d (.v v) ρ)
 | .callVD f args=>match rL P (ev ρ f) with
  | some (f,r,p)=>dI P f (r++bn L ρ args++p) F L d fun F' L' v=>K F' L' (put d (.v v) ρ)
  | none=>False
 | .callO f args=>dO P f (bn L ρ args) F L fun F' L' v=>Real F' L'->K F' L' (put d (.v v) ρ)
 | .callVO f args=>match rL P (ev ρ f) with
  | some (f,r,p)=>dO P f (r++bn L ρ args++p) F L fun F' L' v=>Real F' L'->K F' L' (put d (.v v) ρ)
  | none=>False
def QE (F:au) (v:Value) (sz n:Nat) (xs:List Value):Prop :=
 (v=.slice none 0 0/\n=0/\xs=[])\/∃a c,v=.slice (some a) n c/\dG F (some a) 0 xs/\n<=c
structure PO (F:au) (L:Loc) (k:Nat) (K:au->Loc->Prop):Prop where
 out:∃v t sz n xs,L.get k=some (.row v t sz n xs)/\∀F',F.le F'->QE F' v sz n xs->K F' (L.del k)
inductive ai where
 | op (dst:Option Nat) (o:dN) (guard:Option (Nat×Bool))
 | frz (k:Nat)
 | pc (dst:Option Nat) (o:dN) (guard:Option (Nat×Bool))
 deriving Inhabited
def wL (k g:Nat) (ρ:Env):Env:=fun j=>match ρ j with
 | .own b off=>match Nat.beq b k with | true=>.v (.pointer (some ⟨g,off,none⟩)) | false=>.own b off
 | .v x=>.v x
 | .el a i=>.el a i
def aQ (P:Program):List ai->au->Loc->Env->di->Prop
 | [],F,L,ρ,K=>K F L ρ
 | .op d o none::a,F,L,ρ,K=>evalOp P o d F L ρ fun F' L' ρ'=>aQ P a F' L' ρ' K
 | .op d o (some (s,c))::a,F,L,ρ,K=>match ρ s with
  | .v (.bool b)=>zq b
    (match c with
     | true=>evalOp P o d F L (put (some s) (.v (.bool true)) ρ) fun F' L' ρ'=>aQ P a F' L' ρ' K
     | false=>aQ P a F L (put d (.v undef) (put (some s) (.v (.bool true)) ρ)) K)
    (match c with
     | false=>evalOp P o d F L (put (some s) (.v (.bool false)) ρ) fun F' L' ρ'=>aQ P a F' L' ρ' K
     | true=>aQ P a F L (put d (.v undef) (put (some s) (.v (.bool false)) ρ)) K)
  | .v (.tuple _)=>aQ P a F L (put d (.v undef) ρ) K
  | _=>False
 | .frz k::a,F,L,ρ,K=>match L.get k with
  | some (.box g t cs)=>∀F',F.le F'->F' g=some (mS t cs)->aQ P a F' (L.del k) (wL k g ρ) K
  | _=>PO F L k fun F' L'=>aQ P a F' L' ρ K
 | .pc _ _ _::_,_,_,_,_=>False
inductive ay where
 | skip
 | reg (ops:List ai)
 | regD (ops:List ai)
 | regX (ops:List ai)
 | seq (a b:ay)
 | cond (c:X) (a b:ay)
 | block (id:Nat) (c:ay)
 | loop (asg:List Nat) (c:ay)
 | exit (id:Nat)
 | ret
 deriving Inhabited
def eZ:List Nat->Nat->Bool
 | [],_=>false
 | j::l,k=>match Nat.beq j k with | true=>true | false=>eZ l k
def Loc.keeps:Loc->Loc->Prop
 | [],_=>True
 | (k,.box g t _)::l,L'=>(∃cs,L'.get k=some (.box g t cs))/\Loc.keeps l L'
 | (_,.row ..)::l,L'=>Loc.keeps l L'
structure Jc (F:au) (L:Loc) (v:Value) (R:au->List Own->Value->Prop):Prop where
 out:∃ko Lo,L.sub ko=some Lo/\ko.Nodup/\R F Lo v
abbrev RV:=Nat×Option (Bool×Nat)
def mZ (L:Loc) (ρ:Env):List RV->(List Value->Prop)->Prop
 | [],K=>K []
 | (t,none)::l,K=>mZ L ρ l fun a=>K (conc L (ρ t)::a)
 | (t,some (agg,n))::l,K=>match ρ t with
  | .own k off=>match L.get k with
   | some (.box _ ty cs)=>match jg ty ((cs.drop off).take n) n with
    | true=>mZ L ρ l fun a=>K (gU agg ((cs.drop off).take n)::a)
    | false=>False
   | _=>False
  | _=>False
def fM:List Value->Value
 | [v]=>v
 | l=>.tuple l.toArray
def CK:Nat->List SV->Env
 | _,[]=>fun _=>.v undef
 | k,v::l=>put (some k) v (CK (k+1) l)
def Loc.gives (L:Loc):Loc->Prop
 | []=>True
 | (k,o)::l=>(L.get k=some o\/(L.get k=none/\∃t sz,o=.row (.slice none 0 0) t sz 0 []))/\Loc.gives L l
def pH (asg:List Nat) (a:Nat->Value) (ρ:Env):Env:=fun j=>match eZ asg j with | true=>.v (a j) | false=>ρ j
def puts:List Nat->List SV->Env->Env
 | k::ks,v::a,ρ=>put (some k) v (puts ks a ρ)
 | _,_,ρ=>ρ
def holds:List Nat->List SV->Env->Prop
 | k::ks,v::a,ρ=>ρ k=v/\holds ks a ρ
 | _,_,_=>True
structure Jd (body:au->Loc->Env->di->Prop) (asg:List Nat) (F:au) (L:Loc) (ρ:Env):Prop where
 out:∃(σ:Type) (x0:σ) (Inv:σ->au->Prop) (ls:List Nat) (lv:σ->List Value) (Lf:σ->Loc) (μ:σ->Nat),
  Inv x0 F/\holds ls ((lv x0).map .v) ρ/\L.gives (Lf x0)/\(∀x,L.keeps (Lf x)) /\
  ∀x F' jk,F.le F'->Inv x F'->body F' (Lf x) (puts ls ((lv x).map .v) (pH asg jk ρ)) fun F'' L'' ρ'' =>
   ∃x',Inv x' F''/\holds ls ((lv x').map .v) ρ''/\L''.gives (Lf x')/\μ x'<μ x
def jo (P:Program):ay->(Nat->di)->di->di->di
 | .skip,_,_,N,F,L,ρ=>N F L ρ
 | .reg d,_,_,N,F,L,ρ=>aQ P d F L ρ N
 | .regD d,_,_,N,F,L,ρ=>aQ P d F L ρ N
 | .regX _,_,_,_,_,_,_=>False
 | .seq a b,E,R,N,F,L,ρ=>jo P a E R (fun F L ρ=>jo P b E R N F L ρ) F L ρ
 | .cond c a b,E,R,N,F,L,ρ=>match ev ρ c with
  | .v (.bool t)=>zq t (jo P a E R N F L ρ) (jo P b E R N F L ρ)
  | _=>False
 | .block id c,E,R,N,F,L,ρ=>jo P c (fun j=>match Nat.beq j id with | true=>N | false=>E j) R N F L ρ
 | .loop asg c,E,R,_,F,L,ρ=>Jd (fun F L ρ K=>jo P c E R K F L ρ) asg F L ρ
 | .exit id,E,_,_,F,L,ρ=>E id F L ρ
 | .ret,_,R,_,F,L,ρ=>R F L ρ
theorem f9 {a b:Nat}(h:Nat.beq a b=false):a≠b:=by intro e;subst e;simp at h
theorem Loc.aac (L:Loc) (k:Nat) (o:Own) (j:Nat):(L.set k o).get j=if j=k then some o else L.get j:=by
 induction L with
 | nil =>
  simp only[Loc.set,Loc.get];cases h:Nat.beq k j with
  | true=>have:=aaR h;simp[this]
  | false=>have:=f9 h;simp;omega
 | cons p l c =>
  obtain⟨i,q⟩:=p;simp only[Loc.set];cases h:Nat.beq i k with
  | true =>
   have e:=aaR h;subst e;simp only[Loc.get];cases a:Nat.beq i j with
   | true=>have:=aaR a;simp[this]
   | false=>have:=f9 a;simp;omega
  | false =>
   have b:=f9 h;simp only[];cases d:Nat.ble i k with
   | true =>
    simp only[Loc.get];cases a:Nat.beq i j with
    | true=>have:=aaR a;simp;omega
    | false=>simpa using c
   | false =>
    simp only[Loc.get];cases a:Nat.beq k j with
    | true=>have:=aaR a;simp[this]
    | false =>
     have:=f9 a;simp only[];rw[q9 (by omega)]
theorem Loc.aaf (L:Loc) (k j:Nat):(L.del k).get j=if j=k then none else L.get j:=by
 induction L with
 | nil=>simp[Loc.del,Loc.get]
 | cons p l c =>
  obtain⟨i,q⟩:=p;simp only[Loc.del];cases h:Nat.beq i k with
  | true =>
   have e:=aaR h;subst e;simp only[Loc.get,c]
   by_cases a:j=i
   ·simp[a]
   ·have:Nat.beq i j=false:=by cases b:Nat.beq i j with | true=>exact vv (aaR b).symm a | false=>rfl
    simp[a,this]
  | false =>
   have d:=f9 h;simp only[Loc.get];cases b:Nat.beq i j with
   | true=>have:=aaR b;simp;omega
   | false=>simpa using c
def Loc.part (L L':Loc):Prop:=∀k o,L'.get k=some o->L.get k=some o
theorem St.part {F:au}{L L':Loc}{w:World}(h:St F L w) (a:L.part L'):St F L' w :=
 ⟨h.frz,fun k o e=>h.own k o (a k o e),fun k o g e=>h.off k o g (a k o e),fun k b o o' g e c=>h.sep k b o o' g (a k o e) (a b o' c),h.glob⟩
theorem Own.aaq {w:World}{o:Own}(h:o.ok w) {g:Nat}(a:o.blk=some g):g<w.heap.size:=by
 cases o with
 | box b t cs =>
  simp only[Own.blk,aaO] at a;subst a;exact(Array.getElem?_eq_some_iff.1 h).1
 | row v t sz n xs=>exact(World.ownsRow.lt h g a).2
theorem Own.aau {w w':World}{o:Own}(h:o.ok w) (c:∀g,o.blk=some g->w'.heap[g]?=w.heap[g]?):o.ok w':=by
 cases o with
 | box g t cs=>exact(c g rfl).trans h
 | row v t sz n xs =>
  obtain⟨h1,a⟩:=h;refine⟨h1,?_⟩;rcases a with a | ⟨g,cap,b,rfl,hb,d,r⟩
  ·exact .inl a
  ·exact .inr ⟨g,cap,b,rfl,hb,(c g rfl).trans d,r⟩
theorem St.aax {F:au}{L:Loc}{w:World}(h:St F L w) {b:Nat}(hb:F b≠none):b<w.heap.size:=by
 cases e:F b with
 | none=>exact vv e hb
 | some o=>exact(Array.getElem?_eq_some_iff.1 (h.frz b o e)).1
theorem St.aaA {F:au}{L:Loc}{w:World}(h:St F L w) {b:Nat}(hb:L.owns b):b<w.heap.size:=by
 obtain⟨k,o,e,a⟩:=hb;exact Own.aaq (h.own k o e) a
theorem St.keep {F:au}{L:Loc}{w w':World}(h:St F L w) (a:∀b,b<w.heap.size->w'.heap[b]?=w.heap[b]?):St F L w':=by
 refine⟨fun b o e=>?_,fun k o e=>?_,h.off,h.sep,h.glob⟩
 ·have:=h.frz b o e;rw[a b (Array.getElem?_eq_some_iff.1 this).1];exact this
 ·exact Own.aau (h.own k o e) fun g c=>a g (Own.aaq (h.own k o e) c)
theorem St.drew {F:au}{L:Loc}{w:World}(h:St F L w):St F L w.drew:=h.keep fun _ _=>rfl
theorem St.put {F:au}{L:Loc}{w:World}(h:St F L w) {k:Nat}{o:Own}(v:L.get k=none) (t:o.ok w)
  (hf:∀g,o.blk=some g->F g=none/\¬L.owns g):St F (L.set k o) w:=by
 have a:∀j p,(L.set k o).get j=some p->(j=k/\p=o)\/(j≠k/\L.get j=some p):=by
  intro j p e;rw[Loc.aac] at e;split at e
  ·rename_i d;exact .inl ⟨d,by injection e with e;exact e.symm⟩
  ·rename_i d;exact .inr ⟨d,e⟩
 refine⟨h.frz,fun j p e=>?_,fun j p g e c=>?_,fun j l p n g e s c b=>?_,h.glob⟩
 ·rcases a j p e with⟨_,rfl⟩ | ⟨_,e⟩
  ·exact t
  ·exact h.own j p e
 ·rcases a j p e with⟨_,rfl⟩ | ⟨_,e⟩
  ·exact(hf g c).1
  ·exact h.off j p g e c
 ·rcases a j p e with⟨d,u⟩ | ⟨_,r⟩<;>rcases a l n s with⟨m,f⟩ | ⟨_,q⟩
  ·exact d.trans m.symm
  ·subst u;exact vv ⟨l,n,q,b⟩ (hf g c).2
  ·subst f;exact vv ⟨j,p,r,c⟩ (hf g b).2
  ·exact h.sep j l p n g r q c b
theorem St.turn {F:au}{L:Loc}{w w':World}(h:St F L w) {k:Nat}{o o':Own}(n:L.get k=some o) (ho:o'.ok w')
  (v:∀b,b<w.heap.size->o.blk≠some b->w'.heap[b]?=w.heap[b]?) (hb:∀g,o'.blk=some g->o.blk=some g\/w.heap.size<=g):St F (L.set k o') w':=by
 have c:∀j p,(L.set k o').get j=some p->(j=k/\p=o')\/(j≠k/\L.get j=some p):=by
  intro j p e;rw[Loc.aac] at e;split at e
  ·rename_i f;exact .inl ⟨f,by injection e with e;exact e.symm⟩
  ·rename_i f;exact .inr ⟨f,e⟩
 refine⟨fun b p e=>?_,fun j p e=>?_,fun j p g e d=>?_,fun j q p r g e z d l=>?_,h.glob⟩
 ·have:=h.frz b p e;rw[v b (Array.getElem?_eq_some_iff.1 this).1 (fun hb=>by have:=h.off k o b n hb;rw[this] at e;cases e)];exact this
 ·rcases c j p e with⟨_,rfl⟩ | ⟨f,e⟩
  ·exact ho
  ·exact Own.aau (h.own j p e) fun g d=>v g (Own.aaq (h.own j p e) d) fun a=>f (h.sep j k p o g e n d a)
 ·rcases c j p e with⟨_,rfl⟩ | ⟨_,e⟩
  ·rcases hb g d with a | x
   ·exact h.off k o g n a
   ·cases y:F g with
    | none=>rfl
    | some _=>have:=h.aax (b:=g) (by rw[y];simp);omega
  ·exact h.off j p g e d
 ·rcases c j p e with⟨f,hp⟩ | ⟨f,u⟩<;>rcases c q r z with⟨m,s⟩ | ⟨m,t⟩
  ·exact f.trans m.symm
  ·subst hp;rcases hb g d with a | x
   ·exact vv (h.sep q k r o g t n l a) m
   ·have:=Own.aaq (h.own q r t) l;omega
  ·subst s;rcases hb g l with a | x
   ·exact vv (h.sep j k p o g u n d a) f
   ·have:=Own.aaq (h.own j p u) d;omega
  ·exact h.sep j q p r g u t d l
theorem St.freeze {F:au}{L:Loc}{w:World}(h:St F L w) {g:Nat}{o:Obj}(c:w.heap[g]?=some o) (d:¬L.owns g) :
  St (fun b=>if b=g then some o else F b) L w:=by
 refine⟨fun b p e=>?_,h.own,fun k p b e hb=>?_,h.sep,sK.mono ?_ h.glob⟩
 ·split at e
  ·rename_i a;subst a;injection e with e;subst e;exact c
  ·exact h.frz b p e
 ·split
  ·rename_i a;subst a;exact vv ⟨k,p,e,hb⟩ d
  ·exact h.off k p b e hb
 ·intro b p e;simp only[];split
  ·rename_i a;subst a;rw[<-h.frz b p e,c]
  ·exact e
theorem au.aav {F:au}{w:World}{L:Loc}(h:St F L w) {g:Nat}{o:Obj}(c:w.heap[g]?=some o):F.le (fun b=>if b=g then some o else F b):=by
 intro b p e;simp only[];split
 ·rename_i a;subst a;rw[<-h.frz b p e,c]
 ·exact e
theorem Step.refl (F:au) (L:Loc) (w:World):Step F L w F L w :=
 ⟨au.le_refl F,rfl,rfl,rfl,aa3 _,fun _ _ _=>rfl,fun _ h=>.inl h,fun _ h=>.inl h⟩
theorem Step.trans {F F' F'':au}{L L' L'':Loc}{w w' a:World}(h:Step F L w F' L' w') (k:Step F' L' w' F'' L'' a):Step F L w F'' L'' a:=by
 refine⟨au.le_trans h.le k.le,k.os.trans h.os,k.tape.trans h.tape,k.output.trans h.output,abx h.size k.size,fun b hb d=>?_,fun b hb=>?_,fun b hb=>?_⟩
 ·rw[k.same b (Nat.lt_of_lt_of_le hb h.size) (fun c=>by rcases h.own b c with c | c;exact d c;omega)];exact h.same b hb d
 ·rcases k.frz b hb with h1 | h1 | h1
  ·exact h.frz b h1
  ·exact .inr (h.own b h1)
  ·exact .inr (.inr (abx h.size h1))
 ·rcases k.own b hb with h1 | h1
  ·exact h.own b h1
  ·exact .inr (abx h.size h1)
theorem Step.mk' {F F':au}{L L':Loc}{w w':World}(le:F.le F') (a:w.grownBy w' none) (frz:∀b,F' b≠none->F b≠none\/L.owns b\/w.heap.size<=b)
  (own:∀b,L'.owns b->L.owns b\/w.heap.size<=b):Step F L w F' L' w' :=
 ⟨le,a.os,a.tape,a.output,a.size,fun b hb _=>a.block b hb (by simp),frz,own⟩
theorem Loc.aan {L:Loc}{k:Nat}{o:Own}{b:Nat}(h:(L.set k o).owns b):o.blk=some b\/L.owns b:=by
 obtain⟨j,p,e,hb⟩:=h;rw[Loc.aac] at e;split at e
 ·injection e with e;subst e;exact .inl hb
 ·exact .inr ⟨j,p,e,hb⟩
theorem Loc.aaw {L:Loc}{k b:Nat}(h:(L.del k).owns b):L.owns b:=by
 obtain⟨j,p,e,hb⟩:=h;rw[Loc.aaf] at e;split at e
 ·cases e
 ·exact⟨j,p,e,hb⟩
theorem Loc.aaz (L:Loc) (k:Nat):L.part (L.del k):=by
 intro j o e;rw[Loc.aaf] at e;split at e
 ·cases e
 ·exact e
theorem dG.mono {F G:au}(h:F.le G) {a:Option Addr}{j:Nat}{cs:List Value}(c:dG F a j cs):dG G a j cs:=by
 obtain⟨k,b,t,l,e,d,f,m⟩:=c;exact⟨k,b,t,l,e,h _ _ d,f,m⟩
theorem cT {b o n:Nat}:(⟨b,o,none⟩:Addr).add n=⟨b,o+n,none⟩:=by
 unfold Addr.add;split<;>simp_all
theorem dG.cell {F:au}{L:Loc}{w:World}(h:St F L w) {a:Option Addr}{j:Nat}{cs:List Value}(c:dG F a j cs) :
  ∃d,a=some d/\d.spot=none/\∀i v,cs[i]?=some v->w.cell? (d.add (j+i))=some v:=by
 obtain⟨d,l,t,q,e,k,f,m⟩:=c;refine⟨d,e,f,fun i v n=>?_⟩;obtain⟨b,o,p⟩:=d;simp only at f;subst f;rw[cT];have:=h.frz b _ k;simp only[World.cell?,this];simpa[Nat.add_assoc] using m i v n
def bI:Operand->Option X
 | .tmp t=>some (.t t)
 | .const v=>some (.c v)
 | .func f=>some (.fn f)
 | .global _=>none
def ga:List Operand->Option (List X)
 | []=>some []
 | o::l=>match bI o,ga l with
  | some x,some xs=>some (x::xs)
  | _,_=>none
def sP:Option Operand->Option (Option X)
 | none=>some none
 | some o=>match bI o with | some x=>some (some x) | none=>none
def eM:TypeDesc->Bool
 | .struct _ | .array _ _=>true
 | _=>false
def Sy (i:TypeInfo):Option (List Value):=match i.zero with | some z=>some z.cells.toList | none=>none
def m9 (P:Program) (b:Array Field):List (Nat×Operand)->Option (List (Nat×Nat×X))
 | []=>some []
 | (i,o)::l=>match b[i]?,bI o,m9 P b l with
  | some f,some x,some ps=>match P.info? f.type with
   | some j=>some ((f.offset,j.size,x)::ps)
   | none=>none
  | _,_,_=>none
def zX:Operand->Option dN
 | .global g=>match v9 g with | some _=>some (.gload g) | none=>none
 | _=>none
def n9 (P:Program):List Field->Nat->Option (List Bool)
 | [],_=>some []
 | f::fs,k=>match Nat.beq f.offset k,decide (f.name="_"),P.underlying f.type with
  | true,false,some (.int _)=>match n9 P fs (k+1) with | some ks=>some (true::ks) | none=>none
  | true,false,some .bool=>match n9 P fs (k+1) with | some ks=>some (false::ks) | none=>none
  | _,_,_=>none
def wM:X->Bool
 | .c .nilIface=>true
 | _=>false
def gV (P:Program) (own:Bool) (o:Op):Option dN :=
 match o with
 | .move x | .assign x=>match bI x with | some x=>some (.mov x) | none=>none
 | .pick c a b=>match bI c,bI a,bI b with | some c,some a,some b=>some (.pick c a b) | _,_,_=>none
 | .box t x=>match bI x,decide (t=0) with | some x,false=>some (match own with | true=>.boxF t x | false=>.box t x) | _,_=>none
 | .alloc t=>match P.info? t,decide (t=0) with
  | some i,false=>match Sy i with | some z=>some (.alloc t z) | none=>none
  | _,_=>none
 | .buildSlice t n ps=>match P.underlying t,ga (ps.toList.map (·.2)) with
  | some (.slice e),some xs=>match P.info? e with
   | some i=>match decide (ps.toList.map (·.1)=List.range n),decide (n*i.size<=2 ^ 24/\n<=2 ^ 24),i.zero with
    | true,true,some _=>some (match own with | true=>.mkR e n i.size xs | false=>.mkF e n i.size xs)
    | _,_,_=>none
   | none=>none
  | _,_=>none
 | .build t ps=>match P.underlying t,P.info? t with
  | some (.struct fs),some i=>match Sy i,m9 P fs ps.toList with
   | some z,some l=>match fs.toList.all (fun f=>(P.info? f.type).isSome),l.all (fun p=>Nat.ble (p.1+p.2.1) z.length) with
    | true,true=>some (.build z l)
    | _,_=>none
   | _,_=>none
  | _,_=>none
 | .lookup t x i ok=>match Mj with
  | true=>none
  | false=>match P.underlying t,bI x,bI i with
   | some (.map key e),some x,some i=>match P.underlying key,P.info? e with
    | some (.int .i64),some j=>match j.zero with
     | some z=>some (.mlook false ok z x i)
     | none=>none
    | some .string,some j=>match j.zero with
     | some z=>some (.mlook true ok z x i)
     | none=>none
    | _,_=>none
   | _,_,_=>none
 | .makeMap _ none=>some .mkmap
 | .mapUpdate t x i v | .insert t x i v=>match P.underlying t,bI x,bI i,bI v with
  | some (.map key _),some x,some i,some v=>match P.underlying key with
   | some (.int .i64)=>some (.mupd false x i v)
   | some .string=>some (.mupd true x i v)
   | _=>none
  | _,_,_,_=>none
 | .range t x=>match P.underlying t,bI x with
  | some (.map _ _),some x=>some (.mrange x)
  | _,_=>none
 | .next x false=>match bI x with | some x=>some (.mnext x) | none=>none
 | .entry x=>match bI x with | some x=>some (.mentry x) | none=>none
 | .load t a=>match P.underlying t,P.info? t,bI a with
  | some d,some i,some x=>some (match eM d with | true=>.load true i.size x | false=>.load false 1 x)
  | some (.map _ _),some _,none=>zX a
  | some (.interface _),some _,none=>match zX a with | some s=>some s | none=>some .dead
  | some _,some _,none=>some .dead
  | _,_,_=>none
 | .store t a x=>match P.info? t,bI a,bI x with
  | some i,some a,some x=>match decide (i.size=0) with | true=>none | false=>some (.store i.size a x)
  | _,_,_=>none
 | .nilCheck x=>match bI x,PI P with | some x,true=>some (.nilck x) | _,_=>none
 | .binOp op t x y _=>match P.underlying t,bI x,bI y with
  | some d,some x,some y=>match d,op with
   | .bool,.eql=>some (.eqB false x y)
   | .bool,.neq=>some (.eqB true x y)
   | .slice _,.eql=>some (.eqS false x y)
   | .slice _,.neq=>some (.eqS true x y)
   | .interface _,.eql=>match wM y with | true=>some (.eqN false x) | false=>none
   | .interface _,.neq=>match wM y with | true=>some (.eqN true x) | false=>none
   | .struct fs,.eql=>match n9 P fs.toList 0,P.stoodInHeld t,P.eqGuardType P.depth t with | some ks,false,false=>some (.eqA false ks x y) | _,_,_=>none
   | .struct fs,.neq=>match n9 P fs.toList 0,P.stoodInHeld t,P.eqGuardType P.depth t with | some ks,false,false=>some (.eqA true ks x y) | _,_,_=>none
   | .int _,_ | .string,_=>some (.bin op x y)
   | _,_=>none
  | _,_,_=>none
 | .unOp op _ x=>match bI x with | some x=>some (.un op x) | none=>none
 | .convert s t x=>match P.underlying s,P.underlying t,bI x with
  | some (.int _),some (.int k),some x=>some (.conv k x)
  | _,_,_=>none
 | .makeFunc (.func f) fi ca=>match ga fi.toList,ga ca.toList with
  | some fi,some ca=>some (.mkfn f fi ca)
  | _,_=>none
 | .makeFunc (.methodOf t nm) fi ca=>match fi.toList,ca.toList with
  | [],[]=>some (.mov (.c (.func (.methodOf t nm) #[] #[])))
  | _,_=>none
 | .makeSlice t l c=>match P.underlying t,bI l,bI c with
  | some (.slice e),some l,some c=>match P.info? e with
   | some i=>match i.zero with
    | some z=>match decide (z.cells.size=i.size),decide (0<i.size) with
     | true,true=>some (.makeS e i.size i.bytes z.cells.toList l c)
     | _,_=>none
    | none=>none
   | none=>none
  | _,_,_=>none
 | .slice t x lo hi none=>match P.underlying t,bI x,sP lo,sP hi with
  | some (.slice e),some x,some lo,some hi=>match P.info? e with
   | some i=>some (.slc i.size x lo hi)
   | none=>none
  | _,_,_,_=>none
 | .fieldAddr t x f=>match P.underlying t,bI x with
  | some (.struct fs),some x=>match fs[f]? with
   | some f=>match P.info? f.type with
    | some i=>match decide (i.size=0) with | true=>none | false=>some (.fieldA f.offset x)
    | none=>none
   | none=>none
  | _,_=>none
 | .indexAddr t x i=>match P.underlying t,bI x,bI i with
  | some (.slice e),some x,some i=>match P.info? e with
   | some j=>some (.idxA j.size x i)
   | none=>none
  | _,_,_=>none
 | .makeInterface t x=>match P.underlying t,bI x with
  | some (.interface _),_=>none
  | some _,some x=>some (.mkif t x)
  | _,_=>none
 | .typeAssert x _ t true=>match P.underlying t,P.info? t,bI x with
  | some (.interface _),_,_=>none
  | some _,some i,some x=>match i.zero with | some z=>some (.tas t z x) | none=>none
  | _,_,_=>none
 | .panic x=>match bI x with | some x=>some (.pan x) | none=>none
 | .extract x i=>match bI x with | some x=>some (.extr x i) | none=>none
 | .call c=>match ga c.args.toList with
  | none=>none
  | some args=>match c.callee with
   | .value (.func f)=>match P.funcs[f]? with
    | some fn=>match fn.name == "runtime.NumGoroutine",fn.body.isSome with
     | false,true=>some (.call f args)
     | _,_=>none
    | none=>none
   | .value f=>match bI f with | some x=>some (.callV x args) | none=>none
   | .invoke (.tmp n) nm=>some (.callV (.mt nm n) args)
   | .invoke _ _=>none
   | .builtin b=>match b,args,c.argTypes.toList with
    | .len,[x],[t]=>match P.underlying t with
     | some (.slice _)=>some (.len x)
     | _=>none
    | .max,args,_=>some (.mm true args)
    | .min,args,_=>some (.mm false args)
    | .append,[s,x],[t,t']=>match P.underlying t,P.underlying t' with
     | some (.slice e),some (.slice _)=>match P.info? e with
      | some i=>match i.zero with
       | some z=>match decide (t=t'),decide (z.cells.size=i.size),decide (0<i.size) with
        | true,true,true=>some (.app e i.size i.bytes z.cells.toList s x)
        | _,_,_=>none
       | none=>none
      | none=>none
     | _,_=>none
    | _,_,_=>none
 | _=>none
structure aA (L:Loc) (ρ:Env) (a:Act):Prop where
 eq:∀t,a.tmps.getD t undef=conc L (ρ t)
 own:∀t k off,ρ t=.own k off->∃g ty cs,L.get k=some (.box g ty cs)
 el:∀t ad j,ρ t=.el ad j->ad≠none
theorem aD {y:Operand}{x:X}(h:bI y=some x) {L:Loc}{ρ:Env}{a:Act}(he:aA L ρ a):a.eval y=val L ρ x:=by
 cases y<;>simp only[bI,aaO,reduceCtorEq] at h<;>subst h
 ·exact he.eq _
 ·rfl
 ·rfl
theorem pI {y:Operand}{x:X}(h:bI y=some x) {L:Loc}{ρ:Env}{a:Act}(he:aA L ρ a) {k off:Nat}(e:ev ρ x=.own k off):∃g ty cs,L.get k=some (.box g ty cs):=by
 cases y<;>simp only[bI,aaO,reduceCtorEq] at h<;>subst h
 ·exact he.own _ _ _ e
 ·cases e
 ·cases e
theorem qH {y:Operand}{x:X}(h:bI y=some x) {L:Loc}{ρ:Env}{a:Act}(he:aA L ρ a) {b:Option Addr}{j:Nat}(e:ev ρ x=.el b j):b≠none:=by
 cases y<;>simp only[bI,aaO,reduceCtorEq] at h<;>subst h
 ·exact he.el _ _ _ e
 ·cases e
 ·cases e
theorem gh:∀{b:List Operand}{xs:List X},ga b=some xs->∀{L:Loc}{ρ:Env}{a:Act},aA L ρ a->b.map a.eval=bn L ρ xs:=by
 intro b
 induction b with
 | nil=>intro xs h L ρ a he;simp only[ga,aaO] at h;subst h;rfl
 | cons y b e =>
  intro xs h L ρ a he;simp only[ga] at h;split at h
  ·rename_i x d h1 c;injection h with h
   subst h;simp only[aa0,bn,aD h1 he,e c he]
  ·cases h
def bD (F:au) (L:Loc) (w:World) (a:Act) (K:di) (a':Act) (w':World):Prop :=
 ∃F' L' ρ',St F' L' w'/\aA L' ρ' a'/\a'.tmps.size=a.tmps.size/\a'.defers=a.defers/\Step F L w F' L' w'/\K F' L' ρ'
theorem Je (a:Act) (d:Option Nat) (v:Value) (b:∀k,d=some k->k<a.tmps.size) (t:Nat) :
  (a.put d v).tmps.getD t undef=match d with | some k=>if t=k then v else a.tmps.getD t undef | none=>a.tmps.getD t undef:=by
 cases d with
 | none=>rfl
 | some k =>
  have:=b k rfl;simp only[Act.put,aa8,Array.getElem?_setIfInBounds]
  by_cases h:t=k
  ·subst h;simp[this]
  ·rw[q9 (by omega),q9 h]
theorem put_eq (d:Option Nat) (x:SV) (ρ:Env) (t:Nat):put d x ρ t=match d with | some k=>if t=k then x else ρ t | none=>ρ t:=by
 cases d with
 | none=>rfl
 | some k =>
  simp only[put];cases h:Nat.beq t k with
  | true=>have:=aaR h;simp[this]
  | false=>have:=f9 h;simp[this]
theorem aA.put {L L':Loc}{ρ:Env}{a:Act}(he:aA L ρ a) {d:Option Nat}{v:Value}{x:SV}(s:∀k,d=some k->k<a.tmps.size)
  (r:conc L' x=v) (n:∀k off,x=.own k off->∃g ty cs,L'.get k=some (.box g ty cs)) (q:∀f j,x=.el f j->f≠none)
  (m:∀k g ty cs,L.get k=some (.box g ty cs)->∃cs',L'.get k=some (.box g ty cs')):aA L' (put d x ρ) (a.put d v):=by
 have h:∀t,a.tmps.getD t undef=conc L' (ρ t):=by
  intro t;rw[he.eq t];cases e:ρ t with
  | v x=>rfl
  | el a j=>rfl
  | own k off =>
   obtain⟨g,ty,cs,l⟩:=he.own t k off e;obtain⟨cs',c⟩:=m k g ty cs l;simp only[conc,l,c]
 refine⟨fun t=>?_,fun t k off e=>?_,fun t f j e=>?_⟩
 ·rw[Je a d v s,put_eq];cases d with
  | none=>exact h t
  | some k =>
   simp only[];split
   ·exact r.symm
   ·exact h t
 ·rw[put_eq] at e;have b:∀k off,ρ t=.own k off->∃g ty cs,L'.get k=some (.box g ty cs):=by
   intro k off e;obtain⟨g,ty,cs,l⟩:=he.own t k off e;obtain⟨cs',c⟩:=m k g ty cs l;exact⟨g,ty,cs',c⟩
  cases d with
  | none=>exact b k off e
  | some p =>
   simp only[] at e;split at e
   ·exact n k off e
   ·exact b k off e
 ·rw[put_eq] at e;cases d with
  | none=>exact he.el t f j e
  | some p =>
   simp only[] at e;split at e
   ·exact q f j e
   ·exact he.el t f j e
theorem jx (a:Act) (d:Option Nat) (v:Value):(a.put d v).tmps.size=a.tmps.size:=by cases d<;>simp[Act.put]
theorem gj (a:Act) (d:Option Nat) (v:Value):(a.put d v).defers=a.defers:=by cases d<;>rfl
section
variable {P:Program}{F:au}{L:Loc}{ρ:Env}{a:Act}{w:World}{K:di}{o:Oper}{Q:Exit->Act->World->Prop}
theorem bR (c:St F L w) (he:aA L ρ a) (m:∀k,o.dst=some k->k<a.tmps.size) {v:Value}{x:SV}
  (n:(execOp a.eval o).run P w=.ok (.value v) w) (d:conc L x=v) (l:∀k off,x=.own k off->∃g ty cs,L.get k=some (.box g ty cs)) (f:∀b j,x=.el b j->b≠none)
  (h:K F L (put o.dst x ρ)):o.wp P a w (bD F L w a K) Q:=by
 unfold Oper.wp;rw[n];exact⟨F,L,_,c,he.put m d l f (fun k g ty cs e=>⟨cs,e⟩),jx _ _ _,gj _ _ _,Step.refl _ _ _,h⟩
theorem jy (he:aA L ρ a) (p:∀k,o.dst=some k->k<a.tmps.size) {v:Value}{x:SV}{w':World}{F':au}{L':Loc}
  (h:(execOp a.eval o).run P w=.ok (.value v) w') (d:St F' L' w') (b:Step F L w F' L' w') (n:conc L' x=v) (l:∀k off,x=.own k off->∃g ty cs,L'.get k=some (.box g ty cs)) (m:∀c j,x=.el c j->c≠none)
  (e:∀k g ty cs,L.get k=some (.box g ty cs)->∃cs',L'.get k=some (.box g ty cs')) (f:K F' L' (put o.dst x ρ)):o.wp P a w (bD F L w a K) Q:=by
 unfold Oper.wp;rw[h];exact⟨F',L',_,d,he.put p n l m e,jx _ _ _,gj _ _ _,b,f⟩
theorem CM (he:aA L ρ a) (f:∀k,o.dst=some k->k<a.tmps.size) {w':World}{F':au}{L':Loc}
  (h:(execOp a.eval o).run P w=.ok .skip w') (c:St F' L' w') (b:Step F L w F' L' w')
  (j:∀k g ty cs,L.get k=some (.box g ty cs)->∃cs',L'.get k=some (.box g ty cs')) (d:K F' L' (put o.dst (.v undef) ρ)):o.wp P a w (bD F L w a K) Q:=by
 unfold Oper.wp;rw[h];exact⟨F',L',_,c,he.put f rfl (fun _ _ e=>by cases e) (fun _ _ e=>by cases e) j,jx _ _ _,gj _ _ _,b,d⟩
end
section
variable {P:Program}{F:au}{L:Loc}{ρ:Env}{a:Act}{w:World}{K:di}{o:Oper}{Q:Exit->Act->World->Prop}
theorem cq {v:Value}{L:Loc}:∀k off,SV.v v=.own k off->∃g ty cs,L.get k=some (.box g ty cs):=fun _ _ e=>by cases e
theorem eJ {v:Value}:∀b j,SV.v v=.el b j->b≠none:=fun _ _ e=>by cases e
theorem sQ (L:Loc):∀k g ty cs,L.get k=some (.box g ty cs)->∃cs',L.get k=some (.box g ty cs'):=fun k g ty cs e=>⟨cs,e⟩
theorem cG {x:X}{v:Value}{L:Loc}{ρ:Env}(h:ev ρ x=.v v):val L ρ x=v:=by simp only[val,h,conc]
theorem Jf {y:Operand}{x:X}(d:St F L w) (he:aA L ρ a) (h:∀k,o.dst=some k->k<a.tmps.size)
  (b:o.op=.move y\/o.op=.assign y) (c:bI y=some x) (f:evalOp P (.mov x) o.dst F L ρ K):o.wp P a w (bD F L w a K) Q:=by
 refine bR d he h (v:=a.eval y) (x:=ev ρ x) ?_ (aD c he).symm (fun k off e=>pI c he e) (fun l j e=>qH c he e) f;rcases b with b | b<;>simp only[execOp,b]<;>rfl
theorem Ml {c y z:Operand}{r m d:X}(n:St F L w) (he:aA L ρ a) (s:∀k,o.dst=some k->k<a.tmps.size)
  (q:o.op=.pick c y z) (u:bI c=some r) (l:bI y=some m) (f:bI z=some d) (b:evalOp P (.pick r m d) o.dst F L ρ K):o.wp P a w (bD F L w a K) Q:=by
 have p:=aD u he;simp only[evalOp,aH] at b;split at b
 ·rename_i h;refine bR n he s (v:=a.eval y) (x:=ev ρ m) ?_ (aD l he).symm (fun k off e=>pI l he e) (fun t j e=>qH l he e) b;simp only[execOp,q,p,val,h,conc];simp[asBool]
 ·rename_i h;refine bR n he s (v:=a.eval z) (x:=ev ρ d) ?_ (aD f he).symm (fun k off e=>pI f he e) (fun t j e=>qH f he e) b;simp only[execOp,q,p,val,h,conc];simp[asBool]
 ·exact b.elim
theorem gW (w:World) (o:Obj):(w.alloc o).heap[w.heap.size]?=some o:=heap_alloc_new w o
theorem sS {F:au}{L:Loc}{w:World}(c:St F L w):F w.heap.size=none/\¬L.owns w.heap.size:=by
 refine⟨?_,fun h=>?_⟩
 ·cases h:F w.heap.size with
  | none=>rfl
  | some _=>have:=c.aax (b:=w.heap.size) (by rw[h];simp);omega
 ·have:=c.aaA h;omega
theorem St.alloc (c:St F L w) (o:Obj):St F L (w.alloc o):=c.keep fun b hb=>Below.heap_alloc w o b hb
theorem lO (m:St F L w) {k:Nat}(n:L.get k=none) {ob:Obj}{e:Own}(hb:e.blk=some w.heap.size) (f:e.ok (w.alloc ob)) :
  St F (L.set k e) (w.alloc ob)/\Step F L w F (L.set k e) (w.alloc ob) /\
   (∀j g ty xs,L.get j=some (.box g ty xs)->∃cs',(L.set k e).get j=some (.box g ty cs')):=by
 obtain⟨h1,q⟩:=sS m;refine⟨(m.alloc _).put n f fun g c=>?_,?_,fun j g ty xs d=>?_⟩
 ·rw[hb] at c;injection c with c;subst c;exact⟨h1,q⟩
 ·refine Step.mk' (au.le_refl F) (World.grownBy_alloc w _ none) (fun b hb=>.inl hb) fun b p=>?_;rcases Loc.aan p with h | h
  ·rw[hb] at h;injection h with h;exact .inr (by omega)
  ·exact .inl h
 ·rw[Loc.aac];split
  ·rename_i l;subst l;rw[n] at d;cases d
  ·exact⟨xs,d⟩
theorem jY (c:St F L w) {k:Nat}(d:L.get k=none) {cs:Array Value}{t:TypeId}{e:Own}(hb:e.blk=some w.heap.size) (b:e.ok (w.alloc (.cells cs t))) :
  St F (L.set k e) (w.alloc (.cells cs t))/\Step F L w F (L.set k e) (w.alloc (.cells cs t)) /\
   (∀j g ty xs,L.get j=some (.box g ty xs)->∃cs',(L.set k e).get j=some (.box g ty cs')):=lO c d hb b
theorem QF {y:Operand}{x:X}{t:TypeId}(h:St F L w) (he:aA L ρ a) (q:∀k,o.dst=some k->k<a.tmps.size)
  (m:o.op=.box t y) (p:bI y=some x) (d:t≠0) (c:evalOp P (.box t x) o.dst F L ρ K):o.wp P a w (bD F L w a K) Q:=by
 simp only[evalOp,aH] at c;split at c
 case h_2=>exact c.elim
 rename_i _ k f;split at c
 case h_2=>exact c.elim
 rename_i _ l;have c:=c w.heap.size;have b:(Value.cells (a.eval y)).toList=aL (val L ρ x):=by
  rw[aD p he];cases val L ρ x<;>rfl
 obtain⟨h1,n,j⟩:=jY h l (cs:=(a.eval y).cells) (t:=t) (e:=.box w.heap.size t (aL (val L ρ x))) rfl
  (by show _=_;rw[gW,jn d,<-b])
 refine jy he q (v:=.pointer (some ⟨w.heap.size,0,none⟩)) (x:=.own k 0) ?_ h1 n ?_ ?_ (fun _ _ e=>by cases e) j c
 ·simp[execOp,m,Instr.box,newVar,newRow]
 ·simp only[conc,Loc.aac,abl]
 ·rintro r off e;injection e with e1 e2
  subst e1;exact⟨_,_,_,by rw[Loc.aac,o5 rfl]⟩
theorem Jg {t:TypeId}{i:TypeInfo}{zs:List Value}(j:St F L w) (he:aA L ρ a) (q:∀k,o.dst=some k->k<a.tmps.size)
  (n:o.op=.alloc t) (hi:P.info? t=some i) (c:Sy i=some zs) (d:t≠0) (b:evalOp P (.alloc t zs) o.dst F L ρ K):o.wp P a w (bD F L w a K) Q:=by
 simp only[evalOp,aH] at b;split at b
 case h_2=>exact b.elim
 rename_i _ k h;split at b
 case h_2=>exact b.elim
 rename_i _ m;have b:=b w.heap.size;unfold Sy at c;split at c
 case h_2=>cases c
 rename_i z f;injection c with c
 obtain⟨h1,p,l⟩:=jY j m (cs:=z.cells) (t:=t) (e:=.box w.heap.size t zs) rfl
  (by show _=_;rw[gW,jn d,<-c])
 refine jy he q (v:=.pointer (some ⟨w.heap.size,0,none⟩)) (x:=.own k 0) ?_ h1 p ?_ ?_ (fun _ _ e=>by cases e) l b
 ·simp[execOp,n,Instr.alloc,zeroValue,typeInfo,hi,f,newVar,newRow]
 ·simp only[conc,Loc.aac,abl]
 ·rintro r off e;injection e with e1 e2
  subst e1;exact⟨_,_,_,by rw[Loc.aac,o5 rfl]⟩
theorem wh {t:TypeId}{l:List Value}{n:Nat}(h:jg t l n=true):t≠0:=by
 rintro rfl;simp[jg] at h
theorem Bt {t:TypeId}{l:List Value}{n:Nat}(h:jg t l n=true):gQ l n=true:=by
 unfold jg at h;split at h
 ·cases h
 ·exact h
theorem oe {t:TypeId}{l:List Value}{n:Nat}(h:t≠0) (b:gQ l n=true):jg t l n=true:=by
 unfold jg;split
 ·rename_i e;exact vv (aaR e) h
 ·exact b
theorem jz:∀{l:List Value}{n:Nat},gQ l n=true->l.length=n
 | [],0,_=>rfl
 | _::l,n+1,h=>by simp only[gQ] at h;simp[jz h]
 | [],_+1,h=>by simp[gQ] at h
 | _::_,0,h=>by simp[gQ] at h
theorem og {cs b:List Value}{off:Nat}(h:off+b.length<=cs.length) (n:Nat) :
  (bP cs off b)[n]?=if n<off then cs[n]? else if n<off+b.length then b[n-off]? else cs[n]?:=by
 unfold bP;have c:(cs.take off).length=off:=by simp;omega
 by_cases h1:n<off
 ·rw[o5 h1,abM,abG (by omega),List.getElem?_take_of_lt h1]
 ·rw[q9 h1]
  by_cases d:n<off+b.length
  ·rw[o5 d,abM,abH (by omega),abG (by omega),c]
  ·rw[q9 d,abM,abH (by omega),abH (by omega),c,abz];congr 1;omega
theorem Mn (b:List Value):∀(off j:Nat) (cells:Array Value),off+j+b.length<=cells.size ->
  ((b.zipIdx j).foldl (fun cs (c,j)=>cs.setIfInBounds (off+j) c) cells).toList=bP cells.toList (off+j) b:=by
 induction b with
 | nil=>intro off j cells h;simp[bP]
 | cons v b f =>
  intro off j cells h;simp only[List.zipIdx_cons,List.foldl_cons,aa7] at h ⊢;have:=f off (j+1) (cells.setIfInBounds (off+j) v) (by simp;omega);rw[this];apply abQ;intro n;rw[og (by simp;omega),og (by simp;omega)];simp only[Array.toList_setIfInBounds,aa7]
  by_cases e:n=off+j
  ·subst e;rw[o5 (by omega),q9 (by omega),o5 (by omega),ab1 (by simp;omega)];simp
  ·by_cases h1:n<off+j
   ·rw[o5 (by omega),o5 h1,abW (by omega)]
   ·by_cases d:n<off+(j+1)+b.length
    ·rw[q9 (by omega),o5 d,q9 h1,o5 (by omega),show n-(off+j)=(n-(off+(j+1)))+1 by omega,abg]
    ·rw[q9 (by omega),q9 d,q9 h1,q9 (by omega),abW (by omega)]
theorem CN (b:Array Value) (off:Nat) (cells:Array Value) (h:off+b.size<=cells.size) :
  (b.zipIdx.foldl (fun cs (x:Value×Nat)=>cs.setIfInBounds (off+x.2) x.1) cells).toList=bP cells.toList off b.toList:=by
 have:=Mn b.toList off 0 cells (by simpa using h);rw[Nat.add_zero] at this;rw[<-this];congr 1;rw[<-Array.foldl_toList,Array.toList_zipIdx]
theorem kx (cs:List Value) (off:Nat) (b:List Value) (h:off+b.length<=cs.length):(bP cs off b).length=cs.length:=by
 simp[bP];omega
theorem ni (v:Value):aL v=v.cells.toList:=by cases v<;>rfl
theorem Es (sz n:Nat):∀(c:List Value) (k:Nat) (cells:Array Value),cells.size=n*sz->k+c.length=n->(∀v∈c,v.cells.size=sz) ->
  ∃out,Instr.fill (fun i=>some (i*sz,sz)) cells ((List.range' k c.length).zip c)=some out /\
   out.toList=cells.toList.take (k*sz)++(c.map (fun v=>v.cells.toList)).flatten:=by
 intro c
 induction c with
 | nil =>
  intro k cells h1 e f;refine⟨cells,by simp[Instr.fill],?_⟩;simp at e ⊢;subst e;rw[abC (by simp;omega)]
 | cons v c p =>
  intro k cells h1 e f;have h:=f v (by simp);have m:k*sz+sz<=n*sz:=by
   rw[<-Nat.succ_mul];exact Nat.mul_le_mul_right _ (by simp at e;omega)
  simp only[aa7,List.range'_succ,List.zip_cons_cons,Instr.fill];rw[q9 (by simp[h];omega)];have b:=CN v.cells (k*sz) cells (by omega);have d:(v.cells.zipIdx.foldl (fun cs (x:Value×Nat)=>cs.setIfInBounds (k*sz+x.2) x.1) cells).size=n*sz:=by
   rw[<-Array.length_toList,b,kx _ _ _ (by simp;omega)];simpa using h1
  obtain⟨out,q,r⟩:=p (k+1) _ d (by simp at e;omega) (fun u l=>f u (by simp[l]));refine⟨out,q,?_⟩;rw[r,b];simp only[bP,aa0,List.flatten_cons,<-abM];congr 1;rw[Nat.succ_mul];have j:v.cells.toList.length=sz:=by simpa using h
  apply abQ;intro i
  by_cases t:i<k*sz
  ·rw[List.getElem?_take_of_lt (by omega),abM,abG (by simp;omega),abG (by simp;omega)]
  ·by_cases s:i<k*sz+sz
   ·rw[List.getElem?_take_of_lt (by omega),abM,abH (by simp;omega),abG (by simp;omega),abH (by simp;omega)]
   ·rw[abn (by simp;omega),abn (by simp;omega)]
end
section
variable {P:Program}{F:au}{L:Loc}{ρ:Env}{a:Act}{w:World}{K:di}{o:Oper}{Q:Exit->Act->World->Prop}
theorem wN (L:Loc) (ρ:Env):∀xs:List X,cellsOf L ρ xs=((bn L ρ xs).map fun v=>v.cells.toList).flatten
 | []=>rfl
 | x::xs=>by simp only[cellsOf,bn,aa0,List.flatten_cons,wN L ρ xs,ni]
theorem zY {L:Loc}{ρ:Env}{sz:Nat}:∀{xs:List X},fL L ρ sz xs=true->∀v∈bn L ρ xs,v.cells.size=sz
 | [],_,v,b=>by cases b
 | x::xs,h,v,b=>by
  simp only[fL] at h;split at h
  ·rename_i h1;simp only[bn,aaW] at b;rcases b with rfl | b
   ·have:=jz h1;rw[ni] at this;simpa using this
   ·exact zY h v b
  ·cases h
theorem lf (L:Loc) (ρ:Env):∀xs:List X,(bn L ρ xs).length=xs.length
 | []=>rfl
 | _::xs=>by simp[bn,lf L ρ xs]
theorem pJ {L:Loc}{ρ:Env}{sz:Nat}:∀{xs:List X},fL L ρ sz xs=true->(cellsOf L ρ xs).length=xs.length*sz
 | [],_=>by simp[cellsOf]
 | x::xs,h=>by
  simp only[fL] at h;split at h
  ·rename_i h1;have:=jz h1;simp only[cellsOf,abJ,this,pJ h,aa7,Nat.succ_mul];omega
  ·cases h
theorem Et {ps:List (Nat×Operand)}{f:Operand->Value}{n:Nat}(h:ps.map (·.1)=List.range n) :
  ps.map (fun p=>(p.1,f p.2))=(List.range' 0 ps.length).zip ((ps.map (·.2)).map f):=by
 have b:ps.length=n:=by have:=xo List.length h;simpa using this
 rw[b,<-List.range_eq_range',<-h]
 clear h b
 induction ps with
 | nil=>rfl
 | cons p ps c=>simp[c]
theorem pK {t e n:Nat}{ps:Array (Nat×Operand)}{i:TypeInfo}{z:Value}{xs:List X}(v:P.underlying t=some (.slice e)) (hi:P.info? e=some i) (s:i.zero=some z)
  (y:ga (ps.toList.map (·.2))=some xs) (m:ps.toList.map (·.1)=List.range n) (hb:n*i.size<=2 ^ 24) (hp:fL L ρ i.size xs=true) (he:aA L ρ a) :
  (Instr.buildSlice t n (ps.map fun(j,x)=>(j,a.eval x))).run P w=.ok (.slice (some ⟨w.heap.size,0,none⟩) n n) (w.alloc (.cells (cellsOf L ρ xs).toArray e))/\xs.length=n:=by
 have k:=gh y he;have c:xs.length=n:=by
  have h1:=xo List.length k;have r:=xo List.length m;simp only[aaP,lf,List.length_range] at h1 r;omega
 have l:ps.toList.length=n:=by have:=xo List.length m;simpa using this
 have b:(ps.map fun(x:Nat×Operand)=>(x.1,a.eval x.2)).toList=(List.range' 0 (bn L ρ xs).length).zip (bn L ρ xs):=by
  rw[Array.toList_map,Et m,k,lf,c,l]
 have f:=fun(cells:Array Value) (u:cells.size=n*i.size)=>Es i.size n (bn L ρ xs) 0 cells u (by rw[lf];omega) (zY hp);refine⟨?_,c⟩;have q:∀zero:Array Value,((Array.range (n*i.size)).map (zero[· % zero.size]!)).size=n*i.size:=fun _=>by simp
 obtain⟨out,h1,r⟩:=f ((Array.range (n*i.size)).map ((if n*i.size=0 then #[] else z.cells)[· % (if n*i.size=0 then #[] else z.cells).size]!)) (q _);have d:out=(cellsOf L ρ xs).toArray:=by
  apply Array.ext';rw[r,wN];simp
 have p:¬(n*i.size>2 ^ 24):=by omega
 unfold Instr.buildSlice;simp only[Sem.run_bind,run_underlying v,Result.andThen_ok,sizeOf,typeInfo,hi,run_program,Sem.run_pure,q9 p,zeroValue,s]
 by_cases h0:n*i.size=0
 ·simp only[h0,abl] at h1 ⊢
  try simp only[Sem.run_pure,Result.andThen_ok]
  rw[b];have h:=h1;simp only[h,d,newRow,Sem.run_bind,run_newObj,Result.andThen_ok,Sem.run_pure];rfl
 ·simp only[h0,abR] at h1 ⊢;simp only[Sem.run_bind,hi,s,run_program,Sem.run_pure,Result.andThen_ok];rw[b];have h:=h1;simp only[h,d,newRow,Sem.run_bind,run_newObj,Result.andThen_ok,Sem.run_pure];rfl
theorem Mp {t:TypeId}{y:Operand}{x:X}(f:St F L w) (he:aA L ρ a) (q:∀k,o.dst=some k->k<a.tmps.size)
  (n:o.op=.box t y) (p:bI y=some x) (m:evalOp P (.boxF t x) o.dst F L ρ K):o.wp P a w (bD F L w a K) Q:=by
 simp only[evalOp] at m;have c:(a.eval y).cells=(aL (val L ρ x)).toArray:=by
  apply Array.ext';rw[aD p he];cases val L ρ x<;>rfl
 have d:=gW w (.cells (aL (val L ρ x)).toArray t);obtain⟨hf,l⟩:=sS f;have j:=(f.alloc (.cells (aL (val L ρ x)).toArray t)).freeze d l;have e:=au.aav (f.alloc (.cells (aL (val L ρ x)).toArray t)) d;refine jy he q (v:=.pointer (some ⟨w.heap.size,0,none⟩)) (x:=.v (.pointer (some ⟨w.heap.size,0,none⟩))) ?_ j (Step.mk' e (World.grownBy_alloc w _ none) ?_ fun b h=>.inl h) rfl cq eJ (sQ L) (m w.heap.size _ e (by simp))
 ·simp[execOp,n,Instr.box,newVar,newRow,c]
 ·intro b hb
  by_cases h:b=w.heap.size
  ·exact .inr (.inr (by omega))
  ·simp only[q9 h] at hb;exact .inl hb
theorem QG {t e n:Nat}{ps:Array (Nat×Operand)}{i:TypeInfo}{z:Value}{xs:List X}(l:St F L w) (he:aA L ρ a) (hd:∀k,o.dst=some k->k<a.tmps.size)
  (u:o.op=.buildSlice t n ps) (y:P.underlying t=some (.slice e)) (hi:P.info? e=some i) (r:i.zero=some z)
  (hx:ga (ps.toList.map (·.2))=some xs) (s:ps.toList.map (·.1)=List.range n) (hb:n*i.size<=2 ^ 24) (j:evalOp P (.mkF e n i.size xs) o.dst F L ρ K):o.wp P a w (bD F L w a K) Q:=by
 simp only[evalOp,aH] at j;split at j
 case h_2=>exact j.elim
 rename_i hp;obtain⟨f,q⟩:=pK (w:=w) y hi r hx s hb hp he;have c:=gW w (.cells (cellsOf L ρ xs).toArray e);obtain⟨hf,p⟩:=sS l;have m:=(l.alloc (.cells (cellsOf L ρ xs).toArray e)).freeze c p;have d:=au.aav (l.alloc (.cells (cellsOf L ρ xs).toArray e)) c;refine jy he hd (v:=.slice (some ⟨w.heap.size,0,none⟩) n n) (x:=.v (.slice (some ⟨w.heap.size,0,none⟩) n n)) ?_ m (Step.mk' d (World.grownBy_alloc w _ none) ?_ fun b h=>.inl h) rfl cq eJ (sQ L) (j w.heap.size _ d (by simp))
 ·simp only[execOp,u,Sem.run_bind,f,Result.andThen_ok,Sem.run_pure]
 ·intro b hb
  by_cases h:b=w.heap.size
  ·exact .inr (.inr (by omega))
  ·simp only[q9 h] at hb;exact .inl hb
theorem lg (w:World) (cs:List Value) (e:TypeId) (n sz:Nat) (c:n<=maxLen) (b:cs.length=n*sz) :
  (w.alloc (.cells cs.toArray e)).ownsRow 0 e sz (.slice (some ⟨w.heap.size,0,none⟩) n n) n cs :=
 ⟨b,.inr ⟨w.heap.size,n,cs.toArray,rfl,abe _,gW w _,aa3 _,c,by simpa using b,by simp[<-b]⟩⟩
theorem QH {t e n:Nat}{ps:Array (Nat×Operand)}{i:TypeInfo}{z:Value}{xs:List X}(l:St F L w) (he:aA L ρ a) (hd:∀k,o.dst=some k->k<a.tmps.size)
  (s:o.op=.buildSlice t n ps) (y:P.underlying t=some (.slice e)) (hi:P.info? e=some i) (p:i.zero=some z)
  (hx:ga (ps.toList.map (·.2))=some xs) (r:ps.toList.map (·.1)=List.range n) (hb:n*i.size<=2 ^ 24) (hn:n<=2 ^ 24) (b:evalOp P (.mkR e n i.size xs) o.dst F L ρ K):o.wp P a w (bD F L w a K) Q:=by
 simp only[evalOp,aH] at b;split at b
 case h_2=>exact b.elim
 rename_i _ _ k j h;split at b
 case h_2=>exact b.elim
 rename_i _ q;obtain⟨c,f⟩:=pK (w:=w) y hi p hx r hb j he;have d:=lg w (cellsOf L ρ xs) e n i.size (by simp only[maxLen];omega) (by rw[pJ j,f]);obtain⟨h1,u,m⟩:=jY l q (cs:=(cellsOf L ρ xs).toArray) (t:=e) (e:=.row (.slice (some ⟨w.heap.size,0,none⟩) n n) e i.size n (cellsOf L ρ xs)) rfl d;refine jy he hd (v:=.slice (some ⟨w.heap.size,0,none⟩) n n) (x:=.v (.slice (some ⟨w.heap.size,0,none⟩) n n)) ?_ h1 u rfl cq eJ m (b w.heap.size);simp only[execOp,s,Sem.run_bind,c,Result.andThen_ok,Sem.run_pure]
def placeOf (P:Program) (f:Field):Nat×Nat:=(f.offset,P.cellsOf f.type)
def wO (f:Field):Sem (Nat×Nat):=do pure (f.offset,<-sizeOf f.type)
theorem zy {u:Array Field}:∀{ps:List (Nat×Operand)}{l:List (Nat×Nat×X)},m9 P u ps=some l->∀{cells:Array Value}{cs:List Value}(q:Array (Nat×Nat)),aA L ρ a ->
  (∀(j:Nat) (f:Field) (i:TypeInfo),u[j]?=some f->P.info? f.type=some i->q[j]?=some (f.offset,i.size)) ->
  built L ρ cells.toList l=some cs->(∀off n x,(off,n,x)∈l->off+n<=cells.size) ->
  ∃out,Instr.fill (q[·]?) cells (ps.map fun p=>(p.1,a.eval p.2))=some out/\out.toList=cs:=by
 intro ps
 induction ps with
 | nil =>
  intro l h cells cs q he k hb e;simp only[m9,aaO] at h;subst h;simp only[built,aaO] at hb;exact⟨cells,rfl,hb⟩
 | cons p ps v =>
  intro l h cells cs q he k hb e;obtain⟨j,y⟩:=p;simp only[m9] at h;split at h
  case h_2=>cases h
  rename_i f x l' hf hx t;split at h
  case h_2=>cases h
  rename_i i hi;injection h with h
  subst h;simp only[built] at hb;split at hb
  case h_2=>cases hb
  rename_i b;have b:=jz b;have m:=e f.offset i.size x (by simp);have r:=aD hx he;simp only[aa0,Instr.fill,k j f i hf hi];have s:(a.eval y).cells.size=i.size:=by rw[r];rw[ni] at b;simpa using b
  rw[q9 (by simp[s];omega)];have c:=CN (a.eval y).cells f.offset cells (by omega);have d:(a.eval y).cells.toList=aL (val L ρ x):=by rw[r,ni]
  rw[d] at c;refine v t q he k (cs:=cs) ?_ ?_
  ·rw[c];exact hb
  ·intro off n z hm;rw[<-Array.length_toList,c,kx _ _ _ (by rw[b];simpa using m)];simpa using e off n z (by simp[hm])
theorem vO (P:Program) (w:World):∀(b:List Field),(∀f:Field,f∈b->(P.info? f.type).isSome=true) ->
  (b.mapM wO).run P w=.ok (b.map (placeOf P)) w:=by
 intro b
 induction b with
 | nil=>intro _;simp
 | cons f b c =>
  intro h;have h1:=h f (by simp);obtain⟨i,hi⟩:=Option.isSome_iff_exists.1 h1;simp only[List.mapM_cons,wO,Sem.run_bind,sizeOf,typeInfo,run_program,Result.andThen_ok,hi,Sem.run_pure];rw[c (fun g d=>h g (by simp[d]))];simp[placeOf,Program.cellsOf,hi]
theorem Jh {t:Nat}{ps:Array (Nat×Operand)}{b:Array Field}{i:TypeInfo}{zs:List Value}{l:List (Nat×Nat×X)}(hs:St F L w) (he:aA L ρ a) (hd:∀k,o.dst=some k->k<a.tmps.size)
  (ho:o.op=.build t ps) (ht:P.underlying t=some (.struct b)) (hi:P.info? t=some i) (c:Sy i=some zs) (hl:m9 P b ps.toList=some l) (e:∀f:Field,f∈b.toList->(P.info? f.type).isSome=true)
  (q:∀off n x,(off,n,x)∈l->off+n<=zs.length) (m:evalOp P (.build zs l) o.dst F L ρ K):o.wp P a w (bD F L w a K) Q:=by
 simp only[evalOp,aH] at m;split at m
 case h_2=>exact m.elim
 rename_i cs y;unfold Sy at c;split at c
 case h_2=>cases c
 rename_i z s;injection c with c
 have r:∀(j:Nat) (f:Field) (i:TypeInfo),b[j]?=some f->P.info? f.type=some i->(b.map (placeOf P))[j]?=some (f.offset,i.size):=by
  intro j f i h1 u;simp[h1,placeOf,Program.cellsOf,u]
 obtain⟨out,h1,u⟩:=zy (a:=a) (cells:=z.cells) (cs:=cs) hl _ he r (by rw[c];exact y) (by intro off n x hm;have:=q off n x hm;rw[<-c] at this;simpa using this);have h:out=cs.toArray:=by apply Array.ext';simpa using u
 have d:(b.mapM wO).run P w=.ok (b.map (placeOf P)) w:=by
  rw[Array.mapM_eq_mapM_toList,Sem.run_map,vO P w _ e];simp only[Result.andThen_ok];congr 1;exact Array.ext' (by simp)
 refine bR hs he hd (v:=.agg cs.toArray) (x:=.v (.agg cs.toArray)) ?_ rfl cq eJ m;simp only[execOp,ho,Instr.build,Sem.run_bind,zeroValue,typeInfo,run_program,Result.andThen_ok,hi,Sem.run_pure,s,run_underlying ht];rw[show(b.mapM fun(f:Field)=>(do pure (f.offset,<-sizeOf f.type):Sem (Nat×Nat))).run P w=.ok (b.map (placeOf P)) w from d];simp only[Result.andThen_ok];rw[show(ps.map fun(x:Nat×Operand)=>(x.1,a.eval x.2)).toList=ps.toList.map (fun p=>(p.1,a.eval p.2)) by simp,h1,h];simp
theorem zZ {t:Nat}{d:TypeDesc}(b:P.underlying t=some d):(isAgg t).run P w=.ok (eM d) w:=by
 unfold isAgg;simp only[Sem.run_bind,run_underlying b,Result.andThen_ok];cases d<;>rfl
theorem oh {t:Nat}{d:TypeDesc}{i:TypeInfo}(k:P.underlying t=some d) (hi:P.info? t=some i) {c:Addr}{cs:List Value}{n:Nat}
  (h:∀j v,cs[j]?=some v->w.cell? (c.add j)=some v) (b:cs.length=n) (e:n=match eM d with | true=>i.size | false=>1) :
  (Instr.loadAt t (.pointer (some c))).run P w=.ok (gU (eM d) cs) w:=by
 simp only[Instr.loadAt,Instr.sureAddr,Sem.run_bind,Sem.run_pure,Result.andThen_ok,loadVar,zZ k];cases f:eM d with
 | true =>
  simp only[f] at e;simp only[abl,Sem.run_bind,sizeOf,typeInfo,run_program,Result.andThen_ok,hi,Sem.run_pure];rw[<-e,<-b,run_loadCells_list w c cs h];rfl
 | false =>
  simp only[f] at e;subst e
  match cs,b with
  | [v],_ =>
   have:=h 0 v (by simp);rw[show c.add 0=c by simp[Addr.add]] at this;simp[run_load,this,gU]
theorem pL {g:Nat}{t:TypeId}{cs:List Value}(b:t≠0) (h:Own.ok w (.box g t cs)) (n:Nat):w.cell? ⟨g,n,none⟩=cs[n]?:=by
 simp only[Own.ok,jn b] at h;simp[World.cell?,h]
theorem Mq {t:Nat}{y:Operand}{x:X}{d:TypeDesc}{i:TypeInfo}{n:Nat}(hs:St F L w) (he:aA L ρ a) (hd:∀k,o.dst=some k->k<a.tmps.size)
  (ho:o.op=.load t y) (ht:P.underlying t=some d) (hi:P.info? t=some i) (hx:bI y=some x) (hn:n=match eM d with | true=>i.size | false=>1)
  (q:evalOp P (.load (eM d) n x) o.dst F L ρ K):o.wp P a w (bD F L w a K) Q:=by
 have ec:=aD hx he;have aa:∀(l:Option Addr) (j:Nat),l≠none->(jW F L l j n fun cs=>K F L (put o.dst (.v (gU (eM d) cs)) ρ))->a.eval y=conc L (.el l j)->o.wp P a w (bD F L w a K) Q:=by
  rintro l j ba ⟨cs,s,hc,q⟩ hy;cases l with
  | none=>exact vv rfl ba
  | some l =>
   have f:∀i v,cs[i]?=some v->w.cell? ((l.add j).add i)=some v:=by
    rcases hc with hc | ⟨k,v,t',sz,m,xs,av,c,hk,z,e2,hc⟩ | bb | ⟨k,g,t',bs,o',hk,ab,z,hc⟩
    ·obtain⟨av,e,an,aE⟩:=hc.cell hs;injection e with e
     subst e;intro i v hv;obtain⟨b,o',sp⟩:=l;simp only at an;subst an;rw[cT,cT,Nat.add_assoc,<-cT];exact aE i v hv
    ·injection z with z
     subst z;have r:=hs.own k _ hk;simp only[Own.ok] at r;subst e2;intro i u hu;have hb:=hc i u hu;have h0:=World.ownsRow.cells r (g:=l.block) rfl (j+i) u hb;rcases r.2 with⟨e,_⟩ | ⟨g,cap,bo,e,_⟩
     ·cases e
     ·injection e with z e2 e3
      injection z with z
      subst z;rw[cT,cT];rw[cT] at h0;simpa[Nat.add_assoc] using h0
    ·intro i v hv;rw[bb] at s;have:cs=[]:=abu s;subst this;simp at hv
    ·injection z with z
     subst z;intro i u hu;rw[cT,cT,pL ab (hs.own k _ hk)];exact hc i u hu
   refine bR hs he hd (v:=gU (eM d) cs) (x:=.v (gU (eM d) cs)) ?_ rfl cq eJ q;simp only[execOp,ho,hy,conc,Sem.run_bind,oh ht hi f s hn,Result.andThen_ok,Sem.run_pure]
 simp only[evalOp,aH] at q;split at q
 ·rename_i k off p;split at q
  case h_2=>exact q.elim
  rename_i g ty cs hk;split at q
  case h_2=>exact q.elim
  rename_i hl;have ab:=wh hl;have hl:=jz (Bt hl);have am:=hs.own k _ hk;have f:∀j v,((cs.drop off).take n)[j]?=some v->w.cell? ((⟨g,off,none⟩:Addr).add j)=some v:=by
   intro j v hv;rw[cT,pL ab am];have hj:j<n:=by
    have:=aaU.1 hv;obtain⟨h,_⟩:=this;omega
   rw[List.getElem?_take_of_lt hj,abz] at hv;exact hv
  refine bR hs he hd (v:=gU (eM d) ((cs.drop off).take n)) (x:=.v (gU (eM d) ((cs.drop off).take n))) ?_ rfl cq eJ q;have hy:a.eval y=.pointer (some ⟨g,off,none⟩):=by rw[ec];simp only[val,p,conc,hk]
  simp only[execOp,ho,hy,Sem.run_bind,oh ht hi f hl hn,Result.andThen_ok,Sem.run_pure]
 ·rename_i l j p;exact aa l j (qH hx he p) q (by rw[ec];simp only[val,p])
 ·rename_i l p;refine aa (some l) 0 (by simp) q ?_;rw[ec];simp only[val,p,conc];simp[Addr.add]
 ·exact q.elim
end
section
variable {P:Program}{F:au}{L:Loc}{ρ:Env}{a:Act}{w:World}{K:di}{o:Oper}{Q:Exit->Act->World->Prop}
theorem z5 {k b:IntKind}(h:pG k b=true):k=b:=by cases k<;>cases b<;>first | rfl | cases h
theorem rN {op:BinOp}{t:TypeId}{x y:Operand}{u v:Value}(h:∀c,u≠.agg c) (b:u≠.nilIface):(eqGuard op t x y u v).run P w=.ok () w:=by
 have key:(eqGuard op t x y u v).run P w=.ok () w\/True:=.inr trivial;unfold eqGuard;cases op<;>simp only[Bool.not_true,ab0,abl,aa5,abR]<;>first
  | rfl
  | (cases u<;>first | rfl | exact vv rfl (h _) | exact vv rfl b)
theorem toList_data (s:ByteArray):s.toList=s.data.toList:=ByteArray.toList_eq s
theorem wj (x y:List UInt8):(x == y)=decide (x=y):=by rw[Bool.eq_iff_iff];simp
theorem QI {t t':TypeId}{op:BinOp}{y z:Operand}{q r:X}(hs:St F L w) (he:aA L ρ a) (hd:∀k,o.dst=some k->k<a.tmps.size)
  (ho:o.op=.binOp op t y z t') (hy:bI y=some q) (hz:bI z=some r) (d:evalOp P (.bin op q r) o.dst F L ρ K):o.wp P a w (bD F L w a K) Q:=by
 have ey:=aD hy he;have ez:=aD hz he;have fin:∀v,(binOp op t (val L ρ q) (val L ρ r)).run P w=.ok v w->(∀c,val L ρ q≠.agg c)->val L ρ q≠.nilIface->K F L (put o.dst (.v v) ρ)->o.wp P a w (bD F L w a K) Q:=by
  intro v hr h1 h2 d;refine bR hs he hd (v:=v) (x:=.v v) ?_ rfl cq eJ d;simp only[execOp,ho,ey,ez,Sem.run_bind,rN h1 h2,Result.andThen_ok,hr,Sem.run_pure]
 simp only[evalOp,aH] at d;split at d
 ·rename_i k n k' m f h;have b:=cG (L:=L) f;have e:=cG (L:=L) h;split at d
  ·rename_i l;have p:op=.shl\/op=.shr:=by cases op<;>simp_all [Jb]
   have h1:(binOp op t (.int k n) (.int k' m)).run P w=(Op.shift op k n k' m).run P w:=by rcases p with rfl | rfl<;>rfl
   rcases p with rfl | rfl
   ·obtain⟨hm,⟨d⟩⟩:=d;refine fin _ ?_ (by rw[b];simp) (by rw[b];simp) d;rw[b,e,h1];simp[Op.shift,show¬m<0 by omega]
   ·obtain⟨hm,d⟩:=d;refine fin _ ?_ (by rw[b];simp) (by rw[b];simp) d;rw[b,e,h1];simp[Op.shift,show¬m<0 by omega]
  ·rename_i l;split at d
   case h_2=>exact d.elim
   rename_i hk;have hk:=z5 hk;subst hk;cases op<;>simp only[binI] at d<;>first | (cases l;done) | skip
   ·obtain⟨d⟩:=d;exact fin _ (by rw[b,e];simp[binOp,Op.intArith]) (by rw[b];simp) (by rw[b];simp) d
   ·obtain⟨d⟩:=d;exact fin _ (by rw[b,e];simp[binOp,Op.intArith]) (by rw[b];simp) (by rw[b];simp) d
   ·obtain⟨d⟩:=d;exact fin _ (by rw[b,e];simp[binOp,Op.intArith]) (by rw[b];simp) (by rw[b];simp) d
   ·obtain⟨j,⟨d⟩⟩:=d;exact fin _ (by rw[b,e];simp[binOp,Op.intDiv,j]) (by rw[b];simp) (by rw[b];simp) d
   ·obtain⟨j,d⟩:=d;exact fin _ (by rw[b,e];simp[binOp,Op.intDiv,j]) (by rw[b];simp) (by rw[b];simp) d
   ·exact fin _ (by rw[b,e];simp[binOp,Op.intBits]) (by rw[b];simp) (by rw[b];simp) d
   ·exact fin _ (by rw[b,e];simp[binOp,Op.intBits]) (by rw[b];simp) (by rw[b];simp) d
   ·exact fin _ (by rw[b,e];simp[binOp,Op.intBits]) (by rw[b];simp) (by rw[b];simp) d
   ·exact fin _ (by rw[b,e];simp[binOp,Op.intBits]) (by rw[b];simp) (by rw[b];simp) d
   ·exact fin _ (by rw[b,e];simp[binOp,Op.intCmp];rfl) (by rw[b];simp) (by rw[b];simp) d
   ·exact fin _ (by rw[b,e];simp[binOp,Op.intCmp,bne];rfl) (by rw[b];simp) (by rw[b];simp) d
   ·exact fin _ (by rw[b,e];simp[binOp,Op.intCmp]) (by rw[b];simp) (by rw[b];simp) d
   ·exact fin _ (by rw[b,e];simp[binOp,Op.intCmp]) (by rw[b];simp) (by rw[b];simp) d
   ·exact fin _ (by rw[b,e];simp[binOp,Op.intCmp]) (by rw[b];simp) (by rw[b];simp) d
   ·exact fin _ (by rw[b,e];simp[binOp,Op.intCmp]) (by rw[b];simp) (by rw[b];simp) d
 ·rename_i s u f h;have b:=cG (L:=L) f;have e:=cG (L:=L) h;cases op<;>simp only[binS] at d<;>first | exact d.elim | skip
  ·obtain⟨ae,d⟩:=d;refine fin _ ?_ (by rw[b];simp) (by rw[b];simp) d;rw[b,e];have:¬(((s.size+u.size:Nat):Int)>IntKind.i64.max):=by omega
   simp only[binOp,Op.stringOp,q9 this];rfl
  ·exact fin _ (by rw[b,e];simp only[binOp,Op.stringOp,toList_data,wj];rfl) (by rw[b];simp) (by rw[b];simp) d
  ·exact fin _ (by rw[b,e];simp only[binOp,Op.stringOp,toList_data,wj];rfl) (by rw[b];simp) (by rw[b];simp) d
  ·exact fin _ (by rw[b,e];simp only[binOp,Op.stringOp,toList_data,wj];rfl) (by rw[b];simp) (by rw[b];simp) d
  ·exact fin _ (by rw[b,e];simp only[binOp,Op.stringOp,toList_data,wj];rfl) (by rw[b];simp) (by rw[b];simp) d
 ·exact d.elim
theorem Ji {t u:TypeId}{neg:Bool}{y z:Operand}{j h:X}(hs:St F L w) (he:aA L ρ a) (hd:∀k,o.dst=some k->k<a.tmps.size)
  (n:o.op=.binOp (if neg then .neq else .eql) t y z u) (p:P.underlying t=some .bool) (hy:bI y=some j) (hz:bI z=some h) (d:evalOp P (.eqB neg j h) o.dst F L ρ K):o.wp P a w (bD F L w a K) Q:=by
 have q:=aD hy he;have l:=aD hz he;simp only[evalOp,aH] at d;split at d
 case h_2=>exact d.elim
 rename_i b c e f;have m:=cG (L:=L) e;have r:=cG (L:=L) f;refine bR hs he hd (v:=.bool (sN neg (decide (b=c)))) (x:=.v (.bool (sN neg (decide (b=c))))) ?_ rfl cq eJ d;have s:∀op:BinOp,(eqGuard op t y z (.bool b) (.bool c)).run P w=.ok () w:=fun op=>rN (by simp) (by simp);have hb:(b == c)=decide (b=c):=by cases b<;>cases c<;>rfl
 cases neg
 ·simp only[execOp,n,q,l,m,r,Sem.run_bind,s,Result.andThen_ok];have:=run_eql_bool (P:=P) w t b c p;rw[hb] at this;simp[this,sN]
 ·simp only[execOp,n,q,l,m,r,Sem.run_bind,s,Result.andThen_ok];have:=run_neq_bool (P:=P) w t b c p;rw[hb] at this;simp[this,sN]
theorem QJ {t e:TypeId}(h:P.underlying t=some (.slice e)) (p:Option Addr) (n c b f:Nat):(Op.equal t (.slice p n c) (.slice none b f)).run P w=.ok p.isNone w:=by
 have key:∀d:Nat,(Op.equalIn (d+1) t (.slice p n c) (.slice none b f)).run P w=.ok p.isNone w:=fun d=>by
  cases p<;>simp[Op.equalIn,run_underlying h]
 exact key 9999
theorem Jj {t t':TypeId}{neg:Bool}{y z:Operand}{h e:X}(hs:St F L w) (he:aA L ρ a) (hd:∀k,o.dst=some k->k<a.tmps.size)
  (r:o.op=.binOp (if neg then .neq else .eql) t y z t') (hy:bI y=some h) (hz:bI z=some e)
  (u v:Value) (b:Bool) (d:val L ρ h=u) (hv:val L ρ e=v) (h1:∀c,u≠.agg c) (h2:u≠.nilIface) (f:∀k n,u≠.int k n) (h4:∀s,u≠.string s) (p:∀k n,u≠.float k n) (q:∀k n m,u≠.complex k n m)
  (l:(Op.equal t u v).run P w=.ok b w) (hK:K F L (put o.dst (.v (.bool (sN neg b))) ρ)):o.wp P a w (bD F L w a K) Q:=by
 have ey:=aD hy he;have j:=aD hz he;refine bR hs he hd (v:=.bool (sN neg b)) (x:=.v (.bool (sN neg b))) ?_ rfl cq eJ hK;have hg:∀op:BinOp,(eqGuard op t y z u v).run P w=.ok () w:=fun op=>rN h1 h2;cases neg
 ·simp only[execOp,r,ey,j,d,hv,Sem.run_bind,hg,Result.andThen_ok];have:binOp .eql t u v=(do pure (.bool (<-Op.equal t u v)):Sem Value):=by
   cases u<;>first | rfl | exact vv rfl (f _ _) | exact vv rfl (h4 _) | exact vv rfl (p _ _) | exact vv rfl (q _ _ _)
  simp[this,l,sN]
 ·simp only[execOp,r,ey,j,d,hv,Sem.run_bind,hg,Result.andThen_ok];have:binOp .neq t u v=(do pure (.bool (!(<-Op.equal t u v))):Sem Value):=by
   cases u<;>first | rfl | exact vv rfl (f _ _) | exact vv rfl (h4 _) | exact vv rfl (p _ _) | exact vv rfl (q _ _ _)
  simp[this,l,sN]
theorem Jk {t l e:TypeId}{neg:Bool}{y z:Operand}{j h:X}(m:St F L w) (he:aA L ρ a) (hd:∀k,o.dst=some k->k<a.tmps.size)
  (u:o.op=.binOp (if neg then .neq else .eql) t y z l) (v:P.underlying t=some (.slice e)) (r:bI y=some j) (q:bI z=some h) (b:evalOp P (.eqS neg j h) o.dst F L ρ K):o.wp P a w (bD F L w a K) Q:=by
 simp only[evalOp,aH] at b;split at b
 ·rename_i p n c s x d f;exact Jj m he hd u r q (.slice p n c) (.slice none s x) p.isNone (cG d) (cG f) (by simp) (by simp) (by simp) (by simp) (by simp) (by simp) (QJ v _ _ _ _ _) b
 ·exact b.elim
theorem Hp {z:Operand}{b:X}(h:bI z=some b) (k:wM b=true):z=.const .nilIface:=by
 unfold wM at k;split at k
 ·cases z with
  | const v=>simp only[bI,aaO,X.c.injEq] at h;rw[h]
  | tmp n=>cases h
  | func f=>cases h
  | global g=>cases h
 ·cases k
theorem Eu {t:TypeId}{b:Array (String×TypeId)}(h:P.underlying t=some (.interface b)):(Op.equal t .nilIface .nilIface).run P w=.ok true w:=by
 have key:∀d:Nat,(Op.equalIn (d+1) t .nilIface .nilIface).run P w=.ok true w:=fun d=>by
  simp[Op.equalIn,run_underlying h]
 exact key 9999
theorem QK {t ty:TypeId}{b:Array (String×TypeId)}{u:Value}(h:P.underlying t=some (.interface b)):(Op.equal t (.iface ty u) .nilIface).run P w=.ok false w:=by
 have key:∀d:Nat,(Op.equalIn (d+1) t (.iface ty u) .nilIface).run P w=.ok false w:=fun d=>by
  simp[Op.equalIn,run_underlying h]
 exact key 9999
theorem Jl {t t':TypeId}{ms:Array (String×TypeId)}{neg:Bool}{y z:Operand}{h e:X}(m:St F L w) (he:aA L ρ a) (hd:∀k,o.dst=some k->k<a.tmps.size)
  (j:o.op=.binOp (if neg then .neq else .eql) t y z t') (r:P.underlying t=some (.interface ms)) (n:bI y=some h) (d:bI z=some e) (hn:wM e=true) (c:evalOp P (.eqN neg h) o.dst F L ρ K):o.wp P a w (bD F L w a K) Q:=by
 have s:=aD n he;obtain rfl:=Hp d hn;simp only[evalOp,aH] at c;split at c
 ·rename_i b;have l:val L ρ h=.nilIface:=cG b;refine bR m he hd (v:=.bool (sN neg true)) (x:=.v (.bool (sN neg true))) ?_ rfl cq eJ c;have hg:∀op:BinOp,(eqGuard op t y (.const .nilIface) .nilIface .nilIface).run P w=.ok () w:=fun op=>by
   cases op<;>simp[eqGuard]
  have p:a.eval (.const .nilIface)=.nilIface:=rfl;have q:=Eu (P:=P) (w:=w) r;cases neg
  ·simp only[execOp,j,s,p,l,Sem.run_bind,hg,Result.andThen_ok];have:binOp .eql t .nilIface .nilIface=(do pure (.bool (<-Op.equal t .nilIface .nilIface)):Sem Value):=rfl;simp[this,q,sN]
  ·simp only[execOp,j,s,p,l,Sem.run_bind,hg,Result.andThen_ok];have:binOp .neq t .nilIface .nilIface=(do pure (.bool (!(<-Op.equal t .nilIface .nilIface))):Sem Value):=rfl;simp[this,q,sN]
 ·rename_i ty u b;have f:val L ρ e=.nilIface:=by
   simp only[bI,aaO] at d;rw[<-d];rfl
  exact Jj m he hd j n d (.iface ty u) .nilIface false (cG b) f (by simp) (by simp) (by simp) (by simp) (by simp) (by simp) (QK r) c
 ·exact c.elim
theorem CO {l c:List Value}{b r:Bool}(h:iU [] l c b=some r):l=[]/\c=[]/\r=b:=by
 cases l with
 | cons v l=>simp[iU] at h
 | nil =>
  cases c with
  | cons v l=>simp[iU] at h
  | nil=>simp only[iU,aaO] at h;exact⟨rfl,rfl,h.symm⟩
theorem z6 {ks:List Bool}{l c:List Value}{d r:Bool}(h:iU (true::ks) l c d=some r):∃k a f b e,l=.int k a::f/\c=.int k b::e/\iU ks f e (d&&decide (a=b))=some r:=by
 cases l with
 | nil=>simp[iU] at h
 | cons v l =>
  cases c with
  | nil=>cases v<;>simp[iU] at h
  | cons j c =>
   cases v<;>cases j<;>try (simp[iU] at h;done)
   rename_i k a n b;simp only[iU] at h;split at h
   ·rename_i m;have:=z5 m;subst this;exact⟨k,a,l,b,c,rfl,rfl,h⟩
   ·cases h
theorem wP {ks:List Bool}{l c:List Value}{d r:Bool}(h:iU (false::ks) l c d=some r):∃a f b e,l=.bool a::f/\c=.bool b::e/\iU ks f e (d&&decide (a=b))=some r:=by
 cases l with
 | nil=>simp[iU] at h
 | cons v l =>
  cases c with
  | nil=>cases v<;>simp[iU] at h
  | cons j c =>
   cases v<;>cases j<;>try (simp[iU] at h;done)
   rename_i a b;simp only[iU] at h;exact⟨a,l,b,c,rfl,rfl,h⟩
theorem CP (k:IntKind):pG k k=true:=by cases k<;>rfl
theorem Jm:∀{ks:List Bool}{l f:List Value}{d r:Bool},iU ks l f d=some r->∃e,(∀c,iU ks l f c=some (c&&e))/\r=(d&&e):=by
 intro ks
 induction ks with
 | nil =>
  intro l f d r h;obtain⟨rfl,rfl,rfl⟩:=CO h;exact⟨true,fun c=>by simp[iU],by simp⟩
 | cons k ks n =>
  intro l f d r h;cases k with
  | true =>
   obtain⟨k,a,q,b,p,rfl,rfl,m⟩:=z6 h;obtain⟨e,h1,j⟩:=n m;exact⟨decide (a=b)&&e,fun c=>by simp only[iU,CP,h1,Bool.and_assoc],by rw[j,Bool.and_assoc]⟩
  | false =>
   obtain⟨a,q,b,p,rfl,rfl,m⟩:=wP h;obtain⟨e,h1,j⟩:=n m;exact⟨decide (a=b)&&e,fun c=>by simp only[iU,h1,Bool.and_assoc],by rw[j,Bool.and_assoc]⟩
theorem wQ {t:TypeId}{d:TypeDesc}(b:P.underlying t=some d) (c:eM d=false) {cs:Array Value}{off:Nat}{v:Value}(h:cs[off]?=some v):(part t cs off).run P w=.ok v w:=by
 simp only[part,Sem.run_bind,zZ b,Result.andThen_ok,c,aa5,abR,h,Sem.run_pure]
theorem sU {d:Nat}{xs ys:Array Value}:∀{fs:List Field}{k:Nat}{ks:List Bool}{b:Bool},n9 P fs k=some ks->iU ks (xs.toList.drop k) (ys.toList.drop k) true=some b->(Op.eqFields (d+1) xs ys fs).run P w=.ok b w
 | [],k,ks,b,h,he=>by
  simp only[n9,aaO] at h;subst h;obtain⟨_,_,rfl⟩:=CO he;simp[Op.eqFields]
 | f::fs,k,ks,b,h,he=>by
  have hcons:∀{zs:Array Value}{v:Value}{l:List Value},zs.toList.drop k=v::l->zs[k]?=some v/\zs.toList.drop (k+1)=l:=by
   intro zs v l e;refine⟨?_,?_⟩
   ·have:=xo (fun q=>q[0]?) e;simp only[abz,Nat.add_zero,aa6] at this;simpa using this
   ·rw[<-List.drop_drop,e];rfl
  have fin:∀{u v:Value}{l l':List Value}{ks':List Bool}{r:Bool}{dd:TypeDesc},P.underlying f.type=some dd->eM dd=false->f.offset=k->f.name≠"_"->xs.toList.drop k=u::l->ys.toList.drop k=v::l'->(Op.equalIn (d+1) f.type u v).run P w=.ok r w ->
    n9 P fs (k+1)=some ks'->iU ks' l l' r=some b->(Op.eqFields (d+1) xs ys (f::fs)).run P w=.ok b w:=by
   intro u v l l' ks' r dd hu hag ho hnm e1 e2 heq hfl hev;obtain⟨a1,a2⟩:=hcons e1;obtain⟨b1,b2⟩:=hcons e2;simp only[Op.eqFields];rw[o5 hnm];simp only[Sem.run_bind,ho,wQ hu hag a1,wQ hu hag b1,Result.andThen_ok,heq];obtain⟨r0,q1,q2⟩:=Jm hev;cases r with
   | false =>
    simp only[aaY] at q2;subst q2;simp
   | true =>
    simp only[aaV] at q2;subst q2;simp only[Bool.not_true,aa5,abR];exact sU hfl (by rw[a2,b2];simpa using q1 true)
  simp only[n9] at h;split at h
  ·rename_i ki hoff hnm hu;split at h
   case h_2=>cases h
   rename_i ks' hks;injection h with h
   subst h;have hoff:=aaR hoff;have hnm:=abO hnm;obtain⟨k1,x,l1,y,l2,e1,e2,he⟩:=z6 he;exact fin hu rfl hoff hnm e1 e2 (run_equalIn_int w d f.type k1 _ x y hu) hks (by rw[show(x == y)=decide (x=y) from rfl];simpa using he)
  ·rename_i hoff hnm hu;split at h
   case h_2=>cases h
   rename_i ks' hks;injection h with h
   subst h;have hoff:=aaR hoff;have hnm:=abO hnm;obtain⟨x,l1,y,l2,e1,e2,he⟩:=wP he;have hb:(x == y)=decide (x=y):=by cases x<;>cases y<;>rfl
   exact fin hu rfl hoff hnm e1 e2 (run_equalIn_bool' w d f.type x y hu) hks (by rw[hb];simpa using he)
  ·cases h
theorem Jo {t t':TypeId}{h:Array Field}{neg:Bool}{ks:List Bool}{y z:Operand}{n m:X}(hs:St F L w) (he:aA L ρ a) (hd:∀k,o.dst=some k->k<a.tmps.size)
  (r:o.op=.binOp (if neg then .neq else .eql) t y z t') (s:P.underlying t=some (.struct h)) (hk:n9 P h.toList 0=some ks) (hp:P.stoodInHeld t=false) (hg:P.eqGuardType P.depth t=false) (hy:bI y=some n) (hz:bI z=some m)
  (c:evalOp P (.eqA neg ks n m) o.dst F L ρ K):o.wp P a w (bD F L w a K) Q:=by
 have u:=aD hy he;have p:=aD hz he;simp only[evalOp,aH] at c;split at c
 case h_2=>exact c.elim
 rename_i cs ds j l;split at c
 case h_2=>exact c.elim
 rename_i b hb;have q:=cG (L:=L) j;have vz:=cG (L:=L) l;have f:P.fieldsOf t=h:=by simp only[Program.fieldsOf,s]
 have e:(Op.equalIn 10000 t (.agg cs) (.agg ds)).run P w=.ok b w:=by
  rw[show(10000:Nat)=9999+1 from rfl,run_equalIn_agg w 9999 t cs ds (by rw[f];exact s) hp,f];exact sU (d:=9998) hk (by simpa using hb)
 refine bR hs he hd (v:=.bool (sN neg b)) (x:=.v (.bool (sN neg b))) ?_ rfl cq eJ c;cases neg
 ·simp only[execOp,r,u,p,q,vz,Sem.run_bind,run_eqGuard_agg w _ t y z cs ds hg,Result.andThen_ok];simp[run_eql_struct,e,sN]
 ·simp only[execOp,r,u,p,q,vz,Sem.run_bind,run_eqGuard_agg w _ t y z cs ds hg,Result.andThen_ok];simp[run_neq_struct,e,sN]
end
section
variable {P:Program}{F:au}{L:Loc}{ρ:Env}{a:Act}{w:World}{K:di}{o:Oper}{Q:Exit->Act->World->Prop}
theorem SI {t:TypeId}{op:UnOp}{y:Operand}{l:X}(f:St F L w) (he:aA L ρ a) (h:∀k,o.dst=some k->k<a.tmps.size)
  (j:o.op=.unOp op t y) (m:bI y=some l) (d:evalOp P (.un op l) o.dst F L ρ K):o.wp P a w (bD F L w a K) Q:=by
 have e:=aD m he;simp only[evalOp,aH] at d;split at d
 ·rename_i b c;refine bR f he h (v:=.bool (!b)) (x:=.v (.bool (!b))) ?_ rfl cq eJ d;simp[execOp,j,e,cG c,Op.unary]
 ·rename_i k n c;obtain⟨d⟩:=d;refine bR f he h (v:=.int k (k.wrap (0-n))) (x:=.v (.int k (k.wrap (0-n)))) ?_ rfl cq eJ d;simp[execOp,j,e,cG c,Op.unary,Op.intArith]
 ·rename_i k n c;refine bR f he h ?_ rfl cq eJ d;simp[execOp,j,e,cG c,Op.unary,Op.intBits];rfl
 ·exact d.elim
theorem Mr {s t:TypeId}{k k0:IntKind}{y:Operand}{d:X}(f:St F L w) (he:aA L ρ a) (j:∀k,o.dst=some k->k<a.tmps.size)
  (l:o.op=.convert s t y) (h1:P.underlying s=some (.int k0)) (m:P.underlying t=some (.int k)) (h:bI y=some d) (b:evalOp P (.conv k d) o.dst F L ρ K):o.wp P a w (bD F L w a K) Q:=by
 have e:=aD h he;simp only[evalOp,aH] at b;split at b
 ·rename_i k1 n c;obtain⟨b⟩:=b;refine bR f he j (v:=.int k (k.wrap n)) (x:=.v (.int k (k.wrap n))) ?_ rfl cq eJ b;simp[execOp,l,e,cG c,convert,run_underlying h1,run_underlying m,Conv.intToInt]
 ·exact b.elim
theorem Ms {f:FuncId}{d e:Array Operand}{b c:List X}(h:St F L w) (he:aA L ρ a) (n:∀k,o.dst=some k->k<a.tmps.size)
  (l:o.op=.makeFunc (.func f) d e) (h1:ga d.toList=some b) (p:ga e.toList=some c) (j:evalOp P (.mkfn f b c) o.dst F L ρ K):o.wp P a w (bD F L w a K) Q:=by
 have q:d.map a.eval=(bn L ρ b).toArray:=by apply Array.ext';simpa using gh h1 he
 have m:e.map a.eval=(bn L ρ c).toArray:=by apply Array.ext';simpa using gh p he
 refine bR h he n ?_ rfl cq eJ j;simp[execOp,l,Instr.makeFunc,q,m];rfl
theorem Mt {i:Nat}{y:Operand}{d:X}(f:St F L w) (he:aA L ρ a) (l:∀k,o.dst=some k->k<a.tmps.size)
  (m:o.op=.extract y i) (h:bI y=some d) (b:evalOp P (.extr d i) o.dst F L ρ K):o.wp P a w (bD F L w a K) Q:=by
 have e:=aD h he;simp only[evalOp,aH] at b;split at b
 case h_2=>exact b.elim
 rename_i n c;split at b
 case h_2=>exact b.elim
 rename_i v j;refine bR f he l (v:=v) (x:=.v v) ?_ rfl cq eJ b;have:n[i]?=some v:=by simpa using j
 simp[execOp,m,e,cG c,Instr.extract,this]
theorem Hq {t f:Nat}{y:Operand}{r:X}{z:Array Field}{h:Field}{i:TypeInfo}(p:St F L w) (he:aA L ρ a) (s:∀k,o.dst=some k->k<a.tmps.size)
  (ho:o.op=.fieldAddr t y f) (ht:P.underlying t=some (.struct z)) (hf:z[f]?=some h) (hi:P.info? h.type=some i) (l:i.size≠0) (q:bI y=some r)
  (m:evalOp P (.fieldA h.offset r) o.dst F L ρ K):o.wp P a w (bD F L w a K) Q:=by
 have ey:=aD q he;have run:∀d:Addr,val L ρ r=.pointer (some d)->(execOp a.eval o).run P w=.ok (.value (.pointer (some (d.add h.offset)))) w:=by
  intro d hv;simp[execOp,ho,ey,hv,Instr.fieldAt,run_underlying ht,hf,Instr.sureAddr,fieldPlace,sizeOf,typeInfo,hi,l]
 simp only[evalOp,aH] at m;split at m
 ·rename_i k off c;obtain⟨g,ty,cs,u⟩:=pI q he c;refine bR p he s (v:=.pointer (some ⟨g,off+h.offset,none⟩)) (x:=.own k (off+h.offset)) ?_ (by simp only[conc,u]) (fun k' ab e=>by injection e with e1 e2;subst e1;exact⟨g,ty,cs,u⟩) (fun _ _ e=>by cases e) m;rw[run ⟨g,off,none⟩ (by simp only[val,c,conc,u]),cT]
 ·rename_i d j c;have l:=qH q he c;cases d with
  | none=>exact vv rfl l
  | some d =>
   refine bR p he s (v:=.pointer (some (d.add (j+h.offset)))) (x:=.el (some d) (j+h.offset)) ?_ rfl (fun _ _ e=>by cases e) (fun n j' e=>by injection e with e1 e2;subst e1;simp) m;rw[run (d.add j) (by simp only[val,c,conc])];congr 4;obtain⟨b,o',sp⟩:=d;unfold Addr.add
   by_cases h1:j=0<;>by_cases h2:h.offset=0<;>simp[h1,h2,Nat.add_assoc]
 ·rename_i d c;refine bR p he s (v:=.pointer (some (d.add h.offset))) (x:=.el (some d) h.offset) ?_ rfl (fun _ _ e=>by cases e) (fun n j' e=>by injection e with e1 e2;subst e1;simp) m;rw[run d (cG c)]
 ·exact m.elim
theorem Mu {t e:TypeId}{y z:Operand}{p m:X}{i:TypeInfo}(r:St F L w) (he:aA L ρ a) (hd:∀k,o.dst=some k->k<a.tmps.size)
  (ho:o.op=.indexAddr t y z) (ht:P.underlying t=some (.slice e)) (hi:P.info? e=some i) (u:bI y=some p) (s:bI z=some m)
  (b:evalOp P (.idxA i.size p m) o.dst F L ρ K):o.wp P a w (bD F L w a K) Q:=by
 have ey:=aD u he;have ez:=aD s he;simp only[evalOp,aH] at b;split at b
 case h_2=>exact b.elim
 rename_i d n c k j f h;obtain⟨l,h1,h2,b⟩:=b;cases d with
 | none=>exact vv rfl l
 | some d =>
  refine bR r he hd (v:=.pointer (some (d.add (j.toNat*i.size)))) (x:=.el (some d) (j.toNat*i.size)) ?_ rfl (fun _ _ e=>by cases e) (fun q j' e=>by injection e with e1 e2;subst e1;simp) b;simp[execOp,ho,ey,ez,cG f,cG h,Instr.indexAt,asIntOf,run_underlying ht,h1,h2,sizeOf,typeInfo,hi]
theorem QL {t e:TypeId}{y:Operand}{h:X}{c:Call}(j:St F L w) (he:aA L ρ a) (u:∀k,o.dst=some k->k<a.tmps.size)
  (q:o.op=.call c) (p:c.callee=.builtin .len) (m:c.args=#[y]) (f:c.argTypes=#[t]) (r:P.underlying t=some (.slice e)) (l:bI y=some h)
  (b:evalOp P (.len h) o.dst F L ρ K):o.wp P a w (bD F L w a K) Q:=by
 have s:=aD l he;simp only[evalOp,aH] at b;split at b
 ·rename_i z n cp d;refine bR j he u (v:=.int .i64 n) (x:=.v (.int .i64 n)) ?_ rfl cq eJ b;simp[execOp,q,resolve,p,m,f,invoke,builtin,Builtin.len_,s,cG d,run_underlying r,goInt]
 ·exact b.elim
theorem Jp {L:Loc}{ρ:Env}:∀{xs:List X},bn L ρ xs=(xs.map (ev ρ)).map (conc L)
 | []=>rfl
 | _::xs=>by simp[bn,val,Jp (xs:=xs)]
theorem QM (mx:Bool) (k:IntKind):∀(l:List SV) (a0 m:Int),PN mx a0 l=some m ->
  ((l.map (conc L)).foldlM (if mx then Builtin.max2 else Builtin.min2) (.int k a0)).run P w=.ok (.int k m) w:=by
 intro l
 induction l with
 | nil=>intro a0 m h;simp only[PN,aaO] at h;subst h;rfl
 | cons x l d =>
  intro a0 m h;unfold PN at h;split at h
  ·rename_i c;cases c
  ·rename_i f b e c;injection c with h1 h2
   subst h1 h2;have:=d _ _ h;cases mx
   ·simp only[aa0,List.foldlM_cons,conc,Sem.run_bind];simp only[aa5,abR] at this ⊢;simp only[Builtin.min2,Sem.run_pure,Result.andThen_ok];exact this
   ·simp only[aa0,List.foldlM_cons,conc,Sem.run_bind];simp only[abl] at this ⊢;simp only[Builtin.max2,Sem.run_pure,Result.andThen_ok];exact this
  ·cases h
theorem PV {mx:Bool}{c:Call}{xs:List X}(j:St F L w) (he:aA L ρ a) (q:∀k,o.dst=some k->k<a.tmps.size)
  (h:o.op=.call c) (e:c.callee=.builtin (if mx then .max else .min)) (r:ga c.args.toList=some xs)
  (d:evalOp P (.mm mx xs) o.dst F L ρ K):o.wp P a w (bD F L w a K) Q:=by
 have b:=gh r he;rw[Jp] at b;simp only[evalOp,aH] at d;split at d
 case h_2=>exact d.elim
 rename_i k a0 l n;split at d
 case h_2=>exact d.elim
 rename_i m p;rw[n] at b;have f:=QM (P:=P) (L:=L) (w:=w) mx k l a0 m p;refine bR j he q (v:=.int k m) (x:=.v (.int k m)) ?_ rfl cq eJ d;cases mx
 ·simp only[aa5,abR] at e f;simp only[execOp,h,resolve,e,invoke,builtin,Builtin.min_,Sem.run_bind,Sem.run_pure,Result.andThen_ok,Array.toList_map,b,aa0,conc,f]
 ·simp only[abl] at e f;simp only[execOp,h,resolve,e,invoke,builtin,Builtin.max_,Sem.run_bind,Sem.run_pure,Result.andThen_ok,Array.toList_map,b,aa0,conc,f]
theorem Mv {t:TypeId}{d:TypeDesc}{y:Operand}{h:X}(f:St F L w) (he:aA L ρ a) (q:∀k,o.dst=some k->k<a.tmps.size)
  (m:o.op=.makeInterface t y) (n:P.underlying t=some d) (c:∀s,d≠.interface s) (r:bI y=some h) (e:evalOp P (.mkif t h) o.dst F L ρ K):o.wp P a w (bD F L w a K) Q:=by
 have p:=aD r he;simp only[evalOp,aH] at e;split at e
 ·rename_i v b;refine bR f he q (v:=.iface t v) (x:=.v (.iface t v)) ?_ rfl cq eJ e;simp only[execOp,m,p,cG b,Instr.makeInterface];simp only[Sem.run_bind,Sem.run_map,run_underlying n,Result.andThen_ok];cases d<;>first | exact vv rfl (c _) | simp
 ·rename_i l j b;refine bR f he q (v:=.iface t (.pointer (some (l.add j)))) (x:=.v (.iface t (.pointer (some (l.add j))))) ?_ rfl cq eJ e;simp only[execOp,m,p,val,b,conc,Instr.makeInterface];simp only[Sem.run_bind,Sem.run_map,run_underlying n,Result.andThen_ok];cases d<;>first | exact vv rfl (c _) | simp
 ·exact e.elim
theorem QN {t xt:TypeId}{d:TypeDesc}{i:TypeInfo}{z:Value}{y:Operand}{q:X}(h:St F L w) (he:aA L ρ a) (n:∀k,o.dst=some k->k<a.tmps.size)
  (j:o.op=.typeAssert y xt t true) (l:P.underlying t=some d) (c:∀ms,d≠.interface ms) (hi:P.info? t=some i) (p:i.zero=some z) (s:bI y=some q) (f:evalOp P (.tas t z q) o.dst F L ρ K):o.wp P a w (bD F L w a K) Q:=by
 have m:=aD s he;simp only[evalOp,aH] at f;split at f
 ·rename_i b;refine bR h he n (v:=.tuple #[z,.bool false]) (x:=.v (.tuple #[z,.bool false])) ?_ rfl cq eJ f;simp only[execOp,j,m,cG b,Instr.typeAssert];simp only[Sem.run_bind,Sem.run_map,run_underlying l,Result.andThen_ok];cases d<;>first | exact vv rfl (c _) | simp[zeroValue,typeInfo,hi,p]
 ·rename_i r u b;split at f
  ·rename_i hb;have hb:=aaR hb;refine bR h he n (v:=.tuple #[u,.bool true]) (x:=.v (.tuple #[u,.bool true])) ?_ rfl cq eJ f;simp only[execOp,j,m,cG b,Instr.typeAssert];simp only[Sem.run_bind,Sem.run_map,run_underlying l,Result.andThen_ok];cases d<;>first | exact vv rfl (c _) | simp[hb]
  ·rename_i hb;have hb:r≠t:=fun e=>by rw[e,Nat.beq_refl] at hb;cases hb
   refine bR h he n (v:=.tuple #[z,.bool false]) (x:=.v (.tuple #[z,.bool false])) ?_ rfl cq eJ f;simp only[execOp,j,m,cG b,Instr.typeAssert];simp only[Sem.run_bind,Sem.run_map,run_underlying l,Result.andThen_ok];cases d<;>first | exact vv rfl (c _) | simp[zeroValue,typeInfo,hi,p,hb]
 ·exact f.elim
theorem FL:∀{l:List (TypeId×String)}{t:TypeId}{b:String},SG l t b=true->(t,b)∈l
 | [],_,_,h=>by cases h
 | (t,b)::l,e,d,h=>by
  simp only[SG] at h;split at h
  ·rename_i h1 c;rw[<-aaR h1,<-abv c];exact List.mem_cons_self ..
  ·exact abj _ (FL h)
theorem z7 {t:TypeId}{n:String}{f:FuncId}(h:sM P t n=some f):∃i m b d,P.info? t=some i/\i.methods.find? (·.name == n)=some m/\m.path.toList=[]/\m.func=some (f,b)/\P.underlying t=some d /\
  ((∃e,d=.pointer e/\b=true)\/((∀e,d≠.pointer e)/\b=false)):=by
 simp only[sM] at h;split at h
 case h_2=>cases h
 rename_i i hi;split at h
 case h_2=>cases h
 rename_i m l;split at h
 case h_2=>cases h
 rename_i f' b k hf;split at h
 ·rename_i e c;injection h with h;subst h
  exact⟨i,m,_,_,hi,l,k,hf,c,.inl ⟨_,rfl,rfl⟩⟩
 ·cases h
 ·rename_i d j c;injection h with h;subst h
  exact⟨i,m,_,_,hi,l,k,hf,c,.inr ⟨fun e he=>j e he,rfl⟩⟩
 ·cases h
theorem Aa (P:Program):∃n,P.types.size+Made.depth=n+1:=⟨P.types.size+99,by simp[Made.depth]⟩
theorem Hr {t:TypeId}{c:String}{f:FuncId}(h:sM P t c=some f) (v:Value) (w:World):(method (P.types.size+Made.depth) t v c).run P w=.ok (f,v) w:=by
 obtain⟨i,m,r,d,h1,p,j,q,l,b⟩:=z7 h;obtain⟨n,k⟩:=Aa P;rw[k];simp only[method,Sem.run_bind,typeInfo,run_program,Result.andThen_ok,h1,Sem.run_pure,p,j,follow,q,receiverAt,run_underlying l];rcases b with⟨e,rfl,rfl⟩ | ⟨b,rfl⟩
 ·simp only[Place.get,Sem.run_pure,Result.andThen_ok]
 ·cases d<;>first | exact vv rfl (b _) | simp only[Place.get,Sem.run_pure,Result.andThen_ok]
theorem Hs {t:TypeId}{c:String}{f:FuncId}(h:sM P t c=some f) (v:Value) (w:World):(nilAhead (P.types.size+Made.depth) t v c).run P w=.ok (some false) w:=by
 obtain⟨i,m,r,d,h1,p,j,q,l,b⟩:=z7 h;obtain⟨n,k⟩:=Aa P;rw[k];simp only[nilAhead,Sem.run_bind,typeInfo,run_program,Result.andThen_ok,h1,Sem.run_pure,p,j,followBlind,q];rcases b with⟨e,rfl,rfl⟩ | ⟨b,rfl⟩
 ·rfl
 ·simp only[Sem.run_bind,run_underlying l,Result.andThen_ok];cases d<;>first | exact vv rfl (b _) | rfl
theorem Mw {t:TypeId}{b:String}{d e:Array Operand}(f:St F L w) (he:aA L ρ a) (m:∀k,o.dst=some k->k<a.tmps.size)
  (j:o.op=.makeFunc (.methodOf t b) d e) (h1:d.toList=[]) (n:e.toList=[]) (h:evalOp P (.mov (.c (.func (.methodOf t b) #[] #[]))) o.dst F L ρ K):o.wp P a w (bD F L w a K) Q:=by
 have p:d=#[]:=by apply Array.ext';exact h1
 have l:e=#[]:=by apply Array.ext';exact n
 refine bR f he m (v:=.func (.methodOf t b) #[] #[]) (x:=.v (.func (.methodOf t b) #[] #[])) ?_ rfl cq eJ h;simp[execOp,j,Instr.makeFunc,p,l]
theorem CQ {t:TypeId}{g k:Nat}{d:TypeDesc}{i:TypeInfo}(h:St F L w) (he:aA L ρ a) (y:∀k,o.dst=some k->k<a.tmps.size)
  (q:o.op=.load t (.global g)) (r:P.underlying t=some d) (hi:P.info? t=some i) (c:eM d=false) (hg:v9 g=some k) (e:evalOp P (.gload g) o.dst F L ρ K):o.wp P a w (bD F L w a K) Q:=by
 simp only[evalOp,aH] at e;obtain⟨v,ty,z,m,e⟩:=e;have s:=h.frz _ _ m;refine bR h he y (v:=v) (x:=.v v) ?_ rfl cq eJ e;have p:a.eval (.global g)=.pointer (some ⟨g,0,none⟩):=rfl;have b:∀(j:Nat) (u:Value),[v][j]?=some u->w.cell? ((⟨g,0,none⟩:Addr).add j)=some u:=by
  intro j u f;cases j with
  | zero =>
   simp only[aa6,aaO] at f;subst f;rw[cT];simp[World.cell?,s]
  | succ j=>simp at f
 have l:=oh r hi b (n:=1) rfl (by rw[c]);rw[c] at l;simp only[execOp,q,p,Sem.run_bind,l,Result.andThen_ok,Sem.run_pure,gU]
theorem Jq {y:Operand}{y':X}(l:St F L w) (he:aA L ρ a) (r:∀k,o.dst=some k->k<a.tmps.size)
  (n:o.op=.nilCheck y) (hy:bI y=some y') (s:PI P=true) (c:evalOp P (.nilck y') o.dst F L ρ K):o.wp P a w (bD F L w a K) Q:=by
 have q:=aD hy he;simp only[evalOp,aH] at c;split at c
 ·rename_i k off b;obtain⟨g,ty,cs,hg⟩:=pI hy he b;refine bR l he r (v:=.pointer (some ⟨g,off,none⟩)) (x:=.own k off) ?_ (by simp only[conc,hg]) (fun k' al e=>by injection e with e1 e2;subst e1;exact⟨g,ty,cs,hg⟩) (fun _ _ e=>by cases e) c;simp[execOp,n,q,val,b,conc,hg]
 ·rename_i d j b;obtain⟨aa,c⟩:=c;cases d with
  | none=>exact vv rfl aa
  | some d =>
   refine bR l he r (v:=.pointer (some (d.add j))) (x:=.el (some d) j) ?_ rfl (fun _ _ e=>by cases e) (fun am j' e=>by injection e with e1 e2;subst e1;simp) c;simp[execOp,n,q,val,b,conc]
 ·rename_i d b;refine bR l he r (v:=.pointer (some d)) (x:=.v (.pointer (some d))) ?_ rfl cq eJ c;simp[execOp,n,q,cG b]
 ·rename_i f h m b;refine bR l he r (v:=.func (.func f) h m) (x:=.v (.func (.func f) h m)) ?_ rfl cq eJ c;simp[execOp,n,q,cG b]
 ·rename_i nm h m b;split at c
  case h_2=>exact c.elim
  rename_i t u z;obtain⟨hm,c⟩:=c;have h1:=aa1.1 s _ (FL hm);obtain⟨f,hf⟩:=Option.isSome_iff_exists.1 h1;have p:h[0]?=some (.iface t u):=by rw[<-Array.getElem?_toList,z];rfl
  refine bR l he r (v:=.func (.method nm) h m) (x:=.v (.func (.method nm) h m)) ?_ rfl cq eJ c;have hn:=Hs (P:=P) hf u w;simp only[execOp,n,q,cG b,p,Sem.run_bind,run_program,Result.andThen_ok,Sem.run_pure,hn];rfl
 ·exact c.elim
theorem CR:∀{l:List Value},jT l=true->∀u∈l,u.oneCell'=true
 | [],_,u,b=>by cases b
 | v::l,h,u,b=>by
  simp only[jT] at h;split at h
  ·rename_i h1;rcases aaW.1 b with rfl | b
   ·exact h1
   ·exact CR h u b
  ·cases h
theorem CS {t:TypeId}{i:TypeInfo}(hi:P.info? t=some i) {g off:Nat}{v:Value}{b:Array Value}{ty:TypeId}(f:w.heap[g]?=some (.cells b ty (0,0)))
  (e:v.cells.size=i.size) (d:off+v.cells.size<=b.size) (h1:∀u∈v.cells.toList,u.oneCell'=true) :
  (Instr.storeAt t (.pointer (some ⟨g,off,none⟩)) v).run P w=.ok () (w.setRow g (bP b.toList off v.cells.toList).toArray):=by
 have c:=run_storeCells_at P g off ty v.cells.toList 0 b w f (by simpa using d) h1;simp only[Nat.add_zero] at c;simp only[Instr.storeAt,Instr.sureAddr,storeVar,Sem.run_bind,Sem.run_pure,Result.andThen_ok,sizeOf,typeInfo,run_program,hi];rw[q9 (by omega)];rw[c];rfl
theorem sV (w:World) (g:Nat) (cs:Array Value):w.grownBy (w.setRow g cs) (some g) :=
 ⟨rfl,rfl,rfl,by simp[World.setRow],fun k _ b=>setRow_other w g k cs (fun e=>b (by rw[e]))⟩
theorem Jr {t:TypeId}{y z:Operand}{y' z':X}{i:TypeInfo}(hs:St F L w) (he:aA L ρ a) (hd:∀k,o.dst=some k->k<a.tmps.size)
  (ho:o.op=.store t y z) (hi:P.info? t=some i) (bz:i.size≠0) (hy:bI y=some y') (hz:bI z=some z')
  (p:evalOp P (.store i.size y' z') o.dst F L ρ K):o.wp P a w (bD F L w a K) Q:=by
 have ey:=aD hy he;have ez:=aD hz he;have ao:aL (val L ρ z')=(a.eval z).cells.toList:=by rw[ez,ni]
 have turn:∀(k:Nat) (g:Nat) (oo o':Own) (f:Array Value) (ty:TypeId) (off:Nat),L.get k=some oo->oo.blk=some g->o'.blk=some g->w.heap[g]?=some (.cells f ty (0,0)) ->
   (a.eval z).cells.size=i.size->off+(a.eval z).cells.size<=f.size->(∀u∈(a.eval z).cells.toList,u.oneCell'=true)->a.eval y=.pointer (some ⟨g,off,none⟩) ->
   o'.ok (w.setRow g (bP f.toList off (a.eval z).cells.toList).toArray)->(∀g' ty' cs',oo=.box g' ty' cs'->∃ae,o'=.box g' ty' ae) ->
   K F (L.set k o') (put o.dst (.v undef) ρ)->o.wp P a w (bD F L w a K) Q:=by
  intro k g oo o' f ty off hk hb bb hg bj d h1 al bm r p;have q:=sV w g (bP f.toList off (a.eval z).cells.toList).toArray;have bt:St F (L.set k o') (w.setRow g (bP f.toList off (a.eval z).cells.toList).toArray) :=
   hs.turn hk bm (fun b ar bi=>q.block b ar (fun e=>bi (by rw[hb,e]))) (fun g' bc=>.inl (by rw[hb];rw[bb] at bc;exact bc))
  refine CM he hd (w':=w.setRow g (bP f.toList off (a.eval z).cells.toList).toArray) ?_ bt ?_ ?_ p
  ·simp[execOp,ho,al,CS hi hg bj d h1]
  ·refine⟨au.le_refl F,rfl,rfl,rfl,q.size,fun b ar hn=>q.block b ar (fun e=>hn ⟨k,oo,hk,by rw[hb,e]⟩),fun b h=>.inl h,fun b h=>?_⟩;rcases Loc.aan h with h | h
   ·rw[bb] at h;exact .inl ⟨k,oo,hk,by rw[hb];exact h⟩
   ·exact .inl h
  ·intro j g' ty' cs' e;rw[Loc.aac];split
   ·rename_i hj;subst hj;rw[hk] at e;injection e with e
    obtain⟨ae,h⟩:=r g' ty' cs' e;exact⟨ae,by rw[h]⟩
   ·exact⟨cs',e⟩
 have l:∀(ad:Option Addr) (j:Nat),ad≠none->a.eval y=conc L (.el ad j)->gQ (aL (val L ρ z')) i.size=true->jT (aL (val L ρ z'))=true ->
   (qG L ad j (aL (val L ρ z')) fun L'=>K F L' (put o.dst (.v undef) ρ))->o.wp P a w (bD F L w a K) Q:=by
  rintro ad j bi al hl h1 ⟨k,v,ty,sz,m,xs,cm,c,hk,rfl,rfl,d,ba,p⟩;have hl:=jz hl;rw[ao] at hl ba d p;have an:(a.eval z).cells.size=i.size:=by simpa using hl
  have s:=hs.own k _ hk;simp only[Own.ok] at s;obtain⟨hx,s⟩:=s;rcases s with⟨e,_⟩ | ⟨g,cap,f,e,bu,hg,be,bs,ag,ab⟩
  ·cases e
  ·injection e with e1 e2 e3
   injection e1 with e1
   subst e1 e3;have cf:m*sz<=f.size:=by rw[ag];exact Nat.mul_le_mul_right _ be
   rw[<-ab] at d;have av:j+(a.eval z).cells.size<=m*sz:=by simp at d;omega
   refine turn k g _ (.row (.slice (some ⟨g,0,none⟩) m c) ty sz m (bP xs j (a.eval z).cells.toList)) f ty j hk rfl rfl hg an (by omega) ba (by rw[al];simp only[conc];rw[cT];simp) ?_ (fun g' ty' cs' e=>by cases e) p;refine⟨?_,.inr ⟨g,c,_,rfl,bu,setRow_heap w g f _ ty _ hg,be,bs,?_,?_⟩⟩
   ·rw[kx _ _ _ (by rw[hx];simpa using av)];exact hx
   ·have:(bP f.toList j (a.eval z).cells.toList).length=f.size:=by rw[kx _ _ _ (by simp;omega)];simp
    simp[this,ag]
   ·rw[List.toList_toArray,<-ab];apply abQ;intro n;have bo:j+(a.eval z).cells.toList.length<=f.toList.length:=by simp;omega
    rw[og (by simp;omega)]
    by_cases hn:n<m*sz
    ·rw[List.getElem?_take_of_lt hn,og bo,List.getElem?_take_of_lt hn]
    ·rw[abn (by simp;omega)];have h1:¬n<j:=by omega
     have h2:¬n<j+(a.eval z).cells.toList.length:=by simp;omega
     rw[q9 h1,q9 h2,abn (by simp;omega)]
 simp only[evalOp,aH] at p;split at p
 ·rename_i hl h1 x;rename_i k off;have hl:=jz hl;have h1:=CR h1;rw[ao] at hl h1;split at p
  case h_2=>exact p.elim
  rename_i g ty cs hk;split at p
  case h_2=>exact p.elim
  rename_i d;have bd:=wh d;have d:=jz (Bt d);have r:w.heap[g]?=some (.cells cs.toArray ty (0,0)):=by rw[<-jn bd];exact hs.own k _ hk
  have bv:off+i.size<=cs.length:=by simp at d;omega
  rw[ao] at p;have an:(a.eval z).cells.size=i.size:=by simpa using hl
  refine turn k g _ (.box g ty (bP cs off (a.eval z).cells.toList)) cs.toArray ty off hk rfl rfl r an (by simp;omega) h1 (by rw[ey];simp only[val,x,conc,hk]) ?_ (fun g' ty' cs' e=>by injection e with e1 e2 e3;subst e1 e2;exact⟨_,rfl⟩) p;show _=_;rw[jn bd];exact setRow_heap w g cs.toArray _ ty _ r
 ·rename_i hl h1 x;exact l _ _ (qH hy he x) (by rw[ey];simp only[val,x]) hl h1 p
 ·rename_i hl h1 x;rename_i ad;refine l (some ad) 0 (by simp) (by rw[ey];simp only[val,x,conc];simp[Addr.add]) hl h1 p
 ·exact p.elim
end
section
variable {P:Program}(w:World)
end
section
variable {P:Program}{F:au}{L:Loc}{ρ:Env}{a:Act}{w:World}{K:di}{o:Oper}{Q:Exit->Act->World->Prop}
theorem Ab {b:Option Operand}{c:Option X}(h:sP b=some c) (he:aA L ρ a) {d i:Int}(hi:mY ρ d c=some i) :
  (b=none/\i=d)\/∃y k,b=some y/\a.eval y=.int k i:=by
 cases b with
 | none=>simp only[sP,aaO] at h;subst h;simp only[mY,aaO] at hi;exact .inl ⟨rfl,hi.symm⟩
 | some y =>
  simp only[sP] at h;split at h
  case h_2=>cases h
  rename_i x f;injection h with h
  subst h;simp only[mY] at hi;split at hi
  case h_2=>cases hi
  rename_i k j e;injection hi with hi
  subst hi;exact .inr ⟨y,k,rfl,by rw[aD f he,cG e]⟩
theorem jA {k:IntKind}{i:Int}{y:Nat}{code:BoundsCode}(h0:0<=i) (h1:i<=y):(Instr.sliceBound (.int k i) y code).run P w=.ok i.toNat w:=by
 simp[Instr.sliceBound,asIntOf,h0,h1]
theorem vP {b:Bool}{n c:Nat}{lo hi:Option Operand}{d e:Option X}{l h:Int}(r:sP lo=some d) (s:sP hi=some e) (he:aA L ρ a)
  (el:mY ρ 0 d=some l) (p:mY ρ n e=some h) (h1:0<=l) (q:l<=h) (f:h<=c) :
  (Instr.sliceBounds b n c (lo.map a.eval) (hi.map a.eval) none).run P w=.ok (l.toNat,h.toNat,c) w:=by
 unfold Instr.sliceBounds;rcases Ab r he el with⟨rfl,rfl⟩ | ⟨y,k,rfl,m⟩<;>rcases Ab s he p with⟨rfl,rfl⟩ | ⟨z,u,rfl,j⟩
 ·simp
 ·simp[j,jA (P:=P) (w:=w) (show 0<=h by omega) f]
 ·simp[m,jA (P:=P) (w:=w) h1 q]
 ·have t:l<=(h.toNat:Nat):=by omega
  simp[m,j,jA (P:=P) (w:=w) (show 0<=h by omega) f,jA (P:=P) (w:=w) h1 t]
theorem QO {t e:TypeId}{y:Operand}{lo up:Option Operand}{p:X}{f j:Option X}{i:TypeInfo}(r:St F L w) (he:aA L ρ a) (hd:∀k,o.dst=some k->k<a.tmps.size)
  (ho:o.op=.slice t y lo up none) (ht:P.underlying t=some (.slice e)) (hi:P.info? e=some i) (z:bI y=some p) (hl:sP lo=some f) (hh:sP up=some j)
  (d:evalOp P (.slc i.size p f j) o.dst F L ρ K):o.wp P a w (bD F L w a K) Q:=by
 have ey:=aD z he;simp only[evalOp,aH] at d;split at d
 case h_2=>exact d.elim
 rename_i q n c m;split at d
 case h_2=>exact d.elim
 rename_i l h el u;obtain⟨h1,h2,s,d⟩:=d;refine bR r he hd (v:=rM q c l.toNat h.toNat i.size) (x:=.v (rM q c l.toNat h.toNat i.size)) ?_ rfl cq eJ d;have hb:=vP (P:=P) (w:=w) (b:=true) hl hh he el u h1 h2 s;simp[execOp,ho,ey,cG m,Instr.sliceAt,Instr.slice,run_underlying ht,hb,sizeOf,typeInfo,hi,rM]
theorem wR (z:Array Value) (n:Nat) (p:0<z.size):(madeCells z (n*z.size)).toList=(List.replicate n z.toList).flatten:=by
 induction n with
 | zero=>simp[madeCells]
 | succ n l =>
  rw[List.replicate_succ',List.flatten_append,<-l];apply abQ;intro j;have d:(madeCells z (n*z.size)).toList.length=n*z.size:=by simp[madeCells]
  have b:∀m j,j<m->(madeCells z m).toList[j]?=some (z[j % z.size]!):=by
   intro m j e;simp[madeCells,e]
  have f:(n+1)*z.size=n*z.size+z.size:=Nat.succ_mul _ _
  by_cases h1:j<n*z.size
  ·rw[abG (by omega),b _ _ (by omega),b _ _ h1]
  ·rw[abH (by omega),d]
   by_cases h:j<(n+1)*z.size
   ·rw[b _ _ h];have c:j-n*z.size<z.size:=by omega
    have k:j % z.size=j-n*z.size:=by
     have:j=(j-n*z.size)+z.size*n:=by rw[Nat.mul_comm z.size n];omega
     rw[this,Nat.add_mul_mod_self_left,Nat.mod_eq_of_lt c,Nat.mul_comm z.size n];omega
    simp[c,k]
   ·rw[abn (by simp[madeCells];omega),abn (by simp;omega)]
theorem Js {t e:TypeId}{y z:Operand}{y' z':X}{i:TypeInfo}{b:Value}(hs:St F L w) (he:aA L ρ a) (hd:∀k,o.dst=some k->k<a.tmps.size)
  (ho:o.op=.makeSlice t y z) (ht:P.underlying t=some (.slice e)) (hi:P.info? e=some i) (ab:i.zero=some b) (u:b.cells.size=i.size) (ar:0<i.size) (hy:bI y=some y') (hz:bI z=some z')
  (d:evalOp P (.makeS e i.size i.bytes b.cells.toList y' z') o.dst F L ρ K):o.wp P a w (bD F L w a K) Q:=by
 have ey:=aD hy he;have ez:=aD hz he;simp only[evalOp,aH] at d;split at d
 case h_2=>exact d.elim
 rename_i k1 n k2 m k aa ad am;split at d
 case h_2=>exact d.elim
 rename_i _ hk;obtain⟨h0,s,hb,l,d⟩:=d;have d:=d w.heap.size;obtain⟨r,rfl⟩:=Int.eq_ofNat_of_zero_le h0;obtain⟨q,rfl⟩:=Int.eq_ofNat_of_zero_le (Int.le_trans h0 s);simp only[Int.toNat_natCast] at hb l d;have ae:r<=q:=by omega
 have j:(i.bytes:Int)*(q:Int)<=281474976710656:=by
  have h:((i.bytes*q:Nat):Int)<=281474976710656:=by rw[Nat.mul_comm];omega
  rwa [Int.natCast_mul] at h
 have ag:(q:Int)<=9223372036854775807:=by
  have h:=l;simp[maxLen] at h;omega
 have hr:=run_make (P:=P) w t e i b ht hi ab k1 k2 r q (by omega) s j ag;simp only[Int.toNat_natCast] at hr;have f:=wR b.cells q (by omega);rw[u] at f;have c:∀m:Nat,(List.replicate m b.cells.toList).flatten.length=m*i.size:=by
  intro m;simp[u]
 have ac:(List.replicate r b.cells.toList).flatten=(List.replicate q b.cells.toList).flatten.take (r*i.size):=by
  have e1:q=r+(q-r):=by omega
  conv=>rhs;rw[e1]
  rw[<-List.replicate_append_replicate,List.flatten_append,List.take_append_of_le_length (by rw[c];exact aa3 _),abC (by rw[c];exact aa3 _)]
 have p:(w.alloc (.cells (madeCells b.cells (q*i.size)) e)).ownsRow 0 e i.size (.slice (some ⟨w.heap.size,0,none⟩) r q) r (List.replicate r b.cells.toList).flatten:=by
  refine⟨c r,.inr ⟨w.heap.size,q,madeCells b.cells (q*i.size),rfl,abe _,gW w _,ae,l,size_madeCells _ _,?_⟩⟩;rw[ac,<-f]
 obtain⟨h1,h2,h3⟩:=jY hs hk (cs:=madeCells b.cells (q*i.size)) (t:=e) (e:=.row (.slice (some ⟨w.heap.size,0,none⟩) r q) e i.size r (List.replicate r b.cells.toList).flatten) rfl p;refine jy he hd (v:=.slice (some ⟨w.heap.size,0,none⟩) r q) (x:=.v (.slice (some ⟨w.heap.size,0,none⟩) r q)) ?_ h1 h2 rfl cq eJ h3 d;simp only[execOp,ho,ey,ez,cG aa,cG ad,Sem.run_bind,hr,Result.andThen_ok,Sem.run_pure]
theorem Jt (x:St F L w) {k:Nat}{e:TypeId}{sz n u:Nat}{s v:Value}{xs f:List Value}{w':World}
  (l:L.get k=some (.row s e sz n xs)\/(L.get k=none/\s=.slice none 0 0)) (m:w'.ownsRow 0 e sz v u f) (d:w.grownBy w' s.ownBlock)
  (q:v.ownBlock=s.ownBlock\/v.ownBlock=some w.heap.size) :
  St F (L.set k (.row v e sz u f)) w'/\Step F L w F (L.set k (.row v e sz u f)) w'/\(∀j g ty cs,L.get j=some (.box g ty cs)->∃cs',(L.set k (.row v e sz u f)).get j=some (.box g ty cs')):=by
 have p:∀j g ty cs,L.get j=some (.box g ty cs)->∃cs',(L.set k (.row v e sz u f)).get j=some (.box g ty cs'):=by
  intro j g ty cs y;rw[Loc.aac];split
  ·rename_i hj;subst hj;rcases l with h | ⟨h,_⟩<;>rw[h] at y<;>cases y
  ·exact⟨cs,y⟩
 rcases l with t | ⟨t,rfl⟩
 ·refine⟨x.turn t m (fun b hb z=>d.block b hb (fun e=>z (by simpa[Own.blk] using e.symm))) (fun g c=>?_),⟨au.le_refl F,d.os,d.tape,d.output,d.size,fun b hb hn=>d.block b hb (fun e=>hn ⟨k,_,t,e.symm⟩),fun b h=>.inl h,fun b h=>?_⟩,p⟩
  ·rcases q with h | h
   ·exact .inl (by simp only[Own.blk] at c ⊢;rw[<-h];exact c)
   ·simp only[Own.blk] at c;rw[h] at c;injection c with c;exact .inr (by omega)
  ·rcases Loc.aan h with h | h
   ·simp only[Own.blk] at h;rcases q with r | r
    ·exact .inl ⟨k,_,t,by simp only[Own.blk];rw[<-r];exact h⟩
    ·rw[r] at h;injection h with h;exact .inr (by omega)
   ·exact .inl h
 ·have hv:∀g,v.ownBlock=some g->w.heap.size<=g:=by
   intro g h;rcases q with r | r
   ·rw[r] at h;cases h
   ·rw[r] at h;injection h with h;omega
  have ab:St F L w':=x.keep fun b hb=>d.block b hb (by simp[Value.ownBlock]);refine⟨ab.put t m fun g c=>⟨?_,fun ho=>?_⟩,⟨au.le_refl F,d.os,d.tape,d.output,d.size,fun b hb hn=>d.block b hb (by simp[Value.ownBlock]),fun b h=>.inl h,fun b h=>?_⟩,p⟩
  ·cases hF:F g with
   | none=>rfl
   | some _=>have h1:=x.aax (b:=g) (by rw[hF];simp);have h2:=hv g c;omega
  ·have h1:=x.aaA ho;have h2:=hv g c;omega
  ·rcases Loc.aan h with h | h
   ·exact .inr (hv b h)
   ·exact .inl h
theorem CT {e:TypeId}{sz n:Nat}{v:Value}{xs:List Value}(h:w.ownsRow 0 e sz v n xs):∃a c,v=.slice a n c/\(a=none->n=0):=by
 rcases h.2 with⟨rfl,rfl⟩ | ⟨g,cap,b,rfl,_⟩
 ·exact⟨none,0,rfl,fun _=>rfl⟩
 ·exact⟨_,cap,rfl,fun e=>(by cases e)⟩
theorem rO {t ty e:TypeId}{i:TypeInfo}(h:P.underlying t=some (.slice e)) (hi:P.info? e=some i) {s:Value}{n:Nat}{xs:List Value}(b:w.ownsRow 0 e i.size s n xs) (d:Option Addr) (c:Nat) :
  ∃w',(Builtin.append_ #[t,t] ty #[s,.slice d 0 c]).run P w=.ok s w'/\w'=w:=by
 refine⟨w,?_,rfl⟩;have hf:(Builtin.firstCells i.size 0 (.slice d 0 c)).run P w=.ok #[] w:=by
  cases d<;>simp[Builtin.firstCells,loadCells,loadCellsFrom]
 rcases b.2 with⟨rfl,rfl⟩ | ⟨g,cap,j,rfl,_,_,f,_⟩
 ·simp[Builtin.append_,run_underlying h,sizeOf,typeInfo,hi,Builtin.lenOf,hf]
 ·simp[Builtin.append_,run_underlying h,sizeOf,typeInfo,hi,Builtin.lenOf,hf,f,storeCells]
theorem QR {t e:TypeId}{y z:Operand}{y' z':X}{i:TypeInfo}{zv:Value}{c:Call}(hs:St F L w) (he:aA L ρ a) (hd:∀k,o.dst=some k->k<a.tmps.size)
  (ho:o.op=.call c) (hc:c.callee=.builtin .append) (ha:c.args=#[y,z]) (bu:c.argTypes=#[t,t]) (ht:P.underlying t=some (.slice e)) (hi:P.info? e=some i) (bm:i.zero=some zv) (bz:zv.cells.size=i.size) (az:0<i.size)
  (hy:bI y=some y') (hz:bI z=some z') (hK:evalOp P (.app e i.size i.bytes zv.cells.toList y' z') o.dst F L ρ K):o.wp P a w (bD F L w a K) Q:=by
 have ey:=aD hy he;have ez:=aD hz he;simp only[evalOp,aH] at hK;split at hK
 case h_2=>exact hK.elim
 rename_i s x bp bt;obtain⟨kd,n,xs,m,f,be,⟨ad,cx,rfl,al,aE⟩,h1,cf,bv,hK⟩:=hK;have ao:m≠0->∃d,ad=some d/\∀j u,f[j]?=some u->w.cell? (d.add j)=some u:=by
  intro hm;rcases aE with q | ⟨aw,_⟩ | ⟨k,v,ty,cr,m',ys,d,c',hk,rfl,rfl,q⟩
  ·obtain⟨d,e',cb,ab⟩:=q.cell hs;refine⟨d,e',fun j u hu=>?_⟩;have:=ab j u hu
   rwa [Nat.zero_add] at this
  ·exact vv aw hm
  ·refine⟨d,rfl,fun j u hu=>?_⟩;have r:=hs.own k _ hk;simp only[Own.ok] at r;have h0:=World.ownsRow.cells r (g:=d.block) rfl j u (q j u hu);rcases r.2 with⟨e',_⟩ | ⟨g,cap,ar,e',_⟩
   ·cases e'
   ·injection e' with e1 e2 e3
    injection e1 with e1
    subst e1;exact h0
 have bk:(L.get kd=some (.row s e i.size n xs)\/(L.get kd=none/\n=0/\xs=[]/\s=.slice none 0 0))\/(L.get kd=none/\∃ad,s=.slice (some ad) n n/\0<m/\xs.length=n*i.size/\(dG F (some ad) 0 xs\/(n=0/\xs=[]))):=by
  rcases be with h | h | h
  ·exact .inl (.inl h)
  ·exact .inl (.inr h)
  ·exact .inr h
 rcases bk with ba | ⟨ce,cc,rfl,aw,cY,cw⟩
 case inr =>
  obtain⟨d,rfl,p⟩:=ao (by omega);have cy:∀j u,xs[j]?=some u->w.cell? (cc.add j)=some u:=by
   intro j u hu;rcases cw with q | ⟨_,rfl⟩
   ·obtain⟨ds,e',cb,ab⟩:=q.cell hs;injection e' with e'
    subst e';have:=ab j u hu
    rwa [Nat.zero_add] at this
   ·simp at hu
  obtain⟨v,w',r,l,hg⟩:=run_append_arg_grows (P:=P) w t o.type e i zv i.size i.bytes ht hi bm rfl rfl bz az cc n n xs cY cy d m cx f al p (by omega) cf bv;have ac:w'.ownsRow 0 e i.size v (n+m) (xs++f):=by
   refine⟨l.1,?_⟩;rcases l.2 with h | ⟨g,cap,ar,e1,e2,e3⟩
   ·exact .inl h
   ·exact .inr ⟨g,cap,ar,e1,abe _,e3⟩
  have bc:v.ownBlock=none\/(∃g,v.ownBlock=some g/\w.heap.size<=g):=by
   rcases l.2 with⟨h,_⟩ | ⟨g,cap,ar,e1,e2,e3⟩
   ·rw[h];exact .inl rfl
   ·rw[e1];exact .inr ⟨g,rfl,e2⟩
  have hv:∀g,v.ownBlock=some g->w.heap.size<=g:=by
   intro g h;rcases bc with h' | ⟨g',h',h2⟩
   ·rw[h'] at h;cases h
   ·rw[h'] at h;injection h with h;omega
  have dd:St F L w':=hs.keep fun b hb=>hg.block b hb (by simp);have cM:St F (L.set kd (.row v e i.size (n+m) (xs++f))) w':=dd.put ce ac fun g bs=>⟨by
   cases hF:F g with
   | none=>rfl
   | some _=>have h1:=hs.aax (b:=g) (by rw[hF];simp);have h2:=hv g bs;omega,fun ho=>by have h1:=hs.aaA ho;have h2:=hv g bs;omega⟩
  have bi:Step F L w F (L.set kd (.row v e i.size (n+m) (xs++f))) w':=⟨au.le_refl F,hg.os,hg.tape,hg.output,hg.size,fun b hb hn=>hg.block b hb (by simp),fun b h=>.inl h,fun b h=>by
   rcases Loc.aan h with h | h
   ·exact .inr (hv b h)
   ·exact .inl h⟩
  have bo:∀j g ty cs,L.get j=some (.box g ty cs)->∃cs',(L.set kd (.row v e i.size (n+m) (xs++f))).get j=some (.box g ty cs'):=by
   intro j g ty cs ej;rw[Loc.aac,q9 (by rintro rfl;rw[ce] at ej;cases ej)];exact⟨cs,ej⟩
  refine jy he hd (v:=v) (x:=.v v) ?_ cM bi rfl cq eJ bo (hK v (CT ac));simp[execOp,ho,resolve,hc,ha,bu,invoke,builtin,ey,ez,cG bp,cG bt,r]
 have ag:w.ownsRow 0 e i.size s n xs:=by
  rcases ba with h | ⟨_,rfl,rfl,rfl⟩
  ·exact hs.own kd _ h
  ·exact World.ownsRow_nil w 0 e i.size
 have bl:L.get kd=some (.row s e i.size n xs)\/(L.get kd=none/\s=.slice none 0 0):=by
  rcases ba with h | ⟨h,_,_,h'⟩
  ·exact .inl h
  ·exact .inr ⟨h,h'⟩
 have fin:∀(v:Value) (w':World),(Builtin.append_ #[t,t] o.type #[s,.slice ad m cx]).run P w=.ok v w'->w'.ownsRow 0 e i.size v (n+m) (xs++f)->w.grownBy w' s.ownBlock->(v.ownBlock=s.ownBlock\/v.ownBlock=some w.heap.size)->o.wp P a w (bD F L w a K) Q:=by
  intro v w' r l hg bc;obtain⟨g1,g2,g3⟩:=Jt hs bl l hg bc;refine jy he hd (v:=v) (x:=.v v) ?_ g1 g2 rfl cq eJ g3 (hK v (CT l));simp[execOp,ho,resolve,hc,ha,bu,invoke,builtin,ey,ez,cG bp,cG bt,r]
 by_cases hm:m=0
 ·subst hm;have hn:f=[]:=abu (by simpa using al);subst hn;obtain⟨w',r,rfl⟩:=rO (P:=P) (ty:=o.type) ht hi ag ad cx;exact fin s w' r (by simpa using ag) (World.grownBy.refl _ _) (.inl rfl)
 ·have p:∃d,ad=some d/\∀j u,f[j]?=some u->w.cell? (d.add j)=some u:=by
   rcases aE with q | ⟨aw,_⟩ | ⟨k,v,ty,cr,m',ys,d,c',hk,rfl,rfl,q⟩
   ·obtain⟨d,e',cb,ab⟩:=q.cell hs;refine⟨d,e',fun j u hu=>?_⟩;have:=ab j u hu
    rwa [Nat.zero_add] at this
   ·exact vv aw hm
   ·refine⟨d,rfl,fun j u hu=>?_⟩;have r:=hs.own k _ hk;simp only[Own.ok] at r;have h0:=World.ownsRow.cells r (g:=d.block) rfl j u (q j u hu);rcases r.2 with⟨e',_⟩ | ⟨g,cap,ar,e',_⟩
    ·cases e'
    ·injection e' with e1 e2 e3
     injection e1 with e1
     subst e1;exact h0
  obtain⟨d,rfl,p⟩:=p;obtain⟨v,w',r,h2,h3,_,h5⟩:=run_append_own_at (P:=P) w 0 t o.type e i zv i.size i.bytes ht hi bm rfl rfl bz az s n xs ag d m cx f al p h1 cf bv (abe _);exact fin v w' r h2 h3 h5
end
section
variable {P:Program}{F:au}{L:Loc}{ρ:Env}{a:Act}{w:World}{K:di}{o:Oper}{Q:Exit->Act->World->Prop}
theorem vn:∀(l:List Own) (k j:Nat),Loc.get (sL k l) j=if k<=j then l[j-k]? else none
 | [],k,j=>by simp[sL,Loc.get]
 | o::l,k,j=>by
  simp only[sL,Loc.get];cases h:Nat.beq k j with
  | true=>have:=aaR h;subst this;simp
  | false =>
   have b:=f9 h;simp only[vn l (k+1) j]
   by_cases h1:k<=j
   ·rw[o5 (by omega),o5 h1,show j-k=(j-(k+1))+1 by omega,abg]
   ·rw[q9 (by omega),q9 h1]
theorem aF (l:List Own) (j:Nat):Loc.get (inp l) j=if 1000<=j then l[j-1000]? else none:=vn l 1000 j
theorem ct:∀{L:Loc}{ks:List Nat}{l:List Own},L.sub ks=some l->l.length=ks.length/\∀(i:Nat) (k:Nat),ks[i]?=some k->L.get k=l[i]?
 | L,[],l,h=>by simp only[Loc.sub,aaO] at h;subst h;simp
 | L,k::ks,l,h=>by
  simp only[Loc.sub] at h;split at h
  case h_2=>cases h
  rename_i o f h1 d;injection h with h
  subst h;obtain⟨e,b⟩:=ct d;refine⟨by simp[e],fun i c hi=>?_⟩;cases i with
  | zero=>simp at hi;subst hi;simpa using h1
  | succ i=>simp at hi;simpa using b i c hi
theorem eO:∀(ks:List Nat) (L:Loc) (j:Nat),(L.aae ks).get j=if j∈ks then none else L.get j
 | [],L,j=>by simp[Loc.aae]
 | k::ks,L,j=>by
  simp only[Loc.aae,eO ks,Loc.aaf,aaW]
  by_cases h1:j=k<;>by_cases b:j∈ks<;>simp[h1,b]
theorem cL:∀(ko:List Nat) (l:List Own) (L:Loc) (j:Nat),ko.Nodup->ko.length=l.length ->
  ((L.puts ko l).get j=L.get j/\j∉ko)\/∃i,ko[i]?=some j/\(L.puts ko l).get j=l[i]?/\i<l.length
 | [],l,L,j,_,h=>by
  refine .inl ⟨?_,by simp⟩;cases l<;>rfl
 | k::ko,[],L,j,_,h=>by simp at h
 | k::ko,o::l,L,j,d,h=>by
  simp only[aa7,Nat.add_right_cancel_iff] at h;rw[List.nodup_cons] at d;simp only[Loc.puts];rcases cL ko l (L.set k o) j d.2 h with⟨h1,c⟩ | ⟨i,h1,c,e⟩
  ·rw[Loc.aac] at h1
   by_cases b:j=k
   ·subst b;rw[o5 rfl] at h1;exact .inr ⟨0,by simp,by simpa using h1,by simp⟩
   ·rw[q9 b] at h1;exact .inl ⟨h1,by simp[b,c]⟩
  ·exact .inr ⟨i+1,by simpa using h1,by simpa using c,by simp;omega⟩
theorem Ac {l:List Nat}(h:l.Nodup) {i j:Nat}{k:Nat}(hi:l[i]?=some k) (b:l[j]?=some k):i=j:=by
 induction l generalizing i j with
 | nil=>simp at hi
 | cons x l c =>
  rw[List.nodup_cons] at h;cases i with
  | zero =>
   cases j with
   | zero=>rfl
   | succ j =>
    simp at hi b;subst hi;exact vv (aaZ b) h.1
  | succ i =>
   cases j with
   | zero =>
    simp at hi b;subst b;exact vv (aaZ hi) h.1
   | succ j =>
    simp at hi b;rw[c h.2 hi b]
theorem St.handed (b:St F L w) {ks:List Nat}{l:List Own}(c:L.sub ks=some l) (t:ks.Nodup):St F (inp l) w:=by
 obtain⟨hl,hg⟩:=ct c;have key:∀j p,Loc.get (inp l) j=some p->∃k,1000<=j/\ks[j-1000]?=some k/\L.get k=some p:=by
  intro j p e;rw[aF] at e;split at e
  case isFalse=>cases e
  rename_i h1;have s:j-1000<l.length:=(aaU.1 e).1;have n:ks[j-1000]?=some (ks[j-1000]'(by omega)):=aaQ (by omega);exact⟨_,h1,n,by rw[hg _ _ n];exact e⟩
 refine⟨b.frz,fun j p e=>?_,fun j p g e hb=>?_,fun j y p q g e u hb f=>?_,b.glob⟩
 ·obtain⟨k,_,_,h⟩:=key j p e;exact b.own k p h
 ·obtain⟨k,_,_,h⟩:=key j p e;exact b.off k p g h hb
 ·obtain⟨k,h1,v,r⟩:=key j p e;obtain⟨x,z,m,d⟩:=key y q u;have:=b.sep k x p q g r d hb f;subst this;have:=Ac t v m;omega
theorem fN (v:St F L w) {ks ko:List Nat}{l lo:List Own}(z:L.sub ks=some l) (hn:ks.Nodup) (y:ko.Nodup) (aE:∀k,k∈ko->k∈ks\/L.get k=none)
  {F':au}{w':World}(r:St F' (inp lo) w') (f:Step F (inp l) w F' (inp lo) w') (aa:ko.length=lo.length) :
  St F' ((L.aae ks).puts ko lo) w'/\Step F L w F' ((L.aae ks).puts ko lo) w':=by
 obtain⟨hl,hg⟩:=ct z;have n:∀b,(inp l).owns b->∃k o,k∈ks/\L.get k=some o/\o.blk=some b:=by
  rintro b ⟨j,p,e,hb⟩;rw[aF] at e;split at e
  case isFalse=>cases e
  have az:j-1000<l.length:=(aaU.1 e).1;have hk:ks[j-1000]?=some (ks[j-1000]'(by omega)):=aaQ (by omega);exact⟨_,p,aaZ hk,by rw[hg _ _ hk];exact e,hb⟩
 have m:∀k p b,k∉ks->L.get k=some p->p.blk=some b->¬(inp l).owns b:=by
  intro k p b hk e hb ho;obtain⟨x,o,an,e',d⟩:=n b ho;exact hk (by rw[v.sep k x p o b e e' hb d];exact an)
 have get:∀k p,((L.aae ks).puts ko lo).get k=some p->(k∉ks/\k∉ko/\L.get k=some p)\/∃i,ko[i]?=some k/\Loc.get (inp lo) (1000+i)=some p:=by
  intro k p e;rcases cL ko lo (L.aae ks) k y aa with⟨h1,c⟩ | ⟨i,h1,c,u⟩
  ·rw[h1,eO] at e;split at e
   ·cases e
   ·rename_i u;exact .inl ⟨u,c,e⟩
  ·rw[c] at e;exact .inr ⟨i,h1,by rw[aF,o5 (by omega),show 1000+i-1000=i by omega];exact e⟩
 refine⟨⟨r.frz,fun k p e=>?_,fun k p b e hb=>?_,fun k x p t b e e' hb d=>?_,r.glob⟩,⟨f.le,f.os,f.tape,f.output,f.size,fun b hb y=>?_,fun b hb=>?_,fun b hb=>?_⟩⟩
 ·rcases get k p e with⟨h1,_,c⟩ | ⟨i,_,c⟩
  ·exact Own.aau (v.own k p c) fun g ae=>f.same g (Own.aaq (v.own k p c) ae) (m k p g h1 c ae)
  ·exact r.own _ p c
 ·rcases get k p e with⟨h1,_,c⟩ | ⟨i,_,c⟩
  ·cases hF:F' b with
   | none=>rfl
   | some _ =>
    rcases f.frz b (by rw[hF];simp) with u | u | u
    ·exact vv (v.off k p b c hb) u
    ·exact vv u (m k p b h1 c hb)
    ·have:=Own.aaq (v.own k p c) hb;omega
  ·exact r.off _ p b c hb
 ·have q:∀k p i t,k∉ks->L.get k=some p->Loc.get (inp lo) (1000+i)=some t->p.blk=some b->t.blk=some b->False:=by
   intro k p i t h1 c u h4 h5;rcases f.own b ⟨_,t,u,h5⟩ with h6 | h6
   ·exact m k p b h1 c h4 h6
   ·have:=Own.aaq (v.own k p c) h4;omega
  rcases get k p e with⟨h1,_,c⟩ | ⟨i,hi,c⟩<;>rcases get x t e' with⟨am,_,s⟩ | ⟨i',ad,s⟩
  ·exact v.sep k x p t b c s hb d
  ·exact(q k p i' t h1 c s hb d).elim
  ·exact(q x t i p am s c d hb).elim
  ·have:=r.sep _ _ p t b c s hb d;have:i=i':=by omega
   subst this;rw[hi] at ad;injection ad
 ·refine f.same b hb fun ho=>?_;obtain⟨k,o,_,e,d⟩:=n b ho;exact y ⟨k,o,e,d⟩
 ·rcases f.frz b hb with h | h | h
  ·exact .inl h
  ·obtain⟨k,o,_,e,d⟩:=n b h;exact .inr (.inl ⟨k,o,e,d⟩)
  ·exact .inr (.inr h)
 ·obtain⟨k,p,e,d⟩:=hb;rcases get k p e with⟨h1,_,c⟩ | ⟨i,_,c⟩
  ·exact .inl ⟨k,p,c,d⟩
  ·rcases f.own b ⟨_,p,c,d⟩ with h | h
   ·obtain⟨x,o,_,e',ab⟩:=n b h;exact .inl ⟨x,o,e',ab⟩
   ·exact .inr h
theorem wk {f:Nat}{args:List Value}(hs:St F L w) (he:aA L ρ a) (hd:∀k,o.dst=some k->k<a.tmps.size)
  (hrun:(∃fn,P.funcs[f]?=some fn/\fn.body.isSome=true/\(fn.name == "runtime.NumGoroutine")=false)->(execOp a.eval o).run P w=.ok (.enter f args.toArray) w)
  (hK:dO P f args F L fun F' L' v=>K F' L' (put o.dst (.v v) ρ)):o.wp P a w (bD F L w a K) Q:=by
 obtain⟨ks,ko,l,R,hsub,hn,hno,hko,hc,hK⟩:=hK;unfold Oper.wp;rw[hrun hc.ent];rw[Oper.upon_enter];refine(hc.run w (hs.handed hsub hn)).mono ?_;rintro e w' ⟨v,F',lo,rfl,hs',hst,hR⟩;obtain⟨hlen,hbox,hK⟩:=hK v F' lo hst.le hR;obtain⟨h1,h2⟩:=fN hs hsub hn hno hko hs' hst hlen;refine⟨F',_,_,h1,he.put hd (x:=.v v) rfl cq eJ ?_,jx _ _ _,gj _ _ _,h2,hK⟩;intro k g ty cs e
 by_cases hk:k∈ks
 ·exact hbox k g ty cs hk e
 ·rcases cL ko lo (L.aae ks) k hno hlen with⟨h1,h2⟩ | ⟨i,h1,h2,h3⟩
  ·rw[h1,eO,q9 hk];exact⟨cs,e⟩
  ·rcases hko k (aaZ h1) with h | h
   ·exact vv h hk
   ·rw[h] at e;cases e
theorem iz {f:Nat}{args:Array Value}(h:∃fn,P.funcs[f]?=some fn/\fn.body.isSome=true/\(fn.name == "runtime.NumGoroutine")=false):(callFunc f args).run P w=.ok (.enter f args) w:=by
 obtain⟨fn,h1,h2,h3⟩:=h;have h4:fn.body≠none:=by intro hb;rw[hb] at h2;cases h2
 have h5:fn.name≠"runtime.NumGoroutine":=by simpa using h3
 simp[callFunc,h1,h4,h5]
theorem Mx {f:Nat}{args:List X}{c:Call}(h:St F L w) (he:aA L ρ a) (m:∀k,o.dst=some k->k<a.tmps.size)
  (l:o.op=.call c) (p:c.callee=.value (.func f)) (n:ga c.args.toList=some args) (j:evalOp P (.call f args) o.dst F L ρ K):o.wp P a w (bD F L w a K) Q:=by
 refine wk h he m (fun d=>?_) j;have e:=gh n he;have b:c.args.map a.eval=(bn L ρ args).toArray:=by apply Array.ext';simpa using e
 simp[execOp,l,resolve,p,Deferred.ofValue,Act.eval,invoke,b,iz d]
theorem lQ {t:TypeId}{nm:String}{u:Value}{f:Nat}{args:Array Value}(hf:sM P t nm=some f) (h:∃fn,P.funcs[f]?=some fn/\fn.body.isSome=true/\(fn.name == "runtime.NumGoroutine")=false) :
  (callMethod (.iface t u) nm args).run P w=.ok (.enter f (#[u]++args)) w:=by
 have:=Hr (P:=P) hf u w;simp only[callMethod,Sem.run_bind,run_program,Result.andThen_ok,this];exact iz h
theorem Ju {V:SV}{v:Value}{args:List Value}{f:Nat}{fi ca:List Value}(hf:rL P V=some (f,fi,ca)) (hv:∀x,V=.v x->v=x) (h:∃fn,P.funcs[f]?=some fn/\fn.body.isSome=true/\(fn.name == "runtime.NumGoroutine")=false) :
  (do let d <-Deferred.ofValue v args.toArray;invoke d.target d.args:Sem Next).run P w=.ok (.enter f (fi++args++ca).toArray) w:=by
 unfold rL at hf;split at hf
 ·rename_i f' fi' ca';injection hf with hf
  injection hf with e1 e2
  injection e2 with e2 e3
  subst e1 e2 e3;rw[hv _ rfl];have hall:fi'++(args.toArray++ca')=(fi'.toList++args++ca'.toList).toArray:=by apply Array.ext';simp
  simp[Deferred.ofValue,invoke];rw[iz h];simp
 ·rename_i nm fi' ca';split at hf
  case h_2=>cases hf
  rename_i t u hfi;split at hf
  case h_2=>cases hf
  rename_i f' hm;injection hf with hf
  injection hf with e1 e2
  injection e2 with e2 e3
  subst e1 e2 e3;have hfi':fi'=#[.iface t u]:=by apply Array.ext';exact hfi
  rw[hv _ rfl,hfi'];have hx:(#[Value.iface t u]++args.toArray).extract 1 (#[Value.iface t u]++args.toArray).size=args.toArray:=by apply Array.ext';simp
  have h0:(#[Value.iface t u]++args.toArray)[0]?=some (.iface t u):=by simp
  have:=lQ (w:=w) (u:=u) (args:=args.toArray) hm h;simp only[Deferred.ofValue,Sem.run_bind,Sem.run_pure,Result.andThen_ok,invoke,h0,hx,this];simp
 ·cases hf
theorem Jv {y:Operand}{q:X}{args:List X}{c:Call}(hs:St F L w) (he:aA L ρ a) (hd:∀k,o.dst=some k->k<a.tmps.size)
  (ho:o.op=.call c) (hc:c.callee=.value y) (hy:bI y=some q) (ha:ga c.args.toList=some args) (m:evalOp P (.callV q args) o.dst F L ρ K):o.wp P a w (bD F L w a K) Q:=by
 have ey:=aD hy he;have z:=gh ha he;have j:c.args.map a.eval=(bn L ρ args).toArray:=by apply Array.ext';simpa using z
 have l:∀x,ev ρ q=.v x->a.eval y=x:=fun x e=>by rw[ey,cG e]
 simp only[evalOp] at m;split at m
 ·rename_i f fi ca hf;refine wk hs he hd (fun d=>?_) m;have:=Ju (w:=w) (args:=bn L ρ args) hf l d;simp only[execOp,ho,resolve,hc,j];exact this
 ·split at m
  case h_2=>exact m.elim
  rename_i f n hf;unfold zW at hf;split at hf
  case h_2=>cases hf
  rename_i t nm ca t' u h p b;split at hf
  case h_2=>cases hf
  rename_i ms hu;split at hf
  case h_2=>cases hf
  rename_i f' hm;injection hf with hf
  injection hf with e1 e2
  subst e1 e2;refine wk hs he hd (fun d=>?_) m;have h0:(#[]++(bn L ρ args).toArray)[0]?=some (.iface t' u):=by rw[b];simp
  have hx:(#[]++(bn L ρ args).toArray).extract 1 (#[]++(bn L ρ args).toArray).size=h.toArray:=by rw[b];apply Array.ext';simp
  have:=lQ (w:=w) (u:=u) (args:=h.toArray) hm d;simp only[execOp,ho,resolve,hc,j,l _ p,Deferred.ofValue,Sem.run_bind,Sem.run_pure,Result.andThen_ok,invoke];have s:((⟨[]⟩:Array Value)++(bn L ρ args).toArray)[0]?=some (.iface t' u):=h0;simp only[s,Sem.run_bind,run_underlying hu,Result.andThen_ok];have r:((⟨[]⟩:Array Value)++(bn L ρ args).toArray).extract 1 ((⟨[]⟩:Array Value)++(bn L ρ args).toArray).size=h.toArray:=hx;simp only[r,this];simp
theorem QS {n:Nat}{y:String}{args:List X}{c:Call}(z:St F L w) (he:aA L ρ a) (hd:∀k,o.dst=some k->k<a.tmps.size)
  (ho:o.op=.call c) (hc:c.callee=.invoke (.tmp n) y) (ha:ga c.args.toList=some args) (h:evalOp P (.callV (.mt y n) args) o.dst F L ρ K):o.wp P a w (bD F L w a K) Q:=by
 have s:=gh ha he;have d:c.args.map a.eval=(bn L ρ args).toArray:=by apply Array.ext';simpa using s
 simp only[evalOp,ev] at h;split at h
 ·rename_i f fi ca hf;refine wk z he hd (fun e=>?_) h;cases l:ρ n with
  | own k off=>rw[l] at hf;cases hf
  | el b j=>rw[l] at hf;cases hf
  | v x =>
   rw[l] at hf;have hx:a.eval (.tmp n)=x:=by
    have:=he.eq n;rw[l] at this;exact this
   simp only[SE,rL] at hf;split at hf
   case h_2=>cases hf
   rename_i t u q;split at hf
   case h_2=>cases hf
   rename_i f' hm;injection hf with hf
   injection hf with e1 e2
   injection e2 with e2 e3
   subst e1 e2 e3;have r:x=.iface t u:=by simpa using q
   subst r;have m:(#[Value.iface t u]++(bn L ρ args).toArray).extract 1 (#[Value.iface t u]++(bn L ρ args).toArray).size=(bn L ρ args).toArray:=by apply Array.ext';simp
   have h0:(#[Value.iface t u]++(bn L ρ args).toArray)[0]?=some (.iface t u):=by simp
   have:=lQ (w:=w) (u:=u) (args:=(bn L ρ args).toArray) hm e;simp only[execOp,ho,resolve,hc,d,hx,Sem.run_bind,Sem.run_pure,Result.andThen_ok,invoke,h0,m,this];simp
 ·split at h
  case h_2=>exact h.elim
  rename_i f p hf;exfalso
  revert hf
  cases ρ n<;>simp[SE,zW,undef]
end
open Go.ChangeMaps (setBlock)
theorem Ad {cs:List Value}(h:ld cs=true):gT cs=.map (aW cs 0).toArray cs.length:=by
 unfold gT;split
 ·simp[ld] at h
 ·rfl
theorem lR:∀(v:Value) (i:Nat),(fK v i).born=i:=by
 intro v i;unfold fK;split<;>rfl
theorem pM:∀{cs:List Value}{i j:Nat},(aW cs i)[j]?=(cs[j]?).map fun v=>fK v (i+j)
 | [],_,_=>by simp[aW]
 | c::cs,i,0=>by simp[aW]
 | c::cs,i,j+1=>by
  simp only[aW,abg,pM (cs:=cs)];rw[show i+1+j=i+(j+1) by omega]
def kindOf:Bool->TypeDesc
 | false=>.int .i64
 | true=>.string
theorem FM (s t:ByteArray):(s == t)=decide (s.data.toList=t.data.toList):=by
 have:(s == t)=(s.data == t.data):=rfl;rw[this,Bool.eq_iff_iff];simp[Array.toList_inj]
theorem wS {str:Bool}{a b:Value}{r:Bool}(h:eU str a b=some r):Instr.sameNow (kindOf str) a b=some r:=by
 unfold eU at h;split at h
 ·injection h with h;subst h;simp[kindOf,Instr.sameNow,beq_dec']
 ·injection h with h
  subst h;rename_i s t;simp only[kindOf,Instr.sameNow,FM]
 ·cases h
where beq_dec':∀{a b:Int},(a == b)=decide (a=b):=by intro a b;rw[Bool.eq_iff_iff];simp
theorem My {str:Bool}{a b:Value}(h:eU str a b=some true):a=b:=by
 unfold eU at h;split at h
 ·simp only[aaO,aa2] at h;rw[h]
 ·simp only[aaO,aa2] at h;rename_i s t;cases s;cases t;simp only[Value.string.injEq,ByteArray.mk.injEq];exact Array.ext' h
 ·cases h
theorem Mz {str:Bool}{a b:Value}{r:Bool}(h:eU str a b=some r):∀n,Instr.sameBits n a a=true:=by
 intro n;unfold eU at h;split at h
 ·cases n<;>simp[Instr.sameBits]
 ·cases n<;>simp[Instr.sameBits,FM]
 ·cases h
theorem nj {str:Bool}{key:Value}:∀{cs:List Value}{i:Nat}{o:Option (Nat×Value)},lM str key cs i=some o->Instr.findNow (kindOf str) key (aW cs i) i=some o
 | [],i,o,h=>by simp only[lM] at h;simpa[aW,Instr.findNow] using h
 | c::cs,i,o,h=>by
  unfold lM at h;split at h
  ·rename_i b;cases b
  ·rename_i k v l j b;injection b with e1 e2
   subst e1 e2;simp only[aW,fK,Instr.findNow];split at h
   ·rename_i d;rw[wS d];exact h
   ·rename_i d;rw[wS d];exact nj h
   ·cases h
  ·cases h
theorem Ae {str:Bool}{key val:Value}(f:eU str key key=some true):∀{cs cs':List Value}{i:Nat},wK str key val cs=some cs' ->
  (∃j v,lM str key cs i=some (some (i+j,v))/\j<cs.length/\((aW cs i)[j]?.map (·.key))=some key/\aW cs' i=(aW cs i).modify j (fun e=>{e with key:=key,val:=val})/\cs'.length=cs.length) \/
  (lM str key cs i=some none/\cs'=cs++[.agg #[key,val]])
 | [],cs',i,h=>by
  simp only[wK,aaO] at h;subst h;exact .inr ⟨rfl,rfl⟩
 | c::cs,cs',i,h=>by
  unfold wK at h;split at h
  ·rename_i b;cases b
  ·rename_i k v l b;injection b with e1 e2
   subst e1 e2;split at h
   ·rename_i d;injection h with h
    subst h;refine .inl ⟨0,v,by simp only[lM,d,Nat.add_zero],by simp,?_,?_,rfl⟩
    ·simp[aW,fK,(My d).symm]
    ·simp[aW,fK]
   ·rename_i d;split at h
    case h_2=>cases h
    rename_i s q;injection h with h
    subst h;rcases Ae f (i:=i+1) q with⟨j,u,h1,m,n,r,p⟩ | ⟨h1,m⟩
    ·refine .inl ⟨j+1,u,?_,by simp;omega,by simpa[aW] using n,by simp[aW,r],by simp[p]⟩;simp only[lM,d];rw[h1,show i+1+j=i+(j+1) by omega]
    ·refine .inr ⟨?_,by rw[m];rfl⟩;simp only[lM,d];exact h1
   ·cases h
  ·cases h
theorem Ev {str:Bool}{key val:Value}{cs cs':List Value}(h:wK str key val cs=some cs'):ld cs'=true:=by
 unfold wK at h;split at h
 ·injection h with h;subst h;rfl
 ·split at h
  ·injection h with h;subst h;rfl
  ·split at h
   ·injection h with h;subst h;rfl
   ·cases h
  ·cases h
 ·cases h
section
variable {P:Program}{F:au}{L:Loc}{ρ:Env}{a:Act}{w:World}{K:di}{o:Oper}{Q:Exit->Act->World->Prop}
theorem wT (b:St F L w) {k g:Nat}{cs:List Value}(d:L.get k=some (.box g 0 cs)) (c:ld cs=true):w.heap[g]?=some (.map (aW cs 0).toArray cs.length):=by
 have h:=b.own k _ d;simp only[Own.ok,mS] at h;rw[Ad c] at h;exact h
theorem MA {str:Bool}{key:TypeId}{kv:Value}(b:P.underlying key=some (kindOf str)) (c:eU str kv kv=some true) (e:Bool):(Instr.checkKey e 10000 key kv).run P w=.ok () w:=by
 rw[show(10000:Nat)=9999+1 from rfl,Instr.checkKey];simp only[Sem.run_bind,run_underlying b,Result.andThen_ok];cases str<;>simp[kindOf,Sem.run_pure]
theorem Ew {str:Bool}{key:TypeId}{kv:Value}(b:P.underlying key=some (kindOf str)) (e:Bool):(Instr.checkKey e 10000 key kv).run P w=.ok () w:=by
 rw[show(10000:Nat)=9999+1 from rfl,Instr.checkKey];simp only[Sem.run_bind,run_underlying b,Result.andThen_ok];cases str<;>simp[kindOf,Sem.run_pure]
theorem sW {str:Bool}{key:TypeId}{kv:Value}{es:List MapEntry}{o:Option (Nat×Value)}(b:P.underlying key=some (kindOf str)) (h:Instr.findNow (kindOf str) kv es 0=some o):(Instr.findKey key kv es).run P w=.ok o w:=by
 simp only[Instr.findKey,Sem.run_bind,run_underlying b,Result.andThen_ok,h,Sem.run_pure]
theorem Jw {t:TypeId}(d:St F L w) (he:aA L ρ a) (h:∀k,o.dst=some k->k<a.tmps.size) (l:o.op=.makeMap t none)
  (b:evalOp P .mkmap o.dst F L ρ K):o.wp P a w (bD F L w a K) Q:=by
 simp only[evalOp] at b;split at b
 case h_2=>exact b.elim
 rename_i _ k c;split at b
 case h_2=>exact b.elim
 rename_i _ m;have b:=b w.heap.size;obtain⟨h1,j,f⟩:=lO d m (ob:=.map #[] 0) (e:=.box w.heap.size 0 []) rfl (by show _=_;rw[gW];rfl);refine jy he h (v:=.map (some w.heap.size)) (x:=.v (.map (some w.heap.size))) ?_ h1 j rfl cq eJ f b;simp[execOp,l,run_makeMap]
theorem CU {str ok:Bool}{t key e:TypeId}{y z:Operand}{r l:X}{j:TypeInfo}{q:Value}(h:St F L w) (he:aA L ρ a) (hd:∀k,o.dst=some k->k<a.tmps.size)
  (u:o.op=.lookup t y z ok) (x:P.underlying t=some (.map key e)) (b:P.underlying key=some (kindOf str)) (hi:P.info? e=some j) (hz:j.zero=some q) (hy:bI y=some r) (m:bI z=some l)
  (c:evalOp P (.mlook str ok q r l) o.dst F L ρ K):o.wp P a w (bD F L w a K) Q:=by
 have ey:=aD hy he;have s:=aD m he;simp only[evalOp,aH] at c;split at c
 case h_2=>exact c.elim
 rename_i g hm;obtain⟨k,cs,hk,n,c⟩:=c;have hg:=wT h hk n;have f:(getObj g).run P w=.ok (.map (aW cs 0).toArray cs.length) w:=by simp[getObj,Sem.run,hg]
 have d:=Ew (w:=w) (kv:=val L ρ l) b (aW cs 0).toArray.isEmpty;rcases c.out with⟨i,v,h1,p⟩ | ⟨h1,p⟩
 ·have hf:=sW (P:=P) (w:=w) b (nj h1);refine bR h he hd ?_ rfl cq eJ p;simp only[execOp,u,ey,s,cG hm,Instr.lookup,Sem.run_bind,run_underlying x,Result.andThen_ok,f,Sem.run_pure,d,hf];cases ok<;>simp[Sem.run_pure,conc]
 ·have hf:=sW (P:=P) (w:=w) b (nj h1);refine bR h he hd ?_ rfl cq eJ p;simp only[execOp,u,ey,s,cG hm,Instr.lookup,Sem.run_bind,run_underlying x,Result.andThen_ok,f,Sem.run_pure,d,hf];cases ok<;>simp[Sem.run_pure,zeroValue,typeInfo,run_program,hi,hz,conc]
theorem FN (r:St F L w) {k g:Nat}{cs cs':List Value}(d:L.get k=some (.box g 0 cs)):St F (L.set k (.box g 0 cs')) (setBlock w g (gT cs'))/\Step F L w F (L.set k (.box g 0 cs')) (setBlock w g (gT cs')) /\
  (∀j f ty xs,L.get j=some (.box f ty xs)->∃p,(L.set k (.box g 0 cs')).get j=some (.box f ty p)):=by
 have l:g<w.heap.size:=Own.aaq (r.own k _ d) rfl;have c:∀b,b≠g->(setBlock w g (gT cs')).heap[b]?=w.heap[b]?:=fun b hb=>by
  show(w.heap.setIfInBounds g (gT cs'))[b]?=_;rw[Array.getElem?_setIfInBounds,q9 (fun e=>hb e.symm)]
 have m:w.heap.size<=(setBlock w g (gT cs')).heap.size:=by show _<=(w.heap.setIfInBounds g (gT cs')).size;simp
 refine⟨r.turn d ?_ (fun b hb n=>c b fun e=>n (by rw[e];rfl)) (fun f q=>.inl q),⟨au.le_refl F,rfl,rfl,rfl,m,fun b hb t=>c b fun e=>t ⟨k,_,d,by rw[e];rfl⟩,fun b h=>.inl h,fun b h=>?_⟩,fun j f ty xs e=>?_⟩
 ·show(w.heap.setIfInBounds g (gT cs'))[g]?=_;rw[Array.getElem?_setIfInBounds,o5 rfl,o5 l];rfl
 ·rcases Loc.aan h with h | h
  ·exact .inl ⟨k,_,d,h⟩
  ·exact .inl h
 ·rw[Loc.aac];split
  ·rename_i s;subst s;rw[d] at e;injection e with e
   injection e with e1 e2 e3
   subst e1 e2;exact⟨_,rfl⟩
  ·exact⟨xs,e⟩
theorem zA {str:Bool}{t key e:TypeId}{g:Nat}{kv p:Value}{cs cs':List Value}(q:P.underlying t=some (.map key e)) (b:P.underlying key=some (kindOf str))
  (s:w.heap[g]?=some (.map (aW cs 0).toArray cs.length)) (d:eU str kv kv=some true) (h:wK str kv p cs=some cs') :
  (Instr.mapUpdate t (.map (some g)) kv p).run P w=.ok () (setBlock w g (gT cs')):=by
 have n:(getObj g).run P w=.ok (.map (aW cs 0).toArray cs.length) w:=by simp[getObj,Sem.run,s]
 have f:∀o',(setObj g o').run P w=.ok () (setBlock w g o'):=fun o'=>by simp[setObj,Sem.run,s,setBlock]
 have m:=MA (P:=P) (w:=w) (str:=str) (kv:=kv) b d false;rw[Ad (Ev h)];rcases Ae d (i:=0) h with⟨j,v,h1,r,u,z,y⟩ | ⟨h1,r⟩
 ·have hf:=sW (P:=P) (w:=w) b (nj h1);have k:(((aW cs 0).toArray[0+j]?).map (·.key)).getD kv=kv:=by
   rw[Nat.zero_add];simp only[List.getElem?_toArray];rw[u];rfl
  simp only[Instr.mapUpdate,Sem.run_bind,run_underlying q,Result.andThen_ok,n,m,hf,k,Instr.keyThatStays,Mz d,abl,Sem.run_pure,f];rw[z,y,Nat.zero_add];congr 3;apply Array.ext';simp
 ·have hf:=sW (P:=P) (w:=w) b (nj h1);simp only[Instr.mapUpdate,Sem.run_bind,run_underlying q,Result.andThen_ok,n,m,hf,f];subst r;congr 3
  ·apply Array.ext';have:∀(l:List Value) (i:Nat),aW (l++[.agg #[kv,p]]) i=aW l i++[{key:=kv,val:=p,born:=i+l.length}]:=by
    intro l
    induction l with
    | nil=>intro i;simp[aW,fK]
    | cons c l x=>intro i;simp only[aa4,aW,x,aa7];rw[show i+1+l.length=i+(l.length+1) by omega]
   simp[this]
  ·simp
theorem wm {str:Bool}{t key e:TypeId}{y z u:Operand}{p m q:X}(l:St F L w) (he:aA L ρ a) (hd:∀k,o.dst=some k->k<a.tmps.size)
  (d:o.op=.mapUpdate t y z u\/o.op=.insert t y z u) (ht:P.underlying t=some (.map key e)) (f:P.underlying key=some (kindOf str)) (hy:bI y=some p) (v:bI z=some m) (r:bI u=some q)
  (b:evalOp P (.mupd str p m q) o.dst F L ρ K):o.wp P a w (bD F L w a K) Q:=by
 have ey:=aD hy he;have ez:=aD v he;have x:=aD r he;simp only[evalOp] at b;split at b
 case h_2=>exact b.elim
 rename_i g hm;obtain⟨k,cs,n,j,b⟩:=b;obtain⟨h,cs',c,b⟩:=b;have hg:=wT l n j;obtain⟨h1,h2,s⟩:=FN l n (cs':=cs');refine CM he hd (w':=setBlock w g (gT cs')) ?_ h1 h2 s b;have hr:=zA (w:=w) ht f hg h c;rcases d with d | d<;>simp[execOp,d,ey,ez,x,cG hm,hr]
theorem Ht {t key e:TypeId}{y:Operand}{l:X}(h:St F L w) (he:aA L ρ a) (hd:∀k,o.dst=some k->k<a.tmps.size)
  (q:o.op=.range t y) (r:P.underlying t=some (.map key e)) (p:bI y=some l) (b:evalOp P (.mrange l) o.dst F L ρ K):o.wp P a w (bD F L w a K) Q:=by
 have u:=aD p he;simp only[evalOp] at b;split at b
 case h_2=>exact b.elim
 rename_i _ g k z j;split at b
 case h_2=>exact b.elim
 rename_i _ n;obtain⟨km,cs,c,d,b⟩:=b;have hg:=wT h c d;have f:(getObj g).run P w=.ok (.map (aW cs 0).toArray cs.length) w:=by simp[getObj,Sem.run,hg]
 have b:=b w.heap.size;obtain⟨h1,s,m⟩:=lO h n (ob:=.mapIter (some g) cs.length #[] cs.length) (e:=.box w.heap.size 0 [.tuple #[.map (some g),.int .i64 cs.length]]) rfl (by show _=_;rw[gW];simp[mS,gT]);refine jy he hd (v:=.pointer (some ⟨w.heap.size,0,none⟩)) (x:=.own k 0) ?_ h1 s ?_ ?_ (fun _ _ e=>by cases e) m b
 ·simp[execOp,q,Instr.range,u,cG z,run_underlying r,f]
 ·simp only[conc,Loc.aac,abl]
 ·rintro k' off e;injection e with e1 e2
  subst e1;exact⟨_,_,_,by rw[Loc.aac,o5 rfl]⟩
theorem Jy {y:Operand}{y':X}(s:St F L w) (he:aA L ρ a) (hd:∀k,o.dst=some k->k<a.tmps.size)
  (ho:o.op=.next y false) (hy:bI y=some y') (r:evalOp P (.mnext y') o.dst F L ρ K):o.wp P a w (bD F L w a K) Q:=by
 have ey:=aD hy he;simp only[evalOp] at r;split at r
 case h_2=>exact r.elim
 rename_i k hm;split at r
 case h_2=>exact r.elim
 rename_i gi g n b hk;obtain⟨km,cs,ae,av,aa,q,ac⟩:=r.out;have hg:=wT s ae av;have aw:w.heap[gi]?=some (.mapIter (some g) n (b.map iK).toArray n):=by
  have h:=s.own k _ hk;simp only[Own.ok,mS,gT] at h;exact h
 have ab:a.eval y=.pointer (some ⟨gi,0,none⟩):=by rw[ey];simp only[val,hm,conc,hk]
 have t:∀x∈(aW cs 0).toArray.toList,x.born<n:=by
  intro x hx;simp only[List.toList_toArray] at hx;obtain⟨j,c⟩:=abh.1 hx;rw[pM] at c;cases m:cs[j]? with
  | none=>rw[m] at c;cases c
  | some v =>
   rw[m] at c;simp only[abq,aaO] at c;rw[<-c,lR];have:=(aaU.1 m).1;omega
 rcases run_next_at (P:=P) w o.type gi g n n (b.map iK).toArray (aW cs 0).toArray cs.length aw hg t (aa3 _) with⟨h0,d⟩ | ⟨e,l,w1,z,d⟩
 ·refine bR s he hd (v:=.tuple #[.bool false]) (x:=.v (.tuple #[.bool false])) ?_ rfl cq eJ (ac fun j c=>?_)
  ·simp only[execOp,ho,ab,Sem.run_bind,d,Result.andThen_ok,Sem.run_pure]
  ·have m:∃v,cs[j]?=some v:=⟨cs[j]'(by omega),aaQ (by omega)⟩;obtain⟨v,m⟩:=m;have ao:(aW cs 0)[j]?=some (fK v (0+j)):=by rw[pM,m];rfl
   have p:fK v (0+j)∈aW cs 0:=aaZ ao;apply Classical.byContradiction;intro f;have h1:fK v (0+j)∈(leftOf (aW cs 0).toArray (b.map iK).toArray).toList:=by
    unfold leftOf;simp only[Array.toList_filter,List.mem_filter,p,true_and];rw[lR];simpa using f
   have h2:(leftOf (aW cs 0).toArray (b.map iK).toArray)=#[]:=Array.eq_empty_of_size_eq_zero h0;rw[h2] at h1;cases h1
 ·unfold leftOf at l;simp only[Array.toList_filter,List.mem_filter] at l;obtain⟨p,f⟩:=l;obtain⟨j,c⟩:=abh.1 p;rw[pM] at c;cases m:cs[j]? with
  | none=>rw[m] at c;cases c
  | some v =>
   rw[m] at c;simp only[abq,aaO,Nat.zero_add] at c;subst c;rw[lR] at d f;have ag:j∉b.map iK:=by simpa using f
   have az:=q j v m ag;have an:St F L w1:=by rcases z with rfl | rfl;exact s;exact s.drew
   obtain⟨h1,h2,h3⟩:=FN an hk (cs':=.tuple #[.map (some g),.int .i64 n]::(b++[.int .i64 j]));have am:Step F L w F L w1:=by
    rcases z with rfl | rfl
    ·exact Step.refl _ _ _
    ·exact⟨au.le_refl F,rfl,rfl,rfl,aa3 _,fun _ _ _=>rfl,fun _ h=>.inl h,fun _ h=>.inl h⟩
   have u:gT (.tuple #[.map (some g),.int .i64 n]::(b++[.int .i64 j]))=.mapIter (some g) n ((b.map iK).toArray.push j) cs.length:=by
    simp[gT,iK,aa]
   rw[u] at h1 h2;refine jy he hd (v:=.tuple #[.bool true,(fK v j).key,(fK v j).val]) (x:=.v (.tuple #[.bool true,(fK v j).key,(fK v j).val])) ?_ h1 (am.trans h2) rfl cq eJ h3 az;simp only[execOp,ho,ab,Sem.run_bind,d,Result.andThen_ok,Sem.run_pure]
theorem Hu {y:Operand}{y':X}(hs:St F L w) (he:aA L ρ a) (hd:∀k,o.dst=some k->k<a.tmps.size)
  (ho:o.op=.entry y) (hy:bI y=some y') (p:evalOp P (.mentry y') o.dst F L ρ K):o.wp P a w (bD F L w a K) Q:=by
 have ey:=aD hy he;simp only[evalOp] at p;split at p
 case h_2=>exact p.elim
 rename_i k hm;split at p
 case h_2=>exact p.elim
 rename_i gi g n d hk;obtain⟨km,cs,j,e,ab,ag,t,b,hj,ae⟩:=p.out;have hg:=wT hs ab ag;have z:w.heap[gi]?=some (.mapIter (some g) n (d.map iK).toArray n):=by
  have h:=hs.own k _ hk;simp only[Own.ok,mS,gT] at h;exact h
 have ac:a.eval y=.pointer (some ⟨gi,0,none⟩):=by rw[ey];simp only[val,hm,conc,hk]
 have m:∃l,d=l++[.int .i64 (.ofNat j)]:=by
  have u:d≠[]:=by rintro rfl;simp at b
  refine⟨d.dropLast,?_⟩;rw[List.getLast?_eq_some_getLast u] at b;injection b with b
  rw[<-b];exact(List.dropLast_concat_getLast u).symm
 obtain⟨l,rfl⟩:=m;have s:(aW cs 0)[j]?=some (fK e j):=by rw[pM,hj];simp
 have f:(fK e j).born=j:=lR e j;have al:((aW cs 0).toArray.toList.map (·.born)).Nodup:=by
  have:∀(cs:List Value) (i:Nat),(aW cs i).map (·.born)=List.range' i cs.length:=by
   intro cs
   induction cs with
   | nil=>intro i;rfl
   | cons c cs ih=>intro i;simp[aW,lR,ih,List.range'_succ]
  simp only[List.toList_toArray,this];exact List.nodup_range' ..
 have q:((l++[Value.int .i64 (.ofNat j)]).map iK).toArray=(l.map iK).toArray.push (fK e j).born:=by
  rw[f];simp[iK]
 rw[q,<-t] at z;have r:=run_entry_at (P:=P) w gi g cs.length (l.map iK).toArray (aW cs 0).toArray cs.length (fK e j) z hg (by simpa using aaZ s) al;refine bR hs he hd (v:=.tuple #[(fK e j).key,(fK e j).val]) (x:=.v (.tuple #[(fK e j).key,(fK e j).val])) ?_ rfl cq eJ ae;simp only[execOp,ho,ac,Sem.run_bind,r,Result.andThen_ok,Sem.run_pure]
end
section
variable {P:Program}{F:au}{L:Loc}{ρ:Env}{a:Act}{w:World}{K:di}{o:Oper}{Q:Exit->Act->World->Prop}
theorem Ey {zs:List Value}{l:List (Nat×Nat×X)}(h:(l.all fun p=>Nat.ble (p.1+p.2.1) zs.length)=true):∀off n x,(off,n,x)∈l->off+n<=zs.length:=by
 intro off n x b;have:=aa1.1 h _ b;exact abb this
set_option maxHeartbeats 1000000 in
theorem fe {own:Bool}{s:dN}(q:St F L w) (he:aA L ρ a) (hd:∀k,o.dst=some k->k<a.tmps.size) (j:gV P own o.op=some s)
  (m:evalOp P s o.dst F L ρ K):o.wp P a w (bD F L w a K) Q:=by
 cases p:o.op<;>rw[p] at j<;>simp only[gV] at j<;>try (cases j;done)
 case move y =>
  split at j
  case h_2=>cases j
  rename_i x hx;injection j with j;subst j
  exact Jf q he hd (.inl p) hx m
 case assign y =>
  split at j
  case h_2=>cases j
  rename_i x hx;injection j with j;subst j
  exact Jf q he hd (.inr p) hx m
 case pick c y z =>
  split at j
  case h_2=>cases j
  rename_i h1 l h3;injection j with j;subst j
  exact Ml q he hd p h1 l h3 m
 case box t y =>
  split at j
  case h_2=>cases j
  rename_i h1 ag;have ag:=abO ag;injection j with j
  cases own
  ·subst j;exact QF q he hd p h1 ag m
  ·subst j;exact Mp q he hd p h1 m
 case alloc t =>
  split at j
  case h_2=>cases j
  rename_i h1 ag;have ag:=abO ag;split at j
  case h_2=>cases j
  rename_i l;injection j with j;subst j
  exact Jg q he hd p h1 l ag m
 case buildSlice t n ps =>
  split at j
  case h_2=>cases j
  rename_i h1 l;split at j
  case h_2=>cases j
  rename_i h3;split at j
  case h_2=>cases j
  rename_i h4 h5 h6;have h4:=abv h4;have h5:=abv h5;injection j with j
  cases own
  ·subst j;exact QG q he hd p h1 h3 h6 l h4 h5.1 m
  ·subst j;exact QH q he hd p h1 h3 h6 l h4 h5.1 h5.2 m
 case build t ps =>
  split at j
  case h_2=>cases j
  rename_i h1 l;split at j
  case h_2=>cases j
  rename_i h3 h4;split at j
  case h_2=>cases j
  rename_i h5 h6;injection j with j;subst j
  exact Jh q he hd p h1 l h3 h4 (fun f hf=>aa1.1 h5 f hf) (Ey h6) m
 case load t y =>
  split at j
  ·rename_i d i x h1 l h3;injection j with j
   refine Mq (d:=d) (i:=i) (n:=match eM d with | true=>i.size | false=>1) q he hd p h1 l h3 rfl ?_;cases bi:eM d<;>simp only[bi] at j ⊢<;>subst j<;>exact m
  ·rename_i h1 l h3;cases y with
   | global g =>
    simp only[zX] at j;split at j
    ·rename_i h4;injection j with j;subst j
     exact CQ q he hd p h1 l rfl h4 m
    ·cases j
   | tmp n=>cases j
   | const v=>cases j
   | func f=>cases j
  ·rename_i h1 l h3;split at j
   case h_2=>injection j with j;subst j;exact False.elim m
   rename_i h4;injection j with j;subst j
   cases y with
   | global g =>
    simp only[zX] at h4;split at h4
    ·rename_i h5;injection h4 with h4;subst h4
     exact CQ q he hd p h1 l rfl h5 m
    ·cases h4
   | tmp n=>cases h4
   | const v=>cases h4
   | func f=>cases h4
  ·injection j with j;subst j
   exact False.elim m
  ·cases j
 case lookup t y z ok =>
  split at j
  ·cases j
  ·split at j
   case h_2=>cases j
   rename_i h1 l h3;split at j
   case h_3=>cases j
   ·rename_i h4 h5;split at j
    case h_2=>cases j
    rename_i h6;injection j with j;subst j
    exact CU (str:=false) q he hd p h1 h4 h5 h6 l h3 m
   ·rename_i h4 h5;split at j
    case h_2=>cases j
    rename_i h6;injection j with j;subst j
    exact CU (str:=true) q he hd p h1 h4 h5 h6 l h3 m
 case makeMap t r =>
  cases r with
  | none =>
   simp only[gV,aaO] at j;subst j;exact Jw q he hd p m
  | some r=>simp only[gV] at j;cases j
 case mapUpdate t y z u =>
  split at j
  case h_2=>cases j
  rename_i h1 l h3 h4;split at j
  case h_3=>cases j
  ·rename_i h5;injection j with j;subst j
   exact wm (str:=false) q he hd (.inl p) h1 h5 l h3 h4 m
  ·rename_i h5;injection j with j;subst j
   exact wm (str:=true) q he hd (.inl p) h1 h5 l h3 h4 m
 case insert t y z u =>
  split at j
  case h_2=>cases j
  rename_i h1 l h3 h4;split at j
  case h_3=>cases j
  ·rename_i h5;injection j with j;subst j
   exact wm (str:=false) q he hd (.inr p) h1 h5 l h3 h4 m
  ·rename_i h5;injection j with j;subst j
   exact wm (str:=true) q he hd (.inr p) h1 h5 l h3 h4 m
 case range t y =>
  split at j
  case h_2=>cases j
  rename_i h1 l;injection j with j;subst j
  exact Ht q he hd p h1 l m
 case entry y =>
  split at j
  case h_2=>cases j
  rename_i h1;injection j with j;subst j
  exact Hu q he hd p h1 m
 case next y b =>
  cases b with
  | true=>simp only[gV] at j;cases j
  | false =>
   simp only[gV] at j;split at j
   case h_2=>cases j
   rename_i h1;injection j with j;subst j
   exact Jy q he hd p h1 m
 case store t y z =>
  split at j
  case h_2=>cases j
  rename_i h1 l h3;split at j
  case h_1=>cases j
  rename_i h4;have h4:=abO h4;injection j with j;subst j
  exact Jr q he hd p h1 h4 l h3 m
 case makeInterface t y =>
  split at j
  ·cases j
  ·rename_i d x h1 l h3;injection j with j;subst j
   exact Mv q he hd p l h1 h3 m
  ·cases j
 case typeAssert y xt t ok =>
  cases ok with
  | false=>cases j
  | true =>
   simp only[] at j;split at j
   ·cases j
   ·rename_i d i x h4 h1 l h3;split at j
    case h_2=>cases j
    rename_i h5;injection j with j;subst j
    exact QN q he hd p h1 h4 l h5 h3 m
   ·cases j
 case panic y =>
  split at j
  case h_2=>cases j
  injection j with j;subst j
  exact m.elim
 case nilCheck y =>
  split at j
  case h_2=>cases j
  rename_i h1 l;injection j with j;subst j
  exact Jq q he hd p h1 l m
 case binOp op t y z t' =>
  split at j
  case h_2=>cases j
  rename_i d x1 x2 h1 l h3;split at j<;>first
   | (cases j;done)
   | (injection j with j;subst j;first
     | exact Ji (neg:=false) q he hd p h1 l h3 m
     | exact Ji (neg:=true) q he hd p h1 l h3 m
     | exact Jk (neg:=false) q he hd p h1 l h3 m
     | exact Jk (neg:=true) q he hd p h1 l h3 m
     | exact QI q he hd p l h3 m)
   | (split at j
      case h_2=>cases j
      rename_i k1 k2 k3;injection j with j;subst j
      first
       | exact Jo (neg:=false) q he hd p h1 k1 k2 k3 l h3 m
       | exact Jo (neg:=true) q he hd p h1 k1 k2 k3 l h3 m)
   | (split at j
      case h_2=>cases j
      rename_i k1;injection j with j;subst j
      first
       | exact Jl (neg:=false) q he hd p h1 l h3 k1 m
       | exact Jl (neg:=true) q he hd p h1 l h3 k1 m)
 case unOp op t y =>
  split at j
  case h_2=>cases j
  rename_i h1;injection j with j;subst j
  exact SI q he hd p h1 m
 case convert s t y =>
  split at j
  case h_2=>cases j
  rename_i h1 l h3;injection j with j;subst j
  exact Mr q he hd p h1 l h3 m
 case makeFunc fn fi ca =>
  cases fn<;>simp only[] at j<;>try (cases j;done)
  ·split at j
   case h_2=>cases j
   rename_i h1 l;injection j with j;subst j
   exact Ms q he hd p h1 l m
  ·split at j
   case h_2=>cases j
   rename_i h1 l;injection j with j;subst j
   exact Mw q he hd p h1 l m
 case makeSlice t y z =>
  split at j
  case h_2=>cases j
  rename_i h1 l h3;split at j
  case h_2=>cases j
  rename_i h4;split at j
  case h_2=>cases j
  rename_i h5;split at j
  case h_2=>cases j
  rename_i h6 h7;injection j with j;subst j
  exact Js q he hd p h1 h4 h5 (abv h6) (abv h7) l h3 m
 case slice t y lo up mx =>
  cases mx<;>simp only[] at j<;>try (cases j;done)
  split at j
  case h_2=>cases j
  ·rename_i h1 l h3 h4;split at j
   case h_2=>cases j
   rename_i h5;injection j with j;subst j
   exact QO q he hd p h1 h5 l h3 h4 m
 case fieldAddr t y f =>
  split at j
  case h_2=>cases j
  rename_i h1 l;split at j
  case h_2=>cases j
  rename_i h3;split at j
  case h_2=>cases j
  rename_i h4;split at j
  case h_1=>cases j
  rename_i h5;injection j with j;subst j
  exact Hq q he hd p h1 h3 h4 (abO h5) l m
 case indexAddr t y z =>
  split at j
  case h_2=>cases j
  rename_i h1 l h3;split at j
  case h_2=>cases j
  rename_i h4;injection j with j;subst j
  exact Mu q he hd p h1 h4 l h3 m
 case extract y i =>
  split at j
  case h_2=>cases j
  rename_i h1;injection j with j;subst j
  exact Mt q he hd p h1 m
 case call c =>
  split at j
  case h_1=>cases j
  rename_i args ae;split at j
  ·rename_i f hc;split at j
   case h_2=>cases j
   split at j
   case h_2=>cases j
   injection j with j;subst j
   exact Mx q he hd p hc ae m
  ·rename_i y hc;split at j
   case h_2=>cases j
   rename_i h1;injection j with j;subst j
   exact Jv q he hd p hc h1 ae m
  ·rename_i n nm hc;injection j with j;subst j
   exact QS q he hd p hc ae m
  ·cases j
  ·rename_i b hc;have one:∀{x:X},args=[x]->∃y,c.args=#[y]/\bI y=some x:=by
    intro x e;subst e
    match an:c.args.toList,ae with
    | [],h=>simp[ga] at h
    | [y],h =>
     refine⟨y,by apply Array.ext';simpa using an,?_⟩;simp only[ga] at h;split at h
     case h_2=>cases h
     rename_i h1 l;injection h with h
     injection h with h _
     rw[h1,h]
    | y::z::r,h =>
     simp only[ga] at h;split at h
     case h_2=>cases h
     rename_i h1 l;injection h with h
     injection h with _ h
     subst h;split at l
     ·injection l with l;cases l
     ·cases l
   have two:∀{x x':X},args=[x,x']->∃y y',c.args=#[y,y']/\bI y=some x/\bI y'=some x':=by
    intro x x' e;subst e
    match an:c.args.toList,ae with
    | [],h=>simp[ga] at h
    | [y],h =>
     simp only[ga] at h;split at h
     case h_2=>cases h
     rename_i h1 l;injection l with l
     injection h with h
     injection h with _ h
     rw[h] at l;cases l
    | [y,y'],h =>
     refine⟨y,y',by apply Array.ext';simpa using an,?_⟩;simp only[ga] at h;split at h
     case h_2=>cases h
     rename_i h1 l;injection h with h
     injection h with h h'
     split at l
     case h_2=>cases l
     rename_i h3 h4;injection l with l
     rw[<-l] at h';injection h' with h' _
     exact⟨by rw[h1,h],by rw[h3,h']⟩
    | y::z::u::r,h =>
     simp only[ga] at h;split at h
     case h_2=>cases h
     rename_i h1 l;injection h with h
     injection h with _ h
     subst h;split at l
     case h_2=>cases l
     rename_i h3 h4;injection l with l
     injection l with _ l
     subst l;split at h4
     ·injection h4 with h4;cases h4
     ·cases h4
   have bc:∀{t:TypeId},c.argTypes.toList=[t]->c.argTypes=#[t]:=fun e=>by apply Array.ext';simpa using e
   have be:∀{t t':TypeId},c.argTypes.toList=[t,t']->c.argTypes=#[t,t']:=fun e=>by apply Array.ext';simpa using e
   split at j
   ·rename_i x t ao;obtain⟨y,ha,hy⟩:=one rfl;split at j
    ·rename_i h1;injection j with j;subst j
     exact QL q he hd p hc ha (bc ao) h1 hy m
    ·cases j
   ·injection j with j;subst j
    exact PV (mx:=true) q he hd p hc ae m
   ·injection j with j;subst j
    exact PV (mx:=false) q he hd p hc ae m
   ·rename_i x x' t t' ao;obtain⟨y,y',ha,hy,az⟩:=two rfl;split at j
    ·rename_i h1 l;split at j
     case h_2=>cases j
     rename_i h3;split at j
     case h_2=>cases j
     rename_i h4;split at j
     case h_2=>cases j
     rename_i h5 h6 h7;have h5:=abv h5;subst h5;injection j with j;subst j
     exact QR q he hd p hc ha (be ao) h1 h3 h4 (abv h6) (abv h7) hy az m
    ·cases j
   ·cases j
end
structure dc where
 n:Nat
 own:List Nat:=[]
 frz:List (Nat×Nat×List Nat):=[]
 ord:List (Nat×List Nat×List (List Nat)):=[]
 co:List Nat:=[]
 pan:List (Nat×Nat):=[]
 bx:List Nat:=[]
 fl:List Nat:=[]
 px:List Nat:=[]
 bk:List (Nat×Nat):=[]
def vo:List (Nat×Nat)->Nat->Nat->Bool
 | [],_,_=>false
 | (r,i)::l,b,c=>match Nat.beq r b&&Nat.beq i c with | true=>true | false=>vo l b c
def mT (b:Bool) (d:Option Nat) (s:dN) (g:Option (Nat×Bool)):ai:=match b with | true=>.pc d s g | false=>.op d s g
def dc.owned (A:dc):Option Nat->Bool
 | some d=>eZ A.own d
 | none=>false
def dc.isO (A:dc):Option Nat->Bool
 | some d=>eZ A.co d
 | none=>eZ A.co 999999
def dc.isX (A:dc):Option Nat->Bool
 | some d=>eZ A.px d
 | none=>eZ A.px 999999
def Jz:List (Nat×Nat×List Nat)->Nat->Nat->List Nat
 | [],_,_=>[]
 | (r,i,ks)::l,b,c=>match Nat.beq r b&&Nat.beq i c with | true=>ks | false=>Jz l b c
def JA:List (Nat×List Nat×List (List Nat))->Nat->Option (List Nat×List (List Nat))
 | [],_=>none
 | (r,is)::l,b=>match Nat.beq r b with | true=>some is | false=>JA l b
def CV (l:List (Nat×List Nat×List (List Nat))) (r:Nat):List Nat:=match JA l r with | some (is,_)=>is | none=>[]
def gX (c:Array Oper):Option (Nat×Bool)->Option (Option (Nat×Bool))
 | none=>some none
 | some (j,b)=>match(c[j]?).bind (·.dst) with
  | some d=>some (some (d,b))
  | none=>none
def PW (n:Nat):Option Nat->Bool
 | none=>true
 | some d=>Nat.blt d n
def pO (P:Program) (A:dc) (r:Nat) (b:Array Oper):List Nat->Option (List ai)
 | []=>some []
 | i::is=>match b[i]? with
  | none=>none
  | some o=>match gX b o.guard,gV P (A.owned o.dst) o.op,PW A.n o.dst,pO P A r b is with
   | some g,some s,true,some c=>some ((Jz A.frz r i).map .frz++mT (vo A.pan r i) o.dst s g::c)
   | _,_,_,_=>none
section
variable {P:Program}{F:au}{L:Loc}{ρ:Env}{a:Act}{w:World}{K:di}{Q:Exit->Act->World->Prop}
def dZ (n:Nat) (F:au) (L:Loc) (w:World) (a:Act) (asg:List Nat) (K:di) (a':Act) (w':World):Prop :=
 ∃F' L' ρ',St F' L' w'/\aA L' ρ' a'/\a'.tmps.size=n/\a'.defers=a.defers/\Step F L w F' L' w'/\(∀j,j∉asg->a'.tmps.getD j undef=a.tmps.getD j undef)/\K F' L' ρ'
theorem qI {k:Nat}{KK:au->Loc->Prop}(hs:St F L w) (he:aA L ρ a) (h:PO F L k KK):∃F' L',St F' L' w/\aA L' ρ a/\Step F L w F' L' w/\KK F' L':=by
 obtain⟨v,t,sz,n,xs,hk,hK⟩:=h;have d:=hs.own k _ hk;simp only[Own.ok] at d;have o:=hs.part (Loc.aaz L k);have s:aA (L.del k) ρ a:=by
  have hb:∀j g ty cs,L.get j=some (.box g ty cs)->(L.del k).get j=some (.box g ty cs):=by
   intro j g ty cs e;rw[Loc.aaf];split
   ·rename_i hj;subst hj;rw[hk] at e;cases e
   ·exact e
  refine⟨fun j=>?_,fun j r off e=>?_,he.el⟩
  ·rw[he.eq j];cases e:ρ j with
   | v x=>rfl
   | el x y=>rfl
   | own r off =>
    obtain⟨g,ty,cs,c⟩:=he.own j r off e;simp only[conc,c,hb r g ty cs c]
  ·obtain⟨g,ty,cs,c⟩:=he.own j r off e;exact⟨g,ty,cs,hb r g ty cs c⟩
 have ae:∀g,v.ownBlock=some g->¬(L.del k).owns g:=by
  rintro g c ⟨j,p,e,hb⟩;rw[Loc.aaf] at e;split at e
  ·cases e
  ·rename_i hj;exact hj (hs.sep j k p _ g e hk hb c)
 obtain⟨hx,f⟩:=d;rcases f with⟨rfl,rfl⟩ | ⟨g,cap,ag,rfl,an,c,ad,ao,ar,l⟩
 ·refine⟨F,L.del k,o,s,⟨au.le_refl F,rfl,rfl,rfl,aa3 _,fun _ _ _=>rfl,fun b h=>.inl h,fun b h=>.inl (Loc.aaw h)⟩,hK F (au.le_refl F) (.inl ⟨rfl,rfl,abu (by simpa using hx)⟩)⟩
 ·have m:=au.aav hs c;refine⟨_,L.del k,o.freeze c (ae g rfl),s,⟨m,rfl,rfl,rfl,aa3 _,fun _ _ _=>rfl,fun b h=>?_,fun b h=>.inl (Loc.aaw h)⟩,hK _ m (.inr ⟨⟨g,0,none⟩,cap,rfl,⟨_,ag,t,(0,0),rfl,o5 rfl,rfl,fun i u z=>?_⟩,ad⟩)⟩
  ·by_cases q:b=g
   ·subst q;exact .inr (.inl ⟨k,_,hk,rfl⟩)
   ·simp only[q9 q] at h;exact .inl h
  ·rw[<-l,abL] at z;split at z
   ·simpa using z
   ·cases z
theorem rP {k g:Nat}{t:TypeId}{cs:List Value}(m:St F L w) (he:aA L ρ a) (n:L.get k=some (.box g t cs)) :
  ∃F',F.le F'/\F' g=some (mS t cs)/\St F' (L.del k) w/\aA (L.del k) (wL k g ρ) a/\Step F L w F' (L.del k) w:=by
 have z:=m.own k _ n;simp only[Own.ok] at z;have o:=m.part (Loc.aaz L k);have d:=au.aav m z;have u:¬(L.del k).owns g:=by
  rintro⟨j,p,e,hb⟩;rw[Loc.aaf] at e;split at e
  ·cases e
  ·rename_i hj;exact hj (m.sep j k p _ g e n hb rfl)
 refine⟨_,d,o5 rfl,o.freeze z u,⟨fun j=>?_,fun j s off e=>?_,fun j ad i e=>?_⟩,⟨d,rfl,rfl,rfl,aa3 _,fun _ _ _=>rfl,fun b h=>?_,fun b h=>.inl (Loc.aaw h)⟩⟩
 ·rw[he.eq j];simp only[wL];cases e:ρ j with
  | v x=>rfl
  | el x y=>rfl
  | own s off =>
   simp only[];cases hb:Nat.beq s k with
   | true =>
    have:=aaR hb;subst this;simp only[conc,n]
   | false =>
    have c:s≠k:=fun e=>by rw[e] at hb;simp at hb
    simp only[conc];rw[Loc.aaf,q9 c]
 ·simp only[wL] at e;split at e
  ·rename_i q f r;cases hb:Nat.beq q k with
   | true=>rw[hb] at e;cases e
   | false =>
    rw[hb] at e;injection e with e3 e4
    subst e3;have c:q≠k:=fun e=>by rw[e] at hb;simp at hb
    rw[Loc.aaf,q9 c];exact he.own j q f r
  ·cases e
  ·cases e
 ·simp only[wL] at e;split at e
  ·split at e<;>cases e
  ·cases e
  ·rename_i a2 i2 r;injection e with h1 h2
   subst h1;exact he.el j _ _ r
 ·by_cases l:b=g
  ·subst l;exact .inr (.inl ⟨k,_,n,rfl⟩)
  ·simp only[q9 l] at h;exact .inl h
theorem qJ {s:Nat}{b:Bool}(h:a.tmps.getD s undef=.bool b):a.tmps[s]?=some (.bool b):=by
 rw[aa8] at h;cases e:a.tmps[s]? with
 | none=>rw[e] at h;simp[undef] at h
 | some v=>rw[e] at h;simp at h;rw[h]
theorem kG {ρ:Env}{s:Nat}{v:Value}(h:ρ s=.v v):put (some s) (.v v) ρ=ρ:=by
 funext t
 rw[put_eq];simp only[];split
 ·rename_i h1;subst h1;exact h.symm
 ·rfl
def dstsOf (b:Array Oper):List Nat->List Nat
 | []=>[]
 | i::is=>match(b[i]?).bind (·.dst) with | some d=>d::dstsOf b is | none=>dstsOf b is
theorem jZ {d:Option Nat}{v:Value}{j:Nat}(h:d≠some j):(a.put d v).tmps.getD j undef=a.tmps.getD j undef:=by
 cases d with
 | none=>rfl
 | some k =>
  simp only[Act.put,aa8,Array.getElem?_setIfInBounds];rw[q9 (by intro e;exact h (by rw[e]))]
theorem pQ {o:Oper}{asg:List Nat}{KK:Act->World->Prop}(b:o.wp P a w KK Q) :
  o.wp P a w (fun a' w'=>KK a' w'/\∀j,o.dst≠some j->a'.tmps.getD j undef=a.tmps.getD j undef) Q:=by
 unfold Oper.wp at b ⊢;generalize(execOp a.eval o).run P w=r at b ⊢;cases r with
 | ok d w' =>
  cases d<;>simp only[Oper.upon] at b ⊢<;>first
   | exact⟨b,fun j h=>jZ h⟩
   | exact Calls.mono b (fun e c he=>by cases e<;>first | exact⟨he,fun j h=>jZ h⟩ | exact he)
   | exact Rows.mono b (fun v c he=>⟨he,fun j h=>jZ h⟩)
 | halt x w'=>cases x<;>simp only[Oper.upon] at b ⊢<;>exact b
theorem uy {c:Code}(I:Nat->Act->World->Prop) (s:∃n,I n a w)
  (p:∀n a w,I n a w->c.wp P (Exit.then (fun a' w'=>∃m,m<n/\I m a' w') Q) a w):(Code.loop c).wp P Q a w:=by
 intro b k cs;have key:∀n a w,I n a w->∃e a' w',Q e a' w'/\Arrives P (lone (b.at a (.code c::.inLoop c::k)) cs w) b k cs e a' w':=by
  intro n
  induction n using Nat.strongRecOn with
  | _ n ih =>
   intro a w z;obtain⟨e,h,f,o,d⟩:=p n a w z b (.inLoop c::k) cs;cases e with
   | normal =>
    obtain⟨m,y,q⟩:=o;obtain⟨v,t,u,r,j⟩:=ih m y h f q;exact⟨v,t,u,r,.of_steps (Steps.trans d (.one step_inLoop)) j⟩
   | exit id=>exact⟨_,h,f,o,.pass (x:=.inLoop c) rfl (fun _ _=>.inl (by simp)) d⟩
   | goto l=>exact⟨_,h,f,o,.pass (x:=.inLoop c) rfl (fun _ _=>.inl (by simp)) d⟩
   | ret=>exact⟨_,h,f,o,.pass (x:=.inLoop c) rfl (fun _ _=>.inl (by simp)) d⟩
   | panic ch=>exact⟨_,h,f,o,.pass (x:=.inLoop c) rfl (fun _ _=>.inl (by simp)) d⟩
   | outgrown=>exact⟨_,h,f,o,.pass (x:=.inLoop c) rfl (fun _ _=>.inl (by simp)) d⟩
 obtain⟨n,z⟩:=s;obtain⟨e,a',w',o,d⟩:=key n a w z;exact⟨e,a',w',o,.of_steps (.one step_loop) d⟩
theorem qK:∀{L L':Loc},L.keeps L'->∀{k g t cs},L.get k=some (.box g t cs)->∃cs',L'.get k=some (.box g t cs')
 | [],L',_,k,g,t,cs,e=>by cases e
 | (j,.box d c cs')::l,L',h,k,g,t,cs,e=>by
  simp only[Loc.keeps] at h;simp only[Loc.get] at e;split at e
  ·rename_i b;have:=aaR b;subst this;injection e with e
   injection e with e1 e2 e3
   subst e1 e2;exact h.1
  ·exact qK h.2 e
 | (j,.row ..)::l,L',h,k,g,t,cs,e=>by
  simp only[Loc.keeps] at h;simp only[Loc.get] at e;split at e
  ·cases e
  ·exact qK h e
theorem lK {L:Loc}:∀{L':Loc},L.gives L'->∀{k o},L'.get k=some o->L.get k=some o\/(L.get k=none/\∃t sz,o=.row (.slice none 0 0) t sz 0 [])
 | [],_,k,o,e=>by cases e
 | (j,p)::l,h,k,o,e=>by
  simp only[Loc.gives] at h;simp only[Loc.get] at e;split at e
  ·rename_i b;have:=aaR b;subst this;injection e with e
   subst e;exact h.1
  ·exact lK h.2 e
theorem St.gives {L':Loc}(b:St F L w) (h:L.gives L'):St F L' w:=by
 refine⟨b.frz,fun k o e=>?_,fun k o g e hb=>?_,fun k l o o' g e f hb c=>?_,b.glob⟩
 ·rcases lK h e with h1 | ⟨_,t,sz,rfl⟩
  ·exact b.own k o h1
  ·exact World.ownsRow_nil w 0 t sz
 ·rcases lK h e with h1 | ⟨_,t,sz,rfl⟩
  ·exact b.off k o g h1 hb
  ·cases hb
 ·rcases lK h e with h1 | ⟨_,t,sz,rfl⟩<;>rcases lK h f with d | ⟨_,m,j,rfl⟩
  ·exact b.sep k l o o' g h1 d hb c
  ·cases c
  ·cases hb
  ·cases hb
theorem rQ {L':Loc}(h:L.gives L'):Step F L w F L' w :=
 ⟨au.le_refl F,rfl,rfl,rfl,aa3 _,fun _ _ _=>rfl,fun b h=>.inl h,fun b ⟨k,o,e,hb⟩=>by
  rcases lK h e with h1 | ⟨_,t,sz,rfl⟩
  ·exact .inl ⟨k,o,h1,hb⟩
  ·cases hb⟩
theorem cH:∀{l:List Nat}{k:Nat},eZ l k=true↔k∈l
 | [],k=>by simp[eZ]
 | j::l,k=>by
  simp only[eZ];split
  ·rename_i h;have:=aaR h;subst this;simp
  ·rename_i h;have:=f9 h;rw[cH];simp only[aaW];constructor
   ·exact .inr
   ·rintro(h | h)
    ·exact vv h.symm this
    ·exact h
theorem ol:∀(b:List Nat) (c:List Value) (ρ:Env) (j:Nat),(puts b (c.map .v) ρ j=ρ j)\/∃v,puts b (c.map .v) ρ j=.v v
 | [],c,ρ,j=>.inl rfl
 | k::b,[],ρ,j=>.inl rfl
 | k::b,v::c,ρ,j=>by
  simp only[aa0,puts,put_eq];split
  ·exact .inr ⟨v,rfl⟩
  ·exact ol b c ρ j
theorem wU {L:Loc}:∀(c:List Nat) (d:List Value) (ρ b:Env) {a:Act},(∀t,a.tmps.getD t undef=conc L (ρ t))->holds c (d.map .v) ρ->∀j,(∃v,puts c (d.map .v) b j=.v v/\a.tmps.getD j undef=v)\/puts c (d.map .v) b j=b j
 | [],d,ρ,b,a,he,h,j=>.inr rfl
 | k::c,[],ρ,b,a,he,h,j=>.inr rfl
 | k::c,v::d,ρ,b,a,he,h,j=>by
  simp only[aa0,holds] at h;simp only[aa0,puts,put_eq];split
  ·rename_i e;subst e;exact .inl ⟨v,rfl,by rw[he,h.1];rfl⟩
  ·exact wU c d ρ b he h.2 j
end
def bw:dN->List X
 | .mov x | .nilck x | .conv _ x | .un _ x | .eqN _ x | .fieldA _ x | .extr x _ | .len x | .loadD _ _ x | .boxD _ x | .loadK _ _ _ x | .loadF _ _ x | .loadR _ _ x | .makeSV _ _ _ _ x=>[x]
 | .mlook _ _ _ x i=>[x,i]
 | .pick c a b=>[c,a,b]
 | .bin _ x y | .eqB _ x y | .eqS _ x y | .eqA _ _ x y | .idxA _ x y=>[x,y]
 | .build _ ps=>ps.map (·.2.2)
 | .mkfn _ a b=>a++b
 | .slc _ x lo hi=>x::(lo.toList++hi.toList)
 | .mm _ l | .mkFD _ _ _ l=>l
 | .callD _ l=>l
 | .callVD f l=>f::l
 | .allocD _ _=>[]
 | .appD _ _ _ _ s x=>[s,x]
 | .storeD _ a x=>[a,x]
 | .storeK _ _ a x=>[a,x]
 | _=>[]
def cI:dN->Bool
 | .mov _ | .nilck _ | .conv _ _ | .un _ _ | .fieldA _ _ | .extr _ _ | .len _ | .loadD _ _ _ | .pick _ _ _
 | .bin _ _ _ | .eqB _ _ _ | .eqS _ _ _ | .eqN _ _ | .eqA _ _ _ _ | .idxA _ _ _ | .build _ _ | .mkfn _ _ _ | .slc _ _ _ _ | .mm _ _ | .loadK _ _ _ _ | .loadF _ _ _ | .gload _ | .loadR _ _ _ | .mlook _ _ _ _ _=>true
 | _=>false
def JB:dN->Bool
 | .loadR _ _ _ | .mlook _ _ _ _ _=>true
 | _=>false
def gK:dN->Bool
 | .callD _ _ | .callVD _ _=>true
 | _=>false
def dU:dN->Bool
 | .mkFD _ _ _ _ | .boxD _ _ | .allocD _ _ | .makeSD _ _ _ _ | .makeSV _ _ _ _ _=>true
 | _=>false
def o7:dN->Bool
 | .appD _ _ _ _ _ _=>true
 | _=>false
def iA:dN->Bool
 | .storeD _ _ _=>true
 | .storeK _ _ _ _=>true
 | _=>false
def CW:dN->Bool
 | .mov _ | .nilck _ | .conv _ _ | .un _ _ | .fieldA _ _ | .extr _ _ | .len _ | .pick _ _ _
 | .bin _ _ _ | .eqB _ _ _ | .eqS _ _ _ | .eqN _ _ | .eqA _ _ _ _ | .idxA _ _ _ | .slc _ _ _ _ | .mm _ _=>true
 | _=>false
theorem CX {o:dN}(h:CW o=true):cI o=true:=by cases o<;>first | rfl | cases h
theorem Af {o:dN}(h:CW o=true) {F F':au}{L L':Loc}{ρ:Env}{V:SV->Prop}(a:aH o F L ρ V):aH o F' L' ρ V:=by
 cases o<;>first | (cases h;done) | exact a
def drawn:dN->Option dN
 | .load a n x=>some (.loadD a n x)
 | .call f l=>some (.callD f l)
 | .callV f l=>some (.callVD f l)
 | .box t x=>some (.boxD t x)
 | .alloc t z=>some (.allocD t z)
 | .mkF e n sz l=>some (.mkFD e n sz l)
 | .app e sz b z s x=>some (.appD e sz b z s x)
 | .store n a x=>some (.storeD n a x)
 | .boxD _ _ | .allocD _ _ | .mkFD _ _ _ _ | .callD _ _ | .callVD _ _ | .loadD _ _ _ | .appD _ _ _ _ _ _ | .storeD _ _ _ | .boxF _ _ | .callO _ _ | .callVO _ _ | .appX _ _ _ _ _ _ | .makeSD _ _ _ _ | .makeSV _ _ _ _ _ | .loadK _ _ _ _ | .storeK _ _ _ _ | .storeX _ _ _ | .makeS _ _ _ _ _ _ | .loadF _ _ _ | .loadR _ _ _ | .mkmap | .mupd _ _ _ _ | .mrange _ | .mnext _ | .mentry _=>none
 | o=>some o
def Bu:X->Option Int
 | .c (.int _ n)=>some n
 | _=>none
def QT (b:Nat) (n m:Int):Bool:=Nat.ble (n.toNat*b) 140737488355328&&Nat.ble n.toNat 9223372036854775807&&(match n,m with | .ofNat a,.ofNat b=>Nat.beq a b | _,_=>false)
def om (bx:List Nat):dN->Option dN
 | .makeS e sz b zs l c=>match Bu l,Bu c with
  | some n,some m=>match QT b n m with
   | true=>some (.makeSD e sz n.toNat zs)
   | false=>none
  | _,_=>match l,c with
   | .t i,.t j=>match Nat.beq i j with
    | true=>some (.makeSV e sz b zs (.t i))
    | false=>none
   | _,_=>none
 | .mkR e 0 sz []=>some (.makeSD e sz 0 (List.replicate sz undef))
 | .load a n (.t i)=>match eZ bx i with | true=>some (.loadK i a n (.t i)) | false=>some (.loadD a n (.t i))
 | .store n (.t i) x=>match eZ bx i with | true=>some (.storeK i n (.t i) x) | false=>some (.storeD n (.t i) x)
 | o=>drawn o
def PY:List (Nat×Nat)->Nat->Option Nat
 | [],_=>none
 | (i,k)::l,j=>match Nat.beq i j with | true=>some k | false=>PY l j
def uz (fl:List Nat) (bk:List (Nat×Nat)) (bx:List Nat):dN->Option dN
 | .load a n (.t i)=>match eZ fl i with
  | true=>some (.loadF a n (.t i))
  | false=>match PY bk i with
   | some key=>match Nat.beq key 999999 with
    | true=>some (.loadR a n (.t i))
    | false=>some (.loadK key a n (.t i))
   | none=>om bx (.load a n (.t i))
 | o=>om bx o
def wV:dN->Option dN
 | .call f l=>some (.callO f l)
 | .callV f l=>some (.callVO f l)
 | .app e sz b z s x=>some (.appX e sz b z s x)
 | .store n a x=>some (.storeX n a x)
 | .mupd str x i v=>some (.mupd str x i v)
 | _=>none
section
variable {P:Program}{F:au}{L:Loc}{ρ:Env}{K:di}
theorem bY {o:dN}(h:cI o=true) (d:Option Nat):evalOp P o d F L ρ K=aH o F L ρ fun v=>K F L (put d v ρ):=by
 cases o<;>first | rfl | cases h
structure One (T:(SV->Prop)->Prop):Prop where
 ex:∀V,T V->∃v,T (fun u=>u=v)/\V v
 mono:∀V V':SV->Prop,(∀v,V v->V' v)->T V->T V'
theorem One.ret (v:SV):One fun V=>V v:=⟨fun V h=>⟨v,rfl,h⟩,fun V V' h k=>h v k⟩
theorem One.no:One fun _=>False:=⟨fun V h=>h.elim,fun V V' h k=>k⟩
theorem One.and {p:Prop}{T:(SV->Prop)->Prop}(h:One T):One fun V=>p/\T V :=
 ⟨fun V ⟨a,b⟩=>let⟨v,h1,h2⟩:=h.ex V b;⟨v,⟨a,h1⟩,h2⟩,fun V V' c ⟨a,b⟩=>⟨a,h.mono V V' c b⟩⟩
theorem One.fit {k:IntKind}{n:Int}{T:Int->(SV->Prop)->Prop}(h:∀m,One (T m)):One fun V=>Fit k n fun m=>T m V :=
 ⟨fun V ⟨a⟩=>let⟨v,h1,h2⟩:=(h _).ex V a;⟨v,⟨h1⟩,h2⟩,fun V V' b ⟨a⟩=>⟨(h _).mono V V' b a⟩⟩
theorem One.nz {n:Int}{T:(SV->Prop)->Prop}(h:One T):One fun V=>QC n (T V) :=
 ⟨fun V ⟨a,b⟩=>let⟨v,h1,h2⟩:=h.ex V b;⟨v,⟨a,h1⟩,h2⟩,fun V V' c ⟨a,b⟩=>⟨a,h.mono V V' c b⟩⟩
theorem One.idx {a:Option Addr}{i n:Int}{T:(SV->Prop)->Prop}(h:One T):One fun V=>I9 a i n (T V) :=
 ⟨fun V ⟨b,c,e,d⟩=>let⟨v,h1,h2⟩:=h.ex V d;⟨v,⟨b,c,e,h1⟩,h2⟩,fun V V' f ⟨b,c,e,d⟩=>⟨b,c,e,h.mono V V' f d⟩⟩
theorem One.slc {l h:Int}{c:Nat}{T:Nat->Nat->(SV->Prop)->Prop}(f:∀l h,One (T l h)):One fun V=>PJ l h c fun l h=>T l h V :=
 ⟨fun V ⟨a,b,e,d⟩=>let⟨v,h1,h2⟩:=(f _ _).ex V d;⟨v,⟨a,b,e,h1⟩,h2⟩,fun V V' j ⟨a,b,e,d⟩=>⟨a,b,e,(f _ _).mono V V' j d⟩⟩
theorem One.loadD {a:Option Addr}{j n:Nat}{T:List Value->(SV->Prop)->Prop}(h:∀cs,One (T cs)):One fun V=>ja F a j n fun cs=>T cs V :=
 ⟨fun V ⟨cs,b,c,d⟩=>let⟨v,h1,h2⟩:=(h _).ex V d;⟨v,⟨cs,b,c,h1⟩,h2⟩,fun V V' e ⟨cs,b,c,d⟩=>⟨cs,b,c,(h _).mono V V' e d⟩⟩
theorem One.aaF {a:Option Addr}{j n:Nat}{T:List Value->(SV->Prop)->Prop}(h:∀cs,One (T cs)):One fun V=>jW F L a j n fun cs=>T cs V :=
 ⟨fun V ⟨cs,b,c,d⟩=>let⟨v,h1,h2⟩:=(h _).ex V d;⟨v,⟨cs,b,c,h1⟩,h2⟩,fun V V' e ⟨cs,b,c,d⟩=>⟨cs,b,c,(h _).mono V V' e d⟩⟩
theorem One.aaJ {g:Nat}{T:Nat->List Value->(SV->Prop)->Prop}(h:∀k cs,One (T k cs)):One fun V=>CI L g fun k cs=>T k cs V :=
 ⟨fun V ⟨k,cs,a,b,c⟩=>let⟨v,h1,h2⟩:=(h _ _).ex V c;⟨v,⟨k,cs,a,b,h1⟩,h2⟩,fun V V' d ⟨k,cs,a,b,c⟩=>⟨k,cs,a,b,(h _ _).mono V V' d c⟩⟩
theorem One.mlk {str:Bool}{cs:List Value}{key:Value}{ok:Bool}{z:Value}:One fun V=>FJ str cs key ok z fun v=>V (.v v) :=
 ⟨fun V h=>by
  rcases h.out with⟨i,v,h1,a⟩ | ⟨h1,a⟩
  ·exact⟨_,⟨.inl ⟨i,v,h1,rfl⟩⟩,a⟩
  ·exact⟨_,⟨.inr ⟨h1,rfl⟩⟩,a⟩,fun V V' b h=>⟨h.out.imp (fun⟨i,v,h1,a⟩=>⟨i,v,h1,b _ a⟩) fun⟨h1,a⟩=>⟨h1,b _ a⟩⟩⟩
theorem One.gl {g:Nat}{T:Value->(SV->Prop)->Prop}(h:∀v,One (T v)):One fun V=>SH F g fun v=>T v V :=
 ⟨fun V ⟨u,t,c,a,b⟩=>let⟨v,h1,h2⟩:=(h _).ex V b;⟨v,⟨u,t,c,a,h1⟩,h2⟩,fun V V' d ⟨u,t,c,a,b⟩=>⟨u,t,c,a,(h _).mono V V' d b⟩⟩
theorem One.bytes {cs:List Value}{T:List UInt8->(SV->Prop)->Prop}(h:∀a,One (T a)):One fun V=>Mk cs fun a=>T a V :=
 ⟨fun V ⟨a,b,c⟩=>let⟨v,h1,h2⟩:=(h _).ex V c;⟨v,⟨a,b,h1⟩,h2⟩,fun V V' d ⟨a,b,c⟩=>⟨a,b,(h _).mono V V' d c⟩⟩
theorem One.binI {op:BinOp}{k:IntKind}{a b:Int}:One fun V=>binI op k a b fun v=>V (.v v):=by
 cases op<;>simp only[Fr.binI]<;>first
  | exact One.no
  | exact One.ret _
  | exact One.fit fun _=>One.ret _
  | exact One.nz (One.fit fun _=>One.ret _)
  | exact One.nz (One.ret _)
theorem One.shI {op:BinOp}{k:IntKind}{a b:Int}:One fun V=>shI op k a b fun v=>V (.v v):=by
 cases op<;>simp only[Fr.shI]<;>first
  | exact One.no
  | exact One.and (One.fit fun _=>One.ret _)
  | exact One.and (One.ret _)
theorem One.binS {op:BinOp}{a b:ByteArray}:One fun V=>binS op a b fun v=>V (.v v):=by
 cases op<;>simp only[Fr.binS]<;>first
  | exact One.no
  | exact One.ret _
  | exact One.and (One.ret _)
theorem eP {o:dN}(h:cI o=true):One (aH o F L ρ):=by
 cases o<;>first | (cases h;done) | skip
 case mov x=>exact One.ret _
 case pick c a b =>
  show One fun V=>aH _ F L ρ V;simp only[aH];cases e:ev ρ c with
  | v x =>
    cases x<;>try exact One.no
    rename_i b;cases b<;>exact One.ret _
  | own k off=>exact One.no
  | el a j=>exact One.no
 case build zs ps =>
  show One fun V=>aH _ F L ρ V;simp only[aH];cases e:built L ρ zs ps with
  | none=>exact One.no
  | some cs=>exact One.ret _
 case loadD ag n x =>
  show One fun V=>aH _ F L ρ V;simp only[aH];cases e:ev ρ x with
  | own k off =>
   simp only[];cases m:L.get k with
   | none=>exact One.no
   | some p =>
    cases p with
    | row=>exact One.no
    | box g t cs =>
     simp only[];cases q:jg t ((cs.drop off).take n) n
     ·exact One.no
     ·exact One.ret _
  | el a j=>exact One.loadD fun _=>One.ret _
  | v x =>
   cases x<;>try exact One.no
   rename_i a;cases a
   ·exact One.no
   ·exact One.loadD fun _=>One.ret _
 case gload g =>
  show One fun V=>aH _ F L ρ V;simp only[aH];exact One.gl fun _=>One.ret _
 case loadR ag n x =>
  show One fun V=>aH _ F L ρ V;simp only[aH];cases e:ev ρ x with
  | own k off =>
   simp only[];cases m:L.get k with
   | none=>exact One.no
   | some p =>
    cases p with
    | row=>exact One.no
    | box g t cs =>
     simp only[];cases q:jg t ((cs.drop off).take n) n
     ·exact One.no
     ·exact One.ret _
  | el a j=>exact One.aaF fun _=>One.ret _
  | v x =>
   cases x<;>try exact One.no
   rename_i a;cases a
   ·exact One.no
   ·exact One.aaF fun _=>One.ret _
 case mlook str ok z0 x i =>
  show One fun V=>aH _ F L ρ V;simp only[aH];cases e:ev ρ x with
  | own k off=>exact One.no
  | el a j=>exact One.no
  | v x =>
   cases x<;>try exact One.no
   rename_i a;cases a
   ·exact One.no
   ·exact One.aaJ fun k cs=>One.mlk
 case loadF ag n x =>
  show One fun V=>aH _ F L ρ V;simp only[aH];cases e:ev ρ x with
  | own k off=>exact One.no
  | el a j=>exact One.loadD fun _=>One.ret _
  | v x =>
   cases x<;>try exact One.no
   rename_i a;cases a
   ·exact One.no
   ·exact One.loadD fun _=>One.ret _
 case loadK key ag n x =>
  show One fun V=>aH _ F L ρ V;simp only[aH];cases e:ev ρ x with
  | own k off =>
   simp only[];cases e1:Nat.beq k key with
   | false=>exact One.no
   | true =>
    simp only[];cases m:L.get k with
    | none=>exact One.no
    | some p =>
     cases p with
     | row=>exact One.no
     | box g t cs =>
      simp only[];cases q:jg t ((cs.drop off).take n) n
      ·exact One.no
      ·exact One.ret _
  | el a j=>exact One.no
  | v x=>exact One.no
 case nilck x =>
  show One fun V=>aH _ F L ρ V;simp only[aH];cases e:ev ρ x with
  | own k off=>exact One.ret _
  | el a j=>exact One.and (One.ret _)
  | v x =>
   cases x<;>try exact One.no
   ·rename_i a;cases a
    ·exact One.no
    ·exact One.ret _
   ·rename_i f a b;cases f<;>first
     | exact One.no
     | exact One.ret _
     | (simp only[]
        split
        ·exact One.and (One.ret _)
        ·exact One.no)
 case bin op x y =>
  show One fun V=>aH _ F L ρ V;simp only[aH];cases e:ev ρ x with
  | own k off=>exact One.no
  | el a j=>exact One.no
  | v u =>
   cases m:ev ρ y with
   | own k off=>cases u<;>exact One.no
   | el a j=>cases u<;>exact One.no
   | v d =>
    cases u<;>cases d<;>try exact One.no
    ·simp only[];cases Jb op
     ·simp only[];rename_i k n s n';cases pG k s
      ·exact One.no
      ·exact One.binI
     ·exact One.shI
    ·exact One.binS
 case eqB ng x y =>
  show One fun V=>aH _ F L ρ V;simp only[aH];cases e:ev ρ x with
  | own k off=>exact One.no
  | el a j=>exact One.no
  | v u =>
   cases m:ev ρ y with
   | own k off=>cases u<;>exact One.no
   | el a j=>cases u<;>exact One.no
   | v d=>cases u<;>cases d<;>first | exact One.no | exact One.ret _
 case eqS ng x y =>
  show One fun V=>aH _ F L ρ V;simp only[aH];cases e:ev ρ x with
  | own k off=>exact One.no
  | el a j=>exact One.no
  | v u =>
   cases m:ev ρ y with
   | own k off=>cases u<;>exact One.no
   | el a j=>cases u<;>exact One.no
   | v d =>
    cases u<;>cases d<;>try exact One.no
    rename_i a1 l1 c1 w l2 c2;cases w<;>first | exact One.no | exact One.ret _
 case eqN ng x =>
  show One fun V=>aH _ F L ρ V;simp only[aH];cases e:ev ρ x with
  | own k off=>exact One.no
  | el a j=>exact One.no
  | v u=>cases u<;>first | exact One.no | exact One.ret _
 case eqA ng ks x y =>
  show One fun V=>aH _ F L ρ V;simp only[aH];cases e:ev ρ x with
  | own k off=>exact One.no
  | el a j=>exact One.no
  | v u =>
   cases m:ev ρ y with
   | own k off=>cases u<;>exact One.no
   | el a j=>cases u<;>exact One.no
   | v d =>
    cases u<;>cases d<;>try exact One.no
    rename_i cs ds;simp only[];cases iU ks cs.toList ds.toList true<;>first | exact One.no | exact One.ret _
 case un op x =>
  show One fun V=>aH _ F L ρ V;simp only[aH];cases op<;>cases e:ev ρ x<;>first
   | exact One.no
   | (rename_i u;cases u<;>first | exact One.no | exact One.ret _ | exact One.fit fun _=>One.ret _)
 case conv k x =>
  show One fun V=>aH _ F L ρ V;simp only[aH];cases e:ev ρ x<;>first
   | exact One.no
   | (rename_i u;cases u<;>first | exact One.no | exact One.fit fun _=>One.ret _)
 case mkfn f a b=>exact One.ret _
 case slc sz x lo hi =>
  show One fun V=>aH _ F L ρ V;simp only[aH];cases e:ev ρ x<;>try exact One.no
  rename_i u;cases u<;>try exact One.no
  rename_i a n c;simp only[];cases mY ρ 0 lo<;>cases mY ρ n hi<;>first | exact One.no | exact One.slc fun _ _=>One.ret _
 case fieldA off x =>
  show One fun V=>aH _ F L ρ V;simp only[aH];cases e:ev ρ x with
  | own k off=>exact One.ret _
  | el a j=>exact One.ret _
  | v u =>
   cases u<;>try exact One.no
   rename_i p;cases p<;>first | exact One.no | exact One.ret _
 case idxA sz x i =>
  show One fun V=>aH _ F L ρ V;simp only[aH];cases e:ev ρ x with
  | own k off=>exact One.no
  | el a j=>exact One.no
  | v u =>
   cases m:ev ρ i with
   | own k off=>cases u<;>exact One.no
   | el a j=>cases u<;>exact One.no
   | v d=>cases u<;>cases d<;>first | exact One.no | exact One.idx (One.ret _)
 case extr x i =>
  show One fun V=>aH _ F L ρ V;simp only[aH];cases e:ev ρ x<;>try exact One.no
  rename_i u;cases u<;>try exact One.no
  rename_i z;simp only[];cases z.toList[i]?<;>first | exact One.no | exact One.ret _
 case len x =>
  show One fun V=>aH _ F L ρ V;simp only[aH];cases e:ev ρ x<;>try exact One.no
  rename_i u;cases u<;>first | exact One.no | exact One.ret _
 case mm mx l =>
  show One fun V=>aH _ F L ρ V;simp only[aH];cases e:l.map (ev ρ) with
  | nil=>exact One.no
  | cons u r =>
   cases u<;>try exact One.no
   rename_i u;cases u<;>try exact One.no
   rename_i k a0;simp only[];cases PN mx a0 r<;>first | exact One.no | exact One.ret _
end
theorem rR {P:Program}{s s':dN}{d:Option Nat}{F:au}{L:Loc}{ρ:Env}{K:di}(h:drawn s=some s') (ab:(cI s'||gK s'||dU s'||o7 s'||iA s')=true) (ae:gK s'=false) (f:evalOp P s' d F L ρ K):evalOp P s d F L ρ (fun F' L' ρ'=>Real F' L'->K F' L' ρ'):=by
 have load:∀{a:Option Addr}{j n:Nat}{KK KK':List Value->Prop},ja F a j n KK->(∀cs,KK cs->KK' cs)->jW F L a j n KK':=by
  rintro a j n KK KK' ⟨cs,h1,p,h3⟩ r;exact⟨cs,h1,by rcases p with p | p;exact .inl p;exact .inr (.inr (.inl p)),r _ h3⟩
 have app:∀{e sz b:Nat}{sv xv:Value}{KK KK':Loc->Value->Prop},pF F L d e sz b sv xv KK->(∀L' v,(Real F L'->KK L' v)->KK' L' v)->FI F L e sz b sv xv KK':=by
  rintro e sz b sv xv KK KK' ⟨kd,n,xs,m,u,h1,⟨ad,c,p,h3,r⟩,h5,h6,h7,h8⟩ hk;refine⟨kd,n,xs,m,u,?_,⟨ad,c,p,h3,?_⟩,h5,h6,h7,fun v hv=>hk _ _ (h8 v hv)⟩
  ·rcases h1 with h1 | ⟨_,h1⟩ | ⟨_,h1⟩
   ·exact .inl h1
   ·exact .inr (.inl h1)
   ·exact .inr (.inr h1)
  ·rcases r with r | r
   ·exact .inl r
   ·exact .inr (.inl r)
 by_cases y:cI s'=true
 ·have q:=y;have h1:∀V V':SV->Prop,(∀v,V v->V' v)->aH s' F L ρ V->aH s F L ρ V':=by
   intro V V' hV o;have o:=(eP q).mono V V' hV o;cases s<;>simp only[drawn,aaO,reduceCtorEq] at h<;>subst h<;>first
    | exact o
    | (simp only[aH] at o ⊢
       split at o
       ·exact o
       ·exact load o fun _ h=>h
       ·exact load o fun _ h=>h
       ·exact o)
    | (simp only[aH] at o ⊢
       split at o
       ·exact load o fun _ h=>h
       ·exact o)
    | (exfalso;revert y;simp[cI];done)
  rw[bY q] at f;have p:=h1 _ (fun v=>Real F L->K F L (put d v ρ)) (fun v hv _=>hv) f;cases s<;>simp only[drawn,aaO,reduceCtorEq] at h<;>subst h<;>first
   | exact p
   | (exfalso;revert y;simp[cI];done)
 ·by_cases w:iA s'=true
  ·cases s<;>simp only[drawn,aaO,reduceCtorEq] at h<;>subst h<;>first | (cases w;done) | skip
   rename_i n a x;have l:(match gQ (aL (val L ρ x)) n,jT (aL (val L ρ x)),ev ρ a with
    | true,true,.own k off=>match L.get k with
     | some (.box g t cs)=>match jg t ((cs.drop off).take n) n with
      | true=>K F (L.set k (.box g t (bP cs off (aL (val L ρ x))))) (put d (.v undef) ρ)
      | false=>False
     | _=>False
    | _,_,_=>False):=f
   clear f
   split at l
   case h_2=>exact l.elim
   rename_i e1 e2 e3;split at l
   case h_2=>exact l.elim
   rename_i e4;split at l
   case h_2=>exact l.elim
   rename_i e5;simp only[evalOp,e1,e2,e3,e4,e5];exact fun _=>l
  cases s<;>simp only[drawn,aaO,reduceCtorEq] at h<;>subst h<;>first
   | (exfalso;revert y ab w;simp[cI,gK,dU,o7,iA];done)
   | (cases ae;done)
   | (simp only[evalOp] at f ⊢
      split at f
      ·exact app f fun _ _ h=>h
      ·exact f)
   | (simp only[evalOp] at f ⊢
      split at f
      ·split at f
       ·exact f
       ·exact f
      ·exact f)
   | (simp only[evalOp] at f ⊢
      split at f
      ·exact fun g F' z hg hr=>f g F' z hg hr
      ·exact f)
section
variable {P:Program}{F:au}{L:Loc}{ρ:Env}{K:di}
def Alike (o:dN) (L L':Loc) (ρ ρ':Env):Prop:=∀x∈bw o,ev ρ' x=ev ρ x/\∀k off,ev ρ x=.own k off->L'.get k=L.get k
theorem Alike.val {o:dN}{L L':Loc}{ρ ρ':Env}(h:Alike o L L' ρ ρ') {x:X}(c:x∈bw o):Fr.val L' ρ' x=Fr.val L ρ x:=by
 obtain⟨h1,b⟩:=h x c;simp only[Fr.val,h1];cases e:ev ρ x with
 | v u=>rfl
 | el a j=>rfl
 | own k off=>simp only[conc,b k off e]
theorem cU {L L':Loc}{ρ ρ':Env}:∀{xs:List X},(∀x∈xs,Fr.val L' ρ' x=Fr.val L ρ x)->bn L' ρ' xs=bn L ρ xs
 | [],_=>rfl
 | x::xs,h=>by simp only[bn,h x (by simp),cU (xs:=xs) (fun y a=>h y (abj _ a))]
theorem bZ {L L':Loc}{ρ ρ':Env}:∀{xs:List X},(∀x∈xs,Fr.val L' ρ' x=Fr.val L ρ x)->cellsOf L' ρ' xs=cellsOf L ρ xs
 | [],_=>rfl
 | x::xs,h=>by simp only[cellsOf,h x (by simp),bZ (xs:=xs) (fun y a=>h y (abj _ a))]
theorem mK {L L':Loc}{ρ ρ':Env}{sz:Nat}:∀{xs:List X},(∀x∈xs,Fr.val L' ρ' x=Fr.val L ρ x)->fL L' ρ' sz xs=fL L ρ sz xs
 | [],_=>rfl
 | x::xs,h=>by simp only[fL,h x (by simp),mK (xs:=xs) (fun y a=>h y (abj _ a))]
theorem pR {L L':Loc}{ρ ρ':Env}:∀{ps:List (Nat×Nat×X)}{zs:List Value},(∀p∈ps,Fr.val L' ρ' p.2.2=Fr.val L ρ p.2.2)->built L' ρ' zs ps=built L ρ zs ps
 | [],zs,_=>rfl
 | (off,n,x)::ps,zs,h=>by
  have h1:=h (off,n,x) (by simp);simp only at h1;simp only[built,h1];split
  ·exact pR (fun p a=>h p (by simp[a]))
  ·rfl
theorem ja.up {F F':au}(c:F.le F') {a:Option Addr}{j n:Nat}{K:List Value->Prop}(h:ja F a j n K):ja F' a j n K:=by
 obtain⟨cs,h1,b,d⟩:=h;exact⟨cs,h1,by rcases b with b | b;exact .inl (b.mono c);exact .inr b,d⟩
theorem jW.upF {F F':au}(c:F.le F') {L:Loc}{a:Option Addr}{j n:Nat}{K:List Value->Prop}(h:jW F L a j n K):jW F' L a j n K:=by
 obtain⟨cs,h1,b,d⟩:=h;exact⟨cs,h1,by rcases b with b | b;exact .inl (b.mono c);exact .inr b,d⟩
theorem wW {ρ ρ':Env}{d:Int}{x:Option X}(h:∀y∈x.toList,ev ρ' y=ev ρ y):mY ρ' d x=mY ρ d x:=by
 cases x with
 | none=>rfl
 | some y=>simp only[mY,h y (by simp)]
theorem qL {o:dN}(v:cI o=true) {F F':au}{L L':Loc}{ρ ρ':Env}(r:F.le F') (H:Alike o L L' ρ ρ') {V:SV->Prop}(h:aH o F L ρ V) (s:JB o=false\/L'=L:=by exact .inr rfl):aH o F' L' ρ' V:=by
 cases o<;>first | (cases v;done) | skip
 case build zs ps =>
  have e:=pR (ps:=ps) (zs:=zs) (L:=L) (L':=L') (ρ:=ρ) (ρ':=ρ') (fun p hp=>H.val (abt.2 ⟨p,hp,rfl⟩));simp only[aH,e] at h ⊢;exact h
 case mkfn f a b =>
  have j:=cU (xs:=a) (L:=L) (L':=L') (ρ:=ρ) (ρ':=ρ') (fun x q=>H.val (aaX.2 (.inl q)));have m:=cU (xs:=b) (L:=L) (L':=L') (ρ:=ρ) (ρ':=ρ') (fun x q=>H.val (aaX.2 (.inr q)));simp only[aH,j,m] at h ⊢;exact h
 case mm mx l =>
  have e:l.map (ev ρ')=l.map (ev ρ):=abV fun x q=>(H x q).1;simp only[aH,e] at h ⊢;exact h
 case slc sz x lo hi =>
  have e:=(H x (by simp[bw])).1;have j:∀d,mY ρ' d lo=mY ρ d lo:=fun d=>wW fun y w=>(H y (by simp only[bw];exact abj _ (aaX.2 (.inl w)))).1;have m:∀d,mY ρ' d hi=mY ρ d hi:=fun d=>wW fun y w=>(H y (by simp only[bw];exact abj _ (aaX.2 (.inr w)))).1;simp only[aH,e,j,m] at h ⊢;exact h
 case loadD ag n x =>
  obtain⟨e,j⟩:=H x (by simp[bw]);simp only[aH,e] at h ⊢;split at h
  ·rename_i k off q;simp only[j k off q];exact h
  ·exact h.up r
  ·exact h.up r
  ·exact h
 case gload g =>
  simp only[aH] at h ⊢;obtain⟨u,t,fr,h1,h2⟩:=h;exact⟨u,t,fr,r _ _ h1,h2⟩
 case loadR ag n x =>
  obtain⟨e,j⟩:=H x (by simp[bw]);rcases s with s | rfl
  ·cases s
  ·simp only[aH,e] at h ⊢;split at h
   ·exact h
   ·exact h.upF r
   ·exact h.upF r
   ·exact h
 case mlook str ok z0 x i =>
  obtain⟨e,j⟩:=H x (by simp[bw]);have m:val L' ρ' i=val L ρ i:=H.val (by simp[bw]);rcases s with s | rfl
  ·cases s
  ·simp only[aH,e,m] at h ⊢;exact h
 case loadF ag n x =>
  obtain⟨e,j⟩:=H x (by simp[bw]);simp only[aH,e] at h ⊢;split at h
  ·exact h.up r
  ·exact h.up r
  ·exact h
 case loadK key ag n x =>
  obtain⟨e,j⟩:=H x (by simp[bw]);simp only[aH,e] at h ⊢;split at h
  ·rename_i k off q;simp only[j k off q];exact h
  ·exact h
 case pick c a b =>
  have j:=(H c (by simp[bw])).1;have m:=(H a (by simp[bw])).1;have z:=(H b (by simp[bw])).1;simp only[aH,j,m,z] at h ⊢;exact h
 all_goals first
  | (have j:=(H _ (List.mem_cons_self ..)).1
     simp only[aH,j] at h ⊢;exact h)
  | (have j:=(H _ (List.mem_cons_self ..)).1
     have m:=(H _ (abj _ (List.mem_cons_self ..))).1;simp only[aH,j,m] at h ⊢;exact h)
theorem JC {o:dN}(h:cI o=true) {k off:Nat}(d:aH o F L ρ (fun u=>u=.own k off)):∃x∈bw o,∃f,ev ρ x=.own k f:=by
 cases o<;>first | (cases h;done) | skip
 case mov x=>exact⟨x,by simp[bw],off,d⟩
 case pick c a b =>
  simp only[aH] at d;split at d
  ·exact⟨a,by simp[bw],off,d⟩
  ·exact⟨b,by simp[bw],off,d⟩
  ·exact d.elim
 case nilck x =>
  simp only[aH] at d;split at d
  ·rename_i j f e;injection d with h1 h2
   subst h1;exact⟨x,by simp[bw],f,e⟩
  ·cases d.2
  ·cases d
  ·cases d
  ·split at d
   ·cases d.2
   ·exact d.elim
  ·exact d.elim
 case fieldA o' x =>
  simp only[aH] at d;split at d
  ·rename_i j f e;injection d with h1 h2
   subst h1;exact⟨x,by simp[bw],f,e⟩
  ·cases d
  ·cases d
  ·exact d.elim
 case bin op x y =>
  simp only[aH] at d;split at d
  ·split at d
   ·cases op<;>simp only[shI] at d<;>first | exact d.elim | (obtain⟨_,⟨d⟩⟩:=d;cases d;done) | (obtain⟨_,d⟩:=d;cases d;done)
   ·split at d
    ·cases op<;>simp only[binI] at d<;>first | exact d.elim | (cases d;done) | (obtain⟨d⟩:=d;cases d;done) | (obtain⟨_,⟨d⟩⟩:=d;cases d;done) | (obtain⟨_,d⟩:=d;cases d;done)
    ·exact d.elim
  ·cases op<;>simp only[binS] at d<;>first | exact d.elim | (cases d;done) | (obtain⟨_,d⟩:=d;cases d;done)
  ·exact d.elim
 case loadD ag n x =>
  simp only[aH] at d;split at d
  ·split at d
   ·split at d
    ·cases d
    ·exact d.elim
   ·exact d.elim
  ·obtain⟨cs,_,_,d⟩:=d;cases d
  ·obtain⟨cs,_,_,d⟩:=d;cases d
  ·exact d.elim
 case gload g =>
  simp only[aH] at d;obtain⟨u,t,l,_,d⟩:=d;cases d
 case loadR ag n x =>
  simp only[aH] at d;split at d
  ·split at d
   ·split at d
    ·cases d
    ·exact d.elim
   ·exact d.elim
  ·obtain⟨cs,_,_,d⟩:=d;cases d
  ·obtain⟨cs,_,_,d⟩:=d;cases d
  ·exact d.elim
 case mlook str ok z0 x i =>
  simp only[aH] at d;split at d
  ·obtain⟨k,cs,_,_,⟨⟨i,v,_,d⟩ | ⟨_,d⟩⟩⟩:=d<;>cases d
  ·exact d.elim
 case loadF ag n x =>
  simp only[aH] at d;split at d
  ·obtain⟨cs,_,_,d⟩:=d;cases d
  ·obtain⟨cs,_,_,d⟩:=d;cases d
  ·exact d.elim
 case loadK key ag n x =>
  simp only[aH] at d;split at d
  ·split at d
   ·split at d
    ·split at d
     ·cases d
     ·exact d.elim
    ·exact d.elim
   ·exact d.elim
  ·exact d.elim
 all_goals
  simp only[aH] at d
  repeat' split at d
 all_goals first
  | exact d.elim
  | (cases d;done)
  | (obtain⟨d⟩:=d;cases d;done)
  | (obtain⟨_,_,d⟩:=d;cases d;done)
  | (obtain⟨_,_,_,d⟩:=d;cases d;done)
end
theorem MC {P:Program}{s s':dN}{d:Option Nat}{F:au}{L:Loc}{ρ:Env}{K:di}(h:wV s=some s') (a:evalOp P s' d F L ρ K):evalOp P s d F L ρ (fun F' L' ρ'=>Real F' L'->K F' L' ρ'):=by
 cases s<;>simp only[wV,aaO,reduceCtorEq] at h<;>subst h
 case store=>exact a
 case mupd =>
  simp only[evalOp] at a ⊢;split at a
  ·obtain⟨k,cs,h1,e,b,cs',f,c⟩:=a;exact⟨k,cs,h1,e,b,cs',f,fun _=>c⟩
  ·exact a.elim
 ·simp only[evalOp] at a ⊢;exact a
 ·simp only[evalOp] at a ⊢;split at a
  ·exact a
  ·exact a.elim
 ·simp only[evalOp] at a ⊢;split at a
  ·exact a
  ·exact a.elim
theorem rA {P:Program}{F:au}{L:Loc}{ρ:Env}{K:di}{n:Nat}{a x:X}{d:Option Nat}:evalOp P (.storeD n a x) d F L ρ K=(match gQ (aL (val L ρ x)) n,jT (aL (val L ρ x)),ev ρ a with
  | true,true,.own k off=>match L.get k with
   | Option.some (.box g t cs)=>match jg t ((cs.drop off).take n) n with
    | true=>K F (L.set k (.box g t (bP cs off (aL (val L ρ x))))) (put d (.v undef) ρ)
    | false=>False
   | _=>False
  | _,_,_=>False):=rfl
theorem rB {P:Program}{F:au}{L:Loc}{ρ:Env}{K:di}{key n:Nat}{a x:X}{d:Option Nat}:evalOp P (.storeK key n a x) d F L ρ K=(match gQ (aL (val L ρ x)) n,jT (aL (val L ρ x)),ev ρ a with
  | true,true,.own k off=>match Nat.beq k key with
   | true=>match L.get k with
    | Option.some (.box g t cs)=>match jg t ((cs.drop off).take n) n with
     | true=>K F (L.set k (.box g t (bP cs off (aL (val L ρ x))))) (put d (.v undef) ρ)
     | false=>False
    | _=>False
   | false=>False
  | _,_,_=>False):=rfl
theorem iB {P:Program}{F:au}{L:Loc}{ρ:Env}{K:di}{o:dN}{d:Option Nat}(m:iA o=true) (b:evalOp P o d F L ρ K) :
  ∃n a x k off g t cs,(o=.storeD n a x\/o=.storeK k n a x)/\gQ (aL (val L ρ x)) n=true/\jT (aL (val L ρ x))=true/\ev ρ a=.own k off/\L.get k=some (.box g t cs)/\jg t ((cs.drop off).take n) n=true /\
   K F (L.set k (.box g t (bP cs off (aL (val L ρ x))))) (put d (.v undef) ρ):=by
 cases o<;>first | (cases m;done) | skip
 case storeD n a x =>
  rw[rA] at b;split at b
  case h_2=>exact b.elim
  rename_i k off l j e;split at b
  case h_2=>exact b.elim
  rename_i g t cs h;split at b
  case h_2=>exact b.elim
  rename_i c;exact⟨n,a,x,k,off,g,t,cs,.inl rfl,l,j,e,h,c,b⟩
 case storeK key n a x =>
  rw[rB] at b;split at b
  case h_2=>exact b.elim
  rename_i k off l j e;split at b
  case h_2=>exact b.elim
  rename_i f;have f:=aaR f;subst f;split at b
  case h_2=>exact b.elim
  rename_i g t cs h;split at b
  case h_2=>exact b.elim
  rename_i c;exact⟨n,a,x,k,off,g,t,cs,.inr rfl,l,j,e,h,c,b⟩
theorem gY {P:Program}{F:au}{L:Loc}{ρ:Env}{K:di}{o:dN}{d:Option Nat}{n:Nat}{a x:X}{k off g:Nat}{t:TypeId}{cs:List Value}(m:o=.storeD n a x\/o=.storeK k n a x) (j:gQ (aL (val L ρ x)) n=true) (h:jT (aL (val L ρ x))=true) (c:ev ρ a=.own k off) (f:L.get k=some (.box g t cs)) (b:jg t ((cs.drop off).take n) n=true)
  (e:K F (L.set k (.box g t (bP cs off (aL (val L ρ x))))) (put d (.v undef) ρ)):evalOp P o d F L ρ K:=by
 rcases m with rfl | rfl
 ·rw[rA];simp only[j,h,c,f,b];exact e
 ·rw[rB];have l:Nat.beq k k=true:=by simp
  simp only[j,h,c,l,f,b];exact e
theorem Ag {x:X}{n:Int}{ρ:Env}(h:Bu x=some n):∃k,ev ρ x=.v (.int k n):=by
 unfold Bu at h;split at h
 ·injection h with h;subst h;exact⟨_,rfl⟩
 ·cases h
theorem ME {L:Loc}{ρ:Env}{x:X}{k:IntKind}{m:Int}(h:val L ρ x=.int k m):ev ρ x=.v (.int k m):=by
 unfold val at h;cases e:ev ρ x with
 | v u=>rw[e] at h;exact xo SV.v h
 | own j off =>
  rw[e] at h;simp only[conc] at h;split at h<;>cases h
 | el a j =>
  rw[e] at h;cases a<;>cases h
theorem MF {b:Nat}{n m:Int}(h:QT b n m=true):0<=n/\n=m/\n.toNat*b<=140737488355328/\n.toNat<=maxLen:=by
 simp only[QT,aaN] at h;obtain⟨⟨h1,c⟩,a⟩:=h;split at a
 ·have a:=aaR a;subst a;exact⟨by simp,rfl,abb h1,abb c⟩
 ·cases a
theorem MG {P:Program}{bx:List Nat}{s s':dN}{d:Option Nat}{F:au}{L:Loc}{ρ:Env}{K:di}(h:om bx s=some s') (c:(cI s'||gK s'||dU s'||o7 s'||iA s')=true) (l:gK s'=false) (b:evalOp P s' d F L ρ K):evalOp P s d F L ρ (fun F' L' ρ'=>Real F' L'->K F' L' ρ'):=by
 unfold om at h;split at h
 ·split at h
  ·rename_i n m p o;split at h
   ·rename_i u;injection h with h
    subst h;obtain⟨k1,p⟩:=Ag (ρ:=ρ) p;obtain⟨k2,o⟩:=Ag (ρ:=ρ) o;obtain⟨m1,m2,m3,m4⟩:=MF u;subst m2;simp only[evalOp,p,o] at b ⊢;split at b
    ·rename_i k;split at b
     ·rename_i q _ _;simp only[q];exact⟨m1,abm _,m3,m4,b⟩
     ·exact b.elim
    ·exact b.elim
   ·cases h
  ·split at h
   ·rename_i i j _ _;split at h
    ·rename_i f;have f:=aaR f;subst f;injection h with h
     subst h;simp only[evalOp] at b ⊢;split at b
     ·rename_i k;split at b
      ·rename_i q _ u;obtain⟨ki,m,p,m1,m2,m3,m4⟩:=CJ u;have o:=ME p;simp only[o,q];rw[m2] at b;exact⟨m1,abm _,m3,m4,b⟩
      ·exact b.elim
     ·exact b.elim
    ·cases h
   ·cases h
 ·rename_i e sz;injection h with h
  subst h;simp only[evalOp] at b ⊢;split at b
  ·rename_i k;split at b
   ·rename_i q _ _;simp only[fL,q];exact b
   ·exact b.elim
  ·exact b.elim
 ·rename_i a n i;split at h
  ·injection h with h
   subst h;refine rR (s:=.load a n (.t i)) (s':=.loadD a n (.t i)) rfl rfl rfl ?_;simp only[evalOp,aH] at b ⊢;split at b
   ·rename_i k off e;simp only[e];split at b
    ·exact b
    ·exact b.elim
   ·exact b.elim
  ·injection h with h
   subst h;exact rR (s:=.load a n (.t i)) rfl c l b
 ·rename_i n i x;split at h
  ·injection h with h
   subst h;obtain⟨n',a',z,k,off,g,t,cs,r,p,o,w,y,v,b⟩:=iB rfl b;rcases r with r | r
   ·cases r
   ·injection r with h1 h2 h3 h4
    subst h1 h2 h3 h4;exact rR (s:=.store n (.t i) x) (s':=.storeD n (.t i) x) rfl rfl rfl (gY (.inl rfl) p o w y v b)
  ·injection h with h
   subst h;exact rR (s:=.store n (.t i) x) rfl c l b
 ·exact rR h c l b
def Loc.sameAs (L L':Loc):Prop:=∀j,L'.get j=L.get j
theorem wX {P:Program}{f:Nat}{args:List Value}{F:au}{L:Loc}{d:Option Nat}{KK:au->Loc->Value->Prop}(h:dI P f args F L d KK):dO P f args F L (fun F' L' v=>∃L2,L'.sameAs L2/\(Real F' L2->KK F' L2 v)):=by
 cases h with
 | frz R h1 r =>
  refine⟨[],[],[],R,rfl,List.nodup_nil,List.nodup_nil,fun _ h=>(by cases h),h1,fun v F' Lo a m=>?_⟩;obtain⟨rfl,y⟩:=r v F' Lo a m;exact⟨rfl,fun _ _ _ _ h=>(by cases h),_,fun _=>rfl,y⟩
 | own R k h1 hd q r =>
  refine⟨[],[k],[],R,rfl,List.nodup_nil,by simp,fun j p=>.inr (by simp at p;rw[p];exact q),h1,fun v F' Lo a m=>?_⟩;obtain⟨o,rfl,y⟩:=r v F' Lo a m;exact⟨rfl,fun _ _ _ _ h=>(by cases h),_,fun _=>rfl,y⟩
 | row R u rv t sz n xs h1 q r =>
  refine⟨[u],[u],[.row rv t sz n xs],fun F Lo v=>Lo=[.row (.slice none 0 0) t sz 0 []]/\R F [] v,?_,by simp,by simp,fun j p=>.inl p,⟨h1.ent,fun F G L v a hr=>⟨hr.1,h1.mono _ _ _ _ a hr.2⟩,fun w hs=>(h1.run w hs).mono ?_⟩,fun v F' Lo a m=>?_⟩
  ·simp only[Loc.sub,q]
  ·rintro e w' ⟨v,F',Lo,rfl,x,c,m⟩;obtain⟨rfl,_⟩:=r v F' Lo c.le m;have hb:(Own.row (.slice none 0 0) t sz 0 []).blk=none:=rfl;have z:∀j o,Loc.get (inp [.row (.slice none 0 0) t sz 0 []]) j=some o->o=.row (.slice none 0 0) t sz 0 []:=by
    intro j o e;rw[aF] at e;split at e
    ·cases p:j-1000 with
     | zero=>rw[p] at e;simpa using e.symm
     | succ i=>rw[p] at e;simp at e
    ·cases e
   have ab:∀b,¬(inp [.row (.slice none 0 0) t sz 0 []]).owns b:=by
    rintro b ⟨j,o,e,l⟩;rw[z j o e,hb] at l;cases l
   refine⟨v,F',_,rfl,⟨x.frz,fun j o e=>?_,fun j o g e l=>?_,fun j j' o o' g e e' l=>?_,x.glob⟩,⟨c.le,c.os,c.tape,c.output,c.size,c.same,c.frz,fun b hb=>vv hb (ab b)⟩,rfl,m⟩
   ·rw[z j o e];exact World.ownsRow_nil w' 0 t sz
   ·rw[z j o e,hb] at l;cases l
   ·rw[z j o e,hb] at l;cases l
  ·obtain⟨rfl,m⟩:=m;obtain⟨_,y⟩:=r v F' [] a m;refine⟨rfl,fun k g t' cs s e=>?_,L.set u (.row (.slice none 0 0) t sz 0 []),fun j=>?_,y⟩
   ·rw[abI.1 s,q] at e;cases e
   ·simp only[Loc.aae,Loc.puts,Loc.aac,Loc.aaf];split<;>rfl
 | lent R u rv t sz n xs h1 q r =>
  refine⟨[u],[u],[.row rv t sz n xs],_,by simp only[Loc.sub,q],by simp,by simp,fun j p=>.inl p,h1,fun v F' Lo a m=>?_⟩;obtain⟨rfl,m⟩:=m;refine⟨rfl,fun k g t' cs s e=>?_,L,fun j=>?_,r v F' a m⟩
  ·rw[abI.1 s,q] at e;cases e
  ·simp only[Loc.aae,Loc.puts,Loc.aac,Loc.aaf];split
   ·rename_i p;rw[p,q]
   ·rfl
theorem MH {P:Program}{bx:List Nat}{s s':dN}{d:Option Nat}{F:au}{L:Loc}{ρ:Env}{K:di}(h:om bx s=some s') (a:gK s'=true) (b:evalOp P s' d F L ρ K):evalOp P s d F L ρ (fun F' L' ρ'=>∃L2,L'.sameAs L2/\(Real F' L2->K F' L2 ρ')):=by
 unfold om at h;split at h
 ·split at h
  ·split at h
   ·injection h with h;subst h;cases a
   ·cases h
  ·split at h
   ·split at h
    ·injection h with h;subst h;cases a
    ·cases h
   ·cases h
 ·injection h with h;subst h;cases a
 ·split at h
  ·injection h with h;subst h;cases a
  ·injection h with h;subst h;cases a
 ·split at h
  ·injection h with h;subst h;cases a
  ·injection h with h;subst h;cases a
 ·cases s<;>simp only[drawn,aaO,reduceCtorEq] at h<;>subst h<;>first | (cases a;done) | skip
  ·simp only[evalOp] at b ⊢;exact wX b
  ·simp only[evalOp] at b ⊢;split at b
   ·exact wX b
   ·exact b.elim
theorem wY {fl bx:List Nat}{bk:List (Nat×Nat)}{s s':dN}(h:uz fl bk bx s=some s'):om bx s=some s'\/(∃a n i,s=.load a n (.t i)/\s'=.loadF a n (.t i))\/(∃a n i key,s=.load a n (.t i)/\s'=.loadK key a n (.t i))\/(∃a n i,s=.load a n (.t i)/\s'=.loadR a n (.t i)):=by
 unfold uz at h;split at h
 ·rename_i a n i;split at h
  ·injection h with h
   exact .inr (.inl ⟨a,n,i,rfl,h.symm⟩)
  ·split at h
   ·rename_i key _;split at h
    ·injection h with h
     exact .inr (.inr (.inr ⟨a,n,i,rfl,h.symm⟩))
    ·injection h with h
     exact .inr (.inr (.inl ⟨a,n,i,key,rfl,h.symm⟩))
   ·exact .inl h
 ·exact .inl h
theorem Hv {o:Bool}{n:Nat}{x:X}{F:au}{L:Loc}{ρ:Env}{V V':SV->Prop}(h:aH (.load o n x) F L ρ V) (a:∀v,V v->V' v):aH (.load o n x) F L ρ V':=by
 have:=One.mono (T:=fun V=>aH (.loadR o n x) F L ρ V) (eP rfl) V V' a h;exact this
theorem MI {P:Program}{fl bx:List Nat}{bk:List (Nat×Nat)}{s s':dN}{d:Option Nat}{F:au}{L:Loc}{ρ:Env}{K:di}(h:uz fl bk bx s=some s') (c:(cI s'||gK s'||dU s'||o7 s'||iA s')=true) (f:gK s'=false) (b:evalOp P s' d F L ρ K):evalOp P s d F L ρ (fun F' L' ρ'=>Real F' L'->K F' L' ρ'):=by
 rcases wY h with h | ⟨a,n,i,rfl,rfl⟩ | ⟨a,n,i,key,rfl,rfl⟩ | ⟨a,n,i,rfl,rfl⟩
 rotate_left 3
 ·have b:aH (.load a n (.t i)) F L ρ (fun v=>K F L (put d v ρ)):=b;exact Hv b fun v h _=>h
 ·exact MG h c f b
 ·refine rR (s:=.load a n (.t i)) (s':=.loadD a n (.t i)) rfl rfl rfl ?_;simp only[evalOp,aH] at b ⊢;split at b
  ·rename_i e;simp only[e];exact b
  ·rename_i e;simp only[e];exact b
  ·exact b.elim
 ·refine rR (s:=.load a n (.t i)) (s':=.loadD a n (.t i)) rfl rfl rfl ?_;simp only[evalOp,aH] at b ⊢;split at b
  ·rename_i k off e;simp only[e];split at b
   ·exact b
   ·exact b.elim
  ·exact b.elim
theorem JD {P:Program}{fl bx:List Nat}{bk:List (Nat×Nat)}{s s':dN}{d:Option Nat}{F:au}{L:Loc}{ρ:Env}{K:di}(h:uz fl bk bx s=some s') (b:gK s'=true) (c:evalOp P s' d F L ρ K):evalOp P s d F L ρ (fun F' L' ρ'=>∃L2,L'.sameAs L2/\(Real F' L2->K F' L2 ρ')):=by
 rcases wY h with h | ⟨a,n,i,rfl,rfl⟩ | ⟨a,n,i,key,rfl,rfl⟩ | ⟨a,n,i,rfl,rfl⟩
 ·exact MH h b c
 ·cases b
 ·cases b
 ·cases b
end Go.Fr
