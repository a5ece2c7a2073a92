/- Part of the proofs of the statements of this seat. -/
import Derived.Orders
import Derived.Below
import Derived.Laws.OwnMore
import Derived.Maps.AppendAt
import Derived.WalkKit
import Derived.KernelRfl
import Derived.Lib.AppendStr
import Derived.Laws.BytesString
import Derived.Laws.StructEq
import Derived.Lib.AppendZeros
import Derived.ArgAppend
import Derived.Laws.CopyRow
import Derived.Laws.IdiomCopy
import Derived.Carry
import Derived.Maps.RangeRun
set_option maxRecDepth 10000
set_option linter.unusedVariables false
set_option linter.unusedSimpArgs false
namespace Go.Fr
open Go Go.RowKit
abbrev fo:=@if_pos
abbrev fL:=@if_neg
abbrev o5:=@absurd
abbrev vv:=@congrArg
abbrev vz:=@Option.some.injEq
abbrev v5:=@List.length_map
abbrev xo:=@Bool.and_eq_true
abbrev aaN:=@List.getElem?_eq_getElem
abbrev aaO:=@Nat.eq_of_beq_eq_true
abbrev aaP:=@decide_eq_false
abbrev aaQ:=@decide_eq_true
abbrev aaR:=@List.getElem?_eq_some_iff
abbrev aaS:=@Bool.true_and
abbrev aaT:=@List.mem_cons
abbrev aaU:=@List.mem_append
abbrev aaV:=@Bool.false_and
abbrev aaW:=@List.map_cons
abbrev aaX:=@List.mem_of_getElem?
abbrev aaY:=@List.all_eq_true
abbrev aaZ:=@decide_eq_true_eq
abbrev aa0:=@Nat.le_refl
abbrev aa1:=@Bool.false_eq_true
abbrev aa2:=@List.cons_append
abbrev aa3:=@List.getElem?_cons_zero
abbrev aa4:=@Array.getD_eq_getD_getElem?
abbrev aa5:=@List.getElem?_map
abbrev aa6:=@Nat.le_of_ble_eq_true
abbrev aa7:=@List.length_cons
abbrev aa8:=@Bool.false_ne_true
abbrev aa9:=@Nat.zero_le
abbrev abb:=@List.mem_iff_getElem?
abbrev abd:=@List.all_cons
abbrev abe:=@List.length_replicate
abbrev abf:=@List.mem_cons_of_mem
abbrev abg:=@Int.le_refl
abbrev abh:=@Bool.and_false
abbrev abj:=@if_true
abbrev abk:=@List.getElem?_cons_succ
abbrev abl:=@Option.map_some
abbrev abm:=@List.append_nil
abbrev abn:=@Bool.or_eq_true
abbrev abo:=@List.getElem?_eq_none
abbrev abp:=@List.nil_append
abbrev abq:=@List.mem_map
abbrev abr:=@Option.some.inj
abbrev abt:=@of_decide_eq_true
abbrev abu:=@List.length_set
abbrev abv:=@List.map_nil
abbrev abw:=@List.getElem?_drop
abbrev abx:=@List.getElem?_eq_none_iff
abbrev aby:=@Nat.not_lt_zero
abbrev abz:=@Nat.le_trans
abbrev abA:=@List.map_append
abbrev abB:=@List.getElem?_append_left
abbrev abC:=@List.getElem?_append_right
abbrev abD:=@List.mem_singleton
abbrev abE:=@List.eq_nil_of_length_eq_zero
abbrev abF:=@List.take_of_length_le
abbrev abG:=@List.length_append
abbrev abH:=@List.getElem?_take
abbrev abI:=@List.any_cons
abbrev abJ:=@List.length_nil
abbrev abK:=@of_decide_eq_false
abbrev abL:=@List.length_take
abbrev abM:=@List.append_assoc
abbrev abN:=@List.getElem?_set_ne
abbrev abO:=@List.mem_replicate
abbrev abP:=@if_false
abbrev abQ:=@List.map_map
abbrev abR:=@List.getElem?_set_self
abbrev abS:=@Nat.lt_succ_self
abbrev abT:=@List.ext_getElem?
abbrev abU:=@List.map_congr_left
abbrev abV:=@List.getElem?_replicate
abbrev abW:=@List.map_replicate
abbrev abX:=@List.any_eq_false
abbrev abY:=@Bool.not_false
abbrev abZ:=@Bool.not_eq_true
abbrev ab0:=@List.replicate_succ
abbrev ab1:=@decide_eq_false_iff_not
abbrev ab2:=@Bool.and_true
abbrev ab3:=@List.mem_or_eq_of_mem_set
abbrev ab4:=@List.any_eq_true
abbrev au:=Nat->Option Obj
def au.le (F G:au):Prop:=∀b o,F b=some o->G b=some o
theorem au.le_refl (F:au):F.le F:=fun _ _ h=>h
theorem au.le_trans {F G H:au}(h:F.le G) (k:G.le H):F.le H:=fun b o e=>k b o (h b o e)
def fI:Nat:=2 ^ 64
def IA:Nat->Value
 | 0=>.slice none 0 0
 | m+1=>.slice (some ⟨m / (fI*fI),0,none⟩) (m / fI % fI) (m % fI)
def gL (k:Nat) (F:au) (v:Value):Prop:=(k=0/\v=.nilIface)\/∃m,k=m+1/\v=IA m
theorem gL.mono {k:Nat}{F G:au}{v:Value}(h:F.le G) (r:gL k F v):gL k G v:=r
theorem gL.one {k:Nat}{F:au}{v:Value}(r:gL k F v):v.oneCell'=true:=by
 rcases r with⟨_,rfl⟩ | ⟨m,_,rfl⟩
 ·rfl
 ·cases m<;>rfl
theorem LF {F:au}:gL 0 F .nilIface:=.inl ⟨rfl,rfl⟩
def rC:Nat->Option Nat
 | 0=>none
 | 1=>some 0
 | m+2=>some (m / fI % fI)
theorem LG {F:au}{k n:Nat}{v:Value}(h:gL k F v) (e:rC k=some n):∃a c,v=.slice a n c:=by
 rcases h with⟨rfl,_⟩ | ⟨m,rfl,rfl⟩
 ·cases e
 ·cases m with
  | zero=>injection e with e;subst e;exact⟨none,0,rfl⟩
  | succ m=>injection e with e;subst e;exact⟨_,_,rfl⟩
def sG (F:au):Prop:=True
theorem sG.mono {F G:au}(h:F.le G) (g:sG F):sG G:=g
def vV (g:Nat):Option Nat:=none
theorem IB {F:au}{g k:Nat}(h:sG F) (e:vV g=some k):∃v t a,F g=some (.cells #[v] t a)/\gL k F v:=by cases e
def LH (k:Nat) (n:Int):Option (Int×Bool):=none
def Ej (k:Nat):Option Bool:=match k with | 0=>some true | _=>none
theorem IE {F:au}{k:Nat}{v:Value}{b:Bool}(h:gL k F v) (e:Ej k=some b):(b=true->v=.nilIface)/\(b=false->∃t u,v=.iface t u):=by
 unfold Ej at e;split at e
 case h_2=>cases e
 injection e with e;subst e
 refine⟨fun _=>?_,fun e=>by cases e⟩;rcases h with h | ⟨m,h,_⟩
 ·exact h.2
 ·cases h
def LI:Bool:=false
def P4:List (TypeId×String):=[]
inductive SV where
 | v (x:Value)
 | own (k off:Nat)
 | el (a:Option Addr) (j:Nat)
 deriving Inhabited
inductive Own where
 | box (g:Nat) (t:TypeId) (cs:List Value)
 | row (v:Value) (t:TypeId) (sz n:Nat) (xs:List Value)
def Own.blk:Own->Option Nat
 | .box g _ _=>some g
 | .row v _ _ _ _=>v.ownBlock
abbrev Loc:=List (Nat×Own)
def Loc.get:Loc->Nat->Option Own
 | [],_=>none
 | (j,o)::l,k=>match Nat.beq j k with | true=>some o | false=>Loc.get l k
def Loc.set:Loc->Nat->Own->Loc
 | [],k,o=>[(k,o)]
 | (j,p)::l,k,o=>match Nat.beq j k with
  | true=>(k,o)::l
  | false=>match Nat.ble j k with
   | true=>(j,p)::Loc.set l k o
   | false=>(k,o)::(j,p)::l
def Loc.del:Loc->Nat->Loc
 | [],_=>[]
 | (j,o)::l,k=>match Nat.beq j k with | true=>Loc.del l k | false=>(j,o)::Loc.del l k
abbrev Env:=Nat->SV
def put (d:Option Nat) (v:SV) (ρ:Env):Env :=
 match d with
 | some d=>fun j=>match Nat.beq j d with | true=>v | false=>ρ j
 | none=>ρ
def conc (L:Loc):SV->Value
 | .v x=>x
 | .own k off=>match L.get k with | some (.box g _ _)=>.pointer (some ⟨g,off,none⟩) | _=>undef
 | .el a j=>match a with | some ad=>.pointer (some (ad.add j)) | none=>undef
def fP:Value->Nat->MapEntry
 | .agg ⟨[k,v]⟩,i=>{key:=k,val:=v,born:=i}
 | v,i=>{key:=v,val:=v,born:=i}
def iE:Value->Nat
 | .int _ n=>n.toNat
 | _=>0
def aV:List Value->Nat->List MapEntry
 | [],_=>[]
 | v::l,i=>fP v i::aV l (i+1)
def gS:List Value->Obj
 | .tuple ⟨[.map (some m),.int .i64 n]⟩::a=>.mapIter (some m) n.toNat (a.map iE).toArray n.toNat
 | es=>.map (aV es 0).toArray es.length
def mO:TypeId->List Value->Obj
 | 0,cs=>gS cs
 | t+1,cs=>.cells cs.toArray (t+1) (0,0)
theorem jg {t:TypeId}(h:t≠0) (cs:List Value):mO t cs=.cells cs.toArray t (0,0):=by
 cases t with
 | zero=>exact o5 rfl h
 | succ t=>rfl
def Own.ok (w:World):Own->Prop
 | .box g t cs=>w.heap[g]?=some (mO t cs)
 | .row v t sz n xs=>w.ownsRow 0 t sz v n xs
structure St (F:au) (L:Loc) (w:World):Prop where
 frz:∀b o,F b=some o->w.heap[b]?=some o
 own:∀k o,L.get k=some o->o.ok w
 off:∀k o g,L.get k=some o->o.blk=some g->F g=none
 sep:∀k k' o o' g,L.get k=some o->L.get k'=some o'->o.blk=some g->o'.blk=some g->k=k'
 glob:sG F
def Loc.owns (L:Loc) (b:Nat):Prop:=∃k o,L.get k=some o/\o.blk=some b
structure Step (F:au) (L:Loc) (w:World) (F':au) (L':Loc) (w':World):Prop where
 le:F.le F'
 os:w'.os=w.os
 tape:w'.tape=w.tape
 output:w'.output=w.output
 size:w.heap.size<=w'.heap.size
 same:∀b,b<w.heap.size->¬L.owns b->w'.heap[b]?=w.heap[b]?
 frz:∀b,F' b≠none->F b≠none\/L.owns b\/w.heap.size<=b
 own:∀b,L'.owns b->L.owns b\/w.heap.size<=b
def dG (F:au) (a:Option Addr) (j:Nat) (cs:List Value):Prop :=
 ∃c b t d,a=some c/\F c.block=some (.cells b t d)/\c.spot=none/\∀(i:Nat) (v:Value),cs[i]?=some v->b[c.off+j+i]?=some v
def sH:Nat->List Own->Loc
 | _,[]=>[]
 | k,o::l=>(k,o)::sH (k+1) l
def inp (l:List Own):Loc:=sH 1000 l
structure CallsA (P:Program) (f:FuncId) (args:Array Value) (F:au) (Lin:List Own) (R:au->List Own->Value->Prop):Prop where
 ent:∃fn,P.funcs[f]?=some fn/\fn.body.isSome=true/\(fn.name == "runtime.NumGoroutine")=false
 mono:∀F G L v,F.le G->R F L v->R G L v
 run:∀w,St F (inp Lin) w->Calls P f args w fun e w'=>∃v F' Lo,e=.returned v/\St F' (inp Lo) w'/\Step F (inp Lin) w F' (inp Lo) w'/\R F' Lo v
def rD (v:Value) (b:List PanicEntry):Prop:=∃a,b={v,recovered:=false}::a/\∀e∈a,e.goexit=false
theorem rD.one (v:Value):rD v [{v,recovered:=false}]:=⟨[],rfl,fun e h=>by cases h⟩
structure nX (P:Program) (f:FuncId) (args:Array Value) (F:au) (Lin:List Own) (R:au->List Own->Value->Prop) (Pp:Value->Prop):Prop where
 ent:∃fn,P.funcs[f]?=some fn/\fn.body.isSome=true/\(fn.name == "runtime.NumGoroutine")=false
 mono:∀F G L v,F.le G->R F L v->R G L v
 run:∀w,St F (inp Lin) w->Calls P f args w fun e w'=>(∃v F' Lo,e=.returned v/\St F' (inp Lo) w'/\Step F (inp Lin) w F' (inp Lo) w'/\R F' Lo v) \/
  ∃v ch F' Lo,e=.panicked ch/\rD v ch/\St F' (inp Lo) w'/\Step F (inp Lin) w F' (inp Lo) w'/\Lo.length=Lin.length/\(∀(i:Nat) g t cs,Lin[i]?=some (.box g t cs)->∃cs',Lo[i]?=some (.box g t cs'))/\Pp v
theorem CallsA.toX {P:Program}{f:FuncId}{args:Array Value}{F:au}{Lin:List Own}{R:au->List Own->Value->Prop}{Pp:Value->Prop}(h:CallsA P f args F Lin R):nX P f args F Lin R Pp :=
 ⟨h.ent,h.mono,fun w a=>(h.run w a).mono fun _ _ k=>.inl k⟩
structure vW (P:Program) (f:FuncId) (args:Array Value) (F:au) (Lin:List Own) (R:au->List Own->Value->Prop) (Pp:au->List Own->Value->Prop):Prop where
 ent:∃fn,P.funcs[f]?=some fn/\fn.body.isSome=true/\(fn.name == "runtime.NumGoroutine")=false
 mono:∀F G L v,F.le G->R F L v->R G L v
 run:∀w,St F (inp Lin) w->Calls P f args w fun e w'=>(∃v F' Lo,e=.returned v/\St F' (inp Lo) w'/\Step F (inp Lin) w F' (inp Lo) w'/\R F' Lo v) \/
  ∃v ch F' Lo,e=.panicked ch/\rD v ch/\St F' (inp Lo) w'/\Step F (inp Lin) w F' (inp Lo) w'/\Lo.length=Lin.length/\(∀(i:Nat) g t cs,Lin[i]?=some (.box g t cs)->∃cs',Lo[i]?=some (.box g t cs'))/\Pp F' Lo v
theorem nX.toS {P:Program}{f:FuncId}{args:Array Value}{F:au}{Lin:List Own}{R:au->List Own->Value->Prop}{Pp:Value->Prop}(h:nX P f args F Lin R Pp):vW P f args F Lin R (fun _ _=>Pp):=⟨h.ent,h.mono,h.run⟩
inductive X where
 | t (n:Nat)
 | c (v:Value)
 | fn (f:Nat)
 | mt (nm:String) (n:Nat)
 deriving Inhabited
def R5 (a:String):SV->SV
 | .v x=>.v (.func (.method a) #[x] #[])
 | .own _ _=>.v undef
 | .el _ _=>.v undef
def ev (ρ:Env):X->SV
 | .t n=>ρ n
 | .c v=>.v v
 | .fn f=>.v (.func (.func f) #[] #[])
 | .mt a n=>R5 a (ρ n)
def sI (P:Program) (t:TypeId) (a:String):Option FuncId :=
 match P.info? t with
 | some i=>match i.methods.find? (·.name == a) with
  | some m=>match m.path.toList,m.func with
   | [],some (f,b)=>match P.underlying t,b with
    | some (.pointer _),true=>some f
    | some (.pointer _),false=>none
    | some _,false=>some f
    | _,_=>none
   | _,_=>none
  | none=>none
 | none=>none
def R6:List (TypeId×String)->TypeId->String->Bool
 | [],_,_=>false
 | (t,c)::l,b,a=>match Nat.beq t b,decide (c=a) with | true,true=>true | _,_=>R6 l b a
def O1 (P:Program):Bool:=P4.all fun x=>(sI P x.1 x.2).isSome
def rE (P:Program):SV->Option (Nat×List Value×List Value)
 | .v (.func (.func f) a b)=>some (f,a.toList,b.toList)
 | .v (.func (.method c) a b)=>match a.toList with
  | [.iface t u]=>match sI P t c with
   | some f=>some (f,[u],[])
   | none=>none
  | _=>none
 | _=>none
def zB (P:Program) (f:SV) (args:List Value):Option (Nat×List Value) :=
 match f,args with
 | .v (.func (.methodOf t b) ⟨[]⟩ _),.iface c u::a=>match P.underlying t with
  | some (.interface _)=>match sI P c b with
   | some f=>some (f,u::a)
   | none=>none
  | _=>none
 | _,_=>none
def val (L:Loc) (ρ:Env) (x:X):Value:=conc L (ev ρ x)
inductive dO where
 | mov (x:X)
 | pick (c a b:X)
 | box (t:TypeId) (x:X)
 | boxF (t:TypeId) (x:X)
 | alloc (t:TypeId) (zs:List Value)
 | mkF (e:TypeId) (n sz:Nat) (xs:List X)
 | mkR (e:TypeId) (n sz:Nat) (xs:List X)
 | build (zs:List Value) (ps:List (Nat×Nat×X))
 | load (agg:Bool) (n:Nat) (x:X)
 | loadD (agg:Bool) (n:Nat) (x:X)
 | store (n:Nat) (a x:X)
 | nilck (x:X)
 | bin (op:BinOp) (x y:X)
 | eqB (neg:Bool) (x y:X)
 | eqS (neg:Bool) (x y:X)
 | eqN (neg:Bool) (x:X)
 | tas (t:TypeId) (z:Value) (x:X)
 | eqA (neg:Bool) (ks:List Bool) (x y:X)
 | un (op:UnOp) (x:X)
 | conv (k:IntKind) (x:X)
 | mkfn (f:Nat) (first cap:List X)
 | makeS (e:TypeId) (sz bytes:Nat) (zs:List Value) (l c:X)
 | slc (sz:Nat) (x:X) (lo hi:Option X)
 | fieldA (off:Nat) (x:X)
 | idxA (sz:Nat) (x i:X)
 | extr (x:X) (i:Nat)
 | call (f:Nat) (args:List X)
 | callV (f:X) (args:List X)
 | callD (f:Nat) (args:List X)
 | boxD (t:TypeId) (x:X)
 | allocD (t:TypeId) (zs:List Value)
 | mkFD (e:TypeId) (n sz:Nat) (xs:List X)
 | callVD (f:X) (args:List X)
 | callO (f:Nat) (args:List X)
 | callVO (f:X) (args:List X)
 | len (x:X)
 | mm (mx:Bool) (args:List X)
 | app (e:TypeId) (sz bytes:Nat) (zs:List Value) (s x:X)
 | appD (e:TypeId) (sz bytes:Nat) (zs:List Value) (s x:X)
 | storeD (n:Nat) (a x:X)
 | appX (e:TypeId) (sz bytes:Nat) (zs:List Value) (s x:X)
 | mkif (t:TypeId) (x:X)
 | makeSD (e sz n:Nat) (zs:List Value)
 | makeSV (e sz b:Nat) (zs:List Value) (x:X)
 | loadK (key:Nat) (agg:Bool) (n:Nat) (x:X)
 | storeK (key n:Nat) (a x:X)
 | storeX (n:Nat) (a x:X)
 | pan (x:X)
 | gload (g:Nat)
 | loadF (agg:Bool) (n:Nat) (x:X)
 | loadR (agg:Bool) (n:Nat) (x:X)
 | mkmap
 | mlook (str ok:Bool) (z:Value) (x i:X)
 | mupd (str:Bool) (x i v:X)
 | mrange (x:X)
 | mnext (x:X)
 | mentry (x:X)
 | dead
 deriving Inhabited
structure Xu where
 dst:Option Nat
 op:dO
 guard:Option (Nat×Bool)
 deriving Inhabited
abbrev dm:=au->Loc->Env->Prop
def bO (cs:List Value) (off:Nat) (a:List Value):List Value:=cs.take off++a++cs.drop (off+a.length)
structure Fit (k:IntKind) (n:Int) (K:Int->Prop):Prop where
 out:K (k.wrap n)
structure P5 (n:Int) (K:Prop):Prop where
 ne:n≠0
 out:K
structure Bc (i:Int) (n:Int) (K:Prop):Prop where
 lo:0<=i
 hi:i<n
 out:K
structure IG (a:Option Addr) (i:Int) (n:Int) (K:Prop):Prop where
 ne:a≠none
 lo:0<=i
 hi:i<n
 out:K
structure jV (F:au) (L:Loc) (a:Option Addr) (j n:Nat) (K:List Value->Prop):Prop where
 out:∃cs,cs.length=n/\(dG F a j cs\/(∃k v t sz m xs ad c,L.get k=some (.row v t sz m xs)/\a=some ad/\v=.slice (some ad) m c/\∀(i:Nat) (u:Value),cs[i]?=some u->xs[j+i]?=some u)\/n=0\/∃k g t bs o,L.get k=some (.box g t bs)/\t≠0/\a=some ⟨g,o,none⟩/\∀(i:Nat) (u:Value),cs[i]?=some u->bs[o+j+i]?=some u)/\K cs
structure R7 (F:au) (g:Nat) (K:Value->Prop):Prop where
 out:∃v t fr,F g=some (.cells #[v] t fr)/\K v
structure iV (F:au) (a:Option Addr) (j n:Nat) (K:List Value->Prop):Prop where
 out:∃cs,cs.length=n/\(dG F a j cs\/n=0)/\K cs
structure qu (L:Loc) (a:Option Addr) (j:Nat) (cs:List Value) (K:Loc->Prop):Prop where
 out:∃k v t sz m xs ad c,L.get k=some (.row v t sz m xs)/\a=some ad/\v=.slice (some ad) m c/\j+cs.length<=xs.length/\(∀u∈cs,u.oneCell'=true) /\
  K (L.set k (.row v t sz m (bO xs j cs)))
def Loc.sub (L:Loc):List Nat->Option (List Own)
 | []=>some []
 | k::ks=>match L.get k,Loc.sub L ks with
  | some o,some l=>some (o::l)
  | _,_=>none
def Loc.aae (L:Loc):List Nat->Loc
 | []=>L
 | k::ks=>Loc.aae (L.del k) ks
def Loc.puts (L:Loc):List Nat->List Own->Loc
 | k::ks,o::l=>Loc.puts (L.set k o) ks l
 | _,_=>L
structure dP (P:Program) (f:Nat) (args:List Value) (F:au) (L:Loc) (K:au->Loc->Value->Prop):Prop where
 out:∃(ks ko:List Nat) (Lin:List Own) (R:au->List Own->Value->Prop),L.sub ks=some Lin/\ks.Nodup/\ko.Nodup/\(∀k,k∈ko->k∈ks\/L.get k=none)/\CallsA P f args.toArray F Lin R /\
  ∀v F' Lo,F.le F'->R F' Lo v->ko.length=Lo.length /\
   (∀k g t cs,k∈ks->L.get k=some (.box g t cs)->∃cs',Loc.get ((L.aae ks).puts ko Lo) k=some (.box g t cs')) /\
   K F' ((L.aae ks).puts ko Lo) v
def Real (F:au) (L:Loc):Prop:=∃w,St F L w
inductive dH (P:Program) (f:Nat) (args:List Value) (F:au) (L:Loc) (d:Option Nat) (K:au->Loc->Value->Prop):Prop
 | frz (R:au->List Own->Value->Prop) (h:CallsA P f args.toArray F [] R) (k:∀v F' Lo,F.le F'->R F' Lo v->Lo=[]/\(Real F' L->K F' L v))
 | own (R:au->List Own->Value->Prop) (k:Nat) (h:CallsA P f args.toArray F [] R) (hd:d=some k) (hk:L.get k=none)
   (kk:∀v F' Lo,F.le F'->R F' Lo v->∃o,Lo=[o]/\(Real F' (L.set k o)->K F' (L.set k o) v))
 | row (R:au->List Own->Value->Prop) (kr:Nat) (rv:Value) (t:TypeId) (sz n:Nat) (xs:List Value) (h:CallsA P f args.toArray F [.row rv t sz n xs] R) (hk:L.get kr=some (.row rv t sz n xs))
   (kk:∀v F' Lo,F.le F'->R F' Lo v->Lo=[]/\(Real F' (L.set kr (.row (.slice none 0 0) t sz 0 []))->K F' (L.set kr (.row (.slice none 0 0) t sz 0 [])) v))
 | lent (R:au->Value->Prop) (kr:Nat) (rv:Value) (t:TypeId) (sz n:Nat) (xs:List Value) (h:CallsA P f args.toArray F [.row rv t sz n xs] (fun F' Lo v=>Lo=[.row rv t sz n xs]/\R F' v)) (hk:L.get kr=some (.row rv t sz n xs))
   (kk:∀v F',F.le F'->R F' v->Real F' L->K F' L v)
structure Fw (F:au) (L:Loc) (e:TypeId) (sz bytes:Nat) (s x:Value) (K:Loc->Value->Prop):Prop where
 out:∃(kd:Nat) (n:Nat) (xs:List Value) (m:Nat) (news:List Value),
  (L.get kd=some (.row s e sz n xs)\/(L.get kd=none/\n=0/\xs=[]/\s=.slice none 0 0)\/(L.get kd=none/\∃ad,s=.slice (some ad) n n/\0<m/\xs.length=n*sz/\(dG F (some ad) 0 xs\/(n=0/\xs=[])))) /\
  (∃a c,x=.slice a m c/\news.length=m*sz/\(dG F a 0 news\/(m=0/\news=[]) \/
    ∃k v t sz' m' ys ad c',L.get k=some (.row v t sz' m' ys)/\a=some ad/\v=.slice (some ad) m' c'/\∀(i:Nat) (u:Value),news[i]?=some u->ys[i]?=some u)) /\
  (∀u∈news,u.oneCell'=true)/\n+m<=maxLen/\(n+m)*bytes<=140737488355328 /\
  ∀v,(∃a c,v=.slice a (n+m) c/\(a=none->n+m=0))->K (L.set kd (.row v e sz (n+m) (xs++news))) v
structure pA (F:au) (L:Loc) (d:Option Nat) (e:TypeId) (sz bytes:Nat) (s x:Value) (K:Loc->Value->Prop):Prop where
 out:∃(kd:Nat) (n:Nat) (xs:List Value) (m:Nat) (news:List Value),
  (L.get kd=some (.row s e sz n xs)\/(d=some kd/\L.get kd=none/\n=0/\xs=[]/\s=.slice none 0 0) \/
   (d=some kd/\L.get kd=none/\∃ad,s=.slice (some ad) n n/\0<m/\xs.length=n*sz/\(dG F (some ad) 0 xs\/(n=0/\xs=[])))) /\
  (∃a c,x=.slice a m c/\news.length=m*sz/\(dG F a 0 news\/(m=0/\news=[]))) /\
  (∀u∈news,u.oneCell'=true)/\n+m<=maxLen/\(n+m)*bytes<=140737488355328 /\
  ∀v,(∃a c,v=.slice a (n+m) c/\(a=none->n+m=0))->Real F (L.set kd (.row v e sz (n+m) (xs++news)))->K (L.set kd (.row v e sz (n+m) (xs++news))) v
structure UH (L:Loc) (e:TypeId) (s:Value) (t:ByteArray) (K:Loc->Value->Prop):Prop where
 out:∃(kd:Nat) (n:Nat) (xs:List Value),
  (L.get kd=some (.row s e 1 n xs)\/(L.get kd=none/\n=0/\xs=[]/\s=.slice none 0 0)) /\
  n+t.size<=maxLen/\(n+t.size)<=140737488355328 /\
  ∀v,(∃a c,v=.slice a (n+t.size) c/\(a=none->n+t.size=0))->K (L.set kd (.row v e 1 (n+t.size) (xs++t.data.toList.map fun b=>Value.int .u8 b.toNat))) v
structure UI (L:Loc) (e:TypeId) (bytes:Nat) (ki:IntKind) (s:Value) (m:Nat) (K:Loc->Value->Prop):Prop where
 out:∃(kd:Nat) (n:Nat) (xs:List Value),
  (L.get kd=some (.row s e 1 n xs)\/(L.get kd=none/\n=0/\xs=[]/\s=.slice none 0 0)) /\
  n+m<=maxLen/\(n+m)*bytes<=140737488355328 /\
  ∀v,(∃a c,v=.slice a (n+m) c/\(a=none->n+m=0))->K (L.set kd (.row v e 1 (n+m) (xs++List.replicate m (.int ki 0)))) v
structure UJ (F:au) (L:Loc) (e:TypeId) (sz:Nat) (d x:Value) (K:Loc->Nat->Prop):Prop where
 out:(∃(k n:Nat) (v:Value) (nr:Nat) (xs:List Value) (ad:Addr) (cr cd j m:Nat) (a:Option Addr) (c:Nat) (news:List Value),
  L.get k=some (.row v e sz nr xs)/\v=.slice (some ad) nr cr/\d=.slice (some (ad.add (j*sz))) n cd/\j+n<=nr /\
  x=.slice a m c/\news.length=(min m n)*sz/\(dG F a 0 news\/(min m n=0/\news=[]))/\(∀u∈news,u.oneCell'=true) /\
  K (L.set k (.row v e sz nr (bO xs (j*sz) news))) (min m n)) \/
  ∃(da:Option Addr) (n cd:Nat) (a:Option Addr) (m c:Nat),d=.slice da n cd/\x=.slice a m c/\min m n=0/\K L 0
structure Uq (L:Loc) (e:TypeId) (d:Value) (t:ByteArray) (K:Loc->Nat->Prop):Prop where
 out:∃(k n:Nat) (v:Value) (nr:Nat) (xs:List Value) (ad:Addr) (cr cd j:Nat),
  L.get k=some (.row v e 1 nr xs)/\v=.slice (some ad) nr cr/\d=.slice (some (ad.add j)) n cd/\j+n<=nr /\
  K (L.set k (.row v e 1 nr (bO xs j ((t.data.toList.take n).map fun b=>Value.int .u8 b.toNat)))) (min t.size n)
structure LJ (cs:List Value) (K:List UInt8->Prop):Prop where
 out:∃bs:List UInt8,cs=bs.map (fun b=>Value.int .u8 b.toNat)/\K bs
structure X1 (L:Loc) (a:Option Addr) (n:Nat) (K:List UInt8->Prop):Prop where
 out:∃k t c,∃bs:List UInt8,L.get k=some (.row (.slice a n c) t 1 n (bs.map (fun b=>Value.int .u8 b.toNat)))/\bs.length=n/\(a=none->n=0)/\K bs
def kZ:List Value->Bool
 | .tuple _::_=>false
 | _=>true
def eS:Bool->Value->Value->Option Bool
 | false,.int .i64 a,.int .i64 b=>some (decide (a=b))
 | true,.string a,.string b=>some (decide (a.data.toList=b.data.toList))
 | _,_,_=>none
def lI (str:Bool) (key:Value):List Value->Nat->Option (Option (Nat×Value))
 | [],_=>some none
 | .agg ⟨[k,v]⟩::l,i=>match eS str key k with
  | some true=>some (some (i,v))
  | some false=>lI str key l (i+1)
  | none=>none
 | _::_,_=>none
def wC (str:Bool) (key val:Value):List Value->Option (List Value)
 | []=>some [.agg #[key,val]]
 | .agg ⟨[k,v]⟩::l=>match eS str key k with
  | some true=>some (.agg #[key,val]::l)
  | some false=>match wC str key val l with | some l'=>some (.agg #[k,v]::l') | none=>none
  | none=>none
 | _::_=>none
structure CA (L:Loc) (g:Nat) (K:Nat->List Value->Prop):Prop where
 out:∃k cs,L.get k=some (.box g 0 cs)/\kZ cs=true/\K k cs
structure Fx (str:Bool) (cs:List Value) (key:Value) (ok:Bool) (z:Value) (K:Value->Prop):Prop where
 out:(∃i v,lI str key cs 0=some (some (i,v))/\K (match ok with | true=>.tuple #[v,.bool true] | false=>v))\/(lI str key cs 0=some none/\K (match ok with | true=>.tuple #[z,.bool false] | false=>z))
structure P6 (str:Bool) (cs:List Value) (key val:Value) (K:List Value->Prop):Prop where
 isKey:eS str key key=some true
 out:∃cs',wC str key val cs=some cs'/\K cs'
structure II (L:Loc) (k gi g n:Nat) (seen:List Value) (K:Loc->Value->Prop):Prop where
 out:∃km cs,L.get km=some (.box g 0 cs)/\kZ cs=true/\cs.length=n/\(∀j e,cs[j]?=some e->j∉seen.map iE->K (L.set k (.box gi 0 (.tuple #[.map (some g),.int .i64 n]::(seen++[.int .i64 j])))) (.tuple #[.bool true,(fP e j).key,(fP e j).val])) /\
  ((∀j,j<n->j∈seen.map iE)->K L (.tuple #[.bool false]))
structure Fy (L:Loc) (g n:Nat) (seen:List Value) (K:Value->Prop):Prop where
 out:∃km cs j e,L.get km=some (.box g 0 cs)/\kZ cs=true/\cs.length=n/\seen.getLast?=some (.int .i64 (.ofNat j))/\cs[j]?=some e/\K (.tuple #[(fP e j).key,(fP e j).val])
structure UK (F:au) (mv:Value) (n:Int) (K:Int->Bool->Prop):Prop where
 out:∃k r b,gL k F mv/\LH k n=some (r,b)/\K r b
structure mP (n c:Int) (bytes:Nat) (K:Nat->Prop):Prop where
 lo:0<=n
 le:n<=c
 hi:c.toNat*bytes<=140737488355328
 max:c.toNat<=maxLen
 out:K n.toNat
structure O2 (l h:Int) (c:Nat) (K:Nat->Nat->Prop):Prop where
 lo:0<=l
 le:l<=h
 hi:h<=c
 out:K l.toNat h.toNat
abbrev yX:Bool->Prop->Prop->Prop
 | true,A,_=>A
 | false,_,B=>B
def aM:Value->List Value
 | .agg cs=>cs.toList
 | v=>[v]
def aZ (L:Loc) (ρ:Env):List X->List Value
 | []=>[]
 | x::xs=>val L ρ x::aZ L ρ xs
def cellsOf (L:Loc) (ρ:Env):List X->List Value
 | []=>[]
 | x::xs=>aM (val L ρ x)++cellsOf L ρ xs
def gT (agg:Bool) (cs:List Value):Value :=
 match agg,cs with
 | true,cs=>.agg cs.toArray
 | false,[v]=>v
 | false,_=>undef
def gQ:List Value->Nat->Bool
 | [],0=>true
 | _::l,n+1=>gQ l n
 | _,_=>false
def i9 (t:TypeId) (l:List Value) (n:Nat):Bool:=match Nat.beq t 0 with | true=>false | false=>gQ l n
def fQ (L:Loc) (ρ:Env) (sz:Nat):List X->Bool
 | []=>true
 | x::xs=>match gQ (aM (val L ρ x)) sz with | true=>fQ L ρ sz xs | false=>false
def jQ:List Value->Bool
 | []=>true
 | v::l=>match v.oneCell' with | true=>jQ l | false=>false
def rF:Bool->Bool->Bool
 | true,b=>!b
 | false,b=>b
def O3 (a b:ByteArray):Bool:=decide (a.data.toList=b.data.toList)
def O4 (a b:ByteArray):Bool:=Op.bytesLess a.data.toList b.data.toList
def built (L:Loc) (ρ:Env):List Value->List (Nat×Nat×X)->Option (List Value)
 | zs,[]=>some zs
 | zs,(off,n,x)::ps=>match gQ (aM (val L ρ x)) n with
  | true=>built L ρ (bO zs off (aM (val L ρ x))) ps
  | false=>none
def O5 (mx:Bool):Int->List SV->Option Int
 | a,[]=>some a
 | a,.v (.int _ b)::l=>O5 mx (match mx with | true=>if b>a then b else a | false=>if b<a then b else a) l
 | _,_=>none
def rG (a:Option Addr) (c l h sz:Nat):Value:=.slice (if c=l then a else a.map (·.add (l*sz))) (h-l) (c-l)
def mV (ρ:Env) (d:Int):Option X->Option Int
 | none=>some d
 | some x=>match ev ρ x with | .v (.int _ i)=>some i | _=>none
def lJ:Value->Nat
 | .int _ m=>m.toNat
 | _=>0
def sJ (b:Nat):Value->Bool
 | .int _ m=>Nat.ble (m.toNat*b) 140737488355328&&Nat.ble m.toNat 9223372036854775807&&decide (0<=m)
 | _=>false
theorem CB {b:Nat}{v:Value}(h:sJ b v=true):∃k m,v=.int k m/\0<=m/\lJ v=m.toNat/\m.toNat*b<=140737488355328/\m.toNat<=maxLen:=by
 cases v<;>simp only[sJ] at h<;>try (cases h;done)
 rename_i k m;simp only[xo,aaZ] at h;exact⟨k,m,rfl,h.2,rfl,aa6 h.1.1,aa6 h.1.2⟩
theorem GX {b:Nat}{v:Value}(h:sJ b v=true):lJ v<=maxLen:=by
 obtain⟨k,m,rfl,_,e,_,a⟩:=CB h;rw[e];exact a
def binI (op:BinOp) (k:IntKind) (a b:Int) (K:Value->Prop):Prop :=
 match op with
 | .add=>Fit k (a+b) fun n=>K (.int k n)
 | .sub=>Fit k (a-b) fun n=>K (.int k n)
 | .mul=>Fit k (a*b) fun n=>K (.int k n)
 | .quo=>P5 b (Fit k (a.tdiv b) fun n=>K (.int k n))
 | .rem=>P5 b (K (.int k (a.tmod b)))
 | .and=>K (.int k (k.wrap (BitVec.ofInt k.bits a &&& BitVec.ofInt k.bits b).toNat))
 | .or=>K (.int k (k.wrap (BitVec.ofInt k.bits a ||| BitVec.ofInt k.bits b).toNat))
 | .xor=>K (.int k (k.wrap (BitVec.ofInt k.bits a ^^^ BitVec.ofInt k.bits b).toNat))
 | .andNot=>K (.int k (k.wrap (BitVec.ofInt k.bits a &&& ~~~ BitVec.ofInt k.bits b).toNat))
 | .eql=>K (.bool (decide (a=b)))
 | .neq=>K (.bool (!decide (a=b)))
 | .lss=>K (.bool (decide (a<b)))
 | .leq=>K (.bool (decide (a<=b)))
 | .gtr=>K (.bool (decide (b<a)))
 | .geq=>K (.bool (decide (b<=a)))
 | _=>False
def shI (op:BinOp) (k:IntKind) (a b:Int) (K:Value->Prop):Prop :=
 match op with
 | .shl=>0<=b/\Fit k (a*2 ^ (min b.toNat k.bits)) fun n=>K (.int k n)
 | .shr=>0<=b/\K (.int k (a.fdiv (2 ^ (min b.toNat k.bits))))
 | _=>False
def binS (op:BinOp) (a b:ByteArray) (K:Value->Prop):Prop :=
 match op with
 | .add=>((a.size+b.size:Nat):Int)<=IntKind.i64.max/\K (.string (a++b))
 | .eql=>K (.bool (O3 a b))
 | .neq=>K (.bool (!O3 a b))
 | .lss=>K (.bool (O4 a b))
 | .geq=>K (.bool (!O4 a b))
 | _=>False
def pB:IntKind->IntKind->Bool
 | .i64,.i64=>true | .u8,.u8=>true | .u64,.u64=>true | .i32,.i32=>true | .u16,.u16=>true | .u32,.u32=>true | .i8,.i8=>true | .i16,.i16=>true
 | _,_=>false
def IJ:BinOp->Bool
 | .shl | .shr=>true
 | _=>false
def iO:List Bool->List Value->List Value->Bool->Option Bool
 | [],[],[],c=>some c
 | true::ks,.int k a::l,.int e b::d,c=>match pB k e with | true=>iO ks l d (c&&decide (a=b)) | false=>none
 | false::ks,.bool a::l,.bool b::d,c=>iO ks l d (c&&decide (a=b))
 | _,_,_,_=>none
def aJ (o:dO) (F:au) (L:Loc) (ρ:Env) (V:SV->Prop):Prop :=
 match o with
 | .mov x=>V (ev ρ x)
 | .pick c a b=>match ev ρ c with
  | .v (.bool true)=>V (ev ρ a)
  | .v (.bool false)=>V (ev ρ b)
  | _=>False
 | .build zs ps=>match built L ρ zs ps with
  | some cs=>V (.v (.agg cs.toArray))
  | none=>False
 | .load agg n x=>match ev ρ x with
  | .own k off=>match L.get k with
   | some (.box _ t cs)=>match i9 t ((cs.drop off).take n) n with
    | true=>V (.v (gT agg ((cs.drop off).take n)))
    | false=>False
   | _=>False
  | .el a j=>jV F L a j n fun cs=>V (.v (gT agg cs))
  | .v (.pointer (some a))=>jV F L (some a) 0 n fun cs=>V (.v (gT agg cs))
  | _=>False
 | .loadR agg n x=>match ev ρ x with
  | .own k off=>match L.get k with
   | some (.box _ t cs)=>match i9 t ((cs.drop off).take n) n with
    | true=>V (.v (gT agg ((cs.drop off).take n)))
    | false=>False
   | _=>False
  | .el a j=>jV F L a j n fun cs=>V (.v (gT agg cs))
  | .v (.pointer (some a))=>jV F L (some a) 0 n fun cs=>V (.v (gT agg cs))
  | _=>False
 | .nilck x=>match ev ρ x with
  | .own k off=>V (.own k off)
  | .el a j=>a≠none/\V (.el a j)
  | .v (.pointer (some a))=>V (.v (.pointer (some a)))
  | .v (.func (.func f) d e)=>V (.v (.func (.func f) d e))
  | .v (.func (.method p) d e)=>match d.toList with
   | [.iface t u]=>R6 P4 t p=true/\V (.v (.func (.method p) d e))
   | _=>False
  | _=>False
 | .bin op x y=>match ev ρ x,ev ρ y with
  | .v (.int k a),.v (.int r b)=>match IJ op with
   | true=>shI op k a b fun v=>V (.v v)
   | false=>match pB k r with
    | true=>binI op k a b fun v=>V (.v v)
    | false=>False
  | .v (.string a),.v (.string b)=>binS op a b fun v=>V (.v v)
  | _,_=>False
 | .eqB neg x y=>match ev ρ x,ev ρ y with
  | .v (.bool a),.v (.bool b)=>V (.v (.bool (rF neg (decide (a=b)))))
  | _,_=>False
 | .eqS neg x y=>match ev ρ x,ev ρ y with
  | .v (.slice a _ _),.v (.slice none _ _)=>V (.v (.bool (rF neg a.isNone)))
  | _,_=>False
 | .eqN neg x=>match ev ρ x with
  | .v .nilIface=>V (.v (.bool (rF neg true)))
  | .v (.iface _ _)=>V (.v (.bool (rF neg false)))
  | _=>False
 | .tas t z x=>match ev ρ x with
  | .v .nilIface=>V (.v (.tuple #[z,.bool false]))
  | .v (.iface w u)=>match Nat.beq w t with
   | true=>V (.v (.tuple #[u,.bool true]))
   | false=>V (.v (.tuple #[z,.bool false]))
  | _=>False
 | .eqA neg ks x y=>match ev ρ x,ev ρ y with
  | .v (.agg cs),.v (.agg ds)=>match iO ks cs.toList ds.toList true with
   | some b=>V (.v (.bool (rF neg b)))
   | none=>False
  | _,_=>False
 | .un op x=>match op,ev ρ x with
  | .not,.v (.bool b)=>V (.v (.bool (!b)))
  | .neg,.v (.int k n)=>Fit k (0-n) fun m=>V (.v (.int k m))
  | .xor,.v (.int k n)=>V (.v (.int k (k.wrap (BitVec.ofInt k.bits (if k.signed then -1 else k.max) ^^^ BitVec.ofInt k.bits n).toNat)))
  | _,_=>False
 | .conv k x=>match ev ρ x with
  | .v (.int _ n)=>Fit k n fun m=>V (.v (.int k m))
  | _=>False
 | .mkfn f d e=>V (.v (.func (.func f) (aZ L ρ d).toArray (aZ L ρ e).toArray))
 | .slc sz x lo hi=>match ev ρ x with
  | .v (.slice a n c)=>match mV ρ 0 lo,mV ρ n hi with
   | some l,some h=>O2 l h c fun l h=>V (.v (rG a c l h sz))
   | _,_=>False
  | _=>False
 | .fieldA off x=>match ev ρ x with
  | .own k o=>V (.own k (o+off))
  | .el a j=>V (.el a (j+off))
  | .v (.pointer (some a))=>V (.el (some a) off)
  | _=>False
 | .idxA sz x i=>match ev ρ x,ev ρ i with
  | .v (.slice a n _),.v (.int _ i)=>IG a i n (V (.el a (i.toNat*sz)))
  | _,_=>False
 | .extr x i=>match ev ρ x with
  | .v (.tuple q)=>match q.toList[i]? with
   | some v=>V (.v v)
   | none=>False
  | _=>False
 | .len x=>match ev ρ x with
  | .v (.slice _ n _)=>V (.v (.int .i64 n))
  | _=>False
 | .mm mx args=>match args.map (ev ρ) with
  | .v (.int k a)::l=>match O5 mx a l with
   | some m=>V (.v (.int k m))
   | none=>False
  | _=>False
 | .loadD agg n x=>match ev ρ x with
  | .own k off=>match L.get k with
   | some (.box _ t cs)=>match i9 t ((cs.drop off).take n) n with
    | true=>V (.v (gT agg ((cs.drop off).take n)))
    | false=>False
   | _=>False
  | .el a j=>iV F a j n fun cs=>V (.v (gT agg cs))
  | .v (.pointer (some a))=>iV F (some a) 0 n fun cs=>V (.v (gT agg cs))
  | _=>False
 | .gload g=>R7 F g fun v=>V (.v v)
 | .loadF agg n x=>match ev ρ x with
  | .el a j=>iV F a j n fun cs=>V (.v (gT agg cs))
  | .v (.pointer (some a))=>iV F (some a) 0 n fun cs=>V (.v (gT agg cs))
  | _=>False
 | .mkif t x=>match ev ρ x with
  | .v v=>V (.v (.iface t v))
  | .el (some s) j=>V (.v (.iface t (.pointer (some (s.add j)))))
  | _=>False
 | .mlook str ok z x i=>match ev ρ x with
  | .v (.map (some g))=>CA L g fun _ cs=>Fx str cs (val L ρ i) ok z fun v=>V (.v v)
  | _=>False
 | .loadK key agg n x=>match ev ρ x with
  | .own k off=>match Nat.beq k key with
   | true=>match L.get k with
    | some (.box _ t cs)=>match i9 t ((cs.drop off).take n) n with
     | true=>V (.v (gT agg ((cs.drop off).take n)))
     | false=>False
    | _=>False
   | false=>False
  | _=>False
 | _=>False
def evalOp (P:Program) (o:dO) (d:Option Nat) (F:au) (L:Loc) (ρ:Env) (K:dm):Prop :=
 match o with
 | .mov x=>aJ (.mov x) F L ρ fun v=>K F L (put d v ρ)
 | .pick c a b=>aJ (.pick c a b) F L ρ fun v=>K F L (put d v ρ)
 | .box t x=>match d with
  | some k=>match L.get k with
   | none=>∀g,K F (L.set k (.box g t (aM (val L ρ x)))) (put d (.own k 0) ρ)
   | some _=>False
  | none=>False
 | .boxF t x=>∀g F',F.le F'->F' g=some (.cells (aM (val L ρ x)).toArray t (0,0))->K F' L (put d (.v (.pointer (some ⟨g,0,none⟩))) ρ)
 | .alloc t zs=>match d with
  | some k=>match L.get k with
   | none=>∀g,K F (L.set k (.box g t zs)) (put d (.own k 0) ρ)
   | some _=>False
  | none=>False
 | .mkF e n sz xs=>match fQ L ρ sz xs with
  | true=>∀g F',F.le F'->F' g=some (.cells (cellsOf L ρ xs).toArray e (0,0))->K F' L (put d (.v (.slice (some ⟨g,0,none⟩) n n)) ρ)
  | false=>False
 | .mkR e n sz xs=>match fQ L ρ sz xs,d with
  | true,some k=>match L.get k with
   | none=>∀g,K F (L.set k (.row (.slice (some ⟨g,0,none⟩) n n) e sz n (cellsOf L ρ xs))) (put d (.v (.slice (some ⟨g,0,none⟩) n n)) ρ)
   | some _=>False
  | _,_=>False
 | .build zs ps=>aJ (.build zs ps) F L ρ fun v=>K F L (put d v ρ)
 | .load agg n x=>aJ (.load agg n x) F L ρ fun v=>K F L (put d v ρ)
 | .store n a x=>match gQ (aM (val L ρ x)) n,jQ (aM (val L ρ x)),ev ρ a with
  | true,true,.own k off=>match L.get k with
   | some (.box g t cs)=>match i9 t ((cs.drop off).take n) n with
    | true=>K F (L.set k (.box g t (bO cs off (aM (val L ρ x))))) (put d (.v undef) ρ)
    | false=>False
   | _=>False
  | true,true,.el p j=>qu L p j (aM (val L ρ x)) fun L'=>K F L' (put d (.v undef) ρ)
  | true,true,.v (.pointer (some p))=>qu L (some p) 0 (aM (val L ρ x)) fun L'=>K F L' (put d (.v undef) ρ)
  | _,_,_=>False
 | .nilck x=>aJ (.nilck x) F L ρ fun v=>K F L (put d v ρ)
 | .mkif t x=>aJ (.mkif t x) F L ρ fun v=>K F L (put d v ρ)
 | .pan _=>False
 | .dead=>False
 | .bin op x y=>aJ (.bin op x y) F L ρ fun v=>K F L (put d v ρ)
 | .eqB neg x y=>aJ (.eqB neg x y) F L ρ fun v=>K F L (put d v ρ)
 | .eqS neg x y=>aJ (.eqS neg x y) F L ρ fun v=>K F L (put d v ρ)
 | .eqN neg x=>aJ (.eqN neg x) F L ρ fun v=>K F L (put d v ρ)
 | .tas t z x=>aJ (.tas t z x) F L ρ fun v=>K F L (put d v ρ)
 | .eqA neg ks x y=>aJ (.eqA neg ks x y) F L ρ fun v=>K F L (put d v ρ)
 | .un op x=>aJ (.un op x) F L ρ fun v=>K F L (put d v ρ)
 | .conv k x=>aJ (.conv k x) F L ρ fun v=>K F L (put d v ρ)
 | .mkfn f r q=>aJ (.mkfn f r q) F L ρ fun v=>K F L (put d v ρ)
 | .makeS e sz bytes zs l c=>match ev ρ l,ev ρ c,d with
  | .v (.int _ n),.v (.int _ m),some k=>match L.get k with
   | none=>mP n m bytes fun n=>∀g,K F (L.set k (.row (.slice (some ⟨g,0,none⟩) n m.toNat) e sz n (List.replicate n zs).flatten)) (put d (.v (.slice (some ⟨g,0,none⟩) n m.toNat)) ρ)
   | some _=>False
  | _,_,_=>False
 | .slc sz x lo hi=>aJ (.slc sz x lo hi) F L ρ fun v=>K F L (put d v ρ)
 | .fieldA off x=>aJ (.fieldA off x) F L ρ fun v=>K F L (put d v ρ)
 | .idxA sz x i=>aJ (.idxA sz x i) F L ρ fun v=>K F L (put d v ρ)
 | .extr x i=>aJ (.extr x i) F L ρ fun v=>K F L (put d v ρ)
 | .call f args=>dP P f (aZ L ρ args) F L fun F' L' v=>K F' L' (put d (.v v) ρ)
 | .callV f args=>match rE P (ev ρ f) with
  | some (f,r,q)=>dP P f (r++aZ L ρ args++q) F L fun F' L' v=>K F' L' (put d (.v v) ρ)
  | none=>match zB P (ev ρ f) (aZ L ρ args) with
   | some (f,args)=>dP P f args F L fun F' L' v=>K F' L' (put d (.v v) ρ)
   | none=>False
 | .gload g=>aJ (.gload g) F L ρ fun v=>K F L (put d v ρ)
 | .mkmap=>match d with
  | some k=>match L.get k with
   | none=>∀g,K F (L.set k (.box g 0 [])) (put d (.v (.map (some g))) ρ)
   | some _=>False
  | none=>False
 | .mlook str ok z x i=>aJ (.mlook str ok z x i) F L ρ fun v=>K F L (put d v ρ)
 | .mupd str x i v=>match ev ρ x with
  | .v (.map (some g))=>CA L g fun k cs=>P6 str cs (val L ρ i) (val L ρ v) fun cs'=>K F (L.set k (.box g 0 cs')) (put d (.v undef) ρ)
  | _=>False
 | .mrange x=>match ev ρ x,d with
  | .v (.map (some g)),some k=>match L.get k with
   | none=>CA L g fun _ cs=>∀w,K F (L.set k (.box w 0 [.tuple #[.map (some g),.int .i64 cs.length]])) (put d (.own k 0) ρ)
   | some _=>False
  | _,_=>False
 | .mnext x=>match ev ρ x with
  | .own k 0=>match L.get k with
   | some (.box w 0 (.tuple ⟨[.map (some g),.int .i64 (.ofNat n)]⟩::h))=>II L k w g n h fun L' v=>K F L' (put d (.v v) ρ)
   | _=>False
  | _=>False
 | .mentry x=>match ev ρ x with
  | .own k 0=>match L.get k with
   | some (.box w 0 (.tuple ⟨[.map (some g),.int .i64 (.ofNat n)]⟩::h))=>Fy L g n h fun v=>K F L (put d (.v v) ρ)
   | _=>False
  | _=>False
 | .len x=>aJ (.len x) F L ρ fun v=>K F L (put d v ρ)
 | .mm mx args=>aJ (.mm mx args) F L ρ fun v=>K F L (put d v ρ)
 | .app e sz bytes _ s x=>match ev ρ s,ev ρ x with
  | .v sv,.v u=>Fw F L e sz bytes sv u fun L1 v=>K F L1 (put d (.v v) ρ)
  | _,_=>False
 | .appX e sz bytes _ s x=>match ev ρ s,ev ρ x with
  | .v sv,.v u=>Fw F L e sz bytes sv u fun L1 v=>Real F L1->K F L1 (put d (.v v) ρ)
  | _,_=>False
 | .appD e sz bytes _ s x=>match ev ρ s,ev ρ x with
  | .v sv,.v u=>pA F L d e sz bytes sv u fun L1 v=>K F L1 (put d (.v v) ρ)
  | _,_=>False
 | .storeD n a x=>match gQ (aM (val L ρ x)) n,jQ (aM (val L ρ x)),ev ρ a with
  | true,true,.own k off=>match L.get k with
   | some (.box g t cs)=>match i9 t ((cs.drop off).take n) n with
    | true=>K F (L.set k (.box g t (bO cs off (aM (val L ρ x))))) (put d (.v undef) ρ)
    | false=>False
   | _=>False
  | _,_,_=>False
 | .storeK key n a x=>match gQ (aM (val L ρ x)) n,jQ (aM (val L ρ x)),ev ρ a with
  | true,true,.own k off=>match Nat.beq k key with
   | true=>match L.get k with
    | some (.box g t cs)=>match i9 t ((cs.drop off).take n) n with
     | true=>K F (L.set k (.box g t (bO cs off (aM (val L ρ x))))) (put d (.v undef) ρ)
     | false=>False
    | _=>False
   | false=>False
  | _,_,_=>False
 | .loadD agg n x=>aJ (.loadD agg n x) F L ρ fun v=>K F L (put d v ρ)
 | .loadF agg n x=>aJ (.loadF agg n x) F L ρ fun v=>K F L (put d v ρ)
 | .loadR agg n x=>aJ (.loadR agg n x) F L ρ fun v=>K F L (put d v ρ)
 | .loadK key agg n x=>aJ (.loadK key agg n x) F L ρ fun v=>K F L (put d v ρ)
 | .makeSD e sz n zs=>match d with
  | some k=>match L.get k,gQ zs sz,Nat.ble n 9223372036854775807 with
   | none,true,true=>∀g,Real F (L.set k (.row (.slice (some ⟨g,0,none⟩) n n) e sz n (List.replicate n zs).flatten))->K F (L.set k (.row (.slice (some ⟨g,0,none⟩) n n) e sz n (List.replicate n zs).flatten)) (put d (.v (.slice (some ⟨g,0,none⟩) n n)) ρ)
   | _,_,_=>False
  | none=>False
 | .makeSV e sz b zs x=>match d with
  | some k=>match L.get k,gQ zs sz,sJ b (val L ρ x) with
   | none,true,true=>∀g,Real F (L.set k (.row (.slice (some ⟨g,0,none⟩) (lJ (val L ρ x)) (lJ (val L ρ x))) e sz (lJ (val L ρ x)) (List.replicate (lJ (val L ρ x)) zs).flatten))->K F (L.set k (.row (.slice (some ⟨g,0,none⟩) (lJ (val L ρ x)) (lJ (val L ρ x))) e sz (lJ (val L ρ x)) (List.replicate (lJ (val L ρ x)) zs).flatten)) (put d (.v (.slice (some ⟨g,0,none⟩) (lJ (val L ρ x)) (lJ (val L ρ x)))) ρ)
   | _,_,_=>False
  | none=>False
 | .storeX n a x=>match gQ (aM (val L ρ x)) n,jQ (aM (val L ρ x)),ev ρ a with
  | true,true,.own k off=>match L.get k with
   | some (.box g t cs)=>match i9 t ((cs.drop off).take n) n with
    | true=>Real F (L.set k (.box g t (bO cs off (aM (val L ρ x)))))->K F (L.set k (.box g t (bO cs off (aM (val L ρ x))))) (put d (.v undef) ρ)
    | false=>False
   | _=>False
  | true,true,.el p j=>qu L p j (aM (val L ρ x)) fun L'=>Real F L'->K F L' (put d (.v undef) ρ)
  | true,true,.v (.pointer (some p))=>qu L (some p) 0 (aM (val L ρ x)) fun L'=>Real F L'->K F L' (put d (.v undef) ρ)
  | _,_,_=>False
 | .boxD t x=>match d with
  | some k=>match L.get k with
   | none=>∀g,Real F (L.set k (.box g t (aM (val L ρ x))))->K F (L.set k (.box g t (aM (val L ρ x)))) (put d (.own k 0) ρ)
   | some _=>False
  | none=>False
 | .allocD t zs=>match d with
  | some k=>match L.get k with
   | none=>∀g,Real F (L.set k (.box g t zs))->K F (L.set k (.box g t zs)) (put d (.own k 0) ρ)
   | some _=>False
  | none=>False
 | .mkFD e n sz xs=>match fQ L ρ sz xs with
  | true=>∀g F',F.le F'->F' g=some (.cells (cellsOf L ρ xs).toArray e (0,0))->Real F' L->K F' L (put d (.v (.slice (some ⟨g,0,none⟩) n n)) ρ)
  | false=>False
 | .callD f args=>dH P f (aZ L ρ args) F L d fun F' L' v=>K F' L' (put d (.v v) ρ)
 | .callVD f args=>match rE P (ev ρ f) with
  | some (f,r,q)=>dH P f (r++aZ L ρ args++q) F L d fun F' L' v=>K F' L' (put d (.v v) ρ)
  | none=>False
 | .callO f args=>dP P f (aZ L ρ args) F L fun F' L' v=>Real F' L'->K F' L' (put d (.v v) ρ)
 | .callVO f args=>match rE P (ev ρ f) with
  | some (f,r,q)=>dP P f (r++aZ L ρ args++q) F L fun F' L' v=>Real F' L'->K F' L' (put d (.v v) ρ)
  | none=>False
def P7 (F:au) (v:Value) (sz n:Nat) (xs:List Value):Prop :=
 (v=.slice none 0 0/\n=0/\xs=[])\/∃a c,v=.slice (some a) n c/\dG F (some a) 0 xs/\n<=c
structure O6 (F:au) (L:Loc) (k:Nat) (K:au->Loc->Prop):Prop where
 out:∃v t sz n xs,L.get k=some (.row v t sz n xs)/\∀F',F.le F'->P7 F' v sz n xs->K F' (L.del k)
inductive ai where
 | op (dst:Option Nat) (o:dO) (guard:Option (Nat×Bool))
 | frz (k:Nat)
 | pc (dst:Option Nat) (o:dO) (guard:Option (Nat×Bool))
 deriving Inhabited
def wD (k g:Nat) (ρ:Env):Env:=fun j=>match ρ j with
 | .own b off=>match Nat.beq b k with | true=>.v (.pointer (some ⟨g,off,none⟩)) | false=>.own b off
 | .v x=>.v x
 | .el a i=>.el a i
def aQ (P:Program):List ai->au->Loc->Env->dm->Prop
 | [],F,L,ρ,K=>K F L ρ
 | .op d o none::a,F,L,ρ,K=>evalOp P o d F L ρ fun F' L' ρ'=>aQ P a F' L' ρ' K
 | .op d o (some (s,c))::a,F,L,ρ,K=>match ρ s with
  | .v (.bool b)=>yX b
    (match c with
     | true=>evalOp P o d F L (put (some s) (.v (.bool true)) ρ) fun F' L' ρ'=>aQ P a F' L' ρ' K
     | false=>aQ P a F L (put d (.v undef) (put (some s) (.v (.bool true)) ρ)) K)
    (match c with
     | false=>evalOp P o d F L (put (some s) (.v (.bool false)) ρ) fun F' L' ρ'=>aQ P a F' L' ρ' K
     | true=>aQ P a F L (put d (.v undef) (put (some s) (.v (.bool false)) ρ)) K)
  | .v (.tuple _)=>aQ P a F L (put d (.v undef) ρ) K
  | _=>False
 | .frz k::a,F,L,ρ,K=>match L.get k with
  | some (.box g t cs)=>∀F',F.le F'->F' g=some (mO t cs)->aQ P a F' (L.del k) (wD k g ρ) K
  | _=>O6 F L k fun F' L'=>aQ P a F' L' ρ K
 | .pc _ _ _::_,_,_,_,_=>False
inductive ax where
 | skip
 | reg (ops:List ai)
 | regD (ops:List ai)
 | regX (ops:List ai)
 | seq (a b:ax)
 | cond (c:X) (a b:ax)
 | block (id:Nat) (c:ax)
 | loop (asg:List Nat) (c:ax)
 | exit (id:Nat)
 | ret
 deriving Inhabited
def fe:List Nat->Nat->Bool
 | [],_=>false
 | j::l,k=>match Nat.beq j k with | true=>true | false=>fe l k
def Loc.keeps:Loc->Loc->Prop
 | [],_=>True
 | (k,.box g t _)::l,L'=>(∃cs,L'.get k=some (.box g t cs))/\Loc.keeps l L'
 | (_,.row ..)::l,L'=>Loc.keeps l L'
structure IK (F:au) (L:Loc) (v:Value) (R:au->List Own->Value->Prop):Prop where
 out:∃ko Lo,L.sub ko=some Lo/\ko.Nodup/\R F Lo v
abbrev RV:=Nat×Option (Bool×Nat)
def mW (L:Loc) (ρ:Env):List RV->(List Value->Prop)->Prop
 | [],K=>K []
 | (t,none)::l,K=>mW L ρ l fun a=>K (conc L (ρ t)::a)
 | (t,some (agg,n))::l,K=>match ρ t with
  | .own k off=>match L.get k with
   | some (.box _ ty cs)=>match i9 ty ((cs.drop off).take n) n with
    | true=>mW L ρ l fun a=>K (gT agg ((cs.drop off).take n)::a)
    | false=>False
   | _=>False
  | _=>False
def fR:List Value->Value
 | [v]=>v
 | l=>.tuple l.toArray
def CC:Nat->List SV->Env
 | _,[]=>fun _=>.v undef
 | k,v::l=>put (some k) v (CC (k+1) l)
def Loc.gives (L:Loc):Loc->Prop
 | []=>True
 | (k,o)::l=>(L.get k=some o\/(L.get k=none/\∃t sz,o=.row (.slice none 0 0) t sz 0 []))/\Loc.gives L l
def pD (asg:List Nat) (a:Nat->Value) (ρ:Env):Env:=fun j=>match fe asg j with | true=>.v (a j) | false=>ρ j
def puts:List Nat->List SV->Env->Env
 | k::ks,v::a,ρ=>put (some k) v (puts ks a ρ)
 | _,_,ρ=>ρ
def holds:List Nat->List SV->Env->Prop
 | k::ks,v::a,ρ=>ρ k=v/\holds ks a ρ
 | _,_,_=>True
structure IL (body:au->Loc->Env->dm->Prop) (asg:List Nat) (F:au) (L:Loc) (ρ:Env):Prop where
 out:∃(σ:Type) (x0:σ) (Inv:σ->au->Prop) (ls:List Nat) (lv:σ->List Value) (Lf:σ->Loc) (μ:σ->Nat),
  Inv x0 F/\holds ls ((lv x0).map .v) ρ/\L.gives (Lf x0)/\(∀x,L.keeps (Lf x)) /\
  ∀x F' jk,F.le F'->Inv x F'->body F' (Lf x) (puts ls ((lv x).map .v) (pD asg jk ρ)) fun F'' L'' ρ'' =>
   ∃x',Inv x' F''/\holds ls ((lv x').map .v) ρ''/\L''.gives (Lf x')/\μ x'<μ x
def jh (P:Program):ax->(Nat->dm)->dm->dm->dm
 | .skip,_,_,N,F,L,ρ=>N F L ρ
 | .reg d,_,_,N,F,L,ρ=>aQ P d F L ρ N
 | .regD d,_,_,N,F,L,ρ=>aQ P d F L ρ N
 | .regX _,_,_,_,_,_,_=>False
 | .seq a b,E,R,N,F,L,ρ=>jh P a E R (fun F L ρ=>jh P b E R N F L ρ) F L ρ
 | .cond c a b,E,R,N,F,L,ρ=>match ev ρ c with
  | .v (.bool t)=>yX t (jh P a E R N F L ρ) (jh P b E R N F L ρ)
  | _=>False
 | .block id c,E,R,N,F,L,ρ=>jh P c (fun j=>match Nat.beq j id with | true=>N | false=>E j) R N F L ρ
 | .loop asg c,E,R,_,F,L,ρ=>IL (fun F L ρ K=>jh P c E R K F L ρ) asg F L ρ
 | .exit id,E,_,_,F,L,ρ=>E id F L ρ
 | .ret,_,R,_,F,L,ρ=>R F L ρ
theorem gb {a b:Nat}(h:Nat.beq a b=false):a≠b:=by intro e;subst e;simp at h
theorem Loc.aac (L:Loc) (k:Nat) (o:Own) (j:Nat):(L.set k o).get j=if j=k then some o else L.get j:=by
 induction L with
 | nil =>
  simp only[Loc.set,Loc.get];cases h:Nat.beq k j with
  | true=>have:=aaO h;simp[this]
  | false=>have:=gb h;simp;omega
 | cons p l c =>
  obtain⟨i,q⟩:=p;simp only[Loc.set];cases h:Nat.beq i k with
  | true =>
   have e:=aaO h;subst e;simp only[Loc.get];cases a:Nat.beq i j with
   | true=>have:=aaO a;simp[this]
   | false=>have:=gb a;simp;omega
  | false =>
   have b:=gb h;simp only[];cases d:Nat.ble i k with
   | true =>
    simp only[Loc.get];cases a:Nat.beq i j with
    | true=>have:=aaO a;simp;omega
    | false=>simpa using c
   | false =>
    simp only[Loc.get];cases a:Nat.beq k j with
    | true=>have:=aaO a;simp[this]
    | false =>
     have:=gb a;simp only[];rw[fL (by omega)]
theorem Loc.aaf (L:Loc) (k j:Nat):(L.del k).get j=if j=k then none else L.get j:=by
 induction L with
 | nil=>simp[Loc.del,Loc.get]
 | cons p l c =>
  obtain⟨i,q⟩:=p;simp only[Loc.del];cases h:Nat.beq i k with
  | true =>
   have e:=aaO h;subst e;simp only[Loc.get,c]
   by_cases a:j=i
   ·simp[a]
   ·have:Nat.beq i j=false:=by cases b:Nat.beq i j with | true=>exact o5 (aaO b).symm a | false=>rfl
    simp[a,this]
  | false =>
   have d:=gb h;simp only[Loc.get];cases b:Nat.beq i j with
   | true=>have:=aaO b;simp;omega
   | false=>simpa using c
def Loc.part (L L':Loc):Prop:=∀k o,L'.get k=some o->L.get k=some o
theorem St.part {F:au}{L L':Loc}{w:World}(h:St F L w) (a:L.part L'):St F L' w :=
 ⟨h.frz,fun k o e=>h.own k o (a k o e),fun k o g e=>h.off k o g (a k o e),fun k b o o' g e c=>h.sep k b o o' g (a k o e) (a b o' c),h.glob⟩
theorem Own.aaq {w:World}{o:Own}(h:o.ok w) {g:Nat}(a:o.blk=some g):g<w.heap.size:=by
 cases o with
 | box b t cs =>
  simp only[Own.blk,vz] at a;subst a;exact(Array.getElem?_eq_some_iff.1 h).1
 | row v t sz n xs=>exact(World.ownsRow.lt h g a).2
theorem Own.aau {w w':World}{o:Own}(h:o.ok w) (c:∀g,o.blk=some g->w'.heap[g]?=w.heap[g]?):o.ok w':=by
 cases o with
 | box g t cs=>exact(c g rfl).trans h
 | row v t sz n xs =>
  obtain⟨h1,b⟩:=h;refine⟨h1,?_⟩;rcases b with b | ⟨g,cap,a,rfl,hb,d,r⟩
  ·exact .inl b
  ·exact .inr ⟨g,cap,a,rfl,hb,(c g rfl).trans d,r⟩
theorem St.aax {F:au}{L:Loc}{w:World}(h:St F L w) {b:Nat}(hb:F b≠none):b<w.heap.size:=by
 cases e:F b with
 | none=>exact o5 e hb
 | some o=>exact(Array.getElem?_eq_some_iff.1 (h.frz b o e)).1
theorem St.aaA {F:au}{L:Loc}{w:World}(h:St F L w) {b:Nat}(hb:L.owns b):b<w.heap.size:=by
 obtain⟨k,o,e,a⟩:=hb;exact Own.aaq (h.own k o e) a
theorem St.keep {F:au}{L:Loc}{w w':World}(h:St F L w) (a:∀b,b<w.heap.size->w'.heap[b]?=w.heap[b]?):St F L w':=by
 refine⟨fun b o e=>?_,fun k o e=>?_,h.off,h.sep,h.glob⟩
 ·have:=h.frz b o e;rw[a b (Array.getElem?_eq_some_iff.1 this).1];exact this
 ·exact Own.aau (h.own k o e) fun g c=>a g (Own.aaq (h.own k o e) c)
theorem St.drew {F:au}{L:Loc}{w:World}(h:St F L w):St F L w.drew:=h.keep fun _ _=>rfl
theorem St.put {F:au}{L:Loc}{w:World}(h:St F L w) {k:Nat}{o:Own}(x:L.get k=none) (u:o.ok w)
  (n:∀g,o.blk=some g->F g=none/\¬L.owns g):St F (L.set k o) w:=by
 have a:∀j p,(L.set k o).get j=some p->(j=k/\p=o)\/(j≠k/\L.get j=some p):=by
  intro j p e;rw[Loc.aac] at e;split at e
  ·rename_i d;exact .inl ⟨d,by injection e with e;exact e.symm⟩
  ·rename_i d;exact .inr ⟨d,e⟩
 refine⟨h.frz,fun j p e=>?_,fun j p g e c=>?_,fun j l p m g e v c b=>?_,h.glob⟩
 ·rcases a j p e with⟨_,rfl⟩ | ⟨_,e⟩
  ·exact u
  ·exact h.own j p e
 ·rcases a j p e with⟨_,rfl⟩ | ⟨_,e⟩
  ·exact(n g c).1
  ·exact h.off j p g e c
 ·rcases a j p e with⟨d,t⟩ | ⟨_,r⟩<;>rcases a l m v with⟨q,f⟩ | ⟨_,s⟩
  ·exact d.trans q.symm
  ·subst t;exact o5 ⟨l,m,s,b⟩ (n g c).2
  ·subst f;exact o5 ⟨j,p,r,c⟩ (n g b).2
  ·exact h.sep j l p m g r s c b
theorem St.turn {F:au}{L:Loc}{w w':World}(h:St F L w) {k:Nat}{o o':Own}(n:L.get k=some o) (ho:o'.ok w')
  (x:∀b,b<w.heap.size->o.blk≠some b->w'.heap[b]?=w.heap[b]?) (hb:∀g,o'.blk=some g->o.blk=some g\/w.heap.size<=g):St F (L.set k o') w':=by
 have c:∀j p,(L.set k o').get j=some p->(j=k/\p=o')\/(j≠k/\L.get j=some p):=by
  intro j p e;rw[Loc.aac] at e;split at e
  ·rename_i l;exact .inl ⟨l,by injection e with e;exact e.symm⟩
  ·rename_i l;exact .inr ⟨l,e⟩
 refine⟨fun b p e=>?_,fun j p e=>?_,fun j p g e d=>?_,fun j q p r g e e' d f=>?_,h.glob⟩
 ·have:=h.frz b p e;rw[x b (Array.getElem?_eq_some_iff.1 this).1 (fun hb=>by have:=h.off k o b n hb;rw[this] at e;cases e)];exact this
 ·rcases c j p e with⟨_,rfl⟩ | ⟨l,e⟩
  ·exact ho
  ·exact Own.aau (h.own j p e) fun g d=>x g (Own.aaq (h.own j p e) d) fun a=>l (h.sep j k p o g e n d a)
 ·rcases c j p e with⟨_,rfl⟩ | ⟨_,e⟩
  ·rcases hb g d with a | v
   ·exact h.off k o g n a
   ·cases z:F g with
    | none=>rfl
    | some _=>have:=h.aax (b:=g) (by rw[z];simp);omega
  ·exact h.off j p g e d
 ·rcases c j p e with⟨l,y⟩ | ⟨l,t⟩<;>rcases c q r e' with⟨m,s⟩ | ⟨m,u⟩
  ·exact l.trans m.symm
  ·subst y;rcases hb g d with a | v
   ·exact o5 (h.sep q k r o g u n f a) m
   ·have:=Own.aaq (h.own q r u) f;omega
  ·subst s;rcases hb g f with a | v
   ·exact o5 (h.sep j k p o g t n d a) l
   ·have:=Own.aaq (h.own j p t) d;omega
  ·exact h.sep j q p r g t u d f
theorem St.freeze {F:au}{L:Loc}{w:World}(h:St F L w) {g:Nat}{o:Obj}(c:w.heap[g]?=some o) (d:¬L.owns g) :
  St (fun b=>if b=g then some o else F b) L w:=by
 refine⟨fun b p e=>?_,h.own,fun k p b e hb=>?_,h.sep,sG.mono ?_ h.glob⟩
 ·split at e
  ·rename_i a;subst a;injection e with e;subst e;exact c
  ·exact h.frz b p e
 ·split
  ·rename_i a;subst a;exact o5 ⟨k,p,e,hb⟩ d
  ·exact h.off k p b e hb
 ·intro b p e;simp only[];split
  ·rename_i a;subst a;rw[<-h.frz b p e,c]
  ·exact e
theorem au.aav {F:au}{w:World}{L:Loc}(h:St F L w) {g:Nat}{o:Obj}(c:w.heap[g]?=some o):F.le (fun b=>if b=g then some o else F b):=by
 intro b p e;simp only[];split
 ·rename_i a;subst a;rw[<-h.frz b p e,c]
 ·exact e
theorem Step.refl (F:au) (L:Loc) (w:World):Step F L w F L w :=
 ⟨au.le_refl F,rfl,rfl,rfl,aa0 _,fun _ _ _=>rfl,fun _ h=>.inl h,fun _ h=>.inl h⟩
theorem Step.trans {F F' F'':au}{L L' L'':Loc}{w w' a:World}(h:Step F L w F' L' w') (k:Step F' L' w' F'' L'' a):Step F L w F'' L'' a:=by
 refine⟨au.le_trans h.le k.le,k.os.trans h.os,k.tape.trans h.tape,k.output.trans h.output,abz h.size k.size,fun b hb d=>?_,fun b hb=>?_,fun b hb=>?_⟩
 ·rw[k.same b (Nat.lt_of_lt_of_le hb h.size) (fun c=>by rcases h.own b c with c | c;exact d c;omega)];exact h.same b hb d
 ·rcases k.frz b hb with h1 | h1 | h1
  ·exact h.frz b h1
  ·exact .inr (h.own b h1)
  ·exact .inr (.inr (abz h.size h1))
 ·rcases k.own b hb with h1 | h1
  ·exact h.own b h1
  ·exact .inr (abz h.size h1)
theorem Step.mk' {F F':au}{L L':Loc}{w w':World}(le:F.le F') (a:w.grownBy w' none) (frz:∀b,F' b≠none->F b≠none\/L.owns b\/w.heap.size<=b)
  (own:∀b,L'.owns b->L.owns b\/w.heap.size<=b):Step F L w F' L' w' :=
 ⟨le,a.os,a.tape,a.output,a.size,fun b hb _=>a.block b hb (by simp),frz,own⟩
theorem Loc.aan {L:Loc}{k:Nat}{o:Own}{b:Nat}(h:(L.set k o).owns b):o.blk=some b\/L.owns b:=by
 obtain⟨j,p,e,hb⟩:=h;rw[Loc.aac] at e;split at e
 ·injection e with e;subst e;exact .inl hb
 ·exact .inr ⟨j,p,e,hb⟩
theorem Loc.aaw {L:Loc}{k b:Nat}(h:(L.del k).owns b):L.owns b:=by
 obtain⟨j,p,e,hb⟩:=h;rw[Loc.aaf] at e;split at e
 ·cases e
 ·exact⟨j,p,e,hb⟩
theorem Loc.aaz (L:Loc) (k:Nat):L.part (L.del k):=by
 intro j o e;rw[Loc.aaf] at e;split at e
 ·cases e
 ·exact e
theorem dG.mono {F G:au}(h:F.le G) {a:Option Addr}{j:Nat}{cs:List Value}(c:dG F a j cs):dG G a j cs:=by
 obtain⟨f,b,t,k,e,l,m,d⟩:=c;exact⟨f,b,t,k,e,h _ _ l,m,d⟩
theorem cU {b o n:Nat}:(⟨b,o,none⟩:Addr).add n=⟨b,o+n,none⟩:=by
 unfold Addr.add;split<;>simp_all
theorem dG.cell {F:au}{L:Loc}{w:World}(h:St F L w) {a:Option Addr}{j:Nat}{cs:List Value}(c:dG F a j cs) :
  ∃d,a=some d/\d.spot=none/\∀i v,cs[i]?=some v->w.cell? (d.add (j+i))=some v:=by
 obtain⟨d,n,t,p,e,m,f,l⟩:=c;refine⟨d,e,f,fun i v k=>?_⟩;obtain⟨b,o,q⟩:=d;simp only at f;subst f;rw[cU];have:=h.frz b _ m;simp only[World.cell?,this];simpa[Nat.add_assoc] using l i v k
def bE:Operand->Option X
 | .tmp t=>some (.t t)
 | .const v=>some (.c v)
 | .func f=>some (.fn f)
 | .global _=>none
def gh:List Operand->Option (List X)
 | []=>some []
 | o::l=>match bE o,gh l with
  | some x,some xs=>some (x::xs)
  | _,_=>none
def sK:Option Operand->Option (Option X)
 | none=>some none
 | some o=>match bE o with | some x=>some (some x) | none=>none
def eK:TypeDesc->Bool
 | .struct _ | .array _ _=>true
 | _=>false
def RX (i:TypeInfo):Option (List Value):=match i.zero with | some z=>some z.cells.toList | none=>none
def mX (P:Program) (b:Array Field):List (Nat×Operand)->Option (List (Nat×Nat×X))
 | []=>some []
 | (i,o)::l=>match b[i]?,bE o,mX P b l with
  | some f,some x,some ps=>match P.info? f.type with
   | some j=>some ((f.offset,j.size,x)::ps)
   | none=>none
  | _,_,_=>none
def zC:Operand->Option dO
 | .global g=>match vV g with | some _=>some (.gload g) | none=>none
 | _=>none
def nY (P:Program):List Field->Nat->Option (List Bool)
 | [],_=>some []
 | f::fs,k=>match Nat.beq f.offset k,decide (f.name="_"),P.underlying f.type with
  | true,false,some (.int _)=>match nY P fs (k+1) with | some ks=>some (true::ks) | none=>none
  | true,false,some .bool=>match nY P fs (k+1) with | some ks=>some (false::ks) | none=>none
  | _,_,_=>none
def wE:X->Bool
 | .c .nilIface=>true
 | _=>false
def gU (P:Program) (own:Bool) (o:Op):Option dO :=
 match o with
 | .move x | .assign x=>match bE x with | some x=>some (.mov x) | none=>none
 | .pick c a b=>match bE c,bE a,bE b with | some c,some a,some b=>some (.pick c a b) | _,_,_=>none
 | .box t x=>match bE x,decide (t=0) with | some x,false=>some (match own with | true=>.boxF t x | false=>.box t x) | _,_=>none
 | .alloc t=>match P.info? t,decide (t=0) with
  | some i,false=>match RX i with | some z=>some (.alloc t z) | none=>none
  | _,_=>none
 | .buildSlice t n ps=>match P.underlying t,gh (ps.toList.map (·.2)) with
  | some (.slice e),some xs=>match P.info? e with
   | some i=>match decide (ps.toList.map (·.1)=List.range n),decide (n*i.size<=2 ^ 24/\n<=2 ^ 24),i.zero with
    | true,true,some _=>some (match own with | true=>.mkR e n i.size xs | false=>.mkF e n i.size xs)
    | _,_,_=>none
   | none=>none
  | _,_=>none
 | .build t ps=>match P.underlying t,P.info? t with
  | some (.struct fs),some i=>match RX i,mX P fs ps.toList with
   | some z,some l=>match fs.toList.all (fun f=>(P.info? f.type).isSome),l.all (fun p=>Nat.ble (p.1+p.2.1) z.length) with
    | true,true=>some (.build z l)
    | _,_=>none
   | _,_=>none
  | _,_=>none
 | .lookup t x i ok=>match LI with
  | true=>none
  | false=>match P.underlying t,bE x,bE i with
   | some (.map key e),some x,some i=>match P.underlying key,P.info? e with
    | some (.int .i64),some j=>match j.zero with
     | some z=>some (.mlook false ok z x i)
     | none=>none
    | some .string,some j=>match j.zero with
     | some z=>some (.mlook true ok z x i)
     | none=>none
    | _,_=>none
   | _,_,_=>none
 | .makeMap _ none=>some .mkmap
 | .mapUpdate t x i v | .insert t x i v=>match P.underlying t,bE x,bE i,bE v with
  | some (.map key _),some x,some i,some v=>match P.underlying key with
   | some (.int .i64)=>some (.mupd false x i v)
   | some .string=>some (.mupd true x i v)
   | _=>none
  | _,_,_,_=>none
 | .range t x=>match P.underlying t,bE x with
  | some (.map _ _),some x=>some (.mrange x)
  | _,_=>none
 | .next x false=>match bE x with | some x=>some (.mnext x) | none=>none
 | .entry x=>match bE x with | some x=>some (.mentry x) | none=>none
 | .load t a=>match P.underlying t,P.info? t,bE a with
  | some d,some i,some x=>some (match eK d with | true=>.load true i.size x | false=>.load false 1 x)
  | some (.map _ _),some _,none=>zC a
  | some (.interface _),some _,none=>match zC a with | some s=>some s | none=>some .dead
  | some _,some _,none=>some .dead
  | _,_,_=>none
 | .store t a x=>match P.info? t,bE a,bE x with
  | some i,some a,some x=>match decide (i.size=0) with | true=>none | false=>some (.store i.size a x)
  | _,_,_=>none
 | .nilCheck x=>match bE x,O1 P with | some x,true=>some (.nilck x) | _,_=>none
 | .binOp op t x y _=>match P.underlying t,bE x,bE y with
  | some d,some x,some y=>match d,op with
   | .bool,.eql=>some (.eqB false x y)
   | .bool,.neq=>some (.eqB true x y)
   | .slice _,.eql=>some (.eqS false x y)
   | .slice _,.neq=>some (.eqS true x y)
   | .interface _,.eql=>match wE y with | true=>some (.eqN false x) | false=>none
   | .interface _,.neq=>match wE y with | true=>some (.eqN true x) | false=>none
   | .struct fs,.eql=>match nY P fs.toList 0,P.stoodInHeld t,P.eqGuardType P.depth t with | some ks,false,false=>some (.eqA false ks x y) | _,_,_=>none
   | .struct fs,.neq=>match nY P fs.toList 0,P.stoodInHeld t,P.eqGuardType P.depth t with | some ks,false,false=>some (.eqA true ks x y) | _,_,_=>none
   | .int _,_ | .string,_=>some (.bin op x y)
   | _,_=>none
  | _,_,_=>none
 | .unOp op _ x=>match bE x with | some x=>some (.un op x) | none=>none
 | .convert s t x=>match P.underlying s,P.underlying t,bE x with
  | some (.int _),some (.int k),some x=>some (.conv k x)
  | _,_,_=>none
 | .makeFunc (.func f) fi ca=>match gh fi.toList,gh ca.toList with
  | some fi,some ca=>some (.mkfn f fi ca)
  | _,_=>none
 | .makeFunc (.methodOf t nm) fi ca=>match fi.toList,ca.toList with
  | [],[]=>some (.mov (.c (.func (.methodOf t nm) #[] #[])))
  | _,_=>none
 | .makeSlice t l c=>match P.underlying t,bE l,bE c with
  | some (.slice e),some l,some c=>match P.info? e with
   | some i=>match i.zero with
    | some z=>match decide (z.cells.size=i.size),decide (0<i.size) with
     | true,true=>some (.makeS e i.size i.bytes z.cells.toList l c)
     | _,_=>none
    | none=>none
   | none=>none
  | _,_,_=>none
 | .slice t x lo hi none=>match P.underlying t,bE x,sK lo,sK hi with
  | some (.slice e),some x,some lo,some hi=>match P.info? e with
   | some i=>some (.slc i.size x lo hi)
   | none=>none
  | _,_,_,_=>none
 | .fieldAddr t x f=>match P.underlying t,bE x with
  | some (.struct fs),some x=>match fs[f]? with
   | some f=>match P.info? f.type with
    | some i=>match decide (i.size=0) with | true=>none | false=>some (.fieldA f.offset x)
    | none=>none
   | none=>none
  | _,_=>none
 | .indexAddr t x i=>match P.underlying t,bE x,bE i with
  | some (.slice e),some x,some i=>match P.info? e with
   | some j=>some (.idxA j.size x i)
   | none=>none
  | _,_,_=>none
 | .makeInterface t x=>match P.underlying t,bE x with
  | some (.interface _),_=>none
  | some _,some x=>some (.mkif t x)
  | _,_=>none
 | .typeAssert x _ t true=>match P.underlying t,P.info? t,bE x with
  | some (.interface _),_,_=>none
  | some _,some i,some x=>match i.zero with | some z=>some (.tas t z x) | none=>none
  | _,_,_=>none
 | .panic x=>match bE x with | some x=>some (.pan x) | none=>none
 | .extract x i=>match bE x with | some x=>some (.extr x i) | none=>none
 | .call c=>match gh c.args.toList with
  | none=>none
  | some args=>match c.callee with
   | .value (.func f)=>match P.funcs[f]? with
    | some fn=>match fn.name == "runtime.NumGoroutine",fn.body.isSome with
     | false,true=>some (.call f args)
     | _,_=>none
    | none=>none
   | .value f=>match bE f with | some x=>some (.callV x args) | none=>none
   | .invoke (.tmp n) nm=>some (.callV (.mt nm n) args)
   | .invoke _ _=>none
   | .builtin b=>match b,args,c.argTypes.toList with
    | .len,[x],[t]=>match P.underlying t with
     | some (.slice _)=>some (.len x)
     | _=>none
    | .max,args,_=>some (.mm true args)
    | .min,args,_=>some (.mm false args)
    | .append,[s,x],[t,t']=>match P.underlying t,P.underlying t' with
     | some (.slice e),some (.slice _)=>match P.info? e with
      | some i=>match i.zero with
       | some z=>match decide (t=t'),decide (z.cells.size=i.size),decide (0<i.size) with
        | true,true,true=>some (.app e i.size i.bytes z.cells.toList s x)
        | _,_,_=>none
       | none=>none
      | none=>none
     | _,_=>none
    | _,_,_=>none
 | _=>none
structure aA (L:Loc) (ρ:Env) (a:Act):Prop where
 eq:∀t,a.tmps.getD t undef=conc L (ρ t)
 own:∀t k off,ρ t=.own k off->∃g ty cs,L.get k=some (.box g ty cs)
 el:∀t ad j,ρ t=.el ad j->ad≠none
theorem aD {y:Operand}{x:X}(h:bE y=some x) {L:Loc}{ρ:Env}{a:Act}(b:aA L ρ a):a.eval y=val L ρ x:=by
 cases y<;>simp only[bE,vz,reduceCtorEq] at h<;>subst h
 ·exact b.eq _
 ·rfl
 ·rfl
theorem pE {y:Operand}{x:X}(h:bE y=some x) {L:Loc}{ρ:Env}{a:Act}(b:aA L ρ a) {k off:Nat}(e:ev ρ x=.own k off):∃g ty cs,L.get k=some (.box g ty cs):=by
 cases y<;>simp only[bE,vz,reduceCtorEq] at h<;>subst h
 ·exact b.own _ _ _ e
 ·cases e
 ·cases e
theorem qw {y:Operand}{x:X}(h:bE y=some x) {L:Loc}{ρ:Env}{a:Act}(c:aA L ρ a) {b:Option Addr}{j:Nat}(e:ev ρ x=.el b j):b≠none:=by
 cases y<;>simp only[bE,vz,reduceCtorEq] at h<;>subst h
 ·exact c.el _ _ _ e
 ·cases e
 ·cases e
theorem gk:∀{b:List Operand}{xs:List X},gh b=some xs->∀{L:Loc}{ρ:Env}{a:Act},aA L ρ a->b.map a.eval=aZ L ρ xs:=by
 intro b
 induction b with
 | nil=>intro xs h L ρ a c;simp only[gh,vz] at h;subst h;rfl
 | cons y b e =>
  intro xs h L ρ a c;simp only[gh] at h;split at h
  ·rename_i x f h1 d;injection h with h
   subst h;simp only[aaW,aZ,aD h1 c,e d c]
  ·cases h
def br (F:au) (L:Loc) (w:World) (a:Act) (K:dm) (a':Act) (w':World):Prop :=
 ∃F' L' ρ',St F' L' w'/\aA L' ρ' a'/\a'.tmps.size=a.tmps.size/\a'.defers=a.defers/\Step F L w F' L' w'/\K F' L' ρ'
theorem IQ (a:Act) (d:Option Nat) (v:Value) (b:∀k,d=some k->k<a.tmps.size) (t:Nat) :
  (a.put d v).tmps.getD t undef=match d with | some k=>if t=k then v else a.tmps.getD t undef | none=>a.tmps.getD t undef:=by
 cases d with
 | none=>rfl
 | some k =>
  have:=b k rfl;simp only[Act.put,aa4,Array.getElem?_setIfInBounds]
  by_cases h:t=k
  ·subst h;simp[this]
  ·rw[fL (by omega),fL h]
theorem put_eq (d:Option Nat) (x:SV) (ρ:Env) (t:Nat):put d x ρ t=match d with | some k=>if t=k then x else ρ t | none=>ρ t:=by
 cases d with
 | none=>rfl
 | some k =>
  simp only[put];cases h:Nat.beq t k with
  | true=>have:=aaO h;simp[this]
  | false=>have:=gb h;simp[this]
theorem aA.put {L L':Loc}{ρ:Env}{a:Act}(l:aA L ρ a) {d:Option Nat}{v:Value}{x:SV}(p:∀k,d=some k->k<a.tmps.size)
  (q:conc L' x=v) (u:∀k off,x=.own k off->∃g ty cs,L'.get k=some (.box g ty cs)) (s:∀f j,x=.el f j->f≠none)
  (n:∀k g ty cs,L.get k=some (.box g ty cs)->∃cs',L'.get k=some (.box g ty cs')):aA L' (put d x ρ) (a.put d v):=by
 have h:∀t,a.tmps.getD t undef=conc L' (ρ t):=by
  intro t;rw[l.eq t];cases e:ρ t with
  | v x=>rfl
  | el a j=>rfl
  | own k off =>
   obtain⟨g,ty,cs,m⟩:=l.own t k off e;obtain⟨cs',c⟩:=n k g ty cs m;simp only[conc,m,c]
 refine⟨fun t=>?_,fun t k off e=>?_,fun t f j e=>?_⟩
 ·rw[IQ a d v p,put_eq];cases d with
  | none=>exact h t
  | some k =>
   simp only[];split
   ·exact q.symm
   ·exact h t
 ·rw[put_eq] at e;have b:∀k off,ρ t=.own k off->∃g ty cs,L'.get k=some (.box g ty cs):=by
   intro k off e;obtain⟨g,ty,cs,m⟩:=l.own t k off e;obtain⟨cs',c⟩:=n k g ty cs m;exact⟨g,ty,cs',c⟩
  cases d with
  | none=>exact b k off e
  | some r =>
   simp only[] at e;split at e
   ·exact u k off e
   ·exact b k off e
 ·rw[put_eq] at e;cases d with
  | none=>exact l.el t f j e
  | some r =>
   simp only[] at e;split at e
   ·exact s f j e
   ·exact l.el t f j e
theorem jv (a:Act) (d:Option Nat) (v:Value):(a.put d v).tmps.size=a.tmps.size:=by cases d<;>simp[Act.put]
theorem gq (a:Act) (d:Option Nat) (v:Value):(a.put d v).defers=a.defers:=by cases d<;>rfl
section
variable {P:Program}{F:au}{L:Loc}{ρ:Env}{a:Act}{w:World}{K:dm}{o:Oper}{Q:Exit->Act->World->Prop}
theorem bT (l:St F L w) (d:aA L ρ a) (h:∀k,o.dst=some k->k<a.tmps.size) {v:Value}{x:SV}
  (p:(execOp a.eval o).run P w=.ok (.value v) w) (n:conc L x=v) (c:∀k off,x=.own k off->∃g ty cs,L.get k=some (.box g ty cs)) (m:∀b j,x=.el b j->b≠none)
  (f:K F L (put o.dst x ρ)):o.wp P a w (br F L w a K) Q:=by
 unfold Oper.wp;rw[p];exact⟨F,L,_,l,d.put h n c m (fun k g ty cs e=>⟨cs,e⟩),jv _ _ _,gq _ _ _,Step.refl _ _ _,f⟩
theorem jw (p:aA L ρ a) (d:∀k,o.dst=some k->k<a.tmps.size) {v:Value}{x:SV}{w':World}{F':au}{L':Loc}
  (m:(execOp a.eval o).run P w=.ok (.value v) w') (f:St F' L' w') (b:Step F L w F' L' w') (e:conc L' x=v) (n:∀k off,x=.own k off->∃g ty cs,L'.get k=some (.box g ty cs)) (l:∀c j,x=.el c j->c≠none)
  (q:∀k g ty cs,L.get k=some (.box g ty cs)->∃cs',L'.get k=some (.box g ty cs')) (h:K F' L' (put o.dst x ρ)):o.wp P a w (br F L w a K) Q:=by
 unfold Oper.wp;rw[m];exact⟨F',L',_,f,p.put d e n l q,jv _ _ _,gq _ _ _,b,h⟩
theorem CD (c:aA L ρ a) (f:∀k,o.dst=some k->k<a.tmps.size) {w':World}{F':au}{L':Loc}
  (l:(execOp a.eval o).run P w=.ok .skip w') (h:St F' L' w') (b:Step F L w F' L' w')
  (j:∀k g ty cs,L.get k=some (.box g ty cs)->∃cs',L'.get k=some (.box g ty cs')) (d:K F' L' (put o.dst (.v undef) ρ)):o.wp P a w (br F L w a K) Q:=by
 unfold Oper.wp;rw[l];exact⟨F',L',_,h,c.put f rfl (fun _ _ e=>by cases e) (fun _ _ e=>by cases e) j,jv _ _ _,gq _ _ _,b,d⟩
end
section
variable {P:Program}{F:au}{L:Loc}{ρ:Env}{a:Act}{w:World}{K:dm}{o:Oper}{Q:Exit->Act->World->Prop}
theorem cq {v:Value}{L:Loc}:∀k off,SV.v v=.own k off->∃g ty cs,L.get k=some (.box g ty cs):=fun _ _ e=>by cases e
theorem eI {v:Value}:∀b j,SV.v v=.el b j->b≠none:=fun _ _ e=>by cases e
theorem sL (L:Loc):∀k g ty cs,L.get k=some (.box g ty cs)->∃cs',L.get k=some (.box g ty cs'):=fun k g ty cs e=>⟨cs,e⟩
theorem cL {x:X}{v:Value}{L:Loc}{ρ:Env}(h:ev ρ x=.v v):val L ρ x=v:=by simp only[val,h,conc]
theorem IU {y:Operand}{x:X}(l:St F L w) (c:aA L ρ a) (h:∀k,o.dst=some k->k<a.tmps.size)
  (b:o.op=.move y\/o.op=.assign y) (d:bE y=some x) (f:evalOp P (.mov x) o.dst F L ρ K):o.wp P a w (br F L w a K) Q:=by
 refine bT l c h (v:=a.eval y) (x:=ev ρ x) ?_ (aD d c).symm (fun k off e=>pE d c e) (fun m j e=>qw d c e) f;rcases b with b | b<;>simp only[execOp,b]<;>rfl
theorem LK {c y z:Operand}{s l m:X}(r:St F L w) (b:aA L ρ a) (q:∀k,o.dst=some k->k<a.tmps.size)
  (t:o.op=.pick c y z) (u:bE c=some s) (n:bE y=some l) (f:bE z=some m) (d:evalOp P (.pick s l m) o.dst F L ρ K):o.wp P a w (br F L w a K) Q:=by
 have p:=aD u b;simp only[evalOp,aJ] at d;split at d
 ·rename_i h;refine bT r b q (v:=a.eval y) (x:=ev ρ l) ?_ (aD n b).symm (fun k off e=>pE n b e) (fun ad j e=>qw n b e) d;simp only[execOp,t,p,val,h,conc];simp[asBool]
 ·rename_i h;refine bT r b q (v:=a.eval z) (x:=ev ρ m) ?_ (aD f b).symm (fun k off e=>pE f b e) (fun ad j e=>qw f b e) d;simp only[execOp,t,p,val,h,conc];simp[asBool]
 ·exact d.elim
theorem gV (w:World) (o:Obj):(w.alloc o).heap[w.heap.size]?=some o:=heap_alloc_new w o
theorem sM {F:au}{L:Loc}{w:World}(c:St F L w):F w.heap.size=none/\¬L.owns w.heap.size:=by
 refine⟨?_,fun h=>?_⟩
 ·cases h:F w.heap.size with
  | none=>rfl
  | some _=>have:=c.aax (b:=w.heap.size) (by rw[h];simp);omega
 ·have:=c.aaA h;omega
theorem St.alloc (c:St F L w) (o:Obj):St F L (w.alloc o):=c.keep fun b hb=>Below.heap_alloc w o b hb
theorem lK (m:St F L w) {k:Nat}(n:L.get k=none) {ob:Obj}{e:Own}(hb:e.blk=some w.heap.size) (f:e.ok (w.alloc ob)) :
  St F (L.set k e) (w.alloc ob)/\Step F L w F (L.set k e) (w.alloc ob) /\
   (∀j g ty xs,L.get j=some (.box g ty xs)->∃cs',(L.set k e).get j=some (.box g ty cs')):=by
 obtain⟨h1,p⟩:=sM m;refine⟨(m.alloc _).put n f fun g c=>?_,?_,fun j g ty xs d=>?_⟩
 ·rw[hb] at c;injection c with c;subst c;exact⟨h1,p⟩
 ·refine Step.mk' (au.le_refl F) (World.grownBy_alloc w _ none) (fun b hb=>.inl hb) fun b q=>?_;rcases Loc.aan q with h | h
  ·rw[hb] at h;injection h with h;exact .inr (by omega)
  ·exact .inl h
 ·rw[Loc.aac];split
  ·rename_i l;subst l;rw[n] at d;cases d
  ·exact⟨xs,d⟩
theorem jW (d:St F L w) {k:Nat}(c:L.get k=none) {cs:Array Value}{t:TypeId}{e:Own}(hb:e.blk=some w.heap.size) (b:e.ok (w.alloc (.cells cs t))) :
  St F (L.set k e) (w.alloc (.cells cs t))/\Step F L w F (L.set k e) (w.alloc (.cells cs t)) /\
   (∀j g ty xs,L.get j=some (.box g ty xs)->∃cs',(L.set k e).get j=some (.box g ty cs')):=lK d c hb b
theorem P8 {y:Operand}{x:X}{t:TypeId}(m:St F L w) (h:aA L ρ a) (j:∀k,o.dst=some k->k<a.tmps.size)
  (p:o.op=.box t y) (q:bE y=some x) (d:t≠0) (c:evalOp P (.box t x) o.dst F L ρ K):o.wp P a w (br F L w a K) Q:=by
 simp only[evalOp,aJ] at c;split at c
 case h_2=>exact c.elim
 rename_i _ k f;split at c
 case h_2=>exact c.elim
 rename_i _ r;have c:=c w.heap.size;have b:(Value.cells (a.eval y)).toList=aM (val L ρ x):=by
  rw[aD q h];cases val L ρ x<;>rfl
 obtain⟨h1,l,n⟩:=jW m r (cs:=(a.eval y).cells) (t:=t) (e:=.box w.heap.size t (aM (val L ρ x))) rfl
  (by show _=_;rw[gV,jg d,<-b])
 refine jw h j (v:=.pointer (some ⟨w.heap.size,0,none⟩)) (x:=.own k 0) ?_ h1 l ?_ ?_ (fun _ _ e=>by cases e) n c
 ·simp[execOp,p,Instr.box,newVar,newRow]
 ·simp only[conc,Loc.aac,abj]
 ·rintro s off e;injection e with e1 e2
  subst e1;exact⟨_,_,_,by rw[Loc.aac,fo rfl]⟩
theorem IW {t:TypeId}{i:TypeInfo}{zs:List Value}(m:St F L w) (q:aA L ρ a) (j:∀k,o.dst=some k->k<a.tmps.size)
  (p:o.op=.alloc t) (hi:P.info? t=some i) (c:RX i=some zs) (f:t≠0) (b:evalOp P (.alloc t zs) o.dst F L ρ K):o.wp P a w (br F L w a K) Q:=by
 simp only[evalOp,aJ] at b;split at b
 case h_2=>exact b.elim
 rename_i _ k h;split at b
 case h_2=>exact b.elim
 rename_i _ r;have b:=b w.heap.size;unfold RX at c;split at c
 case h_2=>cases c
 rename_i z d;injection c with c
 obtain⟨h1,l,n⟩:=jW m r (cs:=z.cells) (t:=t) (e:=.box w.heap.size t zs) rfl
  (by show _=_;rw[gV,jg f,<-c])
 refine jw q j (v:=.pointer (some ⟨w.heap.size,0,none⟩)) (x:=.own k 0) ?_ h1 l ?_ ?_ (fun _ _ e=>by cases e) n b
 ·simp[execOp,p,Instr.alloc,zeroValue,typeInfo,hi,d,newVar,newRow]
 ·simp only[conc,Loc.aac,abj]
 ·rintro s off e;injection e with e1 e2
  subst e1;exact⟨_,_,_,by rw[Loc.aac,fo rfl]⟩
theorem vX {t:TypeId}{l:List Value}{n:Nat}(h:i9 t l n=true):t≠0:=by
 rintro rfl;simp[i9] at h
theorem Bd {t:TypeId}{l:List Value}{n:Nat}(h:i9 t l n=true):gQ l n=true:=by
 unfold i9 at h;split at h
 ·cases h
 ·exact h
theorem nZ {t:TypeId}{l:List Value}{n:Nat}(h:t≠0) (b:gQ l n=true):i9 t l n=true:=by
 unfold i9;split
 ·rename_i e;exact o5 (aaO e) h
 ·exact b
theorem jx:∀{l:List Value}{n:Nat},gQ l n=true->l.length=n
 | [],0,_=>rfl
 | _::l,n+1,h=>by simp only[gQ] at h;simp[jx h]
 | [],_+1,h=>by simp[gQ] at h
 | _::_,0,h=>by simp[gQ] at h
theorem n8 {cs b:List Value}{off:Nat}(h:off+b.length<=cs.length) (n:Nat) :
  (bO cs off b)[n]?=if n<off then cs[n]? else if n<off+b.length then b[n-off]? else cs[n]?:=by
 unfold bO;have d:(cs.take off).length=off:=by simp;omega
 by_cases h1:n<off
 ·rw[fo h1,abM,abB (by omega),List.getElem?_take_of_lt h1]
 ·rw[fL h1]
  by_cases c:n<off+b.length
  ·rw[fo c,abM,abC (by omega),abB (by omega),d]
  ·rw[fL c,abM,abC (by omega),abC (by omega),d,abw];congr 1;omega
theorem LL (b:List Value):∀(off j:Nat) (cells:Array Value),off+j+b.length<=cells.size ->
  ((b.zipIdx j).foldl (fun cs (c,j)=>cs.setIfInBounds (off+j) c) cells).toList=bO cells.toList (off+j) b:=by
 induction b with
 | nil=>intro off j cells h;simp[bO]
 | cons v b f =>
  intro off j cells h;simp only[List.zipIdx_cons,List.foldl_cons,aa7] at h ⊢;have:=f off (j+1) (cells.setIfInBounds (off+j) v) (by simp;omega);rw[this];apply abT;intro n;rw[n8 (by simp;omega),n8 (by simp;omega)];simp only[Array.toList_setIfInBounds,aa7]
  by_cases e:n=off+j
  ·subst e;rw[fo (by omega),fL (by omega),fo (by omega),abR (by simp;omega)];simp
  ·by_cases h1:n<off+j
   ·rw[fo (by omega),fo h1,abN (by omega)]
   ·by_cases d:n<off+(j+1)+b.length
    ·rw[fL (by omega),fo d,fL h1,fo (by omega),show n-(off+j)=(n-(off+(j+1)))+1 by omega,abk]
    ·rw[fL (by omega),fL d,fL h1,fL (by omega),abN (by omega)]
theorem CF (b:Array Value) (off:Nat) (cells:Array Value) (h:off+b.size<=cells.size) :
  (b.zipIdx.foldl (fun cs (x:Value×Nat)=>cs.setIfInBounds (off+x.2) x.1) cells).toList=bO cells.toList off b.toList:=by
 have:=LL b.toList off 0 cells (by simpa using h);rw[Nat.add_zero] at this;rw[<-this];congr 1;rw[<-Array.foldl_toList,Array.toList_zipIdx]
theorem kh (cs:List Value) (off:Nat) (b:List Value) (h:off+b.length<=cs.length):(bO cs off b).length=cs.length:=by
 simp[bO];omega
theorem mY (v:Value):aM v=v.cells.toList:=by cases v<;>rfl
theorem Ek (sz n:Nat):∀(b:List Value) (k:Nat) (cells:Array Value),cells.size=n*sz->k+b.length=n->(∀v∈b,v.cells.size=sz) ->
  ∃out,Instr.fill (fun i=>some (i*sz,sz)) cells ((List.range' k b.length).zip b)=some out /\
   out.toList=cells.toList.take (k*sz)++(b.map (fun v=>v.cells.toList)).flatten:=by
 intro b
 induction b with
 | nil =>
  intro k cells h1 e f;refine⟨cells,by simp[Instr.fill],?_⟩;simp at e ⊢;subst e;rw[abF (by simp;omega)]
 | cons v b l =>
  intro k cells h1 e f;have h:=f v (by simp);have p:k*sz+sz<=n*sz:=by
   rw[<-Nat.succ_mul];exact Nat.mul_le_mul_right _ (by simp at e;omega)
  simp only[aa7,List.range'_succ,List.zip_cons_cons,Instr.fill];rw[fL (by simp[h];omega)];have c:=CF v.cells (k*sz) cells (by omega);have d:(v.cells.zipIdx.foldl (fun cs (x:Value×Nat)=>cs.setIfInBounds (k*sz+x.2) x.1) cells).size=n*sz:=by
   rw[<-Array.length_toList,c,kh _ _ _ (by simp;omega)];simpa using h1
  obtain⟨out,r,q⟩:=l (k+1) _ d (by simp at e;omega) (fun u m=>f u (by simp[m]));refine⟨out,r,?_⟩;rw[q,c];simp only[bO,aaW,List.flatten_cons,<-abM];congr 1;rw[Nat.succ_mul];have j:v.cells.toList.length=sz:=by simpa using h
  apply abT;intro i
  by_cases t:i<k*sz
  ·rw[List.getElem?_take_of_lt (by omega),abM,abB (by simp;omega),abB (by simp;omega)]
  ·by_cases s:i<k*sz+sz
   ·rw[List.getElem?_take_of_lt (by omega),abM,abC (by simp;omega),abB (by simp;omega),abC (by simp;omega)]
   ·rw[abo (by simp;omega),abo (by simp;omega)]
end
section
variable {P:Program}{F:au}{L:Loc}{ρ:Env}{a:Act}{w:World}{K:dm}{o:Oper}{Q:Exit->Act->World->Prop}
theorem wF (L:Loc) (ρ:Env):∀xs:List X,cellsOf L ρ xs=((aZ L ρ xs).map fun v=>v.cells.toList).flatten
 | []=>rfl
 | x::xs=>by simp only[cellsOf,aZ,aaW,List.flatten_cons,wF L ρ xs,mY]
theorem zD {L:Loc}{ρ:Env}{sz:Nat}:∀{xs:List X},fQ L ρ sz xs=true->∀v∈aZ L ρ xs,v.cells.size=sz
 | [],_,v,b=>by cases b
 | x::xs,h,v,b=>by
  simp only[fQ] at h;split at h
  ·rename_i h1;simp only[aZ,aaT] at b;rcases b with rfl | b
   ·have:=jx h1;rw[mY] at this;simpa using this
   ·exact zD h v b
  ·cases h
theorem ld (L:Loc) (ρ:Env):∀xs:List X,(aZ L ρ xs).length=xs.length
 | []=>rfl
 | _::xs=>by simp[aZ,ld L ρ xs]
theorem pF {L:Loc}{ρ:Env}{sz:Nat}:∀{xs:List X},fQ L ρ sz xs=true->(cellsOf L ρ xs).length=xs.length*sz
 | [],_=>by simp[cellsOf]
 | x::xs,h=>by
  simp only[fQ] at h;split at h
  ·rename_i h1;have:=jx h1;simp only[cellsOf,abG,this,pF h,aa7,Nat.succ_mul];omega
  ·cases h
theorem El {ps:List (Nat×Operand)}{f:Operand->Value}{n:Nat}(h:ps.map (·.1)=List.range n) :
  ps.map (fun p=>(p.1,f p.2))=(List.range' 0 ps.length).zip ((ps.map (·.2)).map f):=by
 have b:ps.length=n:=by have:=vv List.length h;simpa using this
 rw[b,<-List.range_eq_range',<-h]
 clear h b
 induction ps with
 | nil=>rfl
 | cons p ps c=>simp[c]
theorem pG {t e n:Nat}{ps:Array (Nat×Operand)}{i:TypeInfo}{z:Value}{xs:List X}(v:P.underlying t=some (.slice e)) (hi:P.info? e=some i) (s:i.zero=some z)
  (hx:gh (ps.toList.map (·.2))=some xs) (q:ps.toList.map (·.1)=List.range n) (hb:n*i.size<=2 ^ 24) (y:fQ L ρ i.size xs=true) (he:aA L ρ a) :
  (Instr.buildSlice t n (ps.map fun(j,x)=>(j,a.eval x))).run P w=.ok (.slice (some ⟨w.heap.size,0,none⟩) n n) (w.alloc (.cells (cellsOf L ρ xs).toArray e))/\xs.length=n:=by
 have k:=gk hx he;have d:xs.length=n:=by
  have h1:=vv List.length k;have l:=vv List.length q;simp only[v5,ld,List.length_range] at h1 l;omega
 have p:ps.toList.length=n:=by have:=vv List.length q;simpa using this
 have b:(ps.map fun(x:Nat×Operand)=>(x.1,a.eval x.2)).toList=(List.range' 0 (aZ L ρ xs).length).zip (aZ L ρ xs):=by
  rw[Array.toList_map,El q,k,ld,d,p]
 have h:=fun(cells:Array Value) (u:cells.size=n*i.size)=>Ek i.size n (aZ L ρ xs) 0 cells u (by rw[ld];omega) (zD y);refine⟨?_,d⟩;have m:∀zero:Array Value,((Array.range (n*i.size)).map (zero[· % zero.size]!)).size=n*i.size:=fun _=>by simp
 obtain⟨out,h1,l⟩:=h ((Array.range (n*i.size)).map ((if n*i.size=0 then #[] else z.cells)[· % (if n*i.size=0 then #[] else z.cells).size]!)) (m _);have c:out=(cellsOf L ρ xs).toArray:=by
  apply Array.ext';rw[l,wF];simp
 have r:¬(n*i.size>2 ^ 24):=by omega
 unfold Instr.buildSlice;simp only[Sem.run_bind,run_underlying v,Result.andThen_ok,sizeOf,typeInfo,hi,run_program,Sem.run_pure,fL r,zeroValue,s]
 by_cases h0:n*i.size=0
 ·simp only[h0,abj] at h1 ⊢
  try simp only[Sem.run_pure,Result.andThen_ok]
  rw[b];have f:=h1;simp only[f,c,newRow,Sem.run_bind,run_newObj,Result.andThen_ok,Sem.run_pure];rfl
 ·simp only[h0,abP] at h1 ⊢;simp only[Sem.run_bind,hi,s,run_program,Sem.run_pure,Result.andThen_ok];rw[b];have f:=h1;simp only[f,c,newRow,Sem.run_bind,run_newObj,Result.andThen_ok,Sem.run_pure];rfl
theorem LN {t:TypeId}{y:Operand}{x:X}(f:St F L w) (n:aA L ρ a) (p:∀k,o.dst=some k->k<a.tmps.size)
  (q:o.op=.box t y) (r:bE y=some x) (m:evalOp P (.boxF t x) o.dst F L ρ K):o.wp P a w (br F L w a K) Q:=by
 simp only[evalOp] at m;have c:(a.eval y).cells=(aM (val L ρ x)).toArray:=by
  apply Array.ext';rw[aD r n];cases val L ρ x<;>rfl
 have d:=gV w (.cells (aM (val L ρ x)).toArray t);obtain⟨s,j⟩:=sM f;have l:=(f.alloc (.cells (aM (val L ρ x)).toArray t)).freeze d j;have e:=au.aav (f.alloc (.cells (aM (val L ρ x)).toArray t)) d;refine jw n p (v:=.pointer (some ⟨w.heap.size,0,none⟩)) (x:=.v (.pointer (some ⟨w.heap.size,0,none⟩))) ?_ l (Step.mk' e (World.grownBy_alloc w _ none) ?_ fun b h=>.inl h) rfl cq eI (sL L) (m w.heap.size _ e (by simp))
 ·simp[execOp,q,Instr.box,newVar,newRow,c]
 ·intro b hb
  by_cases h:b=w.heap.size
  ·exact .inr (.inr (by omega))
  ·simp only[fL h] at hb;exact .inl hb
theorem P9 {t e n:Nat}{ps:Array (Nat×Operand)}{i:TypeInfo}{z:Value}{xs:List X}(l:St F L w) (q:aA L ρ a) (s:∀k,o.dst=some k->k<a.tmps.size)
  (ho:o.op=.buildSlice t n ps) (y:P.underlying t=some (.slice e)) (hi:P.info? e=some i) (u:i.zero=some z)
  (hx:gh (ps.toList.map (·.2))=some xs) (hr:ps.toList.map (·.1)=List.range n) (hb:n*i.size<=2 ^ 24) (j:evalOp P (.mkF e n i.size xs) o.dst F L ρ K):o.wp P a w (br F L w a K) Q:=by
 simp only[evalOp,aJ] at j;split at j
 case h_2=>exact j.elim
 rename_i hp;obtain⟨d,r⟩:=pG (w:=w) y hi u hx hr hb hp q;have c:=gV w (.cells (cellsOf L ρ xs).toArray e);obtain⟨hf,m⟩:=sM l;have p:=(l.alloc (.cells (cellsOf L ρ xs).toArray e)).freeze c m;have f:=au.aav (l.alloc (.cells (cellsOf L ρ xs).toArray e)) c;refine jw q s (v:=.slice (some ⟨w.heap.size,0,none⟩) n n) (x:=.v (.slice (some ⟨w.heap.size,0,none⟩) n n)) ?_ p (Step.mk' f (World.grownBy_alloc w _ none) ?_ fun b h=>.inl h) rfl cq eI (sL L) (j w.heap.size _ f (by simp))
 ·simp only[execOp,ho,Sem.run_bind,d,Result.andThen_ok,Sem.run_pure]
 ·intro b hb
  by_cases h:b=w.heap.size
  ·exact .inr (.inr (by omega))
  ·simp only[fL h] at hb;exact .inl hb
theorem lf (w:World) (cs:List Value) (e:TypeId) (n sz:Nat) (c:n<=maxLen) (b:cs.length=n*sz) :
  (w.alloc (.cells cs.toArray e)).ownsRow 0 e sz (.slice (some ⟨w.heap.size,0,none⟩) n n) n cs :=
 ⟨b,.inr ⟨w.heap.size,n,cs.toArray,rfl,aa9 _,gV w _,aa0 _,c,by simpa using b,by simp[<-b]⟩⟩
theorem Qa {t e n:Nat}{ps:Array (Nat×Operand)}{i:TypeInfo}{z:Value}{xs:List X}(s:St F L w) (l:aA L ρ a) (m:∀k,o.dst=some k->k<a.tmps.size)
  (ho:o.op=.buildSlice t n ps) (r:P.underlying t=some (.slice e)) (hi:P.info? e=some i) (p:i.zero=some z)
  (hx:gh (ps.toList.map (·.2))=some xs) (y:ps.toList.map (·.1)=List.range n) (hb:n*i.size<=2 ^ 24) (hn:n<=2 ^ 24) (b:evalOp P (.mkR e n i.size xs) o.dst F L ρ K):o.wp P a w (br F L w a K) Q:=by
 simp only[evalOp,aJ] at b;split at b
 case h_2=>exact b.elim
 rename_i _ _ k h j;split at b
 case h_2=>exact b.elim
 rename_i _ hk;obtain⟨c,f⟩:=pG (w:=w) r hi p hx y hb h l;have d:=lf w (cellsOf L ρ xs) e n i.size (by simp only[maxLen];omega) (by rw[pF h,f]);obtain⟨h1,q,u⟩:=jW s hk (cs:=(cellsOf L ρ xs).toArray) (t:=e) (e:=.row (.slice (some ⟨w.heap.size,0,none⟩) n n) e i.size n (cellsOf L ρ xs)) rfl d;refine jw l m (v:=.slice (some ⟨w.heap.size,0,none⟩) n n) (x:=.v (.slice (some ⟨w.heap.size,0,none⟩) n n)) ?_ h1 q rfl cq eI u (b w.heap.size);simp only[execOp,ho,Sem.run_bind,c,Result.andThen_ok,Sem.run_pure]
def placeOf (P:Program) (f:Field):Nat×Nat:=(f.offset,P.cellsOf f.type)
def wG (f:Field):Sem (Nat×Nat):=do pure (f.offset,<-sizeOf f.type)
theorem y9 {v:Array Field}:∀{ps:List (Nat×Operand)}{l:List (Nat×Nat×X)},mX P v ps=some l->∀{cells:Array Value}{cs:List Value}(q:Array (Nat×Nat)),aA L ρ a ->
  (∀(j:Nat) (f:Field) (i:TypeInfo),v[j]?=some f->P.info? f.type=some i->q[j]?=some (f.offset,i.size)) ->
  built L ρ cells.toList l=some cs->(∀off n x,(off,n,x)∈l->off+n<=cells.size) ->
  ∃out,Instr.fill (q[·]?) cells (ps.map fun p=>(p.1,a.eval p.2))=some out/\out.toList=cs:=by
 intro ps
 induction ps with
 | nil =>
  intro l h cells cs q t k hb e;simp only[mX,vz] at h;subst h;simp only[built,vz] at hb;exact⟨cells,rfl,hb⟩
 | cons p ps ih =>
  intro l h cells cs q t k hb e;obtain⟨j,y⟩:=p;simp only[mX] at h;split at h
  case h_2=>cases h
  rename_i f x l' hf hx s;split at h
  case h_2=>cases h
  rename_i i hi;injection h with h
  subst h;simp only[built] at hb;split at hb
  case h_2=>cases hb
  rename_i b;have b:=jx b;have m:=e f.offset i.size x (by simp);have r:=aD hx t;simp only[aaW,Instr.fill,k j f i hf hi];have u:(a.eval y).cells.size=i.size:=by rw[r];rw[mY] at b;simpa using b
  rw[fL (by simp[u];omega)];have c:=CF (a.eval y).cells f.offset cells (by omega);have d:(a.eval y).cells.toList=aM (val L ρ x):=by rw[r,mY]
  rw[d] at c;refine ih s q t k (cs:=cs) ?_ ?_
  ·rw[c];exact hb
  ·intro off n z hm;rw[<-Array.length_toList,c,kh _ _ _ (by rw[b];simpa using m)];simpa using e off n z (by simp[hm])
theorem vK (P:Program) (w:World):∀(b:List Field),(∀f:Field,f∈b->(P.info? f.type).isSome=true) ->
  (b.mapM wG).run P w=.ok (b.map (placeOf P)) w:=by
 intro b
 induction b with
 | nil=>intro _;simp
 | cons f b c =>
  intro h;have h1:=h f (by simp);obtain⟨i,hi⟩:=Option.isSome_iff_exists.1 h1;simp only[List.mapM_cons,wG,Sem.run_bind,sizeOf,typeInfo,run_program,Result.andThen_ok,hi,Sem.run_pure];rw[c (fun g d=>h g (by simp[d]))];simp[placeOf,Program.cellsOf,hi]
theorem IX {t:Nat}{ps:Array (Nat×Operand)}{b:Array Field}{i:TypeInfo}{zs:List Value}{l:List (Nat×Nat×X)}(hs:St F L w) (he:aA L ρ a) (hd:∀k,o.dst=some k->k<a.tmps.size)
  (ho:o.op=.build t ps) (ht:P.underlying t=some (.struct b)) (hi:P.info? t=some i) (c:RX i=some zs) (hl:mX P b ps.toList=some l) (d:∀f:Field,f∈b.toList->(P.info? f.type).isSome=true)
  (q:∀off n x,(off,n,x)∈l->off+n<=zs.length) (m:evalOp P (.build zs l) o.dst F L ρ K):o.wp P a w (br F L w a K) Q:=by
 simp only[evalOp,aJ] at m;split at m
 case h_2=>exact m.elim
 rename_i cs r;unfold RX at c;split at c
 case h_2=>cases c
 rename_i z y;injection c with c
 have u:∀(j:Nat) (f:Field) (i:TypeInfo),b[j]?=some f->P.info? f.type=some i->(b.map (placeOf P))[j]?=some (f.offset,i.size):=by
  intro j f i h1 s;simp[h1,placeOf,Program.cellsOf,s]
 obtain⟨out,h1,s⟩:=y9 (a:=a) (cells:=z.cells) (cs:=cs) hl _ he u (by rw[c];exact r) (by intro off n x hm;have:=q off n x hm;rw[<-c] at this;simpa using this);have h:out=cs.toArray:=by apply Array.ext';simpa using s
 have e:(b.mapM wG).run P w=.ok (b.map (placeOf P)) w:=by
  rw[Array.mapM_eq_mapM_toList,Sem.run_map,vK P w _ d];simp only[Result.andThen_ok];congr 1;exact Array.ext' (by simp)
 refine bT hs he hd (v:=.agg cs.toArray) (x:=.v (.agg cs.toArray)) ?_ rfl cq eI m;simp only[execOp,ho,Instr.build,Sem.run_bind,zeroValue,typeInfo,run_program,Result.andThen_ok,hi,Sem.run_pure,y,run_underlying ht];rw[show(b.mapM fun(f:Field)=>(do pure (f.offset,<-sizeOf f.type):Sem (Nat×Nat))).run P w=.ok (b.map (placeOf P)) w from e];simp only[Result.andThen_ok];rw[show(ps.map fun(x:Nat×Operand)=>(x.1,a.eval x.2)).toList=ps.toList.map (fun p=>(p.1,a.eval p.2)) by simp,h1,h];simp
theorem zE {t:Nat}{d:TypeDesc}(b:P.underlying t=some d):(isAgg t).run P w=.ok (eK d) w:=by
 unfold isAgg;simp only[Sem.run_bind,run_underlying b,Result.andThen_ok];cases d<;>rfl
theorem n9 {t:Nat}{d:TypeDesc}{i:TypeInfo}(k:P.underlying t=some d) (hi:P.info? t=some i) {c:Addr}{cs:List Value}{n:Nat}
  (f:∀j v,cs[j]?=some v->w.cell? (c.add j)=some v) (b:cs.length=n) (e:n=match eK d with | true=>i.size | false=>1) :
  (Instr.loadAt t (.pointer (some c))).run P w=.ok (gT (eK d) cs) w:=by
 simp only[Instr.loadAt,Instr.sureAddr,Sem.run_bind,Sem.run_pure,Result.andThen_ok,loadVar,zE k];cases h:eK d with
 | true =>
  simp only[h] at e;simp only[abj,Sem.run_bind,sizeOf,typeInfo,run_program,Result.andThen_ok,hi,Sem.run_pure];rw[<-e,<-b,run_loadCells_list w c cs f];rfl
 | false =>
  simp only[h] at e;subst e
  match cs,b with
  | [v],_ =>
   have:=f 0 v (by simp);rw[show c.add 0=c by simp[Addr.add]] at this;simp[run_load,this,gT]
theorem pH {g:Nat}{t:TypeId}{cs:List Value}(b:t≠0) (h:Own.ok w (.box g t cs)) (n:Nat):w.cell? ⟨g,n,none⟩=cs[n]?:=by
 simp only[Own.ok,jg b] at h;simp[World.cell?,h]
theorem LP {t:Nat}{y:Operand}{x:X}{d:TypeDesc}{i:TypeInfo}{n:Nat}(hs:St F L w) (he:aA L ρ a) (hd:∀k,o.dst=some k->k<a.tmps.size)
  (ho:o.op=.load t y) (ht:P.underlying t=some d) (hi:P.info? t=some i) (hx:bE y=some x) (hn:n=match eK d with | true=>i.size | false=>1)
  (q:evalOp P (.load (eK d) n x) o.dst F L ρ K):o.wp P a w (br F L w a K) Q:=by
 have ec:=aD hx he;have aa:∀(l:Option Addr) (j:Nat),l≠none->(jV F L l j n fun cs=>K F L (put o.dst (.v (gT (eK d) cs)) ρ))->a.eval y=conc L (.el l j)->o.wp P a w (br F L w a K) Q:=by
  rintro l j bb ⟨cs,z,hc,q⟩ hy;cases l with
  | none=>exact o5 rfl bb
  | some l =>
   have f:∀i v,cs[i]?=some v->w.cell? ((l.add j).add i)=some v:=by
    rcases hc with hc | ⟨k,v,t',sz,m,xs,aw,c,hk,s,e2,hc⟩ | bc | ⟨k,g,t',bs,o',hk,ae,s,hc⟩
    ·obtain⟨aw,e,am,az⟩:=hc.cell hs;injection e with e
     subst e;intro i v hv;obtain⟨b,o',sp⟩:=l;simp only at am;subst am;rw[cU,cU,Nat.add_assoc,<-cU];exact az i v hv
    ·injection s with s
     subst s;have r:=hs.own k _ hk;simp only[Own.ok] at r;subst e2;intro i u hu;have hb:=hc i u hu;have h0:=World.ownsRow.cells r (g:=l.block) rfl (j+i) u hb;rcases r.2 with⟨e,_⟩ | ⟨g,cap,bo,e,_⟩
     ·cases e
     ·injection e with s e2 e3
      injection s with s
      subst s;rw[cU,cU];rw[cU] at h0;simpa[Nat.add_assoc] using h0
    ·intro i v hv;rw[bc] at z;have:cs=[]:=abE z;subst this;simp at hv
    ·injection s with s
     subst s;intro i u hu;rw[cU,cU,pH ae (hs.own k _ hk)];exact hc i u hu
   refine bT hs he hd (v:=gT (eK d) cs) (x:=.v (gT (eK d) cs)) ?_ rfl cq eI q;simp only[execOp,ho,hy,conc,Sem.run_bind,n9 ht hi f z hn,Result.andThen_ok,Sem.run_pure]
 simp only[evalOp,aJ] at q;split at q
 ·rename_i k off p;split at q
  case h_2=>exact q.elim
  rename_i g ty cs hk;split at q
  case h_2=>exact q.elim
  rename_i hl;have ae:=vX hl;have hl:=jx (Bd hl);have an:=hs.own k _ hk;have f:∀j v,((cs.drop off).take n)[j]?=some v->w.cell? ((⟨g,off,none⟩:Addr).add j)=some v:=by
   intro j v hv;rw[cU,pH ae an];have hj:j<n:=by
    have:=aaR.1 hv;obtain⟨h,_⟩:=this;omega
   rw[List.getElem?_take_of_lt hj,abw] at hv;exact hv
  refine bT hs he hd (v:=gT (eK d) ((cs.drop off).take n)) (x:=.v (gT (eK d) ((cs.drop off).take n))) ?_ rfl cq eI q;have hy:a.eval y=.pointer (some ⟨g,off,none⟩):=by rw[ec];simp only[val,p,conc,hk]
  simp only[execOp,ho,hy,Sem.run_bind,n9 ht hi f hl hn,Result.andThen_ok,Sem.run_pure]
 ·rename_i l j p;exact aa l j (qw hx he p) q (by rw[ec];simp only[val,p])
 ·rename_i l p;refine aa (some l) 0 (by simp) q ?_;rw[ec];simp only[val,p,conc];simp[Addr.add]
 ·exact q.elim
end
section
variable {P:Program}{F:au}{L:Loc}{ρ:Env}{a:Act}{w:World}{K:dm}{o:Oper}{Q:Exit->Act->World->Prop}
theorem zF {k b:IntKind}(h:pB k b=true):k=b:=by cases k<;>cases b<;>first | rfl | cases h
theorem rH {op:BinOp}{t:TypeId}{x y:Operand}{u v:Value}(h:∀c,u≠.agg c) (b:u≠.nilIface):(eqGuard op t x y u v).run P w=.ok () w:=by
 have key:(eqGuard op t x y u v).run P w=.ok () w\/True:=.inr trivial;unfold eqGuard;cases op<;>simp only[Bool.not_true,abY,abj,aa1,abP]<;>first
  | rfl
  | (cases u<;>first | rfl | exact o5 rfl (h _) | exact o5 rfl b)
theorem toList_data (s:ByteArray):s.toList=s.data.toList:=ByteArray.toList_eq s
theorem vY (x y:List UInt8):(x == y)=decide (x=y):=by rw[Bool.eq_iff_iff];simp
theorem Qb {t t':TypeId}{op:BinOp}{y z:Operand}{l r:X}(hs:St F L w) (he:aA L ρ a) (hd:∀k,o.dst=some k->k<a.tmps.size)
  (ho:o.op=.binOp op t y z t') (hy:bE y=some l) (hz:bE z=some r) (d:evalOp P (.bin op l r) o.dst F L ρ K):o.wp P a w (br F L w a K) Q:=by
 have ey:=aD hy he;have ez:=aD hz he;have fin:∀v,(binOp op t (val L ρ l) (val L ρ r)).run P w=.ok v w->(∀c,val L ρ l≠.agg c)->val L ρ l≠.nilIface->K F L (put o.dst (.v v) ρ)->o.wp P a w (br F L w a K) Q:=by
  intro v hr h1 h2 d;refine bT hs he hd (v:=v) (x:=.v v) ?_ rfl cq eI d;simp only[execOp,ho,ey,ez,Sem.run_bind,rH h1 h2,Result.andThen_ok,hr,Sem.run_pure]
 simp only[evalOp,aJ] at d;split at d
 ·rename_i k n k' m j h;have b:=cL (L:=L) j;have e:=cL (L:=L) h;split at d
  ·rename_i q;have p:op=.shl\/op=.shr:=by cases op<;>simp_all [IJ]
   have h1:(binOp op t (.int k n) (.int k' m)).run P w=(Op.shift op k n k' m).run P w:=by rcases p with rfl | rfl<;>rfl
   rcases p with rfl | rfl
   ·obtain⟨hm,⟨d⟩⟩:=d;refine fin _ ?_ (by rw[b];simp) (by rw[b];simp) d;rw[b,e,h1];simp[Op.shift,show¬m<0 by omega]
   ·obtain⟨hm,d⟩:=d;refine fin _ ?_ (by rw[b];simp) (by rw[b];simp) d;rw[b,e,h1];simp[Op.shift,show¬m<0 by omega]
  ·rename_i q;split at d
   case h_2=>exact d.elim
   rename_i hk;have hk:=zF hk;subst hk;cases op<;>simp only[binI] at d<;>first | (cases q;done) | skip
   ·obtain⟨d⟩:=d;exact fin _ (by rw[b,e];simp[binOp,Op.intArith]) (by rw[b];simp) (by rw[b];simp) d
   ·obtain⟨d⟩:=d;exact fin _ (by rw[b,e];simp[binOp,Op.intArith]) (by rw[b];simp) (by rw[b];simp) d
   ·obtain⟨d⟩:=d;exact fin _ (by rw[b,e];simp[binOp,Op.intArith]) (by rw[b];simp) (by rw[b];simp) d
   ·obtain⟨f,⟨d⟩⟩:=d;exact fin _ (by rw[b,e];simp[binOp,Op.intDiv,f]) (by rw[b];simp) (by rw[b];simp) d
   ·obtain⟨f,d⟩:=d;exact fin _ (by rw[b,e];simp[binOp,Op.intDiv,f]) (by rw[b];simp) (by rw[b];simp) d
   ·exact fin _ (by rw[b,e];simp[binOp,Op.intBits]) (by rw[b];simp) (by rw[b];simp) d
   ·exact fin _ (by rw[b,e];simp[binOp,Op.intBits]) (by rw[b];simp) (by rw[b];simp) d
   ·exact fin _ (by rw[b,e];simp[binOp,Op.intBits]) (by rw[b];simp) (by rw[b];simp) d
   ·exact fin _ (by rw[b,e];simp[binOp,Op.intBits]) (by rw[b];simp) (by rw[b];simp) d
   ·exact fin _ (by rw[b,e];simp[binOp,Op.intCmp];rfl) (by rw[b];simp) (by rw[b];simp) d
   ·exact fin _ (by rw[b,e];simp[binOp,Op.intCmp,bne];rfl) (by rw[b];simp) (by rw[b];simp) d
   ·exact fin _ (by rw[b,e];simp[binOp,Op.intCmp]) (by rw[b];simp) (by rw[b];simp) d
   ·exact fin _ (by rw[b,e];simp[binOp,Op.intCmp]) (by rw[b];simp) (by rw[b];simp) d
   ·exact fin _ (by rw[b,e];simp[binOp,Op.intCmp]) (by rw[b];simp) (by rw[b];simp) d
   ·exact fin _ (by rw[b,e];simp[binOp,Op.intCmp]) (by rw[b];simp) (by rw[b];simp) d
 ·rename_i s u j h;have b:=cL (L:=L) j;have e:=cL (L:=L) h;cases op<;>simp only[binS] at d<;>first | exact d.elim | skip
  ·obtain⟨av,d⟩:=d;refine fin _ ?_ (by rw[b];simp) (by rw[b];simp) d;rw[b,e];have:¬(((s.size+u.size:Nat):Int)>IntKind.i64.max):=by omega
   simp only[binOp,Op.stringOp,fL this];rfl
  ·exact fin _ (by rw[b,e];simp only[binOp,Op.stringOp,toList_data,vY];rfl) (by rw[b];simp) (by rw[b];simp) d
  ·exact fin _ (by rw[b,e];simp only[binOp,Op.stringOp,toList_data,vY];rfl) (by rw[b];simp) (by rw[b];simp) d
  ·exact fin _ (by rw[b,e];simp only[binOp,Op.stringOp,toList_data,vY];rfl) (by rw[b];simp) (by rw[b];simp) d
  ·exact fin _ (by rw[b,e];simp only[binOp,Op.stringOp,toList_data,vY];rfl) (by rw[b];simp) (by rw[b];simp) d
 ·exact d.elim
theorem IY {t t':TypeId}{neg:Bool}{y z:Operand}{l m:X}(hs:St F L w) (f:aA L ρ a) (hd:∀k,o.dst=some k->k<a.tmps.size)
  (s:o.op=.binOp (if neg then .neq else .eql) t y z t') (p:P.underlying t=some .bool) (hy:bE y=some l) (hz:bE z=some m) (d:evalOp P (.eqB neg l m) o.dst F L ρ K):o.wp P a w (br F L w a K) Q:=by
 have n:=aD hy f;have r:=aD hz f;simp only[evalOp,aJ] at d;split at d
 case h_2=>exact d.elim
 rename_i b c h e;have q:=cL (L:=L) h;have j:=cL (L:=L) e;refine bT hs f hd (v:=.bool (rF neg (decide (b=c)))) (x:=.v (.bool (rF neg (decide (b=c))))) ?_ rfl cq eI d;have u:∀op:BinOp,(eqGuard op t y z (.bool b) (.bool c)).run P w=.ok () w:=fun op=>rH (by simp) (by simp);have hb:(b == c)=decide (b=c):=by cases b<;>cases c<;>rfl
 cases neg
 ·simp only[execOp,s,n,r,q,j,Sem.run_bind,u,Result.andThen_ok];have:=run_eql_bool (P:=P) w t b c p;rw[hb] at this;simp[this,rF]
 ·simp only[execOp,s,n,r,q,j,Sem.run_bind,u,Result.andThen_ok];have:=run_neq_bool (P:=P) w t b c p;rw[hb] at this;simp[this,rF]
theorem Qc {t e:TypeId}(h:P.underlying t=some (.slice e)) (p:Option Addr) (n c f b:Nat):(Op.equal t (.slice p n c) (.slice none f b)).run P w=.ok p.isNone w:=by
 have key:∀d:Nat,(Op.equalIn (d+1) t (.slice p n c) (.slice none f b)).run P w=.ok p.isNone w:=fun d=>by
  cases p<;>simp[Op.equalIn,run_underlying h]
 exact key 9999
theorem IZ {t t':TypeId}{neg:Bool}{y z:Operand}{h j:X}(hs:St F L w) (d:aA L ρ a) (hd:∀k,o.dst=some k->k<a.tmps.size)
  (ho:o.op=.binOp (if neg then .neq else .eql) t y z t') (hy:bE y=some h) (hz:bE z=some j)
  (u v:Value) (b:Bool) (e:val L ρ h=u) (f:val L ρ j=v) (h1:∀c,u≠.agg c) (h2:u≠.nilIface) (q:∀k n,u≠.int k n) (h4:∀s,u≠.string s) (l:∀k n,u≠.float k n) (h6:∀k n m,u≠.complex k n m)
  (hr:(Op.equal t u v).run P w=.ok b w) (hK:K F L (put o.dst (.v (.bool (rF neg b))) ρ)):o.wp P a w (br F L w a K) Q:=by
 have p:=aD hy d;have r:=aD hz d;refine bT hs d hd (v:=.bool (rF neg b)) (x:=.v (.bool (rF neg b))) ?_ rfl cq eI hK;have hg:∀op:BinOp,(eqGuard op t y z u v).run P w=.ok () w:=fun op=>rH h1 h2;cases neg
 ·simp only[execOp,ho,p,r,e,f,Sem.run_bind,hg,Result.andThen_ok];have:binOp .eql t u v=(do pure (.bool (<-Op.equal t u v)):Sem Value):=by
   cases u<;>first | rfl | exact o5 rfl (q _ _) | exact o5 rfl (h4 _) | exact o5 rfl (l _ _) | exact o5 rfl (h6 _ _ _)
  simp[this,hr,rF]
 ·simp only[execOp,ho,p,r,e,f,Sem.run_bind,hg,Result.andThen_ok];have:binOp .neq t u v=(do pure (.bool (!(<-Op.equal t u v))):Sem Value):=by
   cases u<;>first | rfl | exact o5 rfl (q _ _) | exact o5 rfl (h4 _) | exact o5 rfl (l _ _) | exact o5 rfl (h6 _ _ _)
  simp[this,hr,rF]
theorem I0 {t t' e:TypeId}{neg:Bool}{y z:Operand}{h j:X}(r:St F L w) (he:aA L ρ a) (l:∀k,o.dst=some k->k<a.tmps.size)
  (x:o.op=.binOp (if neg then .neq else .eql) t y z t') (q:P.underlying t=some (.slice e)) (s:bE y=some h) (m:bE z=some j) (b:evalOp P (.eqS neg h j) o.dst F L ρ K):o.wp P a w (br F L w a K) Q:=by
 simp only[evalOp,aJ] at b;split at b
 ·rename_i p n c v u f d;exact IZ r he l x s m (.slice p n c) (.slice none v u) p.isNone (cL f) (cL d) (by simp) (by simp) (by simp) (by simp) (by simp) (by simp) (Qc q _ _ _ _ _) b
 ·exact b.elim
theorem GY {z:Operand}{b:X}(h:bE z=some b) (k:wE b=true):z=.const .nilIface:=by
 unfold wE at k;split at k
 ·cases z with
  | const v=>simp only[bE,vz,X.c.injEq] at h;rw[h]
  | tmp n=>cases h
  | func f=>cases h
  | global g=>cases h
 ·cases k
theorem Em {t:TypeId}{b:Array (String×TypeId)}(h:P.underlying t=some (.interface b)):(Op.equal t .nilIface .nilIface).run P w=.ok true w:=by
 have key:∀d:Nat,(Op.equalIn (d+1) t .nilIface .nilIface).run P w=.ok true w:=fun d=>by
  simp[Op.equalIn,run_underlying h]
 exact key 9999
theorem Qd {t ty:TypeId}{b:Array (String×TypeId)}{u:Value}(h:P.underlying t=some (.interface b)):(Op.equal t (.iface ty u) .nilIface).run P w=.ok false w:=by
 have key:∀d:Nat,(Op.equalIn (d+1) t (.iface ty u) .nilIface).run P w=.ok false w:=fun d=>by
  simp[Op.equalIn,run_underlying h]
 exact key 9999
theorem I3 {t t':TypeId}{ms:Array (String×TypeId)}{neg:Bool}{y z:Operand}{e f:X}(r:St F L w) (l:aA L ρ a) (m:∀k,o.dst=some k->k<a.tmps.size)
  (j:o.op=.binOp (if neg then .neq else .eql) t y z t') (q:P.underlying t=some (.interface ms)) (s:bE y=some e) (d:bE z=some f) (hn:wE f=true) (c:evalOp P (.eqN neg e) o.dst F L ρ K):o.wp P a w (br F L w a K) Q:=by
 have p:=aD s l;obtain rfl:=GY d hn;simp only[evalOp,aJ] at c;split at c
 ·rename_i b;have n:val L ρ e=.nilIface:=cL b;refine bT r l m (v:=.bool (rF neg true)) (x:=.v (.bool (rF neg true))) ?_ rfl cq eI c;have hg:∀op:BinOp,(eqGuard op t y (.const .nilIface) .nilIface .nilIface).run P w=.ok () w:=fun op=>by
   cases op<;>simp[eqGuard]
  have ez:a.eval (.const .nilIface)=.nilIface:=rfl;have hr:=Em (P:=P) (w:=w) q;cases neg
  ·simp only[execOp,j,p,ez,n,Sem.run_bind,hg,Result.andThen_ok];have:binOp .eql t .nilIface .nilIface=(do pure (.bool (<-Op.equal t .nilIface .nilIface)):Sem Value):=rfl;simp[this,hr,rF]
  ·simp only[execOp,j,p,ez,n,Sem.run_bind,hg,Result.andThen_ok];have:binOp .neq t .nilIface .nilIface=(do pure (.bool (!(<-Op.equal t .nilIface .nilIface))):Sem Value):=rfl;simp[this,hr,rF]
 ·rename_i ty u b;have h:val L ρ f=.nilIface:=by
   simp only[bE,vz] at d;rw[<-d];rfl
  exact IZ r l m j s d (.iface ty u) .nilIface false (cL b) h (by simp) (by simp) (by simp) (by simp) (by simp) (by simp) (Qd q) c
 ·exact c.elim
theorem CG {l c:List Value}{b r:Bool}(h:iO [] l c b=some r):l=[]/\c=[]/\r=b:=by
 cases l with
 | cons v l=>simp[iO] at h
 | nil =>
  cases c with
  | cons v l=>simp[iO] at h
  | nil=>simp only[iO,vz] at h;exact⟨rfl,rfl,h.symm⟩
theorem zG {ks:List Bool}{l c:List Value}{d r:Bool}(h:iO (true::ks) l c d=some r):∃k a f b e,l=.int k a::f/\c=.int k b::e/\iO ks f e (d&&decide (a=b))=some r:=by
 cases l with
 | nil=>simp[iO] at h
 | cons v l =>
  cases c with
  | nil=>cases v<;>simp[iO] at h
  | cons j c =>
   cases v<;>cases j<;>try (simp[iO] at h;done)
   rename_i k a n b;simp only[iO] at h;split at h
   ·rename_i m;have:=zF m;subst this;exact⟨k,a,l,b,c,rfl,rfl,h⟩
   ·cases h
theorem wH {ks:List Bool}{l c:List Value}{d r:Bool}(h:iO (false::ks) l c d=some r):∃a f b e,l=.bool a::f/\c=.bool b::e/\iO ks f e (d&&decide (a=b))=some r:=by
 cases l with
 | nil=>simp[iO] at h
 | cons v l =>
  cases c with
  | nil=>cases v<;>simp[iO] at h
  | cons j c =>
   cases v<;>cases j<;>try (simp[iO] at h;done)
   rename_i a b;simp only[iO] at h;exact⟨a,l,b,c,rfl,rfl,h⟩
theorem CH (k:IntKind):pB k k=true:=by cases k<;>rfl
theorem I4:∀{ks:List Bool}{l f:List Value}{d r:Bool},iO ks l f d=some r->∃e,(∀c,iO ks l f c=some (c&&e))/\r=(d&&e):=by
 intro ks
 induction ks with
 | nil =>
  intro l f d r h;obtain⟨rfl,rfl,rfl⟩:=CG h;exact⟨true,fun c=>by simp[iO],by simp⟩
 | cons k ks n =>
  intro l f d r h;cases k with
  | true =>
   obtain⟨k,a,q,b,p,rfl,rfl,m⟩:=zG h;obtain⟨e,h1,j⟩:=n m;exact⟨decide (a=b)&&e,fun c=>by simp only[iO,CH,h1,Bool.and_assoc],by rw[j,Bool.and_assoc]⟩
  | false =>
   obtain⟨a,q,b,p,rfl,rfl,m⟩:=wH h;obtain⟨e,h1,j⟩:=n m;exact⟨decide (a=b)&&e,fun c=>by simp only[iO,h1,Bool.and_assoc],by rw[j,Bool.and_assoc]⟩
theorem wI {t:TypeId}{d:TypeDesc}(c:P.underlying t=some d) (b:eK d=false) {cs:Array Value}{off:Nat}{v:Value}(h:cs[off]?=some v):(part t cs off).run P w=.ok v w:=by
 simp only[part,Sem.run_bind,zE c,Result.andThen_ok,b,aa1,abP,h,Sem.run_pure]
theorem sN {d:Nat}{xs ys:Array Value}:∀{fs:List Field}{k:Nat}{ks:List Bool}{b:Bool},nY P fs k=some ks->iO ks (xs.toList.drop k) (ys.toList.drop k) true=some b->(Op.eqFields (d+1) xs ys fs).run P w=.ok b w
 | [],k,ks,b,h,he=>by
  simp only[nY,vz] at h;subst h;obtain⟨_,_,rfl⟩:=CG he;simp[Op.eqFields]
 | f::fs,k,ks,b,h,he=>by
  have hcons:∀{zs:Array Value}{v:Value}{l:List Value},zs.toList.drop k=v::l->zs[k]?=some v/\zs.toList.drop (k+1)=l:=by
   intro zs v l e;refine⟨?_,?_⟩
   ·have:=vv (fun q=>q[0]?) e;simp only[abw,Nat.add_zero,aa3] at this;simpa using this
   ·rw[<-List.drop_drop,e];rfl
  have fin:∀{u v:Value}{l l':List Value}{ks':List Bool}{r:Bool}{dd:TypeDesc},P.underlying f.type=some dd->eK dd=false->f.offset=k->f.name≠"_"->xs.toList.drop k=u::l->ys.toList.drop k=v::l'->(Op.equalIn (d+1) f.type u v).run P w=.ok r w ->
    nY P fs (k+1)=some ks'->iO ks' l l' r=some b->(Op.eqFields (d+1) xs ys (f::fs)).run P w=.ok b w:=by
   intro u v l l' ks' r dd hu hag ho hnm e1 e2 heq hfl hev;obtain⟨a1,a2⟩:=hcons e1;obtain⟨b1,b2⟩:=hcons e2;simp only[Op.eqFields];rw[fo hnm];simp only[Sem.run_bind,ho,wI hu hag a1,wI hu hag b1,Result.andThen_ok,heq];obtain⟨r0,q1,q2⟩:=I4 hev;cases r with
   | false =>
    simp only[aaV] at q2;subst q2;simp
   | true =>
    simp only[aaS] at q2;subst q2;simp only[Bool.not_true,aa1,abP];exact sN hfl (by rw[a2,b2];simpa using q1 true)
  simp only[nY] at h;split at h
  ·rename_i ki hoff hnm hu;split at h
   case h_2=>cases h
   rename_i ks' hks;injection h with h
   subst h;have hoff:=aaO hoff;have hnm:=abK hnm;obtain⟨k1,x,l1,y,l2,e1,e2,he⟩:=zG he;exact fin hu rfl hoff hnm e1 e2 (run_equalIn_int w d f.type k1 _ x y hu) hks (by rw[show(x == y)=decide (x=y) from rfl];simpa using he)
  ·rename_i hoff hnm hu;split at h
   case h_2=>cases h
   rename_i ks' hks;injection h with h
   subst h;have hoff:=aaO hoff;have hnm:=abK hnm;obtain⟨x,l1,y,l2,e1,e2,he⟩:=wH he;have hb:(x == y)=decide (x=y):=by cases x<;>cases y<;>rfl
   exact fin hu rfl hoff hnm e1 e2 (run_equalIn_bool' w d f.type x y hu) hks (by rw[hb];simpa using he)
  ·cases h
theorem I5 {t t':TypeId}{h:Array Field}{neg:Bool}{ks:List Bool}{y z:Operand}{p q:X}(hs:St F L w) (l:aA L ρ a) (hd:∀k,o.dst=some k->k<a.tmps.size)
  (ho:o.op=.binOp (if neg then .neq else .eql) t y z t') (s:P.underlying t=some (.struct h)) (hk:nY P h.toList 0=some ks) (hp:P.stoodInHeld t=false) (hg:P.eqGuardType P.depth t=false) (hy:bE y=some p) (hz:bE z=some q)
  (c:evalOp P (.eqA neg ks p q) o.dst F L ρ K):o.wp P a w (br F L w a K) Q:=by
 have r:=aD hy l;have ez:=aD hz l;simp only[evalOp,aJ] at c;split at c
 case h_2=>exact c.elim
 rename_i cs ds m j;split at c
 case h_2=>exact c.elim
 rename_i b hb;have u:=cL (L:=L) m;have n:=cL (L:=L) j;have e:P.fieldsOf t=h:=by simp only[Program.fieldsOf,s]
 have f:(Op.equalIn 10000 t (.agg cs) (.agg ds)).run P w=.ok b w:=by
  rw[show(10000:Nat)=9999+1 from rfl,run_equalIn_agg w 9999 t cs ds (by rw[e];exact s) hp,e];exact sN (d:=9998) hk (by simpa using hb)
 refine bT hs l hd (v:=.bool (rF neg b)) (x:=.v (.bool (rF neg b))) ?_ rfl cq eI c;cases neg
 ·simp only[execOp,ho,r,ez,u,n,Sem.run_bind,run_eqGuard_agg w _ t y z cs ds hg,Result.andThen_ok];simp[run_eql_struct,f,rF]
 ·simp only[execOp,ho,r,ez,u,n,Sem.run_bind,run_eqGuard_agg w _ t y z cs ds hg,Result.andThen_ok];simp[run_neq_struct,f,rF]
end
section
variable {P:Program}{F:au}{L:Loc}{ρ:Env}{a:Act}{w:World}{K:dm}{o:Oper}{Q:Exit->Act->World->Prop}
theorem R8 {t:TypeId}{op:UnOp}{y:Operand}{m:X}(l:St F L w) (e:aA L ρ a) (h:∀k,o.dst=some k->k<a.tmps.size)
  (f:o.op=.unOp op t y) (p:bE y=some m) (d:evalOp P (.un op m) o.dst F L ρ K):o.wp P a w (br F L w a K) Q:=by
 have j:=aD p e;simp only[evalOp,aJ] at d;split at d
 ·rename_i b c;refine bT l e h (v:=.bool (!b)) (x:=.v (.bool (!b))) ?_ rfl cq eI d;simp[execOp,f,j,cL c,Op.unary]
 ·rename_i k n c;obtain⟨d⟩:=d;refine bT l e h (v:=.int k (k.wrap (0-n))) (x:=.v (.int k (k.wrap (0-n)))) ?_ rfl cq eI d;simp[execOp,f,j,cL c,Op.unary,Op.intArith]
 ·rename_i k n c;refine bT l e h ?_ rfl cq eI d;simp[execOp,f,j,cL c,Op.unary,Op.intBits];rfl
 ·exact d.elim
theorem LQ {s t:TypeId}{k k0:IntKind}{y:Operand}{d:X}(m:St F L w) (e:aA L ρ a) (j:∀k,o.dst=some k->k<a.tmps.size)
  (f:o.op=.convert s t y) (h1:P.underlying s=some (.int k0)) (h:P.underlying t=some (.int k)) (p:bE y=some d) (b:evalOp P (.conv k d) o.dst F L ρ K):o.wp P a w (br F L w a K) Q:=by
 have l:=aD p e;simp only[evalOp,aJ] at b;split at b
 ·rename_i k1 n c;obtain⟨b⟩:=b;refine bT m e j (v:=.int k (k.wrap n)) (x:=.v (.int k (k.wrap n))) ?_ rfl cq eI b;simp[execOp,f,l,cL c,convert,run_underlying h1,run_underlying h,Conv.intToInt]
 ·exact b.elim
theorem LR {f:FuncId}{h d:Array Operand}{c b:List X}(q:St F L w) (e:aA L ρ a) (p:∀k,o.dst=some k->k<a.tmps.size)
  (j:o.op=.makeFunc (.func f) h d) (h1:gh h.toList=some c) (l:gh d.toList=some b) (m:evalOp P (.mkfn f c b) o.dst F L ρ K):o.wp P a w (br F L w a K) Q:=by
 have n:h.map a.eval=(aZ L ρ c).toArray:=by apply Array.ext';simpa using gk h1 e
 have r:d.map a.eval=(aZ L ρ b).toArray:=by apply Array.ext';simpa using gk l e
 refine bT q e p ?_ rfl cq eI m;simp[execOp,j,Instr.makeFunc,n,r];rfl
theorem LS {i:Nat}{y:Operand}{d:X}(l:St F L w) (e:aA L ρ a) (h:∀k,o.dst=some k->k<a.tmps.size)
  (f:o.op=.extract y i) (m:bE y=some d) (b:evalOp P (.extr d i) o.dst F L ρ K):o.wp P a w (br F L w a K) Q:=by
 have j:=aD m e;simp only[evalOp,aJ] at b;split at b
 case h_2=>exact b.elim
 rename_i n c;split at b
 case h_2=>exact b.elim
 rename_i v p;refine bT l e h (v:=v) (x:=.v v) ?_ rfl cq eI b;have:n[i]?=some v:=by simpa using p
 simp[execOp,f,j,cL c,Instr.extract,this]
theorem GZ {t f:Nat}{y:Operand}{r:X}{fs:Array Field}{h:Field}{i:TypeInfo}(s:St F L w) (n:aA L ρ a) (q:∀k,o.dst=some k->k<a.tmps.size)
  (ho:o.op=.fieldAddr t y f) (ht:P.underlying t=some (.struct fs)) (hf:fs[f]?=some h) (hi:P.info? h.type=some i) (l:i.size≠0) (u:bE y=some r)
  (m:evalOp P (.fieldA h.offset r) o.dst F L ρ K):o.wp P a w (br F L w a K) Q:=by
 have ey:=aD u n;have run:∀d:Addr,val L ρ r=.pointer (some d)->(execOp a.eval o).run P w=.ok (.value (.pointer (some (d.add h.offset)))) w:=by
  intro d hv;simp[execOp,ho,ey,hv,Instr.fieldAt,run_underlying ht,hf,Instr.sureAddr,fieldPlace,sizeOf,typeInfo,hi,l]
 simp only[evalOp,aJ] at m;split at m
 ·rename_i k off c;obtain⟨g,ty,cs,z⟩:=pE u n c;refine bT s n q (v:=.pointer (some ⟨g,off+h.offset,none⟩)) (x:=.own k (off+h.offset)) ?_ (by simp only[conc,z]) (fun k' ab e=>by injection e with e1 e2;subst e1;exact⟨g,ty,cs,z⟩) (fun _ _ e=>by cases e) m;rw[run ⟨g,off,none⟩ (by simp only[val,c,conc,z]),cU]
 ·rename_i d j c;have l:=qw u n c;cases d with
  | none=>exact o5 rfl l
  | some d =>
   refine bT s n q (v:=.pointer (some (d.add (j+h.offset)))) (x:=.el (some d) (j+h.offset)) ?_ rfl (fun _ _ e=>by cases e) (fun p j' e=>by injection e with e1 e2;subst e1;simp) m;rw[run (d.add j) (by simp only[val,c,conc])];congr 4;obtain⟨b,o',sp⟩:=d;unfold Addr.add
   by_cases h1:j=0<;>by_cases h2:h.offset=0<;>simp[h1,h2,Nat.add_assoc]
 ·rename_i d c;refine bT s n q (v:=.pointer (some (d.add h.offset))) (x:=.el (some d) h.offset) ?_ rfl (fun _ _ e=>by cases e) (fun p j' e=>by injection e with e1 e2;subst e1;simp) m;rw[run d (cL c)]
 ·exact m.elim
theorem LV {t e:TypeId}{y z:Operand}{p q:X}{i:TypeInfo}(hs:St F L w) (l:aA L ρ a) (s:∀k,o.dst=some k->k<a.tmps.size)
  (ho:o.op=.indexAddr t y z) (ht:P.underlying t=some (.slice e)) (hi:P.info? e=some i) (hy:bE y=some p) (u:bE z=some q)
  (b:evalOp P (.idxA i.size p q) o.dst F L ρ K):o.wp P a w (br F L w a K) Q:=by
 have ey:=aD hy l;have ez:=aD u l;simp only[evalOp,aJ] at b;split at b
 case h_2=>exact b.elim
 rename_i d n c k j m h;obtain⟨f,h1,h2,b⟩:=b;cases d with
 | none=>exact o5 rfl f
 | some d =>
  refine bT hs l s (v:=.pointer (some (d.add (j.toNat*i.size)))) (x:=.el (some d) (j.toNat*i.size)) ?_ rfl (fun _ _ e=>by cases e) (fun r j' e=>by injection e with e1 e2;subst e1;simp) b;simp[execOp,ho,ey,ez,cL m,cL h,Instr.indexAt,asIntOf,run_underlying ht,h1,h2,sizeOf,typeInfo,hi]
theorem Qe {t e:TypeId}{y:Operand}{h:X}{c:Call}(s:St F L w) (j:aA L ρ a) (l:∀k,o.dst=some k->k<a.tmps.size)
  (z:o.op=.call c) (p:c.callee=.builtin .len) (m:c.args=#[y]) (d:c.argTypes=#[t]) (r:P.underlying t=some (.slice e)) (u:bE y=some h)
  (b:evalOp P (.len h) o.dst F L ρ K):o.wp P a w (br F L w a K) Q:=by
 have q:=aD u j;simp only[evalOp,aJ] at b;split at b
 ·rename_i ad n cp f;refine bT s j l (v:=.int .i64 n) (x:=.v (.int .i64 n)) ?_ rfl cq eI b;simp[execOp,z,resolve,p,m,d,invoke,builtin,Builtin.len_,q,cL f,run_underlying r,goInt]
 ·exact b.elim
theorem I6 {L:Loc}{ρ:Env}:∀{xs:List X},aZ L ρ xs=(xs.map (ev ρ)).map (conc L)
 | []=>rfl
 | _::xs=>by simp[aZ,val,I6 (xs:=xs)]
theorem Qf (mx:Bool) (k:IntKind):∀(l:List SV) (a0 m:Int),O5 mx a0 l=some m ->
  ((l.map (conc L)).foldlM (if mx then Builtin.max2 else Builtin.min2) (.int k a0)).run P w=.ok (.int k m) w:=by
 intro l
 induction l with
 | nil=>intro a0 m h;simp only[O5,vz] at h;subst h;rfl
 | cons x l d =>
  intro a0 m h;unfold O5 at h;split at h
  ·rename_i c;cases c
  ·rename_i e b f c;injection c with h1 h2
   subst h1 h2;have:=d _ _ h;cases mx
   ·simp only[aaW,List.foldlM_cons,conc,Sem.run_bind];simp only[aa1,abP] at this ⊢;simp only[Builtin.min2,Sem.run_pure,Result.andThen_ok];exact this
   ·simp only[aaW,List.foldlM_cons,conc,Sem.run_bind];simp only[abj] at this ⊢;simp only[Builtin.max2,Sem.run_pure,Result.andThen_ok];exact this
  ·cases h
theorem O7 {mx:Bool}{c:Call}{xs:List X}(r:St F L w) (j:aA L ρ a) (n:∀k,o.dst=some k->k<a.tmps.size)
  (h:o.op=.call c) (e:c.callee=.builtin (if mx then .max else .min)) (s:gh c.args.toList=some xs)
  (d:evalOp P (.mm mx xs) o.dst F L ρ K):o.wp P a w (br F L w a K) Q:=by
 have b:=gk s j;rw[I6] at b;simp only[evalOp,aJ] at d;split at d
 case h_2=>exact d.elim
 rename_i k a0 l p;split at d
 case h_2=>exact d.elim
 rename_i m q;rw[p] at b;have f:=Qf (P:=P) (L:=L) (w:=w) mx k l a0 m q;refine bT r j n (v:=.int k m) (x:=.v (.int k m)) ?_ rfl cq eI d;cases mx
 ·simp only[aa1,abP] at e f;simp only[execOp,h,resolve,e,invoke,builtin,Builtin.min_,Sem.run_bind,Sem.run_pure,Result.andThen_ok,Array.toList_map,b,aaW,conc,f]
 ·simp only[abj] at e f;simp only[execOp,h,resolve,e,invoke,builtin,Builtin.max_,Sem.run_bind,Sem.run_pure,Result.andThen_ok,Array.toList_map,b,aaW,conc,f]
theorem LW {t:TypeId}{d:TypeDesc}{y:Operand}{l:X}(p:St F L w) (f:aA L ρ a) (h:∀k,o.dst=some k->k<a.tmps.size)
  (r:o.op=.makeInterface t y) (n:P.underlying t=some d) (e:∀u,d≠.interface u) (s:bE y=some l) (c:evalOp P (.mkif t l) o.dst F L ρ K):o.wp P a w (br F L w a K) Q:=by
 have m:=aD s f;simp only[evalOp,aJ] at c;split at c
 ·rename_i v b;refine bT p f h (v:=.iface t v) (x:=.v (.iface t v)) ?_ rfl cq eI c;simp only[execOp,r,m,cL b,Instr.makeInterface];simp only[Sem.run_bind,Sem.run_map,run_underlying n,Result.andThen_ok];cases d<;>first | exact o5 rfl (e _) | simp
 ·rename_i q j b;refine bT p f h (v:=.iface t (.pointer (some (q.add j)))) (x:=.v (.iface t (.pointer (some (q.add j))))) ?_ rfl cq eI c;simp only[execOp,r,m,val,b,conc,Instr.makeInterface];simp only[Sem.run_bind,Sem.run_map,run_underlying n,Result.andThen_ok];cases d<;>first | exact o5 rfl (e _) | simp
 ·exact c.elim
theorem Qg {t s:TypeId}{d:TypeDesc}{i:TypeInfo}{z:Value}{y:Operand}{r:X}(n:St F L w) (h:aA L ρ a) (j:∀k,o.dst=some k->k<a.tmps.size)
  (p:o.op=.typeAssert y s t true) (m:P.underlying t=some d) (f:∀ms,d≠.interface ms) (hi:P.info? t=some i) (q:i.zero=some z) (hy:bE y=some r) (c:evalOp P (.tas t z r) o.dst F L ρ K):o.wp P a w (br F L w a K) Q:=by
 have l:=aD hy h;simp only[evalOp,aJ] at c;split at c
 ·rename_i b;refine bT n h j (v:=.tuple #[z,.bool false]) (x:=.v (.tuple #[z,.bool false])) ?_ rfl cq eI c;simp only[execOp,p,l,cL b,Instr.typeAssert];simp only[Sem.run_bind,Sem.run_map,run_underlying m,Result.andThen_ok];cases d<;>first | exact o5 rfl (f _) | simp[zeroValue,typeInfo,hi,q]
 ·rename_i t' u b;split at c
  ·rename_i hb;have hb:=aaO hb;refine bT n h j (v:=.tuple #[u,.bool true]) (x:=.v (.tuple #[u,.bool true])) ?_ rfl cq eI c;simp only[execOp,p,l,cL b,Instr.typeAssert];simp only[Sem.run_bind,Sem.run_map,run_underlying m,Result.andThen_ok];cases d<;>first | exact o5 rfl (f _) | simp[hb]
  ·rename_i hb;have hb:t'≠t:=fun e=>by rw[e,Nat.beq_refl] at hb;cases hb
   refine bT n h j (v:=.tuple #[z,.bool false]) (x:=.v (.tuple #[z,.bool false])) ?_ rfl cq eI c;simp only[execOp,p,l,cL b,Instr.typeAssert];simp only[Sem.run_bind,Sem.run_map,run_underlying m,Result.andThen_ok];cases d<;>first | exact o5 rfl (f _) | simp[zeroValue,typeInfo,hi,q,hb]
 ·exact c.elim
theorem Fz:∀{l:List (TypeId×String)}{t:TypeId}{b:String},R6 l t b=true->(t,b)∈l
 | [],_,_,h=>by cases h
 | (t,b)::l,e,d,h=>by
  simp only[R6] at h;split at h
  ·rename_i h1 c;rw[<-aaO h1,<-abt c];exact List.mem_cons_self ..
  ·exact abf _ (Fz h)
theorem zH {t:TypeId}{l:String}{f:FuncId}(h:sI P t l=some f):∃i m b d,P.info? t=some i/\i.methods.find? (·.name == l)=some m/\m.path.toList=[]/\m.func=some (f,b)/\P.underlying t=some d /\
  ((∃e,d=.pointer e/\b=true)\/((∀e,d≠.pointer e)/\b=false)):=by
 simp only[sI] at h;split at h
 case h_2=>cases h
 rename_i i hi;split at h
 case h_2=>cases h
 rename_i m n;split at h
 case h_2=>cases h
 rename_i r b p k;split at h
 ·rename_i e j;injection h with h;subst h
  exact⟨i,m,_,_,hi,n,p,k,j,.inl ⟨_,rfl,rfl⟩⟩
 ·cases h
 ·rename_i d c j;injection h with h;subst h
  exact⟨i,m,_,_,hi,n,p,k,j,.inr ⟨fun e q=>c e q,rfl⟩⟩
 ·cases h
theorem zI (P:Program):∃n,P.types.size+Made.depth=n+1:=⟨P.types.size+99,by simp[Made.depth]⟩
theorem G3 {t:TypeId}{c:String}{f:FuncId}(h:sI P t c=some f) (v:Value) (w:World):(method (P.types.size+Made.depth) t v c).run P w=.ok (f,v) w:=by
 obtain⟨i,m,r,d,h1,k,p,q,l,b⟩:=zH h;obtain⟨n,j⟩:=zI P;rw[j];simp only[method,Sem.run_bind,typeInfo,run_program,Result.andThen_ok,h1,Sem.run_pure,k,p,follow,q,receiverAt,run_underlying l];rcases b with⟨e,rfl,rfl⟩ | ⟨b,rfl⟩
 ·simp only[Place.get,Sem.run_pure,Result.andThen_ok]
 ·cases d<;>first | exact o5 rfl (b _) | simp only[Place.get,Sem.run_pure,Result.andThen_ok]
theorem G5 {t:TypeId}{c:String}{f:FuncId}(h:sI P t c=some f) (v:Value) (w:World):(nilAhead (P.types.size+Made.depth) t v c).run P w=.ok (some false) w:=by
 obtain⟨i,m,r,d,h1,k,p,q,l,b⟩:=zH h;obtain⟨n,j⟩:=zI P;rw[j];simp only[nilAhead,Sem.run_bind,typeInfo,run_program,Result.andThen_ok,h1,Sem.run_pure,k,p,followBlind,q];rcases b with⟨e,rfl,rfl⟩ | ⟨b,rfl⟩
 ·rfl
 ·simp only[Sem.run_bind,run_underlying l,Result.andThen_ok];cases d<;>first | exact o5 rfl (b _) | rfl
theorem LX {t:TypeId}{b:String}{e d:Array Operand}(p:St F L w) (h:aA L ρ a) (n:∀k,o.dst=some k->k<a.tmps.size)
  (f:o.op=.makeFunc (.methodOf t b) e d) (h1:e.toList=[]) (j:d.toList=[]) (l:evalOp P (.mov (.c (.func (.methodOf t b) #[] #[]))) o.dst F L ρ K):o.wp P a w (br F L w a K) Q:=by
 have m:e=#[]:=by apply Array.ext';exact h1
 have q:d=#[]:=by apply Array.ext';exact j
 refine bT p h n (v:=.func (.methodOf t b) #[] #[]) (x:=.v (.func (.methodOf t b) #[] #[])) ?_ rfl cq eI l;simp[execOp,f,Instr.makeFunc,m,q]
theorem CI {t:TypeId}{g k:Nat}{d:TypeDesc}{i:TypeInfo}(h:St F L w) (z:aA L ρ a) (m:∀k,o.dst=some k->k<a.tmps.size)
  (y:o.op=.load t (.global g)) (q:P.underlying t=some d) (hi:P.info? t=some i) (c:eK d=false) (hg:vV g=some k) (e:evalOp P (.gload g) o.dst F L ρ K):o.wp P a w (br F L w a K) Q:=by
 simp only[evalOp,aJ] at e;obtain⟨v,ty,fr,s,e⟩:=e;have p:=h.frz _ _ s;refine bT h z m (v:=v) (x:=.v v) ?_ rfl cq eI e;have r:a.eval (.global g)=.pointer (some ⟨g,0,none⟩):=rfl;have b:∀(j:Nat) (u:Value),[v][j]?=some u->w.cell? ((⟨g,0,none⟩:Addr).add j)=some u:=by
  intro j u f;cases j with
  | zero =>
   simp only[aa3,vz] at f;subst f;rw[cU];simp[World.cell?,p]
  | succ j=>simp at f
 have l:=n9 q hi b (n:=1) rfl (by rw[c]);rw[c] at l;simp only[execOp,y,r,Sem.run_bind,l,Result.andThen_ok,Sem.run_pure,gT]
theorem I7 {y:Operand}{y':X}(q:St F L w) (h:aA L ρ a) (m:∀k,o.dst=some k->k<a.tmps.size)
  (z:o.op=.nilCheck y) (hy:bE y=some y') (r:O1 P=true) (c:evalOp P (.nilck y') o.dst F L ρ K):o.wp P a w (br F L w a K) Q:=by
 have n:=aD hy h;simp only[evalOp,aJ] at c;split at c
 ·rename_i k off b;obtain⟨g,ty,cs,hg⟩:=pE hy h b;refine bT q h m (v:=.pointer (some ⟨g,off,none⟩)) (x:=.own k off) ?_ (by simp only[conc,hg]) (fun k' am e=>by injection e with e1 e2;subst e1;exact⟨g,ty,cs,hg⟩) (fun _ _ e=>by cases e) c;simp[execOp,z,n,val,b,conc,hg]
 ·rename_i d j b;obtain⟨ab,c⟩:=c;cases d with
  | none=>exact o5 rfl ab
  | some d =>
   refine bT q h m (v:=.pointer (some (d.add j))) (x:=.el (some d) j) ?_ rfl (fun _ _ e=>by cases e) (fun an j' e=>by injection e with e1 e2;subst e1;simp) c;simp[execOp,z,n,val,b,conc]
 ·rename_i d b;refine bT q h m (v:=.pointer (some d)) (x:=.v (.pointer (some d))) ?_ rfl cq eI c;simp[execOp,z,n,cL b]
 ·rename_i f l s b;refine bT q h m (v:=.func (.func f) l s) (x:=.v (.func (.func f) l s)) ?_ rfl cq eI c;simp[execOp,z,n,cL b]
 ·rename_i nm l s b;split at c
  case h_2=>exact c.elim
  rename_i t u aa;obtain⟨hm,c⟩:=c;have h1:=aaY.1 r _ (Fz hm);obtain⟨f,hf⟩:=Option.isSome_iff_exists.1 h1;have p:l[0]?=some (.iface t u):=by rw[<-Array.getElem?_toList,aa];rfl
  refine bT q h m (v:=.func (.method nm) l s) (x:=.v (.func (.method nm) l s)) ?_ rfl cq eI c;have hn:=G5 (P:=P) hf u w;simp only[execOp,z,n,cL b,p,Sem.run_bind,run_program,Result.andThen_ok,Sem.run_pure,hn];rfl
 ·exact c.elim
theorem CJ:∀{l:List Value},jQ l=true->∀u∈l,u.oneCell'=true
 | [],_,u,b=>by cases b
 | v::l,h,u,b=>by
  simp only[jQ] at h;split at h
  ·rename_i h1;rcases aaT.1 b with rfl | b
   ·exact h1
   ·exact CJ h u b
  ·cases h
theorem CK {t:TypeId}{i:TypeInfo}(hi:P.info? t=some i) {g off:Nat}{v:Value}{b:Array Value}{ty:TypeId}(f:w.heap[g]?=some (.cells b ty (0,0)))
  (e:v.cells.size=i.size) (c:off+v.cells.size<=b.size) (h1:∀u∈v.cells.toList,u.oneCell'=true) :
  (Instr.storeAt t (.pointer (some ⟨g,off,none⟩)) v).run P w=.ok () (w.setRow g (bO b.toList off v.cells.toList).toArray):=by
 have d:=run_storeCells_at P g off ty v.cells.toList 0 b w f (by simpa using c) h1;simp only[Nat.add_zero] at d;simp only[Instr.storeAt,Instr.sureAddr,storeVar,Sem.run_bind,Sem.run_pure,Result.andThen_ok,sizeOf,typeInfo,run_program,hi];rw[fL (by omega)];rw[d];rfl
theorem sO (w:World) (g:Nat) (cs:Array Value):w.grownBy (w.setRow g cs) (some g) :=
 ⟨rfl,rfl,rfl,by simp[World.setRow],fun k _ b=>setRow_other w g k cs (fun e=>b (by rw[e]))⟩
theorem I8 {t:TypeId}{y z:Operand}{y' z':X}{i:TypeInfo}(hs:St F L w) (he:aA L ρ a) (hd:∀k,o.dst=some k->k<a.tmps.size)
  (ho:o.op=.store t y z) (hi:P.info? t=some i) (cd:i.size≠0) (hy:bE y=some y') (hz:bE z=some z')
  (p:evalOp P (.store i.size y' z') o.dst F L ρ K):o.wp P a w (br F L w a K) Q:=by
 have ey:=aD hy he;have ez:=aD hz he;have ar:aM (val L ρ z')=(a.eval z).cells.toList:=by rw[ez,mY]
 have turn:∀(k:Nat) (g:Nat) (oo o':Own) (f:Array Value) (ty:TypeId) (off:Nat),L.get k=some oo->oo.blk=some g->o'.blk=some g->w.heap[g]?=some (.cells f ty (0,0)) ->
   (a.eval z).cells.size=i.size->off+(a.eval z).cells.size<=f.size->(∀u∈(a.eval z).cells.toList,u.oneCell'=true)->a.eval y=.pointer (some ⟨g,off,none⟩) ->
   o'.ok (w.setRow g (bO f.toList off (a.eval z).cells.toList).toArray)->(∀g' ty' cs',oo=.box g' ty' cs'->∃ae,o'=.box g' ty' ae) ->
   K F (L.set k o') (put o.dst (.v undef) ρ)->o.wp P a w (br F L w a K) Q:=by
  intro k g oo o' f ty off hk hb be hg bd d h1 an bs s p;have q:=sO w g (bO f.toList off (a.eval z).cells.toList).toArray;have bz:St F (L.set k o') (w.setRow g (bO f.toList off (a.eval z).cells.toList).toArray) :=
   hs.turn hk bs (fun b av bc=>q.block b av (fun e=>bc (by rw[hb,e]))) (fun g' ba=>.inl (by rw[hb];rw[be] at ba;exact ba))
  refine CD he hd (w':=w.setRow g (bO f.toList off (a.eval z).cells.toList).toArray) ?_ bz ?_ ?_ p
  ·simp[execOp,ho,an,CK hi hg bd d h1]
  ·refine⟨au.le_refl F,rfl,rfl,rfl,q.size,fun b av hn=>q.block b av (fun e=>hn ⟨k,oo,hk,by rw[hb,e]⟩),fun b h=>.inl h,fun b h=>?_⟩;rcases Loc.aan h with h | h
   ·rw[be] at h;exact .inl ⟨k,oo,hk,by rw[hb];exact h⟩
   ·exact .inl h
  ·intro j g' ty' cs' e;rw[Loc.aac];split
   ·rename_i hj;subst hj;rw[hk] at e;injection e with e
    obtain⟨ae,h⟩:=s g' ty' cs' e;exact⟨ae,by rw[h]⟩
   ·exact⟨cs',e⟩
 have l:∀(ad:Option Addr) (j:Nat),ad≠none->a.eval y=conc L (.el ad j)->gQ (aM (val L ρ z')) i.size=true->jQ (aM (val L ρ z'))=true ->
   (qu L ad j (aM (val L ρ z')) fun L'=>K F L' (put o.dst (.v undef) ρ))->o.wp P a w (br F L w a K) Q:=by
  rintro ad j bc an x h1 ⟨k,v,ty,sz,m,xs,ce,c,hk,rfl,rfl,d,bj,p⟩;have x:=jx x;rw[ar] at x bj d p;have ao:(a.eval z).cells.size=i.size:=by simpa using x
  have r:=hs.own k _ hk;simp only[Own.ok] at r;obtain⟨hx,r⟩:=r;rcases r with⟨e,_⟩ | ⟨g,cap,f,e,bo,hg,bi,bp,ag,ab⟩
  ·cases e
  ·injection e with e1 e2 e3
   injection e1 with e1
   subst e1 e3;have cm:m*sz<=f.size:=by rw[ag];exact Nat.mul_le_mul_right _ bi
   rw[<-ab] at d;have am:j+(a.eval z).cells.size<=m*sz:=by simp at d;omega
   refine turn k g _ (.row (.slice (some ⟨g,0,none⟩) m c) ty sz m (bO xs j (a.eval z).cells.toList)) f ty j hk rfl rfl hg ao (by omega) bj (by rw[an];simp only[conc];rw[cU];simp) ?_ (fun g' ty' cs' e=>by cases e) p;refine⟨?_,.inr ⟨g,c,_,rfl,bo,setRow_heap w g f _ ty _ hg,bi,bp,?_,?_⟩⟩
   ·rw[kh _ _ _ (by rw[hx];simpa using am)];exact hx
   ·have:(bO f.toList j (a.eval z).cells.toList).length=f.size:=by rw[kh _ _ _ (by simp;omega)];simp
    simp[this,ag]
   ·rw[List.toList_toArray,<-ab];apply abT;intro n;have bu:j+(a.eval z).cells.toList.length<=f.toList.length:=by simp;omega
    rw[n8 (by simp;omega)]
    by_cases hn:n<m*sz
    ·rw[List.getElem?_take_of_lt hn,n8 bu,List.getElem?_take_of_lt hn]
    ·rw[abo (by simp;omega)];have h1:¬n<j:=by omega
     have h2:¬n<j+(a.eval z).cells.toList.length:=by simp;omega
     rw[fL h1,fL h2,abo (by simp;omega)]
 simp only[evalOp,aJ] at p;split at p
 ·rename_i x h1 aa;rename_i k off;have x:=jx x;have h1:=CJ h1;rw[ar] at x h1;split at p
  case h_2=>exact p.elim
  rename_i g ty cs hk;split at p
  case h_2=>exact p.elim
  rename_i d;have bb:=vX d;have d:=jx (Bd d);have s:w.heap[g]?=some (.cells cs.toArray ty (0,0)):=by rw[<-jg bb];exact hs.own k _ hk
  have bt:off+i.size<=cs.length:=by simp at d;omega
  rw[ar] at p;have ao:(a.eval z).cells.size=i.size:=by simpa using x
  refine turn k g _ (.box g ty (bO cs off (a.eval z).cells.toList)) cs.toArray ty off hk rfl rfl s ao (by simp;omega) h1 (by rw[ey];simp only[val,aa,conc,hk]) ?_ (fun g' ty' cs' e=>by injection e with e1 e2 e3;subst e1 e2;exact⟨_,rfl⟩) p;show _=_;rw[jg bb];exact setRow_heap w g cs.toArray _ ty _ s
 ·rename_i x h1 aa;exact l _ _ (qw hy he aa) (by rw[ey];simp only[val,aa]) x h1 p
 ·rename_i x h1 aa;rename_i ad;refine l (some ad) 0 (by simp) (by rw[ey];simp only[val,aa,conc];simp[Addr.add]) x h1 p
 ·exact p.elim
end
section
variable {P:Program}(w:World)
end
section
variable {P:Program}{F:au}{L:Loc}{ρ:Env}{a:Act}{w:World}{K:dm}{o:Oper}{Q:Exit->Act->World->Prop}
theorem zJ {b:Option Operand}{c:Option X}(h:sK b=some c) (f:aA L ρ a) {d i:Int}(hi:mV ρ d c=some i) :
  (b=none/\i=d)\/∃y k,b=some y/\a.eval y=.int k i:=by
 cases b with
 | none=>simp only[sK,vz] at h;subst h;simp only[mV,vz] at hi;exact .inl ⟨rfl,hi.symm⟩
 | some y =>
  simp only[sK] at h;split at h
  case h_2=>cases h
  rename_i x l;injection h with h
  subst h;simp only[mV] at hi;split at hi
  case h_2=>cases hi
  rename_i k j e;injection hi with hi
  subst hi;exact .inr ⟨y,k,rfl,by rw[aD l f,cL e]⟩
theorem jy {k:IntKind}{i:Int}{y:Nat}{code:BoundsCode}(h0:0<=i) (h1:i<=y):(Instr.sliceBound (.int k i) y code).run P w=.ok i.toNat w:=by
 simp[Instr.sliceBound,asIntOf,h0,h1]
theorem vL {b:Bool}{n c:Nat}{lo hi:Option Operand}{d e:Option X}{l h:Int}(t:sK lo=some d) (q:sK hi=some e) (p:aA L ρ a)
  (el:mV ρ 0 d=some l) (s:mV ρ n e=some h) (h1:0<=l) (r:l<=h) (j:h<=c) :
  (Instr.sliceBounds b n c (lo.map a.eval) (hi.map a.eval) none).run P w=.ok (l.toNat,h.toNat,c) w:=by
 unfold Instr.sliceBounds;rcases zJ t p el with⟨rfl,rfl⟩ | ⟨y,k,rfl,f⟩<;>rcases zJ q p s with⟨rfl,rfl⟩ | ⟨z,v,rfl,m⟩
 ·simp
 ·simp[m,jy (P:=P) (w:=w) (show 0<=h by omega) j]
 ·simp[f,jy (P:=P) (w:=w) h1 r]
 ·have u:l<=(h.toNat:Nat):=by omega
  simp[f,m,jy (P:=P) (w:=w) (show 0<=h by omega) j,jy (P:=P) (w:=w) h1 u]
theorem Qh {t e:TypeId}{y:Operand}{lo up:Option Operand}{q:X}{f j:Option X}{i:TypeInfo}(hs:St F L w) (m:aA L ρ a) (s:∀k,o.dst=some k->k<a.tmps.size)
  (ho:o.op=.slice t y lo up none) (ht:P.underlying t=some (.slice e)) (hi:P.info? e=some i) (hy:bE y=some q) (hl:sK lo=some f) (u:sK up=some j)
  (d:evalOp P (.slc i.size q f j) o.dst F L ρ K):o.wp P a w (br F L w a K) Q:=by
 have ey:=aD hy m;simp only[evalOp,aJ] at d;split at d
 case h_2=>exact d.elim
 rename_i r n c p;split at d
 case h_2=>exact d.elim
 rename_i l h el eh;obtain⟨h1,z,h3,d⟩:=d;refine bT hs m s (v:=rG r c l.toNat h.toNat i.size) (x:=.v (rG r c l.toNat h.toNat i.size)) ?_ rfl cq eI d;have hb:=vL (P:=P) (w:=w) (b:=true) hl u m el eh h1 z h3;simp[execOp,ho,ey,cL p,Instr.sliceAt,Instr.slice,run_underlying ht,hb,sizeOf,typeInfo,hi,rG]
theorem wJ (z:Array Value) (n:Nat) (p:0<z.size):(madeCells z (n*z.size)).toList=(List.replicate n z.toList).flatten:=by
 induction n with
 | zero=>simp[madeCells]
 | succ n h =>
  rw[List.replicate_succ',List.flatten_append,<-h];apply abT;intro j;have k:(madeCells z (n*z.size)).toList.length=n*z.size:=by simp[madeCells]
  have b:∀m j,j<m->(madeCells z m).toList[j]?=some (z[j % z.size]!):=by
   intro m j d;simp[madeCells,d]
  have f:(n+1)*z.size=n*z.size+z.size:=Nat.succ_mul _ _
  by_cases h1:j<n*z.size
  ·rw[abB (by omega),b _ _ (by omega),b _ _ h1]
  ·rw[abC (by omega),k]
   by_cases e:j<(n+1)*z.size
   ·rw[b _ _ e];have c:j-n*z.size<z.size:=by omega
    have l:j % z.size=j-n*z.size:=by
     have:j=(j-n*z.size)+z.size*n:=by rw[Nat.mul_comm z.size n];omega
     rw[this,Nat.add_mul_mod_self_left,Nat.mod_eq_of_lt c,Nat.mul_comm z.size n];omega
    simp[c,l]
   ·rw[abo (by simp[madeCells];omega),abo (by simp;omega)]
theorem I9 {t e:TypeId}{y z:Operand}{y' z':X}{i:TypeInfo}{b:Value}(hs:St F L w) (he:aA L ρ a) (hd:∀k,o.dst=some k->k<a.tmps.size)
  (ho:o.op=.makeSlice t y z) (ht:P.underlying t=some (.slice e)) (hi:P.info? e=some i) (ag:i.zero=some b) (u:b.cells.size=i.size) (ao:0<i.size) (hy:bE y=some y') (hz:bE z=some z')
  (c:evalOp P (.makeS e i.size i.bytes b.cells.toList y' z') o.dst F L ρ K):o.wp P a w (br F L w a K) Q:=by
 have ey:=aD hy he;have ez:=aD hz he;simp only[evalOp,aJ] at c;split at c
 case h_2=>exact c.elim
 rename_i k1 n k2 m k al ac ar;split at c
 case h_2=>exact c.elim
 rename_i _ hk;obtain⟨h0,p,hb,l,c⟩:=c;have c:=c w.heap.size;obtain⟨r,rfl⟩:=Int.eq_ofNat_of_zero_le h0;obtain⟨q,rfl⟩:=Int.eq_ofNat_of_zero_le (Int.le_trans h0 p);simp only[Int.toNat_natCast] at hb l c;have ab:r<=q:=by omega
 have j:(i.bytes:Int)*(q:Int)<=281474976710656:=by
  have h:((i.bytes*q:Nat):Int)<=281474976710656:=by rw[Nat.mul_comm];omega
  rwa [Int.natCast_mul] at h
 have aa:(q:Int)<=9223372036854775807:=by
  have h:=l;simp[maxLen] at h;omega
 have hr:=run_make (P:=P) w t e i b ht hi ag k1 k2 r q (by omega) p j aa;simp only[Int.toNat_natCast] at hr;have f:=wJ b.cells q (by omega);rw[u] at f;have d:∀m:Nat,(List.replicate m b.cells.toList).flatten.length=m*i.size:=by
  intro m;simp[u]
 have ad:(List.replicate r b.cells.toList).flatten=(List.replicate q b.cells.toList).flatten.take (r*i.size):=by
  have e1:q=r+(q-r):=by omega
  conv=>rhs;rw[e1]
  rw[<-List.replicate_append_replicate,List.flatten_append,List.take_append_of_le_length (by rw[d];exact aa0 _),abF (by rw[d];exact aa0 _)]
 have s:(w.alloc (.cells (madeCells b.cells (q*i.size)) e)).ownsRow 0 e i.size (.slice (some ⟨w.heap.size,0,none⟩) r q) r (List.replicate r b.cells.toList).flatten:=by
  refine⟨d r,.inr ⟨w.heap.size,q,madeCells b.cells (q*i.size),rfl,aa9 _,gV w _,ab,l,size_madeCells _ _,?_⟩⟩;rw[ad,<-f]
 obtain⟨h1,h2,h3⟩:=jW hs hk (cs:=madeCells b.cells (q*i.size)) (t:=e) (e:=.row (.slice (some ⟨w.heap.size,0,none⟩) r q) e i.size r (List.replicate r b.cells.toList).flatten) rfl s;refine jw he hd (v:=.slice (some ⟨w.heap.size,0,none⟩) r q) (x:=.v (.slice (some ⟨w.heap.size,0,none⟩) r q)) ?_ h1 h2 rfl cq eI h3 c;simp only[execOp,ho,ey,ez,cL al,cL ac,Sem.run_bind,hr,Result.andThen_ok,Sem.run_pure]
theorem Ja (x:St F L w) {k:Nat}{e:TypeId}{sz n t:Nat}{s v:Value}{xs f:List Value}{w':World}
  (l:L.get k=some (.row s e sz n xs)\/(L.get k=none/\s=.slice none 0 0)) (m:w'.ownsRow 0 e sz v t f) (d:w.grownBy w' s.ownBlock)
  (q:v.ownBlock=s.ownBlock\/v.ownBlock=some w.heap.size) :
  St F (L.set k (.row v e sz t f)) w'/\Step F L w F (L.set k (.row v e sz t f)) w'/\(∀j g ty cs,L.get j=some (.box g ty cs)->∃cs',(L.set k (.row v e sz t f)).get j=some (.box g ty cs')):=by
 have p:∀j g ty cs,L.get j=some (.box g ty cs)->∃cs',(L.set k (.row v e sz t f)).get j=some (.box g ty cs'):=by
  intro j g ty cs z;rw[Loc.aac];split
  ·rename_i hj;subst hj;rcases l with h | ⟨h,_⟩<;>rw[h] at z<;>cases z
  ·exact⟨cs,z⟩
 rcases l with u | ⟨u,rfl⟩
 ·refine⟨x.turn u m (fun b hb ab=>d.block b hb (fun e=>ab (by simpa[Own.blk] using e.symm))) (fun g c=>?_),⟨au.le_refl F,d.os,d.tape,d.output,d.size,fun b hb hn=>d.block b hb (fun e=>hn ⟨k,_,u,e.symm⟩),fun b h=>.inl h,fun b h=>?_⟩,p⟩
  ·rcases q with h | h
   ·exact .inl (by simp only[Own.blk] at c ⊢;rw[<-h];exact c)
   ·simp only[Own.blk] at c;rw[h] at c;injection c with c;exact .inr (by omega)
  ·rcases Loc.aan h with h | h
   ·simp only[Own.blk] at h;rcases q with r | r
    ·exact .inl ⟨k,_,u,by simp only[Own.blk];rw[<-r];exact h⟩
    ·rw[r] at h;injection h with h;exact .inr (by omega)
   ·exact .inl h
 ·have y:∀g,v.ownBlock=some g->w.heap.size<=g:=by
   intro g h;rcases q with r | r
   ·rw[r] at h;cases h
   ·rw[r] at h;injection h with h;omega
  have aa:St F L w':=x.keep fun b hb=>d.block b hb (by simp[Value.ownBlock]);refine⟨aa.put u m fun g c=>⟨?_,fun ho=>?_⟩,⟨au.le_refl F,d.os,d.tape,d.output,d.size,fun b hb hn=>d.block b hb (by simp[Value.ownBlock]),fun b h=>.inl h,fun b h=>?_⟩,p⟩
  ·cases hF:F g with
   | none=>rfl
   | some _=>have h1:=x.aax (b:=g) (by rw[hF];simp);have h2:=y g c;omega
  ·have h1:=x.aaA ho;have h2:=y g c;omega
  ·rcases Loc.aan h with h | h
   ·exact .inr (y b h)
   ·exact .inl h
theorem CM {e:TypeId}{sz n:Nat}{v:Value}{xs:List Value}(h:w.ownsRow 0 e sz v n xs):∃a c,v=.slice a n c/\(a=none->n=0):=by
 rcases h.2 with⟨rfl,rfl⟩ | ⟨g,cap,b,rfl,_⟩
 ·exact⟨none,0,rfl,fun _=>rfl⟩
 ·exact⟨_,cap,rfl,fun e=>(by cases e)⟩
theorem rI {t ty e:TypeId}{i:TypeInfo}(h:P.underlying t=some (.slice e)) (hi:P.info? e=some i) {s:Value}{n:Nat}{xs:List Value}(b:w.ownsRow 0 e i.size s n xs) (f:Option Addr) (c:Nat) :
  ∃w',(Builtin.append_ #[t,t] ty #[s,.slice f 0 c]).run P w=.ok s w'/\w'=w:=by
 refine⟨w,?_,rfl⟩;have j:(Builtin.firstCells i.size 0 (.slice f 0 c)).run P w=.ok #[] w:=by
  cases f<;>simp[Builtin.firstCells,loadCells,loadCellsFrom]
 rcases b.2 with⟨rfl,rfl⟩ | ⟨g,cap,k,rfl,_,_,d,_⟩
 ·simp[Builtin.append_,run_underlying h,sizeOf,typeInfo,hi,Builtin.lenOf,j]
 ·simp[Builtin.append_,run_underlying h,sizeOf,typeInfo,hi,Builtin.lenOf,j,d,storeCells]
theorem Qi {t e:TypeId}{y z:Operand}{y' z':X}{i:TypeInfo}{zv:Value}{c:Call}(hs:St F L w) (he:aA L ρ a) (hd:∀k,o.dst=some k->k<a.tmps.size)
  (ho:o.op=.call c) (hc:c.callee=.builtin .append) (ha:c.args=#[y,z]) (bu:c.argTypes=#[t,t]) (ht:P.underlying t=some (.slice e)) (hi:P.info? e=some i) (bz:i.zero=some zv) (bv:zv.cells.size=i.size) (aE:0<i.size)
  (hy:bE y=some y') (hz:bE z=some z') (hK:evalOp P (.app e i.size i.bytes zv.cells.toList y' z') o.dst F L ρ K):o.wp P a w (br F L w a K) Q:=by
 have ey:=aD hy he;have ez:=aD hz he;simp only[evalOp,aJ] at hK;split at hK
 case h_2=>exact hK.elim
 rename_i s x cc cd;obtain⟨kd,n,xs,m,f,bj,⟨ad,cx,rfl,ae,bb⟩,h1,ca,bp,hK⟩:=hK;have ao:m≠0->∃d,ad=some d/\∀j u,f[j]?=some u->w.cell? (d.add j)=some u:=by
  intro hm;rcases bb with q | ⟨av,_⟩ | ⟨k,v,ty,dd,m',ys,d,c',hk,rfl,rfl,q⟩
  ·obtain⟨d,r,bm,al⟩:=q.cell hs;refine⟨d,r,fun j u hu=>?_⟩;have:=al j u hu
   rwa [Nat.zero_add] at this
  ·exact o5 av hm
  ·refine⟨d,rfl,fun j u hu=>?_⟩;have hr:=hs.own k _ hk;simp only[Own.ok] at hr;have h0:=World.ownsRow.cells hr (g:=d.block) rfl j u (q j u hu);rcases hr.2 with⟨r,_⟩ | ⟨g,cap,ar,r,_⟩
   ·cases r
   ·injection r with e1 e2 e3
    injection e1 with e1
    subst e1;exact h0
 have bi:(L.get kd=some (.row s e i.size n xs)\/(L.get kd=none/\n=0/\xs=[]/\s=.slice none 0 0))\/(L.get kd=none/\∃ad,s=.slice (some ad) n n/\0<m/\xs.length=n*i.size/\(dG F (some ad) 0 xs\/(n=0/\xs=[]))):=by
  rcases bj with h | h | h
  ·exact .inl (.inl h)
  ·exact .inl (.inr h)
  ·exact .inr h
 rcases bi with az | ⟨cb,bt,rfl,av,cY,de⟩
 case inr =>
  obtain⟨d,rfl,p⟩:=ao (by omega);have cM:∀j u,xs[j]?=some u->w.cell? (bt.add j)=some u:=by
   intro j u hu;rcases de with q | ⟨_,rfl⟩
   ·obtain⟨ds,r,bm,al⟩:=q.cell hs;injection r with r
    subst r;have:=al j u hu
    rwa [Nat.zero_add] at this
   ·simp at hu
  obtain⟨v,w',hr,l,hg⟩:=run_append_arg_grows (P:=P) w t o.type e i zv i.size i.bytes ht hi bz rfl rfl bv aE bt n n xs cY cM d m cx f ae p (by omega) ca bp;have ag:w'.ownsRow 0 e i.size v (n+m) (xs++f):=by
   refine⟨l.1,?_⟩;rcases l.2 with h | ⟨g,cap,ar,e1,e2,e3⟩
   ·exact .inl h
   ·exact .inr ⟨g,cap,ar,e1,aa9 _,e3⟩
  have be:v.ownBlock=none\/(∃g,v.ownBlock=some g/\w.heap.size<=g):=by
   rcases l.2 with⟨h,_⟩ | ⟨g,cap,ar,e1,e2,e3⟩
   ·rw[h];exact .inl rfl
   ·rw[e1];exact .inr ⟨g,rfl,e2⟩
  have hv:∀g,v.ownBlock=some g->w.heap.size<=g:=by
   intro g h;rcases be with h' | ⟨g',h',h2⟩
   ·rw[h'] at h;cases h
   ·rw[h'] at h;injection h with h;omega
  have cz:St F L w':=hs.keep fun b hb=>hg.block b hb (by simp);have db:St F (L.set kd (.row v e i.size (n+m) (xs++f))) w':=cz.put cb ag fun g bo=>⟨by
   cases hF:F g with
   | none=>rfl
   | some _=>have h1:=hs.aax (b:=g) (by rw[hF];simp);have h2:=hv g bo;omega,fun ho=>by have h1:=hs.aaA ho;have h2:=hv g bo;omega⟩
  have bk:Step F L w F (L.set kd (.row v e i.size (n+m) (xs++f))) w':=⟨au.le_refl F,hg.os,hg.tape,hg.output,hg.size,fun b hb hn=>hg.block b hb (by simp),fun b h=>.inl h,fun b h=>by
   rcases Loc.aan h with h | h
   ·exact .inr (hv b h)
   ·exact .inl h⟩
  have cf:∀j g ty cs,L.get j=some (.box g ty cs)->∃cs',(L.set kd (.row v e i.size (n+m) (xs++f))).get j=some (.box g ty cs'):=by
   intro j g ty cs ej;rw[Loc.aac,fL (by rintro rfl;rw[cb] at ej;cases ej)];exact⟨cs,ej⟩
  refine jw he hd (v:=v) (x:=.v v) ?_ db bk rfl cq eI cf (hK v (CM ag));simp[execOp,ho,resolve,hc,ha,bu,invoke,builtin,ey,ez,cL cc,cL cd,hr]
 have ab:w.ownsRow 0 e i.size s n xs:=by
  rcases az with h | ⟨_,rfl,rfl,rfl⟩
  ·exact hs.own kd _ h
  ·exact World.ownsRow_nil w 0 e i.size
 have bd:L.get kd=some (.row s e i.size n xs)\/(L.get kd=none/\s=.slice none 0 0):=by
  rcases az with h | ⟨h,_,_,h'⟩
  ·exact .inl h
  ·exact .inr ⟨h,h'⟩
 have fin:∀(v:Value) (w':World),(Builtin.append_ #[t,t] o.type #[s,.slice ad m cx]).run P w=.ok v w'->w'.ownsRow 0 e i.size v (n+m) (xs++f)->w.grownBy w' s.ownBlock->(v.ownBlock=s.ownBlock\/v.ownBlock=some w.heap.size)->o.wp P a w (br F L w a K) Q:=by
  intro v w' hr l hg be;obtain⟨g1,g2,g3⟩:=Ja hs bd l hg be;refine jw he hd (v:=v) (x:=.v v) ?_ g1 g2 rfl cq eI g3 (hK v (CM l));simp[execOp,ho,resolve,hc,ha,bu,invoke,builtin,ey,ez,cL cc,cL cd,hr]
 by_cases hm:m=0
 ·subst hm;have hn:f=[]:=abE (by simpa using ae);subst hn;obtain⟨w',hr,rfl⟩:=rI (P:=P) (ty:=o.type) ht hi ab ad cx;exact fin s w' hr (by simpa using ab) (World.grownBy.refl _ _) (.inl rfl)
 ·have p:∃d,ad=some d/\∀j u,f[j]?=some u->w.cell? (d.add j)=some u:=by
   rcases bb with q | ⟨av,_⟩ | ⟨k,v,ty,dd,m',ys,d,c',hk,rfl,rfl,q⟩
   ·obtain⟨d,r,bm,al⟩:=q.cell hs;refine⟨d,r,fun j u hu=>?_⟩;have:=al j u hu
    rwa [Nat.zero_add] at this
   ·exact o5 av hm
   ·refine⟨d,rfl,fun j u hu=>?_⟩;have hr:=hs.own k _ hk;simp only[Own.ok] at hr;have h0:=World.ownsRow.cells hr (g:=d.block) rfl j u (q j u hu);rcases hr.2 with⟨r,_⟩ | ⟨g,cap,ar,r,_⟩
    ·cases r
    ·injection r with e1 e2 e3
     injection e1 with e1
     subst e1;exact h0
  obtain⟨d,rfl,p⟩:=p;obtain⟨v,w',hr,h2,h3,_,h5⟩:=run_append_own_at (P:=P) w 0 t o.type e i zv i.size i.bytes ht hi bz rfl rfl bv aE s n xs ab d m cx f ae p h1 ca bp (aa9 _);exact fin v w' hr h2 h3 h5
end
section
variable {P:Program}{F:au}{L:Loc}{ρ:Env}{a:Act}{w:World}{K:dm}{o:Oper}{Q:Exit->Act->World->Prop}
theorem vh:∀(l:List Own) (k j:Nat),Loc.get (sH k l) j=if k<=j then l[j-k]? else none
 | [],k,j=>by simp[sH,Loc.get]
 | o::l,k,j=>by
  simp only[sH,Loc.get];cases h:Nat.beq k j with
  | true=>have:=aaO h;subst this;simp
  | false =>
   have b:=gb h;simp only[vh l (k+1) j]
   by_cases h1:k<=j
   ·rw[fo (by omega),fo h1,show j-k=(j-(k+1))+1 by omega,abk]
   ·rw[fL (by omega),fL h1]
theorem aF (l:List Own) (j:Nat):Loc.get (inp l) j=if 1000<=j then l[j-1000]? else none:=vh l 1000 j
theorem cu:∀{L:Loc}{ks:List Nat}{l:List Own},L.sub ks=some l->l.length=ks.length/\∀(i:Nat) (k:Nat),ks[i]?=some k->L.get k=l[i]?
 | L,[],l,h=>by simp only[Loc.sub,vz] at h;subst h;simp
 | L,k::ks,l,h=>by
  simp only[Loc.sub] at h;split at h
  case h_2=>cases h
  rename_i o f h1 b;injection h with h
  subst h;obtain⟨c,e⟩:=cu b;refine⟨by simp[c],fun i d hi=>?_⟩;cases i with
  | zero=>simp at hi;subst hi;simpa using h1
  | succ i=>simp at hi;simpa using e i d hi
theorem eL:∀(ks:List Nat) (L:Loc) (j:Nat),(L.aae ks).get j=if j∈ks then none else L.get j
 | [],L,j=>by simp[Loc.aae]
 | k::ks,L,j=>by
  simp only[Loc.aae,eL ks,Loc.aaf,aaT]
  by_cases h1:j=k<;>by_cases b:j∈ks<;>simp[h1,b]
theorem cQ:∀(ko:List Nat) (l:List Own) (L:Loc) (j:Nat),ko.Nodup->ko.length=l.length ->
  ((L.puts ko l).get j=L.get j/\j∉ko)\/∃i,ko[i]?=some j/\(L.puts ko l).get j=l[i]?/\i<l.length
 | [],l,L,j,_,h=>by
  refine .inl ⟨?_,by simp⟩;cases l<;>rfl
 | k::ko,[],L,j,_,h=>by simp at h
 | k::ko,o::l,L,j,d,h=>by
  simp only[aa7,Nat.add_right_cancel_iff] at h;rw[List.nodup_cons] at d;simp only[Loc.puts];rcases cQ ko l (L.set k o) j d.2 h with⟨h1,c⟩ | ⟨i,h1,c,e⟩
  ·rw[Loc.aac] at h1
   by_cases b:j=k
   ·subst b;rw[fo rfl] at h1;exact .inr ⟨0,by simp,by simpa using h1,by simp⟩
   ·rw[fL b] at h1;exact .inl ⟨h1,by simp[b,c]⟩
  ·exact .inr ⟨i+1,by simpa using h1,by simpa using c,by simp;omega⟩
theorem zK {l:List Nat}(h:l.Nodup) {i j:Nat}{k:Nat}(hi:l[i]?=some k) (b:l[j]?=some k):i=j:=by
 induction l generalizing i j with
 | nil=>simp at hi
 | cons x l c =>
  rw[List.nodup_cons] at h;cases i with
  | zero =>
   cases j with
   | zero=>rfl
   | succ j =>
    simp at hi b;subst hi;exact o5 (aaX b) h.1
  | succ i =>
   cases j with
   | zero =>
    simp at hi b;subst b;exact o5 (aaX hi) h.1
   | succ j =>
    simp at hi b;rw[c h.2 hi b]
theorem St.handed (c:St F L w) {ks:List Nat}{l:List Own}(b:L.sub ks=some l) (t:ks.Nodup):St F (inp l) w:=by
 obtain⟨hl,z⟩:=cu b;have key:∀j p,Loc.get (inp l) j=some p->∃k,1000<=j/\ks[j-1000]?=some k/\L.get k=some p:=by
  intro j p e;rw[aF] at e;split at e
  case isFalse=>cases e
  rename_i h1;have y:j-1000<l.length:=(aaR.1 e).1;have q:ks[j-1000]?=some (ks[j-1000]'(by omega)):=aaN (by omega);exact⟨_,h1,q,by rw[z _ _ q];exact e⟩
 refine⟨c.frz,fun j p e=>?_,fun j p g e hb=>?_,fun j s p n g e e' hb m=>?_,c.glob⟩
 ·obtain⟨k,_,_,h⟩:=key j p e;exact c.own k p h
 ·obtain⟨k,_,_,h⟩:=key j p e;exact c.off k p g h hb
 ·obtain⟨k,h1,u,v⟩:=key j p e;obtain⟨x,r,f,d⟩:=key s n e';have:=c.sep k x p n g v d hb m;subst this;have:=zK t u f;omega
theorem fS (v:St F L w) {ks ko:List Nat}{l lo:List Own}(aa:L.sub ks=some l) (hn:ks.Nodup) (y:ko.Nodup) (az:∀k,k∈ko->k∈ks\/L.get k=none)
  {F':au}{w':World}(r:St F' (inp lo) w') (f:Step F (inp l) w F' (inp lo) w') (ad:ko.length=lo.length) :
  St F' ((L.aae ks).puts ko lo) w'/\Step F L w F' ((L.aae ks).puts ko lo) w':=by
 obtain⟨hl,hg⟩:=cu aa;have n:∀b,(inp l).owns b->∃k o,k∈ks/\L.get k=some o/\o.blk=some b:=by
  rintro b ⟨j,p,e,hb⟩;rw[aF] at e;split at e
  case isFalse=>cases e
  have ba:j-1000<l.length:=(aaR.1 e).1;have hk:ks[j-1000]?=some (ks[j-1000]'(by omega)):=aaN (by omega);exact⟨_,p,aaX hk,by rw[hg _ _ hk];exact e,hb⟩
 have m:∀k p b,k∉ks->L.get k=some p->p.blk=some b->¬(inp l).owns b:=by
  intro k p b hk e hb ho;obtain⟨x,o,am,e',d⟩:=n b ho;exact hk (by rw[v.sep k x p o b e e' hb d];exact am)
 have get:∀k p,((L.aae ks).puts ko lo).get k=some p->(k∉ks/\k∉ko/\L.get k=some p)\/∃i,ko[i]?=some k/\Loc.get (inp lo) (1000+i)=some p:=by
  intro k p e;rcases cQ ko lo (L.aae ks) k y ad with⟨h1,c⟩ | ⟨i,h1,c,u⟩
  ·rw[h1,eL] at e;split at e
   ·cases e
   ·rename_i u;exact .inl ⟨u,c,e⟩
  ·rw[c] at e;exact .inr ⟨i,h1,by rw[aF,fo (by omega),show 1000+i-1000=i by omega];exact e⟩
 refine⟨⟨r.frz,fun k p e=>?_,fun k p b e hb=>?_,fun k x p t b e e' hb d=>?_,r.glob⟩,⟨f.le,f.os,f.tape,f.output,f.size,fun b hb y=>?_,fun b hb=>?_,fun b hb=>?_⟩⟩
 ·rcases get k p e with⟨h1,_,c⟩ | ⟨i,_,c⟩
  ·exact Own.aau (v.own k p c) fun g z=>f.same g (Own.aaq (v.own k p c) z) (m k p g h1 c z)
  ·exact r.own _ p c
 ·rcases get k p e with⟨h1,_,c⟩ | ⟨i,_,c⟩
  ·cases hF:F' b with
   | none=>rfl
   | some _ =>
    rcases f.frz b (by rw[hF];simp) with u | u | u
    ·exact o5 (v.off k p b c hb) u
    ·exact o5 u (m k p b h1 c hb)
    ·have:=Own.aaq (v.own k p c) hb;omega
  ·exact r.off _ p b c hb
 ·have q:∀k p i t,k∉ks->L.get k=some p->Loc.get (inp lo) (1000+i)=some t->p.blk=some b->t.blk=some b->False:=by
   intro k p i t h1 c u h4 h5;rcases f.own b ⟨_,t,u,h5⟩ with h6 | h6
   ·exact m k p b h1 c h4 h6
   ·have:=Own.aaq (v.own k p c) h4;omega
  rcases get k p e with⟨h1,_,c⟩ | ⟨i,hi,c⟩<;>rcases get x t e' with⟨al,_,s⟩ | ⟨i',ac,s⟩
  ·exact v.sep k x p t b c s hb d
  ·exact(q k p i' t h1 c s hb d).elim
  ·exact(q x t i p al s c d hb).elim
  ·have:=r.sep _ _ p t b c s hb d;have:i=i':=by omega
   subst this;rw[hi] at ac;injection ac
 ·refine f.same b hb fun ho=>?_;obtain⟨k,o,_,e,d⟩:=n b ho;exact y ⟨k,o,e,d⟩
 ·rcases f.frz b hb with h | h | h
  ·exact .inl h
  ·obtain⟨k,o,_,e,d⟩:=n b h;exact .inr (.inl ⟨k,o,e,d⟩)
  ·exact .inr (.inr h)
 ·obtain⟨k,p,e,d⟩:=hb;rcases get k p e with⟨h1,_,c⟩ | ⟨i,_,c⟩
  ·exact .inl ⟨k,p,c,d⟩
  ·rcases f.own b ⟨_,p,c,d⟩ with h | h
   ·obtain⟨x,o,_,e',ab⟩:=n b h;exact .inl ⟨x,o,e',ab⟩
   ·exact .inr h
theorem vZ {f:Nat}{args:List Value}(hs:St F L w) (he:aA L ρ a) (hd:∀k,o.dst=some k->k<a.tmps.size)
  (hrun:(∃fn,P.funcs[f]?=some fn/\fn.body.isSome=true/\(fn.name == "runtime.NumGoroutine")=false)->(execOp a.eval o).run P w=.ok (.enter f args.toArray) w)
  (hK:dP P f args F L fun F' L' v=>K F' L' (put o.dst (.v v) ρ)):o.wp P a w (br F L w a K) Q:=by
 obtain⟨ks,ko,l,R,hsub,hn,hno,hko,hc,hK⟩:=hK;unfold Oper.wp;rw[hrun hc.ent];rw[Oper.upon_enter];refine(hc.run w (hs.handed hsub hn)).mono ?_;rintro e w' ⟨v,F',lo,rfl,hs',hst,hR⟩;obtain⟨hlen,hbox,hK⟩:=hK v F' lo hst.le hR;obtain⟨h1,h2⟩:=fS hs hsub hn hno hko hs' hst hlen;refine⟨F',_,_,h1,he.put hd (x:=.v v) rfl cq eI ?_,jv _ _ _,gq _ _ _,h2,hK⟩;intro k g ty cs e
 by_cases hk:k∈ks
 ·exact hbox k g ty cs hk e
 ·rcases cQ ko lo (L.aae ks) k hno hlen with⟨h1,h2⟩ | ⟨i,h1,h2,h3⟩
  ·rw[h1,eL,fL hk];exact⟨cs,e⟩
  ·rcases hko k (aaX h1) with h | h
   ·exact o5 h hk
   ·rw[h] at e;cases e
theorem iy {f:Nat}{args:Array Value}(h:∃fn,P.funcs[f]?=some fn/\fn.body.isSome=true/\(fn.name == "runtime.NumGoroutine")=false):(callFunc f args).run P w=.ok (.enter f args) w:=by
 obtain⟨fn,h1,h2,h3⟩:=h;have h4:fn.body≠none:=by intro hb;rw[hb] at h2;cases h2
 have h5:fn.name≠"runtime.NumGoroutine":=by simpa using h3
 simp[callFunc,h1,h4,h5]
theorem LY {f:Nat}{args:List X}{c:Call}(p:St F L w) (h:aA L ρ a) (n:∀k,o.dst=some k->k<a.tmps.size)
  (j:o.op=.call c) (l:c.callee=.value (.func f)) (q:gh c.args.toList=some args) (m:evalOp P (.call f args) o.dst F L ρ K):o.wp P a w (br F L w a K) Q:=by
 refine vZ p h n (fun d=>?_) m;have e:=gk q h;have b:c.args.map a.eval=(aZ L ρ args).toArray:=by apply Array.ext';simpa using e
 simp[execOp,j,resolve,l,Deferred.ofValue,Act.eval,invoke,b,iy d]
theorem lM {t:TypeId}{nm:String}{u:Value}{f:Nat}{args:Array Value}(hf:sI P t nm=some f) (h:∃fn,P.funcs[f]?=some fn/\fn.body.isSome=true/\(fn.name == "runtime.NumGoroutine")=false) :
  (callMethod (.iface t u) nm args).run P w=.ok (.enter f (#[u]++args)) w:=by
 have:=G3 (P:=P) hf u w;simp only[callMethod,Sem.run_bind,run_program,Result.andThen_ok,this];exact iy h
theorem Jb {V:SV}{v:Value}{args:List Value}{f:Nat}{fi ca:List Value}(hf:rE P V=some (f,fi,ca)) (hv:∀x,V=.v x->v=x) (h:∃fn,P.funcs[f]?=some fn/\fn.body.isSome=true/\(fn.name == "runtime.NumGoroutine")=false) :
  (do let d <-Deferred.ofValue v args.toArray;invoke d.target d.args:Sem Next).run P w=.ok (.enter f (fi++args++ca).toArray) w:=by
 unfold rE at hf;split at hf
 ·rename_i f' fi' ca';injection hf with hf
  injection hf with e1 e2
  injection e2 with e2 e3
  subst e1 e2 e3;rw[hv _ rfl];have hall:fi'++(args.toArray++ca')=(fi'.toList++args++ca'.toList).toArray:=by apply Array.ext';simp
  simp[Deferred.ofValue,invoke];rw[iy h];simp
 ·rename_i nm fi' ca';split at hf
  case h_2=>cases hf
  rename_i t u hfi;split at hf
  case h_2=>cases hf
  rename_i f' hm;injection hf with hf
  injection hf with e1 e2
  injection e2 with e2 e3
  subst e1 e2 e3;have hfi':fi'=#[.iface t u]:=by apply Array.ext';exact hfi
  rw[hv _ rfl,hfi'];have hx:(#[Value.iface t u]++args.toArray).extract 1 (#[Value.iface t u]++args.toArray).size=args.toArray:=by apply Array.ext';simp
  have h0:(#[Value.iface t u]++args.toArray)[0]?=some (.iface t u):=by simp
  have:=lM (w:=w) (u:=u) (args:=args.toArray) hm h;simp only[Deferred.ofValue,Sem.run_bind,Sem.run_pure,Result.andThen_ok,invoke,h0,hx,this];simp
 ·cases hf
theorem Jc {y:Operand}{q:X}{args:List X}{c:Call}(hs:St F L w) (p:aA L ρ a) (hd:∀k,o.dst=some k->k<a.tmps.size)
  (ho:o.op=.call c) (hc:c.callee=.value y) (hy:bE y=some q) (ha:gh c.args.toList=some args) (n:evalOp P (.callV q args) o.dst F L ρ K):o.wp P a w (br F L w a K) Q:=by
 have ey:=aD hy p;have z:=gk ha p;have j:c.args.map a.eval=(aZ L ρ args).toArray:=by apply Array.ext';simpa using z
 have m:∀x,ev ρ q=.v x->a.eval y=x:=fun x e=>by rw[ey,cL e]
 simp only[evalOp] at n;split at n
 ·rename_i f fi ca d;refine vZ hs p hd (fun h=>?_) n;have:=Jb (w:=w) (args:=aZ L ρ args) d m h;simp only[execOp,ho,resolve,hc,j];exact this
 ·split at n
  case h_2=>exact n.elim
  rename_i f r d;unfold zB at d;split at d
  case h_2=>cases d
  rename_i t nm ca t' u l ab b;split at d
  case h_2=>cases d
  rename_i ms hu;split at d
  case h_2=>cases d
  rename_i f' hm;injection d with d
  injection d with e1 e2
  subst e1 e2;refine vZ hs p hd (fun h=>?_) n;have h0:(#[]++(aZ L ρ args).toArray)[0]?=some (.iface t' u):=by rw[b];simp
  have hx:(#[]++(aZ L ρ args).toArray).extract 1 (#[]++(aZ L ρ args).toArray).size=l.toArray:=by rw[b];apply Array.ext';simp
  have:=lM (w:=w) (u:=u) (args:=l.toArray) hm h;simp only[execOp,ho,resolve,hc,j,m _ ab,Deferred.ofValue,Sem.run_bind,Sem.run_pure,Result.andThen_ok,invoke];have aa:((⟨[]⟩:Array Value)++(aZ L ρ args).toArray)[0]?=some (.iface t' u):=h0;simp only[aa,Sem.run_bind,run_underlying hu,Result.andThen_ok];have s:((⟨[]⟩:Array Value)++(aZ L ρ args).toArray).extract 1 ((⟨[]⟩:Array Value)++(aZ L ρ args).toArray).size=l.toArray:=hx;simp only[s,this];simp
theorem Qj {n:Nat}{nm:String}{args:List X}{c:Call}(hs:St F L w) (z:aA L ρ a) (hd:∀k,o.dst=some k->k<a.tmps.size)
  (ho:o.op=.call c) (hc:c.callee=.invoke (.tmp n) nm) (ha:gh c.args.toList=some args) (h:evalOp P (.callV (.mt nm n) args) o.dst F L ρ K):o.wp P a w (br F L w a K) Q:=by
 have y:=gk ha z;have e:c.args.map a.eval=(aZ L ρ args).toArray:=by apply Array.ext';simpa using y
 simp only[evalOp,ev] at h;split at h
 ·rename_i f fi ca d;refine vZ hs z hd (fun l=>?_) h;cases m:ρ n with
  | own k off=>rw[m] at d;cases d
  | el b j=>rw[m] at d;cases d
  | v x =>
   rw[m] at d;have hx:a.eval (.tmp n)=x:=by
    have:=z.eq n;rw[m] at this;exact this
   simp only[R5,rE] at d;split at d
   case h_2=>cases d
   rename_i t u r;split at d
   case h_2=>cases d
   rename_i f' hm;injection d with d
   injection d with e1 e2
   injection e2 with e2 e3
   subst e1 e2 e3;have s:x=.iface t u:=by simpa using r
   subst s;have q:(#[Value.iface t u]++(aZ L ρ args).toArray).extract 1 (#[Value.iface t u]++(aZ L ρ args).toArray).size=(aZ L ρ args).toArray:=by apply Array.ext';simp
   have h0:(#[Value.iface t u]++(aZ L ρ args).toArray)[0]?=some (.iface t u):=by simp
   have:=lM (w:=w) (u:=u) (args:=(aZ L ρ args).toArray) hm l;simp only[execOp,ho,resolve,hc,e,hx,Sem.run_bind,Sem.run_pure,Result.andThen_ok,invoke,h0,q,this];simp
 ·split at h
  case h_2=>exact h.elim
  rename_i f p d;exfalso
  revert d
  cases ρ n<;>simp[R5,zB,undef]
end
open Go.ChangeMaps (setBlock)
theorem zL {cs:List Value}(h:kZ cs=true):gS cs=.map (aV cs 0).toArray cs.length:=by
 unfold gS;split
 ·simp[kZ] at h
 ·rfl
theorem lN:∀(v:Value) (i:Nat),(fP v i).born=i:=by
 intro v i;unfold fP;split<;>rfl
theorem pI:∀{cs:List Value}{i j:Nat},(aV cs i)[j]?=(cs[j]?).map fun v=>fP v (i+j)
 | [],_,_=>by simp[aV]
 | c::cs,i,0=>by simp[aV]
 | c::cs,i,j+1=>by
  simp only[aV,abk,pI (cs:=cs)];rw[show i+1+j=i+(j+1) by omega]
def kindOf:Bool->TypeDesc
 | false=>.int .i64
 | true=>.string
theorem FA (s t:ByteArray):(s == t)=decide (s.data.toList=t.data.toList):=by
 have:(s == t)=(s.data == t.data):=rfl;rw[this,Bool.eq_iff_iff];simp[Array.toList_inj]
theorem wK {str:Bool}{a b:Value}{r:Bool}(h:eS str a b=some r):Instr.sameNow (kindOf str) a b=some r:=by
 unfold eS at h;split at h
 ·injection h with h;subst h;simp[kindOf,Instr.sameNow,beq_dec']
 ·injection h with h
  subst h;rename_i s t;simp only[kindOf,Instr.sameNow,FA]
 ·cases h
where beq_dec':∀{a b:Int},(a == b)=decide (a=b):=by intro a b;rw[Bool.eq_iff_iff];simp
theorem LZ {str:Bool}{a b:Value}(h:eS str a b=some true):a=b:=by
 unfold eS at h;split at h
 ·simp only[vz,aaZ] at h;rw[h]
 ·simp only[vz,aaZ] at h;rename_i s t;cases s;cases t;simp only[Value.string.injEq,ByteArray.mk.injEq];exact Array.ext' h
 ·cases h
theorem L5 {str:Bool}{a b:Value}{r:Bool}(h:eS str a b=some r):∀n,Instr.sameBits n a a=true:=by
 intro n;unfold eS at h;split at h
 ·cases n<;>simp[Instr.sameBits]
 ·cases n<;>simp[Instr.sameBits,FA]
 ·cases h
theorem mZ {str:Bool}{key:Value}:∀{cs:List Value}{i:Nat}{o:Option (Nat×Value)},lI str key cs i=some o->Instr.findNow (kindOf str) key (aV cs i) i=some o
 | [],i,o,h=>by simp only[lI] at h;simpa[aV,Instr.findNow] using h
 | c::cs,i,o,h=>by
  unfold lI at h;split at h
  ·rename_i b;cases b
  ·rename_i k v l j b;injection b with e1 e2
   subst e1 e2;simp only[aV,fP,Instr.findNow];split at h
   ·rename_i d;rw[wK d];exact h
   ·rename_i d;rw[wK d];exact mZ h
   ·cases h
  ·cases h
theorem zM {str:Bool}{key val:Value}(f:eS str key key=some true):∀{cs cs':List Value}{i:Nat},wC str key val cs=some cs' ->
  (∃j v,lI str key cs i=some (some (i+j,v))/\j<cs.length/\((aV cs i)[j]?.map (·.key))=some key/\aV cs' i=(aV cs i).modify j (fun e=>{e with key:=key,val:=val})/\cs'.length=cs.length) \/
  (lI str key cs i=some none/\cs'=cs++[.agg #[key,val]])
 | [],cs',i,h=>by
  simp only[wC,vz] at h;subst h;exact .inr ⟨rfl,rfl⟩
 | c::cs,cs',i,h=>by
  unfold wC at h;split at h
  ·rename_i b;cases b
  ·rename_i k v l b;injection b with e1 e2
   subst e1 e2;split at h
   ·rename_i d;injection h with h
    subst h;refine .inl ⟨0,v,by simp only[lI,d,Nat.add_zero],by simp,?_,?_,rfl⟩
    ·simp[aV,fP,(LZ d).symm]
    ·simp[aV,fP]
   ·rename_i d;split at h
    case h_2=>cases h
    rename_i s q;injection h with h
    subst h;rcases zM f (i:=i+1) q with⟨j,u,h1,m,p,r,n⟩ | ⟨h1,m⟩
    ·refine .inl ⟨j+1,u,?_,by simp;omega,by simpa[aV] using p,by simp[aV,r],by simp[n]⟩;simp only[lI,d];rw[h1,show i+1+j=i+(j+1) by omega]
    ·refine .inr ⟨?_,by rw[m];rfl⟩;simp only[lI,d];exact h1
   ·cases h
  ·cases h
theorem En {str:Bool}{key val:Value}{cs cs':List Value}(h:wC str key val cs=some cs'):kZ cs'=true:=by
 unfold wC at h;split at h
 ·injection h with h;subst h;rfl
 ·split at h
  ·injection h with h;subst h;rfl
  ·split at h
   ·injection h with h;subst h;rfl
   ·cases h
  ·cases h
 ·cases h
section
variable {P:Program}{F:au}{L:Loc}{ρ:Env}{a:Act}{w:World}{K:dm}{o:Oper}{Q:Exit->Act->World->Prop}
theorem wL (b:St F L w) {k g:Nat}{cs:List Value}(c:L.get k=some (.box g 0 cs)) (d:kZ cs=true):w.heap[g]?=some (.map (aV cs 0).toArray cs.length):=by
 have h:=b.own k _ c;simp only[Own.ok,mO] at h;rw[zL d] at h;exact h
theorem L9 {str:Bool}{key:TypeId}{kv:Value}(b:P.underlying key=some (kindOf str)) (c:eS str kv kv=some true) (e:Bool):(Instr.checkKey e 10000 key kv).run P w=.ok () w:=by
 rw[show(10000:Nat)=9999+1 from rfl,Instr.checkKey];simp only[Sem.run_bind,run_underlying b,Result.andThen_ok];cases str<;>simp[kindOf,Sem.run_pure]
theorem Eo {str:Bool}{key:TypeId}{kv:Value}(b:P.underlying key=some (kindOf str)) (e:Bool):(Instr.checkKey e 10000 key kv).run P w=.ok () w:=by
 rw[show(10000:Nat)=9999+1 from rfl,Instr.checkKey];simp only[Sem.run_bind,run_underlying b,Result.andThen_ok];cases str<;>simp[kindOf,Sem.run_pure]
theorem sP {str:Bool}{key:TypeId}{kv:Value}{es:List MapEntry}{o:Option (Nat×Value)}(b:P.underlying key=some (kindOf str)) (h:Instr.findNow (kindOf str) kv es 0=some o):(Instr.findKey key kv es).run P w=.ok o w:=by
 simp only[Instr.findKey,Sem.run_bind,run_underlying b,Result.andThen_ok,h,Sem.run_pure]
theorem Jd {t:TypeId}(n:St F L w) (j:aA L ρ a) (l:∀k,o.dst=some k->k<a.tmps.size) (d:o.op=.makeMap t none)
  (b:evalOp P .mkmap o.dst F L ρ K):o.wp P a w (br F L w a K) Q:=by
 simp only[evalOp] at b;split at b
 case h_2=>exact b.elim
 rename_i _ k c;split at b
 case h_2=>exact b.elim
 rename_i _ m;have b:=b w.heap.size;obtain⟨h1,f,h⟩:=lK n m (ob:=.map #[] 0) (e:=.box w.heap.size 0 []) rfl (by show _=_;rw[gV];rfl);refine jw j l (v:=.map (some w.heap.size)) (x:=.v (.map (some w.heap.size))) ?_ h1 f rfl cq eI h b;simp[execOp,d,run_makeMap]
theorem CN {str ok:Bool}{t key e:TypeId}{y z:Operand}{u l:X}{j:TypeInfo}{x:Value}(p:St F L w) (h:aA L ρ a) (s:∀k,o.dst=some k->k<a.tmps.size)
  (ho:o.op=.lookup t y z ok) (ht:P.underlying t=some (.map key e)) (b:P.underlying key=some (kindOf str)) (hi:P.info? e=some j) (hz:j.zero=some x) (hy:bE y=some u) (m:bE z=some l)
  (c:evalOp P (.mlook str ok x u l) o.dst F L ρ K):o.wp P a w (br F L w a K) Q:=by
 have ey:=aD hy h;have ez:=aD m h;simp only[evalOp,aJ] at c;split at c
 case h_2=>exact c.elim
 rename_i g hm;obtain⟨k,cs,hk,r,c⟩:=c;have hg:=wL p hk r;have d:(getObj g).run P w=.ok (.map (aV cs 0).toArray cs.length) w:=by simp[getObj,Sem.run,hg]
 have f:=Eo (w:=w) (kv:=val L ρ l) b (aV cs 0).toArray.isEmpty;rcases c.out with⟨i,v,h1,n⟩ | ⟨h1,n⟩
 ·have q:=sP (P:=P) (w:=w) b (mZ h1);refine bT p h s ?_ rfl cq eI n;simp only[execOp,ho,ey,ez,cL hm,Instr.lookup,Sem.run_bind,run_underlying ht,Result.andThen_ok,d,Sem.run_pure,f,q];cases ok<;>simp[Sem.run_pure,conc]
 ·have q:=sP (P:=P) (w:=w) b (mZ h1);refine bT p h s ?_ rfl cq eI n;simp only[execOp,ho,ey,ez,cL hm,Instr.lookup,Sem.run_bind,run_underlying ht,Result.andThen_ok,d,Sem.run_pure,f,q];cases ok<;>simp[Sem.run_pure,zeroValue,typeInfo,run_program,hi,hz,conc]
theorem FB (r:St F L w) {k g:Nat}{cs cs':List Value}(d:L.get k=some (.box g 0 cs)):St F (L.set k (.box g 0 cs')) (setBlock w g (gS cs'))/\Step F L w F (L.set k (.box g 0 cs')) (setBlock w g (gS cs')) /\
  (∀j f ty xs,L.get j=some (.box f ty xs)->∃p,(L.set k (.box g 0 cs')).get j=some (.box f ty p)):=by
 have q:g<w.heap.size:=Own.aaq (r.own k _ d) rfl;have c:∀b,b≠g->(setBlock w g (gS cs')).heap[b]?=w.heap[b]?:=fun b hb=>by
  show(w.heap.setIfInBounds g (gS cs'))[b]?=_;rw[Array.getElem?_setIfInBounds,fL (fun e=>hb e.symm)]
 have m:w.heap.size<=(setBlock w g (gS cs')).heap.size:=by show _<=(w.heap.setIfInBounds g (gS cs')).size;simp
 refine⟨r.turn d ?_ (fun b hb n=>c b fun e=>n (by rw[e];rfl)) (fun f l=>.inl l),⟨au.le_refl F,rfl,rfl,rfl,m,fun b hb s=>c b fun e=>s ⟨k,_,d,by rw[e];rfl⟩,fun b h=>.inl h,fun b h=>?_⟩,fun j f ty xs e=>?_⟩
 ·show(w.heap.setIfInBounds g (gS cs'))[g]?=_;rw[Array.getElem?_setIfInBounds,fo rfl,fo q];rfl
 ·rcases Loc.aan h with h | h
  ·exact .inl ⟨k,_,d,h⟩
  ·exact .inl h
 ·rw[Loc.aac];split
  ·rename_i t;subst t;rw[d] at e;injection e with e
   injection e with e1 e2 e3
   subst e1 e2;exact⟨_,rfl⟩
  ·exact⟨xs,e⟩
theorem za {str:Bool}{t key e:TypeId}{g:Nat}{kv p:Value}{cs cs':List Value}(s:P.underlying t=some (.map key e)) (d:P.underlying key=some (kindOf str))
  (u:w.heap[g]?=some (.map (aV cs 0).toArray cs.length)) (b:eS str kv kv=some true) (h:wC str kv p cs=some cs') :
  (Instr.mapUpdate t (.map (some g)) kv p).run P w=.ok () (setBlock w g (gS cs')):=by
 have f:(getObj g).run P w=.ok (.map (aV cs 0).toArray cs.length) w:=by simp[getObj,Sem.run,u]
 have n:∀o',(setObj g o').run P w=.ok () (setBlock w g o'):=fun o'=>by simp[setObj,Sem.run,u,setBlock]
 have k:=L9 (P:=P) (w:=w) (str:=str) (kv:=kv) d b false;rw[zL (En h)];rcases zM b (i:=0) h with⟨j,v,h1,r,z,h4,y⟩ | ⟨h1,r⟩
 ·have q:=sP (P:=P) (w:=w) d (mZ h1);have m:(((aV cs 0).toArray[0+j]?).map (·.key)).getD kv=kv:=by
   rw[Nat.zero_add];simp only[List.getElem?_toArray];rw[z];rfl
  simp only[Instr.mapUpdate,Sem.run_bind,run_underlying s,Result.andThen_ok,f,k,q,m,Instr.keyThatStays,L5 b,abj,Sem.run_pure,n];rw[h4,y,Nat.zero_add];congr 3;apply Array.ext';simp
 ·have q:=sP (P:=P) (w:=w) d (mZ h1);simp only[Instr.mapUpdate,Sem.run_bind,run_underlying s,Result.andThen_ok,f,k,q,n];subst r;congr 3
  ·apply Array.ext';have:∀(l:List Value) (i:Nat),aV (l++[.agg #[kv,p]]) i=aV l i++[{key:=kv,val:=p,born:=i+l.length}]:=by
    intro l
    induction l with
    | nil=>intro i;simp[aV,fP]
    | cons c l x=>intro i;simp only[aa2,aV,x,aa7];rw[show i+1+l.length=i+(l.length+1) by omega]
   simp[this]
  ·simp
theorem v9 {str:Bool}{t key e:TypeId}{y z u:Operand}{m n q:X}(p:St F L w) (f:aA L ρ a) (s:∀k,o.dst=some k->k<a.tmps.size)
  (d:o.op=.mapUpdate t y z u\/o.op=.insert t y z u) (ht:P.underlying t=some (.map key e)) (j:P.underlying key=some (kindOf str)) (hy:bE y=some m) (x:bE z=some n) (v:bE u=some q)
  (b:evalOp P (.mupd str m n q) o.dst F L ρ K):o.wp P a w (br F L w a K) Q:=by
 have ey:=aD hy f;have ez:=aD x f;have eu:=aD v f;simp only[evalOp] at b;split at b
 case h_2=>exact b.elim
 rename_i g hm;obtain⟨k,cs,r,l,b⟩:=b;obtain⟨h,cs',c,b⟩:=b;have hg:=wL p r l;obtain⟨h1,h2,h3⟩:=FB p r (cs':=cs');refine CD f s (w':=setBlock w g (gS cs')) ?_ h1 h2 h3 b;have hr:=za (w:=w) ht j hg h c;rcases d with d | d<;>simp[execOp,d,ey,ez,eu,cL hm,hr]
theorem G6 {t key e:TypeId}{y:Operand}{h:X}(j:St F L w) (m:aA L ρ a) (n:∀k,o.dst=some k->k<a.tmps.size)
  (ho:o.op=.range t y) (r:P.underlying t=some (.map key e)) (u:bE y=some h) (b:evalOp P (.mrange h) o.dst F L ρ K):o.wp P a w (br F L w a K) Q:=by
 have q:=aD u m;simp only[evalOp] at b;split at b
 case h_2=>exact b.elim
 rename_i _ g k s l;split at b
 case h_2=>exact b.elim
 rename_i _ hk;obtain⟨km,cs,d,f,b⟩:=b;have hg:=wL j d f;have c:(getObj g).run P w=.ok (.map (aV cs 0).toArray cs.length) w:=by simp[getObj,Sem.run,hg]
 have b:=b w.heap.size;obtain⟨h1,p,z⟩:=lK j hk (ob:=.mapIter (some g) cs.length #[] cs.length) (e:=.box w.heap.size 0 [.tuple #[.map (some g),.int .i64 cs.length]]) rfl (by show _=_;rw[gV];simp[mO,gS]);refine jw m n (v:=.pointer (some ⟨w.heap.size,0,none⟩)) (x:=.own k 0) ?_ h1 p ?_ ?_ (fun _ _ e=>by cases e) z b
 ·simp[execOp,ho,Instr.range,q,cL s,run_underlying r,c]
 ·simp only[conc,Loc.aac,abj]
 ·rintro k' off e;injection e with e1 e2
  subst e1;exact⟨_,_,_,by rw[Loc.aac,fo rfl]⟩
theorem Je {y:Operand}{y':X}(z:St F L w) (he:aA L ρ a) (hd:∀k,o.dst=some k->k<a.tmps.size)
  (ho:o.op=.next y false) (hy:bE y=some y') (r:evalOp P (.mnext y') o.dst F L ρ K):o.wp P a w (br F L w a K) Q:=by
 have ey:=aD hy he;simp only[evalOp] at r;split at r
 case h_2=>exact r.elim
 rename_i k hm;split at r
 case h_2=>exact r.elim
 rename_i gi g n b hk;obtain⟨km,cs,aw,aE,ab,p,u⟩:=r.out;have hg:=wL z aw aE;have ag:w.heap[gi]?=some (.mapIter (some g) n (b.map iE).toArray n):=by
  have h:=z.own k _ hk;simp only[Own.ok,mO,gS] at h;exact h
 have ac:a.eval y=.pointer (some ⟨gi,0,none⟩):=by rw[ey];simp only[val,hm,conc,hk]
 have s:∀x∈(aV cs 0).toArray.toList,x.born<n:=by
  intro x hx;simp only[List.toList_toArray] at hx;obtain⟨j,d⟩:=abb.1 hx;rw[pI] at d;cases l:cs[j]? with
  | none=>rw[l] at d;cases d
  | some v =>
   rw[l] at d;simp only[abl,vz] at d;rw[<-d,lN];have:=(aaR.1 l).1;omega
 rcases run_next_at (P:=P) w o.type gi g n n (b.map iE).toArray (aV cs 0).toArray cs.length ag hg s (aa0 _) with⟨h0,c⟩ | ⟨e,m,w1,t,c⟩
 ·refine bT z he hd (v:=.tuple #[.bool false]) (x:=.v (.tuple #[.bool false])) ?_ rfl cq eI (u fun j d=>?_)
  ·simp only[execOp,ho,ac,Sem.run_bind,c,Result.andThen_ok,Sem.run_pure]
  ·have l:∃v,cs[j]?=some v:=⟨cs[j]'(by omega),aaN (by omega)⟩;obtain⟨v,l⟩:=l;have ae:(aV cs 0)[j]?=some (fP v (0+j)):=by rw[pI,l];rfl
   have q:fP v (0+j)∈aV cs 0:=aaX ae;apply Classical.byContradiction;intro f;have h1:fP v (0+j)∈(leftOf (aV cs 0).toArray (b.map iE).toArray).toList:=by
    unfold leftOf;simp only[Array.toList_filter,List.mem_filter,q,true_and];rw[lN];simpa using f
   have h2:(leftOf (aV cs 0).toArray (b.map iE).toArray)=#[]:=Array.eq_empty_of_size_eq_zero h0;rw[h2] at h1;cases h1
 ·unfold leftOf at m;simp only[Array.toList_filter,List.mem_filter] at m;obtain⟨q,f⟩:=m;obtain⟨j,d⟩:=abb.1 q;rw[pI] at d;cases l:cs[j]? with
  | none=>rw[l] at d;cases d
  | some v =>
   rw[l] at d;simp only[abl,vz,Nat.zero_add] at d;subst d;rw[lN] at c f;have al:j∉b.map iE:=by simpa using f
   have ao:=p j v l al;have ar:St F L w1:=by rcases t with rfl | rfl;exact z;exact z.drew
   obtain⟨h1,h2,h3⟩:=FB ar hk (cs':=.tuple #[.map (some g),.int .i64 n]::(b++[.int .i64 j]));have am:Step F L w F L w1:=by
    rcases t with rfl | rfl
    ·exact Step.refl _ _ _
    ·exact⟨au.le_refl F,rfl,rfl,rfl,aa0 _,fun _ _ _=>rfl,fun _ h=>.inl h,fun _ h=>.inl h⟩
   have aa:gS (.tuple #[.map (some g),.int .i64 n]::(b++[.int .i64 j]))=.mapIter (some g) n ((b.map iE).toArray.push j) cs.length:=by
    simp[gS,iE,ab]
   rw[aa] at h1 h2;refine jw he hd (v:=.tuple #[.bool true,(fP v j).key,(fP v j).val]) (x:=.v (.tuple #[.bool true,(fP v j).key,(fP v j).val])) ?_ h1 (am.trans h2) rfl cq eI h3 ao;simp only[execOp,ho,ac,Sem.run_bind,c,Result.andThen_ok,Sem.run_pure]
theorem G7 {y:Operand}{y':X}(hs:St F L w) (he:aA L ρ a) (hd:∀k,o.dst=some k->k<a.tmps.size)
  (ho:o.op=.entry y) (hy:bE y=some y') (p:evalOp P (.mentry y') o.dst F L ρ K):o.wp P a w (br F L w a K) Q:=by
 have ey:=aD hy he;simp only[evalOp] at p;split at p
 case h_2=>exact p.elim
 rename_i k hm;split at p
 case h_2=>exact p.elim
 rename_i gi g n d hk;obtain⟨km,cs,j,e,ad,ag,z,b,hj,ac⟩:=p.out;have hg:=wL hs ad ag;have r:w.heap[gi]?=some (.mapIter (some g) n (d.map iE).toArray n):=by
  have h:=hs.own k _ hk;simp only[Own.ok,mO,gS] at h;exact h
 have al:a.eval y=.pointer (some ⟨gi,0,none⟩):=by rw[ey];simp only[val,hm,conc,hk]
 have m:∃l,d=l++[.int .i64 (.ofNat j)]:=by
  have s:d≠[]:=by rintro rfl;simp at b
  refine⟨d.dropLast,?_⟩;rw[List.getLast?_eq_some_getLast s] at b;injection b with b
  rw[<-b];exact(List.dropLast_concat_getLast s).symm
 obtain⟨l,rfl⟩:=m;have u:(aV cs 0)[j]?=some (fP e j):=by rw[pI,hj];simp
 have f:(fP e j).born=j:=lN e j;have aa:((aV cs 0).toArray.toList.map (·.born)).Nodup:=by
  have:∀(cs:List Value) (i:Nat),(aV cs i).map (·.born)=List.range' i cs.length:=by
   intro cs
   induction cs with
   | nil=>intro i;rfl
   | cons c cs ih=>intro i;simp[aV,lN,ih,List.range'_succ]
  simp only[List.toList_toArray,this];exact List.nodup_range' ..
 have t:((l++[Value.int .i64 (.ofNat j)]).map iE).toArray=(l.map iE).toArray.push (fP e j).born:=by
  rw[f];simp[iE]
 rw[t,<-z] at r;have q:=run_entry_at (P:=P) w gi g cs.length (l.map iE).toArray (aV cs 0).toArray cs.length (fP e j) r hg (by simpa using aaX u) aa;refine bT hs he hd (v:=.tuple #[(fP e j).key,(fP e j).val]) (x:=.v (.tuple #[(fP e j).key,(fP e j).val])) ?_ rfl cq eI ac;simp only[execOp,ho,al,Sem.run_bind,q,Result.andThen_ok,Sem.run_pure]
end
section
variable {P:Program}{F:au}{L:Loc}{ρ:Env}{a:Act}{w:World}{K:dm}{o:Oper}{Q:Exit->Act->World->Prop}
theorem Ep {zs:List Value}{l:List (Nat×Nat×X)}(h:(l.all fun p=>Nat.ble (p.1+p.2.1) zs.length)=true):∀off n x,(off,n,x)∈l->off+n<=zs.length:=by
 intro off n x b;have:=aaY.1 h _ b;exact aa6 this
set_option maxHeartbeats 1000000 in
theorem fj {own:Bool}{s:dO}(hs:St F L w) (he:aA L ρ a) (q:∀k,o.dst=some k->k<a.tmps.size) (j:gU P own o.op=some s)
  (m:evalOp P s o.dst F L ρ K):o.wp P a w (br F L w a K) Q:=by
 cases p:o.op<;>rw[p] at j<;>simp only[gU] at j<;>try (cases j;done)
 case move y =>
  split at j
  case h_2=>cases j
  rename_i x hx;injection j with j;subst j
  exact IU hs he q (.inl p) hx m
 case assign y =>
  split at j
  case h_2=>cases j
  rename_i x hx;injection j with j;subst j
  exact IU hs he q (.inr p) hx m
 case pick c y z =>
  split at j
  case h_2=>cases j
  rename_i h1 l h3;injection j with j;subst j
  exact LK hs he q p h1 l h3 m
 case box t y =>
  split at j
  case h_2=>cases j
  rename_i h1 al;have al:=abK al;injection j with j
  cases own
  ·subst j;exact P8 hs he q p h1 al m
  ·subst j;exact LN hs he q p h1 m
 case alloc t =>
  split at j
  case h_2=>cases j
  rename_i h1 al;have al:=abK al;split at j
  case h_2=>cases j
  rename_i l;injection j with j;subst j
  exact IW hs he q p h1 l al m
 case buildSlice t n ps =>
  split at j
  case h_2=>cases j
  rename_i h1 l;split at j
  case h_2=>cases j
  rename_i h3;split at j
  case h_2=>cases j
  rename_i h4 h5 h6;have h4:=abt h4;have h5:=abt h5;injection j with j
  cases own
  ·subst j;exact P9 hs he q p h1 h3 h6 l h4 h5.1 m
  ·subst j;exact Qa hs he q p h1 h3 h6 l h4 h5.1 h5.2 m
 case build t ps =>
  split at j
  case h_2=>cases j
  rename_i h1 l;split at j
  case h_2=>cases j
  rename_i h3 h4;split at j
  case h_2=>cases j
  rename_i h5 h6;injection j with j;subst j
  exact IX hs he q p h1 l h3 h4 (fun f hf=>aaY.1 h5 f hf) (Ep h6) m
 case load t y =>
  split at j
  ·rename_i d i x h1 l h3;injection j with j
   refine LP (d:=d) (i:=i) (n:=match eK d with | true=>i.size | false=>1) hs he q p h1 l h3 rfl ?_;cases bd:eK d<;>simp only[bd] at j ⊢<;>subst j<;>exact m
  ·rename_i h1 l h3;cases y with
   | global g =>
    simp only[zC] at j;split at j
    ·rename_i h4;injection j with j;subst j
     exact CI hs he q p h1 l rfl h4 m
    ·cases j
   | tmp n=>cases j
   | const v=>cases j
   | func f=>cases j
  ·rename_i h1 l h3;split at j
   case h_2=>injection j with j;subst j;exact False.elim m
   rename_i h4;injection j with j;subst j
   cases y with
   | global g =>
    simp only[zC] at h4;split at h4
    ·rename_i h5;injection h4 with h4;subst h4
     exact CI hs he q p h1 l rfl h5 m
    ·cases h4
   | tmp n=>cases h4
   | const v=>cases h4
   | func f=>cases h4
  ·injection j with j;subst j
   exact False.elim m
  ·cases j
 case lookup t y z ok =>
  split at j
  ·cases j
  ·split at j
   case h_2=>cases j
   rename_i h1 l h3;split at j
   case h_3=>cases j
   ·rename_i h4 h5;split at j
    case h_2=>cases j
    rename_i h6;injection j with j;subst j
    exact CN (str:=false) hs he q p h1 h4 h5 h6 l h3 m
   ·rename_i h4 h5;split at j
    case h_2=>cases j
    rename_i h6;injection j with j;subst j
    exact CN (str:=true) hs he q p h1 h4 h5 h6 l h3 m
 case makeMap t r =>
  cases r with
  | none =>
   simp only[gU,vz] at j;subst j;exact Jd hs he q p m
  | some r=>simp only[gU] at j;cases j
 case mapUpdate t y z u =>
  split at j
  case h_2=>cases j
  rename_i h1 l h3 h4;split at j
  case h_3=>cases j
  ·rename_i h5;injection j with j;subst j
   exact v9 (str:=false) hs he q (.inl p) h1 h5 l h3 h4 m
  ·rename_i h5;injection j with j;subst j
   exact v9 (str:=true) hs he q (.inl p) h1 h5 l h3 h4 m
 case insert t y z u =>
  split at j
  case h_2=>cases j
  rename_i h1 l h3 h4;split at j
  case h_3=>cases j
  ·rename_i h5;injection j with j;subst j
   exact v9 (str:=false) hs he q (.inr p) h1 h5 l h3 h4 m
  ·rename_i h5;injection j with j;subst j
   exact v9 (str:=true) hs he q (.inr p) h1 h5 l h3 h4 m
 case range t y =>
  split at j
  case h_2=>cases j
  rename_i h1 l;injection j with j;subst j
  exact G6 hs he q p h1 l m
 case entry y =>
  split at j
  case h_2=>cases j
  rename_i h1;injection j with j;subst j
  exact G7 hs he q p h1 m
 case next y b =>
  cases b with
  | true=>simp only[gU] at j;cases j
  | false =>
   simp only[gU] at j;split at j
   case h_2=>cases j
   rename_i h1;injection j with j;subst j
   exact Je hs he q p h1 m
 case store t y z =>
  split at j
  case h_2=>cases j
  rename_i h1 l h3;split at j
  case h_1=>cases j
  rename_i h4;have h4:=abK h4;injection j with j;subst j
  exact I8 hs he q p h1 h4 l h3 m
 case makeInterface t y =>
  split at j
  ·cases j
  ·rename_i d x h1 l h3;injection j with j;subst j
   exact LW hs he q p l h1 h3 m
  ·cases j
 case typeAssert y xt t ok =>
  cases ok with
  | false=>cases j
  | true =>
   simp only[] at j;split at j
   ·cases j
   ·rename_i d i x h4 h1 l h3;split at j
    case h_2=>cases j
    rename_i h5;injection j with j;subst j
    exact Qg hs he q p h1 h4 l h5 h3 m
   ·cases j
 case panic y =>
  split at j
  case h_2=>cases j
  injection j with j;subst j
  exact m.elim
 case nilCheck y =>
  split at j
  case h_2=>cases j
  rename_i h1 l;injection j with j;subst j
  exact I7 hs he q p h1 l m
 case binOp op t y z t' =>
  split at j
  case h_2=>cases j
  rename_i d x1 x2 h1 l h3;split at j<;>first
   | (cases j;done)
   | (injection j with j;subst j;first
     | exact IY (neg:=false) hs he q p h1 l h3 m
     | exact IY (neg:=true) hs he q p h1 l h3 m
     | exact I0 (neg:=false) hs he q p h1 l h3 m
     | exact I0 (neg:=true) hs he q p h1 l h3 m
     | exact Qb hs he q p l h3 m)
   | (split at j
      case h_2=>cases j
      rename_i k1 k2 k3;injection j with j;subst j
      first
       | exact I5 (neg:=false) hs he q p h1 k1 k2 k3 l h3 m
       | exact I5 (neg:=true) hs he q p h1 k1 k2 k3 l h3 m)
   | (split at j
      case h_2=>cases j
      rename_i k1;injection j with j;subst j
      first
       | exact I3 (neg:=false) hs he q p h1 l h3 k1 m
       | exact I3 (neg:=true) hs he q p h1 l h3 k1 m)
 case unOp op t y =>
  split at j
  case h_2=>cases j
  rename_i h1;injection j with j;subst j
  exact R8 hs he q p h1 m
 case convert s t y =>
  split at j
  case h_2=>cases j
  rename_i h1 l h3;injection j with j;subst j
  exact LQ hs he q p h1 l h3 m
 case makeFunc fn fi ca =>
  cases fn<;>simp only[] at j<;>try (cases j;done)
  ·split at j
   case h_2=>cases j
   rename_i h1 l;injection j with j;subst j
   exact LR hs he q p h1 l m
  ·split at j
   case h_2=>cases j
   rename_i h1 l;injection j with j;subst j
   exact LX hs he q p h1 l m
 case makeSlice t y z =>
  split at j
  case h_2=>cases j
  rename_i h1 l h3;split at j
  case h_2=>cases j
  rename_i h4;split at j
  case h_2=>cases j
  rename_i h5;split at j
  case h_2=>cases j
  rename_i h6 h7;injection j with j;subst j
  exact I9 hs he q p h1 h4 h5 (abt h6) (abt h7) l h3 m
 case slice t y lo up mx =>
  cases mx<;>simp only[] at j<;>try (cases j;done)
  split at j
  case h_2=>cases j
  ·rename_i h1 l h3 h4;split at j
   case h_2=>cases j
   rename_i h5;injection j with j;subst j
   exact Qh hs he q p h1 h5 l h3 h4 m
 case fieldAddr t y f =>
  split at j
  case h_2=>cases j
  rename_i h1 l;split at j
  case h_2=>cases j
  rename_i h3;split at j
  case h_2=>cases j
  rename_i h4;split at j
  case h_1=>cases j
  rename_i h5;injection j with j;subst j
  exact GZ hs he q p h1 h3 h4 (abK h5) l m
 case indexAddr t y z =>
  split at j
  case h_2=>cases j
  rename_i h1 l h3;split at j
  case h_2=>cases j
  rename_i h4;injection j with j;subst j
  exact LV hs he q p h1 h4 l h3 m
 case extract y i =>
  split at j
  case h_2=>cases j
  rename_i h1;injection j with j;subst j
  exact LS hs he q p h1 m
 case call c =>
  split at j
  case h_1=>cases j
  rename_i args ag;split at j
  ·rename_i f hc;split at j
   case h_2=>cases j
   split at j
   case h_2=>cases j
   injection j with j;subst j
   exact LY hs he q p hc ag m
  ·rename_i y hc;split at j
   case h_2=>cases j
   rename_i h1;injection j with j;subst j
   exact Jc hs he q p hc h1 ag m
  ·rename_i n nm hc;injection j with j;subst j
   exact Qj hs he q p hc ag m
  ·cases j
  ·rename_i b hc;have one:∀{x:X},args=[x]->∃y,c.args=#[y]/\bE y=some x:=by
    intro x e;subst e
    match ar:c.args.toList,ag with
    | [],h=>simp[gh] at h
    | [y],h =>
     refine⟨y,by apply Array.ext';simpa using ar,?_⟩;simp only[gh] at h;split at h
     case h_2=>cases h
     rename_i h1 l;injection h with h
     injection h with h _
     rw[h1,h]
    | y::z::r,h =>
     simp only[gh] at h;split at h
     case h_2=>cases h
     rename_i h1 l;injection h with h
     injection h with _ h
     subst h;split at l
     ·injection l with l;cases l
     ·cases l
   have two:∀{x x':X},args=[x,x']->∃y y',c.args=#[y,y']/\bE y=some x/\bE y'=some x':=by
    intro x x' e;subst e
    match ar:c.args.toList,ag with
    | [],h=>simp[gh] at h
    | [y],h =>
     simp only[gh] at h;split at h
     case h_2=>cases h
     rename_i h1 l;injection l with l
     injection h with h
     injection h with _ h
     rw[h] at l;cases l
    | [y,y'],h =>
     refine⟨y,y',by apply Array.ext';simpa using ar,?_⟩;simp only[gh] at h;split at h
     case h_2=>cases h
     rename_i h1 l;injection h with h
     injection h with h h'
     split at l
     case h_2=>cases l
     rename_i h3 h4;injection l with l
     rw[<-l] at h';injection h' with h' _
     exact⟨by rw[h1,h],by rw[h3,h']⟩
    | y::z::u::r,h =>
     simp only[gh] at h;split at h
     case h_2=>cases h
     rename_i h1 l;injection h with h
     injection h with _ h
     subst h;split at l
     case h_2=>cases l
     rename_i h3 h4;injection l with l
     injection l with _ l
     subst l;split at h4
     ·injection h4 with h4;cases h4
     ·cases h4
   have bb:∀{t:TypeId},c.argTypes.toList=[t]->c.argTypes=#[t]:=fun e=>by apply Array.ext';simpa using e
   have bj:∀{t t':TypeId},c.argTypes.toList=[t,t']->c.argTypes=#[t,t']:=fun e=>by apply Array.ext';simpa using e
   split at j
   ·rename_i x t ao;obtain⟨y,ha,hy⟩:=one rfl;split at j
    ·rename_i h1;injection j with j;subst j
     exact Qe hs he q p hc ha (bb ao) h1 hy m
    ·cases j
   ·injection j with j;subst j
    exact O7 (mx:=true) hs he q p hc ag m
   ·injection j with j;subst j
    exact O7 (mx:=false) hs he q p hc ag m
   ·rename_i x x' t t' ao;obtain⟨y,y',ha,hy,aE⟩:=two rfl;split at j
    ·rename_i h1 l;split at j
     case h_2=>cases j
     rename_i h3;split at j
     case h_2=>cases j
     rename_i h4;split at j
     case h_2=>cases j
     rename_i h5 h6 h7;have h5:=abt h5;subst h5;injection j with j;subst j
     exact Qi hs he q p hc ha (bj ao) h1 h3 h4 (abt h6) (abt h7) hy aE m
    ·cases j
   ·cases j
end
structure cT where
 n:Nat
 own:List Nat:=[]
 frz:List (Nat×Nat×List Nat):=[]
 ord:List (Nat×List Nat×List (List Nat)):=[]
 co:List Nat:=[]
 pan:List (Nat×Nat):=[]
 bx:List Nat:=[]
 fl:List Nat:=[]
 px:List Nat:=[]
 bk:List (Nat×Nat):=[]
def vk:List (Nat×Nat)->Nat->Nat->Bool
 | [],_,_=>false
 | (r,i)::l,b,c=>match Nat.beq r b&&Nat.beq i c with | true=>true | false=>vk l b c
def mQ (b:Bool) (d:Option Nat) (s:dO) (g:Option (Nat×Bool)):ai:=match b with | true=>.pc d s g | false=>.op d s g
def cT.owned (A:cT):Option Nat->Bool
 | some d=>fe A.own d
 | none=>false
def cT.isO (A:cT):Option Nat->Bool
 | some d=>fe A.co d
 | none=>fe A.co 999999
def cT.isX (A:cT):Option Nat->Bool
 | some d=>fe A.px d
 | none=>fe A.px 999999
def Jf:List (Nat×Nat×List Nat)->Nat->Nat->List Nat
 | [],_,_=>[]
 | (r,i,ks)::l,b,c=>match Nat.beq r b&&Nat.beq i c with | true=>ks | false=>Jf l b c
def Jg:List (Nat×List Nat×List (List Nat))->Nat->Option (List Nat×List (List Nat))
 | [],_=>none
 | (r,is)::l,b=>match Nat.beq r b with | true=>some is | false=>Jg l b
def CO (l:List (Nat×List Nat×List (List Nat))) (r:Nat):List Nat:=match Jg l r with | some (is,_)=>is | none=>[]
def gW (c:Array Oper):Option (Nat×Bool)->Option (Option (Nat×Bool))
 | none=>some none
 | some (j,b)=>match(c[j]?).bind (·.dst) with
  | some d=>some (some (d,b))
  | none=>none
def O8 (n:Nat):Option Nat->Bool
 | none=>true
 | some d=>Nat.blt d n
def pJ (P:Program) (A:cT) (r:Nat) (b:Array Oper):List Nat->Option (List ai)
 | []=>some []
 | i::is=>match b[i]? with
  | none=>none
  | some o=>match gW b o.guard,gU P (A.owned o.dst) o.op,O8 A.n o.dst,pJ P A r b is with
   | some g,some s,true,some c=>some ((Jf A.frz r i).map .frz++mQ (vk A.pan r i) o.dst s g::c)
   | _,_,_,_=>none
section
variable {P:Program}{F:au}{L:Loc}{ρ:Env}{a:Act}{w:World}{K:dm}{Q:Exit->Act->World->Prop}
def dY (n:Nat) (F:au) (L:Loc) (w:World) (a:Act) (asg:List Nat) (K:dm) (a':Act) (w':World):Prop :=
 ∃F' L' ρ',St F' L' w'/\aA L' ρ' a'/\a'.tmps.size=n/\a'.defers=a.defers/\Step F L w F' L' w'/\(∀j,j∉asg->a'.tmps.getD j undef=a.tmps.getD j undef)/\K F' L' ρ'
theorem qx {k:Nat}{KK:au->Loc->Prop}(hs:St F L w) (he:aA L ρ a) (h:O6 F L k KK):∃F' L',St F' L' w/\aA L' ρ a/\Step F L w F' L' w/\KK F' L':=by
 obtain⟨v,t,sz,n,xs,hk,hK⟩:=h;have d:=hs.own k _ hk;simp only[Own.ok] at d;have s:=hs.part (Loc.aaz L k);have m:aA (L.del k) ρ a:=by
  have hb:∀j g ty cs,L.get j=some (.box g ty cs)->(L.del k).get j=some (.box g ty cs):=by
   intro j g ty cs e;rw[Loc.aaf];split
   ·rename_i hj;subst hj;rw[hk] at e;cases e
   ·exact e
  refine⟨fun j=>?_,fun j o off e=>?_,he.el⟩
  ·rw[he.eq j];cases e:ρ j with
   | v x=>rfl
   | el x y=>rfl
   | own o off =>
    obtain⟨g,ty,cs,c⟩:=he.own j o off e;simp only[conc,c,hb o g ty cs c]
  ·obtain⟨g,ty,cs,c⟩:=he.own j o off e;exact⟨g,ty,cs,hb o g ty cs c⟩
 have al:∀g,v.ownBlock=some g->¬(L.del k).owns g:=by
  rintro g c ⟨j,p,e,hb⟩;rw[Loc.aaf] at e;split at e
  ·cases e
  ·rename_i hj;exact hj (hs.sep j k p _ g e hk hb c)
 obtain⟨hx,f⟩:=d;rcases f with⟨rfl,rfl⟩ | ⟨g,cap,ag,rfl,ar,c,ad,ao,an,l⟩
 ·refine⟨F,L.del k,s,m,⟨au.le_refl F,rfl,rfl,rfl,aa0 _,fun _ _ _=>rfl,fun b h=>.inl h,fun b h=>.inl (Loc.aaw h)⟩,hK F (au.le_refl F) (.inl ⟨rfl,rfl,abE (by simpa using hx)⟩)⟩
 ·have q:=au.aav hs c;refine⟨_,L.del k,s.freeze c (al g rfl),m,⟨q,rfl,rfl,rfl,aa0 _,fun _ _ _=>rfl,fun b h=>?_,fun b h=>.inl (Loc.aaw h)⟩,hK _ q (.inr ⟨⟨g,0,none⟩,cap,rfl,⟨_,ag,t,(0,0),rfl,fo rfl,rfl,fun i u z=>?_⟩,ad⟩)⟩
  ·by_cases r:b=g
   ·subst r;exact .inr (.inl ⟨k,_,hk,rfl⟩)
   ·simp only[fL r] at h;exact .inl h
  ·rw[<-l,abH] at z;split at z
   ·simpa using z
   ·cases z
theorem rJ {k g:Nat}{t:TypeId}{cs:List Value}(m:St F L w) (s:aA L ρ a) (n:L.get k=some (.box g t cs)) :
  ∃F',F.le F'/\F' g=some (mO t cs)/\St F' (L.del k) w/\aA (L.del k) (wD k g ρ) a/\Step F L w F' (L.del k) w:=by
 have u:=m.own k _ n;simp only[Own.ok] at u;have z:=m.part (Loc.aaz L k);have l:=au.aav m u;have r:¬(L.del k).owns g:=by
  rintro⟨j,p,e,hb⟩;rw[Loc.aaf] at e;split at e
  ·cases e
  ·rename_i hj;exact hj (m.sep j k p _ g e n hb rfl)
 refine⟨_,l,fo rfl,z.freeze u r,⟨fun j=>?_,fun j q off e=>?_,fun j ad i e=>?_⟩,⟨l,rfl,rfl,rfl,aa0 _,fun _ _ _=>rfl,fun b h=>?_,fun b h=>.inl (Loc.aaw h)⟩⟩
 ·rw[s.eq j];simp only[wD];cases e:ρ j with
  | v x=>rfl
  | el x y=>rfl
  | own q off =>
   simp only[];cases hb:Nat.beq q k with
   | true =>
    have:=aaO hb;subst this;simp only[conc,n]
   | false =>
    have c:q≠k:=fun e=>by rw[e] at hb;simp at hb
    simp only[conc];rw[Loc.aaf,fL c]
 ·simp only[wD] at e;split at e
  ·rename_i o d e2;cases hb:Nat.beq o k with
   | true=>rw[hb] at e;cases e
   | false =>
    rw[hb] at e;injection e with e3 e4
    subst e3;have c:o≠k:=fun e=>by rw[e] at hb;simp at hb
    rw[Loc.aaf,fL c];exact s.own j o d e2
  ·cases e
  ·cases e
 ·simp only[wD] at e;split at e
  ·split at e<;>cases e
  ·cases e
  ·rename_i a2 i2 e2;injection e with h1 h2
   subst h1;exact s.el j _ _ e2
 ·by_cases f:b=g
  ·subst f;exact .inr (.inl ⟨k,_,n,rfl⟩)
  ·simp only[fL f] at h;exact .inl h
theorem qy {s:Nat}{b:Bool}(h:a.tmps.getD s undef=.bool b):a.tmps[s]?=some (.bool b):=by
 rw[aa4] at h;cases e:a.tmps[s]? with
 | none=>rw[e] at h;simp[undef] at h
 | some v=>rw[e] at h;simp at h;rw[h]
theorem kE {ρ:Env}{s:Nat}{v:Value}(h:ρ s=.v v):put (some s) (.v v) ρ=ρ:=by
 funext t
 rw[put_eq];simp only[];split
 ·rename_i h1;subst h1;exact h.symm
 ·rfl
def dstsOf (b:Array Oper):List Nat->List Nat
 | []=>[]
 | i::is=>match(b[i]?).bind (·.dst) with | some d=>d::dstsOf b is | none=>dstsOf b is
theorem jY {d:Option Nat}{v:Value}{j:Nat}(h:d≠some j):(a.put d v).tmps.getD j undef=a.tmps.getD j undef:=by
 cases d with
 | none=>rfl
 | some k =>
  simp only[Act.put,aa4,Array.getElem?_setIfInBounds];rw[fL (by intro e;exact h (by rw[e]))]
theorem pK {o:Oper}{asg:List Nat}{KK:Act->World->Prop}(b:o.wp P a w KK Q) :
  o.wp P a w (fun a' w'=>KK a' w'/\∀j,o.dst≠some j->a'.tmps.getD j undef=a.tmps.getD j undef) Q:=by
 unfold Oper.wp at b ⊢;generalize(execOp a.eval o).run P w=r at b ⊢;cases r with
 | ok f w' =>
  cases f<;>simp only[Oper.upon] at b ⊢<;>first
   | exact⟨b,fun j h=>jY h⟩
   | exact Calls.mono b (fun e d c=>by cases e<;>first | exact⟨c,fun j h=>jY h⟩ | exact c)
   | exact Rows.mono b (fun v d c=>⟨c,fun j h=>jY h⟩)
 | halt x w'=>cases x<;>simp only[Oper.upon] at b ⊢<;>exact b
theorem uo {c:Code}(I:Nat->Act->World->Prop) (t:∃n,I n a w)
  (q:∀n a w,I n a w->c.wp P (Exit.then (fun a' w'=>∃m,m<n/\I m a' w') Q) a w):(Code.loop c).wp P Q a w:=by
 intro b k cs;have key:∀n a w,I n a w->∃e a' w',Q e a' w'/\Arrives P (lone (b.at a (.code c::.inLoop c::k)) cs w) b k cs e a' w':=by
  intro n
  induction n using Nat.strongRecOn with
  | _ n ih =>
   intro a w y;obtain⟨e,h,f,o,d⟩:=q n a w y b (.inLoop c::k) cs;cases e with
   | normal =>
    obtain⟨m,z,r⟩:=o;obtain⟨v,s,u,p,j⟩:=ih m z h f r;exact⟨v,s,u,p,.of_steps (Steps.trans d (.one step_inLoop)) j⟩
   | exit id=>exact⟨_,h,f,o,.pass (x:=.inLoop c) rfl (fun _ _=>.inl (by simp)) d⟩
   | goto l=>exact⟨_,h,f,o,.pass (x:=.inLoop c) rfl (fun _ _=>.inl (by simp)) d⟩
   | ret=>exact⟨_,h,f,o,.pass (x:=.inLoop c) rfl (fun _ _=>.inl (by simp)) d⟩
   | panic ch=>exact⟨_,h,f,o,.pass (x:=.inLoop c) rfl (fun _ _=>.inl (by simp)) d⟩
   | outgrown=>exact⟨_,h,f,o,.pass (x:=.inLoop c) rfl (fun _ _=>.inl (by simp)) d⟩
 obtain⟨n,y⟩:=t;obtain⟨e,a',w',o,d⟩:=key n a w y;exact⟨e,a',w',o,.of_steps (.one step_loop) d⟩
theorem qz:∀{L L':Loc},L.keeps L'->∀{k g t cs},L.get k=some (.box g t cs)->∃cs',L'.get k=some (.box g t cs')
 | [],L',_,k,g,t,cs,e=>by cases e
 | (j,.box d c cs')::l,L',h,k,g,t,cs,e=>by
  simp only[Loc.keeps] at h;simp only[Loc.get] at e;split at e
  ·rename_i b;have:=aaO b;subst this;injection e with e
   injection e with e1 e2 e3
   subst e1 e2;exact h.1
  ·exact qz h.2 e
 | (j,.row ..)::l,L',h,k,g,t,cs,e=>by
  simp only[Loc.keeps] at h;simp only[Loc.get] at e;split at e
  ·cases e
  ·exact qz h e
theorem lH {L:Loc}:∀{L':Loc},L.gives L'->∀{k o},L'.get k=some o->L.get k=some o\/(L.get k=none/\∃t sz,o=.row (.slice none 0 0) t sz 0 [])
 | [],_,k,o,e=>by cases e
 | (j,p)::l,h,k,o,e=>by
  simp only[Loc.gives] at h;simp only[Loc.get] at e;split at e
  ·rename_i b;have:=aaO b;subst this;injection e with e
   subst e;exact h.1
  ·exact lH h.2 e
theorem St.gives {L':Loc}(b:St F L w) (h:L.gives L'):St F L' w:=by
 refine⟨b.frz,fun k o e=>?_,fun k o g e hb=>?_,fun k f o o' g e l hb c=>?_,b.glob⟩
 ·rcases lH h e with h1 | ⟨_,t,sz,rfl⟩
  ·exact b.own k o h1
  ·exact World.ownsRow_nil w 0 t sz
 ·rcases lH h e with h1 | ⟨_,t,sz,rfl⟩
  ·exact b.off k o g h1 hb
  ·cases hb
 ·rcases lH h e with h1 | ⟨_,t,sz,rfl⟩<;>rcases lH h l with d | ⟨_,m,j,rfl⟩
  ·exact b.sep k f o o' g h1 d hb c
  ·cases c
  ·cases hb
  ·cases hb
theorem rK {L':Loc}(h:L.gives L'):Step F L w F L' w :=
 ⟨au.le_refl F,rfl,rfl,rfl,aa0 _,fun _ _ _=>rfl,fun b h=>.inl h,fun b ⟨k,o,e,hb⟩=>by
  rcases lH h e with h1 | ⟨_,t,sz,rfl⟩
  ·exact .inl ⟨k,o,h1,hb⟩
  ·cases hb⟩
theorem cN:∀{l:List Nat}{k:Nat},fe l k=true↔k∈l
 | [],k=>by simp[fe]
 | j::l,k=>by
  simp only[fe];split
  ·rename_i h;have:=aaO h;subst this;simp
  ·rename_i h;have:=gb h;rw[cN];simp only[aaT];constructor
   ·exact .inr
   ·rintro(h | h)
    ·exact o5 h.symm this
    ·exact h
theorem oe:∀(b:List Nat) (c:List Value) (ρ:Env) (j:Nat),(puts b (c.map .v) ρ j=ρ j)\/∃v,puts b (c.map .v) ρ j=.v v
 | [],c,ρ,j=>.inl rfl
 | k::b,[],ρ,j=>.inl rfl
 | k::b,v::c,ρ,j=>by
  simp only[aaW,puts,put_eq];split
  ·exact .inr ⟨v,rfl⟩
  ·exact oe b c ρ j
theorem wM {L:Loc}:∀(c:List Nat) (d:List Value) (ρ b:Env) {a:Act},(∀t,a.tmps.getD t undef=conc L (ρ t))->holds c (d.map .v) ρ->∀j,(∃v,puts c (d.map .v) b j=.v v/\a.tmps.getD j undef=v)\/puts c (d.map .v) b j=b j
 | [],d,ρ,b,a,e,h,j=>.inr rfl
 | k::c,[],ρ,b,a,e,h,j=>.inr rfl
 | k::c,v::d,ρ,b,a,e,h,j=>by
  simp only[aaW,holds] at h;simp only[aaW,puts,put_eq];split
  ·rename_i f;subst f;exact .inl ⟨v,rfl,by rw[e,h.1];rfl⟩
  ·exact wM c d ρ b e h.2 j
end
def bn:dO->List X
 | .mov x | .nilck x | .conv _ x | .un _ x | .eqN _ x | .fieldA _ x | .extr x _ | .len x | .loadD _ _ x | .boxD _ x | .loadK _ _ _ x | .loadF _ _ x | .loadR _ _ x | .makeSV _ _ _ _ x=>[x]
 | .mlook _ _ _ x i=>[x,i]
 | .pick c a b=>[c,a,b]
 | .bin _ x y | .eqB _ x y | .eqS _ x y | .eqA _ _ x y | .idxA _ x y=>[x,y]
 | .build _ ps=>ps.map (·.2.2)
 | .mkfn _ a b=>a++b
 | .slc _ x lo hi=>x::(lo.toList++hi.toList)
 | .mm _ l | .mkFD _ _ _ l=>l
 | .callD _ l=>l
 | .callVD f l=>f::l
 | .allocD _ _=>[]
 | .appD _ _ _ _ s x=>[s,x]
 | .storeD _ a x=>[a,x]
 | .storeK _ _ a x=>[a,x]
 | _=>[]
def cO:dO->Bool
 | .mov _ | .nilck _ | .conv _ _ | .un _ _ | .fieldA _ _ | .extr _ _ | .len _ | .loadD _ _ _ | .pick _ _ _
 | .bin _ _ _ | .eqB _ _ _ | .eqS _ _ _ | .eqN _ _ | .eqA _ _ _ _ | .idxA _ _ _ | .build _ _ | .mkfn _ _ _ | .slc _ _ _ _ | .mm _ _ | .loadK _ _ _ _ | .loadF _ _ _ | .gload _ | .loadR _ _ _ | .mlook _ _ _ _ _=>true
 | _=>false
def Jh:dO->Bool
 | .loadR _ _ _ | .mlook _ _ _ _ _=>true
 | _=>false
def gM:dO->Bool
 | .callD _ _ | .callVD _ _=>true
 | _=>false
def dV:dO->Bool
 | .mkFD _ _ _ _ | .boxD _ _ | .allocD _ _ | .makeSD _ _ _ _ | .makeSV _ _ _ _ _=>true
 | _=>false
def oZ:dO->Bool
 | .appD _ _ _ _ _ _=>true
 | _=>false
def iz:dO->Bool
 | .storeD _ _ _=>true
 | .storeK _ _ _ _=>true
 | _=>false
def CP:dO->Bool
 | .mov _ | .nilck _ | .conv _ _ | .un _ _ | .fieldA _ _ | .extr _ _ | .len _ | .pick _ _ _
 | .bin _ _ _ | .eqB _ _ _ | .eqS _ _ _ | .eqN _ _ | .eqA _ _ _ _ | .idxA _ _ _ | .slc _ _ _ _ | .mm _ _=>true
 | _=>false
theorem CQ {o:dO}(h:CP o=true):cO o=true:=by cases o<;>first | rfl | cases h
theorem zN {o:dO}(h:CP o=true) {F F':au}{L L':Loc}{ρ:Env}{V:SV->Prop}(a:aJ o F L ρ V):aJ o F' L' ρ V:=by
 cases o<;>first | (cases h;done) | exact a
def drawn:dO->Option dO
 | .load a n x=>some (.loadD a n x)
 | .call f l=>some (.callD f l)
 | .callV f l=>some (.callVD f l)
 | .box t x=>some (.boxD t x)
 | .alloc t z=>some (.allocD t z)
 | .mkF e n sz l=>some (.mkFD e n sz l)
 | .app e sz b z s x=>some (.appD e sz b z s x)
 | .store n a x=>some (.storeD n a x)
 | .boxD _ _ | .allocD _ _ | .mkFD _ _ _ _ | .callD _ _ | .callVD _ _ | .loadD _ _ _ | .appD _ _ _ _ _ _ | .storeD _ _ _ | .boxF _ _ | .callO _ _ | .callVO _ _ | .appX _ _ _ _ _ _ | .makeSD _ _ _ _ | .makeSV _ _ _ _ _ | .loadK _ _ _ _ | .storeK _ _ _ _ | .storeX _ _ _ | .makeS _ _ _ _ _ _ | .loadF _ _ _ | .loadR _ _ _ | .mkmap | .mupd _ _ _ _ | .mrange _ | .mnext _ | .mentry _=>none
 | o=>some o
def Be:X->Option Int
 | .c (.int _ n)=>some n
 | _=>none
def Qk (b:Nat) (n m:Int):Bool:=Nat.ble (n.toNat*b) 140737488355328&&Nat.ble n.toNat 9223372036854775807&&(match n,m with | .ofNat a,.ofNat b=>Nat.beq a b | _,_=>false)
def og (bx:List Nat):dO->Option dO
 | .makeS e sz b zs l c=>match Be l,Be c with
  | some n,some m=>match Qk b n m with
   | true=>some (.makeSD e sz n.toNat zs)
   | false=>none
  | _,_=>match l,c with
   | .t i,.t j=>match Nat.beq i j with
    | true=>some (.makeSV e sz b zs (.t i))
    | false=>none
   | _,_=>none
 | .mkR e 0 sz []=>some (.makeSD e sz 0 (List.replicate sz undef))
 | .load a n (.t i)=>match fe bx i with | true=>some (.loadK i a n (.t i)) | false=>some (.loadD a n (.t i))
 | .store n (.t i) x=>match fe bx i with | true=>some (.storeK i n (.t i) x) | false=>some (.storeD n (.t i) x)
 | o=>drawn o
def O9:List (Nat×Nat)->Nat->Option Nat
 | [],_=>none
 | (i,k)::l,j=>match Nat.beq i j with | true=>some k | false=>O9 l j
def uq (fl:List Nat) (bk:List (Nat×Nat)) (bx:List Nat):dO->Option dO
 | .load a n (.t i)=>match fe fl i with
  | true=>some (.loadF a n (.t i))
  | false=>match O9 bk i with
   | some key=>match Nat.beq key 999999 with
    | true=>some (.loadR a n (.t i))
    | false=>some (.loadK key a n (.t i))
   | none=>og bx (.load a n (.t i))
 | o=>og bx o
def wN:dO->Option dO
 | .call f l=>some (.callO f l)
 | .callV f l=>some (.callVO f l)
 | .app e sz b z s x=>some (.appX e sz b z s x)
 | .store n a x=>some (.storeX n a x)
 | .mupd str x i v=>some (.mupd str x i v)
 | _=>none
section
variable {P:Program}{F:au}{L:Loc}{ρ:Env}{K:dm}
theorem bZ {o:dO}(h:cO o=true) (d:Option Nat):evalOp P o d F L ρ K=aJ o F L ρ fun v=>K F L (put d v ρ):=by
 cases o<;>first | rfl | cases h
structure One (T:(SV->Prop)->Prop):Prop where
 ex:∀V,T V->∃v,T (fun u=>u=v)/\V v
 mono:∀V V':SV->Prop,(∀v,V v->V' v)->T V->T V'
theorem One.ret (v:SV):One fun V=>V v:=⟨fun V h=>⟨v,rfl,h⟩,fun V V' h k=>h v k⟩
theorem One.no:One fun _=>False:=⟨fun V h=>h.elim,fun V V' h k=>k⟩
theorem One.and {p:Prop}{T:(SV->Prop)->Prop}(h:One T):One fun V=>p/\T V :=
 ⟨fun V ⟨b,a⟩=>let⟨v,h1,h2⟩:=h.ex V a;⟨v,⟨b,h1⟩,h2⟩,fun V V' c ⟨b,a⟩=>⟨b,h.mono V V' c a⟩⟩
theorem One.fit {k:IntKind}{n:Int}{T:Int->(SV->Prop)->Prop}(h:∀m,One (T m)):One fun V=>Fit k n fun m=>T m V :=
 ⟨fun V ⟨a⟩=>let⟨v,h1,h2⟩:=(h _).ex V a;⟨v,⟨h1⟩,h2⟩,fun V V' b ⟨a⟩=>⟨(h _).mono V V' b a⟩⟩
theorem One.nz {n:Int}{T:(SV->Prop)->Prop}(h:One T):One fun V=>P5 n (T V) :=
 ⟨fun V ⟨b,a⟩=>let⟨v,h1,h2⟩:=h.ex V a;⟨v,⟨b,h1⟩,h2⟩,fun V V' c ⟨b,a⟩=>⟨b,h.mono V V' c a⟩⟩
theorem One.idx {a:Option Addr}{i n:Int}{T:(SV->Prop)->Prop}(h:One T):One fun V=>IG a i n (T V) :=
 ⟨fun V ⟨c,d,e,b⟩=>let⟨v,h1,h2⟩:=h.ex V b;⟨v,⟨c,d,e,h1⟩,h2⟩,fun V V' f ⟨c,d,e,b⟩=>⟨c,d,e,h.mono V V' f b⟩⟩
theorem One.slc {l h:Int}{c:Nat}{T:Nat->Nat->(SV->Prop)->Prop}(f:∀l h,One (T l h)):One fun V=>O2 l h c fun l h=>T l h V :=
 ⟨fun V ⟨d,a,e,b⟩=>let⟨v,h1,h2⟩:=(f _ _).ex V b;⟨v,⟨d,a,e,h1⟩,h2⟩,fun V V' j ⟨d,a,e,b⟩=>⟨d,a,e,(f _ _).mono V V' j b⟩⟩
theorem One.loadD {a:Option Addr}{j n:Nat}{T:List Value->(SV->Prop)->Prop}(h:∀cs,One (T cs)):One fun V=>iV F a j n fun cs=>T cs V :=
 ⟨fun V ⟨cs,c,d,b⟩=>let⟨v,h1,h2⟩:=(h _).ex V b;⟨v,⟨cs,c,d,h1⟩,h2⟩,fun V V' e ⟨cs,c,d,b⟩=>⟨cs,c,d,(h _).mono V V' e b⟩⟩
theorem One.aaF {a:Option Addr}{j n:Nat}{T:List Value->(SV->Prop)->Prop}(h:∀cs,One (T cs)):One fun V=>jV F L a j n fun cs=>T cs V :=
 ⟨fun V ⟨cs,c,d,b⟩=>let⟨v,h1,h2⟩:=(h _).ex V b;⟨v,⟨cs,c,d,h1⟩,h2⟩,fun V V' e ⟨cs,c,d,b⟩=>⟨cs,c,d,(h _).mono V V' e b⟩⟩
theorem One.aaJ {g:Nat}{T:Nat->List Value->(SV->Prop)->Prop}(h:∀k cs,One (T k cs)):One fun V=>CA L g fun k cs=>T k cs V :=
 ⟨fun V ⟨k,cs,b,c,a⟩=>let⟨v,h1,h2⟩:=(h _ _).ex V a;⟨v,⟨k,cs,b,c,h1⟩,h2⟩,fun V V' d ⟨k,cs,b,c,a⟩=>⟨k,cs,b,c,(h _ _).mono V V' d a⟩⟩
theorem One.mlk {str:Bool}{cs:List Value}{key:Value}{ok:Bool}{z:Value}:One fun V=>Fx str cs key ok z fun v=>V (.v v) :=
 ⟨fun V h=>by
  rcases h.out with⟨i,v,h1,a⟩ | ⟨h1,a⟩
  ·exact⟨_,⟨.inl ⟨i,v,h1,rfl⟩⟩,a⟩
  ·exact⟨_,⟨.inr ⟨h1,rfl⟩⟩,a⟩,fun V V' b h=>⟨h.out.imp (fun⟨i,v,h1,a⟩=>⟨i,v,h1,b _ a⟩) fun⟨h1,a⟩=>⟨h1,b _ a⟩⟩⟩
theorem One.gl {g:Nat}{T:Value->(SV->Prop)->Prop}(h:∀v,One (T v)):One fun V=>R7 F g fun v=>T v V :=
 ⟨fun V ⟨u,t,a,c,b⟩=>let⟨v,h1,h2⟩:=(h _).ex V b;⟨v,⟨u,t,a,c,h1⟩,h2⟩,fun V V' d ⟨u,t,a,c,b⟩=>⟨u,t,a,c,(h _).mono V V' d b⟩⟩
theorem One.bytes {cs:List Value}{T:List UInt8->(SV->Prop)->Prop}(h:∀a,One (T a)):One fun V=>LJ cs fun a=>T a V :=
 ⟨fun V ⟨a,c,b⟩=>let⟨v,h1,h2⟩:=(h _).ex V b;⟨v,⟨a,c,h1⟩,h2⟩,fun V V' d ⟨a,c,b⟩=>⟨a,c,(h _).mono V V' d b⟩⟩
theorem One.binI {op:BinOp}{k:IntKind}{a b:Int}:One fun V=>binI op k a b fun v=>V (.v v):=by
 cases op<;>simp only[Fr.binI]<;>first
  | exact One.no
  | exact One.ret _
  | exact One.fit fun _=>One.ret _
  | exact One.nz (One.fit fun _=>One.ret _)
  | exact One.nz (One.ret _)
theorem One.shI {op:BinOp}{k:IntKind}{a b:Int}:One fun V=>shI op k a b fun v=>V (.v v):=by
 cases op<;>simp only[Fr.shI]<;>first
  | exact One.no
  | exact One.and (One.fit fun _=>One.ret _)
  | exact One.and (One.ret _)
theorem One.binS {op:BinOp}{a b:ByteArray}:One fun V=>binS op a b fun v=>V (.v v):=by
 cases op<;>simp only[Fr.binS]<;>first
  | exact One.no
  | exact One.ret _
  | exact One.and (One.ret _)
theorem eM {o:dO}(h:cO o=true):One (aJ o F L ρ):=by
 cases o<;>first | (cases h;done) | skip
 case mov x=>exact One.ret _
 case pick c a b =>
  show One fun V=>aJ _ F L ρ V;simp only[aJ];cases e:ev ρ c with
  | v x =>
    cases x<;>try exact One.no
    rename_i b;cases b<;>exact One.ret _
  | own k off=>exact One.no
  | el a j=>exact One.no
 case build zs ps =>
  show One fun V=>aJ _ F L ρ V;simp only[aJ];cases e:built L ρ zs ps with
  | none=>exact One.no
  | some cs=>exact One.ret _
 case loadD ag n x =>
  show One fun V=>aJ _ F L ρ V;simp only[aJ];cases e:ev ρ x with
  | own k off =>
   simp only[];cases m:L.get k with
   | none=>exact One.no
   | some p =>
    cases p with
    | row=>exact One.no
    | box g t cs =>
     simp only[];cases q:i9 t ((cs.drop off).take n) n
     ·exact One.no
     ·exact One.ret _
  | el a j=>exact One.loadD fun _=>One.ret _
  | v x =>
   cases x<;>try exact One.no
   rename_i a;cases a
   ·exact One.no
   ·exact One.loadD fun _=>One.ret _
 case gload g =>
  show One fun V=>aJ _ F L ρ V;simp only[aJ];exact One.gl fun _=>One.ret _
 case loadR ag n x =>
  show One fun V=>aJ _ F L ρ V;simp only[aJ];cases e:ev ρ x with
  | own k off =>
   simp only[];cases m:L.get k with
   | none=>exact One.no
   | some p =>
    cases p with
    | row=>exact One.no
    | box g t cs =>
     simp only[];cases q:i9 t ((cs.drop off).take n) n
     ·exact One.no
     ·exact One.ret _
  | el a j=>exact One.aaF fun _=>One.ret _
  | v x =>
   cases x<;>try exact One.no
   rename_i a;cases a
   ·exact One.no
   ·exact One.aaF fun _=>One.ret _
 case mlook str ok z0 x i =>
  show One fun V=>aJ _ F L ρ V;simp only[aJ];cases e:ev ρ x with
  | own k off=>exact One.no
  | el a j=>exact One.no
  | v x =>
   cases x<;>try exact One.no
   rename_i a;cases a
   ·exact One.no
   ·exact One.aaJ fun k cs=>One.mlk
 case loadF ag n x =>
  show One fun V=>aJ _ F L ρ V;simp only[aJ];cases e:ev ρ x with
  | own k off=>exact One.no
  | el a j=>exact One.loadD fun _=>One.ret _
  | v x =>
   cases x<;>try exact One.no
   rename_i a;cases a
   ·exact One.no
   ·exact One.loadD fun _=>One.ret _
 case loadK key ag n x =>
  show One fun V=>aJ _ F L ρ V;simp only[aJ];cases e:ev ρ x with
  | own k off =>
   simp only[];cases e1:Nat.beq k key with
   | false=>exact One.no
   | true =>
    simp only[];cases m:L.get k with
    | none=>exact One.no
    | some p =>
     cases p with
     | row=>exact One.no
     | box g t cs =>
      simp only[];cases q:i9 t ((cs.drop off).take n) n
      ·exact One.no
      ·exact One.ret _
  | el a j=>exact One.no
  | v x=>exact One.no
 case nilck x =>
  show One fun V=>aJ _ F L ρ V;simp only[aJ];cases e:ev ρ x with
  | own k off=>exact One.ret _
  | el a j=>exact One.and (One.ret _)
  | v x =>
   cases x<;>try exact One.no
   ·rename_i a;cases a
    ·exact One.no
    ·exact One.ret _
   ·rename_i f a b;cases f<;>first
     | exact One.no
     | exact One.ret _
     | (simp only[]
        split
        ·exact One.and (One.ret _)
        ·exact One.no)
 case bin op x y =>
  show One fun V=>aJ _ F L ρ V;simp only[aJ];cases e:ev ρ x with
  | own k off=>exact One.no
  | el a j=>exact One.no
  | v u =>
   cases m:ev ρ y with
   | own k off=>cases u<;>exact One.no
   | el a j=>cases u<;>exact One.no
   | v d =>
    cases u<;>cases d<;>try exact One.no
    ·simp only[];cases IJ op
     ·simp only[];rename_i k n z n';cases pB k z
      ·exact One.no
      ·exact One.binI
     ·exact One.shI
    ·exact One.binS
 case eqB ng x y =>
  show One fun V=>aJ _ F L ρ V;simp only[aJ];cases e:ev ρ x with
  | own k off=>exact One.no
  | el a j=>exact One.no
  | v u =>
   cases m:ev ρ y with
   | own k off=>cases u<;>exact One.no
   | el a j=>cases u<;>exact One.no
   | v d=>cases u<;>cases d<;>first | exact One.no | exact One.ret _
 case eqS ng x y =>
  show One fun V=>aJ _ F L ρ V;simp only[aJ];cases e:ev ρ x with
  | own k off=>exact One.no
  | el a j=>exact One.no
  | v u =>
   cases m:ev ρ y with
   | own k off=>cases u<;>exact One.no
   | el a j=>cases u<;>exact One.no
   | v d =>
    cases u<;>cases d<;>try exact One.no
    rename_i a1 l1 c1 s l2 c2;cases s<;>first | exact One.no | exact One.ret _
 case eqN ng x =>
  show One fun V=>aJ _ F L ρ V;simp only[aJ];cases e:ev ρ x with
  | own k off=>exact One.no
  | el a j=>exact One.no
  | v u=>cases u<;>first | exact One.no | exact One.ret _
 case eqA ng ks x y =>
  show One fun V=>aJ _ F L ρ V;simp only[aJ];cases e:ev ρ x with
  | own k off=>exact One.no
  | el a j=>exact One.no
  | v u =>
   cases m:ev ρ y with
   | own k off=>cases u<;>exact One.no
   | el a j=>cases u<;>exact One.no
   | v d =>
    cases u<;>cases d<;>try exact One.no
    rename_i cs ds;simp only[];cases iO ks cs.toList ds.toList true<;>first | exact One.no | exact One.ret _
 case un op x =>
  show One fun V=>aJ _ F L ρ V;simp only[aJ];cases op<;>cases e:ev ρ x<;>first
   | exact One.no
   | (rename_i u;cases u<;>first | exact One.no | exact One.ret _ | exact One.fit fun _=>One.ret _)
 case conv k x =>
  show One fun V=>aJ _ F L ρ V;simp only[aJ];cases e:ev ρ x<;>first
   | exact One.no
   | (rename_i u;cases u<;>first | exact One.no | exact One.fit fun _=>One.ret _)
 case mkfn f a b=>exact One.ret _
 case slc sz x lo hi =>
  show One fun V=>aJ _ F L ρ V;simp only[aJ];cases e:ev ρ x<;>try exact One.no
  rename_i u;cases u<;>try exact One.no
  rename_i a n c;simp only[];cases mV ρ 0 lo<;>cases mV ρ n hi<;>first | exact One.no | exact One.slc fun _ _=>One.ret _
 case fieldA off x =>
  show One fun V=>aJ _ F L ρ V;simp only[aJ];cases e:ev ρ x with
  | own k off=>exact One.ret _
  | el a j=>exact One.ret _
  | v u =>
   cases u<;>try exact One.no
   rename_i p;cases p<;>first | exact One.no | exact One.ret _
 case idxA sz x i =>
  show One fun V=>aJ _ F L ρ V;simp only[aJ];cases e:ev ρ x with
  | own k off=>exact One.no
  | el a j=>exact One.no
  | v u =>
   cases m:ev ρ i with
   | own k off=>cases u<;>exact One.no
   | el a j=>cases u<;>exact One.no
   | v d=>cases u<;>cases d<;>first | exact One.no | exact One.idx (One.ret _)
 case extr x i =>
  show One fun V=>aJ _ F L ρ V;simp only[aJ];cases e:ev ρ x<;>try exact One.no
  rename_i u;cases u<;>try exact One.no
  rename_i w;simp only[];cases w.toList[i]?<;>first | exact One.no | exact One.ret _
 case len x =>
  show One fun V=>aJ _ F L ρ V;simp only[aJ];cases e:ev ρ x<;>try exact One.no
  rename_i u;cases u<;>first | exact One.no | exact One.ret _
 case mm mx l =>
  show One fun V=>aJ _ F L ρ V;simp only[aJ];cases e:l.map (ev ρ) with
  | nil=>exact One.no
  | cons u r =>
   cases u<;>try exact One.no
   rename_i u;cases u<;>try exact One.no
   rename_i k a0;simp only[];cases O5 mx a0 r<;>first | exact One.no | exact One.ret _
end
theorem rL {P:Program}{s s':dO}{d:Option Nat}{F:au}{L:Loc}{ρ:Env}{K:dm}(h:drawn s=some s') (ag:(cO s'||gM s'||dV s'||oZ s'||iz s')=true) (z:gM s'=false) (f:evalOp P s' d F L ρ K):evalOp P s d F L ρ (fun F' L' ρ'=>Real F' L'->K F' L' ρ'):=by
 have load:∀{a:Option Addr}{j n:Nat}{KK KK':List Value->Prop},iV F a j n KK->(∀cs,KK cs->KK' cs)->jV F L a j n KK':=by
  rintro a j n KK KK' ⟨cs,h1,p,h3⟩ r;exact⟨cs,h1,by rcases p with p | p;exact .inl p;exact .inr (.inr (.inl p)),r _ h3⟩
 have app:∀{e sz b:Nat}{sv xv:Value}{KK KK':Loc->Value->Prop},pA F L d e sz b sv xv KK->(∀L' v,(Real F L'->KK L' v)->KK' L' v)->Fw F L e sz b sv xv KK':=by
  rintro e sz b sv xv KK KK' ⟨kd,n,xs,m,w,h1,⟨ad,c,p,h3,r⟩,h5,h6,h7,h8⟩ hk;refine⟨kd,n,xs,m,w,?_,⟨ad,c,p,h3,?_⟩,h5,h6,h7,fun v hv=>hk _ _ (h8 v hv)⟩
  ·rcases h1 with h1 | ⟨_,h1⟩ | ⟨_,h1⟩
   ·exact .inl h1
   ·exact .inr (.inl h1)
   ·exact .inr (.inr h1)
  ·rcases r with r | r
   ·exact .inl r
   ·exact .inr (.inl r)
 by_cases y:cO s'=true
 ·have q:=y;have h1:∀V V':SV->Prop,(∀v,V v->V' v)->aJ s' F L ρ V->aJ s F L ρ V':=by
   intro V V' hV o;have o:=(eM q).mono V V' hV o;cases s<;>simp only[drawn,vz,reduceCtorEq] at h<;>subst h<;>first
    | exact o
    | (simp only[aJ] at o ⊢
       split at o
       ·exact o
       ·exact load o fun _ h=>h
       ·exact load o fun _ h=>h
       ·exact o)
    | (simp only[aJ] at o ⊢
       split at o
       ·exact load o fun _ h=>h
       ·exact o)
    | (exfalso;revert y;simp[cO];done)
  rw[bZ q] at f;have p:=h1 _ (fun v=>Real F L->K F L (put d v ρ)) (fun v hv _=>hv) f;cases s<;>simp only[drawn,vz,reduceCtorEq] at h<;>subst h<;>first
   | exact p
   | (exfalso;revert y;simp[cO];done)
 ·by_cases u:iz s'=true
  ·cases s<;>simp only[drawn,vz,reduceCtorEq] at h<;>subst h<;>first | (cases u;done) | skip
   rename_i n a x;have l:(match gQ (aM (val L ρ x)) n,jQ (aM (val L ρ x)),ev ρ a with
    | true,true,.own k off=>match L.get k with
     | some (.box g t cs)=>match i9 t ((cs.drop off).take n) n with
      | true=>K F (L.set k (.box g t (bO cs off (aM (val L ρ x))))) (put d (.v undef) ρ)
      | false=>False
     | _=>False
    | _,_,_=>False):=f
   clear f
   split at l
   case h_2=>exact l.elim
   rename_i e1 e2 e3;split at l
   case h_2=>exact l.elim
   rename_i e4;split at l
   case h_2=>exact l.elim
   rename_i e5;simp only[evalOp,e1,e2,e3,e4,e5];exact fun _=>l
  cases s<;>simp only[drawn,vz,reduceCtorEq] at h<;>subst h<;>first
   | (exfalso;revert y ag u;simp[cO,gM,dV,oZ,iz];done)
   | (cases z;done)
   | (simp only[evalOp] at f ⊢
      split at f
      ·exact app f fun _ _ h=>h
      ·exact f)
   | (simp only[evalOp] at f ⊢
      split at f
      ·split at f
       ·exact f
       ·exact f
      ·exact f)
   | (simp only[evalOp] at f ⊢
      split at f
      ·exact fun g F' ac hg hr=>f g F' ac hg hr
      ·exact f)
section
variable {P:Program}{F:au}{L:Loc}{ρ:Env}{K:dm}
def Alike (o:dO) (L L':Loc) (ρ ρ':Env):Prop:=∀x∈bn o,ev ρ' x=ev ρ x/\∀k off,ev ρ x=.own k off->L'.get k=L.get k
theorem Alike.val {o:dO}{L L':Loc}{ρ ρ':Env}(h:Alike o L L' ρ ρ') {x:X}(c:x∈bn o):Fr.val L' ρ' x=Fr.val L ρ x:=by
 obtain⟨h1,b⟩:=h x c;simp only[Fr.val,h1];cases e:ev ρ x with
 | v u=>rfl
 | el a j=>rfl
 | own k off=>simp only[conc,b k off e]
theorem cV {L L':Loc}{ρ ρ':Env}:∀{xs:List X},(∀x∈xs,Fr.val L' ρ' x=Fr.val L ρ x)->aZ L' ρ' xs=aZ L ρ xs
 | [],_=>rfl
 | x::xs,h=>by simp only[aZ,h x (by simp),cV (xs:=xs) (fun y a=>h y (abf _ a))]
theorem cg {L L':Loc}{ρ ρ':Env}:∀{xs:List X},(∀x∈xs,Fr.val L' ρ' x=Fr.val L ρ x)->cellsOf L' ρ' xs=cellsOf L ρ xs
 | [],_=>rfl
 | x::xs,h=>by simp only[cellsOf,h x (by simp),cg (xs:=xs) (fun y a=>h y (abf _ a))]
theorem mE {L L':Loc}{ρ ρ':Env}{sz:Nat}:∀{xs:List X},(∀x∈xs,Fr.val L' ρ' x=Fr.val L ρ x)->fQ L' ρ' sz xs=fQ L ρ sz xs
 | [],_=>rfl
 | x::xs,h=>by simp only[fQ,h x (by simp),mE (xs:=xs) (fun y a=>h y (abf _ a))]
theorem pL {L L':Loc}{ρ ρ':Env}:∀{ps:List (Nat×Nat×X)}{zs:List Value},(∀p∈ps,Fr.val L' ρ' p.2.2=Fr.val L ρ p.2.2)->built L' ρ' zs ps=built L ρ zs ps
 | [],zs,_=>rfl
 | (off,n,x)::ps,zs,h=>by
  have h1:=h (off,n,x) (by simp);simp only at h1;simp only[built,h1];split
  ·exact pL (fun p a=>h p (by simp[a]))
  ·rfl
theorem iV.up {F F':au}(d:F.le F') {a:Option Addr}{j n:Nat}{K:List Value->Prop}(h:iV F a j n K):iV F' a j n K:=by
 obtain⟨cs,h1,b,c⟩:=h;exact⟨cs,h1,by rcases b with b | b;exact .inl (b.mono d);exact .inr b,c⟩
theorem jV.upF {F F':au}(d:F.le F') {L:Loc}{a:Option Addr}{j n:Nat}{K:List Value->Prop}(h:jV F L a j n K):jV F' L a j n K:=by
 obtain⟨cs,h1,b,c⟩:=h;exact⟨cs,h1,by rcases b with b | b;exact .inl (b.mono d);exact .inr b,c⟩
theorem wO {ρ ρ':Env}{d:Int}{x:Option X}(h:∀y∈x.toList,ev ρ' y=ev ρ y):mV ρ' d x=mV ρ d x:=by
 cases x with
 | none=>rfl
 | some y=>simp only[mV,h y (by simp)]
theorem qA {o:dO}(v:cO o=true) {F F':au}{L L':Loc}{ρ ρ':Env}(r:F.le F') (H:Alike o L L' ρ ρ') {V:SV->Prop}(h:aJ o F L ρ V) (s:Jh o=false\/L'=L:=by exact .inr rfl):aJ o F' L' ρ' V:=by
 cases o<;>first | (cases v;done) | skip
 case build zs ps =>
  have e:=pL (ps:=ps) (zs:=zs) (L:=L) (L':=L') (ρ:=ρ) (ρ':=ρ') (fun p hp=>H.val (abq.2 ⟨p,hp,rfl⟩));simp only[aJ,e] at h ⊢;exact h
 case mkfn f a b =>
  have j:=cV (xs:=a) (L:=L) (L':=L') (ρ:=ρ) (ρ':=ρ') (fun x m=>H.val (aaU.2 (.inl m)));have q:=cV (xs:=b) (L:=L) (L':=L') (ρ:=ρ) (ρ':=ρ') (fun x m=>H.val (aaU.2 (.inr m)));simp only[aJ,j,q] at h ⊢;exact h
 case mm mx l =>
  have e:l.map (ev ρ')=l.map (ev ρ):=abU fun x m=>(H x m).1;simp only[aJ,e] at h ⊢;exact h
 case slc sz x lo hi =>
  have e:=(H x (by simp[bn])).1;have j:∀d,mV ρ' d lo=mV ρ d lo:=fun d=>wO fun y w=>(H y (by simp only[bn];exact abf _ (aaU.2 (.inl w)))).1;have q:∀d,mV ρ' d hi=mV ρ d hi:=fun d=>wO fun y w=>(H y (by simp only[bn];exact abf _ (aaU.2 (.inr w)))).1;simp only[aJ,e,j,q] at h ⊢;exact h
 case loadD ag n x =>
  obtain⟨e,j⟩:=H x (by simp[bn]);simp only[aJ,e] at h ⊢;split at h
  ·rename_i k off m;simp only[j k off m];exact h
  ·exact h.up r
  ·exact h.up r
  ·exact h
 case gload g =>
  simp only[aJ] at h ⊢;obtain⟨u,t,z,h1,h2⟩:=h;exact⟨u,t,z,r _ _ h1,h2⟩
 case loadR ag n x =>
  obtain⟨e,j⟩:=H x (by simp[bn]);rcases s with s | rfl
  ·cases s
  ·simp only[aJ,e] at h ⊢;split at h
   ·exact h
   ·exact h.upF r
   ·exact h.upF r
   ·exact h
 case mlook str ok z0 x i =>
  obtain⟨e,j⟩:=H x (by simp[bn]);have q:val L' ρ' i=val L ρ i:=H.val (by simp[bn]);rcases s with s | rfl
  ·cases s
  ·simp only[aJ,e,q] at h ⊢;exact h
 case loadF ag n x =>
  obtain⟨e,j⟩:=H x (by simp[bn]);simp only[aJ,e] at h ⊢;split at h
  ·exact h.up r
  ·exact h.up r
  ·exact h
 case loadK key ag n x =>
  obtain⟨e,j⟩:=H x (by simp[bn]);simp only[aJ,e] at h ⊢;split at h
  ·rename_i k off m;simp only[j k off m];exact h
  ·exact h
 case pick c a b =>
  have j:=(H c (by simp[bn])).1;have q:=(H a (by simp[bn])).1;have e3:=(H b (by simp[bn])).1;simp only[aJ,j,q,e3] at h ⊢;exact h
 all_goals first
  | (have j:=(H _ (List.mem_cons_self ..)).1
     simp only[aJ,j] at h ⊢;exact h)
  | (have j:=(H _ (List.mem_cons_self ..)).1
     have q:=(H _ (abf _ (List.mem_cons_self ..))).1;simp only[aJ,j,q] at h ⊢;exact h)
theorem Ji {o:dO}(h:cO o=true) {k off:Nat}(d:aJ o F L ρ (fun u=>u=.own k off)):∃x∈bn o,∃f,ev ρ x=.own k f:=by
 cases o<;>first | (cases h;done) | skip
 case mov x=>exact⟨x,by simp[bn],off,d⟩
 case pick c a b =>
  simp only[aJ] at d;split at d
  ·exact⟨a,by simp[bn],off,d⟩
  ·exact⟨b,by simp[bn],off,d⟩
  ·exact d.elim
 case nilck x =>
  simp only[aJ] at d;split at d
  ·rename_i j f e;injection d with h1 h2
   subst h1;exact⟨x,by simp[bn],f,e⟩
  ·cases d.2
  ·cases d
  ·cases d
  ·split at d
   ·cases d.2
   ·exact d.elim
  ·exact d.elim
 case fieldA o' x =>
  simp only[aJ] at d;split at d
  ·rename_i j f e;injection d with h1 h2
   subst h1;exact⟨x,by simp[bn],f,e⟩
  ·cases d
  ·cases d
  ·exact d.elim
 case bin op x y =>
  simp only[aJ] at d;split at d
  ·split at d
   ·cases op<;>simp only[shI] at d<;>first | exact d.elim | (obtain⟨_,⟨d⟩⟩:=d;cases d;done) | (obtain⟨_,d⟩:=d;cases d;done)
   ·split at d
    ·cases op<;>simp only[binI] at d<;>first | exact d.elim | (cases d;done) | (obtain⟨d⟩:=d;cases d;done) | (obtain⟨_,⟨d⟩⟩:=d;cases d;done) | (obtain⟨_,d⟩:=d;cases d;done)
    ·exact d.elim
  ·cases op<;>simp only[binS] at d<;>first | exact d.elim | (cases d;done) | (obtain⟨_,d⟩:=d;cases d;done)
  ·exact d.elim
 case loadD ag n x =>
  simp only[aJ] at d;split at d
  ·split at d
   ·split at d
    ·cases d
    ·exact d.elim
   ·exact d.elim
  ·obtain⟨cs,_,_,d⟩:=d;cases d
  ·obtain⟨cs,_,_,d⟩:=d;cases d
  ·exact d.elim
 case gload g =>
  simp only[aJ] at d;obtain⟨u,t,l,_,d⟩:=d;cases d
 case loadR ag n x =>
  simp only[aJ] at d;split at d
  ·split at d
   ·split at d
    ·cases d
    ·exact d.elim
   ·exact d.elim
  ·obtain⟨cs,_,_,d⟩:=d;cases d
  ·obtain⟨cs,_,_,d⟩:=d;cases d
  ·exact d.elim
 case mlook str ok z0 x i =>
  simp only[aJ] at d;split at d
  ·obtain⟨k,cs,_,_,⟨⟨i,v,_,d⟩ | ⟨_,d⟩⟩⟩:=d<;>cases d
  ·exact d.elim
 case loadF ag n x =>
  simp only[aJ] at d;split at d
  ·obtain⟨cs,_,_,d⟩:=d;cases d
  ·obtain⟨cs,_,_,d⟩:=d;cases d
  ·exact d.elim
 case loadK key ag n x =>
  simp only[aJ] at d;split at d
  ·split at d
   ·split at d
    ·split at d
     ·cases d
     ·exact d.elim
    ·exact d.elim
   ·exact d.elim
  ·exact d.elim
 all_goals
  simp only[aJ] at d
  repeat' split at d
 all_goals first
  | exact d.elim
  | (cases d;done)
  | (obtain⟨d⟩:=d;cases d;done)
  | (obtain⟨_,_,d⟩:=d;cases d;done)
  | (obtain⟨_,_,_,d⟩:=d;cases d;done)
end
theorem Ma {P:Program}{s s':dO}{d:Option Nat}{F:au}{L:Loc}{ρ:Env}{K:dm}(h:wN s=some s') (a:evalOp P s' d F L ρ K):evalOp P s d F L ρ (fun F' L' ρ'=>Real F' L'->K F' L' ρ'):=by
 cases s<;>simp only[wN,vz,reduceCtorEq] at h<;>subst h
 case store=>exact a
 case mupd =>
  simp only[evalOp] at a ⊢;split at a
  ·obtain⟨k,cs,h1,b,e,cs',f,c⟩:=a;exact⟨k,cs,h1,b,e,cs',f,fun _=>c⟩
  ·exact a.elim
 ·simp only[evalOp] at a ⊢;exact a
 ·simp only[evalOp] at a ⊢;split at a
  ·exact a
  ·exact a.elim
 ·simp only[evalOp] at a ⊢;split at a
  ·exact a
  ·exact a.elim
theorem rj {P:Program}{F:au}{L:Loc}{ρ:Env}{K:dm}{n:Nat}{a x:X}{d:Option Nat}:evalOp P (.storeD n a x) d F L ρ K=(match gQ (aM (val L ρ x)) n,jQ (aM (val L ρ x)),ev ρ a with
  | true,true,.own k off=>match L.get k with
   | Option.some (.box g t cs)=>match i9 t ((cs.drop off).take n) n with
    | true=>K F (L.set k (.box g t (bO cs off (aM (val L ρ x))))) (put d (.v undef) ρ)
    | false=>False
   | _=>False
  | _,_,_=>False):=rfl
theorem rm {P:Program}{F:au}{L:Loc}{ρ:Env}{K:dm}{key n:Nat}{a x:X}{d:Option Nat}:evalOp P (.storeK key n a x) d F L ρ K=(match gQ (aM (val L ρ x)) n,jQ (aM (val L ρ x)),ev ρ a with
  | true,true,.own k off=>match Nat.beq k key with
   | true=>match L.get k with
    | Option.some (.box g t cs)=>match i9 t ((cs.drop off).take n) n with
     | true=>K F (L.set k (.box g t (bO cs off (aM (val L ρ x))))) (put d (.v undef) ρ)
     | false=>False
    | _=>False
   | false=>False
  | _,_,_=>False):=rfl
theorem iA {P:Program}{F:au}{L:Loc}{ρ:Env}{K:dm}{o:dO}{d:Option Nat}(m:iz o=true) (b:evalOp P o d F L ρ K) :
  ∃n a x k off g t cs,(o=.storeD n a x\/o=.storeK k n a x)/\gQ (aM (val L ρ x)) n=true/\jQ (aM (val L ρ x))=true/\ev ρ a=.own k off/\L.get k=some (.box g t cs)/\i9 t ((cs.drop off).take n) n=true /\
   K F (L.set k (.box g t (bO cs off (aM (val L ρ x))))) (put d (.v undef) ρ):=by
 cases o<;>first | (cases m;done) | skip
 case storeD n a x =>
  rw[rj] at b;split at b
  case h_2=>exact b.elim
  rename_i k off f c l;split at b
  case h_2=>exact b.elim
  rename_i g t cs e;split at b
  case h_2=>exact b.elim
  rename_i j;exact⟨n,a,x,k,off,g,t,cs,.inl rfl,f,c,l,e,j,b⟩
 case storeK key n a x =>
  rw[rm] at b;split at b
  case h_2=>exact b.elim
  rename_i k off f c l;split at b
  case h_2=>exact b.elim
  rename_i h;have h:=aaO h;subst h;split at b
  case h_2=>exact b.elim
  rename_i g t cs e;split at b
  case h_2=>exact b.elim
  rename_i j;exact⟨n,a,x,k,off,g,t,cs,.inr rfl,f,c,l,e,j,b⟩
theorem gX {P:Program}{F:au}{L:Loc}{ρ:Env}{K:dm}{o:dO}{d:Option Nat}{n:Nat}{a x:X}{k off g:Nat}{t:TypeId}{cs:List Value}(l:o=.storeD n a x\/o=.storeK k n a x) (e:gQ (aM (val L ρ x)) n=true) (j:jQ (aM (val L ρ x))=true) (h:ev ρ a=.own k off) (b:L.get k=some (.box g t cs)) (f:i9 t ((cs.drop off).take n) n=true)
  (c:K F (L.set k (.box g t (bO cs off (aM (val L ρ x))))) (put d (.v undef) ρ)):evalOp P o d F L ρ K:=by
 rcases l with rfl | rfl
 ·rw[rj];simp only[e,j,h,b,f];exact c
 ·rw[rm];have m:Nat.beq k k=true:=by simp
  simp only[e,j,h,m,b,f];exact c
theorem zO {x:X}{n:Int}{ρ:Env}(h:Be x=some n):∃k,ev ρ x=.v (.int k n):=by
 unfold Be at h;split at h
 ·injection h with h;subst h;exact⟨_,rfl⟩
 ·cases h
theorem Mb {L:Loc}{ρ:Env}{x:X}{k:IntKind}{m:Int}(h:val L ρ x=.int k m):ev ρ x=.v (.int k m):=by
 unfold val at h;cases e:ev ρ x with
 | v u=>rw[e] at h;exact vv SV.v h
 | own j off =>
  rw[e] at h;simp only[conc] at h;split at h<;>cases h
 | el a j =>
  rw[e] at h;cases a<;>cases h
theorem Mc {b:Nat}{n m:Int}(h:Qk b n m=true):0<=n/\n=m/\n.toNat*b<=140737488355328/\n.toNat<=maxLen:=by
 simp only[Qk,xo] at h;obtain⟨⟨h1,c⟩,a⟩:=h;split at a
 ·have a:=aaO a;subst a;exact⟨by simp,rfl,aa6 h1,aa6 c⟩
 ·cases a
theorem Md {P:Program}{bx:List Nat}{s s':dO}{d:Option Nat}{F:au}{L:Loc}{ρ:Env}{K:dm}(h:og bx s=some s') (l:(cO s'||gM s'||dV s'||oZ s'||iz s')=true) (c:gM s'=false) (b:evalOp P s' d F L ρ K):evalOp P s d F L ρ (fun F' L' ρ'=>Real F' L'->K F' L' ρ'):=by
 unfold og at h;split at h
 ·split at h
  ·rename_i n m o p;split at h
   ·rename_i u;injection h with h
    subst h;obtain⟨k1,o⟩:=zO (ρ:=ρ) o;obtain⟨k2,p⟩:=zO (ρ:=ρ) p;obtain⟨m1,m2,m3,m4⟩:=Mc u;subst m2;simp only[evalOp,o,p] at b ⊢;split at b
    ·rename_i k;split at b
     ·rename_i r _ _;simp only[r];exact⟨m1,abg _,m3,m4,b⟩
     ·exact b.elim
    ·exact b.elim
   ·cases h
  ·split at h
   ·rename_i i j _ _;split at h
    ·rename_i f;have f:=aaO f;subst f;injection h with h
     subst h;simp only[evalOp] at b ⊢;split at b
     ·rename_i k;split at b
      ·rename_i r _ u;obtain⟨ki,m,o,m1,m2,m3,m4⟩:=CB u;have p:=Mb o;simp only[p,r];rw[m2] at b;exact⟨m1,abg _,m3,m4,b⟩
      ·exact b.elim
     ·exact b.elim
    ·cases h
   ·cases h
 ·rename_i e sz;injection h with h
  subst h;simp only[evalOp] at b ⊢;split at b
  ·rename_i k;split at b
   ·rename_i r _ _;simp only[fQ,r];exact b
   ·exact b.elim
  ·exact b.elim
 ·rename_i a n i;split at h
  ·injection h with h
   subst h;refine rL (s:=.load a n (.t i)) (s':=.loadD a n (.t i)) rfl rfl rfl ?_;simp only[evalOp,aJ] at b ⊢;split at b
   ·rename_i k off e;simp only[e];split at b
    ·exact b
    ·exact b.elim
   ·exact b.elim
  ·injection h with h
   subst h;exact rL (s:=.load a n (.t i)) rfl l c b
 ·rename_i n i x;split at h
  ·injection h with h
   subst h;obtain⟨n',a',z,k,off,g,t,cs,q,o,p,y,v,w,b⟩:=iA rfl b;rcases q with q | q
   ·cases q
   ·injection q with h1 h2 h3 h4
    subst h1 h2 h3 h4;exact rL (s:=.store n (.t i) x) (s':=.storeD n (.t i) x) rfl rfl rfl (gX (.inl rfl) o p y v w b)
  ·injection h with h
   subst h;exact rL (s:=.store n (.t i) x) rfl l c b
 ·exact rL h l c b
def Loc.sameAs (L L':Loc):Prop:=∀j,L'.get j=L.get j
theorem wP {P:Program}{f:Nat}{args:List Value}{F:au}{L:Loc}{d:Option Nat}{KK:au->Loc->Value->Prop}(h:dH P f args F L d KK):dP P f args F L (fun F' L' v=>∃L2,L'.sameAs L2/\(Real F' L2->KK F' L2 v)):=by
 cases h with
 | frz R h1 q =>
  refine⟨[],[],[],R,rfl,List.nodup_nil,List.nodup_nil,fun _ h=>(by cases h),h1,fun v F' Lo a m=>?_⟩;obtain⟨rfl,y⟩:=q v F' Lo a m;exact⟨rfl,fun _ _ _ _ h=>(by cases h),_,fun _=>rfl,y⟩
 | own R k h1 hd r q =>
  refine⟨[],[k],[],R,rfl,List.nodup_nil,by simp,fun j p=>.inr (by simp at p;rw[p];exact r),h1,fun v F' Lo a m=>?_⟩;obtain⟨o,rfl,y⟩:=q v F' Lo a m;exact⟨rfl,fun _ _ _ _ h=>(by cases h),_,fun _=>rfl,y⟩
 | row R u rv t sz n xs h1 r q =>
  refine⟨[u],[u],[.row rv t sz n xs],fun F Lo v=>Lo=[.row (.slice none 0 0) t sz 0 []]/\R F [] v,?_,by simp,by simp,fun j p=>.inl p,⟨h1.ent,fun F G L v a hr=>⟨hr.1,h1.mono _ _ _ _ a hr.2⟩,fun w hs=>(h1.run w hs).mono ?_⟩,fun v F' Lo a m=>?_⟩
  ·simp only[Loc.sub,r]
  ·rintro e w' ⟨v,F',Lo,rfl,x,l,m⟩;obtain⟨rfl,_⟩:=q v F' Lo l.le m;have hb:(Own.row (.slice none 0 0) t sz 0 []).blk=none:=rfl;have z:∀j o,Loc.get (inp [.row (.slice none 0 0) t sz 0 []]) j=some o->o=.row (.slice none 0 0) t sz 0 []:=by
    intro j o e;rw[aF] at e;split at e
    ·cases p:j-1000 with
     | zero=>rw[p] at e;simpa using e.symm
     | succ i=>rw[p] at e;simp at e
    ·cases e
   have ab:∀b,¬(inp [.row (.slice none 0 0) t sz 0 []]).owns b:=by
    rintro b ⟨j,o,e,c⟩;rw[z j o e,hb] at c;cases c
   refine⟨v,F',_,rfl,⟨x.frz,fun j o e=>?_,fun j o g e c=>?_,fun j j' o o' g e e' c=>?_,x.glob⟩,⟨l.le,l.os,l.tape,l.output,l.size,l.same,l.frz,fun b hb=>o5 hb (ab b)⟩,rfl,m⟩
   ·rw[z j o e];exact World.ownsRow_nil w' 0 t sz
   ·rw[z j o e,hb] at c;cases c
   ·rw[z j o e,hb] at c;cases c
  ·obtain⟨rfl,m⟩:=m;obtain⟨_,y⟩:=q v F' [] a m;refine⟨rfl,fun k g t' cs s e=>?_,L.set u (.row (.slice none 0 0) t sz 0 []),fun j=>?_,y⟩
   ·rw[abD.1 s,r] at e;cases e
   ·simp only[Loc.aae,Loc.puts,Loc.aac,Loc.aaf];split<;>rfl
 | lent R u rv t sz n xs h1 r q =>
  refine⟨[u],[u],[.row rv t sz n xs],_,by simp only[Loc.sub,r],by simp,by simp,fun j p=>.inl p,h1,fun v F' Lo a m=>?_⟩;obtain⟨rfl,m⟩:=m;refine⟨rfl,fun k g t' cs s e=>?_,L,fun j=>?_,q v F' a m⟩
  ·rw[abD.1 s,r] at e;cases e
  ·simp only[Loc.aae,Loc.puts,Loc.aac,Loc.aaf];split
   ·rename_i p;rw[p,r]
   ·rfl
theorem Me {P:Program}{bx:List Nat}{s s':dO}{d:Option Nat}{F:au}{L:Loc}{ρ:Env}{K:dm}(h:og bx s=some s') (a:gM s'=true) (b:evalOp P s' d F L ρ K):evalOp P s d F L ρ (fun F' L' ρ'=>∃L2,L'.sameAs L2/\(Real F' L2->K F' L2 ρ')):=by
 unfold og at h;split at h
 ·split at h
  ·split at h
   ·injection h with h;subst h;cases a
   ·cases h
  ·split at h
   ·split at h
    ·injection h with h;subst h;cases a
    ·cases h
   ·cases h
 ·injection h with h;subst h;cases a
 ·split at h
  ·injection h with h;subst h;cases a
  ·injection h with h;subst h;cases a
 ·split at h
  ·injection h with h;subst h;cases a
  ·injection h with h;subst h;cases a
 ·cases s<;>simp only[drawn,vz,reduceCtorEq] at h<;>subst h<;>first | (cases a;done) | skip
  ·simp only[evalOp] at b ⊢;exact wP b
  ·simp only[evalOp] at b ⊢;split at b
   ·exact wP b
   ·exact b.elim
theorem wQ {fl bx:List Nat}{bk:List (Nat×Nat)}{s s':dO}(h:uq fl bk bx s=some s'):og bx s=some s'\/(∃a n i,s=.load a n (.t i)/\s'=.loadF a n (.t i))\/(∃a n i key,s=.load a n (.t i)/\s'=.loadK key a n (.t i))\/(∃a n i,s=.load a n (.t i)/\s'=.loadR a n (.t i)):=by
 unfold uq at h;split at h
 ·rename_i a n i;split at h
  ·injection h with h
   exact .inr (.inl ⟨a,n,i,rfl,h.symm⟩)
  ·split at h
   ·rename_i key _;split at h
    ·injection h with h
     exact .inr (.inr (.inr ⟨a,n,i,rfl,h.symm⟩))
    ·injection h with h
     exact .inr (.inr (.inl ⟨a,n,i,key,rfl,h.symm⟩))
   ·exact .inl h
 ·exact .inl h
theorem G8 {o:Bool}{n:Nat}{x:X}{F:au}{L:Loc}{ρ:Env}{V V':SV->Prop}(h:aJ (.load o n x) F L ρ V) (a:∀v,V v->V' v):aJ (.load o n x) F L ρ V':=by
 have:=One.mono (T:=fun V=>aJ (.loadR o n x) F L ρ V) (eM rfl) V V' a h;exact this
theorem Mf {P:Program}{fl bx:List Nat}{bk:List (Nat×Nat)}{s s':dO}{d:Option Nat}{F:au}{L:Loc}{ρ:Env}{K:dm}(h:uq fl bk bx s=some s') (f:(cO s'||gM s'||dV s'||oZ s'||iz s')=true) (c:gM s'=false) (b:evalOp P s' d F L ρ K):evalOp P s d F L ρ (fun F' L' ρ'=>Real F' L'->K F' L' ρ'):=by
 rcases wQ h with h | ⟨a,n,i,rfl,rfl⟩ | ⟨a,n,i,key,rfl,rfl⟩ | ⟨a,n,i,rfl,rfl⟩
 rotate_left 3
 ·have b:aJ (.load a n (.t i)) F L ρ (fun v=>K F L (put d v ρ)):=b;exact G8 b fun v h _=>h
 ·exact Md h f c b
 ·refine rL (s:=.load a n (.t i)) (s':=.loadD a n (.t i)) rfl rfl rfl ?_;simp only[evalOp,aJ] at b ⊢;split at b
  ·rename_i e;simp only[e];exact b
  ·rename_i e;simp only[e];exact b
  ·exact b.elim
 ·refine rL (s:=.load a n (.t i)) (s':=.loadD a n (.t i)) rfl rfl rfl ?_;simp only[evalOp,aJ] at b ⊢;split at b
  ·rename_i k off e;simp only[e];split at b
   ·exact b
   ·exact b.elim
  ·exact b.elim
theorem Jj {P:Program}{fl bx:List Nat}{bk:List (Nat×Nat)}{s s':dO}{d:Option Nat}{F:au}{L:Loc}{ρ:Env}{K:dm}(h:uq fl bk bx s=some s') (b:gM s'=true) (c:evalOp P s' d F L ρ K):evalOp P s d F L ρ (fun F' L' ρ'=>∃L2,L'.sameAs L2/\(Real F' L2->K F' L2 ρ')):=by
 rcases wQ h with h | ⟨a,n,i,rfl,rfl⟩ | ⟨a,n,i,key,rfl,rfl⟩ | ⟨a,n,i,rfl,rfl⟩
 ·exact Me h b c
 ·cases b
 ·cases b
 ·cases b
end Go.Fr
