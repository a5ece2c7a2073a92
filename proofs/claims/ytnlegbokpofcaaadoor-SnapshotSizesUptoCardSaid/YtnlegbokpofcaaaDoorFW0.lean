/- Part of the proofs of the statements of this seat. -/
import Derived.Orders
import Derived.Below
import Derived.Laws.OwnMore
import Derived.Maps.AppendAt
import Derived.WalkKit
import Derived.KernelRfl
import Derived.Lib.AppendStr
import Derived.Laws.BytesString
import Derived.Laws.StructEq
import Derived.Lib.AppendZeros
import Derived.ArgAppend
import Derived.Laws.CopyRow
import Derived.Laws.IdiomCopy
import Derived.Carry
import Derived.Maps.RangeRun
set_option maxRecDepth 10000
set_option linter.unusedVariables false
set_option linter.unusedSimpArgs false
namespace Go.Fr
open Go Go.RowKit
abbrev j3:=@if_pos
abbrev p7:=@congrArg
abbrev vv:=@if_neg
abbrev v7:=@absurd
abbrev v8:=@Nat.eq_of_beq_eq_true
abbrev xo:=@Option.some.injEq
abbrev x5:=@List.getElem?_eq_getElem
abbrev yo:=@List.mem_append
abbrev Xe:=@List.getElem?_eq_some_iff
abbrev Xf:=@Bool.and_eq_true
abbrev Xg:=@List.length_append
abbrev Xh:=@List.mem_cons
abbrev Xi:=@List.mem_of_getElem?
abbrev Xj:=@List.map_cons
abbrev Xk:=@List.append_assoc
abbrev Xl:=@List.getElem?_append_left
abbrev Xm:=@Bool.false_eq_true
abbrev Xn:=@List.getElem?_eq_none
abbrev Xo:=@List.all_eq_true
abbrev Xp:=@List.getElem?_cons_zero
abbrev Xq:=@Nat.le_of_ble_eq_true
abbrev Xr:=@List.getElem?_append_right
abbrev Xt:=@List.length_map
abbrev Xu:=@List.cons_append
abbrev Xv:=@List.length_cons
abbrev Xw:=@of_decide_eq_true
abbrev Xx:=@List.length_take
abbrev Xy:=@Nat.le_refl
abbrev Xz:=@List.append_nil
abbrev XA:=@if_true
abbrev XB:=@List.mem_iff_getElem?
abbrev XC:=@Array.getD_eq_getD_getElem?
abbrev XD:=@List.eq_nil_of_length_eq_zero
abbrev XE:=@List.mem_cons_of_mem
abbrev XF:=@Int.le_refl
abbrev XG:=@Nat.zero_le
abbrev XH:=@List.getElem?_drop
abbrev XI:=@List.mem_map
abbrev XJ:=@List.length_nil
abbrev XK:=@Bool.or_eq_true
abbrev XL:=@List.getElem?_take
abbrev XM:=@if_false
abbrev XO:=@List.nil_append
abbrev XP:=@List.ext_getElem?
abbrev XQ:=@Bool.and_false
abbrev XR:=@List.getElem?_map
abbrev XS:=@List.take_of_length_le
abbrev XT:=@of_decide_eq_false
abbrev XU:=@List.mem_singleton
abbrev XV:=@List.length_drop
abbrev XW:=@List.length_replicate
abbrev XY:=@List.getElem?_cons_succ
abbrev XZ:=@Bool.false_ne_true
abbrev X0:=@Nat.le_trans
abbrev X1:=@decide_eq_true_eq
abbrev X2:=@List.replicate_succ
abbrev X3:=@List.getElem?_eq_none_iff
abbrev X4:=@Option.map_some
abbrev X5:=@List.map_map
abbrev X6:=@List.drop_eq_getElem_cons
abbrev X7:=@Bool.true_and
abbrev X8:=@List.map_congr_left
abbrev X9:=@List.map_nil
abbrev Ya:=@Bool.false_and
abbrev Yb:=@List.getElem?_set_ne
abbrev Yc:=@Bool.and_true
abbrev Yd:=@decide_eq_true
abbrev Ye:=@decide_eq_false_iff_not
abbrev aA:=Nat->Option Obj
def aA.le (F G:aA):Prop:=∀b o,F b=some o->G b=some o
theorem aA.le_refl (F:aA):F.le F:=fun _ _ h=>h
theorem aA.le_trans {F G H:aA}(h:F.le G) (k:G.le H):F.le H:=fun b o e=>k b o (h b o e)
def nT:Nat:=2 ^ 64
def Mu:Nat->Value
 | 0=>.slice none 0 0
 | m+1=>.slice (some ⟨m / (nT*nT),0,none⟩) (m / nT % nT) (m % nT)
def je (k:Nat) (F:aA) (v:Value):Prop:=(k=0/\v=.nilIface)\/∃m,k=m+1/\v=Mu m
theorem je.mono {k:Nat}{F G:aA}{v:Value}(h:F.le G) (r:je k F v):je k G v:=r
theorem je.one {k:Nat}{F:aA}{v:Value}(r:je k F v):v.oneCell'=true:=by
 rcases r with⟨_,rfl⟩ | ⟨m,_,rfl⟩
 ·rfl
 ·cases m<;>rfl
theorem zi {F:aA}:je 0 F .nilIface:=.inl ⟨rfl,rfl⟩
def FP:Nat->Option Nat
 | 0=>none
 | 1=>some 0
 | m+2=>some (m / nT % nT)
theorem IU {F:aA}{k n:Nat}{v:Value}(h:je k F v) (e:FP k=some n):∃a c,v=.slice a n c:=by
 rcases h with⟨rfl,_⟩ | ⟨m,rfl,rfl⟩
 ·cases e
 ·cases m with
  | zero=>injection e with e;subst e;exact⟨none,0,rfl⟩
  | succ m=>injection e with e;subst e;exact⟨_,_,rfl⟩
def qV (F:aA):Prop:=True
theorem qV.mono {F G:aA}(h:F.le G) (g:qV F):qV G:=g
def uK (g:Nat):Option Nat:=none
theorem FQ {F:aA}{g k:Nat}(h:qV F) (e:uK g=some k):∃v t a,F g=some (.cells #[v] t a)/\je k F v:=by cases e
def uL (k:Nat) (n:Int):Option (Int×Bool):=none
theorem FR {F:aA}{k:Nat}{v:Value}{n r:Int}{b:Bool}(h:je k F v) (e:uL k n=some (r,b)) :
  ∃m es a,v=.map (some m)/\F m=some (.map es a)/\es.isEmpty=false /\
   ∃o,Instr.findNow (.int .i64) (.int .i64 n) es.toList 0=some o/\((b=true/\∃i,o=some (i,.int .i64 r))\/(b=false/\r=0/\o=none)):=by cases e
theorem AA {k:Nat}{n r:Int}{b:Bool}(e:uL k n=some (r,b)):(Lit.int .i64 r).wf=true:=by cases e
def Ck (k:Nat):Option Bool:=match k with | 0=>some true | _=>none
theorem FT {F:aA}{k:Nat}{v:Value}{b:Bool}(h:je k F v) (e:Ck k=some b):(b=true->v=.nilIface)/\(b=false->∃t u,v=.iface t u):=by
 unfold Ck at e;split at e
 case h_2=>cases e
 injection e with e;subst e
 refine⟨fun _=>?_,fun e=>by cases e⟩;rcases h with h | ⟨m,h,_⟩
 ·exact h.2
 ·cases h
def IV:Bool:=false
def Ew:List (TypeId×String):=[(60,"leasehold/snapshot.num"),(60,"leasehold/snapshot.size"),(52,"leasehold/snapshot.num"),(52,"leasehold/snapshot.size"),(94,"leasehold/snapshot.num"),(94,"leasehold/snapshot.size")]
inductive SV where
 | v (x:Value)
 | own (k off:Nat)
 | el (a:Option Addr) (j:Nat)
 deriving Inhabited
inductive Own where
 | box (g:Nat) (t:TypeId) (cs:List Value)
 | row (v:Value) (t:TypeId) (sz n:Nat) (xs:List Value)
def Own.blk:Own->Option Nat
 | .box g _ _=>some g
 | .row v _ _ _ _=>v.ownBlock
abbrev Loc:=List (Nat×Own)
def Loc.get:Loc->Nat->Option Own
 | [],_=>none
 | (j,o)::l,k=>match Nat.beq j k with | true=>some o | false=>Loc.get l k
def Loc.set:Loc->Nat->Own->Loc
 | [],k,o=>[(k,o)]
 | (j,p)::l,k,o=>match Nat.beq j k with
  | true=>(k,o)::l
  | false=>match Nat.ble j k with
   | true=>(j,p)::Loc.set l k o
   | false=>(k,o)::(j,p)::l
def Loc.del:Loc->Nat->Loc
 | [],_=>[]
 | (j,o)::l,k=>match Nat.beq j k with | true=>Loc.del l k | false=>(j,o)::Loc.del l k
abbrev Env:=Nat->SV
def put (d:Option Nat) (v:SV) (ρ:Env):Env :=
 match d with
 | some d=>fun j=>match Nat.beq j d with | true=>v | false=>ρ j
 | none=>ρ
def conc (L:Loc):SV->Value
 | .v x=>x
 | .own k off=>match L.get k with | some (.box g _ _)=>.pointer (some ⟨g,off,none⟩) | _=>undef
 | .el a j=>match a with | some ad=>.pointer (some (ad.add j)) | none=>undef
def fU:Value->Nat->MapEntry
 | .agg ⟨[k,v]⟩,i=>{key:=k,val:=v,born:=i}
 | v,i=>{key:=v,val:=v,born:=i}
def iN:Value->Nat
 | .int _ n=>n.toNat
 | _=>0
def aY:List Value->Nat->List MapEntry
 | [],_=>[]
 | v::l,i=>fU v i::aY l (i+1)
def gP:List Value->Obj
 | .tuple ⟨[.map (some m),.int .i64 n]⟩::a=>.mapIter (some m) n.toNat (a.map iN).toArray n.toNat
 | es=>.map (aY es 0).toArray es.length
def kR:TypeId->List Value->Obj
 | 0,cs=>gP cs
 | t+1,cs=>.cells cs.toArray (t+1) (0,0)
theorem gH {t:TypeId}(h:t≠0) (cs:List Value):kR t cs=.cells cs.toArray t (0,0):=by
 cases t with
 | zero=>exact v7 rfl h
 | succ t=>rfl
def Own.ok (w:World):Own->Prop
 | .box g t cs=>w.heap[g]?=some (kR t cs)
 | .row v t sz n xs=>w.ownsRow 0 t sz v n xs
structure St (F:aA) (L:Loc) (w:World):Prop where
 frz:∀b o,F b=some o->w.heap[b]?=some o
 own:∀k o,L.get k=some o->o.ok w
 off:∀k o g,L.get k=some o->o.blk=some g->F g=none
 sep:∀k k' o o' g,L.get k=some o->L.get k'=some o'->o.blk=some g->o'.blk=some g->k=k'
 glob:qV F
def Loc.owns (L:Loc) (b:Nat):Prop:=∃k o,L.get k=some o/\o.blk=some b
structure Step (F:aA) (L:Loc) (w:World) (F':aA) (L':Loc) (w':World):Prop where
 le:F.le F'
 os:w'.os=w.os
 tape:w'.tape=w.tape
 output:w'.output=w.output
 size:w.heap.size<=w'.heap.size
 same:∀b,b<w.heap.size->¬L.owns b->w'.heap[b]?=w.heap[b]?
 frz:∀b,F' b≠none->F b≠none\/L.owns b\/w.heap.size<=b
 own:∀b,L'.owns b->L.owns b\/w.heap.size<=b
def nU (a:Nat×Nat) (i:Nat):Prop:=¬(a.1<=i/\i<a.2)
theorem rP (i:Nat):nU (0,0) i:=fun h=>by cases h.2
def bM (F:aA) (a:Option Addr) (j:Nat) (cs:List Value):Prop :=
 ∃b c t d,a=some b/\F b.block=some (.cells c t d)/\b.spot=none/\∀(i:Nat) (v:Value),cs[i]?=some v->c[b.off+j+i]?=some v/\nU d (b.off+j+i)
def j4:Nat->List Own->Loc
 | _,[]=>[]
 | k,o::l=>(k,o)::j4 (k+1) l
def inp (l:List Own):Loc:=j4 1000 l
structure CallsA (P:Program) (f:FuncId) (args:Array Value) (F:aA) (Lin:List Own) (R:aA->List Own->Value->Prop):Prop where
 ent:∃fn,P.funcs[f]?=some fn/\fn.body.isSome=true/\(fn.name == "runtime.NumGoroutine")=false
 mono:∀F G L v,F.le G->R F L v->R G L v
 run:∀w,St F (inp Lin) w->Calls P f args w fun e w'=>∃v F' Lo,e=.returned v/\St F' (inp Lo) w'/\Step F (inp Lin) w F' (inp Lo) w'/\R F' Lo v
def Cg (v:Value) (b:List PanicEntry):Prop:=∃a,b={v,recovered:=false}::a/\∀e∈a,e.goexit=false
theorem Cg.one (v:Value):Cg v [{v,recovered:=false}]:=⟨[],rfl,fun e h=>by cases h⟩
structure sS (P:Program) (f:FuncId) (args:Array Value) (F:aA) (Lin:List Own) (R:aA->List Own->Value->Prop) (Pp:Value->Prop):Prop where
 ent:∃fn,P.funcs[f]?=some fn/\fn.body.isSome=true/\(fn.name == "runtime.NumGoroutine")=false
 mono:∀F G L v,F.le G->R F L v->R G L v
 run:∀w,St F (inp Lin) w->Calls P f args w fun e w'=>(∃v F' Lo,e=.returned v/\St F' (inp Lo) w'/\Step F (inp Lin) w F' (inp Lo) w'/\R F' Lo v) \/
  ∃v ch F' Lo,e=.panicked ch/\Cg v ch/\St F' (inp Lo) w'/\Step F (inp Lin) w F' (inp Lo) w'/\Lo.length=Lin.length/\(∀(i:Nat) g t cs,Lin[i]?=some (.box g t cs)->∃cs',Lo[i]?=some (.box g t cs'))/\Pp v
theorem CallsA.toX {P:Program}{f:FuncId}{args:Array Value}{F:aA}{Lin:List Own}{R:aA->List Own->Value->Prop}{Pp:Value->Prop}(h:CallsA P f args F Lin R):sS P f args F Lin R Pp :=
 ⟨h.ent,h.mono,fun w a=>(h.run w a).mono fun _ _ k=>.inl k⟩
structure uM (P:Program) (f:FuncId) (args:Array Value) (F:aA) (Lin:List Own) (R:aA->List Own->Value->Prop) (Pp:aA->List Own->Value->Prop):Prop where
 ent:∃fn,P.funcs[f]?=some fn/\fn.body.isSome=true/\(fn.name == "runtime.NumGoroutine")=false
 mono:∀F G L v,F.le G->R F L v->R G L v
 run:∀w,St F (inp Lin) w->Calls P f args w fun e w'=>(∃v F' Lo,e=.returned v/\St F' (inp Lo) w'/\Step F (inp Lin) w F' (inp Lo) w'/\R F' Lo v) \/
  ∃v ch F' Lo,e=.panicked ch/\Cg v ch/\St F' (inp Lo) w'/\Step F (inp Lin) w F' (inp Lo) w'/\Lo.length=Lin.length/\(∀(i:Nat) g t cs,Lin[i]?=some (.box g t cs)->∃cs',Lo[i]?=some (.box g t cs'))/\Pp F' Lo v
theorem sS.toS {P:Program}{f:FuncId}{args:Array Value}{F:aA}{Lin:List Own}{R:aA->List Own->Value->Prop}{Pp:Value->Prop}(h:sS P f args F Lin R Pp):uM P f args F Lin R (fun _ _=>Pp):=⟨h.ent,h.mono,h.run⟩
inductive X where
 | t (n:Nat)
 | c (v:Value)
 | fn (f:Nat)
 | mt (nm:String) (n:Nat)
 deriving Inhabited
def Ox (nm:String):SV->SV
 | .v x=>.v (.func (.method nm) #[x] #[])
 | .own _ _=>.v undef
 | .el _ _=>.v undef
def ev (ρ:Env):X->SV
 | .t n=>ρ n
 | .c v=>.v v
 | .fn f=>.v (.func (.func f) #[] #[])
 | .mt nm n=>Ox nm (ρ n)
def nk (P:Program) (t:TypeId) (nm:String):Option FuncId :=
 match P.info? t with
 | some i=>match i.methods.find? (·.name == nm) with
  | some m=>match m.path.toList,m.func with
   | [],some (f,a)=>match P.underlying t,a with
    | some (.pointer _),true=>some f
    | some (.pointer _),false=>none
    | some _,false=>some f
    | _,_=>none
   | _,_=>none
  | none=>none
 | none=>none
def LR:List (TypeId×String)->TypeId->String->Bool
 | [],_,_=>false
 | (t,nm)::l,b,a=>match Nat.beq t b,decide (nm=a) with | true,true=>true | _,_=>LR l b a
def LS (P:Program):Bool:=Ew.all fun x=>(nk P x.1 x.2).isSome
def lf (P:Program):SV->Option (Nat×List Value×List Value)
 | .v (.func (.func f) fi ca)=>some (f,fi.toList,ca.toList)
 | .v (.func (.method nm) fi ca)=>match fi.toList with
  | [.iface t u]=>match nk P t nm with
   | some f=>some (f,[u],[])
   | none=>none
  | _=>none
 | _=>none
def xZ (P:Program) (f:SV) (args:List Value):Option (Nat×List Value) :=
 match f,args with
 | .v (.func (.methodOf t nm) ⟨[]⟩ _),.iface b u::a=>match P.underlying t with
  | some (.interface _)=>match nk P b nm with
   | some f=>some (f,u::a)
   | none=>none
  | _=>none
 | _,_=>none
def val (L:Loc) (ρ:Env) (x:X):Value:=conc L (ev ρ x)
inductive dU where
 | mov (x:X)
 | pick (c a b:X)
 | box (t:TypeId) (x:X)
 | boxF (t:TypeId) (x:X)
 | alloc (t:TypeId) (zs:List Value)
 | mkF (e:TypeId) (n sz:Nat) (xs:List X)
 | mkR (e:TypeId) (n sz:Nat) (xs:List X)
 | build (zs:List Value) (ps:List (Nat×Nat×X))
 | load (agg:Bool) (n:Nat) (x:X)
 | loadD (agg:Bool) (n:Nat) (x:X)
 | store (n:Nat) (a x:X)
 | nilck (x:X)
 | bin (op:BinOp) (x y:X)
 | eqB (neg:Bool) (x y:X)
 | eqP (neg:Bool) (x y:X)
 | eqS (neg:Bool) (x y:X)
 | eqF (neg:Bool) (x y:X)
 | eqN (neg:Bool) (x:X)
 | tas (t:TypeId) (z:Value) (x:X)
 | eqA (neg:Bool) (ks:List Bool) (x y:X)
 | un (op:UnOp) (x:X)
 | conv (k:IntKind) (x:X)
 | b2s (x:X)
 | s2b (e:TypeId) (x:X)
 | mkfn (f:Nat) (first cap:List X)
 | makeS (e:TypeId) (sz bytes:Nat) (zs:List Value) (l c:X)
 | slc (sz:Nat) (x:X) (lo hi:Option X)
 | slcS (x:X) (lo hi:Option X)
 | fieldA (off:Nat) (x:X)
 | fieldV (agg:Bool) (off n:Nat) (x:X)
 | idxA (sz:Nat) (x i:X)
 | idxS (x i:X)
 | extr (x:X) (i:Nat)
 | call (f:Nat) (args:List X)
 | callV (f:X) (args:List X)
 | callD (f:Nat) (args:List X)
 | boxD (t:TypeId) (x:X)
 | allocD (t:TypeId) (zs:List Value)
 | mkFD (e:TypeId) (n sz:Nat) (xs:List X)
 | callVD (f:X) (args:List X)
 | callO (f:Nat) (args:List X)
 | callVO (f:X) (args:List X)
 | len (x:X)
 | lenS (x:X)
 | capa (x:X)
 | mm (mx:Bool) (args:List X)
 | app (e:TypeId) (sz bytes:Nat) (zs:List Value) (s x:X)
 | appD (e:TypeId) (sz bytes:Nat) (zs:List Value) (s x:X)
 | storeD (n:Nat) (a x:X)
 | appX (e:TypeId) (sz bytes:Nat) (zs:List Value) (s x:X)
 | appS (e:TypeId) (s x:X)
 | appZ (e:TypeId) (bytes:Nat) (k:IntKind) (s x:X)
 | copy (e:TypeId) (sz:Nat) (d s:X)
 | mkif (t:TypeId) (x:X)
 | b2sD (x:X)
 | b2sR (x:X)
 | makeSD (e sz n:Nat) (zs:List Value)
 | makeSV (e sz b:Nat) (zs:List Value) (x:X)
 | loadK (key:Nat) (agg:Bool) (n:Nat) (x:X)
 | storeK (key n:Nat) (a x:X)
 | copyX (e:TypeId) (sz:Nat) (d s:X)
 | storeX (n:Nat) (a x:X)
 | pan (x:X)
 | gload (g:Nat)
 | look (x i:X)
 | mkmv (nm:String) (x:X)
 | loadF (agg:Bool) (n:Nat) (x:X)
 | loadR (agg:Bool) (n:Nat) (x:X)
 | mkmap
 | mlook (str ok:Bool) (z:Value) (x i:X)
 | mupd (str:Bool) (x i v:X)
 | mlen (x:X)
 | mrange (x:X)
 | mnext (x:X)
 | mentry (x:X)
 | dead
 deriving Inhabited
structure Sv where
 dst:Option Nat
 op:dU
 guard:Option (Nat×Bool)
 deriving Inhabited
abbrev cF:=aA->Loc->Env->Prop
def aM (cs:List Value) (off:Nat) (vs:List Value):List Value:=cs.take off++vs++cs.drop (off+vs.length)
structure Fit (k:IntKind) (n:Int) (K:Int->Prop):Prop where
 out:K (k.wrap n)
structure mW (n:Int) (K:Prop):Prop where
 ne:n≠0
 out:K
structure Mv (i:Int) (n:Int) (K:Prop):Prop where
 lo:0<=i
 hi:i<n
 out:K
structure Dg (a:Option Addr) (i:Int) (n:Int) (K:Prop):Prop where
 ne:a≠none
 lo:0<=i
 hi:i<n
 out:K
structure jf (F:aA) (L:Loc) (a:Option Addr) (j n:Nat) (K:List Value->Prop):Prop where
 out:∃cs,cs.length=n/\(bM F a j cs\/(∃k v t sz m xs ad c,L.get k=some (.row v t sz m xs)/\a=some ad/\v=.slice (some ad) m c/\∀(i:Nat) (u:Value),cs[i]?=some u->xs[j+i]?=some u)\/n=0\/∃k g t bs o,L.get k=some (.box g t bs)/\t≠0/\a=some ⟨g,o,none⟩/\∀(i:Nat) (u:Value),cs[i]?=some u->bs[o+j+i]?=some u)/\K cs
structure Oy (F:aA) (g:Nat) (K:Value->Prop):Prop where
 out:∃v t fr,F g=some (.cells #[v] t fr)/\K v
structure hU (F:aA) (a:Option Addr) (j n:Nat) (K:List Value->Prop):Prop where
 out:∃cs,cs.length=n/\(bM F a j cs\/n=0)/\K cs
structure zj (L:Loc) (a:Option Addr) (j:Nat) (cs:List Value) (K:Loc->Prop):Prop where
 out:∃k v t sz m xs ad c,L.get k=some (.row v t sz m xs)/\a=some ad/\v=.slice (some ad) m c/\j+cs.length<=xs.length/\(∀u∈cs,u.oneCell'=true) /\
  K (L.set k (.row v t sz m (aM xs j cs)))
structure rQ (F:aA) (L:Loc) (a:Option Addr) (j:Nat) (cs:List Value) (K:Loc->Prop):Prop where
 out:zj L a j cs K\/(bM F a j cs/\(∀u∈cs,u.oneCell'=true)/\K L)
def Loc.sub (L:Loc):List Nat->Option (List Own)
 | []=>some []
 | k::ks=>match L.get k,Loc.sub L ks with
  | some o,some l=>some (o::l)
  | _,_=>none
def Loc.Wu (L:Loc):List Nat->Loc
 | []=>L
 | k::ks=>Loc.Wu (L.del k) ks
def Loc.puts (L:Loc):List Nat->List Own->Loc
 | k::ks,o::l=>Loc.puts (L.set k o) ks l
 | _,_=>L
structure cW (P:Program) (f:Nat) (args:List Value) (F:aA) (L:Loc) (K:aA->Loc->Value->Prop):Prop where
 out:∃(ks ko:List Nat) (Lin:List Own) (R:aA->List Own->Value->Prop),L.sub ks=some Lin/\ks.Nodup/\ko.Nodup/\(∀k,k∈ko->k∈ks\/L.get k=none)/\CallsA P f args.toArray F Lin R /\
  ∀v F' Lo,F.le F'->R F' Lo v->ko.length=Lo.length /\
   (∀k g t cs,k∈ks->L.get k=some (.box g t cs)->∃cs',Loc.get ((L.Wu ks).puts ko Lo) k=some (.box g t cs')) /\
   K F' ((L.Wu ks).puts ko Lo) v
def Real (F:aA) (L:Loc):Prop:=∃w,St F L w
inductive dQ (P:Program) (f:Nat) (args:List Value) (F:aA) (L:Loc) (d:Option Nat) (K:aA->Loc->Value->Prop):Prop
 | frz (R:aA->List Own->Value->Prop) (h:CallsA P f args.toArray F [] R) (k:∀v F' Lo,F.le F'->R F' Lo v->Lo=[]/\(Real F' L->K F' L v))
 | own (R:aA->List Own->Value->Prop) (k:Nat) (h:CallsA P f args.toArray F [] R) (hd:d=some k) (hk:L.get k=none)
   (kk:∀v F' Lo,F.le F'->R F' Lo v->∃o,Lo=[o]/\(Real F' (L.set k o)->K F' (L.set k o) v))
 | row (R:aA->List Own->Value->Prop) (kr:Nat) (rv:Value) (t:TypeId) (sz n:Nat) (xs:List Value) (h:CallsA P f args.toArray F [.row rv t sz n xs] R) (hk:L.get kr=some (.row rv t sz n xs))
   (kk:∀v F' Lo,F.le F'->R F' Lo v->Lo=[]/\(Real F' (L.set kr (.row (.slice none 0 0) t sz 0 []))->K F' (L.set kr (.row (.slice none 0 0) t sz 0 [])) v))
 | lent (R:aA->Value->Prop) (kr:Nat) (rv:Value) (t:TypeId) (sz n:Nat) (xs:List Value) (h:CallsA P f args.toArray F [.row rv t sz n xs] (fun F' Lo v=>Lo=[.row rv t sz n xs]/\R F' v)) (hk:L.get kr=some (.row rv t sz n xs))
   (kk:∀v F',F.le F'->R F' v->Real F' L->K F' L v)
structure Dh (F:aA) (L:Loc) (e:TypeId) (sz bytes:Nat) (s x:Value) (K:Loc->Value->Prop):Prop where
 out:∃(kd:Nat) (n:Nat) (xs:List Value) (m:Nat) (news:List Value),
  (L.get kd=some (.row s e sz n xs)\/(L.get kd=none/\n=0/\xs=[]/\s=.slice none 0 0)\/(L.get kd=none/\∃ad,s=.slice (some ad) n n/\0<m/\xs.length=n*sz/\(bM F (some ad) 0 xs\/(n=0/\xs=[])))) /\
  (∃a c,x=.slice a m c/\news.length=m*sz/\(bM F a 0 news\/(m=0/\news=[]) \/
    ∃k v t sz' m' ys ad c',L.get k=some (.row v t sz' m' ys)/\a=some ad/\v=.slice (some ad) m' c'/\∀(i:Nat) (u:Value),news[i]?=some u->ys[i]?=some u)) /\
  (∀u∈news,u.oneCell'=true)/\n+m<=maxLen/\(n+m)*bytes<=140737488355328 /\
  ∀v,(∃a c,v=.slice a (n+m) c/\(a=none->n+m=0))->K (L.set kd (.row v e sz (n+m) (xs++news))) v
structure o8 (F:aA) (L:Loc) (d:Option Nat) (e:TypeId) (sz bytes:Nat) (s x:Value) (K:Loc->Value->Prop):Prop where
 out:∃(kd:Nat) (n:Nat) (xs:List Value) (m:Nat) (news:List Value),
  (L.get kd=some (.row s e sz n xs)\/(d=some kd/\L.get kd=none/\n=0/\xs=[]/\s=.slice none 0 0) \/
   (d=some kd/\L.get kd=none/\∃ad,s=.slice (some ad) n n/\0<m/\xs.length=n*sz/\(bM F (some ad) 0 xs\/(n=0/\xs=[])))) /\
  (∃a c,x=.slice a m c/\news.length=m*sz/\(bM F a 0 news\/(m=0/\news=[]))) /\
  (∀u∈news,u.oneCell'=true)/\n+m<=maxLen/\(n+m)*bytes<=140737488355328 /\
  ∀v,(∃a c,v=.slice a (n+m) c/\(a=none->n+m=0))->Real F (L.set kd (.row v e sz (n+m) (xs++news)))->K (L.set kd (.row v e sz (n+m) (xs++news))) v
structure Mw (L:Loc) (e:TypeId) (s:Value) (t:ByteArray) (K:Loc->Value->Prop):Prop where
 out:∃(kd:Nat) (n:Nat) (xs:List Value),
  (L.get kd=some (.row s e 1 n xs)\/(L.get kd=none/\n=0/\xs=[]/\s=.slice none 0 0)) /\
  n+t.size<=maxLen/\(n+t.size)<=140737488355328 /\
  ∀v,(∃a c,v=.slice a (n+t.size) c/\(a=none->n+t.size=0))->K (L.set kd (.row v e 1 (n+t.size) (xs++t.data.toList.map fun b=>Value.int .u8 b.toNat))) v
structure FU (L:Loc) (e:TypeId) (bytes:Nat) (ki:IntKind) (s:Value) (m:Nat) (K:Loc->Value->Prop):Prop where
 out:∃(kd:Nat) (n:Nat) (xs:List Value),
  (L.get kd=some (.row s e 1 n xs)\/(L.get kd=none/\n=0/\xs=[]/\s=.slice none 0 0)) /\
  n+m<=maxLen/\(n+m)*bytes<=140737488355328 /\
  ∀v,(∃a c,v=.slice a (n+m) c/\(a=none->n+m=0))->K (L.set kd (.row v e 1 (n+m) (xs++List.replicate m (.int ki 0)))) v
structure zk (F:aA) (L:Loc) (e:TypeId) (sz:Nat) (d x:Value) (K:Loc->Nat->Prop):Prop where
 out:(∃(k n:Nat) (v:Value) (nr:Nat) (xs:List Value) (ad:Addr) (cr cd j m:Nat) (a:Option Addr) (c:Nat) (news:List Value),
  L.get k=some (.row v e sz nr xs)/\v=.slice (some ad) nr cr/\d=.slice (some (ad.add (j*sz))) n cd/\j+n<=nr /\
  x=.slice a m c/\news.length=(min m n)*sz/\(bM F a 0 news\/(min m n=0/\news=[]))/\(∀u∈news,u.oneCell'=true) /\
  K (L.set k (.row v e sz nr (aM xs (j*sz) news))) (min m n)) \/
  ∃(da:Option Addr) (n cd:Nat) (a:Option Addr) (m c:Nat),d=.slice da n cd/\x=.slice a m c/\min m n=0/\K L 0
structure IW (L:Loc) (e:TypeId) (d:Value) (t:ByteArray) (K:Loc->Nat->Prop):Prop where
 out:∃(k n:Nat) (v:Value) (nr:Nat) (xs:List Value) (ad:Addr) (cr cd j:Nat),
  L.get k=some (.row v e 1 nr xs)/\v=.slice (some ad) nr cr/\d=.slice (some (ad.add j)) n cd/\j+n<=nr /\
  K (L.set k (.row v e 1 nr (aM xs j ((t.data.toList.take n).map fun b=>Value.int .u8 b.toNat)))) (min t.size n)
structure zl (cs:List Value) (K:List UInt8->Prop):Prop where
 out:∃bs:List UInt8,cs=bs.map (fun b=>Value.int .u8 b.toNat)/\K bs
structure Qb (L:Loc) (a:Option Addr) (n:Nat) (K:List UInt8->Prop):Prop where
 out:∃k t c,∃bs:List UInt8,L.get k=some (.row (.slice a n c) t 1 n (bs.map (fun b=>Value.int .u8 b.toNat)))/\bs.length=n/\(a=none->n=0)/\K bs
def mN:List Value->Bool
 | .tuple _::_=>false
 | _=>true
def fq:Bool->Value->Value->Option Bool
 | false,.int .i64 a,.int .i64 b=>some (decide (a=b))
 | true,.string a,.string b=>some (decide (a.data.toList=b.data.toList))
 | _,_,_=>none
def lQ (str:Bool) (key:Value):List Value->Nat->Option (Option (Nat×Value))
 | [],_=>some none
 | .agg ⟨[k,v]⟩::l,i=>match fq str key k with
  | some true=>some (some (i,v))
  | some false=>lQ str key l (i+1)
  | none=>none
 | _::_,_=>none
def vn (str:Bool) (key val:Value):List Value->Option (List Value)
 | []=>some [.agg #[key,val]]
 | .agg ⟨[k,v]⟩::l=>match fq str key k with
  | some true=>some (.agg #[key,val]::l)
  | some false=>match vn str key val l with | some l'=>some (.agg #[k,v]::l') | none=>none
  | none=>none
 | _::_=>none
structure AB (L:Loc) (g:Nat) (K:Nat->List Value->Prop):Prop where
 out:∃k cs,L.get k=some (.box g 0 cs)/\mN cs=true/\K k cs
structure Di (str:Bool) (cs:List Value) (key:Value) (ok:Bool) (z:Value) (K:Value->Prop):Prop where
 out:(∃i v,lQ str key cs 0=some (some (i,v))/\K (match ok with | true=>.tuple #[v,.bool true] | false=>v))\/(lQ str key cs 0=some none/\K (match ok with | true=>.tuple #[z,.bool false] | false=>z))
structure Mx (str:Bool) (cs:List Value) (key val:Value) (K:List Value->Prop):Prop where
 isKey:fq str key key=some true
 out:∃cs',vn str key val cs=some cs'/\K cs'
structure My (L:Loc) (k gi g n:Nat) (seen:List Value) (K:Loc->Value->Prop):Prop where
 out:∃km cs,L.get km=some (.box g 0 cs)/\mN cs=true/\cs.length=n/\(∀j e,cs[j]?=some e->j∉seen.map iN->K (L.set k (.box gi 0 (.tuple #[.map (some g),.int .i64 n]::(seen++[.int .i64 j])))) (.tuple #[.bool true,(fU e j).key,(fU e j).val])) /\
  ((∀j,j<n->j∈seen.map iN)->K L (.tuple #[.bool false]))
structure IX (L:Loc) (g n:Nat) (seen:List Value) (K:Value->Prop):Prop where
 out:∃km cs j e,L.get km=some (.box g 0 cs)/\mN cs=true/\cs.length=n/\seen.getLast?=some (.int .i64 (.ofNat j))/\cs[j]?=some e/\K (.tuple #[(fU e j).key,(fU e j).val])
structure Mz (F:aA) (mv:Value) (n:Int) (K:Int->Bool->Prop):Prop where
 out:∃k r b,je k F mv/\uL k n=some (r,b)/\K r b
structure sU (n c:Int) (bytes:Nat) (K:Nat->Prop):Prop where
 lo:0<=n
 le:n<=c
 hi:c.toNat*bytes<=140737488355328
 max:c.toNat<=maxLen
 out:K n.toNat
structure mO (l h:Int) (c:Nat) (K:Nat->Nat->Prop):Prop where
 lo:0<=l
 le:l<=h
 hi:h<=c
 out:K l.toNat h.toNat
abbrev vo:Bool->Prop->Prop->Prop
 | true,A,_=>A
 | false,_,B=>B
def aG:Value->List Value
 | .agg cs=>cs.toList
 | v=>[v]
def bf (L:Loc) (ρ:Env):List X->List Value
 | []=>[]
 | x::xs=>val L ρ x::bf L ρ xs
def cellsOf (L:Loc) (ρ:Env):List X->List Value
 | []=>[]
 | x::xs=>aG (val L ρ x)++cellsOf L ρ xs
def fR (agg:Bool) (cs:List Value):Value :=
 match agg,cs with
 | true,cs=>.agg cs.toArray
 | false,[v]=>v
 | false,_=>undef
def eW:List Value->Nat->Bool
 | [],0=>true
 | _::l,n+1=>eW l n
 | _,_=>false
def iC (t:TypeId) (l:List Value) (n:Nat):Bool:=match Nat.beq t 0 with | true=>false | false=>eW l n
def eY (L:Loc) (ρ:Env) (sz:Nat):List X->Bool
 | []=>true
 | x::xs=>match eW (aG (val L ρ x)) sz with | true=>eY L ρ sz xs | false=>false
def iS:List Value->Bool
 | []=>true
 | v::l=>match v.oneCell' with | true=>iS l | false=>false
def mX:Bool->Bool->Bool
 | true,b=>!b
 | false,b=>b
def o9 (a b:ByteArray):Bool:=decide (a.data.toList=b.data.toList)
def LU (a b:ByteArray):Bool:=Op.bytesLess a.data.toList b.data.toList
def built (L:Loc) (ρ:Env):List Value->List (Nat×Nat×X)->Option (List Value)
 | zs,[]=>some zs
 | zs,(off,n,x)::ps=>match eW (aG (val L ρ x)) n with
  | true=>built L ρ (aM zs off (aG (val L ρ x))) ps
  | false=>none
def LV (mx:Bool):Int->List SV->Option Int
 | a,[]=>some a
 | a,.v (.int _ b)::l=>LV mx (match mx with | true=>if b>a then b else a | false=>if b<a then b else a) l
 | _,_=>none
def fC (a:Option Addr) (c l h sz:Nat):Value:=.slice (if c=l then a else a.map (·.add (l*sz))) (h-l) (c-l)
def iY (ρ:Env) (d:Int):Option X->Option Int
 | none=>some d
 | some x=>match ev ρ x with | .v (.int _ i)=>some i | _=>none
def lR:Value->Nat
 | .int _ m=>m.toNat
 | _=>0
def rR (b:Nat):Value->Bool
 | .int _ m=>Nat.ble (m.toNat*b) 140737488355328&&Nat.ble m.toNat 9223372036854775807&&decide (0<=m)
 | _=>false
theorem AE {b:Nat}{v:Value}(h:rR b v=true):∃k m,v=.int k m/\0<=m/\lR v=m.toNat/\m.toNat*b<=140737488355328/\m.toNat<=maxLen:=by
 cases v<;>simp only[rR] at h<;>try (cases h;done)
 rename_i k m;simp only[Xf,X1] at h;exact⟨k,m,rfl,h.2,rfl,Xq h.1.1,Xq h.1.2⟩
theorem Ey {b:Nat}{v:Value}(h:rR b v=true):lR v<=maxLen:=by
 obtain⟨k,m,rfl,_,e,_,a⟩:=AE h;rw[e];exact a
def binI (op:BinOp) (k:IntKind) (a b:Int) (K:Value->Prop):Prop :=
 match op with
 | .add=>Fit k (a+b) fun n=>K (.int k n)
 | .sub=>Fit k (a-b) fun n=>K (.int k n)
 | .mul=>Fit k (a*b) fun n=>K (.int k n)
 | .quo=>mW b (Fit k (a.tdiv b) fun n=>K (.int k n))
 | .rem=>mW b (K (.int k (a.tmod b)))
 | .and=>K (.int k (k.wrap (BitVec.ofInt k.bits a &&& BitVec.ofInt k.bits b).toNat))
 | .or=>K (.int k (k.wrap (BitVec.ofInt k.bits a ||| BitVec.ofInt k.bits b).toNat))
 | .xor=>K (.int k (k.wrap (BitVec.ofInt k.bits a ^^^ BitVec.ofInt k.bits b).toNat))
 | .andNot=>K (.int k (k.wrap (BitVec.ofInt k.bits a &&& ~~~ BitVec.ofInt k.bits b).toNat))
 | .eql=>K (.bool (decide (a=b)))
 | .neq=>K (.bool (!decide (a=b)))
 | .lss=>K (.bool (decide (a<b)))
 | .leq=>K (.bool (decide (a<=b)))
 | .gtr=>K (.bool (decide (b<a)))
 | .geq=>K (.bool (decide (b<=a)))
 | _=>False
def shI (op:BinOp) (k:IntKind) (a b:Int) (K:Value->Prop):Prop :=
 match op with
 | .shl=>0<=b/\Fit k (a*2 ^ (min b.toNat k.bits)) fun n=>K (.int k n)
 | .shr=>0<=b/\K (.int k (a.fdiv (2 ^ (min b.toNat k.bits))))
 | _=>False
def binS (op:BinOp) (a b:ByteArray) (K:Value->Prop):Prop :=
 match op with
 | .add=>((a.size+b.size:Nat):Int)<=IntKind.i64.max/\K (.string (a++b))
 | .eql=>K (.bool (o9 a b))
 | .neq=>K (.bool (!o9 a b))
 | .lss=>K (.bool (LU a b))
 | .geq=>K (.bool (!LU a b))
 | _=>False
def pq:IntKind->IntKind->Bool
 | .i64,.i64=>true | .u8,.u8=>true | .u64,.u64=>true | .i32,.i32=>true | .u16,.u16=>true | .u32,.u32=>true | .i8,.i8=>true | .i16,.i16=>true
 | _,_=>false
def FV:BinOp->Bool
 | .shl | .shr=>true
 | _=>false
def iD:List Bool->List Value->List Value->Bool->Option Bool
 | [],[],[],c=>some c
 | true::ks,.int k a::l,.int e b::d,c=>match pq k e with | true=>iD ks l d (c&&decide (a=b)) | false=>none
 | false::ks,.bool a::l,.bool b::d,c=>iD ks l d (c&&decide (a=b))
 | _,_,_,_=>none
def aI (o:dU) (F:aA) (L:Loc) (ρ:Env) (V:SV->Prop):Prop :=
 match o with
 | .mov x=>V (ev ρ x)
 | .pick c a b=>match ev ρ c with
  | .v (.bool true)=>V (ev ρ a)
  | .v (.bool false)=>V (ev ρ b)
  | _=>False
 | .build zs ps=>match built L ρ zs ps with
  | some cs=>V (.v (.agg cs.toArray))
  | none=>False
 | .load agg n x=>match ev ρ x with
  | .own k off=>match L.get k with
   | some (.box _ t cs)=>match iC t ((cs.drop off).take n) n with
    | true=>V (.v (fR agg ((cs.drop off).take n)))
    | false=>False
   | _=>False
  | .el a j=>jf F L a j n fun cs=>V (.v (fR agg cs))
  | .v (.pointer (some a))=>jf F L (some a) 0 n fun cs=>V (.v (fR agg cs))
  | _=>False
 | .loadR agg n x=>match ev ρ x with
  | .own k off=>match L.get k with
   | some (.box _ t cs)=>match iC t ((cs.drop off).take n) n with
    | true=>V (.v (fR agg ((cs.drop off).take n)))
    | false=>False
   | _=>False
  | .el a j=>jf F L a j n fun cs=>V (.v (fR agg cs))
  | .v (.pointer (some a))=>jf F L (some a) 0 n fun cs=>V (.v (fR agg cs))
  | _=>False
 | .nilck x=>match ev ρ x with
  | .own k off=>V (.own k off)
  | .el a j=>a≠none/\V (.el a j)
  | .v (.pointer (some a))=>V (.v (.pointer (some a)))
  | .v (.func (.func f) fi ca)=>V (.v (.func (.func f) fi ca))
  | .v (.func (.method nm) fi ca)=>match fi.toList with
   | [.iface t u]=>LR Ew t nm=true/\V (.v (.func (.method nm) fi ca))
   | _=>False
  | _=>False
 | .mkmv nm x=>match ev ρ x with
  | .v v=>V (.v (.func (.method nm) #[v] #[]))
  | _=>False
 | .bin op x y=>match ev ρ x,ev ρ y with
  | .v (.int k a),.v (.int e b)=>match FV op with
   | true=>shI op k a b fun v=>V (.v v)
   | false=>match pq k e with
    | true=>binI op k a b fun v=>V (.v v)
    | false=>False
  | .v (.string a),.v (.string b)=>binS op a b fun v=>V (.v v)
  | _,_=>False
 | .eqB neg x y=>match ev ρ x,ev ρ y with
  | .v (.bool a),.v (.bool b)=>V (.v (.bool (mX neg (decide (a=b)))))
  | _,_=>False
 | .eqP neg x y=>match ev ρ x,ev ρ y with
  | .own _ _,.v (.pointer none)=>V (.v (.bool (mX neg false)))
  | .el (some _) _,.v (.pointer none)=>V (.v (.bool (mX neg false)))
  | .v (.pointer a),.v (.pointer none)=>V (.v (.bool (mX neg a.isNone)))
  | _,_=>False
 | .eqS neg x y=>match ev ρ x,ev ρ y with
  | .v (.slice a _ _),.v (.slice none _ _)=>V (.v (.bool (mX neg a.isNone)))
  | _,_=>False
 | .eqF neg x y=>match ev ρ x,ev ρ y with
  | .v .nilFunc,.v .nilFunc=>V (.v (.bool (mX neg true)))
  | .v (.func _ _ _),.v .nilFunc=>V (.v (.bool (mX neg false)))
  | _,_=>False
 | .eqN neg x=>match ev ρ x with
  | .v .nilIface=>V (.v (.bool (mX neg true)))
  | .v (.iface _ _)=>V (.v (.bool (mX neg false)))
  | _=>False
 | .tas t z x=>match ev ρ x with
  | .v .nilIface=>V (.v (.tuple #[z,.bool false]))
  | .v (.iface p u)=>match Nat.beq p t with
   | true=>V (.v (.tuple #[u,.bool true]))
   | false=>V (.v (.tuple #[z,.bool false]))
  | _=>False
 | .eqA neg ks x y=>match ev ρ x,ev ρ y with
  | .v (.agg cs),.v (.agg ds)=>match iD ks cs.toList ds.toList true with
   | some b=>V (.v (.bool (mX neg b)))
   | none=>False
  | _,_=>False
 | .un op x=>match op,ev ρ x with
  | .not,.v (.bool b)=>V (.v (.bool (!b)))
  | .neg,.v (.int k n)=>Fit k (0-n) fun m=>V (.v (.int k m))
  | .xor,.v (.int k n)=>V (.v (.int k (k.wrap (BitVec.ofInt k.bits (if k.signed then -1 else k.max) ^^^ BitVec.ofInt k.bits n).toNat)))
  | _,_=>False
 | .conv k x=>match ev ρ x with
  | .v (.int _ n)=>Fit k n fun m=>V (.v (.int k m))
  | _=>False
 | .b2s x=>match ev ρ x with
  | .v (.slice a n _)=>jf F L a 0 n fun cs=>zl cs fun bs=>V (.v (.string ⟨bs.toArray⟩))
  | _=>False
 | .mkfn f fi ca=>V (.v (.func (.func f) (bf L ρ fi).toArray (bf L ρ ca).toArray))
 | .slc sz x lo hi=>match ev ρ x with
  | .v (.slice a n c)=>match iY ρ 0 lo,iY ρ n hi with
   | some l,some h=>mO l h c fun l h=>V (.v (fC a c l h sz))
   | _,_=>False
  | _=>False
 | .slcS x lo hi=>match ev ρ x with
  | .v (.string s)=>match iY ρ 0 lo,iY ρ s.size hi with
   | some l,some h=>mO l h s.size fun l h=>V (.v (.string (s.extract l h)))
   | _,_=>False
  | _=>False
 | .fieldA off x=>match ev ρ x with
  | .own k o=>V (.own k (o+off))
  | .el a j=>V (.el a (j+off))
  | .v (.pointer (some a))=>V (.el (some a) off)
  | _=>False
 | .fieldV agg off n x=>match ev ρ x with
  | .v (.agg cs)=>match eW ((cs.toList.drop off).take n) n with
   | true=>V (.v (fR agg ((cs.toList.drop off).take n)))
   | false=>False
  | _=>False
 | .idxA sz x i=>match ev ρ x,ev ρ i with
  | .v (.slice a n _),.v (.int _ i)=>Dg a i n (V (.el a (i.toNat*sz)))
  | _,_=>False
 | .idxS x i=>match ev ρ x,ev ρ i with
  | .v (.string s),.v (.int _ i)=>Mv i s.size (V (.v (.int .u8 ((s.data.toList.getD i.toNat 0).toNat))))
  | _,_=>False
 | .extr x i=>match ev ρ x with
  | .v (.tuple vs)=>match vs.toList[i]? with
   | some v=>V (.v v)
   | none=>False
  | _=>False
 | .len x=>match ev ρ x with
  | .v (.slice _ n _)=>V (.v (.int .i64 n))
  | _=>False
 | .lenS x=>match ev ρ x with
  | .v (.string s)=>V (.v (.int .i64 s.size))
  | _=>False
 | .capa x=>match ev ρ x with
  | .v (.slice _ _ c)=>V (.v (.int .i64 c))
  | _=>False
 | .mm mx args=>match args.map (ev ρ) with
  | .v (.int k a)::l=>match LV mx a l with
   | some m=>V (.v (.int k m))
   | none=>False
  | _=>False
 | .loadD agg n x=>match ev ρ x with
  | .own k off=>match L.get k with
   | some (.box _ t cs)=>match iC t ((cs.drop off).take n) n with
    | true=>V (.v (fR agg ((cs.drop off).take n)))
    | false=>False
   | _=>False
  | .el a j=>hU F a j n fun cs=>V (.v (fR agg cs))
  | .v (.pointer (some a))=>hU F (some a) 0 n fun cs=>V (.v (fR agg cs))
  | _=>False
 | .gload g=>Oy F g fun v=>V (.v v)
 | .loadF agg n x=>match ev ρ x with
  | .el a j=>hU F a j n fun cs=>V (.v (fR agg cs))
  | .v (.pointer (some a))=>hU F (some a) 0 n fun cs=>V (.v (fR agg cs))
  | _=>False
 | .mkif t x=>match ev ρ x with
  | .v v=>V (.v (.iface t v))
  | .el (some d) j=>V (.v (.iface t (.pointer (some (d.add j)))))
  | .own k off=>match L.get k with
   | some (.box g _ _)=>V (.v (.iface t (.pointer (some ⟨g,off,none⟩))))
   | _=>False
  | _=>False
 | .b2sD x=>match ev ρ x with
  | .v (.slice a n _)=>hU F a 0 n fun cs=>zl cs fun bs=>V (.v (.string ⟨bs.toArray⟩))
  | _=>False
 | .b2sR x=>match ev ρ x with
  | .v (.slice a n _)=>Qb L a n fun bs=>V (.v (.string ⟨bs.toArray⟩))
  | _=>False
 | .mlook str ok z x i=>match ev ρ x with
  | .v (.map (some g))=>AB L g fun _ cs=>Di str cs (val L ρ i) ok z fun v=>V (.v v)
  | _=>False
 | .mlen x=>match ev ρ x with
  | .v (.map (some g))=>AB L g fun _ cs=>V (.v (.int .i64 cs.length))
  | _=>False
 | .loadK key agg n x=>match ev ρ x with
  | .own k off=>match Nat.beq k key with
   | true=>match L.get k with
    | some (.box _ t cs)=>match iC t ((cs.drop off).take n) n with
     | true=>V (.v (fR agg ((cs.drop off).take n)))
     | false=>False
    | _=>False
   | false=>False
  | _=>False
 | _=>False
def evalOp (P:Program) (o:dU) (d:Option Nat) (F:aA) (L:Loc) (ρ:Env) (K:cF):Prop :=
 match o with
 | .mov x=>aI (.mov x) F L ρ fun v=>K F L (put d v ρ)
 | .pick c a b=>aI (.pick c a b) F L ρ fun v=>K F L (put d v ρ)
 | .box t x=>match d with
  | some k=>match L.get k with
   | none=>∀g,K F (L.set k (.box g t (aG (val L ρ x)))) (put d (.own k 0) ρ)
   | some _=>False
  | none=>False
 | .boxF t x=>∀g F',F.le F'->F' g=some (.cells (aG (val L ρ x)).toArray t (0,0))->K F' L (put d (.v (.pointer (some ⟨g,0,none⟩))) ρ)
 | .alloc t zs=>match d with
  | some k=>match L.get k with
   | none=>∀g,K F (L.set k (.box g t zs)) (put d (.own k 0) ρ)
   | some _=>False
  | none=>False
 | .mkF e n sz xs=>match eY L ρ sz xs with
  | true=>∀g F',F.le F'->F' g=some (.cells (cellsOf L ρ xs).toArray e (0,0))->K F' L (put d (.v (.slice (some ⟨g,0,none⟩) n n)) ρ)
  | false=>False
 | .mkR e n sz xs=>match eY L ρ sz xs,d with
  | true,some k=>match L.get k with
   | none=>∀g,K F (L.set k (.row (.slice (some ⟨g,0,none⟩) n n) e sz n (cellsOf L ρ xs))) (put d (.v (.slice (some ⟨g,0,none⟩) n n)) ρ)
   | some _=>False
  | _,_=>False
 | .build zs ps=>aI (.build zs ps) F L ρ fun v=>K F L (put d v ρ)
 | .load agg n x=>aI (.load agg n x) F L ρ fun v=>K F L (put d v ρ)
 | .store n a x=>match eW (aG (val L ρ x)) n,iS (aG (val L ρ x)),ev ρ a with
  | true,true,.own k off=>match L.get k with
   | some (.box g t cs)=>match iC t ((cs.drop off).take n) n with
    | true=>K F (L.set k (.box g t (aM cs off (aG (val L ρ x))))) (put d (.v undef) ρ)
    | false=>False
   | _=>False
  | true,true,.el q j=>rQ F L q j (aG (val L ρ x)) fun L'=>K F L' (put d (.v undef) ρ)
  | true,true,.v (.pointer (some q))=>rQ F L (some q) 0 (aG (val L ρ x)) fun L'=>K F L' (put d (.v undef) ρ)
  | _,_,_=>False
 | .nilck x=>aI (.nilck x) F L ρ fun v=>K F L (put d v ρ)
 | .mkmv nm x=>aI (.mkmv nm x) F L ρ fun v=>K F L (put d v ρ)
 | .mkif t x=>aI (.mkif t x) F L ρ fun v=>K F L (put d v ρ)
 | .pan _=>False
 | .dead=>False
 | .bin op x y=>aI (.bin op x y) F L ρ fun v=>K F L (put d v ρ)
 | .eqB neg x y=>aI (.eqB neg x y) F L ρ fun v=>K F L (put d v ρ)
 | .eqP neg x y=>aI (.eqP neg x y) F L ρ fun v=>K F L (put d v ρ)
 | .eqS neg x y=>aI (.eqS neg x y) F L ρ fun v=>K F L (put d v ρ)
 | .eqF neg x y=>aI (.eqF neg x y) F L ρ fun v=>K F L (put d v ρ)
 | .eqN neg x=>aI (.eqN neg x) F L ρ fun v=>K F L (put d v ρ)
 | .tas t z x=>aI (.tas t z x) F L ρ fun v=>K F L (put d v ρ)
 | .eqA neg ks x y=>aI (.eqA neg ks x y) F L ρ fun v=>K F L (put d v ρ)
 | .un op x=>aI (.un op x) F L ρ fun v=>K F L (put d v ρ)
 | .conv k x=>aI (.conv k x) F L ρ fun v=>K F L (put d v ρ)
 | .b2s x=>aI (.b2s x) F L ρ fun v=>K F L (put d v ρ)
 | .s2b _ x=>match ev ρ x with
  | .v (.string s)=>∀g c F',F.le F'->bM F' (some ⟨g,0,none⟩) 0 (s.data.toList.map fun b=>Value.int .u8 b.toNat)->s.size<=c->K F' L (put d (.v (.slice (some ⟨g,0,none⟩) s.size c)) ρ)
  | _=>False
 | .mkfn f fi ca=>aI (.mkfn f fi ca) F L ρ fun v=>K F L (put d v ρ)
 | .makeS e sz bytes zs l c=>match ev ρ l,ev ρ c,d with
  | .v (.int _ n),.v (.int _ m),some k=>match L.get k with
   | none=>sU n m bytes fun n=>∀g,K F (L.set k (.row (.slice (some ⟨g,0,none⟩) n m.toNat) e sz n (List.replicate n zs).flatten)) (put d (.v (.slice (some ⟨g,0,none⟩) n m.toNat)) ρ)
   | some _=>False
  | _,_,_=>False
 | .slc sz x lo hi=>aI (.slc sz x lo hi) F L ρ fun v=>K F L (put d v ρ)
 | .slcS x lo hi=>aI (.slcS x lo hi) F L ρ fun v=>K F L (put d v ρ)
 | .fieldA off x=>aI (.fieldA off x) F L ρ fun v=>K F L (put d v ρ)
 | .fieldV agg off n x=>aI (.fieldV agg off n x) F L ρ fun v=>K F L (put d v ρ)
 | .idxA sz x i=>aI (.idxA sz x i) F L ρ fun v=>K F L (put d v ρ)
 | .idxS x i=>aI (.idxS x i) F L ρ fun v=>K F L (put d v ρ)
 | .extr x i=>aI (.extr x i) F L ρ fun v=>K F L (put d v ρ)
 | .call f args=>cW P f (bf L ρ args) F L fun F' L' v=>K F' L' (put d (.v v) ρ)
 | .callV f args=>match lf P (ev ρ f) with
  | some (f,fi,ca)=>cW P f (fi++bf L ρ args++ca) F L fun F' L' v=>K F' L' (put d (.v v) ρ)
  | none=>match xZ P (ev ρ f) (bf L ρ args) with
   | some (f,args)=>cW P f args F L fun F' L' v=>K F' L' (put d (.v v) ρ)
   | none=>False
 | .gload g=>aI (.gload g) F L ρ fun v=>K F L (put d v ρ)
 | .look x i=>match ev ρ x,ev ρ i with
  | .v mv,.v (.int .i64 n)=>Mz F mv n fun r b=>K F L (put d (.v (.tuple #[.int .i64 r,.bool b])) ρ)
  | _,_=>False
 | .mkmap=>match d with
  | some k=>match L.get k with
   | none=>∀g,K F (L.set k (.box g 0 [])) (put d (.v (.map (some g))) ρ)
   | some _=>False
  | none=>False
 | .mlook str ok z x i=>aI (.mlook str ok z x i) F L ρ fun v=>K F L (put d v ρ)
 | .mlen x=>aI (.mlen x) F L ρ fun v=>K F L (put d v ρ)
 | .mupd str x i v=>match ev ρ x with
  | .v (.map (some g))=>AB L g fun k cs=>Mx str cs (val L ρ i) (val L ρ v) fun cs'=>K F (L.set k (.box g 0 cs')) (put d (.v undef) ρ)
  | _=>False
 | .mrange x=>match ev ρ x,d with
  | .v (.map (some g)),some k=>match L.get k with
   | none=>AB L g fun _ cs=>∀w,K F (L.set k (.box w 0 [.tuple #[.map (some g),.int .i64 cs.length]])) (put d (.own k 0) ρ)
   | some _=>False
  | _,_=>False
 | .mnext x=>match ev ρ x with
  | .own k 0=>match L.get k with
   | some (.box w 0 (.tuple ⟨[.map (some g),.int .i64 (.ofNat n)]⟩::h))=>My L k w g n h fun L' v=>K F L' (put d (.v v) ρ)
   | _=>False
  | _=>False
 | .mentry x=>match ev ρ x with
  | .own k 0=>match L.get k with
   | some (.box w 0 (.tuple ⟨[.map (some g),.int .i64 (.ofNat n)]⟩::h))=>IX L g n h fun v=>K F L (put d (.v v) ρ)
   | _=>False
  | _=>False
 | .len x=>aI (.len x) F L ρ fun v=>K F L (put d v ρ)
 | .lenS x=>aI (.lenS x) F L ρ fun v=>K F L (put d v ρ)
 | .capa x=>aI (.capa x) F L ρ fun v=>K F L (put d v ρ)
 | .mm mx args=>aI (.mm mx args) F L ρ fun v=>K F L (put d v ρ)
 | .app e sz bytes _ s x=>match ev ρ s,ev ρ x with
  | .v sv,.v p=>Dh F L e sz bytes sv p fun L1 v=>K F L1 (put d (.v v) ρ)
  | _,_=>False
 | .appX e sz bytes _ s x=>match ev ρ s,ev ρ x with
  | .v sv,.v p=>Dh F L e sz bytes sv p fun L1 v=>Real F L1->K F L1 (put d (.v v) ρ)
  | _,_=>False
 | .appD e sz bytes _ s x=>match ev ρ s,ev ρ x with
  | .v sv,.v p=>o8 F L d e sz bytes sv p fun L1 v=>K F L1 (put d (.v v) ρ)
  | _,_=>False
 | .appS e s x=>match ev ρ s,ev ρ x with
  | .v sv,.v (.string t)=>Mw L e sv t fun L1 v=>K F L1 (put d (.v v) ρ)
  | _,_=>False
 | .appZ e bytes ki s x=>match ev ρ s,ev ρ x with
  | .v sv,.v (.int _ i)=>match i with
   | .ofNat m=>FU L e bytes ki sv m fun L1 v=>K F L1 (put d (.v v) ρ)
   | .negSucc _=>False
  | _,_=>False
 | .copy e sz dd x=>match ev ρ dd,ev ρ x with
  | .v u,.v (.string t)=>IW L e u t fun L1 n=>K F L1 (put d (.v (.int .i64 n)) ρ)
  | .v u,.v p=>zk F L e sz u p fun L1 n=>K F L1 (put d (.v (.int .i64 n)) ρ)
  | _,_=>False
 | .storeD n a x=>match eW (aG (val L ρ x)) n,iS (aG (val L ρ x)),ev ρ a with
  | true,true,.own k off=>match L.get k with
   | some (.box g t cs)=>match iC t ((cs.drop off).take n) n with
    | true=>K F (L.set k (.box g t (aM cs off (aG (val L ρ x))))) (put d (.v undef) ρ)
    | false=>False
   | _=>False
  | _,_,_=>False
 | .storeK key n a x=>match eW (aG (val L ρ x)) n,iS (aG (val L ρ x)),ev ρ a with
  | true,true,.own k off=>match Nat.beq k key with
   | true=>match L.get k with
    | some (.box g t cs)=>match iC t ((cs.drop off).take n) n with
     | true=>K F (L.set k (.box g t (aM cs off (aG (val L ρ x))))) (put d (.v undef) ρ)
     | false=>False
    | _=>False
   | false=>False
  | _,_,_=>False
 | .loadD agg n x=>aI (.loadD agg n x) F L ρ fun v=>K F L (put d v ρ)
 | .loadF agg n x=>aI (.loadF agg n x) F L ρ fun v=>K F L (put d v ρ)
 | .loadR agg n x=>aI (.loadR agg n x) F L ρ fun v=>K F L (put d v ρ)
 | .loadK key agg n x=>aI (.loadK key agg n x) F L ρ fun v=>K F L (put d v ρ)
 | .b2sD x=>aI (.b2sD x) F L ρ fun v=>K F L (put d v ρ)
 | .b2sR x=>aI (.b2sR x) F L ρ fun v=>K F L (put d v ρ)
 | .makeSD e sz n zs=>match d with
  | some k=>match L.get k,eW zs sz,Nat.ble n 9223372036854775807 with
   | none,true,true=>∀g,Real F (L.set k (.row (.slice (some ⟨g,0,none⟩) n n) e sz n (List.replicate n zs).flatten))->K F (L.set k (.row (.slice (some ⟨g,0,none⟩) n n) e sz n (List.replicate n zs).flatten)) (put d (.v (.slice (some ⟨g,0,none⟩) n n)) ρ)
   | _,_,_=>False
  | none=>False
 | .makeSV e sz b zs x=>match d with
  | some k=>match L.get k,eW zs sz,rR b (val L ρ x) with
   | none,true,true=>∀g,Real F (L.set k (.row (.slice (some ⟨g,0,none⟩) (lR (val L ρ x)) (lR (val L ρ x))) e sz (lR (val L ρ x)) (List.replicate (lR (val L ρ x)) zs).flatten))->K F (L.set k (.row (.slice (some ⟨g,0,none⟩) (lR (val L ρ x)) (lR (val L ρ x))) e sz (lR (val L ρ x)) (List.replicate (lR (val L ρ x)) zs).flatten)) (put d (.v (.slice (some ⟨g,0,none⟩) (lR (val L ρ x)) (lR (val L ρ x)))) ρ)
   | _,_,_=>False
  | none=>False
 | .copyX e sz dd x=>match ev ρ dd,ev ρ x with
  | .v u,.v p=>zk F L e sz u p fun L1 n=>Real F L1->K F L1 (put d (.v (.int .i64 n)) ρ)
  | _,_=>False
 | .storeX n a x=>match eW (aG (val L ρ x)) n,iS (aG (val L ρ x)),ev ρ a with
  | true,true,.own k off=>match L.get k with
   | some (.box g t cs)=>match iC t ((cs.drop off).take n) n with
    | true=>Real F (L.set k (.box g t (aM cs off (aG (val L ρ x)))))->K F (L.set k (.box g t (aM cs off (aG (val L ρ x))))) (put d (.v undef) ρ)
    | false=>False
   | _=>False
  | true,true,.el q j=>zj L q j (aG (val L ρ x)) fun L'=>Real F L'->K F L' (put d (.v undef) ρ)
  | true,true,.v (.pointer (some q))=>zj L (some q) 0 (aG (val L ρ x)) fun L'=>Real F L'->K F L' (put d (.v undef) ρ)
  | _,_,_=>False
 | .boxD t x=>match d with
  | some k=>match L.get k with
   | none=>∀g,Real F (L.set k (.box g t (aG (val L ρ x))))->K F (L.set k (.box g t (aG (val L ρ x)))) (put d (.own k 0) ρ)
   | some _=>False
  | none=>False
 | .allocD t zs=>match d with
  | some k=>match L.get k with
   | none=>∀g,Real F (L.set k (.box g t zs))->K F (L.set k (.box g t zs)) (put d (.own k 0) ρ)
   | some _=>False
  | none=>False
 | .mkFD e n sz xs=>match eY L ρ sz xs with
  | true=>∀g F',F.le F'->F' g=some (.cells (cellsOf L ρ xs).toArray e (0,0))->Real F' L->K F' L (put d (.v (.slice (some ⟨g,0,none⟩) n n)) ρ)
  | false=>False
 | .callD f args=>dQ P f (bf L ρ args) F L d fun F' L' v=>K F' L' (put d (.v v) ρ)
 | .callVD f args=>match lf P (ev ρ f) with
  | some (f,fi,ca)=>dQ P f (fi++bf L ρ args++ca) F L d fun F' L' v=>K F' L' (put d (.v v) ρ)
  | none=>False
 | .callO f args=>cW P f (bf L ρ args) F L fun F' L' v=>Real F' L'->K F' L' (put d (.v v) ρ)
 | .callVO f args=>match lf P (ev ρ f) with
  | some (f,fi,ca)=>cW P f (fi++bf L ρ args++ca) F L fun F' L' v=>Real F' L'->K F' L' (put d (.v v) ρ)
  | none=>False
def FW (F:aA) (v:Value) (sz n:Nat) (xs:List Value):Prop :=
 (v=.slice none 0 0/\n=0/\xs=[])\/∃a c,v=.slice (some a) n c/\bM F (some a) 0 xs/\n<=c
structure LW (F:aA) (L:Loc) (k:Nat) (K:aA->Loc->Prop):Prop where
 out:∃v t sz n xs,L.get k=some (.row v t sz n xs)/\∀F',F.le F'->FW F' v sz n xs->K F' (L.del k)
inductive ak where
 | op (dst:Option Nat) (o:dU) (guard:Option (Nat×Bool))
 | frz (k:Nat)
 | pc (dst:Option Nat) (o:dU) (guard:Option (Nat×Bool))
 deriving Inhabited
def vp (k g:Nat) (ρ:Env):Env:=fun j=>match ρ j with
 | .own b off=>match Nat.beq b k with | true=>.v (.pointer (some ⟨g,off,none⟩)) | false=>.own b off
 | .v x=>.v x
 | .el a i=>.el a i
def aV (P:Program):List ak->aA->Loc->Env->cF->Prop
 | [],F,L,ρ,K=>K F L ρ
 | .op d o none::a,F,L,ρ,K=>evalOp P o d F L ρ fun F' L' ρ'=>aV P a F' L' ρ' K
 | .op d o (some (s,c))::a,F,L,ρ,K=>match ρ s with
  | .v (.bool b)=>vo b
    (match c with
     | true=>evalOp P o d F L (put (some s) (.v (.bool true)) ρ) fun F' L' ρ'=>aV P a F' L' ρ' K
     | false=>aV P a F L (put d (.v undef) (put (some s) (.v (.bool true)) ρ)) K)
    (match c with
     | false=>evalOp P o d F L (put (some s) (.v (.bool false)) ρ) fun F' L' ρ'=>aV P a F' L' ρ' K
     | true=>aV P a F L (put d (.v undef) (put (some s) (.v (.bool false)) ρ)) K)
  | .v (.tuple _)=>aV P a F L (put d (.v undef) ρ) K
  | _=>False
 | .frz k::a,F,L,ρ,K=>match L.get k with
  | some (.box g t cs)=>∀F',F.le F'->F' g=some (kR t cs)->aV P a F' (L.del k) (vp k g ρ) K
  | _=>LW F L k fun F' L'=>aV P a F' L' ρ K
 | .pc _ _ _::_,_,_,_,_=>False
inductive aJ where
 | skip
 | reg (ops:List ak)
 | regD (ops:List ak)
 | regX (ops:List ak)
 | seq (a b:aJ)
 | cond (c:X) (a b:aJ)
 | block (id:Nat) (c:aJ)
 | loop (asg:List Nat) (c:aJ)
 | exit (id:Nat)
 | ret
 deriving Inhabited
def fw:List Nat->Nat->Bool
 | [],_=>false
 | j::l,k=>match Nat.beq j k with | true=>true | false=>fw l k
def Loc.keeps:Loc->Loc->Prop
 | [],_=>True
 | (k,.box g t _)::l,L'=>(∃cs,L'.get k=some (.box g t cs))/\Loc.keeps l L'
 | (_,.row ..)::l,L'=>Loc.keeps l L'
structure AF (F:aA) (L:Loc) (v:Value) (R:aA->List Own->Value->Prop):Prop where
 out:∃ko Lo,L.sub ko=some Lo/\ko.Nodup/\R F Lo v
abbrev RV:=Nat×Option (Bool×Nat)
def kS (L:Loc) (ρ:Env):List RV->(List Value->Prop)->Prop
 | [],K=>K []
 | (t,none)::l,K=>kS L ρ l fun vs=>K (conc L (ρ t)::vs)
 | (t,some (agg,n))::l,K=>match ρ t with
  | .own k off=>match L.get k with
   | some (.box _ ty cs)=>match iC ty ((cs.drop off).take n) n with
    | true=>kS L ρ l fun vs=>K (fR agg ((cs.drop off).take n)::vs)
    | false=>False
   | _=>False
  | _=>False
def gm:List Value->Value
 | [v]=>v
 | l=>.tuple l.toArray
def rS:Nat->List SV->Env
 | _,[]=>fun _=>.v undef
 | k,v::l=>put (some k) v (rS (k+1) l)
def Loc.gives (L:Loc):Loc->Prop
 | []=>True
 | (k,o)::l=>(L.get k=some o\/(L.get k=none/\∃t sz,o=.row (.slice none 0 0) t sz 0 []))/\Loc.gives L l
def gF (asg:List Nat) (a:Nat->Value) (ρ:Env):Env:=fun j=>match fw asg j with | true=>.v (a j) | false=>ρ j
def puts:List Nat->List SV->Env->Env
 | k::ks,v::vs,ρ=>put (some k) v (puts ks vs ρ)
 | _,_,ρ=>ρ
def holds:List Nat->List SV->Env->Prop
 | k::ks,v::vs,ρ=>ρ k=v/\holds ks vs ρ
 | _,_,_=>True
structure MA (body:aA->Loc->Env->cF->Prop) (asg:List Nat) (F:aA) (L:Loc) (ρ:Env):Prop where
 out:∃(σ:Type) (x0:σ) (Inv:σ->aA->Prop) (ls:List Nat) (lv:σ->List Value) (Lf:σ->Loc) (μ:σ->Nat),
  Inv x0 F/\holds ls ((lv x0).map .v) ρ/\L.gives (Lf x0)/\(∀x,L.keeps (Lf x)) /\
  ∀x F' jk,F.le F'->Inv x F'->body F' (Lf x) (puts ls ((lv x).map .v) (gF asg jk ρ)) fun F'' L'' ρ'' =>
   ∃x',Inv x' F''/\holds ls ((lv x').map .v) ρ''/\L''.gives (Lf x')/\μ x'<μ x
def jM (P:Program):aJ->(Nat->cF)->cF->cF->cF
 | .skip,_,_,N,F,L,ρ=>N F L ρ
 | .reg d,_,_,N,F,L,ρ=>aV P d F L ρ N
 | .regD d,_,_,N,F,L,ρ=>aV P d F L ρ N
 | .regX _,_,_,_,_,_,_=>False
 | .seq a b,E,R,N,F,L,ρ=>jM P a E R (fun F L ρ=>jM P b E R N F L ρ) F L ρ
 | .cond c a b,E,R,N,F,L,ρ=>match ev ρ c with
  | .v (.bool t)=>vo t (jM P a E R N F L ρ) (jM P b E R N F L ρ)
  | _=>False
 | .block id c,E,R,N,F,L,ρ=>jM P c (fun j=>match Nat.beq j id with | true=>N | false=>E j) R N F L ρ
 | .loop asg c,E,R,_,F,L,ρ=>MA (fun F L ρ K=>jM P c E R K F L ρ) asg F L ρ
 | .exit id,E,_,_,F,L,ρ=>E id F L ρ
 | .ret,_,R,_,F,L,ρ=>R F L ρ
theorem eZ {a b:Nat}(h:Nat.beq a b=false):a≠b:=by intro e;subst e;simp at h
theorem Loc.Wt (L:Loc) (k:Nat) (o:Own) (j:Nat):(L.set k o).get j=if j=k then some o else L.get j:=by
 induction L with
 | nil =>
  simp only[Loc.set,Loc.get];cases h:Nat.beq k j with
  | true=>have:=v8 h;simp[this]
  | false=>have:=eZ h;simp;omega
 | cons p l b =>
  obtain⟨i,q⟩:=p;simp only[Loc.set];cases h:Nat.beq i k with
  | true =>
   have e:=v8 h;subst e;simp only[Loc.get];cases a:Nat.beq i j with
   | true=>have:=v8 a;simp[this]
   | false=>have:=eZ a;simp;omega
  | false =>
   have c:=eZ h;simp only[];cases d:Nat.ble i k with
   | true =>
    simp only[Loc.get];cases a:Nat.beq i j with
    | true=>have:=v8 a;simp;omega
    | false=>simpa using b
   | false =>
    simp only[Loc.get];cases a:Nat.beq k j with
    | true=>have:=v8 a;simp[this]
    | false =>
     have:=eZ a;simp only[];rw[vv (by omega)]
theorem Loc.Wy (L:Loc) (k j:Nat):(L.del k).get j=if j=k then none else L.get j:=by
 induction L with
 | nil=>simp[Loc.del,Loc.get]
 | cons p l c =>
  obtain⟨i,q⟩:=p;simp only[Loc.del];cases h:Nat.beq i k with
  | true =>
   have e:=v8 h;subst e;simp only[Loc.get,c]
   by_cases b:j=i
   ·simp[b]
   ·have:Nat.beq i j=false:=by cases a:Nat.beq i j with | true=>exact v7 (v8 a).symm b | false=>rfl
    simp[b,this]
  | false =>
   have d:=eZ h;simp only[Loc.get];cases a:Nat.beq i j with
   | true=>have:=v8 a;simp;omega
   | false=>simpa using c
def Loc.part (L L':Loc):Prop:=∀k o,L'.get k=some o->L.get k=some o
theorem St.part {F:aA}{L L':Loc}{w:World}(h:St F L w) (a:L.part L'):St F L' w :=
 ⟨h.frz,fun k o e=>h.own k o (a k o e),fun k o g e=>h.off k o g (a k o e),fun k b o o' g e c=>h.sep k b o o' g (a k o e) (a b o' c),h.glob⟩
theorem Own.WJ {w:World}{o:Own}(h:o.ok w) {g:Nat}(a:o.blk=some g):g<w.heap.size:=by
 cases o with
 | box b t cs =>
  simp only[Own.blk,xo] at a;subst a;exact(Array.getElem?_eq_some_iff.1 h).1
 | row v t sz n xs=>exact(World.ownsRow.lt h g a).2
theorem Own.WO {w w':World}{o:Own}(h:o.ok w) (c:∀g,o.blk=some g->w'.heap[g]?=w.heap[g]?):o.ok w':=by
 cases o with
 | box g t cs=>exact(c g rfl).trans h
 | row v t sz n xs =>
  obtain⟨d,b⟩:=h;refine⟨d,?_⟩;rcases b with b | ⟨g,cap,a,rfl,hb,e,r⟩
  ·exact .inl b
  ·exact .inr ⟨g,cap,a,rfl,hb,(c g rfl).trans e,r⟩
theorem St.WQ {F:aA}{L:Loc}{w:World}(h:St F L w) {b:Nat}(hb:F b≠none):b<w.heap.size:=by
 cases e:F b with
 | none=>exact v7 e hb
 | some o=>exact(Array.getElem?_eq_some_iff.1 (h.frz b o e)).1
theorem St.WV {F:aA}{L:Loc}{w:World}(h:St F L w) {b:Nat}(hb:L.owns b):b<w.heap.size:=by
 obtain⟨k,o,e,a⟩:=hb;exact Own.WJ (h.own k o e) a
theorem St.keep {F:aA}{L:Loc}{w w':World}(h:St F L w) (a:∀b,b<w.heap.size->w'.heap[b]?=w.heap[b]?):St F L w':=by
 refine⟨fun b o e=>?_,fun k o e=>?_,h.off,h.sep,h.glob⟩
 ·have:=h.frz b o e;rw[a b (Array.getElem?_eq_some_iff.1 this).1];exact this
 ·exact Own.WO (h.own k o e) fun g c=>a g (Own.WJ (h.own k o e) c)
theorem St.drew {F:aA}{L:Loc}{w:World}(h:St F L w):St F L w.drew:=h.keep fun _ _=>rfl
theorem St.put {F:aA}{L:Loc}{w:World}(h:St F L w) {k:Nat}{o:Own}(x:L.get k=none) (u:o.ok w)
  (f:∀g,o.blk=some g->F g=none/\¬L.owns g):St F (L.set k o) w:=by
 have a:∀j p,(L.set k o).get j=some p->(j=k/\p=o)\/(j≠k/\L.get j=some p):=by
  intro j p e;rw[Loc.Wt] at e;split at e
  ·rename_i d;exact .inl ⟨d,by injection e with e;exact e.symm⟩
  ·rename_i d;exact .inr ⟨d,e⟩
 refine⟨h.frz,fun j p e=>?_,fun j p g e c=>?_,fun j m p q g e v c b=>?_,h.glob⟩
 ·rcases a j p e with⟨_,rfl⟩ | ⟨_,e⟩
  ·exact u
  ·exact h.own j p e
 ·rcases a j p e with⟨_,rfl⟩ | ⟨_,e⟩
  ·exact(f g c).1
  ·exact h.off j p g e c
 ·rcases a j p e with⟨d,t⟩ | ⟨_,s⟩<;>rcases a m q v with⟨n,l⟩ | ⟨_,r⟩
  ·exact d.trans n.symm
  ·subst t;exact v7 ⟨m,q,r,b⟩ (f g c).2
  ·subst l;exact v7 ⟨j,p,s,c⟩ (f g b).2
  ·exact h.sep j m p q g s r c b
theorem St.turn {F:aA}{L:Loc}{w w':World}(h:St F L w) {k:Nat}{o o':Own}(n:L.get k=some o) (ho:o'.ok w')
  (x:∀b,b<w.heap.size->o.blk≠some b->w'.heap[b]?=w.heap[b]?) (hb:∀g,o'.blk=some g->o.blk=some g\/w.heap.size<=g):St F (L.set k o') w':=by
 have c:∀j p,(L.set k o').get j=some p->(j=k/\p=o')\/(j≠k/\L.get j=some p):=by
  intro j p e;rw[Loc.Wt] at e;split at e
  ·rename_i l;exact .inl ⟨l,by injection e with e;exact e.symm⟩
  ·rename_i l;exact .inr ⟨l,e⟩
 refine⟨fun b p e=>?_,fun j p e=>?_,fun j p g e d=>?_,fun j q p r g e e' d f=>?_,h.glob⟩
 ·have:=h.frz b p e;rw[x b (Array.getElem?_eq_some_iff.1 this).1 (fun hb=>by have:=h.off k o b n hb;rw[this] at e;cases e)];exact this
 ·rcases c j p e with⟨_,rfl⟩ | ⟨l,e⟩
  ·exact ho
  ·exact Own.WO (h.own j p e) fun g d=>x g (Own.WJ (h.own j p e) d) fun a=>l (h.sep j k p o g e n d a)
 ·rcases c j p e with⟨_,rfl⟩ | ⟨_,e⟩
  ·rcases hb g d with a | v
   ·exact h.off k o g n a
   ·cases z:F g with
    | none=>rfl
    | some _=>have:=h.WQ (b:=g) (by rw[z];simp);omega
  ·exact h.off j p g e d
 ·rcases c j p e with⟨l,y⟩ | ⟨l,u⟩<;>rcases c q r e' with⟨m,s⟩ | ⟨m,t⟩
  ·exact l.trans m.symm
  ·subst y;rcases hb g d with a | v
   ·exact v7 (h.sep q k r o g t n f a) m
   ·have:=Own.WJ (h.own q r t) f;omega
  ·subst s;rcases hb g f with a | v
   ·exact v7 (h.sep j k p o g u n d a) l
   ·have:=Own.WJ (h.own j p u) d;omega
  ·exact h.sep j q p r g u t d f
theorem St.freeze {F:aA}{L:Loc}{w:World}(h:St F L w) {g:Nat}{o:Obj}(c:w.heap[g]?=some o) (d:¬L.owns g) :
  St (fun b=>if b=g then some o else F b) L w:=by
 refine⟨fun b p e=>?_,h.own,fun k p b e hb=>?_,h.sep,qV.mono ?_ h.glob⟩
 ·split at e
  ·rename_i a;subst a;injection e with e;subst e;exact c
  ·exact h.frz b p e
 ·split
  ·rename_i a;subst a;exact v7 ⟨k,p,e,hb⟩ d
  ·exact h.off k p b e hb
 ·intro b p e;simp only[];split
  ·rename_i a;subst a;rw[<-h.frz b p e,c]
  ·exact e
theorem aA.WK {F:aA}{w:World}{L:Loc}(h:St F L w) {g:Nat}{o:Obj}(c:w.heap[g]?=some o):F.le (fun b=>if b=g then some o else F b):=by
 intro b p e;simp only[];split
 ·rename_i a;subst a;rw[<-h.frz b p e,c]
 ·exact e
theorem Step.refl (F:aA) (L:Loc) (w:World):Step F L w F L w :=
 ⟨aA.le_refl F,rfl,rfl,rfl,Xy _,fun _ _ _=>rfl,fun _ h=>.inl h,fun _ h=>.inl h⟩
theorem Step.trans {F F' F'':aA}{L L' L'':Loc}{w w' c:World}(h:Step F L w F' L' w') (k:Step F' L' w' F'' L'' c):Step F L w F'' L'' c:=by
 refine⟨aA.le_trans h.le k.le,k.os.trans h.os,k.tape.trans h.tape,k.output.trans h.output,X0 h.size k.size,fun b hb e=>?_,fun b hb=>?_,fun b hb=>?_⟩
 ·rw[k.same b (Nat.lt_of_lt_of_le hb h.size) (fun d=>by rcases h.own b d with d | d;exact e d;omega)];exact h.same b hb e
 ·rcases k.frz b hb with a | a | a
  ·exact h.frz b a
  ·exact .inr (h.own b a)
  ·exact .inr (.inr (X0 h.size a))
 ·rcases k.own b hb with a | a
  ·exact h.own b a
  ·exact .inr (X0 h.size a)
theorem Step.mk' {F F':aA}{L L':Loc}{w w':World}(le:F.le F') (a:w.grownBy w' none) (frz:∀b,F' b≠none->F b≠none\/L.owns b\/w.heap.size<=b)
  (own:∀b,L'.owns b->L.owns b\/w.heap.size<=b):Step F L w F' L' w' :=
 ⟨le,a.os,a.tape,a.output,a.size,fun b hb _=>a.block b hb (by simp),frz,own⟩
theorem Loc.WD {L:Loc}{k:Nat}{o:Own}{b:Nat}(h:(L.set k o).owns b):o.blk=some b\/L.owns b:=by
 obtain⟨j,p,e,hb⟩:=h;rw[Loc.Wt] at e;split at e
 ·injection e with e;subst e;exact .inl hb
 ·exact .inr ⟨j,p,e,hb⟩
theorem Loc.WL {L:Loc}{k b:Nat}(h:(L.del k).owns b):L.owns b:=by
 obtain⟨j,p,e,hb⟩:=h;rw[Loc.Wy] at e;split at e
 ·cases e
 ·exact⟨j,p,e,hb⟩
theorem Loc.WU (L:Loc) (k:Nat):L.part (L.del k):=by
 intro j o e;rw[Loc.Wy] at e;split at e
 ·cases e
 ·exact e
theorem bM.mono {F G:aA}(h:F.le G) {a:Option Addr}{j:Nat}{cs:List Value}(c:bM F a j cs):bM G a j cs:=by
 obtain⟨d,b,t,m,e,f,l,k⟩:=c;exact⟨d,b,t,m,e,h _ _ f,l,k⟩
theorem bV {b o n:Nat}:(⟨b,o,none⟩:Addr).add n=⟨b,o+n,none⟩:=by
 unfold Addr.add;split<;>simp_all
theorem bM.cell {F:aA}{L:Loc}{w:World}(h:St F L w) {a:Option Addr}{j:Nat}{cs:List Value}(c:bM F a j cs) :
  ∃d,a=some d/\d.spot=none/\∀i v,cs[i]?=some v->w.cell? (d.add (j+i))=some v:=by
 obtain⟨d,l,t,q,e,n,f,k⟩:=c;refine⟨d,e,f,fun i v m=>?_⟩;obtain⟨b,o,p⟩:=d;simp only at f;subst f;rw[bV];have:=h.frz b _ n;simp only[World.cell?,this];simpa[Nat.add_assoc] using(k i v m).1
def bh:Operand->Option X
 | .tmp t=>some (.t t)
 | .const v=>some (.c v)
 | .func f=>some (.fn f)
 | .global _=>none
def fS:List Operand->Option (List X)
 | []=>some []
 | o::l=>match bh o,fS l with
  | some x,some xs=>some (x::xs)
  | _,_=>none
def pu:Option Operand->Option (Option X)
 | none=>some none
 | some o=>match bh o with | some x=>some (some x) | none=>none
def di:TypeDesc->Bool
 | .struct _ | .array _ _=>true
 | _=>false
def Oj (i:TypeInfo):Option (List Value):=match i.zero with | some z=>some z.cells.toList | none=>none
def nu (P:Program) (b:Array Field):List (Nat×Operand)->Option (List (Nat×Nat×X))
 | []=>some []
 | (i,o)::l=>match b[i]?,bh o,nu P b l with
  | some f,some x,some ps=>match P.info? f.type with
   | some j=>some ((f.offset,j.size,x)::ps)
   | none=>none
  | _,_,_=>none
def x6:Operand->Option dU
 | .global g=>match uK g with | some _=>some (.gload g) | none=>none
 | _=>none
def nV (P:Program):List Field->Nat->Option (List Bool)
 | [],_=>some []
 | f::fs,k=>match Nat.beq f.offset k,decide (f.name="_"),P.underlying f.type with
  | true,false,some (.int _)=>match nV P fs (k+1) with | some ks=>some (true::ks) | none=>none
  | true,false,some .bool=>match nV P fs (k+1) with | some ks=>some (false::ks) | none=>none
  | _,_,_=>none
def vq:X->Bool
 | .c .nilIface=>true
 | _=>false
def gQ (P:Program) (own:Bool) (o:Op):Option dU :=
 match o with
 | .move x | .assign x=>match bh x with | some x=>some (.mov x) | none=>none
 | .pick c a b=>match bh c,bh a,bh b with | some c,some a,some b=>some (.pick c a b) | _,_,_=>none
 | .box t x=>match bh x,decide (t=0) with | some x,false=>some (match own with | true=>.boxF t x | false=>.box t x) | _,_=>none
 | .alloc t=>match P.info? t,decide (t=0) with
  | some i,false=>match Oj i with | some z=>some (.alloc t z) | none=>none
  | _,_=>none
 | .buildSlice t n ps=>match P.underlying t,fS (ps.toList.map (·.2)) with
  | some (.slice e),some xs=>match P.info? e with
   | some i=>match decide (ps.toList.map (·.1)=List.range n),decide (n*i.size<=2 ^ 24/\n<=2 ^ 24),i.zero with
    | true,true,some _=>some (match own with | true=>.mkR e n i.size xs | false=>.mkF e n i.size xs)
    | _,_,_=>none
   | none=>none
  | _,_=>none
 | .build t ps=>match P.underlying t,P.info? t with
  | some (.struct fs),some i=>match Oj i,nu P fs ps.toList with
   | some z,some l=>match fs.toList.all (fun f=>(P.info? f.type).isSome),l.all (fun p=>Nat.ble (p.1+p.2.1) z.length) with
    | true,true=>some (.build z l)
    | _,_=>none
   | _,_=>none
  | _,_=>none
 | .lookup t x i ok=>match IV with
  | true=>match P.underlying t,bh x,bh i,ok with
   | some (.map key e),some x,some i,true=>match P.underlying key,P.info? e with
    | some (.int .i64),some j=>match j.zero with
     | some (.int .i64 0)=>some (.look x i)
     | _=>none
    | _,_=>none
   | _,_,_,_=>none
  | false=>match P.underlying t,bh x,bh i with
   | some (.map key e),some x,some i=>match P.underlying key,P.info? e with
    | some (.int .i64),some j=>match j.zero with
     | some z=>some (.mlook false ok z x i)
     | none=>none
    | some .string,some j=>match j.zero with
     | some z=>some (.mlook true ok z x i)
     | none=>none
    | _,_=>none
   | _,_,_=>none
 | .makeMap _ none=>some .mkmap
 | .mapUpdate t x i v | .insert t x i v=>match P.underlying t,bh x,bh i,bh v with
  | some (.map key _),some x,some i,some v=>match P.underlying key with
   | some (.int .i64)=>some (.mupd false x i v)
   | some .string=>some (.mupd true x i v)
   | _=>none
  | _,_,_,_=>none
 | .range t x=>match P.underlying t,bh x with
  | some (.map _ _),some x=>some (.mrange x)
  | _,_=>none
 | .next x false=>match bh x with | some x=>some (.mnext x) | none=>none
 | .entry x=>match bh x with | some x=>some (.mentry x) | none=>none
 | .load t a=>match P.underlying t,P.info? t,bh a with
  | some d,some i,some x=>some (match di d with | true=>.load true i.size x | false=>.load false 1 x)
  | some (.map _ _),some _,none=>x6 a
  | some (.interface _),some _,none=>match x6 a with | some s=>some s | none=>some .dead
  | some _,some _,none=>some .dead
  | _,_,_=>none
 | .store t a x=>match P.info? t,bh a,bh x with
  | some i,some a,some x=>some (.store i.size a x)
  | _,_,_=>none
 | .nilCheck x=>match bh x,LS P with | some x,true=>some (.nilck x) | _,_=>none
 | .binOp op t x y _=>match P.underlying t,bh x,bh y with
  | some d,some x,some y=>match d,op with
   | .bool,.eql=>some (.eqB false x y)
   | .bool,.neq=>some (.eqB true x y)
   | .pointer _,.eql=>some (.eqP false x y)
   | .pointer _,.neq=>some (.eqP true x y)
   | .slice _,.eql=>some (.eqS false x y)
   | .slice _,.neq=>some (.eqS true x y)
   | .func ..,.eql=>some (.eqF false x y)
   | .func ..,.neq=>some (.eqF true x y)
   | .interface _,.eql=>match vq y with | true=>some (.eqN false x) | false=>none
   | .interface _,.neq=>match vq y with | true=>some (.eqN true x) | false=>none
   | .struct fs,.eql=>match nV P fs.toList 0,P.stoodInHeld t,P.eqGuardType P.depth t with | some ks,false,false=>some (.eqA false ks x y) | _,_,_=>none
   | .struct fs,.neq=>match nV P fs.toList 0,P.stoodInHeld t,P.eqGuardType P.depth t with | some ks,false,false=>some (.eqA true ks x y) | _,_,_=>none
   | .int _,_ | .string,_=>some (.bin op x y)
   | _,_=>none
  | _,_,_=>none
 | .unOp op _ x=>match bh x with | some x=>some (.un op x) | none=>none
 | .convert s t x=>match P.underlying s,P.underlying t,bh x with
  | some (.int _),some (.int k),some x=>some (.conv k x)
  | some (.slice e),some .string,some x=>match P.underlying e with
   | some (.int .u8)=>some (.b2s x)
   | _=>none
  | some .string,some (.slice e),some x=>match P.underlying e with
   | some (.int .u8)=>some (.s2b e x)
   | _=>none
  | _,_,_=>none
 | .makeFunc (.func f) fi ca=>match fS fi.toList,fS ca.toList with
  | some fi,some ca=>some (.mkfn f fi ca)
  | _,_=>none
 | .makeFunc (.method nm) fi ca=>match fS fi.toList,ca.toList with
  | some [x],[]=>some (.mkmv nm x)
  | _,_=>none
 | .makeFunc (.methodOf t nm) fi ca=>match fi.toList,ca.toList with
  | [],[]=>some (.mov (.c (.func (.methodOf t nm) #[] #[])))
  | _,_=>none
 | .makeSlice t l c=>match P.underlying t,bh l,bh c with
  | some (.slice e),some l,some c=>match P.info? e with
   | some i=>match i.zero with
    | some z=>match decide (z.cells.size=i.size),decide (0<i.size) with
     | true,true=>some (.makeS e i.size i.bytes z.cells.toList l c)
     | _,_=>none
    | none=>none
   | none=>none
  | _,_,_=>none
 | .slice t x lo hi none=>match P.underlying t,bh x,pu lo,pu hi with
  | some (.slice e),some x,some lo,some hi=>match P.info? e with
   | some i=>some (.slc i.size x lo hi)
   | none=>none
  | some .string,some x,some lo,some hi=>some (.slcS x lo hi)
  | _,_,_,_=>none
 | .fieldAddr t x f=>match P.underlying t,bh x with
  | some (.struct fs),some x=>match fs[f]? with
   | some f=>match P.info? f.type with
    | some i=>match decide (i.size=0) with | true=>none | false=>some (.fieldA f.offset x)
    | none=>none
   | none=>none
  | _,_=>none
 | .field t x f=>match P.underlying t,bh x with
  | some (.struct fs),some x=>match fs[f]? with
   | some f=>match P.underlying f.type,P.info? f.type with
    | some d,some i=>match di d with
     | true=>some (.fieldV true f.offset i.size x)
     | false=>some (.fieldV false f.offset 1 x)
    | _,_=>none
   | none=>none
  | _,_=>none
 | .indexAddr t x i=>match P.underlying t,bh x,bh i with
  | some (.slice e),some x,some i=>match P.info? e with
   | some j=>some (.idxA j.size x i)
   | none=>none
  | _,_,_=>none
 | .index t x i=>match P.underlying t,bh x,bh i with
  | some .string,some x,some i=>some (.idxS x i)
  | _,_,_=>none
 | .makeInterface t x=>match P.underlying t,bh x with
  | some (.interface _),_=>none
  | some _,some x=>some (.mkif t x)
  | _,_=>none
 | .typeAssert x _ t true=>match P.underlying t,P.info? t,bh x with
  | some (.interface _),_,_=>none
  | some _,some i,some x=>match i.zero with | some z=>some (.tas t z x) | none=>none
  | _,_,_=>none
 | .panic x=>match bh x with | some x=>some (.pan x) | none=>none
 | .extract x i=>match bh x with | some x=>some (.extr x i) | none=>none
 | .call c=>match fS c.args.toList with
  | none=>none
  | some args=>match c.callee with
   | .value (.func f)=>match P.funcs[f]? with
    | some fn=>match fn.name == "runtime.NumGoroutine",fn.body.isSome with
     | false,true=>some (.call f args)
     | _,_=>none
    | none=>none
   | .value f=>match bh f with | some x=>some (.callV x args) | none=>none
   | .invoke (.tmp n) nm=>some (.callV (.mt nm n) args)
   | .invoke _ _=>none
   | .builtin b=>match b,args,c.argTypes.toList with
    | .len,[x],[t]=>match P.underlying t with
     | some (.slice _)=>some (.len x)
     | some .string=>some (.lenS x)
     | some (.map _ _)=>some (.mlen x)
     | _=>none
    | .cap,[x],[t]=>match P.underlying t with
     | some (.slice _)=>some (.capa x)
     | _=>none
    | .max,args,_=>some (.mm true args)
    | .min,args,_=>some (.mm false args)
    | .append,[s,x],[t,t']=>match P.underlying t,P.underlying t' with
     | some (.slice e),some (.slice _)=>match P.info? e with
      | some i=>match i.zero with
       | some z=>match decide (t=t'),decide (z.cells.size=i.size),decide (0<i.size) with
        | true,true,true=>some (.app e i.size i.bytes z.cells.toList s x)
        | _,_,_=>none
       | none=>none
      | none=>none
     | some (.slice e),some .string=>match P.info? e with
      | some i=>match i.zero with
       | some (.int .u8 z)=>match decide (z=0),decide (i.size=1),decide (i.bytes=1) with
        | true,true,true=>some (.appS e s x)
        | _,_,_=>none
       | _=>none
      | none=>none
     | some (.slice e),some (.int _)=>match P.info? e with
      | some i=>match i.zero with
       | some (.int kz z)=>match decide (z=0),decide (i.size=1) with
        | true,true=>some (.appZ e i.bytes kz s x)
        | _,_=>none
       | _=>none
      | none=>none
     | _,_=>none
    | .copy,[s,x],[t,t']=>match P.underlying t,P.underlying t' with
     | some (.slice e),some (.slice _)=>match P.info? e with
      | some i=>match decide (t=t'),decide (i.size=1) with
       | true,true=>some (.copy e i.size s x)
       | _,_=>none
      | none=>none
     | some (.slice e),some .string=>match P.info? e with
      | some i=>match decide (i.size=1) with
       | true=>some (.copy e i.size s x)
       | _=>none
      | none=>none
     | _,_=>none
    | _,_,_=>none
 | _=>none
structure aC (L:Loc) (ρ:Env) (a:Act):Prop where
 eq:∀t,a.tmps.getD t undef=conc L (ρ t)
 own:∀t k off,ρ t=.own k off->∃g ty cs,L.get k=some (.box g ty cs)
 el:∀t ad j,ρ t=.el ad j->ad≠none
theorem aF {y:Operand}{x:X}(h:bh y=some x) {L:Loc}{ρ:Env}{a:Act}(b:aC L ρ a):a.eval y=val L ρ x:=by
 cases y<;>simp only[bh,xo,reduceCtorEq] at h<;>subst h
 ·exact b.eq _
 ·rfl
 ·rfl
theorem nA {y:Operand}{x:X}(h:bh y=some x) {L:Loc}{ρ:Env}{a:Act}(b:aC L ρ a) {k off:Nat}(e:ev ρ x=.own k off):∃g ty cs,L.get k=some (.box g ty cs):=by
 cases y<;>simp only[bh,xo,reduceCtorEq] at h<;>subst h
 ·exact b.own _ _ _ e
 ·cases e
 ·cases e
theorem qo {y:Operand}{x:X}(h:bh y=some x) {L:Loc}{ρ:Env}{a:Act}(c:aC L ρ a) {b:Option Addr}{j:Nat}(e:ev ρ x=.el b j):b≠none:=by
 cases y<;>simp only[bh,xo,reduceCtorEq] at h<;>subst h
 ·exact c.el _ _ _ e
 ·cases e
 ·cases e
theorem fe:∀{ys:List Operand}{xs:List X},fS ys=some xs->∀{L:Loc}{ρ:Env}{a:Act},aC L ρ a->ys.map a.eval=bf L ρ xs:=by
 intro ys
 induction ys with
 | nil=>intro xs h L ρ a b;simp only[fS,xo] at h;subst h;rfl
 | cons y ys f =>
  intro xs h L ρ a b;simp only[fS] at h;split at h
  ·rename_i x e c d;injection h with h
   subst h;simp only[Xj,bf,aF c b,f d b]
  ·cases h
def aZ (F:aA) (L:Loc) (w:World) (a:Act) (K:cF) (b:Act) (w':World):Prop :=
 ∃F' L' ρ',St F' L' w'/\aC L' ρ' b/\b.tmps.size=a.tmps.size/\b.defers=a.defers/\Step F L w F' L' w'/\K F' L' ρ'
theorem FX (a:Act) (d:Option Nat) (v:Value) (b:∀k,d=some k->k<a.tmps.size) (t:Nat) :
  (a.put d v).tmps.getD t undef=match d with | some k=>if t=k then v else a.tmps.getD t undef | none=>a.tmps.getD t undef:=by
 cases d with
 | none=>rfl
 | some k =>
  have:=b k rfl;simp only[Act.put,XC,Array.getElem?_setIfInBounds]
  by_cases h:t=k
  ·subst h;simp[this]
  ·rw[vv (by omega),vv h]
theorem put_eq (d:Option Nat) (x:SV) (ρ:Env) (t:Nat):put d x ρ t=match d with | some k=>if t=k then x else ρ t | none=>ρ t:=by
 cases d with
 | none=>rfl
 | some k =>
  simp only[put];cases h:Nat.beq t k with
  | true=>have:=v8 h;simp[this]
  | false=>have:=eZ h;simp[this]
theorem aC.put {L L':Loc}{ρ:Env}{a:Act}(h:aC L ρ a) {d:Option Nat}{v:Value}{x:SV}(p:∀k,d=some k->k<a.tmps.size)
  (r:conc L' x=v) (u:∀k off,x=.own k off->∃g ty cs,L'.get k=some (.box g ty cs)) (q:∀f j,x=.el f j->f≠none)
  (n:∀k g ty cs,L.get k=some (.box g ty cs)->∃cs',L'.get k=some (.box g ty cs')):aC L' (put d x ρ) (a.put d v):=by
 have l:∀t,a.tmps.getD t undef=conc L' (ρ t):=by
  intro t;rw[h.eq t];cases e:ρ t with
  | v x=>rfl
  | el a j=>rfl
  | own k off =>
   obtain⟨g,ty,cs,m⟩:=h.own t k off e;obtain⟨cs',c⟩:=n k g ty cs m;simp only[conc,m,c]
 refine⟨fun t=>?_,fun t k off e=>?_,fun t f j e=>?_⟩
 ·rw[FX a d v p,put_eq];cases d with
  | none=>exact l t
  | some k =>
   simp only[];split
   ·exact r.symm
   ·exact l t
 ·rw[put_eq] at e;have b:∀k off,ρ t=.own k off->∃g ty cs,L'.get k=some (.box g ty cs):=by
   intro k off e;obtain⟨g,ty,cs,m⟩:=h.own t k off e;obtain⟨cs',c⟩:=n k g ty cs m;exact⟨g,ty,cs',c⟩
  cases d with
  | none=>exact b k off e
  | some s =>
   simp only[] at e;split at e
   ·exact u k off e
   ·exact b k off e
 ·rw[put_eq] at e;cases d with
  | none=>exact h.el t f j e
  | some s =>
   simp only[] at e;split at e
   ·exact q f j e
   ·exact h.el t f j e
theorem kh (a:Act) (d:Option Nat) (v:Value):(a.put d v).tmps.size=a.tmps.size:=by cases d<;>simp[Act.put]
theorem gq (a:Act) (d:Option Nat) (v:Value):(a.put d v).defers=a.defers:=by cases d<;>rfl
section
variable {P:Program}{F:aA}{L:Loc}{ρ:Env}{a:Act}{w:World}{K:cF}{o:Oper}{Q:Exit->Act->World->Prop}
theorem bF (m:St F L w) (d:aC L ρ a) (c:∀k,o.dst=some k->k<a.tmps.size) {v:Value}{x:SV}
  (p:(execOp a.eval o).run P w=.ok (.value v) w) (h:conc L x=v) (n:∀k off,x=.own k off->∃g ty cs,L.get k=some (.box g ty cs)) (f:∀b j,x=.el b j->b≠none)
  (l:K F L (put o.dst x ρ)):o.wp P a w (aZ F L w a K) Q:=by
 unfold Oper.wp;rw[p];exact⟨F,L,_,m,d.put c h n f (fun k g ty cs e=>⟨cs,e⟩),kh _ _ _,gq _ _ _,Step.refl _ _ _,l⟩
theorem fF (h:aC L ρ a) (d:∀k,o.dst=some k->k<a.tmps.size) {v:Value}{x:SV}{w':World}{F':aA}{L':Loc}
  (f:(execOp a.eval o).run P w=.ok (.value v) w') (p:St F' L' w') (b:Step F L w F' L' w') (m:conc L' x=v) (q:∀k off,x=.own k off->∃g ty cs,L'.get k=some (.box g ty cs)) (e:∀c j,x=.el c j->c≠none)
  (n:∀k g ty cs,L.get k=some (.box g ty cs)->∃cs',L'.get k=some (.box g ty cs')) (l:K F' L' (put o.dst x ρ)):o.wp P a w (aZ F L w a K) Q:=by
 unfold Oper.wp;rw[f];exact⟨F',L',_,p,h.put d m q e n,kh _ _ _,gq _ _ _,b,l⟩
theorem rT (f:aC L ρ a) (d:∀k,o.dst=some k->k<a.tmps.size) {w':World}{F':aA}{L':Loc}
  (l:(execOp a.eval o).run P w=.ok .skip w') (j:St F' L' w') (b:Step F L w F' L' w')
  (c:∀k g ty cs,L.get k=some (.box g ty cs)->∃cs',L'.get k=some (.box g ty cs')) (h:K F' L' (put o.dst (.v undef) ρ)):o.wp P a w (aZ F L w a K) Q:=by
 unfold Oper.wp;rw[l];exact⟨F',L',_,j,f.put d rfl (fun _ _ e=>by cases e) (fun _ _ e=>by cases e) c,kh _ _ _,gq _ _ _,b,h⟩
end
section
variable {P:Program}{F:aA}{L:Loc}{ρ:Env}{a:Act}{w:World}{K:cF}{o:Oper}{Q:Exit->Act->World->Prop}
theorem bK {v:Value}{L:Loc}:∀k off,SV.v v=.own k off->∃g ty cs,L.get k=some (.box g ty cs):=fun _ _ e=>by cases e
theorem dh {v:Value}:∀b j,SV.v v=.el b j->b≠none:=fun _ _ e=>by cases e
theorem qp (L:Loc):∀k g ty cs,L.get k=some (.box g ty cs)->∃cs',L.get k=some (.box g ty cs'):=fun k g ty cs e=>⟨cs,e⟩
theorem bB {x:X}{v:Value}{L:Loc}{ρ:Env}(h:ev ρ x=.v v):val L ρ x=v:=by simp only[val,h,conc]
theorem FY {y:Operand}{x:X}(l:St F L w) (b:aC L ρ a) (f:∀k,o.dst=some k->k<a.tmps.size)
  (c:o.op=.move y\/o.op=.assign y) (d:bh y=some x) (h:evalOp P (.mov x) o.dst F L ρ K):o.wp P a w (aZ F L w a K) Q:=by
 refine bF l b f (v:=a.eval y) (x:=ev ρ x) ?_ (aF d b).symm (fun k off e=>nA d b e) (fun m j e=>qo d b e) h;rcases c with c | c<;>simp only[execOp,c]<;>rfl
theorem IY {c y z:Operand}{s f n:X}(r:St F L w) (b:aC L ρ a) (p:∀k,o.dst=some k->k<a.tmps.size)
  (t:o.op=.pick c y z) (u:bh c=some s) (m:bh y=some f) (l:bh z=some n) (d:evalOp P (.pick s f n) o.dst F L ρ K):o.wp P a w (aZ F L w a K) Q:=by
 have q:=aF u b;simp only[evalOp,aI] at d;split at d
 ·rename_i h;refine bF r b p (v:=a.eval y) (x:=ev ρ f) ?_ (aF m b).symm (fun k off e=>nA m b e) (fun ad j e=>qo m b e) d;simp only[execOp,t,q,val,h,conc];simp[asBool]
 ·rename_i h;refine bF r b p (v:=a.eval z) (x:=ev ρ n) ?_ (aF l b).symm (fun k off e=>nA l b e) (fun ad j e=>qo l b e) d;simp only[execOp,t,q,val,h,conc];simp[asBool]
 ·exact d.elim
theorem fV (w:World) (o:Obj):(w.alloc o).heap[w.heap.size]?=some o:=heap_alloc_new w o
theorem py {F:aA}{L:Loc}{w:World}(c:St F L w):F w.heap.size=none/\¬L.owns w.heap.size:=by
 refine⟨?_,fun h=>?_⟩
 ·cases h:F w.heap.size with
  | none=>rfl
  | some _=>have:=c.WQ (b:=w.heap.size) (by rw[h];simp);omega
 ·have:=c.WV h;omega
theorem St.alloc (c:St F L w) (o:Obj):St F L (w.alloc o):=c.keep fun b hb=>Below.heap_alloc w o b hb
theorem lS (n:St F L w) {k:Nat}(m:L.get k=none) {ob:Obj}{e:Own}(hb:e.blk=some w.heap.size) (f:e.ok (w.alloc ob)) :
  St F (L.set k e) (w.alloc ob)/\Step F L w F (L.set k e) (w.alloc ob) /\
   (∀j g ty xs,L.get j=some (.box g ty xs)->∃cs',(L.set k e).get j=some (.box g ty cs')):=by
 obtain⟨p,q⟩:=py n;refine⟨(n.alloc _).put m f fun g c=>?_,?_,fun j g ty xs l=>?_⟩
 ·rw[hb] at c;injection c with c;subst c;exact⟨p,q⟩
 ·refine Step.mk' (aA.le_refl F) (World.grownBy_alloc w _ none) (fun b hb=>.inl hb) fun b r=>?_;rcases Loc.WD r with h | h
  ·rw[hb] at h;injection h with h;exact .inr (by omega)
  ·exact .inl h
 ·rw[Loc.Wt];split
  ·rename_i d;subst d;rw[m] at l;cases l
  ·exact⟨xs,l⟩
theorem jN (c:St F L w) {k:Nat}(d:L.get k=none) {cs:Array Value}{t:TypeId}{e:Own}(hb:e.blk=some w.heap.size) (b:e.ok (w.alloc (.cells cs t))) :
  St F (L.set k e) (w.alloc (.cells cs t))/\Step F L w F (L.set k e) (w.alloc (.cells cs t)) /\
   (∀j g ty xs,L.get j=some (.box g ty xs)->∃cs',(L.set k e).get j=some (.box g ty cs')):=lS c d hb b
theorem MB {y:Operand}{x:X}{t:TypeId}(q:St F L w) (f:aC L ρ a) (l:∀k,o.dst=some k->k<a.tmps.size)
  (s:o.op=.box t y) (p:bh y=some x) (d:t≠0) (c:evalOp P (.box t x) o.dst F L ρ K):o.wp P a w (aZ F L w a K) Q:=by
 simp only[evalOp,aI] at c;split at c
 case h_2=>exact c.elim
 rename_i _ k h;split at c
 case h_2=>exact c.elim
 rename_i _ n;have c:=c w.heap.size;have b:(Value.cells (a.eval y)).toList=aG (val L ρ x):=by
  rw[aF p f];cases val L ρ x<;>rfl
 obtain⟨j,m,r⟩:=jN q n (cs:=(a.eval y).cells) (t:=t) (e:=.box w.heap.size t (aG (val L ρ x))) rfl
  (by show _=_;rw[fV,gH d,<-b])
 refine fF f l (v:=.pointer (some ⟨w.heap.size,0,none⟩)) (x:=.own k 0) ?_ j m ?_ ?_ (fun _ _ e=>by cases e) r c
 ·simp[execOp,s,Instr.box,newVar,newRow]
 ·simp only[conc,Loc.Wt,XA]
 ·rintro u off e;injection e with e1 e2
  subst e1;exact⟨_,_,_,by rw[Loc.Wt,j3 rfl]⟩
theorem FZ {t:TypeId}{i:TypeInfo}{zs:List Value}(q:St F L w) (m:aC L ρ a) (l:∀k,o.dst=some k->k<a.tmps.size)
  (s:o.op=.alloc t) (hi:P.info? t=some i) (c:Oj i=some zs) (d:t≠0) (b:evalOp P (.alloc t zs) o.dst F L ρ K):o.wp P a w (aZ F L w a K) Q:=by
 simp only[evalOp,aI] at b;split at b
 case h_2=>exact b.elim
 rename_i _ k h;split at b
 case h_2=>exact b.elim
 rename_i _ p;have b:=b w.heap.size;unfold Oj at c;split at c
 case h_2=>cases c
 rename_i z f;injection c with c
 obtain⟨j,n,r⟩:=jN q p (cs:=z.cells) (t:=t) (e:=.box w.heap.size t zs) rfl
  (by show _=_;rw[fV,gH d,<-c])
 refine fF m l (v:=.pointer (some ⟨w.heap.size,0,none⟩)) (x:=.own k 0) ?_ j n ?_ ?_ (fun _ _ e=>by cases e) r b
 ·simp[execOp,s,Instr.alloc,zeroValue,typeInfo,hi,f,newVar,newRow]
 ·simp only[conc,Loc.Wt,XA]
 ·rintro u off e;injection e with e1 e2
  subst e1;exact⟨_,_,_,by rw[Loc.Wt,j3 rfl]⟩
theorem uN {t:TypeId}{l:List Value}{n:Nat}(h:iC t l n=true):t≠0:=by
 rintro rfl;simp[iC] at h
theorem zm {t:TypeId}{l:List Value}{n:Nat}(h:iC t l n=true):eW l n=true:=by
 unfold iC at h;split at h
 ·cases h
 ·exact h
theorem fu {t:TypeId}{l:List Value}{n:Nat}(h:t≠0) (b:eW l n=true):iC t l n=true:=by
 unfold iC;split
 ·rename_i e;exact v7 (v8 e) h
 ·exact b
theorem ia:∀{l:List Value}{n:Nat},eW l n=true->l.length=n
 | [],0,_=>rfl
 | _::l,n+1,h=>by simp only[eW] at h;simp[ia h]
 | [],_+1,h=>by simp[eW] at h
 | _::_,0,h=>by simp[eW] at h
theorem gR {cs vs:List Value}{off:Nat}(h:off+vs.length<=cs.length) (n:Nat) :
  (aM cs off vs)[n]?=if n<off then cs[n]? else if n<off+vs.length then vs[n-off]? else cs[n]?:=by
 unfold aM;have c:(cs.take off).length=off:=by simp;omega
 by_cases b:n<off
 ·rw[j3 b,Xk,Xl (by omega),List.getElem?_take_of_lt b]
 ·rw[vv b]
  by_cases d:n<off+vs.length
  ·rw[j3 d,Xk,Xr (by omega),Xl (by omega),c]
  ·rw[vv d,Xk,Xr (by omega),Xr (by omega),c,XH];congr 1;omega
theorem IZ (vs:List Value):∀(off j:Nat) (cells:Array Value),off+j+vs.length<=cells.size ->
  ((vs.zipIdx j).foldl (fun cs (c,j)=>cs.setIfInBounds (off+j) c) cells).toList=aM cells.toList (off+j) vs:=by
 induction vs with
 | nil=>intro off j cells h;simp[aM]
 | cons v vs f =>
  intro off j cells h;simp only[List.zipIdx_cons,List.foldl_cons,Xv] at h ⊢;have:=f off (j+1) (cells.setIfInBounds (off+j) v) (by simp;omega);rw[this];apply XP;intro n;rw[gR (by simp;omega),gR (by simp;omega)];simp only[Array.toList_setIfInBounds,Xv]
  by_cases e:n=off+j
  ·subst e;rw[j3 (by omega),vv (by omega),j3 (by omega),List.getElem?_set_self (by simp;omega)];simp
  ·by_cases b:n<off+j
   ·rw[j3 (by omega),j3 b,Yb (by omega)]
   ·by_cases d:n<off+(j+1)+vs.length
    ·rw[vv (by omega),j3 d,vv b,j3 (by omega),show n-(off+j)=(n-(off+(j+1)))+1 by omega,XY]
    ·rw[vv (by omega),vv d,vv b,vv (by omega),Yb (by omega)]
theorem AG (vs:Array Value) (off:Nat) (cells:Array Value) (h:off+vs.size<=cells.size) :
  (vs.zipIdx.foldl (fun cs (x:Value×Nat)=>cs.setIfInBounds (off+x.2) x.1) cells).toList=aM cells.toList off vs.toList:=by
 have:=IZ vs.toList off 0 cells (by simpa using h);rw[Nat.add_zero] at this;rw[<-this];congr 1;rw[<-Array.foldl_toList,Array.toList_zipIdx]
theorem eT (cs:List Value) (off:Nat) (vs:List Value) (h:off+vs.length<=cs.length):(aM cs off vs).length=cs.length:=by
 simp[aM];omega
theorem nB (v:Value):aG v=v.cells.toList:=by cases v<;>rfl
theorem Cl (sz n:Nat):∀(vs:List Value) (k:Nat) (cells:Array Value),cells.size=n*sz->k+vs.length=n->(∀v∈vs,v.cells.size=sz) ->
  ∃out,Instr.fill (fun i=>some (i*sz,sz)) cells ((List.range' k vs.length).zip vs)=some out /\
   out.toList=cells.toList.take (k*sz)++(vs.map (fun v=>v.cells.toList)).flatten:=by
 intro vs
 induction vs with
 | nil =>
  intro k cells f d e;refine⟨cells,by simp[Instr.fill],?_⟩;simp at d ⊢;subst d;rw[XS (by simp;omega)]
 | cons v vs m =>
  intro k cells f d e;have h:=e v (by simp);have p:k*sz+sz<=n*sz:=by
   rw[<-Nat.succ_mul];exact Nat.mul_le_mul_right _ (by simp at d;omega)
  simp only[Xv,List.range'_succ,List.zip_cons_cons,Instr.fill];rw[vv (by simp[h];omega)];have b:=AG v.cells (k*sz) cells (by omega);have c:(v.cells.zipIdx.foldl (fun cs (x:Value×Nat)=>cs.setIfInBounds (k*sz+x.2) x.1) cells).size=n*sz:=by
   rw[<-Array.length_toList,b,eT _ _ _ (by simp;omega)];simpa using f
  obtain⟨out,r,j⟩:=m (k+1) _ c (by simp at d;omega) (fun u l=>e u (by simp[l]));refine⟨out,r,?_⟩;rw[j,b];simp only[aM,Xj,List.flatten_cons,<-Xk];congr 1;rw[Nat.succ_mul];have q:v.cells.toList.length=sz:=by simpa using h
  apply XP;intro i
  by_cases t:i<k*sz
  ·rw[List.getElem?_take_of_lt (by omega),Xk,Xl (by simp;omega),Xl (by simp;omega)]
  ·by_cases s:i<k*sz+sz
   ·rw[List.getElem?_take_of_lt (by omega),Xk,Xr (by simp;omega),Xl (by simp;omega),Xr (by simp;omega)]
   ·rw[Xn (by simp;omega),Xn (by simp;omega)]
end
section
variable {P:Program}{F:aA}{L:Loc}{ρ:Env}{a:Act}{w:World}{K:cF}{o:Oper}{Q:Exit->Act->World->Prop}
theorem vu (L:Loc) (ρ:Env):∀xs:List X,cellsOf L ρ xs=((bf L ρ xs).map fun v=>v.cells.toList).flatten
 | []=>rfl
 | x::xs=>by simp only[cellsOf,bf,Xj,List.flatten_cons,vu L ρ xs,nB]
theorem x7 {L:Loc}{ρ:Env}{sz:Nat}:∀{xs:List X},eY L ρ sz xs=true->∀v∈bf L ρ xs,v.cells.size=sz
 | [],_,v,b=>by cases b
 | x::xs,h,v,b=>by
  simp only[eY] at h;split at h
  ·rename_i c;simp only[bf,Xh] at b;rcases b with rfl | b
   ·have:=ia c;rw[nB] at this;simpa using this
   ·exact x7 h v b
  ·cases h
theorem lg (L:Loc) (ρ:Env):∀xs:List X,(bf L ρ xs).length=xs.length
 | []=>rfl
 | _::xs=>by simp[bf,lg L ρ xs]
theorem pz {L:Loc}{ρ:Env}{sz:Nat}:∀{xs:List X},eY L ρ sz xs=true->(cellsOf L ρ xs).length=xs.length*sz
 | [],_=>by simp[cellsOf]
 | x::xs,h=>by
  simp only[eY] at h;split at h
  ·rename_i b;have:=ia b;simp only[cellsOf,Xg,this,pz h,Xv,Nat.succ_mul];omega
  ·cases h
theorem Cm {ps:List (Nat×Operand)}{f:Operand->Value}{n:Nat}(h:ps.map (·.1)=List.range n) :
  ps.map (fun p=>(p.1,f p.2))=(List.range' 0 ps.length).zip ((ps.map (·.2)).map f):=by
 have b:ps.length=n:=by have:=p7 List.length h;simpa using this
 rw[b,<-List.range_eq_range',<-h]
 clear h b
 induction ps with
 | nil=>rfl
 | cons p ps c=>simp[c]
theorem pA {t e n:Nat}{ps:Array (Nat×Operand)}{i:TypeInfo}{z:Value}{xs:List X}(ht:P.underlying t=some (.slice e)) (hi:P.info? e=some i) (v:i.zero=some z)
  (hx:fS (ps.toList.map (·.2))=some xs) (p:ps.toList.map (·.1)=List.range n) (hb:n*i.size<=2 ^ 24) (hp:eY L ρ i.size xs=true) (he:aC L ρ a) :
  (Instr.buildSlice t n (ps.map fun(j,x)=>(j,a.eval x))).run P w=.ok (.slice (some ⟨w.heap.size,0,none⟩) n n) (w.alloc (.cells (cellsOf L ρ xs).toArray e))/\xs.length=n:=by
 have l:=fe hx he;have d:xs.length=n:=by
  have k:=p7 List.length l;have q:=p7 List.length p;simp only[Xt,lg,List.length_range] at k q;omega
 have m:ps.toList.length=n:=by have:=p7 List.length p;simpa using this
 have b:(ps.map fun(x:Nat×Operand)=>(x.1,a.eval x.2)).toList=(List.range' 0 (bf L ρ xs).length).zip (bf L ρ xs):=by
  rw[Array.toList_map,Cm p,l,lg,d,m]
 have f:=fun(cells:Array Value) (y:cells.size=n*i.size)=>Cl i.size n (bf L ρ xs) 0 cells y (by rw[lg];omega) (x7 hp);refine⟨?_,d⟩;have r:∀zero:Array Value,((Array.range (n*i.size)).map (zero[· % zero.size]!)).size=n*i.size:=fun _=>by simp
 obtain⟨out,k,q⟩:=f ((Array.range (n*i.size)).map ((if n*i.size=0 then #[] else z.cells)[· % (if n*i.size=0 then #[] else z.cells).size]!)) (r _);have c:out=(cellsOf L ρ xs).toArray:=by
  apply Array.ext';rw[q,vu];simp
 have s:¬(n*i.size>2 ^ 24):=by omega
 unfold Instr.buildSlice;simp only[Sem.run_bind,run_underlying ht,Result.andThen_ok,sizeOf,typeInfo,hi,run_program,Sem.run_pure,vv s,zeroValue,v]
 by_cases u:n*i.size=0
 ·simp only[u,XA] at k ⊢
  try simp only[Sem.run_pure,Result.andThen_ok]
  rw[b];have h:=k;simp only[h,c,newRow,Sem.run_bind,run_newObj,Result.andThen_ok,Sem.run_pure];rfl
 ·simp only[u,XM] at k ⊢;simp only[Sem.run_bind,hi,v,run_program,Sem.run_pure,Result.andThen_ok];rw[b];have h:=k;simp only[h,c,newRow,Sem.run_bind,run_newObj,Result.andThen_ok,Sem.run_pure];rfl
theorem I0 {t:TypeId}{y:Operand}{x:X}(j:St F L w) (m:aC L ρ a) (p:∀k,o.dst=some k->k<a.tmps.size)
  (r:o.op=.box t y) (q:bh y=some x) (n:evalOp P (.boxF t x) o.dst F L ρ K):o.wp P a w (aZ F L w a K) Q:=by
 simp only[evalOp] at n;have c:(a.eval y).cells=(aG (val L ρ x)).toArray:=by
  apply Array.ext';rw[aF q m];cases val L ρ x<;>rfl
 have d:=fV w (.cells (aG (val L ρ x)).toArray t);obtain⟨s,f⟩:=py j;have l:=(j.alloc (.cells (aG (val L ρ x)).toArray t)).freeze d f;have e:=aA.WK (j.alloc (.cells (aG (val L ρ x)).toArray t)) d;refine fF m p (v:=.pointer (some ⟨w.heap.size,0,none⟩)) (x:=.v (.pointer (some ⟨w.heap.size,0,none⟩))) ?_ l (Step.mk' e (World.grownBy_alloc w _ none) ?_ fun b h=>.inl h) rfl bK dh (qp L) (n w.heap.size _ e (by simp))
 ·simp[execOp,r,Instr.box,newVar,newRow,c]
 ·intro b hb
  by_cases h:b=w.heap.size
  ·exact .inr (.inr (by omega))
  ·simp only[vv h] at hb;exact .inl hb
theorem MC {t e n:Nat}{ps:Array (Nat×Operand)}{i:TypeInfo}{z:Value}{xs:List X}(m:St F L w) (q:aC L ρ a) (s:∀k,o.dst=some k->k<a.tmps.size)
  (ho:o.op=.buildSlice t n ps) (ht:P.underlying t=some (.slice e)) (hi:P.info? e=some i) (hz:i.zero=some z)
  (y:fS (ps.toList.map (·.2))=some xs) (u:ps.toList.map (·.1)=List.range n) (hb:n*i.size<=2 ^ 24) (j:evalOp P (.mkF e n i.size xs) o.dst F L ρ K):o.wp P a w (aZ F L w a K) Q:=by
 simp only[evalOp,aI] at j;split at j
 case h_2=>exact j.elim
 rename_i hp;obtain⟨f,r⟩:=pA (w:=w) ht hi hz y u hb hp q;have c:=fV w (.cells (cellsOf L ρ xs).toArray e);obtain⟨hf,l⟩:=py m;have p:=(m.alloc (.cells (cellsOf L ρ xs).toArray e)).freeze c l;have d:=aA.WK (m.alloc (.cells (cellsOf L ρ xs).toArray e)) c;refine fF q s (v:=.slice (some ⟨w.heap.size,0,none⟩) n n) (x:=.v (.slice (some ⟨w.heap.size,0,none⟩) n n)) ?_ p (Step.mk' d (World.grownBy_alloc w _ none) ?_ fun b h=>.inl h) rfl bK dh (qp L) (j w.heap.size _ d (by simp))
 ·simp only[execOp,ho,Sem.run_bind,f,Result.andThen_ok,Sem.run_pure]
 ·intro b hb
  by_cases h:b=w.heap.size
  ·exact .inr (.inr (by omega))
  ·simp only[vv h] at hb;exact .inl hb
theorem lm (w:World) (cs:List Value) (e:TypeId) (n sz:Nat) (c:n<=maxLen) (b:cs.length=n*sz) :
  (w.alloc (.cells cs.toArray e)).ownsRow 0 e sz (.slice (some ⟨w.heap.size,0,none⟩) n n) n cs :=
 ⟨b,.inr ⟨w.heap.size,n,cs.toArray,rfl,XG _,fV w _,Xy _,c,by simpa using b,by simp[<-b]⟩⟩
theorem MD {t e n:Nat}{ps:Array (Nat×Operand)}{i:TypeInfo}{z:Value}{xs:List X}(hs:St F L w) (h:aC L ρ a) (p:∀k,o.dst=some k->k<a.tmps.size)
  (ho:o.op=.buildSlice t n ps) (ht:P.underlying t=some (.slice e)) (hi:P.info? e=some i) (y:i.zero=some z)
  (u:fS (ps.toList.map (·.2))=some xs) (q:ps.toList.map (·.1)=List.range n) (hb:n*i.size<=2 ^ 24) (hn:n<=2 ^ 24) (b:evalOp P (.mkR e n i.size xs) o.dst F L ρ K):o.wp P a w (aZ F L w a K) Q:=by
 simp only[evalOp,aI] at b;split at b
 case h_2=>exact b.elim
 rename_i _ _ k l j;split at b
 case h_2=>exact b.elim
 rename_i _ s;obtain⟨d,c⟩:=pA (w:=w) ht hi y u q hb l h;have f:=lm w (cellsOf L ρ xs) e n i.size (by simp only[maxLen];omega) (by rw[pz l,c]);obtain⟨m,r,h3⟩:=jN hs s (cs:=(cellsOf L ρ xs).toArray) (t:=e) (e:=.row (.slice (some ⟨w.heap.size,0,none⟩) n n) e i.size n (cellsOf L ρ xs)) rfl f;refine fF h p (v:=.slice (some ⟨w.heap.size,0,none⟩) n n) (x:=.v (.slice (some ⟨w.heap.size,0,none⟩) n n)) ?_ m r rfl bK dh h3 (b w.heap.size);simp only[execOp,ho,Sem.run_bind,d,Result.andThen_ok,Sem.run_pure]
def placeOf (P:Program) (f:Field):Nat×Nat:=(f.offset,P.cellsOf f.type)
def vA (f:Field):Sem (Nat×Nat):=do pure (f.offset,<-sizeOf f.type)
theorem xE {v:Array Field}:∀{ps:List (Nat×Operand)}{l:List (Nat×Nat×X)},nu P v ps=some l->∀{cells:Array Value}{cs:List Value}(r:Array (Nat×Nat)),aC L ρ a ->
  (∀(j:Nat) (f:Field) (i:TypeInfo),v[j]?=some f->P.info? f.type=some i->r[j]?=some (f.offset,i.size)) ->
  built L ρ cells.toList l=some cs->(∀off n x,(off,n,x)∈l->off+n<=cells.size) ->
  ∃out,Instr.fill (r[·]?) cells (ps.map fun p=>(p.1,a.eval p.2))=some out/\out.toList=cs:=by
 intro ps
 induction ps with
 | nil =>
  intro l h cells cs r s e hb k;simp only[nu,xo] at h;subst h;simp only[built,xo] at hb;exact⟨cells,rfl,hb⟩
 | cons p ps ih =>
  intro l h cells cs r s e hb k;obtain⟨j,y⟩:=p;simp only[nu] at h;split at h
  case h_2=>cases h
  rename_i f x l' z hx t;split at h
  case h_2=>cases h
  rename_i i hi;injection h with h
  subst h;simp only[built] at hb;split at hb
  case h_2=>cases hb
  rename_i b;have b:=ia b;have m:=k f.offset i.size x (by simp);have q:=aF hx s;simp only[Xj,Instr.fill,e j f i z hi];have u:(a.eval y).cells.size=i.size:=by rw[q];rw[nB] at b;simpa using b
  rw[vv (by simp[u];omega)];have c:=AG (a.eval y).cells f.offset cells (by omega);have d:(a.eval y).cells.toList=aG (val L ρ x):=by rw[q,nB]
  rw[d] at c;refine ih t r s e (cs:=cs) ?_ ?_
  ·rw[c];exact hb
  ·intro off n x' hm;rw[<-Array.length_toList,c,eT _ _ _ (by rw[b];simpa using m)];simpa using k off n x' (by simp[hm])
theorem uE (P:Program) (w:World):∀(b:List Field),(∀f:Field,f∈b->(P.info? f.type).isSome=true) ->
  (b.mapM vA).run P w=.ok (b.map (placeOf P)) w:=by
 intro b
 induction b with
 | nil=>intro _;simp
 | cons f b e =>
  intro h;have c:=h f (by simp);obtain⟨i,hi⟩:=Option.isSome_iff_exists.1 c;simp only[List.mapM_cons,vA,Sem.run_bind,sizeOf,typeInfo,run_program,Result.andThen_ok,hi,Sem.run_pure];rw[e (fun g d=>h g (by simp[d]))];simp[placeOf,Program.cellsOf,hi]
theorem F5 {t:Nat}{ps:Array (Nat×Operand)}{b:Array Field}{i:TypeInfo}{zs:List Value}{l:List (Nat×Nat×X)}(hs:St F L w) (he:aC L ρ a) (hd:∀k,o.dst=some k->k<a.tmps.size)
  (ho:o.op=.build t ps) (ht:P.underlying t=some (.struct b)) (hi:P.info? t=some i) (c:Oj i=some zs) (hl:nu P b ps.toList=some l) (h:∀f:Field,f∈b.toList->(P.info? f.type).isSome=true)
  (s:∀off n x,(off,n,x)∈l->off+n<=zs.length) (m:evalOp P (.build zs l) o.dst F L ρ K):o.wp P a w (aZ F L w a K) Q:=by
 simp only[evalOp,aI] at m;split at m
 case h_2=>exact m.elim
 rename_i cs aa;unfold Oj at c;split at c
 case h_2=>cases c
 rename_i z y;injection c with c
 have r:∀(j:Nat) (f:Field) (i:TypeInfo),b[j]?=some f->P.info? f.type=some i->(b.map (placeOf P))[j]?=some (f.offset,i.size):=by
  intro j f i q u;simp[q,placeOf,Program.cellsOf,u]
 obtain⟨out,q,u⟩:=xE (a:=a) (cells:=z.cells) (cs:=cs) hl _ he r (by rw[c];exact aa) (by intro off n x hm;have:=s off n x hm;rw[<-c] at this;simpa using this);have e:out=cs.toArray:=by apply Array.ext';simpa using u
 have d:(b.mapM vA).run P w=.ok (b.map (placeOf P)) w:=by
  rw[Array.mapM_eq_mapM_toList,Sem.run_map,uE P w _ h];simp only[Result.andThen_ok];congr 1;exact Array.ext' (by simp)
 refine bF hs he hd (v:=.agg cs.toArray) (x:=.v (.agg cs.toArray)) ?_ rfl bK dh m;simp only[execOp,ho,Instr.build,Sem.run_bind,zeroValue,typeInfo,run_program,Result.andThen_ok,hi,Sem.run_pure,y,run_underlying ht];rw[show(b.mapM fun(f:Field)=>(do pure (f.offset,<-sizeOf f.type):Sem (Nat×Nat))).run P w=.ok (b.map (placeOf P)) w from d];simp only[Result.andThen_ok];rw[show(ps.map fun(x:Nat×Operand)=>(x.1,a.eval x.2)).toList=ps.toList.map (fun p=>(p.1,a.eval p.2)) by simp,q,e];simp
theorem sV {t:Nat}{d:TypeDesc}(b:P.underlying t=some d):(isAgg t).run P w=.ok (di d) w:=by
 unfold isAgg;simp only[Sem.run_bind,run_underlying b,Result.andThen_ok];cases d<;>rfl
theorem nW {t:Nat}{d:TypeDesc}{i:TypeInfo}(k:P.underlying t=some d) (hi:P.info? t=some i) {c:Addr}{cs:List Value}{n:Nat}
  (h:∀j v,cs[j]?=some v->w.cell? (c.add j)=some v) (b:cs.length=n) (e:n=match di d with | true=>i.size | false=>1) :
  (Instr.loadAt t (.pointer (some c))).run P w=.ok (fR (di d) cs) w:=by
 simp only[Instr.loadAt,Instr.sureAddr,Sem.run_bind,Sem.run_pure,Result.andThen_ok,loadVar,sV k];cases f:di d with
 | true =>
  simp only[f] at e;simp only[XA,Sem.run_bind,sizeOf,typeInfo,run_program,Result.andThen_ok,hi,Sem.run_pure];rw[<-e,<-b,run_loadCells_list w c cs h];rfl
 | false =>
  simp only[f] at e;subst e
  match cs,b with
  | [v],_ =>
   have:=h 0 v (by simp);rw[show c.add 0=c by simp[Addr.add]] at this;simp[run_load,this,fR]
theorem mP {g:Nat}{t:TypeId}{cs:List Value}(b:t≠0) (h:Own.ok w (.box g t cs)) (n:Nat):w.cell? ⟨g,n,none⟩=cs[n]?:=by
 simp only[Own.ok,gH b] at h;simp[World.cell?,h]
theorem I3 {t:Nat}{y:Operand}{x:X}{d:TypeDesc}{i:TypeInfo}{n:Nat}(hs:St F L w) (he:aC L ρ a) (hd:∀k,o.dst=some k->k<a.tmps.size)
  (ho:o.op=.load t y) (ht:P.underlying t=some d) (hi:P.info? t=some i) (hx:bh y=some x) (hn:n=match di d with | true=>i.size | false=>1)
  (q:evalOp P (.load (di d) n x) o.dst F L ρ K):o.wp P a w (aZ F L w a K) Q:=by
 have ec:=aF hx he;have r:∀(p:Option Addr) (j:Nat),p≠none->(jf F L p j n fun cs=>K F L (put o.dst (.v (fR (di d) cs)) ρ))->a.eval y=conc L (.el p j)->o.wp P a w (aZ F L w a K) Q:=by
  rintro p j av ⟨cs,s,hc,q⟩ hy;cases p with
  | none=>exact v7 rfl av
  | some p =>
   have f:∀i v,cs[i]?=some v->w.cell? ((p.add j).add i)=some v:=by
    rcases hc with hc | ⟨k,v,t',sz,m,xs,ay,c,hk,z,e2,hc⟩ | az | ⟨k,g,t',bs,o',hk,ae,z,hc⟩
    ·obtain⟨ay,e,am,aw⟩:=hc.cell hs;injection e with e
     subst e;intro i v hv;obtain⟨b,o',sp⟩:=p;simp only at am;subst am;rw[bV,bV,Nat.add_assoc,<-bV];exact aw i v hv
    ·injection z with z
     subst z;have aa:=hs.own k _ hk;simp only[Own.ok] at aa;subst e2;intro i u hu;have hb:=hc i u hu;have h0:=World.ownsRow.cells aa (g:=p.block) rfl (j+i) u hb;rcases aa.2 with⟨e,_⟩ | ⟨g,cap,bk,e,_⟩
     ·cases e
     ·injection e with z e2 e3
      injection z with z
      subst z;rw[bV,bV];rw[bV] at h0;simpa[Nat.add_assoc] using h0
    ·intro i v hv;rw[az] at s;have:cs=[]:=XD s;subst this;simp at hv
    ·injection z with z
     subst z;intro i u hu;rw[bV,bV,mP ae (hs.own k _ hk)];exact hc i u hu
   refine bF hs he hd (v:=fR (di d) cs) (x:=.v (fR (di d) cs)) ?_ rfl bK dh q;simp only[execOp,ho,hy,conc,Sem.run_bind,nW ht hi f s hn,Result.andThen_ok,Sem.run_pure]
 simp only[evalOp,aI] at q;split at q
 ·rename_i k off l;split at q
  case h_2=>exact q.elim
  rename_i g ty cs hk;split at q
  case h_2=>exact q.elim
  rename_i hl;have ae:=uN hl;have hl:=ia (zm hl);have an:=hs.own k _ hk;have f:∀j v,((cs.drop off).take n)[j]?=some v->w.cell? ((⟨g,off,none⟩:Addr).add j)=some v:=by
   intro j v hv;rw[bV,mP ae an];have hj:j<n:=by
    have:=Xe.1 hv;obtain⟨h,_⟩:=this;omega
   rw[List.getElem?_take_of_lt hj,XH] at hv;exact hv
  refine bF hs he hd (v:=fR (di d) ((cs.drop off).take n)) (x:=.v (fR (di d) ((cs.drop off).take n))) ?_ rfl bK dh q;have hy:a.eval y=.pointer (some ⟨g,off,none⟩):=by rw[ec];simp only[val,l,conc,hk]
  simp only[execOp,ho,hy,Sem.run_bind,nW ht hi f hl hn,Result.andThen_ok,Sem.run_pure]
 ·rename_i p j l;exact r p j (qo hx he l) q (by rw[ec];simp only[val,l])
 ·rename_i p l;refine r (some p) 0 (by simp) q ?_;rw[ec];simp only[val,l,conc];simp[Addr.add]
 ·exact q.elim
end
section
variable {P:Program}{F:aA}{L:Loc}{ρ:Env}{a:Act}{w:World}{K:cF}{o:Oper}{Q:Exit->Act->World->Prop}
theorem x9 {k b:IntKind}(h:pq k b=true):k=b:=by cases k<;>cases b<;>first | rfl | cases h
theorem qW {op:BinOp}{t:TypeId}{x y:Operand}{u v:Value}(h:∀c,u≠.agg c) (b:u≠.nilIface):(eqGuard op t x y u v).run P w=.ok () w:=by
 have key:(eqGuard op t x y u v).run P w=.ok () w\/True:=.inr trivial;unfold eqGuard;cases op<;>simp only[Bool.not_true,Bool.not_false,XA,Xm,XM]<;>first
  | rfl
  | (cases u<;>first | rfl | exact v7 rfl (h _) | exact v7 rfl b)
theorem toList_data (s:ByteArray):s.toList=s.data.toList:=ByteArray.toList_eq s
theorem uO (x y:List UInt8):(x == y)=decide (x=y):=by rw[Bool.eq_iff_iff];simp
theorem ME {t t':TypeId}{op:BinOp}{y z:Operand}{p z':X}(hs:St F L w) (he:aC L ρ a) (hd:∀k,o.dst=some k->k<a.tmps.size)
  (ho:o.op=.binOp op t y z t') (hy:bh y=some p) (hz:bh z=some z') (d:evalOp P (.bin op p z') o.dst F L ρ K):o.wp P a w (aZ F L w a K) Q:=by
 have ey:=aF hy he;have ez:=aF hz he;have fin:∀v,(binOp op t (val L ρ p) (val L ρ z')).run P w=.ok v w->(∀c,val L ρ p≠.agg c)->val L ρ p≠.nilIface->K F L (put o.dst (.v v) ρ)->o.wp P a w (aZ F L w a K) Q:=by
  intro v hr r h2 d;refine bF hs he hd (v:=v) (x:=.v v) ?_ rfl bK dh d;simp only[execOp,ho,ey,ez,Sem.run_bind,qW r h2,Result.andThen_ok,hr,Sem.run_pure]
 simp only[evalOp,aI] at d;split at d
 ·rename_i k n k' m h j;have b:=bB (L:=L) h;have e:=bB (L:=L) j;split at d
  ·rename_i l;have q:op=.shl\/op=.shr:=by cases op<;>simp_all [FV]
   have r:(binOp op t (.int k n) (.int k' m)).run P w=(Op.shift op k n k' m).run P w:=by rcases q with rfl | rfl<;>rfl
   rcases q with rfl | rfl
   ·obtain⟨hm,⟨d⟩⟩:=d;refine fin _ ?_ (by rw[b];simp) (by rw[b];simp) d;rw[b,e,r];simp[Op.shift,show¬m<0 by omega]
   ·obtain⟨hm,d⟩:=d;refine fin _ ?_ (by rw[b];simp) (by rw[b];simp) d;rw[b,e,r];simp[Op.shift,show¬m<0 by omega]
  ·rename_i l;split at d
   case h_2=>exact d.elim
   rename_i hk;have hk:=x9 hk;subst hk;cases op<;>simp only[binI] at d<;>first | (cases l;done) | skip
   ·obtain⟨d⟩:=d;exact fin _ (by rw[b,e];simp[binOp,Op.intArith]) (by rw[b];simp) (by rw[b];simp) d
   ·obtain⟨d⟩:=d;exact fin _ (by rw[b,e];simp[binOp,Op.intArith]) (by rw[b];simp) (by rw[b];simp) d
   ·obtain⟨d⟩:=d;exact fin _ (by rw[b,e];simp[binOp,Op.intArith]) (by rw[b];simp) (by rw[b];simp) d
   ·obtain⟨f,⟨d⟩⟩:=d;exact fin _ (by rw[b,e];simp[binOp,Op.intDiv,f]) (by rw[b];simp) (by rw[b];simp) d
   ·obtain⟨f,d⟩:=d;exact fin _ (by rw[b,e];simp[binOp,Op.intDiv,f]) (by rw[b];simp) (by rw[b];simp) d
   ·exact fin _ (by rw[b,e];simp[binOp,Op.intBits]) (by rw[b];simp) (by rw[b];simp) d
   ·exact fin _ (by rw[b,e];simp[binOp,Op.intBits]) (by rw[b];simp) (by rw[b];simp) d
   ·exact fin _ (by rw[b,e];simp[binOp,Op.intBits]) (by rw[b];simp) (by rw[b];simp) d
   ·exact fin _ (by rw[b,e];simp[binOp,Op.intBits]) (by rw[b];simp) (by rw[b];simp) d
   ·exact fin _ (by rw[b,e];simp[binOp,Op.intCmp];rfl) (by rw[b];simp) (by rw[b];simp) d
   ·exact fin _ (by rw[b,e];simp[binOp,Op.intCmp,bne];rfl) (by rw[b];simp) (by rw[b];simp) d
   ·exact fin _ (by rw[b,e];simp[binOp,Op.intCmp]) (by rw[b];simp) (by rw[b];simp) d
   ·exact fin _ (by rw[b,e];simp[binOp,Op.intCmp]) (by rw[b];simp) (by rw[b];simp) d
   ·exact fin _ (by rw[b,e];simp[binOp,Op.intCmp]) (by rw[b];simp) (by rw[b];simp) d
   ·exact fin _ (by rw[b,e];simp[binOp,Op.intCmp]) (by rw[b];simp) (by rw[b];simp) d
 ·rename_i s u h j;have b:=bB (L:=L) h;have e:=bB (L:=L) j;cases op<;>simp only[binS] at d<;>first | exact d.elim | skip
  ·obtain⟨ap,d⟩:=d;refine fin _ ?_ (by rw[b];simp) (by rw[b];simp) d;rw[b,e];have:¬(((s.size+u.size:Nat):Int)>IntKind.i64.max):=by omega
   simp only[binOp,Op.stringOp,vv this];rfl
  ·exact fin _ (by rw[b,e];simp only[binOp,Op.stringOp,toList_data,uO];rfl) (by rw[b];simp) (by rw[b];simp) d
  ·exact fin _ (by rw[b,e];simp only[binOp,Op.stringOp,toList_data,uO];rfl) (by rw[b];simp) (by rw[b];simp) d
  ·exact fin _ (by rw[b,e];simp only[binOp,Op.stringOp,toList_data,uO];rfl) (by rw[b];simp) (by rw[b];simp) d
  ·exact fin _ (by rw[b,e];simp only[binOp,Op.stringOp,toList_data,uO];rfl) (by rw[b];simp) (by rw[b];simp) d
 ·exact d.elim
theorem F7 {t t':TypeId}{neg:Bool}{y z:Operand}{n r:X}(hs:St F L w) (e:aC L ρ a) (hd:∀k,o.dst=some k->k<a.tmps.size)
  (s:o.op=.binOp (if neg then .neq else .eql) t y z t') (q:P.underlying t=some .bool) (hy:bh y=some n) (hz:bh z=some r) (d:evalOp P (.eqB neg n r) o.dst F L ρ K):o.wp P a w (aZ F L w a K) Q:=by
 have l:=aF hy e;have m:=aF hz e;simp only[evalOp,aI] at d;split at d
 case h_2=>exact d.elim
 rename_i b c f h;have p:=bB (L:=L) f;have u:=bB (L:=L) h;refine bF hs e hd (v:=.bool (mX neg (decide (b=c)))) (x:=.v (.bool (mX neg (decide (b=c))))) ?_ rfl bK dh d;have j:∀op:BinOp,(eqGuard op t y z (.bool b) (.bool c)).run P w=.ok () w:=fun op=>qW (by simp) (by simp);have hb:(b == c)=decide (b=c):=by cases b<;>cases c<;>rfl
 cases neg
 ·simp only[execOp,s,l,m,p,u,Sem.run_bind,j,Result.andThen_ok];have:=run_eql_bool (P:=P) w t b c q;rw[hb] at this;simp[this,mX]
 ·simp only[execOp,s,l,m,p,u,Sem.run_bind,j,Result.andThen_ok];have:=run_neq_bool (P:=P) w t b c q;rw[hb] at this;simp[this,mX]
theorem Cn {t e:TypeId}(h:P.underlying t=some (.pointer e)) (p:Option Addr):(Op.equal t (.pointer p) (.pointer none)).run P w=.ok p.isNone w:=by
 have key:∀d:Nat,(Op.equalIn (d+1) t (.pointer p) (.pointer none)).run P w=.ok p.isNone w:=fun d=>by
  cases p<;>simp[Op.equalIn,run_underlying h]
 exact key 9999
theorem MF {t e:TypeId}(h:P.underlying t=some (.slice e)) (p:Option Addr) (n c n' b:Nat):(Op.equal t (.slice p n c) (.slice none n' b)).run P w=.ok p.isNone w:=by
 have key:∀d:Nat,(Op.equalIn (d+1) t (.slice p n c) (.slice none n' b)).run P w=.ok p.isNone w:=fun d=>by
  cases p<;>simp[Op.equalIn,run_underlying h]
 exact key 9999
theorem MG {t:TypeId}{ps b:Array TypeId}{v:Bool}(h:P.underlying t=some (.func ps b v)):(Op.equal t .nilFunc .nilFunc).run P w=.ok true w:=by
 have key:∀d:Nat,(Op.equalIn (d+1) t .nilFunc .nilFunc).run P w=.ok true w:=fun d=>by
  simp[Op.equalIn,run_underlying h]
 exact key 9999
theorem MH {t:TypeId}{ps b:Array TypeId}{v:Bool}{f:Fn}{x y:Array Value}(h:P.underlying t=some (.func ps b v)):(Op.equal t (.func f x y) .nilFunc).run P w=.ok false w:=by
 have key:∀d:Nat,(Op.equalIn (d+1) t (.func f x y) .nilFunc).run P w=.ok false w:=fun d=>by
  simp[Op.equalIn,run_underlying h]
 exact key 9999
theorem qX {t t':TypeId}{neg:Bool}{y z:Operand}{r z':X}(hs:St F L w) (d:aC L ρ a) (hd:∀k,o.dst=some k->k<a.tmps.size)
  (ho:o.op=.binOp (if neg then .neq else .eql) t y z t') (hy:bh y=some r) (hz:bh z=some z')
  (u v:Value) (b:Bool) (h:val L ρ r=u) (q:val L ρ z'=v) (h1:∀c,u≠.agg c) (h2:u≠.nilIface) (h3:∀k n,u≠.int k n) (h4:∀s,u≠.string s) (f:∀k n,u≠.float k n) (h6:∀k n m,u≠.complex k n m)
  (j:(Op.equal t u v).run P w=.ok b w) (hK:K F L (put o.dst (.v (.bool (mX neg b))) ρ)):o.wp P a w (aZ F L w a K) Q:=by
 have l:=aF hy d;have p:=aF hz d;refine bF hs d hd (v:=.bool (mX neg b)) (x:=.v (.bool (mX neg b))) ?_ rfl bK dh hK;have e:∀op:BinOp,(eqGuard op t y z u v).run P w=.ok () w:=fun op=>qW h1 h2;cases neg
 ·simp only[execOp,ho,l,p,h,q,Sem.run_bind,e,Result.andThen_ok];have:binOp .eql t u v=(do pure (.bool (<-Op.equal t u v)):Sem Value):=by
   cases u<;>first | rfl | exact v7 rfl (h3 _ _) | exact v7 rfl (h4 _) | exact v7 rfl (f _ _) | exact v7 rfl (h6 _ _ _)
  simp[this,j,mX]
 ·simp only[execOp,ho,l,p,h,q,Sem.run_bind,e,Result.andThen_ok];have:binOp .neq t u v=(do pure (.bool (!(<-Op.equal t u v))):Sem Value):=by
   cases u<;>first | rfl | exact v7 rfl (h3 _ _) | exact v7 rfl (h4 _) | exact v7 rfl (f _ _) | exact v7 rfl (h6 _ _ _)
  simp[this,j,mX]
theorem F8 {t t' e:TypeId}{neg:Bool}{y z:Operand}{s u:X}(n:St F L w) (f:aC L ρ a) (l:∀k,o.dst=some k->k<a.tmps.size)
  (r:o.op=.binOp (if neg then .neq else .eql) t y z t') (q:P.underlying t=some (.pointer e)) (h:bh y=some s) (m:bh z=some u) (d:evalOp P (.eqP neg s u) o.dst F L ρ K):o.wp P a w (aZ F L w a K) Q:=by
 simp only[evalOp,aI] at d;split at d
 ·rename_i k off b c;obtain⟨g,ty,cs,v⟩:=nA h f b;exact qX n f l r h m (.pointer (some ⟨g,off,none⟩)) (.pointer none) false (by simp only[val,b,conc,v]) (bB c) (by simp) (by simp) (by simp) (by simp) (by simp) (by simp) (Cn q _) d
 ·rename_i x j b c;exact qX n f l r h m (.pointer (some (x.add j))) (.pointer none) false (by simp only[val,b,conc]) (bB c) (by simp) (by simp) (by simp) (by simp) (by simp) (by simp) (Cn q _) d
 ·rename_i p b c;exact qX n f l r h m (.pointer p) (.pointer none) p.isNone (bB b) (bB c) (by simp) (by simp) (by simp) (by simp) (by simp) (by simp) (Cn q _) d
 ·exact d.elim
theorem F9 {t t' e:TypeId}{neg:Bool}{y z:Operand}{h j:X}(r:St F L w) (m:aC L ρ a) (l:∀k,o.dst=some k->k<a.tmps.size)
  (x:o.op=.binOp (if neg then .neq else .eql) t y z t') (v:P.underlying t=some (.slice e)) (u:bh y=some h) (q:bh z=some j) (b:evalOp P (.eqS neg h j) o.dst F L ρ K):o.wp P a w (aZ F L w a K) Q:=by
 simp only[evalOp,aI] at b;split at b
 ·rename_i p n c n' s d f;exact qX r m l x u q (.slice p n c) (.slice none n' s) p.isNone (bB d) (bB f) (by simp) (by simp) (by simp) (by simp) (by simp) (by simp) (MF v _ _ _ _ _) b
 ·exact b.elim
theorem Ga {t v:TypeId}{ps u:Array TypeId}{s neg:Bool}{y z:Operand}{j q:X}(m:St F L w) (h:aC L ρ a) (e:∀k,o.dst=some k->k<a.tmps.size)
  (r:o.op=.binOp (if neg then .neq else .eql) t y z v) (p:P.underlying t=some (.func ps u s)) (n:bh y=some j) (l:bh z=some q) (d:evalOp P (.eqF neg j q) o.dst F L ρ K):o.wp P a w (aZ F L w a K) Q:=by
 simp only[evalOp,aI] at d;split at d
 ·rename_i b c;exact qX m h e r n l .nilFunc .nilFunc true (bB b) (bB c) (by simp) (by simp) (by simp) (by simp) (by simp) (by simp) (MG p) d
 ·rename_i f x y b c;exact qX m h e r n l (.func f x y) .nilFunc false (bB b) (bB c) (by simp) (by simp) (by simp) (by simp) (by simp) (by simp) (MH p) d
 ·exact d.elim
theorem Ez {z:Operand}{b:X}(h:bh z=some b) (k:vq b=true):z=.const .nilIface:=by
 unfold vq at k;split at k
 ·cases z with
  | const v=>simp only[bh,xo,X.c.injEq] at h;rw[h]
  | tmp n=>cases h
  | func f=>cases h
  | global g=>cases h
 ·cases k
theorem MI {t:TypeId}{b:Array (String×TypeId)}(h:P.underlying t=some (.interface b)):(Op.equal t .nilIface .nilIface).run P w=.ok true w:=by
 have key:∀d:Nat,(Op.equalIn (d+1) t .nilIface .nilIface).run P w=.ok true w:=fun d=>by
  simp[Op.equalIn,run_underlying h]
 exact key 9999
theorem MJ {t ty:TypeId}{b:Array (String×TypeId)}{u:Value}(h:P.underlying t=some (.interface b)):(Op.equal t (.iface ty u) .nilIface).run P w=.ok false w:=by
 have key:∀d:Nat,(Op.equalIn (d+1) t (.iface ty u) .nilIface).run P w=.ok false w:=fun d=>by
  simp[Op.equalIn,run_underlying h]
 exact key 9999
theorem Gb {t t':TypeId}{ms:Array (String×TypeId)}{neg:Bool}{y z:Operand}{h j:X}(hs:St F L w) (e:aC L ρ a) (n:∀k,o.dst=some k->k<a.tmps.size)
  (l:o.op=.binOp (if neg then .neq else .eql) t y z t') (ht:P.underlying t=some (.interface ms)) (hy:bh y=some h) (d:bh z=some j) (hn:vq j=true) (c:evalOp P (.eqN neg h) o.dst F L ρ K):o.wp P a w (aZ F L w a K) Q:=by
 have r:=aF hy e;obtain rfl:=Ez d hn;simp only[evalOp,aI] at c;split at c
 ·rename_i b;have p:val L ρ h=.nilIface:=bB b;refine bF hs e n (v:=.bool (mX neg true)) (x:=.v (.bool (mX neg true))) ?_ rfl bK dh c;have m:∀op:BinOp,(eqGuard op t y (.const .nilIface) .nilIface .nilIface).run P w=.ok () w:=fun op=>by
   cases op<;>simp[eqGuard]
  have s:a.eval (.const .nilIface)=.nilIface:=rfl;have q:=MI (P:=P) (w:=w) ht;cases neg
  ·simp only[execOp,l,r,s,p,Sem.run_bind,m,Result.andThen_ok];have:binOp .eql t .nilIface .nilIface=(do pure (.bool (<-Op.equal t .nilIface .nilIface)):Sem Value):=rfl;simp[this,q,mX]
  ·simp only[execOp,l,r,s,p,Sem.run_bind,m,Result.andThen_ok];have:binOp .neq t .nilIface .nilIface=(do pure (.bool (!(<-Op.equal t .nilIface .nilIface))):Sem Value):=rfl;simp[this,q,mX]
 ·rename_i ty u b;have f:val L ρ j=.nilIface:=by
   simp only[bh,xo] at d;rw[<-d];rfl
  exact qX hs e n l hy d (.iface ty u) .nilIface false (bB b) f (by simp) (by simp) (by simp) (by simp) (by simp) (by simp) (MJ ht) c
 ·exact c.elim
theorem AH {l c:List Value}{b r:Bool}(h:iD [] l c b=some r):l=[]/\c=[]/\r=b:=by
 cases l with
 | cons v l=>simp[iD] at h
 | nil =>
  cases c with
  | cons v l=>simp[iD] at h
  | nil=>simp only[iD,xo] at h;exact⟨rfl,rfl,h.symm⟩
theorem yc {ks:List Bool}{l d:List Value}{c r:Bool}(h:iD (true::ks) l d c=some r):∃k a f b e,l=.int k a::f/\d=.int k b::e/\iD ks f e (c&&decide (a=b))=some r:=by
 cases l with
 | nil=>simp[iD] at h
 | cons v l =>
  cases d with
  | nil=>cases v<;>simp[iD] at h
  | cons j d =>
   cases v<;>cases j<;>try (simp[iD] at h;done)
   rename_i k a n b;simp only[iD] at h;split at h
   ·rename_i m;have:=x9 m;subst this;exact⟨k,a,l,b,d,rfl,rfl,h⟩
   ·cases h
theorem vB {ks:List Bool}{l d:List Value}{c r:Bool}(h:iD (false::ks) l d c=some r):∃a f b e,l=.bool a::f/\d=.bool b::e/\iD ks f e (c&&decide (a=b))=some r:=by
 cases l with
 | nil=>simp[iD] at h
 | cons v l =>
  cases d with
  | nil=>cases v<;>simp[iD] at h
  | cons j d =>
   cases v<;>cases j<;>try (simp[iD] at h;done)
   rename_i a b;simp only[iD] at h;exact⟨a,l,b,d,rfl,rfl,h⟩
theorem AJ (k:IntKind):pq k k=true:=by cases k<;>rfl
theorem Gc:∀{ks:List Bool}{l f:List Value}{d r:Bool},iD ks l f d=some r->∃e,(∀c,iD ks l f c=some (c&&e))/\r=(d&&e):=by
 intro ks
 induction ks with
 | nil =>
  intro l f d r h;obtain⟨rfl,rfl,rfl⟩:=AH h;exact⟨true,fun c=>by simp[iD],by simp⟩
 | cons k ks p =>
  intro l f d r h;cases k with
  | true =>
   obtain⟨k,a,s,b,q,rfl,rfl,n⟩:=yc h;obtain⟨e,j,m⟩:=p n;exact⟨decide (a=b)&&e,fun c=>by simp only[iD,AJ,j,Bool.and_assoc],by rw[m,Bool.and_assoc]⟩
  | false =>
   obtain⟨a,s,b,q,rfl,rfl,n⟩:=vB h;obtain⟨e,j,m⟩:=p n;exact⟨decide (a=b)&&e,fun c=>by simp only[iD,j,Bool.and_assoc],by rw[m,Bool.and_assoc]⟩
theorem vC {t:TypeId}{d:TypeDesc}(c:P.underlying t=some d) (b:di d=false) {cs:Array Value}{off:Nat}{v:Value}(h:cs[off]?=some v):(part t cs off).run P w=.ok v w:=by
 simp only[part,Sem.run_bind,sV c,Result.andThen_ok,b,Xm,XM,h,Sem.run_pure]
theorem rU {d:Nat}{xs ys:Array Value}:∀{fs:List Field}{k:Nat}{ks:List Bool}{b:Bool},nV P fs k=some ks->iD ks (xs.toList.drop k) (ys.toList.drop k) true=some b->(Op.eqFields (d+1) xs ys fs).run P w=.ok b w
 | [],k,ks,b,h,he=>by
  simp only[nV,xo] at h;subst h;obtain⟨_,_,rfl⟩:=AH he;simp[Op.eqFields]
 | f::fs,k,ks,b,h,he=>by
  have hcons:∀{zs:Array Value}{v:Value}{l:List Value},zs.toList.drop k=v::l->zs[k]?=some v/\zs.toList.drop (k+1)=l:=by
   intro zs v l e;refine⟨?_,?_⟩
   ·have:=p7 (fun q=>q[0]?) e;simp only[XH,Nat.add_zero,Xp] at this;simpa using this
   ·rw[<-List.drop_drop,e];rfl
  have fin:∀{u v:Value}{l l':List Value}{ks':List Bool}{r:Bool}{dd:TypeDesc},P.underlying f.type=some dd->di dd=false->f.offset=k->f.name≠"_"->xs.toList.drop k=u::l->ys.toList.drop k=v::l'->(Op.equalIn (d+1) f.type u v).run P w=.ok r w ->
    nV P fs (k+1)=some ks'->iD ks' l l' r=some b->(Op.eqFields (d+1) xs ys (f::fs)).run P w=.ok b w:=by
   intro u v l l' ks' r dd hu hag ho hnm e1 e2 heq hfl hev;obtain⟨a1,a2⟩:=hcons e1;obtain⟨b1,b2⟩:=hcons e2;simp only[Op.eqFields];rw[j3 hnm];simp only[Sem.run_bind,ho,vC hu hag a1,vC hu hag b1,Result.andThen_ok,heq];obtain⟨r0,q1,q2⟩:=Gc hev;cases r with
   | false =>
    simp only[Ya] at q2;subst q2;simp
   | true =>
    simp only[X7] at q2;subst q2;simp only[Bool.not_true,Xm,XM];exact rU hfl (by rw[a2,b2];simpa using q1 true)
  simp only[nV] at h;split at h
  ·rename_i ki hoff hnm hu;split at h
   case h_2=>cases h
   rename_i ks' hks;injection h with h
   subst h;have hoff:=v8 hoff;have hnm:=XT hnm;obtain⟨k1,x,l1,y,l2,e1,e2,he⟩:=yc he;exact fin hu rfl hoff hnm e1 e2 (run_equalIn_int w d f.type k1 _ x y hu) hks (by rw[show(x == y)=decide (x=y) from rfl];simpa using he)
  ·rename_i hoff hnm hu;split at h
   case h_2=>cases h
   rename_i ks' hks;injection h with h
   subst h;have hoff:=v8 hoff;have hnm:=XT hnm;obtain⟨x,l1,y,l2,e1,e2,he⟩:=vB he;have hb:(x == y)=decide (x=y):=by cases x<;>cases y<;>rfl
   exact fin hu rfl hoff hnm e1 e2 (run_equalIn_bool' w d f.type x y hu) hks (by rw[hb];simpa using he)
  ·cases h
theorem Gd {t t':TypeId}{m:Array Field}{neg:Bool}{ks:List Bool}{y z:Operand}{r z':X}(hs:St F L w) (h:aC L ρ a) (hd:∀k,o.dst=some k->k<a.tmps.size)
  (ho:o.op=.binOp (if neg then .neq else .eql) t y z t') (u:P.underlying t=some (.struct m)) (hk:nV P m.toList 0=some ks) (hp:P.stoodInHeld t=false) (n:P.eqGuardType P.depth t=false) (hy:bh y=some r) (hz:bh z=some z')
  (c:evalOp P (.eqA neg ks r z') o.dst F L ρ K):o.wp P a w (aZ F L w a K) Q:=by
 have p:=aF hy h;have q:=aF hz h;simp only[evalOp,aI] at c;split at c
 case h_2=>exact c.elim
 rename_i cs ds j l;split at c
 case h_2=>exact c.elim
 rename_i b hb;have s:=bB (L:=L) j;have vz:=bB (L:=L) l;have f:P.fieldsOf t=m:=by simp only[Program.fieldsOf,u]
 have e:(Op.equalIn 10000 t (.agg cs) (.agg ds)).run P w=.ok b w:=by
  rw[show(10000:Nat)=9999+1 from rfl,run_equalIn_agg w 9999 t cs ds (by rw[f];exact u) hp,f];exact rU (d:=9998) hk (by simpa using hb)
 refine bF hs h hd (v:=.bool (mX neg b)) (x:=.v (.bool (mX neg b))) ?_ rfl bK dh c;cases neg
 ·simp only[execOp,ho,p,q,s,vz,Sem.run_bind,run_eqGuard_agg w _ t y z cs ds n,Result.andThen_ok];simp[run_eql_struct,e,mX]
 ·simp only[execOp,ho,p,q,s,vz,Sem.run_bind,run_eqGuard_agg w _ t y z cs ds n,Result.andThen_ok];simp[run_neq_struct,e,mX]
end
section
variable {P:Program}{F:aA}{L:Loc}{ρ:Env}{a:Act}{w:World}{K:cF}{o:Oper}{Q:Exit->Act->World->Prop}
theorem Oz {t:TypeId}{op:UnOp}{y:Operand}{m:X}(j:St F L w) (e:aC L ρ a) (h:∀k,o.dst=some k->k<a.tmps.size)
  (l:o.op=.unOp op t y) (p:bh y=some m) (d:evalOp P (.un op m) o.dst F L ρ K):o.wp P a w (aZ F L w a K) Q:=by
 have f:=aF p e;simp only[evalOp,aI] at d;split at d
 ·rename_i b c;refine bF j e h (v:=.bool (!b)) (x:=.v (.bool (!b))) ?_ rfl bK dh d;simp[execOp,l,f,bB c,Op.unary]
 ·rename_i k n c;obtain⟨d⟩:=d;refine bF j e h (v:=.int k (k.wrap (0-n))) (x:=.v (.int k (k.wrap (0-n)))) ?_ rfl bK dh d;simp[execOp,l,f,bB c,Op.unary,Op.intArith]
 ·rename_i k n c;refine bF j e h ?_ rfl bK dh d;simp[execOp,l,f,bB c,Op.unary,Op.intBits];rfl
 ·exact d.elim
theorem I4 {s t:TypeId}{k r:IntKind}{y:Operand}{d:X}(p:St F L w) (e:aC L ρ a) (j:∀k,o.dst=some k->k<a.tmps.size)
  (q:o.op=.convert s t y) (f:P.underlying s=some (.int r)) (l:P.underlying t=some (.int k)) (m:bh y=some d) (b:evalOp P (.conv k d) o.dst F L ρ K):o.wp P a w (aZ F L w a K) Q:=by
 have h:=aF m e;simp only[evalOp,aI] at b;split at b
 ·rename_i u n c;obtain⟨b⟩:=b;refine bF p e j (v:=.int k (k.wrap n)) (x:=.v (.int k (k.wrap n))) ?_ rfl bK dh b;simp[execOp,q,h,bB c,convert,run_underlying f,run_underlying l,Conv.intToInt]
 ·exact b.elim
theorem EA (bs:List UInt8):∀s:ByteArray,((bs.map fun b=>(b.toNat:Int)).foldl (fun r n=>r.push (UInt8.ofNat n.toNat)) s).data.toList=s.data.toList++bs:=by
 induction bs with
 | nil=>intro s;simp
 | cons b bs c =>
  intro s;simp only[Xj,List.foldl_cons];rw[c];simp[ByteArray.push]
theorem MK {s t e:TypeId}{y:Operand}{y':X}(hs:St F L w) (he:aC L ρ a) (hd:∀k,o.dst=some k->k<a.tmps.size)
  (ho:o.op=.convert s t y) (h1:P.underlying s=some (.slice e)) (h2:P.underlying t=some .string) (h3:P.underlying e=some (.int .u8)) (hy:bh y=some y') (hK:evalOp P (.b2s y') o.dst F L ρ K):o.wp P a w (aZ F L w a K) Q:=by
 have ey:=aF hy he;simp only[evalOp,aI] at hK;split at hK
 case h_2=>exact hK.elim
 rename_i ad n c am;obtain⟨cs,f,p,⟨bs,rfl,hK⟩⟩:=hK;refine bF hs he hd (v:=.string ⟨bs.toArray⟩) (x:=.v (.string ⟨bs.toArray⟩)) ?_ rfl bK dh hK;simp only[execOp,ho,ey,bB am,Sem.run_bind,run_convert_bytes_string w s t e ad n c h1 h3 h2];cases ad with
 | none =>
  rcases p with p | ⟨_,_,_,_,_,_,_,_,_,e,_⟩ | ab | ⟨_,_,_,_,_,_,_,e,_⟩
  ·obtain⟨_,e,_⟩:=p.cell hs;cases e
  ·cases e
  ·rw[ab] at f;have:bs=[]:=XD (by simpa using f);subst this;simp[Conv.bytesToString];rfl
  ·cases e
 | some ad =>
  have q:∀i v,(bs.map fun b=>Value.int .u8 b.toNat)[i]?=some v->w.cell? (ad.add i)=some v:=by
   rcases p with p | ⟨k,v,t',sz,m,xs,ar,c',hk,j,e2,p⟩ | ab | ⟨k,g,t',bx,o',hk,ap,j,p⟩
   ·obtain⟨ar,e,bb,al⟩:=p.cell hs;injection e with e
    subst e;intro i v hv;have:=al i v hv
    rwa [Nat.zero_add] at this
   ·injection j with j
    subst j;have l:=hs.own k _ hk;simp only[Own.ok] at l;subst e2;intro i u hu;have hb:=p i u hu;rw[Nat.zero_add] at hb;have h0:=World.ownsRow.cells l (g:=ad.block) rfl i u hb;rcases l.2 with⟨e,_⟩ | ⟨g,cap,ba,e,_⟩
    ·cases e
    ·injection e with j e2 e3
     injection j with j
     subst j;exact h0
   ·intro i v hv;rw[ab] at f;have:bs=[]:=XD (by simpa using f);subst this;simp at hv
   ·injection j with j
    subst j;intro i u hu;rw[bV,mP ap (hs.own k _ hk)];have:=p i u hu
    rwa [Nat.add_zero] at this
  have h:=run_loadCells_list (P:=P) w ad _ q;rw[f] at h;have hb:=run_bytesToString (P:=P) w ad n c (bs.map fun b=>(b.toNat:Int)) (by rw[h];simp);rw[hb];simp only[Result.andThen_ok,Sem.run_pure];congr 3;have:=EA bs ByteArray.empty;generalize(bs.map fun b=>(b.toNat:Int)).foldl (fun r n=>r.push (UInt8.ofNat n.toNat)) ByteArray.empty=z at this ⊢;obtain⟨d⟩:=z;congr 1;apply Array.ext';simpa using this
theorem I5 {f:FuncId}{fi ca:Array Operand}{b c:List X}(m:St F L w) (d:aC L ρ a) (h:∀k,o.dst=some k->k<a.tmps.size)
  (n:o.op=.makeFunc (.func f) fi ca) (e:fS fi.toList=some b) (j:fS ca.toList=some c) (l:evalOp P (.mkfn f b c) o.dst F L ρ K):o.wp P a w (aZ F L w a K) Q:=by
 have q:fi.map a.eval=(bf L ρ b).toArray:=by apply Array.ext';simpa using fe e d
 have p:ca.map a.eval=(bf L ρ c).toArray:=by apply Array.ext';simpa using fe j d
 refine bF m d h ?_ rfl bK dh l;simp[execOp,n,Instr.makeFunc,q,p];rfl
theorem I6 {i:Nat}{y:Operand}{d:X}(l:St F L w) (e:aC L ρ a) (h:∀k,o.dst=some k->k<a.tmps.size)
  (m:o.op=.extract y i) (j:bh y=some d) (b:evalOp P (.extr d i) o.dst F L ρ K):o.wp P a w (aZ F L w a K) Q:=by
 have f:=aF j e;simp only[evalOp,aI] at b;split at b
 case h_2=>exact b.elim
 rename_i vs c;split at b
 case h_2=>exact b.elim
 rename_i v n;refine bF l e h (v:=v) (x:=.v v) ?_ rfl bK dh b;have:vs[i]?=some v:=by simpa using n
 simp[execOp,m,f,bB c,Instr.extract,this]
theorem EC {t f:Nat}{y:Operand}{z:X}{u:Array Field}{b:Field}{d:TypeDesc}{i:TypeInfo}{n:Nat}(hs:St F L w) (s:aC L ρ a) (hd:∀k,o.dst=some k->k<a.tmps.size)
  (ho:o.op=.field t y f) (ht:P.underlying t=some (.struct u)) (hf:u[f]?=some b) (q:P.underlying b.type=some d) (hi:P.info? b.type=some i) (hy:bh y=some z)
  (j:n=match di d with | true=>i.size | false=>1) (c:evalOp P (.fieldV (di d) b.offset n z) o.dst F L ρ K):o.wp P a w (aZ F L w a K) Q:=by
 have ey:=aF hy s;simp only[evalOp,aI] at c;split at c
 case h_2=>exact c.elim
 rename_i cs p;split at c
 case h_2=>exact c.elim
 rename_i l;have l:=ia l;refine bF hs s hd (v:=fR (di d) ((cs.toList.drop b.offset).take n)) (x:=.v (fR (di d) ((cs.toList.drop b.offset).take n))) ?_ rfl bK dh c;simp only[execOp,ho,ey,bB p,Instr.field,Sem.run_bind,run_underlying ht,Result.andThen_ok,hf,asAgg,Sem.run_pure,part,sV q];cases e:di d with
 | true =>
  simp only[e] at j;simp only[XA,Sem.run_bind,sizeOf,typeInfo,run_program,Result.andThen_ok,hi,Sem.run_pure];subst j;have m:cs.extract b.offset (b.offset+i.size)=((cs.toList.drop b.offset).take i.size).toArray:=by
   apply Array.ext';rw[Array.toList_extract];simp[List.extract_eq_take_drop]
  simp[fR,m]
 | false =>
  simp only[e] at j;subst j;have:∃v,cs[b.offset]?=some v/\(cs.toList.drop b.offset).take 1=[v]:=by
   match h:cs.toList.drop b.offset,l with
   | v::r,_ =>
    refine⟨v,?_,by simp⟩;have:=p7 (·[0]?) h;simpa using this
  obtain⟨v,h1,h2⟩:=this;simp[h1,h2,fR]
theorem ED {t f:Nat}{y:Operand}{r:X}{fs:Array Field}{h:Field}{i:TypeInfo}(s:St F L w) (m:aC L ρ a) (q:∀k,o.dst=some k->k<a.tmps.size)
  (ho:o.op=.fieldAddr t y f) (ht:P.underlying t=some (.struct fs)) (hf:fs[f]?=some h) (hi:P.info? h.type=some i) (l:i.size≠0) (z:bh y=some r)
  (n:evalOp P (.fieldA h.offset r) o.dst F L ρ K):o.wp P a w (aZ F L w a K) Q:=by
 have ey:=aF z m;have run:∀d:Addr,val L ρ r=.pointer (some d)->(execOp a.eval o).run P w=.ok (.value (.pointer (some (d.add h.offset)))) w:=by
  intro d hv;simp[execOp,ho,ey,hv,Instr.fieldAt,run_underlying ht,hf,Instr.sureAddr,fieldPlace,sizeOf,typeInfo,hi,l]
 simp only[evalOp,aI] at n;split at n
 ·rename_i k off c;obtain⟨g,ty,cs,p⟩:=nA z m c;refine bF s m q (v:=.pointer (some ⟨g,off+h.offset,none⟩)) (x:=.own k (off+h.offset)) ?_ (by simp only[conc,p]) (fun k' ac e=>by injection e with e1 e2;subst e1;exact⟨g,ty,cs,p⟩) (fun _ _ e=>by cases e) n;rw[run ⟨g,off,none⟩ (by simp only[val,c,conc,p]),bV]
 ·rename_i d j c;have l:=qo z m c;cases d with
  | none=>exact v7 rfl l
  | some d =>
   refine bF s m q (v:=.pointer (some (d.add (j+h.offset)))) (x:=.el (some d) (j+h.offset)) ?_ rfl (fun _ _ e=>by cases e) (fun u j' e=>by injection e with e1 e2;subst e1;simp) n;rw[run (d.add j) (by simp only[val,c,conc])];congr 4;obtain⟨b,o',sp⟩:=d;unfold Addr.add
   by_cases h1:j=0<;>by_cases h2:h.offset=0<;>simp[h1,h2,Nat.add_assoc]
 ·rename_i d c;refine bF s m q (v:=.pointer (some (d.add h.offset))) (x:=.el (some d) h.offset) ?_ rfl (fun _ _ e=>by cases e) (fun u j' e=>by injection e with e1 e2;subst e1;simp) n;rw[run d (bB c)]
 ·exact n.elim
theorem I7 {t e:TypeId}{y z:Operand}{p q:X}{i:TypeInfo}(hs:St F L w) (h:aC L ρ a) (s:∀k,o.dst=some k->k<a.tmps.size)
  (ho:o.op=.indexAddr t y z) (ht:P.underlying t=some (.slice e)) (hi:P.info? e=some i) (hy:bh y=some p) (hz:bh z=some q)
  (b:evalOp P (.idxA i.size p q) o.dst F L ρ K):o.wp P a w (aZ F L w a K) Q:=by
 have u:=aF hy h;have ez:=aF hz h;simp only[evalOp,aI] at b;split at b
 case h_2=>exact b.elim
 rename_i d n c k j l m;obtain⟨f,r,h2,b⟩:=b;cases d with
 | none=>exact v7 rfl f
 | some d =>
  refine bF hs h s (v:=.pointer (some (d.add (j.toNat*i.size)))) (x:=.el (some d) (j.toNat*i.size)) ?_ rfl (fun _ _ e=>by cases e) (fun ag j' e=>by injection e with e1 e2;subst e1;simp) b;simp[execOp,ho,u,ez,bB l,bB m,Instr.indexAt,asIntOf,run_underlying ht,r,h2,sizeOf,typeInfo,hi]
theorem I8 {t:TypeId}{y z:Operand}{l m:X}(hs:St F L w) (e:aC L ρ a) (p:∀k,o.dst=some k->k<a.tmps.size)
  (ho:o.op=.index t y z) (ht:P.underlying t=some .string) (hy:bh y=some l) (u:bh z=some m)
  (b:evalOp P (.idxS l m) o.dst F L ρ K):o.wp P a w (aZ F L w a K) Q:=by
 have q:=aF hy e;have r:=aF u e;simp only[evalOp,aI] at b;split at b
 case h_2=>exact b.elim
 rename_i s k j f h;obtain⟨n,h2,b⟩:=b;refine bF hs e p (v:=.int .u8 ((s.data.toList.getD j.toNat 0).toNat)) (x:=.v (.int .u8 ((s.data.toList.getD j.toNat 0).toNat))) ?_ rfl bK dh b;have c:j.toNat<s.size:=by omega
 have d:s[j.toNat]?=some (s.data.toList.getD j.toNat 0):=by
  have h3:j.toNat<s.data.toList.length:=by simpa using c
  rw[getElem?_pos s j.toNat c,List.getD_eq_getElem?_getD,x5 h3];simp;rfl
 simp[execOp,ho,q,r,bB f,bB h,Instr.index,asIntOf,run_underlying ht,n,d]
theorem ML {t e:TypeId}{y:Operand}{j:X}{c:Call}(r:St F L w) (h:aC L ρ a) (l:∀k,o.dst=some k->k<a.tmps.size)
  (z:o.op=.call c) (p:c.callee=.builtin .len) (q:c.args=#[y]) (f:c.argTypes=#[t]) (u:P.underlying t=some (.slice e)) (s:bh y=some j)
  (b:evalOp P (.len j) o.dst F L ρ K):o.wp P a w (aZ F L w a K) Q:=by
 have m:=aF s h;simp only[evalOp,aI] at b;split at b
 ·rename_i ad n cp d;refine bF r h l (v:=.int .i64 n) (x:=.v (.int .i64 n)) ?_ rfl bK dh b;simp[execOp,z,resolve,p,q,f,invoke,builtin,Builtin.len_,m,bB d,run_underlying u,goInt]
 ·exact b.elim
theorem I9 {t:TypeId}{y:Operand}{f:X}{c:Call}(p:St F L w) (h:aC L ρ a) (l:∀k,o.dst=some k->k<a.tmps.size)
  (r:o.op=.call c) (n:c.callee=.builtin .len) (m:c.args=#[y]) (e:c.argTypes=#[t]) (q:P.underlying t=some .string) (u:bh y=some f)
  (b:evalOp P (.lenS f) o.dst F L ρ K):o.wp P a w (aZ F L w a K) Q:=by
 have j:=aF u h;simp only[evalOp,aI] at b;split at b
 ·rename_i s d;refine bF p h l (v:=.int .i64 s.size) (x:=.v (.int .i64 s.size)) ?_ rfl bK dh b;simp[execOp,r,resolve,n,m,e,invoke,builtin,Builtin.len_,j,bB d,run_underlying q,goInt]
 ·exact b.elim
theorem Ja {t e:TypeId}{y:Operand}{l:X}{c:Call}(s:St F L w) (j:aC L ρ a) (m:∀k,o.dst=some k->k<a.tmps.size)
  (ho:o.op=.call c) (q:c.callee=.builtin .cap) (r:c.args=#[y]) (f:c.argTypes=#[t]) (z:P.underlying t=some (.slice e)) (u:bh y=some l)
  (b:evalOp P (.capa l) o.dst F L ρ K):o.wp P a w (aZ F L w a K) Q:=by
 have p:=aF u j;simp only[evalOp,aI] at b;split at b
 ·rename_i ad n h d;refine bF s j m (v:=.int .i64 h) (x:=.v (.int .i64 h)) ?_ rfl bK dh b;simp[execOp,ho,resolve,q,r,f,invoke,builtin,Builtin.cap_,p,bB d,run_underlying z,goInt]
 ·exact b.elim
theorem Ge {L:Loc}{ρ:Env}:∀{xs:List X},bf L ρ xs=(xs.map (ev ρ)).map (conc L)
 | []=>rfl
 | _::xs=>by simp[bf,val,Ge (xs:=xs)]
theorem MN (mx:Bool) (k:IntKind):∀(l:List SV) (d m:Int),LV mx d l=some m ->
  ((l.map (conc L)).foldlM (if mx then Builtin.max2 else Builtin.min2) (.int k d)).run P w=.ok (.int k m) w:=by
 intro l
 induction l with
 | nil=>intro d m h;simp only[LV,xo] at h;subst h;rfl
 | cons x l e =>
  intro d m h;unfold LV at h;split at h
  ·rename_i c;cases c
  ·rename_i f b j c;injection c with h1 h2
   subst h1 h2;have:=e _ _ h;cases mx
   ·simp only[Xj,List.foldlM_cons,conc,Sem.run_bind];simp only[Xm,XM] at this ⊢;simp only[Builtin.min2,Sem.run_pure,Result.andThen_ok];exact this
   ·simp only[Xj,List.foldlM_cons,conc,Sem.run_bind];simp only[XA] at this ⊢;simp only[Builtin.max2,Sem.run_pure,Result.andThen_ok];exact this
  ·cases h
theorem LX {mx:Bool}{c:Call}{xs:List X}(t:St F L w) (h:aC L ρ a) (p:∀k,o.dst=some k->k<a.tmps.size)
  (j:o.op=.call c) (e:c.callee=.builtin (if mx then .max else .min)) (q:fS c.args.toList=some xs)
  (d:evalOp P (.mm mx xs) o.dst F L ρ K):o.wp P a w (aZ F L w a K) Q:=by
 have b:=fe q h;rw[Ge] at b;simp only[evalOp,aI] at d;split at d
 case h_2=>exact d.elim
 rename_i k s l r;split at d
 case h_2=>exact d.elim
 rename_i m n;rw[r] at b;have f:=MN (P:=P) (L:=L) (w:=w) mx k l s m n;refine bF t h p (v:=.int k m) (x:=.v (.int k m)) ?_ rfl bK dh d;cases mx
 ·simp only[Xm,XM] at e f;simp only[execOp,j,resolve,e,invoke,builtin,Builtin.min_,Sem.run_bind,Sem.run_pure,Result.andThen_ok,Array.toList_map,b,Xj,conc,f]
 ·simp only[XA] at e f;simp only[execOp,j,resolve,e,invoke,builtin,Builtin.max_,Sem.run_bind,Sem.run_pure,Result.andThen_ok,Array.toList_map,b,Xj,conc,f]
theorem Jb {t:TypeId}{d:TypeDesc}{y:Operand}{r:X}(m:St F L w) (f:aC L ρ a) (h:∀k,o.dst=some k->k<a.tmps.size)
  (p:o.op=.makeInterface t y) (n:P.underlying t=some d) (e:∀u,d≠.interface u) (z:bh y=some r) (c:evalOp P (.mkif t r) o.dst F L ρ K):o.wp P a w (aZ F L w a K) Q:=by
 have l:=aF z f;simp only[evalOp,aI] at c;split at c
 ·rename_i v b;refine bF m f h (v:=.iface t v) (x:=.v (.iface t v)) ?_ rfl bK dh c;simp only[execOp,p,l,bB b,Instr.makeInterface];simp only[Sem.run_bind,Sem.run_map,run_underlying n,Result.andThen_ok];cases d<;>first | exact v7 rfl (e _) | simp
 ·rename_i q j b;refine bF m f h (v:=.iface t (.pointer (some (q.add j)))) (x:=.v (.iface t (.pointer (some (q.add j))))) ?_ rfl bK dh c;simp only[execOp,p,l,val,b,conc,Instr.makeInterface];simp only[Sem.run_bind,Sem.run_map,run_underlying n,Result.andThen_ok];cases d<;>first | exact v7 rfl (e _) | simp
 ·rename_i k off b;split at c
  case h_2=>exact c.elim
  rename_i g t' cs s;refine bF m f h (v:=.iface t (.pointer (some ⟨g,off,none⟩))) (x:=.v (.iface t (.pointer (some ⟨g,off,none⟩)))) ?_ rfl bK dh c;simp only[execOp,p,l,val,b,conc,s,Instr.makeInterface];simp only[Sem.run_bind,Sem.run_map,run_underlying n,Result.andThen_ok];cases d<;>first | exact v7 rfl (e _) | simp
 ·exact c.elim
theorem MO {t xt:TypeId}{d:TypeDesc}{i:TypeInfo}{z:Value}{y:Operand}{q:X}(m:St F L w) (h:aC L ρ a) (j:∀k,o.dst=some k->k<a.tmps.size)
  (p:o.op=.typeAssert y xt t true) (n:P.underlying t=some d) (f:∀s,d≠.interface s) (hi:P.info? t=some i) (r:i.zero=some z) (hy:bh y=some q) (c:evalOp P (.tas t z q) o.dst F L ρ K):o.wp P a w (aZ F L w a K) Q:=by
 have l:=aF hy h;simp only[evalOp,aI] at c;split at c
 ·rename_i b;refine bF m h j (v:=.tuple #[z,.bool false]) (x:=.v (.tuple #[z,.bool false])) ?_ rfl bK dh c;simp only[execOp,p,l,bB b,Instr.typeAssert];simp only[Sem.run_bind,Sem.run_map,run_underlying n,Result.andThen_ok];cases d<;>first | exact v7 rfl (f _) | simp[zeroValue,typeInfo,hi,r]
 ·rename_i t' u b;split at c
  ·rename_i hb;have hb:=v8 hb;refine bF m h j (v:=.tuple #[u,.bool true]) (x:=.v (.tuple #[u,.bool true])) ?_ rfl bK dh c;simp only[execOp,p,l,bB b,Instr.typeAssert];simp only[Sem.run_bind,Sem.run_map,run_underlying n,Result.andThen_ok];cases d<;>first | exact v7 rfl (f _) | simp[hb]
  ·rename_i hb;have hb:t'≠t:=fun e=>by rw[e,Nat.beq_refl] at hb;cases hb
   refine bF m h j (v:=.tuple #[z,.bool false]) (x:=.v (.tuple #[z,.bool false])) ?_ rfl bK dh c;simp only[execOp,p,l,bB b,Instr.typeAssert];simp only[Sem.run_bind,Sem.run_map,run_underlying n,Result.andThen_ok];cases d<;>first | exact v7 rfl (f _) | simp[zeroValue,typeInfo,hi,r,hb]
 ·exact c.elim
theorem Dj:∀{l:List (TypeId×String)}{t:TypeId}{nm:String},LR l t nm=true->(t,nm)∈l
 | [],_,_,h=>by cases h
 | (t,nm)::l,e,c,h=>by
  simp only[LR] at h;split at h
  ·rename_i b d;rw[<-v8 b,<-Xw d];exact List.mem_cons_self ..
  ·exact XE _ (Dj h)
theorem yd {t:TypeId}{nm:String}{f:FuncId}(h:nk P t nm=some f):∃i m b d,P.info? t=some i/\i.methods.find? (·.name == nm)=some m/\m.path.toList=[]/\m.func=some (f,b)/\P.underlying t=some d /\
  ((∃e,d=.pointer e/\b=true)\/((∀e,d≠.pointer e)/\b=false)):=by
 simp only[nk] at h;split at h
 case h_2=>cases h
 rename_i i hi;split at h
 case h_2=>cases h
 rename_i m k;split at h
 case h_2=>cases h
 rename_i q b n l;split at h
 ·rename_i e c;injection h with h;subst h
  exact⟨i,m,_,_,hi,k,n,l,c,.inl ⟨_,rfl,rfl⟩⟩
 ·cases h
 ·rename_i d j c;injection h with h;subst h
  exact⟨i,m,_,_,hi,k,n,l,c,.inr ⟨fun e p=>j e p,rfl⟩⟩
 ·cases h
theorem ye (P:Program):∃n,P.types.size+Made.depth=n+1:=⟨P.types.size+99,by simp[Made.depth]⟩
theorem EF {t:TypeId}{nm:String}{f:FuncId}(h:nk P t nm=some f) (v:Value) (w:World):(method (P.types.size+Made.depth) t v nm).run P w=.ok (f,v) w:=by
 obtain⟨i,m,r,d,c,k,q,p,j,b⟩:=yd h;obtain⟨n,l⟩:=ye P;rw[l];simp only[method,Sem.run_bind,typeInfo,run_program,Result.andThen_ok,c,Sem.run_pure,k,q,follow,p,receiverAt,run_underlying j];rcases b with⟨e,rfl,rfl⟩ | ⟨b,rfl⟩
 ·simp only[Place.get,Sem.run_pure,Result.andThen_ok]
 ·cases d<;>first | exact v7 rfl (b _) | simp only[Place.get,Sem.run_pure,Result.andThen_ok]
theorem EG {t:TypeId}{nm:String}{f:FuncId}(h:nk P t nm=some f) (v:Value) (w:World):(nilAhead (P.types.size+Made.depth) t v nm).run P w=.ok (some false) w:=by
 obtain⟨i,m,r,d,c,k,q,p,j,b⟩:=yd h;obtain⟨n,l⟩:=ye P;rw[l];simp only[nilAhead,Sem.run_bind,typeInfo,run_program,Result.andThen_ok,c,Sem.run_pure,k,q,followBlind,p];rcases b with⟨e,rfl,rfl⟩ | ⟨b,rfl⟩
 ·rfl
 ·simp only[Sem.run_bind,run_underlying j,Result.andThen_ok];cases d<;>first | exact v7 rfl (b _) | rfl
theorem Jc {nm:String}{fi ca:Array Operand}{c:X}(l:St F L w) (d:aC L ρ a) (h:∀k,o.dst=some k->k<a.tmps.size)
  (m:o.op=.makeFunc (.method nm) fi ca) (f:fS fi.toList=some [c]) (j:ca.toList=[]) (b:evalOp P (.mkmv nm c) o.dst F L ρ K):o.wp P a w (aZ F L w a K) Q:=by
 have e:fi.map a.eval=(bf L ρ [c]).toArray:=by apply Array.ext';simpa using fe f d
 have n:ca=#[]:=by apply Array.ext';exact j
 simp only[evalOp,aI] at b;split at b
 case h_2=>exact b.elim
 rename_i v p;refine bF l d h (v:=.func (.method nm) #[v] #[]) (x:=.v (.func (.method nm) #[v] #[])) ?_ rfl bK dh b;simp only[bf,bB p] at e;simp[execOp,m,Instr.makeFunc,e,n]
theorem Jd {t:TypeId}{nm:String}{fi ca:Array Operand}(j:St F L w) (e:aC L ρ a) (d:∀k,o.dst=some k->k<a.tmps.size)
  (l:o.op=.makeFunc (.methodOf t nm) fi ca) (b:fi.toList=[]) (f:ca.toList=[]) (h:evalOp P (.mov (.c (.func (.methodOf t nm) #[] #[]))) o.dst F L ρ K):o.wp P a w (aZ F L w a K) Q:=by
 have n:fi=#[]:=by apply Array.ext';exact b
 have m:ca=#[]:=by apply Array.ext';exact f
 refine bF j e d (v:=.func (.methodOf t nm) #[] #[]) (x:=.v (.func (.methodOf t nm) #[] #[])) ?_ rfl bK dh h;simp[execOp,l,Instr.makeFunc,n,m]
theorem AK {t:TypeId}{g k:Nat}{d:TypeDesc}{i:TypeInfo}(l:St F L w) (q:aC L ρ a) (m:∀k,o.dst=some k->k<a.tmps.size)
  (z:o.op=.load t (.global g)) (y:P.underlying t=some d) (hi:P.info? t=some i) (c:di d=false) (hg:uK g=some k) (e:evalOp P (.gload g) o.dst F L ρ K):o.wp P a w (aZ F L w a K) Q:=by
 simp only[evalOp,aI] at e;obtain⟨v,ty,fr,r,e⟩:=e;have p:=l.frz _ _ r;refine bF l q m (v:=v) (x:=.v v) ?_ rfl bK dh e;have s:a.eval (.global g)=.pointer (some ⟨g,0,none⟩):=rfl;have b:∀(j:Nat) (u:Value),[v][j]?=some u->w.cell? ((⟨g,0,none⟩:Addr).add j)=some u:=by
  intro j u f;cases j with
  | zero =>
   simp only[Xp,xo] at f;subst f;rw[bV];simp[World.cell?,p]
  | succ j=>simp at f
 have h:=nW y hi b (n:=1) rfl (by rw[c]);rw[c] at h;simp only[execOp,z,s,Sem.run_bind,h,Result.andThen_ok,Sem.run_pure,fR]
theorem Je {t key e:TypeId}{y z:Operand}{s z':X}{j:TypeInfo}(u:St F L w) (f:aC L ρ a) (hd:∀k,o.dst=some k->k<a.tmps.size)
  (ho:o.op=.lookup t y z true) (ht:P.underlying t=some (.map key e)) (q:P.underlying key=some (.int .i64)) (hi:P.info? e=some j) (hz:j.zero=some (.int .i64 0)) (hy:bh y=some s) (h:bh z=some z') (c:evalOp P (.look s z') o.dst F L ρ K):o.wp P a w (aZ F L w a K) Q:=by
 have ey:=aF hy f;have ez:=aF h f;simp only[evalOp] at c;split at c
 case h_2=>exact c.elim
 rename_i mv n hm hn;obtain⟨k,r,b,h1,h2,c⟩:=c;obtain⟨m,es,cl,rfl,h3,h4,o',h5,h6⟩:=FR h1 h2;have hh:=u.frz _ _ h3;refine bF u f hd (v:=.tuple #[.int .i64 r,.bool b]) (x:=.v (.tuple #[.int .i64 r,.bool b])) ?_ rfl bK dh c;have l:(getObj m).run P w=.ok (.map es cl) w:=by simp[getObj,Sem.run,hh]
 have p:(Instr.checkKey es.isEmpty 10000 key (.int .i64 n)).run P w=.ok () w:=by
  rw[show(10000:Nat)=9999+1 from rfl,Instr.checkKey];simp only[Sem.run_bind,run_underlying q,Result.andThen_ok,Sem.run_pure]
 have d:(Instr.findKey key (.int .i64 n) es.toList).run P w=.ok o' w:=by
  simp only[Instr.findKey,Sem.run_bind,run_underlying q,Result.andThen_ok,h5,Sem.run_pure]
 simp only[execOp,ho,ey,ez,bB hm,bB hn,Instr.lookup,Sem.run_bind,run_underlying ht,Result.andThen_ok,l,Sem.run_pure,p,d];rcases h6 with⟨rfl,i,rfl⟩ | ⟨rfl,rfl,rfl⟩
 ·simp only[Sem.run_bind,Sem.run_pure,Result.andThen_ok,XA]
 ·simp only[Sem.run_bind,zeroValue,typeInfo,run_program,Result.andThen_ok,hi,hz,Sem.run_pure,XA]
theorem Gf {y:Operand}{y':X}(q:St F L w) (d:aC L ρ a) (l:∀k,o.dst=some k->k<a.tmps.size)
  (r:o.op=.nilCheck y) (hy:bh y=some y') (p:LS P=true) (c:evalOp P (.nilck y') o.dst F L ρ K):o.wp P a w (aZ F L w a K) Q:=by
 have m:=aF hy d;simp only[evalOp,aI] at c;split at c
 ·rename_i k off b;obtain⟨g,ty,cs,s⟩:=nA hy d b;refine bF q d l (v:=.pointer (some ⟨g,off,none⟩)) (x:=.own k off) ?_ (by simp only[conc,s]) (fun k' ae e=>by injection e with e1 e2;subst e1;exact⟨g,ty,cs,s⟩) (fun _ _ e=>by cases e) c;simp[execOp,r,m,val,b,conc,s]
 ·rename_i h j b;obtain⟨z,c⟩:=c;cases h with
  | none=>exact v7 rfl z
  | some h =>
   refine bF q d l (v:=.pointer (some (h.add j))) (x:=.el (some h) j) ?_ rfl (fun _ _ e=>by cases e) (fun ao j' e=>by injection e with e1 e2;subst e1;simp) c;simp[execOp,r,m,val,b,conc]
 ·rename_i h b;refine bF q d l (v:=.pointer (some h)) (x:=.v (.pointer (some h))) ?_ rfl bK dh c;simp[execOp,r,m,bB b]
 ·rename_i f fi ca b;refine bF q d l (v:=.func (.func f) fi ca) (x:=.v (.func (.func f) fi ca)) ?_ rfl bK dh c;simp[execOp,r,m,bB b]
 ·rename_i nm fi ca b;split at c
  case h_2=>exact c.elim
  rename_i t u aa;obtain⟨hm,c⟩:=c;have h1:=Xo.1 p _ (Dj hm);obtain⟨f,hf⟩:=Option.isSome_iff_exists.1 h1;have n:fi[0]?=some (.iface t u):=by rw[<-Array.getElem?_toList,aa];rfl
  refine bF q d l (v:=.func (.method nm) fi ca) (x:=.v (.func (.method nm) fi ca)) ?_ rfl bK dh c;have hn:=EG (P:=P) hf u w;simp only[execOp,r,m,bB b,n,Sem.run_bind,run_program,Result.andThen_ok,Sem.run_pure,hn];rfl
 ·exact c.elim
theorem AL:∀{l:List Value},iS l=true->∀u∈l,u.oneCell'=true
 | [],_,u,b=>by cases b
 | v::l,h,u,b=>by
  simp only[iS] at h;split at h
  ·rename_i c;rcases Xh.1 b with rfl | b
   ·exact c
   ·exact AL h u b
  ·cases h
theorem AO {t:TypeId}{i:TypeInfo}(hi:P.info? t=some i) {g off:Nat}{v:Value}{b:Array Value}{ty:TypeId}(h:w.heap[g]?=some (.cells b ty (0,0)))
  (e:v.cells.size=i.size) (d:off+v.cells.size<=b.size) (f:∀u∈v.cells.toList,u.oneCell'=true) :
  (Instr.storeAt t (.pointer (some ⟨g,off,none⟩)) v).run P w=.ok () (w.setRow g (aM b.toList off v.cells.toList).toArray):=by
 have c:=run_storeCells_at P g off ty v.cells.toList 0 b w h (by simpa using d) f;simp only[Nat.add_zero] at c;simp only[Instr.storeAt,Instr.sureAddr,storeVar,Sem.run_bind,Sem.run_pure,Result.andThen_ok,sizeOf,typeInfo,run_program,hi];rw[vv (by omega)];rw[c];rfl
theorem qY {c:Type}(b:Array c) (i:Nat) (v:c) (h:b[i]?=some v):b.setIfInBounds i v=b:=by
 apply Array.ext_getElem?;intro j;rw[Array.getElem?_setIfInBounds];split
 ·rename_i e;subst e;split
  ·exact h.symm
  ·rename_i d;rw[Array.getElem?_eq_none (by omega)]
 ·rfl
theorem kY (g o:Nat) (t:TypeId) (d:Nat×Nat) (b:Array Value) (w:World) (e:w.heap[g]?=some (.cells b t d)):∀(vs:List Value) (i:Nat),(∀(n:Nat) (v:Value),vs[n]?=some v->b[o+i+n]?=some v/\nU d (o+i+n))->(∀v∈vs,v.oneCell'=true) ->
  (storeCells ⟨g,o,none⟩ vs i).run P w=.ok () w
 | [],i,_,_=>rfl
 | v::h,i,p,m=>by
  have j:(⟨g,o,none⟩:Addr).add i=⟨g,o+i,none⟩:=by unfold Addr.add;split<;>simp_all
  obtain⟨k,q⟩:=p 0 v (by simp);simp only[Nat.add_zero] at k q;have c:w.cell? ⟨g,o+i,none⟩=some v:=by simp[World.cell?,e,k]
  have f:w.frozen? ⟨g,o+i,none⟩=false:=by
   obtain⟨lo,r⟩:=d;simp only[World.frozen?,e,Bool.and_eq_false_iff,Ye];simp only[nU] at q;omega
  have l:(store ((⟨g,o,none⟩:Addr).add i) v).run P w=.ok () w:=by
   rw[j,run_store P w _ v _ (m v (by simp)),c];simp only[f,setCell_eq_setRow w g (o+i) b t d v e,qY b _ v k,setRow_self w g b t d e];simp
  have s:=kY g o t d b w e h (i+1) (fun n u y=>by
   have:=p (n+1) u (by simpa using y)
   rwa [show o+i+(n+1)=o+(i+1)+n by omega] at this) (fun x z=>m x (by simp[z]))
  simp only[storeCells,Sem.run_bind,l,Result.andThen_ok,s]
theorem nC {t:TypeId}{i:TypeInfo}(hi:P.info? t=some i) {g off:Nat}{v:Value}{b:Array Value}{ty:TypeId}{d:Nat×Nat}(h:w.heap[g]?=some (.cells b ty d))
  (e:v.cells.size=i.size) (j:∀(n:Nat) (u:Value),v.cells.toList[n]?=some u->b[off+n]?=some u/\nU d (off+n)) (f:∀u∈v.cells.toList,u.oneCell'=true) :
  (Instr.storeAt t (.pointer (some ⟨g,off,none⟩)) v).run P w=.ok () w:=by
 have c:=kY (P:=P) g off ty d b w h v.cells.toList 0 (by simpa using j) f;simp only[Instr.storeAt,Instr.sureAddr,storeVar,Sem.run_bind,Sem.run_pure,Result.andThen_ok,sizeOf,typeInfo,run_program,hi];rw[vv (by omega)];rw[c]
theorem lp (w:World) (g:Nat) (cs:Array Value):w.grownBy (w.setRow g cs) (some g) :=
 ⟨rfl,rfl,rfl,by simp[World.setRow],fun k _ b=>setRow_other w g k cs (fun e=>b (by rw[e]))⟩
theorem Gg {t:TypeId}{y z:Operand}{y' z':X}{i:TypeInfo}(hs:St F L w) (he:aC L ρ a) (hd:∀k,o.dst=some k->k<a.tmps.size)
  (ho:o.op=.store t y z) (hi:P.info? t=some i) (hy:bh y=some y') (hz:bh z=some z')
  (l:evalOp P (.store i.size y' z') o.dst F L ρ K):o.wp P a w (aZ F L w a K) Q:=by
 have ey:=aF hy he;have ez:=aF hz he;have am:aG (val L ρ z')=(a.eval z).cells.toList:=by rw[ez,nB]
 have turn:∀(k:Nat) (g:Nat) (oo o':Own) (f:Array Value) (ty:TypeId) (off:Nat),L.get k=some oo->oo.blk=some g->o'.blk=some g->w.heap[g]?=some (.cells f ty (0,0)) ->
   (a.eval z).cells.size=i.size->off+(a.eval z).cells.size<=f.size->(∀u∈(a.eval z).cells.toList,u.oneCell'=true)->a.eval y=.pointer (some ⟨g,off,none⟩) ->
   o'.ok (w.setRow g (aM f.toList off (a.eval z).cells.toList).toArray)->(∀g' ty' cs',oo=.box g' ty' cs'->∃ag,o'=.box g' ty' ag) ->
   K F (L.set k o') (put o.dst (.v undef) ρ)->o.wp P a w (aZ F L w a K) Q:=by
  intro k g oo o' f ty off s hb bc hg be d h1 ab bx q l;have aa:=lp w g (aM f.toList off (a.eval z).cells.toList).toArray;have cc:St F (L.set k o') (w.setRow g (aM f.toList off (a.eval z).cells.toList).toArray) :=
   hs.turn s bx (fun b ax bd=>aa.block b ax (fun e=>bd (by rw[hb,e]))) (fun g' ar=>.inl (by rw[hb];rw[bc] at ar;exact ar))
  refine rT he hd (w':=w.setRow g (aM f.toList off (a.eval z).cells.toList).toArray) ?_ cc ?_ ?_ l
  ·simp[execOp,ho,ab,AO hi hg be d h1]
  ·refine⟨aA.le_refl F,rfl,rfl,rfl,aa.size,fun b ax hn=>aa.block b ax (fun e=>hn ⟨k,oo,s,by rw[hb,e]⟩),fun b h=>.inl h,fun b h=>?_⟩;rcases Loc.WD h with h | h
   ·rw[bc] at h;exact .inl ⟨k,oo,s,by rw[hb];exact h⟩
   ·exact .inl h
  ·intro j g' ty' cs' e;rw[Loc.Wt];split
   ·rename_i hj;subst hj;rw[s] at e;injection e with e
    obtain⟨ag,h⟩:=q g' ty' cs' e;exact⟨ag,by rw[h]⟩
   ·exact⟨cs',e⟩
 have r:∀(ad:Option Addr) (j:Nat),ad≠none->a.eval y=conc L (.el ad j)->eW (aG (val L ρ z')) i.size=true->iS (aG (val L ρ z'))=true ->
   (rQ F L ad j (aG (val L ρ z')) fun L'=>K F L' (put o.dst (.v undef) ρ))->o.wp P a w (aZ F L w a K) Q:=by
  rintro ad j bd ab p h1 ⟨⟨k,v,ty,sz,m,xs,bj,c,s,rfl,rfl,d,an,l⟩ | ⟨⟨bj,cw,ty,fz,rfl,hb,ap,hc⟩,an,l⟩⟩
  case inr =>
   have p:=ia p;rw[am] at p an hc;obtain⟨g,off,sp⟩:=bj;simp only at ap;subst ap;have hr:=nC (P:=P) hi (off:=off+j) (v:=a.eval z) (hs.frz g _ hb) (by simpa using p) hc an;refine rT he hd (w':=w) ?_ hs ?_ (fun j g' ty' cs' e=>⟨cs',e⟩) l
   ·simp only[conc,bV] at ab;simp[execOp,ho,ab,hr]
   ·exact⟨aA.le_refl F,rfl,rfl,rfl,Xy _,fun b _ _=>rfl,fun b h=>.inl h,fun b h=>.inl h⟩
  have p:=ia p;rw[am] at p an d l;have ay:(a.eval z).cells.size=i.size:=by simpa using p
  have ac:=hs.own k _ s;simp only[Own.ok] at ac;obtain⟨hx,ac⟩:=ac;rcases ac with⟨e,_⟩ | ⟨g,cap,f,e,ca,hg,bk,bu,av,al⟩
  ·cases e
  ·injection e with e1 e2 e3
   injection e1 with e1
   subst e1 e3;have co:m*sz<=f.size:=by rw[av];exact Nat.mul_le_mul_right _ bk
   rw[<-al] at d;have aw:j+(a.eval z).cells.size<=m*sz:=by simp at d;omega
   refine turn k g _ (.row (.slice (some ⟨g,0,none⟩) m c) ty sz m (aM xs j (a.eval z).cells.toList)) f ty j s rfl rfl hg ay (by omega) an (by rw[ab];simp only[conc];rw[bV];simp) ?_ (fun g' ty' cs' e=>by cases e) l;refine⟨?_,.inr ⟨g,c,_,rfl,ca,setRow_heap w g f _ ty _ hg,bk,bu,?_,?_⟩⟩
   ·rw[eT _ _ _ (by rw[hx];simpa using aw)];exact hx
   ·have:(aM f.toList j (a.eval z).cells.toList).length=f.size:=by rw[eT _ _ _ (by simp;omega)];simp
    simp[this,av]
   ·rw[List.toList_toArray,<-al];apply XP;intro n;have cb:j+(a.eval z).cells.toList.length<=f.toList.length:=by simp;omega
    rw[gR (by simp;omega)]
    by_cases hn:n<m*sz
    ·rw[List.getElem?_take_of_lt hn,gR cb,List.getElem?_take_of_lt hn]
    ·rw[Xn (by simp;omega)];have h1:¬n<j:=by omega
     have h2:¬n<j+(a.eval z).cells.toList.length:=by simp;omega
     rw[vv h1,vv h2,Xn (by simp;omega)]
 simp only[evalOp,aI] at l;split at l
 ·rename_i p h1 x;rename_i k off;have p:=ia p;have h1:=AL h1;rw[am] at p h1;split at l
  case h_2=>exact l.elim
  rename_i g ty cs s;split at l
  case h_2=>exact l.elim
  rename_i d;have bi:=uN d;have d:=ia (zm d);have q:w.heap[g]?=some (.cells cs.toArray ty (0,0)):=by rw[<-gH bi];exact hs.own k _ s
  by_cases h0:i.size=0
  ·have hz:(a.eval z).cells.toList=[]:=XD (by rw[p,h0]);have ap:aM cs off []=cs:=by simp[aM]
   rw[am,hz,ap] at l;have hr:=nC (P:=P) hi (off:=off) (v:=a.eval z) q (by simpa using p) (by rw[hz];intro n u hu;simp at hu) (by rw[hz];intro u hu;cases hu);have ab:a.eval y=.pointer (some ⟨g,off,none⟩):=by rw[ey];simp only[val,x,conc,s]
   refine rT he hd (w':=w) ?_ (hs.turn s (o':=.box g ty cs) (hs.own k _ s) (fun _ _ _=>rfl) (fun g' ar=>.inl ar)) ?_ (fun j g' ty' cs' e=>?_) l
   ·simp[execOp,ho,ab,hr]
   ·refine⟨aA.le_refl F,rfl,rfl,rfl,Xy _,fun b _ _=>rfl,fun b h=>.inl h,fun b h=>?_⟩;rcases Loc.WD h with h | h
    ·exact .inl ⟨k,_,s,h⟩
    ·exact .inl h
   ·rw[Loc.Wt];split
    ·rename_i hj;subst hj;rw[s] at e;injection e with e
     injection e with q1 q2 q3
     subst q1 q2;exact⟨_,rfl⟩
    ·exact⟨cs',e⟩
  have cd:off+i.size<=cs.length:=by simp at d;omega
  rw[am] at l;have ay:(a.eval z).cells.size=i.size:=by simpa using p
  refine turn k g _ (.box g ty (aM cs off (a.eval z).cells.toList)) cs.toArray ty off s rfl rfl q ay (by simp;omega) h1 (by rw[ey];simp only[val,x,conc,s]) ?_ (fun g' ty' cs' e=>by injection e with e1 e2 e3;subst e1 e2;exact⟨_,rfl⟩) l;show _=_;rw[gH bi];exact setRow_heap w g cs.toArray _ ty _ q
 ·rename_i p h1 x;exact r _ _ (qo hy he x) (by rw[ey];simp only[val,x]) p h1 l
 ·rename_i p h1 x;rename_i ad;refine r (some ad) 0 (by simp) (by rw[ey];simp only[val,x,conc];simp[Addr.add]) p h1 l
 ·exact l.elim
end
def Ch (k:IntKind) (n:Nat):List Value:=List.replicate n (.int k 0)
theorem lT {k:IntKind}{n:Nat}:(Ch k n).length=n:=by simp[Ch]
theorem Jf {k:IntKind}{n:Nat}:∀u∈Ch k n,u.oneCell'=true:=by
 intro u a;obtain rfl:=List.eq_of_mem_replicate a;rfl
theorem nX {k:IntKind}{n:Nat}:Builtin.zeroCells (Value.int k 0).cells n=(Ch k n).toArray:=by
 apply Array.ext';have h:(Value.int k 0).cells=#[.int k 0]:=rfl;rw[h];simp only[Builtin.zeroCells,Ch,List.size_toArray,Xv,XJ,Nat.zero_add,Nat.mul_one,Nat.mod_one];apply List.ext_getElem
 ·simp
 ·intro i a b;simp
section
variable {P:Program}(w:World)
theorem oS (t u ty e:TypeId) (i:TypeInfo) (k h kn:IntKind) (v:P.underlying t=some (.slice e)) (j:P.underlying u=some (.int kn)) (hi:P.info? e=some i) (hz:i.zero=some (.int h 0)) (m:i.size=1)
  (g a c:Nat) (b:Array Value) (x:w.heap[g]?=some (.cells b e (0,0))) (n:Nat) (ac:(n:Int)<=9223372036854775807) (ad:n*i.bytes<=281474976710656)
  (f:a+n<=c) (l:a+n<=b.size) :
  (Builtin.append_ #[t,u] ty #[.slice (some ⟨g,0,none⟩) a c,.int k n]).run P w =
   .ok (.slice (some ⟨g,0,none⟩) (a+n) c) (w.setRow g (b.toList.take a++Ch h n++b.toList.drop (a+n)).toArray):=by
 have hw:IntKind.i64.wrap (n:Int)=n:=by rw[IntKind.wrap_i64];omega
 have p:¬((n:Int)<0):=by omega
 have o:¬(281474976710656<(n:Int)*(i.bytes:Int)):=by
  rw[<-Int.natCast_mul];omega
 have d:=run_storeCells_at P g a e (Ch h n) 0 b w x (by simpa[lT] using l) (Jf);simp only[Nat.add_zero,lT] at d
 by_cases s:n=0
 ·subst s;have z:Ch h 0=[]:=rfl;have q:IntKind.i64.wrap 0=0:=by decide
  have r:a<=c:=by omega
  rw[z] at d ⊢;simp[Builtin.append_,run_underlying v,run_underlying j,sizeOf,typeInfo,hi,m,asInt,asIntOf,q,r,Addr.add_lit];have h2:w.setRow g b=w.setRow g (b.toList.take a++[]++b.toList.drop a).toArray:=by simp
  simp at d;rw[d];rfl
 ·have y:(Ch h n)=(Builtin.zeroCells (Value.int h 0).cells n).toList:=by rw[nX]
  rw[y] at d ⊢;simp[Builtin.append_,run_underlying v,run_underlying j,sizeOf,typeInfo,hi,m,asInt,asIntOf,hw,p,o,s,f,Addr.add_lit,zeroValue,hz,d]
theorem run_append_grow_zeros (t y ty e:TypeId) (i:TypeInfo) (k p kn:IntKind) (ht:P.underlying t=some (.slice e)) (r:P.underlying y=some (.int kn)) (hi:P.info? e=some i) (hz:i.zero=some (.int p 0)) (h:i.size=1)
  (b:Addr) (a c:Nat) (d:List Value) (s:d.length=a*i.size) (holds:∀j v,d[j]?=some v->w.cell? (b.add j)=some v) (n:Nat) (ab:a<=c)
  (hg:c<a+n) (ae:((a+n:Nat):Int)<=9223372036854775807) (al:n*i.bytes<=281474976710656) (x:Builtin.nextslicecap (a+n) c*i.bytes<=281474976710656) :
  (Builtin.append_ #[t,y] ty #[.slice (some b) a c,.int k n]).run P w =
   .ok (.slice (some ⟨w.heap.size,0,none⟩) (a+n) (grownCap w (a+n) c e))
    (w.drew.alloc (.cells (d.toArray++(Ch p n).toArray++Builtin.zeroCells (Value.int p 0).cells (grownCap w (a+n) c e-(a+n))) e)):=by
 have hw:IntKind.i64.wrap (n:Int)=n:=by rw[IntKind.wrap_i64];omega
 have q:¬((n:Int)<0):=by omega
 have o:¬(281474976710656<(n:Int)*(i.bytes:Int)):=by
  rw[<-Int.natCast_mul];omega
 have hn:¬(a+n<=c):=by omega
 have u:n≠0:=by omega
 have m:¬(9223372036854775807<((a:Int)+(n:Int))):=by omega
 have f:¬(281474976710656<Builtin.nextslicecap (a+n) c*i.bytes):=by omega
 have l:=run_firstCells_some (P:=P) w.drew i.size a b a c d s (by simpa using holds);have z:(Ch p n).toArray=(Builtin.zeroCells (Value.int p 0).cells n):=by rw[nX]
 rw[z];rw[h] at l;simp[Builtin.append_,run_underlying ht,run_underlying r,sizeOf,typeInfo,zeroValue,hi,hz,h,asInt,asIntOf,hw,q,o,u,hn,m,f,Question.forced,l,newRow,grownCap]
theorem pB (b:Nat) (t tn ty e:TypeId) (i:TypeInfo) (k h kn:IntKind) (ht:P.underlying t=some (.slice e)) (r:P.underlying tn=some (.int kn)) (hi:P.info? e=some i) (hz:i.zero=some (.int h 0)) (x:i.size=1)
  (v:Value) (n:Nat) (xs:List Value) (o:w.ownsRow b e 1 v n xs) (m:Nat)
  (ad:n+m<=maxLen) (c:(n+m)*i.bytes<=140737488355328) (z:b<=w.heap.size) :
  ∃v' w',(Builtin.append_ #[t,tn] ty #[v,.int k m]).run P w=.ok v' w'/\w'.ownsRow b e 1 v' (n+m) (xs++Ch h m)/\w.grownBy w' v.ownBlock /\
   (v'.ownBlock=v.ownBlock\/v'.ownBlock=some w.heap.size):=by
 have am:n+m<=9223372036854775807:=by simp only[maxLen] at ad;omega
 have s:xs.length=n:=by simpa using o.1
 have bd:m*i.bytes<=140737488355328:=X0 (Nat.mul_le_mul_right _ (by omega)) c;have d:(xs++Ch h m).length=(n+m)*1:=by rw[Xg,s,lT,Nat.mul_one]
 have p:∀(a:Nat),a<n+m->∀(row:Option Nat),
   (w.drew.alloc (.cells (xs.toArray++(Ch h m).toArray++Builtin.zeroCells (Value.int h 0).cells (grownCap w (n+m) a e-(n+m))) e)).ownsRow b e 1
    (.slice (some ⟨w.heap.size,0,none⟩) (n+m) (grownCap w (n+m) a e)) (n+m) (xs++Ch h m) /\
   w.grownBy (w.drew.alloc (.cells (xs.toArray++(Ch h m).toArray++Builtin.zeroCells (Value.int h 0).cells (grownCap w (n+m) a e-(n+m))) e)) row:=by
  intro a ho row;have ay:=grownCap_ge w (n+m) a e;have y:grownCap w (n+m) a e<=maxLen:=grownCap_le_maxLen w (n+m) a e ad;refine⟨⟨d,.inr ⟨w.heap.size,_,_,rfl,z,heap_alloc_new w.drew _,ay,y,?_,?_⟩⟩,⟨rfl,rfl,rfl,by simp,fun k hk _=>by first | exact heap_alloc_old w.drew _ k hk | exact heap_alloc_old w.drew _ hk⟩⟩
  ·have av:(Value.int h 0).cells.size=1:=rfl;simp only[Array.size_append,List.size_toArray,size_zeroCells,av,s,lT];omega
  ·simp only[Array.toList_append,Xk];rw[<-Xk,<-d];exact List.take_left
 rcases o.2 with⟨rfl,rfl⟩ | ⟨g,cap,q,rfl,ap,hg,ar,y,aw,aa⟩
 ·have hx:xs=[]:=XD s;subst hx
  by_cases hm:m=0
  ·subst hm;refine⟨.slice none 0 0,w,?_,World.ownsRow_nil w b e 1,⟨rfl,rfl,rfl,Xy _,fun _ _ _=>rfl⟩,.inl rfl⟩;have hw:IntKind.i64.wrap 0=0:=by decide
   simp[Builtin.append_,run_underlying ht,run_underlying r,sizeOf,typeInfo,hi,x,asInt,asIntOf,hw]
  ·have hr:=Lib.run_append_nil_zeros (P:=P) w t tn ty e i (.int h 0) k kn ht r hi hz m (by omega) (by omega) (by omega) (by omega);have f:=p 0 (by omega) (Value.ownBlock (.slice none 0 0));simp only[Nat.zero_add,XO,Array.empty_append] at f ⊢;rw[nX (n:=m)] at hr;exact⟨_,_,hr,f.1,f.2,.inr rfl⟩
 ·by_cases l:n+m<=cap
  ·have aE:q.size=cap:=by simpa using aw
   have hr:=oS (P:=P) w t tn ty e i k h kn ht r hi hz x g n cap q hg m (by omega) (by omega) l (by omega);refine⟨_,_,hr,⟨d,.inr ⟨g,cap,_,rfl,ap,setRow_heap w g q _ e _ hg,l,y,?_,?_⟩⟩,⟨rfl,rfl,rfl,by simp,fun k _ hk=>setRow_other w g k _ (fun e=>hk (by simp[Value.ownBlock,e]))⟩,.inl rfl⟩
   ·simp only[List.size_toArray,Xg,Xx,XV,Array.length_toList,lT];omega
   ·have ao:q.toList.take n=xs:=by simpa using aa
    rw[ao,<-d];exact List.take_left
  ·have holds:∀j u,xs[j]?=some u->w.cell? ((⟨g,0,none⟩:Addr).add j)=some u:=o.cells (g:=g) rfl;have hr:=run_append_grow_zeros (P:=P) w t tn ty e i k h kn ht r hi hz x ⟨g,0,none⟩ n cap xs (by rw[x];simpa using s) holds m ar (by omega) (by omega) (by omega) (growslice_fits (by omega) c);have f:=p cap (by omega) (Value.ownBlock (.slice (some ⟨g,0,none⟩) n cap));exact⟨_,_,hr,f.1,f.2,.inr rfl⟩
end
section
variable {P:Program}{F:aA}{L:Loc}{ρ:Env}{a:Act}{w:World}{K:cF}{o:Oper}{Q:Exit->Act->World->Prop}
theorem yg {b:Option Operand}{c:Option X}(h:pu b=some c) (e:aC L ρ a) {d i:Int}(hi:iY ρ d c=some i) :
  (b=none/\i=d)\/∃y k,b=some y/\a.eval y=.int k i:=by
 cases b with
 | none=>simp only[pu,xo] at h;subst h;simp only[iY,xo] at hi;exact .inl ⟨rfl,hi.symm⟩
 | some y =>
  simp only[pu] at h;split at h
  case h_2=>cases h
  rename_i x f;injection h with h
  subst h;simp only[iY] at hi;split at hi
  case h_2=>cases hi
  rename_i k j l;injection hi with hi
  subst hi;exact .inr ⟨y,k,rfl,by rw[aF f e,bB l]⟩
theorem jg {k:IntKind}{i:Int}{y:Nat}{code:BoundsCode}(c:0<=i) (b:i<=y):(Instr.sliceBound (.int k i) y code).run P w=.ok i.toNat w:=by
 simp[Instr.sliceBound,asIntOf,c,b]
theorem oL {b:Bool}{n c:Nat}{lo hi:Option Operand}{d e:Option X}{l h:Int}(r:pu lo=some d) (s:pu hi=some e) (m:aC L ρ a)
  (el:iY ρ 0 d=some l) (u:iY ρ n e=some h) (f:0<=l) (t:l<=h) (q:h<=c) :
  (Instr.sliceBounds b n c (lo.map a.eval) (hi.map a.eval) none).run P w=.ok (l.toNat,h.toNat,c) w:=by
 unfold Instr.sliceBounds;rcases yg r m el with⟨rfl,rfl⟩ | ⟨y,k,rfl,j⟩<;>rcases yg s m u with⟨rfl,rfl⟩ | ⟨z,x,rfl,p⟩
 ·simp
 ·simp[p,jg (P:=P) (w:=w) (show 0<=h by omega) q]
 ·simp[j,jg (P:=P) (w:=w) f t]
 ·have v:l<=(h.toNat:Nat):=by omega
  simp[j,p,jg (P:=P) (w:=w) (show 0<=h by omega) q,jg (P:=P) (w:=w) f v]
theorem MP {t e:TypeId}{y:Operand}{lo up:Option Operand}{r:X}{f j:Option X}{i:TypeInfo}(hs:St F L w) (m:aC L ρ a) (u:∀k,o.dst=some k->k<a.tmps.size)
  (ho:o.op=.slice t y lo up none) (ht:P.underlying t=some (.slice e)) (hi:P.info? e=some i) (hy:bh y=some r) (z:pu lo=some f) (hh:pu up=some j)
  (d:evalOp P (.slc i.size r f j) o.dst F L ρ K):o.wp P a w (aZ F L w a K) Q:=by
 have ey:=aF hy m;simp only[evalOp,aI] at d;split at d
 case h_2=>exact d.elim
 rename_i q n c p;split at d
 case h_2=>exact d.elim
 rename_i l h el eh;obtain⟨s,h2,h3,d⟩:=d;refine bF hs m u (v:=fC q c l.toNat h.toNat i.size) (x:=.v (fC q c l.toNat h.toNat i.size)) ?_ rfl bK dh d;have hb:=oL (P:=P) (w:=w) (b:=true) z hh m el eh s h2 h3;simp[execOp,ho,ey,bB p,Instr.sliceAt,Instr.slice,run_underlying ht,hb,sizeOf,typeInfo,hi,fC]
theorem Jg {t:TypeId}{y:Operand}{lo up:Option Operand}{m:X}{d e:Option X}(hs:St F L w) (f:aC L ρ a) (p:∀k,o.dst=some k->k<a.tmps.size)
  (ho:o.op=.slice t y lo up none) (ht:P.underlying t=some .string) (hy:bh y=some m) (q:pu lo=some d) (u:pu up=some e)
  (c:evalOp P (.slcS m d e) o.dst F L ρ K):o.wp P a w (aZ F L w a K) Q:=by
 have r:=aF hy f;simp only[evalOp,aI] at c;split at c
 case h_2=>exact c.elim
 rename_i s j;split at c
 case h_2=>exact c.elim
 rename_i l h el eh;obtain⟨n,z,h3,c⟩:=c;refine bF hs f p (v:=.string (s.extract l.toNat h.toNat)) (x:=.v (.string (s.extract l.toNat h.toNat))) ?_ rfl bK dh c;have hb:=oL (P:=P) (w:=w) (b:=false) q u f el eh n z h3;simp[execOp,ho,r,bB j,Instr.sliceAt,Instr.slice,run_underlying ht,hb]
theorem vD (z:Array Value) (n:Nat) (q:0<z.size):(madeCells z (n*z.size)).toList=(List.replicate n z.toList).flatten:=by
 induction n with
 | zero=>simp[madeCells]
 | succ n k =>
  rw[List.replicate_succ',List.flatten_append,<-k];apply XP;intro j;have e:(madeCells z (n*z.size)).toList.length=n*z.size:=by simp[madeCells]
  have b:∀m j,j<m->(madeCells z m).toList[j]?=some (z[j % z.size]!):=by
   intro m j l;simp[madeCells,l]
  have p:(n+1)*z.size=n*z.size+z.size:=Nat.succ_mul _ _
  by_cases d:j<n*z.size
  ·rw[Xl (by omega),b _ _ (by omega),b _ _ d]
  ·rw[Xr (by omega),e]
   by_cases f:j<(n+1)*z.size
   ·rw[b _ _ f];have c:j-n*z.size<z.size:=by omega
    have h:j % z.size=j-n*z.size:=by
     have:j=(j-n*z.size)+z.size*n:=by rw[Nat.mul_comm z.size n];omega
     rw[this,Nat.add_mul_mod_self_left,Nat.mod_eq_of_lt c,Nat.mul_comm z.size n];omega
    simp[c,h]
   ·rw[Xn (by simp[madeCells];omega),Xn (by simp;omega)]
theorem Gh {t e:TypeId}{y z:Operand}{y' z':X}{i:TypeInfo}{b:Value}(hs:St F L w) (he:aC L ρ a) (hd:∀k,o.dst=some k->k<a.tmps.size)
  (ho:o.op=.makeSlice t y z) (ht:P.underlying t=some (.slice e)) (hi:P.info? e=some i) (al:i.zero=some b) (p:b.cells.size=i.size) (ar:0<i.size) (hy:bh y=some y') (hz:bh z=some z')
  (c:evalOp P (.makeS e i.size i.bytes b.cells.toList y' z') o.dst F L ρ K):o.wp P a w (aZ F L w a K) Q:=by
 have ey:=aF hy he;have ez:=aF hz he;simp only[evalOp,aI] at c;split at c
 case h_2=>exact c.elim
 rename_i k1 n k2 m k ab ad ao;split at c
 case h_2=>exact c.elim
 rename_i _ hk;obtain⟨h0,s,hb,l,c⟩:=c;have c:=c w.heap.size;obtain⟨r,rfl⟩:=Int.eq_ofNat_of_zero_le h0;obtain⟨q,rfl⟩:=Int.eq_ofNat_of_zero_le (Int.le_trans h0 s);simp only[Int.toNat_natCast] at hb l c;have ae:r<=q:=by omega
 have j:(i.bytes:Int)*(q:Int)<=281474976710656:=by
  have h:((i.bytes*q:Nat):Int)<=281474976710656:=by rw[Nat.mul_comm];omega
  rwa [Int.natCast_mul] at h
 have ag:(q:Int)<=9223372036854775807:=by
  have h:=l;simp[maxLen] at h;omega
 have hr:=run_make (P:=P) w t e i b ht hi al k1 k2 r q (by omega) s j ag;simp only[Int.toNat_natCast] at hr;have d:=vD b.cells q (by omega);rw[p] at d;have f:∀m:Nat,(List.replicate m b.cells.toList).flatten.length=m*i.size:=by
  intro m;simp[p]
 have ac:(List.replicate r b.cells.toList).flatten=(List.replicate q b.cells.toList).flatten.take (r*i.size):=by
  have e1:q=r+(q-r):=by omega
  conv=>rhs;rw[e1]
  rw[<-List.replicate_append_replicate,List.flatten_append,List.take_append_of_le_length (by rw[f];exact Xy _),XS (by rw[f];exact Xy _)]
 have u:(w.alloc (.cells (madeCells b.cells (q*i.size)) e)).ownsRow 0 e i.size (.slice (some ⟨w.heap.size,0,none⟩) r q) r (List.replicate r b.cells.toList).flatten:=by
  refine⟨f r,.inr ⟨w.heap.size,q,madeCells b.cells (q*i.size),rfl,XG _,fV w _,ae,l,size_madeCells _ _,?_⟩⟩;rw[ac,<-d]
 obtain⟨h1,h2,h3⟩:=jN hs hk (cs:=madeCells b.cells (q*i.size)) (t:=e) (e:=.row (.slice (some ⟨w.heap.size,0,none⟩) r q) e i.size r (List.replicate r b.cells.toList).flatten) rfl u;refine fF he hd (v:=.slice (some ⟨w.heap.size,0,none⟩) r q) (x:=.v (.slice (some ⟨w.heap.size,0,none⟩) r q)) ?_ h1 h2 rfl bK dh h3 c;simp only[execOp,ho,ey,ez,bB ab,bB ad,Sem.run_bind,hr,Result.andThen_ok,Sem.run_pure]
theorem vE (u:St F L w) {k:Nat}{e:TypeId}{sz n n':Nat}{s v:Value}{xs f:List Value}{w':World}
  (m:L.get k=some (.row s e sz n xs)\/(L.get k=none/\s=.slice none 0 0)) (p:w'.ownsRow 0 e sz v n' f) (d:w.grownBy w' s.ownBlock)
  (r:v.ownBlock=s.ownBlock\/v.ownBlock=some w.heap.size) :
  St F (L.set k (.row v e sz n' f)) w'/\Step F L w F (L.set k (.row v e sz n' f)) w'/\(∀j g ty cs,L.get j=some (.box g ty cs)->∃cs',(L.set k (.row v e sz n' f)).get j=some (.box g ty cs')):=by
 have l:∀j g ty cs,L.get j=some (.box g ty cs)->∃cs',(L.set k (.row v e sz n' f)).get j=some (.box g ty cs'):=by
  intro j g ty cs z;rw[Loc.Wt];split
  ·rename_i hj;subst hj;rcases m with h | ⟨h,_⟩<;>rw[h] at z<;>cases z
  ·exact⟨cs,z⟩
 rcases m with t | ⟨t,rfl⟩
 ·refine⟨u.turn t p (fun b hb x=>d.block b hb (fun e=>x (by simpa[Own.blk] using e.symm))) (fun g c=>?_),⟨aA.le_refl F,d.os,d.tape,d.output,d.size,fun b hb hn=>d.block b hb (fun e=>hn ⟨k,_,t,e.symm⟩),fun b h=>.inl h,fun b h=>?_⟩,l⟩
  ·rcases r with h | h
   ·exact .inl (by simp only[Own.blk] at c ⊢;rw[<-h];exact c)
   ·simp only[Own.blk] at c;rw[h] at c;injection c with c;exact .inr (by omega)
  ·rcases Loc.WD h with h | h
   ·simp only[Own.blk] at h;rcases r with q | q
    ·exact .inl ⟨k,_,t,by simp only[Own.blk];rw[<-q];exact h⟩
    ·rw[q] at h;injection h with h;exact .inr (by omega)
   ·exact .inl h
 ·have y:∀g,v.ownBlock=some g->w.heap.size<=g:=by
   intro g h;rcases r with q | q
   ·rw[q] at h;cases h
   ·rw[q] at h;injection h with h;omega
  have aa:St F L w':=u.keep fun b hb=>d.block b hb (by simp[Value.ownBlock]);refine⟨aa.put t p fun g c=>⟨?_,fun ho=>?_⟩,⟨aA.le_refl F,d.os,d.tape,d.output,d.size,fun b hb hn=>d.block b hb (by simp[Value.ownBlock]),fun b h=>.inl h,fun b h=>?_⟩,l⟩
  ·cases hF:F g with
   | none=>rfl
   | some _=>have h1:=u.WQ (b:=g) (by rw[hF];simp);have h2:=y g c;omega
  ·have h1:=u.WV ho;have h2:=y g c;omega
  ·rcases Loc.WD h with h | h
   ·exact .inr (y b h)
   ·exact .inl h
theorem rV {e:TypeId}{sz n:Nat}{v:Value}{xs:List Value}(h:w.ownsRow 0 e sz v n xs):∃a c,v=.slice a n c/\(a=none->n=0):=by
 rcases h.2 with⟨rfl,rfl⟩ | ⟨g,cap,b,rfl,_⟩
 ·exact⟨none,0,rfl,fun _=>rfl⟩
 ·exact⟨_,cap,rfl,fun e=>(by cases e)⟩
theorem qZ {t ty e:TypeId}{i:TypeInfo}(j:P.underlying t=some (.slice e)) (hi:P.info? e=some i) {s:Value}{n:Nat}{xs:List Value}(b:w.ownsRow 0 e i.size s n xs) (f:Option Addr) (c:Nat) :
  ∃w',(Builtin.append_ #[t,t] ty #[s,.slice f 0 c]).run P w=.ok s w'/\w'=w:=by
 refine⟨w,?_,rfl⟩;have h:(Builtin.firstCells i.size 0 (.slice f 0 c)).run P w=.ok #[] w:=by
  cases f<;>simp[Builtin.firstCells,loadCells,loadCellsFrom]
 rcases b.2 with⟨rfl,rfl⟩ | ⟨g,cap,k,rfl,_,_,d,_⟩
 ·simp[Builtin.append_,run_underlying j,sizeOf,typeInfo,hi,Builtin.lenOf,h]
 ·simp[Builtin.append_,run_underlying j,sizeOf,typeInfo,hi,Builtin.lenOf,h,d,storeCells]
theorem MQ {t e:TypeId}{y z:Operand}{y' z':X}{i:TypeInfo}{zv:Value}{c:Call}(hs:St F L w) (he:aC L ρ a) (hd:∀k,o.dst=some k->k<a.tmps.size)
  (ho:o.op=.call c) (hc:c.callee=.builtin .append) (ha:c.args=#[y,z]) (bt:c.argTypes=#[t,t]) (ht:P.underlying t=some (.slice e)) (hi:P.info? e=some i) (bo:i.zero=some zv) (bp:zv.cells.size=i.size) (ax:0<i.size)
  (hy:bh y=some y') (hz:bh z=some z') (hK:evalOp P (.app e i.size i.bytes zv.cells.toList y' z') o.dst F L ρ K):o.wp P a w (aZ F L w a K) Q:=by
 have ey:=aF hy he;have ez:=aF hz he;simp only[evalOp,aI] at hK;split at hK
 case h_2=>exact hK.elim
 rename_i s x bk bl;obtain⟨kd,n,xs,m,news,bc,⟨ad,cx,rfl,ab,ay⟩,h1,bv,bz,hK⟩:=hK;have ar:m≠0->∃d,ad=some d/\∀j u,news[j]?=some u->w.cell? (d.add j)=some u:=by
  intro hm;rcases ay with p | ⟨ap,_⟩ | ⟨k,v,ty,cw,m',ys,d,c',hk,rfl,rfl,p⟩
  ·obtain⟨d,r,bi,ag⟩:=p.cell hs;refine⟨d,r,fun j u hu=>?_⟩;have:=ag j u hu
   rwa [Nat.zero_add] at this
  ·exact v7 ap hm
  ·refine⟨d,rfl,fun j u hu=>?_⟩;have q:=hs.own k _ hk;simp only[Own.ok] at q;have h0:=World.ownsRow.cells q (g:=d.block) rfl j u (p j u hu);rcases q.2 with⟨r,_⟩ | ⟨g,cap,an,r,_⟩
   ·cases r
   ·injection r with e1 e2 e3
    injection e1 with e1
    subst e1;exact h0
 have bb:(L.get kd=some (.row s e i.size n xs)\/(L.get kd=none/\n=0/\xs=[]/\s=.slice none 0 0))\/(L.get kd=none/\∃ad,s=.slice (some ad) n n/\0<m/\xs.length=n*i.size/\(bM F (some ad) 0 xs\/(n=0/\xs=[]))):=by
  rcases bc with h | h | h
  ·exact .inl (.inl h)
  ·exact .inl (.inr h)
  ·exact .inr h
 rcases bb with aw | ⟨bm,bx,rfl,ap,cl,cX⟩
 case inr =>
  obtain⟨d,rfl,l⟩:=ar (by omega);have da:∀j u,xs[j]?=some u->w.cell? (bx.add j)=some u:=by
   intro j u hu;rcases cX with p | ⟨_,rfl⟩
   ·obtain⟨dv,r,bi,ag⟩:=p.cell hs;injection r with r
    subst r;have:=ag j u hu
    rwa [Nat.zero_add] at this
   ·simp at hu
  obtain⟨v,w',q,f,hg⟩:=run_append_arg_grows (P:=P) w t o.type e i zv i.size i.bytes ht hi bo rfl rfl bp ax bx n n xs cl da d m cx news ab l (by omega) bv bz;have aa:w'.ownsRow 0 e i.size v (n+m) (xs++news):=by
   refine⟨f.1,?_⟩;rcases f.2 with h | ⟨g,cap,an,e1,e2,e3⟩
   ·exact .inl h
   ·exact .inr ⟨g,cap,an,e1,XG _,e3⟩
  have ba:v.ownBlock=none\/(∃g,v.ownBlock=some g/\w.heap.size<=g):=by
   rcases f.2 with⟨h,_⟩ | ⟨g,cap,an,e1,e2,e3⟩
   ·rw[h];exact .inl rfl
   ·rw[e1];exact .inr ⟨g,rfl,e2⟩
  have hv:∀g,v.ownBlock=some g->w.heap.size<=g:=by
   intro g h;rcases ba with h' | ⟨g',h',h2⟩
   ·rw[h'] at h;cases h
   ·rw[h'] at h;injection h with h;omega
  have cM:St F L w':=hs.keep fun b hb=>hg.block b hb (by simp);have cY:St F (L.set kd (.row v e i.size (n+m) (xs++news))) w':=cM.put bm aa fun g bs=>⟨by
   cases hF:F g with
   | none=>rfl
   | some _=>have h1:=hs.WQ (b:=g) (by rw[hF];simp);have h2:=hv g bs;omega,fun ho=>by have h1:=hs.WV ho;have h2:=hv g bs;omega⟩
  have aE:Step F L w F (L.set kd (.row v e i.size (n+m) (xs++news))) w':=⟨aA.le_refl F,hg.os,hg.tape,hg.output,hg.size,fun b hb hn=>hg.block b hb (by simp),fun b h=>.inl h,fun b h=>by
   rcases Loc.WD h with h | h
   ·exact .inr (hv b h)
   ·exact .inl h⟩
  have bj:∀j g ty cs,L.get j=some (.box g ty cs)->∃cs',(L.set kd (.row v e i.size (n+m) (xs++news))).get j=some (.box g ty cs'):=by
   intro j g ty cs ej;rw[Loc.Wt,vv (by rintro rfl;rw[bm] at ej;cases ej)];exact⟨cs,ej⟩
  refine fF he hd (v:=v) (x:=.v v) ?_ cY aE rfl bK dh bj (hK v (rV aa));simp[execOp,ho,resolve,hc,ha,bt,invoke,builtin,ey,ez,bB bk,bB bl,q]
 have ae:w.ownsRow 0 e i.size s n xs:=by
  rcases aw with h | ⟨_,rfl,rfl,rfl⟩
  ·exact hs.own kd _ h
  ·exact World.ownsRow_nil w 0 e i.size
 have bd:L.get kd=some (.row s e i.size n xs)\/(L.get kd=none/\s=.slice none 0 0):=by
  rcases aw with h | ⟨h,_,_,h'⟩
  ·exact .inl h
  ·exact .inr ⟨h,h'⟩
 have fin:∀(v:Value) (w':World),(Builtin.append_ #[t,t] o.type #[s,.slice ad m cx]).run P w=.ok v w'->w'.ownsRow 0 e i.size v (n+m) (xs++news)->w.grownBy w' s.ownBlock->(v.ownBlock=s.ownBlock\/v.ownBlock=some w.heap.size)->o.wp P a w (aZ F L w a K) Q:=by
  intro v w' q f hg ba;obtain⟨g1,g2,g3⟩:=vE hs bd f hg ba;refine fF he hd (v:=v) (x:=.v v) ?_ g1 g2 rfl bK dh g3 (hK v (rV f));simp[execOp,ho,resolve,hc,ha,bt,invoke,builtin,ey,ez,bB bk,bB bl,q]
 by_cases hm:m=0
 ·subst hm;have hn:news=[]:=XD (by simpa using ab);subst hn;obtain⟨w',q,rfl⟩:=qZ (P:=P) (ty:=o.type) ht hi ae ad cx;exact fin s w' q (by simpa using ae) (World.grownBy.refl _ _) (.inl rfl)
 ·have l:∃d,ad=some d/\∀j u,news[j]?=some u->w.cell? (d.add j)=some u:=by
   rcases ay with p | ⟨ap,_⟩ | ⟨k,v,ty,cw,m',ys,d,c',hk,rfl,rfl,p⟩
   ·obtain⟨d,r,bi,ag⟩:=p.cell hs;refine⟨d,r,fun j u hu=>?_⟩;have:=ag j u hu
    rwa [Nat.zero_add] at this
   ·exact v7 ap hm
   ·refine⟨d,rfl,fun j u hu=>?_⟩;have q:=hs.own k _ hk;simp only[Own.ok] at q;have h0:=World.ownsRow.cells q (g:=d.block) rfl j u (p j u hu);rcases q.2 with⟨r,_⟩ | ⟨g,cap,an,r,_⟩
    ·cases r
    ·injection r with e1 e2 e3
     injection e1 with e1
     subst e1;exact h0
  obtain⟨d,rfl,l⟩:=l;obtain⟨v,w',q,h2,h3,_,h5⟩:=run_append_own_at (P:=P) w 0 t o.type e i zv i.size i.bytes ht hi bo rfl rfl bp ax s n xs ae d m cx news ab l h1 bv bz (XG _);exact fin v w' q h2 h3 h5
theorem Jh {t t' e:TypeId}{y z:Operand}{y' z':X}{i:TypeInfo}{c:Call}(hs:St F L w) (he:aC L ρ a) (hd:∀k,o.dst=some k->k<a.tmps.size)
  (ho:o.op=.call c) (hc:c.callee=.builtin .append) (ha:c.args=#[y,z]) (ax:c.argTypes=#[t,t']) (ht:P.underlying t=some (.slice e)) (l:P.underlying t'=some .string) (hi:P.info? e=some i) (ab:i.zero=some (.int .u8 0)) (r:i.size=1) (p:i.bytes=1)
  (hy:bh y=some y') (hz:bh z=some z') (hK:evalOp P (.appS e y' z') o.dst F L ρ K):o.wp P a w (aZ F L w a K) Q:=by
 have ey:=aF hy he;have ez:=aF hz he;simp only[evalOp,aI] at hK;split at hK
 case h_2=>exact hK.elim
 rename_i s x ap av;obtain⟨kd,n,xs,m,aa,ay,hK⟩:=hK;have b:w.ownsRow 0 e 1 s n xs:=by
  rcases m with h | ⟨_,rfl,rfl,rfl⟩
  ·exact hs.own kd _ h
  ·exact World.ownsRow_nil w 0 e 1
 have ac:L.get kd=some (.row s e 1 n xs)\/(L.get kd=none/\s=.slice none 0 0):=by
  rcases m with h | ⟨h,_,_,h'⟩
  ·exact .inl h
  ·exact .inr ⟨h,h'⟩
 obtain⟨v,w',d,h2,h3,h4⟩:=Lib.run_append_own_string (P:=P) w 0 t t' o.type e i ht l hi ab r p s n xs b x aa ay (XG _);have az:v.ownBlock=s.ownBlock\/v.ownBlock=some w.heap.size:=by
  rcases b.2 with⟨rfl,rfl⟩ | ⟨g,cap,al,rfl,_,hg,bu,bk,aw,aE⟩
  ·have ar:xs=[]:=XD (by simpa using b.1);subst ar
   by_cases hm:x.size=0
   ·exact .inl (by rw[(h4.2 ⟨rfl,hm⟩)])
   ·have ad:=aa;simp only[maxLen] at ad;have f:=run_append_nil_string (P:=P) w t t' o.type e i (.int .u8 0) ht l hi ab x (by omega) (by omega) (by rw[p];omega);rw[f] at d;injection d with d _
    subst d;exact .inr rfl
  ·by_cases q:n+x.size<=cap
   ·have bb:al.size=cap:=by simpa using aw
    have f:=Lib.run_append_room_string (P:=P) w t t' o.type e i ht l hi r g n cap al hg x q (by omega);rw[f] at d;injection d with d _
    subst d;exact .inl rfl
   ·have holds:∀j u,xs[j]?=some u->w.cell? ((⟨g,0,none⟩:Addr).add j)=some u:=b.cells (g:=g) rfl;have ad:=aa;simp only[maxLen] at ad;have f:=Lib.run_append_grow_string (P:=P) w t t' o.type e i (.int .u8 0) ht l hi ab ⟨g,0,none⟩ n cap xs (by rw[r];simpa using b.1) holds x (by omega) (by omega) (by rw[p];exact growslice_fits (by omega) (by omega));rw[f] at d;injection d with d _
    subst d;exact .inr rfl
 obtain⟨g1,g2,g3⟩:=vE hs ac h2 h3 az;refine fF he hd (v:=v) (x:=.v v) ?_ g1 g2 rfl bK dh g3 (hK v (rV h2));simp[execOp,ho,resolve,hc,ha,ax,invoke,builtin,ey,ez,bB ap,bB av,d]
theorem Ji {t p e:TypeId}{kn kz:IntKind}{y z:Operand}{y' z':X}{i:TypeInfo}{c:Call}(hs:St F L w) (u:aC L ρ a) (hd:∀k,o.dst=some k->k<a.tmps.size)
  (ho:o.op=.call c) (hc:c.callee=.builtin .append) (ha:c.args=#[y,z]) (ad:c.argTypes=#[t,p]) (ht:P.underlying t=some (.slice e)) (q:P.underlying p=some (.int kn)) (hi:P.info? e=some i) (al:i.zero=some (.int kz 0)) (ab:i.size=1)
  (hy:bh y=some y') (hz:bh z=some z') (b:evalOp P (.appZ e i.bytes kz y' z') o.dst F L ρ K):o.wp P a w (aZ F L w a K) Q:=by
 have ey:=aF hy u;have ez:=aF hz u;simp only[evalOp,aI] at b;split at b
 case h_2=>exact b.elim
 rename_i s kx x aa ac;split at b
 case h_2=>exact b.elim
 rename_i m;obtain⟨r,n,xs,d,ag,ae,b⟩:=b;have l:w.ownsRow 0 e 1 s n xs:=by
  rcases d with h | ⟨_,rfl,rfl,rfl⟩
  ·exact hs.own r _ h
  ·exact World.ownsRow_nil w 0 e 1
 have f:L.get r=some (.row s e 1 n xs)\/(L.get r=none/\s=.slice none 0 0):=by
  rcases d with h | ⟨h,_,_,h'⟩
  ·exact .inl h
  ·exact .inr ⟨h,h'⟩
 obtain⟨v,w',hr,h2,h3,am⟩:=pB (P:=P) w 0 t p o.type e i kx kz kn ht q hi al ab s n xs l m ag ae (XG _);obtain⟨g1,g2,g3⟩:=vE hs f h2 h3 am;have j:(Builtin.append_ #[t,p] o.type #[s,.int kx (Int.ofNat m)]).run P w=.ok v w':=hr;refine fF u hd (v:=v) (x:=.v v) ?_ g1 g2 rfl bK dh g3 (b v (rV h2));simp at j;simp[execOp,ho,resolve,hc,ha,ad,invoke,builtin,ey,ez,bB aa,bB ac,j]
end
section
variable {P:Program}{F:aA}{L:Loc}{ρ:Env}{a:Act}{w:World}{K:cF}{o:Oper}{Q:Exit->Act->World->Prop}
theorem tW:∀(l:List Own) (k j:Nat),Loc.get (j4 k l) j=if k<=j then l[j-k]? else none
 | [],k,j=>by simp[j4,Loc.get]
 | o::l,k,j=>by
  simp only[j4,Loc.get];cases h:Nat.beq k j with
  | true=>have:=v8 h;subst this;simp
  | false =>
   have c:=eZ h;simp only[tW l (k+1) j]
   by_cases b:k<=j
   ·rw[j3 (by omega),j3 b,show j-k=(j-(k+1))+1 by omega,XY]
   ·rw[vv (by omega),vv b]
theorem aT (l:List Own) (j:Nat):Loc.get (inp l) j=if 1000<=j then l[j-1000]? else none:=tW l 1000 j
theorem dX:∀{L:Loc}{ks:List Nat}{l:List Own},L.sub ks=some l->l.length=ks.length/\∀(i:Nat) (k:Nat),ks[i]?=some k->L.get k=l[i]?
 | L,[],l,h=>by simp only[Loc.sub,xo] at h;subst h;simp
 | L,k::ks,l,h=>by
  simp only[Loc.sub] at h;split at h
  case h_2=>cases h
  rename_i o j b d;injection h with h
  subst h;obtain⟨f,e⟩:=dX d;refine⟨by simp[f],fun i c hi=>?_⟩;cases i with
  | zero=>simp at hi;subst hi;simpa using b
  | succ i=>simp at hi;simpa using e i c hi
theorem fj:∀(ks:List Nat) (L:Loc) (j:Nat),(L.Wu ks).get j=if j∈ks then none else L.get j
 | [],L,j=>by simp[Loc.Wu]
 | k::ks,L,j=>by
  simp only[Loc.Wu,fj ks,Loc.Wy,Xh]
  by_cases b:j=k<;>by_cases c:j∈ks<;>simp[b,c]
theorem cZ:∀(ko:List Nat) (l:List Own) (L:Loc) (j:Nat),ko.Nodup->ko.length=l.length ->
  ((L.puts ko l).get j=L.get j/\j∉ko)\/∃i,ko[i]?=some j/\(L.puts ko l).get j=l[i]?/\i<l.length
 | [],l,L,j,_,h=>by
  refine .inl ⟨?_,by simp⟩;cases l<;>rfl
 | k::ko,[],L,j,_,h=>by simp at h
 | k::ko,o::l,L,j,e,h=>by
  simp only[Xv,Nat.add_right_cancel_iff] at h;rw[List.nodup_cons] at e;simp only[Loc.puts];rcases cZ ko l (L.set k o) j e.2 h with⟨b,c⟩ | ⟨i,b,c,f⟩
  ·rw[Loc.Wt] at b
   by_cases d:j=k
   ·subst d;rw[j3 rfl] at b;exact .inr ⟨0,by simp,by simpa using b,by simp⟩
   ·rw[vv d] at b;exact .inl ⟨b,by simp[d,c]⟩
  ·exact .inr ⟨i+1,by simpa using b,by simpa using c,by simp;omega⟩
theorem yh {l:List Nat}(h:l.Nodup) {i j:Nat}{k:Nat}(hi:l[i]?=some k) (b:l[j]?=some k):i=j:=by
 induction l generalizing i j with
 | nil=>simp at hi
 | cons x l c =>
  rw[List.nodup_cons] at h;cases i with
  | zero =>
   cases j with
   | zero=>rfl
   | succ j =>
    simp at hi b;subst hi;exact v7 (Xi b) h.1
  | succ i =>
   cases j with
   | zero =>
    simp at hi b;subst b;exact v7 (Xi hi) h.1
   | succ j =>
    simp at hi b;rw[c h.2 hi b]
theorem St.handed (c:St F L w) {ks:List Nat}{l:List Own}(b:L.sub ks=some l) (x:ks.Nodup):St F (inp l) w:=by
 obtain⟨hl,s⟩:=dX b;have key:∀j p,Loc.get (inp l) j=some p->∃k,1000<=j/\ks[j-1000]?=some k/\L.get k=some p:=by
  intro j p e;rw[aT] at e;split at e
  case isFalse=>cases e
  rename_i n;have u:j-1000<l.length:=(Xe.1 e).1;have q:ks[j-1000]?=some (ks[j-1000]'(by omega)):=x5 (by omega);exact⟨_,n,q,by rw[s _ _ q];exact e⟩
 refine⟨c.frz,fun j p e=>?_,fun j p g e hb=>?_,fun j t p r g e e' hb m=>?_,c.glob⟩
 ·obtain⟨k,_,_,h⟩:=key j p e;exact c.own k p h
 ·obtain⟨k,_,_,h⟩:=key j p e;exact c.off k p g h hb
 ·obtain⟨k,n,v,h3⟩:=key j p e;obtain⟨y,z,d,f⟩:=key t r e';have:=c.sep k y p r g h3 f hb m;subst this;have:=yh x v d;omega
theorem iT (z:St F L w) {ks ko:List Nat}{l lo:List Own}(ad:L.sub ks=some l) (hn:ks.Nodup) (x:ko.Nodup) (az:∀k,k∈ko->k∈ks\/L.get k=none)
  {F':aA}{w':World}(t:St F' (inp lo) w') (m:Step F (inp l) w F' (inp lo) w') (ae:ko.length=lo.length) :
  St F' ((L.Wu ks).puts ko lo) w'/\Step F L w F' ((L.Wu ks).puts ko lo) w':=by
 obtain⟨hl,hg⟩:=dX ad;have n:∀b,(inp l).owns b->∃k o,k∈ks/\L.get k=some o/\o.blk=some b:=by
  rintro b ⟨j,p,e,hb⟩;rw[aT] at e;split at e
  case isFalse=>cases e
  have ay:j-1000<l.length:=(Xe.1 e).1;have hk:ks[j-1000]?=some (ks[j-1000]'(by omega)):=x5 (by omega);exact⟨_,p,Xi hk,by rw[hg _ _ hk];exact e,hb⟩
 have f:∀k p b,k∉ks->L.get k=some p->p.blk=some b->¬(inp l).owns b:=by
  intro k p b hk e hb ho;obtain⟨y,o,am,e',d⟩:=n b ho;exact hk (by rw[z.sep k y p o b e e' hb d];exact am)
 have get:∀k p,((L.Wu ks).puts ko lo).get k=some p->(k∉ks/\k∉ko/\L.get k=some p)\/∃i,ko[i]?=some k/\Loc.get (inp lo) (1000+i)=some p:=by
  intro k p e;rcases cZ ko lo (L.Wu ks) k x ae with⟨q,c⟩ | ⟨i,q,c,v⟩
  ·rw[q,fj] at e;split at e
   ·cases e
   ·rename_i v;exact .inl ⟨v,c,e⟩
  ·rw[c] at e;exact .inr ⟨i,q,by rw[aT,j3 (by omega),show 1000+i-1000=i by omega];exact e⟩
 refine⟨⟨t.frz,fun k p e=>?_,fun k p b e hb=>?_,fun k y p u b e e' hb d=>?_,t.glob⟩,⟨m.le,m.os,m.tape,m.output,m.size,fun b hb x=>?_,fun b hb=>?_,fun b hb=>?_⟩⟩
 ·rcases get k p e with⟨q,_,c⟩ | ⟨i,_,c⟩
  ·exact Own.WO (z.own k p c) fun g ac=>m.same g (Own.WJ (z.own k p c) ac) (f k p g q c ac)
  ·exact t.own _ p c
 ·rcases get k p e with⟨q,_,c⟩ | ⟨i,_,c⟩
  ·cases hF:F' b with
   | none=>rfl
   | some _ =>
    rcases m.frz b (by rw[hF];simp) with v | v | v
    ·exact v7 (z.off k p b c hb) v
    ·exact v7 v (f k p b q c hb)
    ·have:=Own.WJ (z.own k p c) hb;omega
  ·exact t.off _ p b c hb
 ·have s:∀k p i u,k∉ks->L.get k=some p->Loc.get (inp lo) (1000+i)=some u->p.blk=some b->u.blk=some b->False:=by
   intro k p i u q c v h4 h5;rcases m.own b ⟨_,u,v,h5⟩ with h6 | h6
   ·exact f k p b q c h4 h6
   ·have:=Own.WJ (z.own k p c) h4;omega
  rcases get k p e with⟨q,_,c⟩ | ⟨i,hi,c⟩<;>rcases get y u e' with⟨an,_,r⟩ | ⟨i',ab,r⟩
  ·exact z.sep k y p u b c r hb d
  ·exact(s k p i' u q c r hb d).elim
  ·exact(s y u i p an r c d hb).elim
  ·have:=t.sep _ _ p u b c r hb d;have:i=i':=by omega
   subst this;rw[hi] at ab;injection ab
 ·refine m.same b hb fun ho=>?_;obtain⟨k,o,_,e,d⟩:=n b ho;exact x ⟨k,o,e,d⟩
 ·rcases m.frz b hb with h | h | h
  ·exact .inl h
  ·obtain⟨k,o,_,e,d⟩:=n b h;exact .inr (.inl ⟨k,o,e,d⟩)
  ·exact .inr (.inr h)
 ·obtain⟨k,p,e,d⟩:=hb;rcases get k p e with⟨q,_,c⟩ | ⟨i,_,c⟩
  ·exact .inl ⟨k,p,c,d⟩
  ·rcases m.own b ⟨_,p,c,d⟩ with h | h
   ·obtain⟨y,o,_,e',aa⟩:=n b h;exact .inl ⟨y,o,e',aa⟩
   ·exact .inr h
theorem uP {f:Nat}{args:List Value}(hs:St F L w) (he:aC L ρ a) (hd:∀k,o.dst=some k->k<a.tmps.size)
  (hrun:(∃fn,P.funcs[f]?=some fn/\fn.body.isSome=true/\(fn.name == "runtime.NumGoroutine")=false)->(execOp a.eval o).run P w=.ok (.enter f args.toArray) w)
  (hK:cW P f args F L fun F' L' v=>K F' L' (put o.dst (.v v) ρ)):o.wp P a w (aZ F L w a K) Q:=by
 obtain⟨ks,ko,l,R,hsub,hn,hno,hko,hc,hK⟩:=hK;unfold Oper.wp;rw[hrun hc.ent];rw[Oper.upon_enter];refine(hc.run w (hs.handed hsub hn)).mono ?_;rintro e w' ⟨v,F',lo,rfl,hs',hst,hR⟩;obtain⟨hlen,hbox,hK⟩:=hK v F' lo hst.le hR;obtain⟨h1,h2⟩:=iT hs hsub hn hno hko hs' hst hlen;refine⟨F',_,_,h1,he.put hd (x:=.v v) rfl bK dh ?_,kh _ _ _,gq _ _ _,h2,hK⟩;intro k g ty cs e
 by_cases hk:k∈ks
 ·exact hbox k g ty cs hk e
 ·rcases cZ ko lo (L.Wu ks) k hno hlen with⟨h1,h2⟩ | ⟨i,h1,h2,h3⟩
  ·rw[h1,fj,vv hk];exact⟨cs,e⟩
  ·rcases hko k (Xi h1) with h | h
   ·exact v7 h hk
   ·rw[h] at e;cases e
theorem jh {f:Nat}{args:Array Value}(h:∃fn,P.funcs[f]?=some fn/\fn.body.isSome=true/\(fn.name == "runtime.NumGoroutine")=false):(callFunc f args).run P w=.ok (.enter f args) w:=by
 obtain⟨fn,h1,h2,h3⟩:=h;have h4:fn.body≠none:=by intro hb;rw[hb] at h2;cases h2
 have h5:fn.name≠"runtime.NumGoroutine":=by simpa using h3
 simp[callFunc,h1,h4,h5]
theorem Jj {f:Nat}{args:List X}{c:Call}(p:St F L w) (h:aC L ρ a) (j:∀k,o.dst=some k->k<a.tmps.size)
  (q:o.op=.call c) (m:c.callee=.value (.func f)) (l:fS c.args.toList=some args) (n:evalOp P (.call f args) o.dst F L ρ K):o.wp P a w (aZ F L w a K) Q:=by
 refine uP p h j (fun d=>?_) n;have e:=fe l h;have b:c.args.map a.eval=(bf L ρ args).toArray:=by apply Array.ext';simpa using e
 simp[execOp,q,resolve,m,Deferred.ofValue,Act.eval,invoke,b,jh d]
theorem ji {t:TypeId}{nm:String}{u:Value}{f:Nat}{args:Array Value}(hf:nk P t nm=some f) (h:∃fn,P.funcs[f]?=some fn/\fn.body.isSome=true/\(fn.name == "runtime.NumGoroutine")=false) :
  (callMethod (.iface t u) nm args).run P w=.ok (.enter f (#[u]++args)) w:=by
 have:=EF (P:=P) hf u w;simp only[callMethod,Sem.run_bind,run_program,Result.andThen_ok,this];exact jh h
theorem AP {V:SV}{v:Value}{args:List Value}{f:Nat}{fi ca:List Value}(hf:lf P V=some (f,fi,ca)) (hv:∀x,V=.v x->v=x) (h:∃fn,P.funcs[f]?=some fn/\fn.body.isSome=true/\(fn.name == "runtime.NumGoroutine")=false) :
  (do let d <-Deferred.ofValue v args.toArray;invoke d.target d.args:Sem Next).run P w=.ok (.enter f (fi++args++ca).toArray) w:=by
 unfold lf at hf;split at hf
 ·rename_i f' fi' ca';injection hf with hf
  injection hf with e1 e2
  injection e2 with e2 e3
  subst e1 e2 e3;rw[hv _ rfl];have hall:fi'++(args.toArray++ca')=(fi'.toList++args++ca'.toList).toArray:=by apply Array.ext';simp
  simp[Deferred.ofValue,invoke];rw[jh h];simp
 ·rename_i nm fi' ca';split at hf
  case h_2=>cases hf
  rename_i t u hfi;split at hf
  case h_2=>cases hf
  rename_i f' hm;injection hf with hf
  injection hf with e1 e2
  injection e2 with e2 e3
  subst e1 e2 e3;have hfi':fi'=#[.iface t u]:=by apply Array.ext';exact hfi
  rw[hv _ rfl,hfi'];have hx:(#[Value.iface t u]++args.toArray).extract 1 (#[Value.iface t u]++args.toArray).size=args.toArray:=by apply Array.ext';simp
  have h0:(#[Value.iface t u]++args.toArray)[0]?=some (.iface t u):=by simp
  have:=ji (w:=w) (u:=u) (args:=args.toArray) hm h;simp only[Deferred.ofValue,Sem.run_bind,Sem.run_pure,Result.andThen_ok,invoke,h0,hx,this];simp
 ·cases hf
theorem Gi {y:Operand}{z:X}{args:List X}{c:Call}(hs:St F L w) (p:aC L ρ a) (hd:∀k,o.dst=some k->k<a.tmps.size)
  (ho:o.op=.call c) (hc:c.callee=.value y) (hy:bh y=some z) (ha:fS c.args.toList=some args) (n:evalOp P (.callV z args) o.dst F L ρ K):o.wp P a w (aZ F L w a K) Q:=by
 have ey:=aF hy p;have s:=fe ha p;have j:c.args.map a.eval=(bf L ρ args).toArray:=by apply Array.ext';simpa using s
 have m:∀x,ev ρ z=.v x->a.eval y=x:=fun x e=>by rw[ey,bB e]
 simp only[evalOp] at n;split at n
 ·rename_i f fi ca d;refine uP hs p hd (fun l=>?_) n;have:=AP (w:=w) (args:=bf L ρ args) d m l;simp only[execOp,ho,resolve,hc,j];exact this
 ·split at n
  case h_2=>exact n.elim
  rename_i f aa d;unfold xZ at d;split at d
  case h_2=>cases d
  rename_i t nm ca t' u h q b;split at d
  case h_2=>cases d
  rename_i ms hu;split at d
  case h_2=>cases d
  rename_i f' hm;injection d with d
  injection d with e1 e2
  subst e1 e2;refine uP hs p hd (fun l=>?_) n;have h0:(#[]++(bf L ρ args).toArray)[0]?=some (.iface t' u):=by rw[b];simp
  have hx:(#[]++(bf L ρ args).toArray).extract 1 (#[]++(bf L ρ args).toArray).size=h.toArray:=by rw[b];apply Array.ext';simp
  have:=ji (w:=w) (u:=u) (args:=h.toArray) hm l;simp only[execOp,ho,resolve,hc,j,m _ q,Deferred.ofValue,Sem.run_bind,Sem.run_pure,Result.andThen_ok,invoke];have ab:((⟨[]⟩:Array Value)++(bf L ρ args).toArray)[0]?=some (.iface t' u):=h0;simp only[ab,Sem.run_bind,run_underlying hu,Result.andThen_ok];have r:((⟨[]⟩:Array Value)++(bf L ρ args).toArray).extract 1 ((⟨[]⟩:Array Value)++(bf L ρ args).toArray).size=h.toArray:=hx;simp only[r,this];simp
theorem MR {n:Nat}{nm:String}{args:List X}{c:Call}(hs:St F L w) (q:aC L ρ a) (hd:∀k,o.dst=some k->k<a.tmps.size)
  (ho:o.op=.call c) (hc:c.callee=.invoke (.tmp n) nm) (ha:fS c.args.toList=some args) (h:evalOp P (.callV (.mt nm n) args) o.dst F L ρ K):o.wp P a w (aZ F L w a K) Q:=by
 have y:=fe ha q;have e:c.args.map a.eval=(bf L ρ args).toArray:=by apply Array.ext';simpa using y
 simp only[evalOp,ev] at h;split at h
 ·rename_i f fi ca d;refine uP hs q hd (fun l=>?_) h;cases m:ρ n with
  | own k off=>rw[m] at d;cases d
  | el b j=>rw[m] at d;cases d
  | v x =>
   rw[m] at d;have hx:a.eval (.tmp n)=x:=by
    have:=q.eq n;rw[m] at this;exact this
   simp only[Ox,lf] at d;split at d
   case h_2=>cases d
   rename_i t u s;split at d
   case h_2=>cases d
   rename_i f' hm;injection d with d
   injection d with e1 e2
   injection e2 with e2 e3
   subst e1 e2 e3;have p:x=.iface t u:=by simpa using s
   subst p;have r:(#[Value.iface t u]++(bf L ρ args).toArray).extract 1 (#[Value.iface t u]++(bf L ρ args).toArray).size=(bf L ρ args).toArray:=by apply Array.ext';simp
   have h0:(#[Value.iface t u]++(bf L ρ args).toArray)[0]?=some (.iface t u):=by simp
   have:=ji (w:=w) (u:=u) (args:=(bf L ρ args).toArray) hm l;simp only[execOp,ho,resolve,hc,e,hx,Sem.run_bind,Sem.run_pure,Result.andThen_ok,invoke,h0,r,this];simp
 ·split at h
  case h_2=>exact h.elim
  rename_i f z d;exfalso
  revert d
  cases ρ n<;>simp[Ox,xZ,undef]
theorem MS {s t e:TypeId}{y:Operand}{y':X}(hs:St F L w) (he:aC L ρ a) (hd:∀k,o.dst=some k->k<a.tmps.size)
  (ho:o.op=.convert s t y) (j:P.underlying s=some .string) (h2:P.underlying t=some (.slice e)) (h3:P.underlying e=some (.int .u8)) (hy:bh y=some y') (r:evalOp P (.s2b e y') o.dst F L ρ K):o.wp P a w (aZ F L w a K) Q:=by
 have ey:=aF hy he;simp only[evalOp,aI] at r;split at r
 case h_2=>exact r.elim
 rename_i str u
 let cap:=(Question.appendCap str.size 0 e).cut (w.tape w.drawn (.appendCap str.size 0 e))
 have p:str.size<=cap:=by simp only[cap,Question.cut];omega
 let cells:Array Value:=(str.data.map fun b=>Value.int .u8 b.toNat)++Array.replicate (cap-str.size) (.int .u8 0)
 have aa:cells.size=cap:=by simp only[cells,Array.size_append,Array.size_map,Array.size_replicate];have:str.data.size=str.size:=rfl;omega
 let f:=w.drew.alloc (.cells cells e)
 let c:=f.freeze {block:=w.heap.size,off:=cap} 1
 have q:(execOp a.eval o).run P w=.ok (.value (.slice (some ⟨w.heap.size,0,none⟩) str.size cap)) c:=by
  have ab:f.shape? w.heap.size=some (e,cap):=by
   have:f.heap[w.heap.size]?=some (.cells cells e):=fV w.drew _;simp only[World.shape?,this,aa]
  simp[execOp,ho,ey,bB u,convert,run_underlying j,run_underlying h2,run_underlying h3,Conv.stringToBytes,Question.forced,newRow,markStringish];rw[show(w.drew.alloc (.cells ((str.data.map fun b=>Value.int .u8 b.toNat)++Array.replicate ((Question.appendCap str.size 0 e).cut (w.tape w.drawn (.appendCap str.size 0 e))-str.size) (.int .u8 0)) e)).shape? w.heap.size=some (e,cap) from ab];simp;exact⟨rfl,rfl⟩
 have m:∀b,b<w.heap.size->c.heap[b]?=w.heap[b]?:=by
  intro b hb;have j:f.heap[b]?=w.heap[b]?:=Below.heap_alloc w.drew _ b hb;simp only[c,World.freeze];simp only[Nat.one_ne_zero,XM,Array.getElem?_modify];rw[vv (by omega)];exact j
 have d:c.heap[w.heap.size]?=some (.cells cells e (cap,cap+1)):=by
  have j:f.heap[w.heap.size]?=some (.cells cells e (0,0)):=fV w.drew _;simp only[c,World.freeze,Nat.one_ne_zero,XM,Array.getElem?_modify,XA,j];simp
 have l:St F L c:=hs.keep m;obtain⟨hf,z⟩:=py hs;have ac:=l.freeze d z;have n:=aA.WK l d;refine fF he hd (x:=.v (.slice (some ⟨w.heap.size,0,none⟩) str.size cap)) q ac ⟨n,?_,?_,?_,?_,fun b hb _=>m b hb,?_,fun b h=>.inl h⟩ rfl bK dh (qp L) (r w.heap.size cap _ n ?_ p)
 ·simp only[c,World.freeze,Nat.one_ne_zero,XM];rfl
 ·simp only[c,World.freeze,Nat.one_ne_zero,XM];rfl
 ·simp only[c,World.freeze,Nat.one_ne_zero,XM];rfl
 ·simp only[c,World.freeze,Nat.one_ne_zero,XM,Array.size_modify];have:f.heap.size=w.heap.size+1:=by simp[f]
  omega
 ·intro b hb
  by_cases h:b=w.heap.size
  ·exact .inr (.inr (by omega))
  ·simp only[vv h] at hb;exact .inl hb
 ·refine⟨_,cells,e,_,rfl,j3 rfl,rfl,fun i v hv=>?_⟩;have hi:i<str.data.size:=by
   have:=(Xe.1 hv).1;simpa using this
  simp only[cells,Nat.zero_add];rw[Array.getElem?_append_left (by simpa using hi)];refine⟨by simpa using hv,fun h=>?_⟩;have j:cap<=i:=by simpa using h.1
  have h2:str.size=str.data.size:=rfl;omega
theorem zn (w:World) (k p ty elem:TypeId) (g o c f:Nat) (s:ByteArray) (d:Array Value) (t:TypeId)
  (q:P.underlying k=some (.slice elem)) (l:(P.info? elem).map (·.size)=some 1)
  (m:w.heap[g]?=some (.cells d t (0,0))) (h:o+min s.size c<=d.size) :
  (Builtin.copy_ #[k,p] ty #[.slice (some ⟨g,o,none⟩) c f,.string s]).run P w =
   .ok (goInt (min s.size c:Nat)) (w.setRow g (aM d.toList o ((s.data.toList.take c).map fun b=>Value.int .u8 b.toNat)).toArray):=by
 have n:((s.data.toList.take c).map fun b=>Value.int .u8 b.toNat).length=min s.size c:=by
  rw[Xt,Xx,Nat.min_comm,Array.length_toList];rfl
 have j:=run_storeCells_at P g o t ((s.data.toList.take c).map fun b=>Value.int .u8 b.toNat) 0 d w m (by rw[n];simpa using h) (fun v u=>by
  obtain⟨b,_,rfl⟩:=XI.1 u;rfl)
 rw[Nat.add_zero] at j;have x:List.take (s.size.min c) (List.map (fun b=>Value.int IntKind.u8 b.toNat) s.data.toList)=(s.data.toList.take c).map fun b=>Value.int .u8 b.toNat:=by
  have r:s.size=s.data.toList.length:=by simp
  rw[<-List.map_take,r];congr 1;rw[show Nat.min s.data.toList.length c=min s.data.toList.length c from rfl,Nat.min_comm,<-List.take_take,List.take_length]
 generalize(s.data.toList.take c).map (fun b=>Value.int .u8 b.toNat)=news at *;cases e:P.info? elem with
 | none=>simp[e] at l
 | some i =>
  have hi:i.size=1:=by simpa[e] using l
  simp[Builtin.copy_,run_underlying q,Builtin.lenOf,Builtin.firstCells,sizeOf,typeInfo,e,hi,x,j,aM]
theorem Dk {t t' e:TypeId}{y z:Operand}{y' z':X}{i:TypeInfo}{c:Call}(hs:St F L w) (he:aC L ρ a) (hd:∀k,o.dst=some k->k<a.tmps.size)
  (ho:o.op=.call c) (hc:c.callee=.builtin .copy) (ha:c.args=#[y,z]) (bt:c.argTypes=#[t,t']) (ht:P.underlying t=some (.slice e)) (hi:P.info? e=some i) (bm:i.size=1)
  (hy:bh y=some y') (hz:bh z=some z') (hK:evalOp P (.copy e i.size y' z') o.dst F L ρ K):o.wp P a w (aZ F L w a K) Q:=by
 have ey:=aF hy he;have ez:=aF hz he;rw[bm] at hK;simp only[evalOp] at hK;split at hK
 case h_3=>exact hK.elim
 case h_1 =>
  rename_i dv str an ba;obtain⟨k,n,v,s,xs,ad,cr,cd,j,hk,rfl,rfl,cY,hK⟩:=hK;have av:(P.info? e).map (·.size)=some 1:=by rw[hi];simp[bm]
  have l:=hs.own k _ hk;simp only[Own.ok] at l;obtain⟨hx,l⟩:=l;rcases l with⟨e',_⟩ | ⟨g,cap,d,e',bp,hg,bx,bj,aa,p⟩
  ·cases e'
  injection e' with e1 e2 e3
  injection e1 with e1
  subst e1 e3;simp only[Nat.mul_one] at hx aa p;have hl:((str.data.toList.take n).map fun b=>Value.int .u8 b.toNat).length=min str.size n:=by
   rw[Xt,Xx,Nat.min_comm,Array.length_toList];rfl
  generalize bl:(str.data.toList.take n).map (fun b=>Value.int .u8 b.toNat)=news at hl hK;have ag:j+news.length<=s:=by rw[hl];omega
  have r:j+news.length<=d.size:=by omega
  have f:=lp w g (aM d.toList j news).toArray;have al:∀(ar:List Value) i' g' ty' cs',L.get i'=some (.box g' ty' cs')->∃ao,(L.set k (.row (.slice (some ⟨g,0,none⟩) s cr) e 1 s ar)).get i'=some (.box g' ty' ao):=by
   intro ar i' g' ty' cs' ej;rw[Loc.Wt,vv (by rintro rfl;rw[hk] at ej;cases ej)];exact⟨cs',ej⟩
  have ap:Own.ok (w.setRow g (aM d.toList j news).toArray) (.row (.slice (some ⟨g,0,none⟩) s cr) e 1 s (aM xs j news)):=by
   refine⟨?_,.inr ⟨g,cr,_,rfl,bp,setRow_heap w g d _ e _ hg,bx,bj,?_,?_⟩⟩
   ·rw[eT _ _ _ (by rw[hx];exact ag),hx,Nat.mul_one]
   ·have:(aM d.toList j news).length=d.size:=by rw[eT _ _ _ (by simpa using r)];simp
    simp[this,aa]
   ·rw[Nat.mul_one,List.toList_toArray,<-p];apply XP;intro q;have bv:j+news.length<=d.toList.length:=by simpa using r
    rw[gR (by rw[Xx];simp;omega)]
    by_cases hn:q<s
    ·rw[List.getElem?_take_of_lt hn,gR bv,List.getElem?_take_of_lt hn]
    ·rw[Xn (by simp;omega)];have h1:¬q<j:=by omega
     have h2:¬q<j+news.length:=by omega
     rw[vv h1,vv h2,Xn (by simp;omega)]
  have az:St F (L.set k (.row (.slice (some ⟨g,0,none⟩) s cr) e 1 s (aM xs j news))) (w.setRow g (aM d.toList j news).toArray) :=
   hs.turn hk ap (fun b ae bk=>f.block b ae (fun e=>bk (by rw[e];rfl))) (fun g' aw=>.inl aw)
  refine fF he hd (v:=.int .i64 (min str.size n:Nat)) (x:=.v (.int .i64 (min str.size n:Nat))) ?_ az ?_ rfl bK dh (al _) hK
  ·have cl:(⟨g,0,none⟩:Addr).add j=⟨g,j,none⟩:=by rw[bV,Nat.zero_add]
   have:=zn (P:=P) w t t' o.type e g j n cd str d e ht av hg (by rw[<-hl];exact r);rw[bl] at this;rw[cl] at an;simp[execOp,ho,resolve,hc,ha,bt,invoke,builtin,ey,ez,bB an,bB ba,this,goInt]
  ·refine⟨aA.le_refl F,rfl,rfl,rfl,f.size,fun b ae hn=>f.block b ae (fun e=>hn ⟨k,_,hk,by rw[e];rfl⟩),fun b h=>.inl h,fun b h=>?_⟩;rcases Loc.WD h with h | h
   ·exact .inl ⟨k,_,hk,h⟩
   ·exact .inl h
 rename_i dv xv _ an ba;have av:(P.info? e).map (·.size)=some 1:=by rw[hi];simp[bm]
 obtain⟨⟨k,n,v,s,xs,ad,cr,cd,j,m,ax,cx,news,hk,rfl,rfl,cY,rfl,ab,cp,h1,hK⟩ | ⟨da,n,cd,ax,m,cx,rfl,rfl,h0,hK⟩⟩:=hK
 rotate_left
 ·have bb:∀v:Value,(execOp a.eval o).run P w=(do pure (.value (<-Builtin.copy_ #[t,t'] o.type #[.slice da n cd,.slice ax m cx])):Sem Next).run P w:=by
   intro v;simp[execOp,ho,resolve,hc,ha,bt,invoke,builtin,ey,ez,bB an,bB ba]
  refine bF hs he hd (v:=.int .i64 0) (x:=.v (.int .i64 0)) ?_ rfl bK dh hK;rw[bb undef];have:=run_copy_none (P:=P) w t t' o.type e da ax n cd m cx ht av h0;simp[this,goInt]
 rw[Nat.mul_one] at ab;have l:=hs.own k _ hk;simp only[Own.ok] at l;obtain⟨hx,l⟩:=l;rcases l with⟨e',_⟩ | ⟨g,cap,d,e',bp,hg,bx,bj,aa,p⟩
 ·cases e'
 injection e' with e1 e2 e3
 injection e1 with e1
 subst e1 e3;simp only[Nat.mul_one] at hx aa p hK an;have al:∀(ar:List Value) i' g' ty' cs',L.get i'=some (.box g' ty' cs')->∃ao,(L.set k (.row (.slice (some ⟨g,0,none⟩) s cr) e 1 s ar)).get i'=some (.box g' ty' ao):=by
  intro ar i' g' ty' cs' ej;rw[Loc.Wt,vv (by rintro rfl;rw[hk] at ej;cases ej)];exact⟨cs',ej⟩
 have bb:∀v:Value,(execOp a.eval o).run P w=(do pure (.value (<-Builtin.copy_ #[t,t'] o.type #[.slice (some ((⟨g,0,none⟩:Addr).add j)) n cd,.slice ax m cx])):Sem Next).run P w:=by
  intro v;simp[execOp,ho,resolve,hc,ha,bt,invoke,builtin,ey,ez,bB an,bB ba]
 by_cases h0:min m n=0
 ·have:news=[]:=XD (by rw[ab,h0]);subst this;have co:aM xs j []=xs:=by simp[aM]
  rw[co,h0] at hK;have ap:Own.ok w (.row (.slice (some ⟨g,0,none⟩) s cr) e 1 s xs):=by
   have:=hs.own k _ hk;exact this
  have az:St F (L.set k (.row (.slice (some ⟨g,0,none⟩) s cr) e 1 s xs)) w:=hs.turn hk ap (fun _ _ _=>rfl) (fun g' aw=>.inl aw);refine fF he hd (v:=.int .i64 0) (x:=.v (.int .i64 0)) ?_ az ?_ rfl bK dh (al xs) hK
  ·rw[bb undef];have:=run_copy_none (P:=P) w t t' o.type e (some ((⟨g,0,none⟩:Addr).add j)) ax n cd m cx ht av h0;simp[this,goInt]
  ·refine⟨aA.le_refl F,rfl,rfl,rfl,Xy _,fun _ _ _=>rfl,fun b h=>.inl h,fun b h=>?_⟩;rcases Loc.WD h with h | h
   ·exact .inl ⟨k,_,hk,h⟩
   ·exact .inl h
 ·have hF:bM F ax 0 news:=cp.resolve_right fun h=>h0 h.1;obtain⟨ci,rfl,_,dd⟩:=hF.cell hs;have bc:∀j v,news[j]?=some v->w.cell? (ci.add j)=some v:=fun j' u hu=>by
   have:=dd j' u hu
   rwa [Nat.zero_add] at this
  have ag:j+news.length<=s:=by rw[ab];omega
  have r:j+news.length<=d.size:=by omega
  have f:=lp w g (aM d.toList j news).toArray;have ap:Own.ok (w.setRow g (aM d.toList j news).toArray) (.row (.slice (some ⟨g,0,none⟩) s cr) e 1 s (aM xs j news)):=by
   refine⟨?_,.inr ⟨g,cr,_,rfl,bp,setRow_heap w g d _ e _ hg,bx,bj,?_,?_⟩⟩
   ·rw[eT _ _ _ (by rw[hx];exact ag),hx,Nat.mul_one]
   ·have:(aM d.toList j news).length=d.size:=by rw[eT _ _ _ (by simpa using r)];simp
    simp[this,aa]
   ·rw[Nat.mul_one,List.toList_toArray,<-p];apply XP;intro q;have bv:j+news.length<=d.toList.length:=by simpa using r
    rw[gR (by rw[Xx];simp;omega)]
    by_cases hn:q<s
    ·rw[List.getElem?_take_of_lt hn,gR bv,List.getElem?_take_of_lt hn]
    ·rw[Xn (by simp;omega)];have h1:¬q<j:=by omega
     have h2:¬q<j+news.length:=by omega
     rw[vv h1,vv h2,Xn (by simp;omega)]
  have az:St F (L.set k (.row (.slice (some ⟨g,0,none⟩) s cr) e 1 s (aM xs j news))) (w.setRow g (aM d.toList j news).toArray) :=
   hs.turn hk ap (fun b ae bk=>f.block b ae (fun e=>bk (by rw[e];rfl))) (fun g' aw=>.inl aw)
  refine fF he hd (v:=.int .i64 (min m n:Nat)) (x:=.v (.int .i64 (min m n:Nat))) ?_ az ?_ rfl bK dh (al _) hK
  ·rw[bb undef,bV,Nat.zero_add];have:=run_copy_row P w t t' o.type e g j n cd ci m cx d e news ht av hg ab bc r h1;have cz:(d.toList.take j++news++d.toList.drop (j+news.length)).toArray=(aM d.toList j news).toArray:=rfl;rw[cz] at this;simp[this,goInt,ab]
  ·refine⟨aA.le_refl F,rfl,rfl,rfl,f.size,fun b ae hn=>f.block b ae (fun e=>hn ⟨k,_,hk,by rw[e];rfl⟩),fun b h=>.inl h,fun b h=>?_⟩;rcases Loc.WD h with h | h
   ·exact .inl ⟨k,_,hk,h⟩
   ·exact .inl h
end
open Go.ChangeMaps (setBlock)
theorem yj {cs:List Value}(h:mN cs=true):gP cs=.map (aY cs 0).toArray cs.length:=by
 unfold gP;split
 ·simp[mN] at h
 ·rfl
theorem tX:∀{cs:List Value}{i:Nat},(aY cs i).length=cs.length
 | [],_=>rfl
 | c::cs,i=>by simp[aY,tX (cs:=cs)]
theorem lU:∀(v:Value) (i:Nat),(fU v i).born=i:=by
 intro v i;unfold fU;split<;>rfl
theorem pD:∀{cs:List Value}{i j:Nat},(aY cs i)[j]?=(cs[j]?).map fun v=>fU v (i+j)
 | [],_,_=>by simp[aY]
 | c::cs,i,0=>by simp[aY]
 | c::cs,i,j+1=>by
  simp only[aY,XY,pD (cs:=cs)];rw[show i+1+j=i+(j+1) by omega]
def kindOf:Bool->TypeDesc
 | false=>.int .i64
 | true=>.string
theorem Dl (s t:ByteArray):(s == t)=decide (s.data.toList=t.data.toList):=by
 have:(s == t)=(s.data == t.data):=rfl;rw[this,Bool.eq_iff_iff];simp[Array.toList_inj]
theorem vF {str:Bool}{a b:Value}{r:Bool}(h:fq str a b=some r):Instr.sameNow (kindOf str) a b=some r:=by
 unfold fq at h;split at h
 ·injection h with h;subst h;simp[kindOf,Instr.sameNow,beq_dec']
 ·injection h with h
  subst h;rename_i s t;simp only[kindOf,Instr.sameNow,Dl]
 ·cases h
where beq_dec':∀{a b:Int},(a == b)=decide (a=b):=by intro a b;rw[Bool.eq_iff_iff];simp
theorem Jk {str:Bool}{a b:Value}(h:fq str a b=some true):a=b:=by
 unfold fq at h;split at h
 ·simp only[xo,X1] at h;rw[h]
 ·simp only[xo,X1] at h;rename_i s t;cases s;cases t;simp only[Value.string.injEq,ByteArray.mk.injEq];exact Array.ext' h
 ·cases h
theorem Jl {str:Bool}{a b:Value}{r:Bool}(h:fq str a b=some r):∀n,Instr.sameBits n a a=true:=by
 intro n;unfold fq at h;split at h
 ·cases n<;>simp[Instr.sameBits]
 ·cases n<;>simp[Instr.sameBits,Dl]
 ·cases h
theorem nD {str:Bool}{key:Value}:∀{cs:List Value}{i:Nat}{o:Option (Nat×Value)},lQ str key cs i=some o->Instr.findNow (kindOf str) key (aY cs i) i=some o
 | [],i,o,h=>by simp only[lQ] at h;simpa[aY,Instr.findNow] using h
 | c::cs,i,o,h=>by
  unfold lQ at h;split at h
  ·rename_i b;cases b
  ·rename_i k v l j b;injection b with e1 e2
   subst e1 e2;simp only[aY,fU,Instr.findNow];split at h
   ·rename_i d;rw[vF d];exact h
   ·rename_i d;rw[vF d];exact nD h
   ·cases h
  ·cases h
theorem yp {str:Bool}{key val:Value}(m:fq str key key=some true):∀{cs cs':List Value}{i:Nat},vn str key val cs=some cs' ->
  (∃j v,lQ str key cs i=some (some (i+j,v))/\j<cs.length/\((aY cs i)[j]?.map (·.key))=some key/\aY cs' i=(aY cs i).modify j (fun e=>{e with key:=key,val:=val})/\cs'.length=cs.length) \/
  (lQ str key cs i=some none/\cs'=cs++[.agg #[key,val]])
 | [],cs',i,h=>by
  simp only[vn,xo] at h;subst h;exact .inr ⟨rfl,rfl⟩
 | c::cs,cs',i,h=>by
  unfold vn at h;split at h
  ·rename_i b;cases b
  ·rename_i k v l b;injection b with e1 e2
   subst e1 e2;split at h
   ·rename_i d;injection h with h
    subst h;refine .inl ⟨0,v,by simp only[lQ,d,Nat.add_zero],by simp,?_,?_,rfl⟩
    ·simp[aY,fU,(Jk d).symm]
    ·simp[aY,fU]
   ·rename_i d;split at h
    case h_2=>cases h
    rename_i t q;injection h with h
    subst h;rcases yp m (i:=i+1) q with⟨j,u,f,n,s,r,p⟩ | ⟨f,n⟩
    ·refine .inl ⟨j+1,u,?_,by simp;omega,by simpa[aY] using s,by simp[aY,r],by simp[p]⟩;simp only[lQ,d];rw[f,show i+1+j=i+(j+1) by omega]
    ·refine .inr ⟨?_,by rw[n];rfl⟩;simp only[lQ,d];exact f
   ·cases h
  ·cases h
theorem Co {str:Bool}{key val:Value}{cs cs':List Value}(h:vn str key val cs=some cs'):mN cs'=true:=by
 unfold vn at h;split at h
 ·injection h with h;subst h;rfl
 ·split at h
  ·injection h with h;subst h;rfl
  ·split at h
   ·injection h with h;subst h;rfl
   ·cases h
  ·cases h
 ·cases h
section
variable {P:Program}{F:aA}{L:Loc}{ρ:Env}{a:Act}{w:World}{K:cF}{o:Oper}{Q:Exit->Act->World->Prop}
theorem sW (c:St F L w) {k g:Nat}{cs:List Value}(d:L.get k=some (.box g 0 cs)) (b:mN cs=true):w.heap[g]?=some (.map (aY cs 0).toArray cs.length):=by
 have h:=c.own k _ d;simp only[Own.ok,kR] at h;rw[yj b] at h;exact h
theorem Jm {str:Bool}{key:TypeId}{kv:Value}(b:P.underlying key=some (kindOf str)) (c:fq str kv kv=some true) (e:Bool):(Instr.checkKey e 10000 key kv).run P w=.ok () w:=by
 rw[show(10000:Nat)=9999+1 from rfl,Instr.checkKey];simp only[Sem.run_bind,run_underlying b,Result.andThen_ok];cases str<;>simp[kindOf,Sem.run_pure]
theorem Cp {str:Bool}{key:TypeId}{kv:Value}(b:P.underlying key=some (kindOf str)) (e:Bool):(Instr.checkKey e 10000 key kv).run P w=.ok () w:=by
 rw[show(10000:Nat)=9999+1 from rfl,Instr.checkKey];simp only[Sem.run_bind,run_underlying b,Result.andThen_ok];cases str<;>simp[kindOf,Sem.run_pure]
theorem rW {str:Bool}{key:TypeId}{kv:Value}{es:List MapEntry}{o:Option (Nat×Value)}(b:P.underlying key=some (kindOf str)) (h:Instr.findNow (kindOf str) kv es 0=some o):(Instr.findKey key kv es).run P w=.ok o w:=by
 simp only[Instr.findKey,Sem.run_bind,run_underlying b,Result.andThen_ok,h,Sem.run_pure]
theorem Gj {t:TypeId}(m:St F L w) (j:aC L ρ a) (f:∀k,o.dst=some k->k<a.tmps.size) (n:o.op=.makeMap t none)
  (b:evalOp P .mkmap o.dst F L ρ K):o.wp P a w (aZ F L w a K) Q:=by
 simp only[evalOp] at b;split at b
 case h_2=>exact b.elim
 rename_i _ k c;split at b
 case h_2=>exact b.elim
 rename_i _ p;have b:=b w.heap.size;obtain⟨d,l,h⟩:=lS m p (ob:=.map #[] 0) (e:=.box w.heap.size 0 []) rfl (by show _=_;rw[fV];rfl);refine fF j f (v:=.map (some w.heap.size)) (x:=.v (.map (some w.heap.size))) ?_ d l rfl bK dh h b;simp[execOp,n,run_makeMap]
theorem AQ {str ok:Bool}{t key e:TypeId}{y z:Operand}{y' s:X}{j:TypeInfo}{zv:Value}(q:St F L w) (h:aC L ρ a) (u:∀k,o.dst=some k->k<a.tmps.size)
  (ho:o.op=.lookup t y z ok) (ht:P.underlying t=some (.map key e)) (b:P.underlying key=some (kindOf str)) (hi:P.info? e=some j) (hz:j.zero=some zv) (hy:bh y=some y') (p:bh z=some s)
  (c:evalOp P (.mlook str ok zv y' s) o.dst F L ρ K):o.wp P a w (aZ F L w a K) Q:=by
 have ey:=aF hy h;have ez:=aF p h;simp only[evalOp,aI] at c;split at c
 case h_2=>exact c.elim
 rename_i g x;obtain⟨k,cs,hk,r,c⟩:=c;have hg:=sW q hk r;have d:(getObj g).run P w=.ok (.map (aY cs 0).toArray cs.length) w:=by simp[getObj,Sem.run,hg]
 have f:=Cp (w:=w) (kv:=val L ρ s) b (aY cs 0).toArray.isEmpty;rcases c.out with⟨i,v,l,n⟩ | ⟨l,n⟩
 ·have m:=rW (P:=P) (w:=w) b (nD l);refine bF q h u ?_ rfl bK dh n;simp only[execOp,ho,ey,ez,bB x,Instr.lookup,Sem.run_bind,run_underlying ht,Result.andThen_ok,d,Sem.run_pure,f,m];cases ok<;>simp[Sem.run_pure,conc]
 ·have m:=rW (P:=P) (w:=w) b (nD l);refine bF q h u ?_ rfl bK dh n;simp only[execOp,ho,ey,ez,bB x,Instr.lookup,Sem.run_bind,run_underlying ht,Result.andThen_ok,d,Sem.run_pure,f,m];cases ok<;>simp[Sem.run_pure,zeroValue,typeInfo,run_program,hi,hz,conc]
theorem Jo {t key e:TypeId}{y:Operand}{l:X}{c:Call}(m:St F L w) (j:aC L ρ a) (p:∀k,o.dst=some k->k<a.tmps.size)
  (ho:o.op=.call c) (s:c.callee=.builtin .len) (z:c.args=#[y]) (f:c.argTypes=#[t]) (ht:P.underlying t=some (.map key e)) (hy:bh y=some l)
  (b:evalOp P (.mlen l) o.dst F L ρ K):o.wp P a w (aZ F L w a K) Q:=by
 have r:=aF hy j;simp only[evalOp,aI] at b;split at b
 case h_2=>exact b.elim
 rename_i g q;obtain⟨k,cs,u,h,b⟩:=b;have n:=sW m u h;have d:(getObj g).run P w=.ok (.map (aY cs 0).toArray cs.length) w:=by simp[getObj,Sem.run,n]
 refine bF m j p (v:=.int .i64 cs.length) (x:=.v (.int .i64 cs.length)) ?_ rfl bK dh b;simp[execOp,ho,resolve,s,z,f,invoke,builtin,Builtin.len_,r,bB q,run_underlying ht,goInt,d,tX]
theorem Dn (r:St F L w) {k g:Nat}{cs cs':List Value}(d:L.get k=some (.box g 0 cs)):St F (L.set k (.box g 0 cs')) (setBlock w g (gP cs'))/\Step F L w F (L.set k (.box g 0 cs')) (setBlock w g (gP cs')) /\
  (∀j f ty xs,L.get j=some (.box f ty xs)->∃p,(L.set k (.box g 0 cs')).get j=some (.box f ty p)):=by
 have m:g<w.heap.size:=Own.WJ (r.own k _ d) rfl;have c:∀b,b≠g->(setBlock w g (gP cs')).heap[b]?=w.heap[b]?:=fun b hb=>by
  show(w.heap.setIfInBounds g (gP cs'))[b]?=_;rw[Array.getElem?_setIfInBounds,vv (fun e=>hb e.symm)]
 have n:w.heap.size<=(setBlock w g (gP cs')).heap.size:=by show _<=(w.heap.setIfInBounds g (gP cs')).size;simp
 refine⟨r.turn d ?_ (fun b hb l=>c b fun e=>l (by rw[e];rfl)) (fun f q=>.inl q),⟨aA.le_refl F,rfl,rfl,rfl,n,fun b hb s=>c b fun e=>s ⟨k,_,d,by rw[e];rfl⟩,fun b h=>.inl h,fun b h=>?_⟩,fun j f ty xs e=>?_⟩
 ·show(w.heap.setIfInBounds g (gP cs'))[g]?=_;rw[Array.getElem?_setIfInBounds,j3 rfl,j3 m];rfl
 ·rcases Loc.WD h with h | h
  ·exact .inl ⟨k,_,d,h⟩
  ·exact .inl h
 ·rw[Loc.Wt];split
  ·rename_i t;subst t;rw[d] at e;injection e with e
   injection e with e1 e2 e3
   subst e1 e2;exact⟨_,rfl⟩
  ·exact⟨xs,e⟩
theorem xG {str:Bool}{t key e:TypeId}{g:Nat}{kv p:Value}{cs cs':List Value}(x:P.underlying t=some (.map key e)) (b:P.underlying key=some (kindOf str))
  (s:w.heap[g]?=some (.map (aY cs 0).toArray cs.length)) (d:fq str kv kv=some true) (h:vn str kv p cs=some cs') :
  (Instr.mapUpdate t (.map (some g)) kv p).run P w=.ok () (setBlock w g (gP cs')):=by
 have k:(getObj g).run P w=.ok (.map (aY cs 0).toArray cs.length) w:=by simp[getObj,Sem.run,s]
 have f:∀o',(setObj g o').run P w=.ok () (setBlock w g o'):=fun o'=>by simp[setObj,Sem.run,s,setBlock]
 have m:=Jm (P:=P) (w:=w) (str:=str) (kv:=kv) b d false;rw[yj (Co h)];rcases yp d (i:=0) h with⟨j,v,q,u,h3,h4,y⟩ | ⟨q,u⟩
 ·have r:=rW (P:=P) (w:=w) b (nD q);have n:(((aY cs 0).toArray[0+j]?).map (·.key)).getD kv=kv:=by
   rw[Nat.zero_add];simp only[List.getElem?_toArray];rw[h3];rfl
  simp only[Instr.mapUpdate,Sem.run_bind,run_underlying x,Result.andThen_ok,k,m,r,n,Instr.keyThatStays,Jl d,XA,Sem.run_pure,f];rw[h4,y,Nat.zero_add];congr 3;apply Array.ext';simp
 ·have r:=rW (P:=P) (w:=w) b (nD q);simp only[Instr.mapUpdate,Sem.run_bind,run_underlying x,Result.andThen_ok,k,m,r,f];subst u;congr 3
  ·apply Array.ext';have:∀(l:List Value) (i:Nat),aY (l++[.agg #[kv,p]]) i=aY l i++[{key:=kv,val:=p,born:=i+l.length}]:=by
    intro l
    induction l with
    | nil=>intro i;simp[aY,fU]
    | cons c l z=>intro i;simp only[Xu,aY,z,Xv];rw[show i+1+l.length=i+(l.length+1) by omega]
   simp[this]
  ·simp
theorem uQ {str:Bool}{t key e:TypeId}{y z u:Operand}{n q r:X}(p:St F L w) (d:aC L ρ a) (x:∀k,o.dst=some k->k<a.tmps.size)
  (f:o.op=.mapUpdate t y z u\/o.op=.insert t y z u) (ht:P.underlying t=some (.map key e)) (h:P.underlying key=some (kindOf str)) (hy:bh y=some n) (hz:bh z=some q) (hu:bh u=some r)
  (b:evalOp P (.mupd str n q r) o.dst F L ρ K):o.wp P a w (aZ F L w a K) Q:=by
 have ey:=aF hy d;have ez:=aF hz d;have eu:=aF hu d;simp only[evalOp] at b;split at b
 case h_2=>exact b.elim
 rename_i g hm;obtain⟨k,cs,m,j,b⟩:=b;obtain⟨l,cs',c,b⟩:=b;have v:=sW p m j;obtain⟨s,h2,h3⟩:=Dn p m (cs':=cs');refine rT d x (w':=setBlock w g (gP cs')) ?_ s h2 h3 b;have hr:=xG (w:=w) ht h v l c;rcases f with f | f<;>simp[execOp,f,ey,ez,eu,bB hm,hr]
theorem EH {t key e:TypeId}{y:Operand}{l:X}(m:St F L w) (h:aC L ρ a) (q:∀k,o.dst=some k->k<a.tmps.size)
  (ho:o.op=.range t y) (ht:P.underlying t=some (.map key e)) (hy:bh y=some l) (b:evalOp P (.mrange l) o.dst F L ρ K):o.wp P a w (aZ F L w a K) Q:=by
 have s:=aF hy h;simp only[evalOp] at b;split at b
 case h_2=>exact b.elim
 rename_i _ g k r j;split at b
 case h_2=>exact b.elim
 rename_i _ z;obtain⟨km,cs,d,f,b⟩:=b;have p:=sW m d f;have c:(getObj g).run P w=.ok (.map (aY cs 0).toArray cs.length) w:=by simp[getObj,Sem.run,p]
 have b:=b w.heap.size;obtain⟨n,u,h3⟩:=lS m z (ob:=.mapIter (some g) cs.length #[] cs.length) (e:=.box w.heap.size 0 [.tuple #[.map (some g),.int .i64 cs.length]]) rfl (by show _=_;rw[fV];simp[kR,gP]);refine fF h q (v:=.pointer (some ⟨w.heap.size,0,none⟩)) (x:=.own k 0) ?_ n u ?_ ?_ (fun _ _ e=>by cases e) h3 b
 ·simp[execOp,ho,Instr.range,s,bB r,run_underlying ht,c]
 ·simp only[conc,Loc.Wt,XA]
 ·rintro k' off e;injection e with e1 e2
  subst e1;exact⟨_,_,_,by rw[Loc.Wt,j3 rfl]⟩
theorem Gk {y:Operand}{y':X}(hs:St F L w) (he:aC L ρ a) (hd:∀k,o.dst=some k->k<a.tmps.size)
  (ho:o.op=.next y false) (hy:bh y=some y') (r:evalOp P (.mnext y') o.dst F L ρ K):o.wp P a w (aZ F L w a K) Q:=by
 have ey:=aF hy he;simp only[evalOp] at r;split at r
 case h_2=>exact r.elim
 rename_i k hm;split at r
 case h_2=>exact r.elim
 rename_i gi g n b hk;obtain⟨km,cs,ap,ax,ac,q,aa⟩:=r.out;have hg:=sW hs ap ax;have ar:w.heap[gi]?=some (.mapIter (some g) n (b.map iN).toArray n):=by
  have h:=hs.own k _ hk;simp only[Own.ok,kR,gP] at h;exact h
 have z:a.eval y=.pointer (some ⟨gi,0,none⟩):=by rw[ey];simp only[val,hm,conc,hk]
 have ab:∀x∈(aY cs 0).toArray.toList,x.born<n:=by
  intro x hx;simp only[List.toList_toArray] at hx;obtain⟨j,d⟩:=XB.1 hx;rw[pD] at d;cases l:cs[j]? with
  | none=>rw[l] at d;cases d
  | some v =>
   rw[l] at d;simp only[X4,xo] at d;rw[<-d,lU];have:=(Xe.1 l).1;omega
 rcases run_next_at (P:=P) w o.type gi g n n (b.map iN).toArray (aY cs 0).toArray cs.length ar hg ab (Xy _) with⟨h0,f⟩ | ⟨e,m,w1,t,f⟩
 ·refine bF hs he hd (v:=.tuple #[.bool false]) (x:=.v (.tuple #[.bool false])) ?_ rfl bK dh (aa fun j d=>?_)
  ·simp only[execOp,ho,z,Sem.run_bind,f,Result.andThen_ok,Sem.run_pure]
  ·have l:∃v,cs[j]?=some v:=⟨cs[j]'(by omega),x5 (by omega)⟩;obtain⟨v,l⟩:=l;have aw:(aY cs 0)[j]?=some (fU v (0+j)):=by rw[pD,l];rfl
   have p:fU v (0+j)∈aY cs 0:=Xi aw;apply Classical.byContradiction;intro c;have s:fU v (0+j)∈(leftOf (aY cs 0).toArray (b.map iN).toArray).toList:=by
    unfold leftOf;simp only[Array.toList_filter,List.mem_filter,p,true_and];rw[lU];simpa using c
   have h2:(leftOf (aY cs 0).toArray (b.map iN).toArray)=#[]:=Array.eq_empty_of_size_eq_zero h0;rw[h2] at s;cases s
 ·unfold leftOf at m;simp only[Array.toList_filter,List.mem_filter] at m;obtain⟨p,c⟩:=m;obtain⟨j,d⟩:=XB.1 p;rw[pD] at d;cases l:cs[j]? with
  | none=>rw[l] at d;cases d
  | some v =>
   rw[l] at d;simp only[X4,xo,Nat.zero_add] at d;subst d;rw[lU] at f c;have al:j∉b.map iN:=by simpa using c
   have ag:=q j v l al;have av:St F L w1:=by rcases t with rfl | rfl;exact hs;exact hs.drew
   obtain⟨s,h2,h3⟩:=Dn av hk (cs':=.tuple #[.map (some g),.int .i64 n]::(b++[.int .i64 j]));have ay:Step F L w F L w1:=by
    rcases t with rfl | rfl
    ·exact Step.refl _ _ _
    ·exact⟨aA.le_refl F,rfl,rfl,rfl,Xy _,fun _ _ _=>rfl,fun _ h=>.inl h,fun _ h=>.inl h⟩
   have u:gP (.tuple #[.map (some g),.int .i64 n]::(b++[.int .i64 j]))=.mapIter (some g) n ((b.map iN).toArray.push j) cs.length:=by
    simp[gP,iN,ac]
   rw[u] at s h2;refine fF he hd (v:=.tuple #[.bool true,(fU v j).key,(fU v j).val]) (x:=.v (.tuple #[.bool true,(fU v j).key,(fU v j).val])) ?_ s (ay.trans h2) rfl bK dh h3 ag;simp only[execOp,ho,z,Sem.run_bind,f,Result.andThen_ok,Sem.run_pure]
theorem EI {y:Operand}{y':X}(hs:St F L w) (he:aC L ρ a) (hd:∀k,o.dst=some k->k<a.tmps.size)
  (ho:o.op=.entry y) (hy:bh y=some y') (p:evalOp P (.mentry y') o.dst F L ρ K):o.wp P a w (aZ F L w a K) Q:=by
 have ey:=aF hy he;simp only[evalOp] at p;split at p
 case h_2=>exact p.elim
 rename_i k hm;split at p
 case h_2=>exact p.elim
 rename_i gi g n d hk;obtain⟨km,cs,j,e,ad,al,s,b,hj,ae⟩:=p.out;have hg:=sW hs ad al;have t:w.heap[gi]?=some (.mapIter (some g) n (d.map iN).toArray n):=by
  have h:=hs.own k _ hk;simp only[Own.ok,kR,gP] at h;exact h
 have ab:a.eval y=.pointer (some ⟨gi,0,none⟩):=by rw[ey];simp only[val,hm,conc,hk]
 have f:∃l,d=l++[.int .i64 (.ofNat j)]:=by
  have q:d≠[]:=by rintro rfl;simp at b
  refine⟨d.dropLast,?_⟩;rw[List.getLast?_eq_some_getLast q] at b;injection b with b
  rw[<-b];exact(List.dropLast_concat_getLast q).symm
 obtain⟨l,rfl⟩:=f;have z:(aY cs 0)[j]?=some (fU e j):=by rw[pD,hj];simp
 have m:(fU e j).born=j:=lU e j;have aa:((aY cs 0).toArray.toList.map (·.born)).Nodup:=by
  have:∀(cs:List Value) (i:Nat),(aY cs i).map (·.born)=List.range' i cs.length:=by
   intro cs
   induction cs with
   | nil=>intro i;rfl
   | cons c cs ih=>intro i;simp[aY,lU,ih,List.range'_succ]
  simp only[List.toList_toArray,this];exact List.nodup_range' ..
 have r:((l++[Value.int .i64 (.ofNat j)]).map iN).toArray=(l.map iN).toArray.push (fU e j).born:=by
  rw[m];simp[iN]
 rw[r,<-s] at t;have u:=run_entry_at (P:=P) w gi g cs.length (l.map iN).toArray (aY cs 0).toArray cs.length (fU e j) t hg (by simpa using Xi z) aa;refine bF hs he hd (v:=.tuple #[(fU e j).key,(fU e j).val]) (x:=.v (.tuple #[(fU e j).key,(fU e j).val])) ?_ rfl bK dh ae;simp only[execOp,ho,ab,Sem.run_bind,u,Result.andThen_ok,Sem.run_pure]
end
section
variable {P:Program}{F:aA}{L:Loc}{ρ:Env}{a:Act}{w:World}{K:cF}{o:Oper}{Q:Exit->Act->World->Prop}
theorem Cq {zs:List Value}{l:List (Nat×Nat×X)}(h:(l.all fun p=>Nat.ble (p.1+p.2.1) zs.length)=true):∀off n x,(off,n,x)∈l->off+n<=zs.length:=by
 intro off n x b;have:=Xo.1 h _ b;exact Xq this
set_option maxHeartbeats 1000000 in
theorem eG {own:Bool}{s:dU}(hs:St F L w) (he:aC L ρ a) (hd:∀k,o.dst=some k->k<a.tmps.size) (j:gQ P own o.op=some s)
  (q:evalOp P s o.dst F L ρ K):o.wp P a w (aZ F L w a K) Q:=by
 cases ho:o.op<;>rw[ho] at j<;>simp only[gQ] at j<;>try (cases j;done)
 case move y =>
  split at j
  case h_2=>cases j
  rename_i x hx;injection j with j;subst j
  exact FY hs he hd (.inl ho) hx q
 case assign y =>
  split at j
  case h_2=>cases j
  rename_i x hx;injection j with j;subst j
  exact FY hs he hd (.inr ho) hx q
 case pick c y z =>
  split at j
  case h_2=>cases j
  rename_i l m p;injection j with j;subst j
  exact IY hs he hd ho l m p q
 case box t y =>
  split at j
  case h_2=>cases j
  rename_i l ap;have ap:=XT ap;injection j with j
  cases own
  ·subst j;exact MB hs he hd ho l ap q
  ·subst j;exact I0 hs he hd ho l q
 case alloc t =>
  split at j
  case h_2=>cases j
  rename_i l ap;have ap:=XT ap;split at j
  case h_2=>cases j
  rename_i m;injection j with j;subst j
  exact FZ hs he hd ho l m ap q
 case buildSlice t n ps =>
  split at j
  case h_2=>cases j
  rename_i l m;split at j
  case h_2=>cases j
  rename_i p;split at j
  case h_2=>cases j
  rename_i h4 h5 h6;have h4:=Xw h4;have h5:=Xw h5;injection j with j
  cases own
  ·subst j;exact MC hs he hd ho l p h6 m h4 h5.1 q
  ·subst j;exact MD hs he hd ho l p h6 m h4 h5.1 h5.2 q
 case build t ps =>
  split at j
  case h_2=>cases j
  rename_i l m;split at j
  case h_2=>cases j
  rename_i p h4;split at j
  case h_2=>cases j
  rename_i h5 h6;injection j with j;subst j
  exact F5 hs he hd ho l m p h4 (fun f hf=>Xo.1 h5 f hf) (Cq h6) q
 case load t y =>
  split at j
  ·rename_i d i x l m p;injection j with j
   refine I3 (d:=d) (i:=i) (n:=match di d with | true=>i.size | false=>1) hs he hd ho l m p rfl ?_;cases az:di d<;>simp only[az] at j ⊢<;>subst j<;>exact q
  ·rename_i l m p;cases y with
   | global g =>
    simp only[x6] at j;split at j
    ·rename_i h4;injection j with j;subst j
     exact AK hs he hd ho l m rfl h4 q
    ·cases j
   | tmp n=>cases j
   | const v=>cases j
   | func f=>cases j
  ·rename_i l m p;split at j
   case h_2=>injection j with j;subst j;exact False.elim q
   rename_i h4;injection j with j;subst j
   cases y with
   | global g =>
    simp only[x6] at h4;split at h4
    ·rename_i h5;injection h4 with h4;subst h4
     exact AK hs he hd ho l m rfl h5 q
    ·cases h4
   | tmp n=>cases h4
   | const v=>cases h4
   | func f=>cases h4
  ·injection j with j;subst j
   exact False.elim q
  ·cases j
 case lookup t y z ok =>
  split at j
  ·split at j
   case h_2=>cases j
   rename_i l m p;split at j
   case h_2=>cases j
   rename_i h4 h5;split at j
   case h_2=>cases j
   rename_i h6;injection j with j;subst j
   exact Je hs he hd ho l h4 h5 h6 m p q
  ·split at j
   case h_2=>cases j
   rename_i l m p;split at j
   case h_3=>cases j
   ·rename_i h4 h5;split at j
    case h_2=>cases j
    rename_i h6;injection j with j;subst j
    exact AQ (str:=false) hs he hd ho l h4 h5 h6 m p q
   ·rename_i h4 h5;split at j
    case h_2=>cases j
    rename_i h6;injection j with j;subst j
    exact AQ (str:=true) hs he hd ho l h4 h5 h6 m p q
 case makeMap t r =>
  cases r with
  | none =>
   simp only[gQ,xo] at j;subst j;exact Gj hs he hd ho q
  | some r=>simp only[gQ] at j;cases j
 case mapUpdate t y z u =>
  split at j
  case h_2=>cases j
  rename_i l m p h4;split at j
  case h_3=>cases j
  ·rename_i h5;injection j with j;subst j
   exact uQ (str:=false) hs he hd (.inl ho) l h5 m p h4 q
  ·rename_i h5;injection j with j;subst j
   exact uQ (str:=true) hs he hd (.inl ho) l h5 m p h4 q
 case insert t y z u =>
  split at j
  case h_2=>cases j
  rename_i l m p h4;split at j
  case h_3=>cases j
  ·rename_i h5;injection j with j;subst j
   exact uQ (str:=false) hs he hd (.inr ho) l h5 m p h4 q
  ·rename_i h5;injection j with j;subst j
   exact uQ (str:=true) hs he hd (.inr ho) l h5 m p h4 q
 case range t y =>
  split at j
  case h_2=>cases j
  rename_i l m;injection j with j;subst j
  exact EH hs he hd ho l m q
 case entry y =>
  split at j
  case h_2=>cases j
  rename_i l;injection j with j;subst j
  exact EI hs he hd ho l q
 case next y b =>
  cases b with
  | true=>simp only[gQ] at j;cases j
  | false =>
   simp only[gQ] at j;split at j
   case h_2=>cases j
   rename_i l;injection j with j;subst j
   exact Gk hs he hd ho l q
 case store t y z =>
  split at j
  case h_2=>cases j
  rename_i l m p;injection j with j;subst j
  exact Gg hs he hd ho l m p q
 case makeInterface t y =>
  split at j
  ·cases j
  ·rename_i d x l m p;injection j with j;subst j
   exact Jb hs he hd ho m l p q
  ·cases j
 case typeAssert y xt t ok =>
  cases ok with
  | false=>cases j
  | true =>
   simp only[] at j;split at j
   ·cases j
   ·rename_i d i x h4 l m p;split at j
    case h_2=>cases j
    rename_i h5;injection j with j;subst j
    exact MO hs he hd ho l h4 m h5 p q
   ·cases j
 case panic y =>
  split at j
  case h_2=>cases j
  injection j with j;subst j
  exact q.elim
 case nilCheck y =>
  split at j
  case h_2=>cases j
  rename_i l m;injection j with j;subst j
  exact Gf hs he hd ho l m q
 case binOp op t y z t' =>
  split at j
  case h_2=>cases j
  rename_i d x1 x2 l m p;split at j<;>first
   | (cases j;done)
   | (injection j with j;subst j;first
     | exact F7 (neg:=false) hs he hd ho l m p q
     | exact F7 (neg:=true) hs he hd ho l m p q
     | exact F8 (neg:=false) hs he hd ho l m p q
     | exact F8 (neg:=true) hs he hd ho l m p q
     | exact F9 (neg:=false) hs he hd ho l m p q
     | exact F9 (neg:=true) hs he hd ho l m p q
     | exact Ga (neg:=false) hs he hd ho l m p q
     | exact Ga (neg:=true) hs he hd ho l m p q
     | exact ME hs he hd ho m p q)
   | (split at j
      case h_2=>cases j
      rename_i k1 k2 k3;injection j with j;subst j
      first
       | exact Gd (neg:=false) hs he hd ho l k1 k2 k3 m p q
       | exact Gd (neg:=true) hs he hd ho l k1 k2 k3 m p q)
   | (split at j
      case h_2=>cases j
      rename_i k1;injection j with j;subst j
      first
       | exact Gb (neg:=false) hs he hd ho l m p k1 q
       | exact Gb (neg:=true) hs he hd ho l m p k1 q)
 case unOp op t y =>
  split at j
  case h_2=>cases j
  rename_i l;injection j with j;subst j
  exact Oz hs he hd ho l q
 case convert s t y =>
  split at j
  case h_4=>cases j
  ·rename_i l m p;injection j with j;subst j
   exact I4 hs he hd ho l m p q
  ·rename_i l m p;split at j
   case h_2=>cases j
   rename_i h4;injection j with j;subst j
   exact MK hs he hd ho l m h4 p q
  ·rename_i l m p;split at j
   case h_2=>cases j
   rename_i h4;injection j with j;subst j
   exact MS hs he hd ho l m h4 p q
 case makeFunc fn fi ca =>
  cases fn<;>simp only[] at j<;>try (cases j;done)
  ·split at j
   case h_2=>cases j
   rename_i l m;injection j with j;subst j
   exact I5 hs he hd ho l m q
  ·split at j
   case h_2=>cases j
   rename_i l m;injection j with j;subst j
   exact Jc hs he hd ho l m q
  ·split at j
   case h_2=>cases j
   rename_i l m;injection j with j;subst j
   exact Jd hs he hd ho l m q
 case makeSlice t y z =>
  split at j
  case h_2=>cases j
  rename_i l m p;split at j
  case h_2=>cases j
  rename_i h4;split at j
  case h_2=>cases j
  rename_i h5;split at j
  case h_2=>cases j
  rename_i h6 h7;injection j with j;subst j
  exact Gh hs he hd ho l h4 h5 (Xw h6) (Xw h7) m p q
 case slice t y lo up mx =>
  cases mx<;>simp only[] at j<;>try (cases j;done)
  split at j
  case h_3=>cases j
  ·rename_i l m p h4;split at j
   case h_2=>cases j
   rename_i h5;injection j with j;subst j
   exact MP hs he hd ho l h5 m p h4 q
  ·rename_i l m p h4;injection j with j;subst j
   exact Jg hs he hd ho l m p h4 q
 case fieldAddr t y f =>
  split at j
  case h_2=>cases j
  rename_i l m;split at j
  case h_2=>cases j
  rename_i p;split at j
  case h_2=>cases j
  rename_i h4;split at j
  case h_1=>cases j
  rename_i h5;injection j with j;subst j
  exact ED hs he hd ho l p h4 (XT h5) m q
 case field t y f =>
  split at j
  case h_2=>cases j
  rename_i l m;split at j
  case h_2=>cases j
  rename_i p;split at j
  case h_2=>cases j
  rename_i d i h4 h5;refine EC (n:=match di d with | true=>i.size | false=>1) hs he hd ho l p h4 h5 m rfl ?_;cases az:di d<;>simp only[az] at j ⊢<;>injection j with j<;>subst j<;>exact q
 case indexAddr t y z =>
  split at j
  case h_2=>cases j
  rename_i l m p;split at j
  case h_2=>cases j
  rename_i h4;injection j with j;subst j
  exact I7 hs he hd ho l h4 m p q
 case index t y z =>
  split at j
  case h_2=>cases j
  rename_i l m p;injection j with j;subst j
  exact I8 hs he hd ho l m p q
 case extract y i =>
  split at j
  case h_2=>cases j
  rename_i l;injection j with j;subst j
  exact I6 hs he hd ho l q
 case call c =>
  split at j
  case h_1=>cases j
  rename_i args al;split at j
  ·rename_i f hc;split at j
   case h_2=>cases j
   split at j
   case h_2=>cases j
   injection j with j;subst j
   exact Jj hs he hd ho hc al q
  ·rename_i y hc;split at j
   case h_2=>cases j
   rename_i l;injection j with j;subst j
   exact Gi hs he hd ho hc l al q
  ·rename_i n nm hc;injection j with j;subst j
   exact MR hs he hd ho hc al q
  ·cases j
  ·rename_i b hc;have one:∀{x:X},args=[x]->∃y,c.args=#[y]/\bh y=some x:=by
    intro x e;subst e
    match aE:c.args.toList,al with
    | [],h=>simp[fS] at h
    | [y],h =>
     refine⟨y,by apply Array.ext';simpa using aE,?_⟩;simp only[fS] at h;split at h
     case h_2=>cases h
     rename_i l m;injection h with h
     injection h with h _
     rw[l,h]
    | y::z::r,h =>
     simp only[fS] at h;split at h
     case h_2=>cases h
     rename_i l m;injection h with h
     injection h with _ h
     subst h;split at m
     ·injection m with m;cases m
     ·cases m
   have bb:∀{x x':X},args=[x,x']->∃y y',c.args=#[y,y']/\bh y=some x/\bh y'=some x':=by
    intro x x' e;subst e
    match aE:c.args.toList,al with
    | [],h=>simp[fS] at h
    | [y],h =>
     simp only[fS] at h;split at h
     case h_2=>cases h
     rename_i l m;injection m with m
     injection h with h
     injection h with _ h
     rw[h] at m;cases m
    | [y,y'],h =>
     refine⟨y,y',by apply Array.ext';simpa using aE,?_⟩;simp only[fS] at h;split at h
     case h_2=>cases h
     rename_i l m;injection h with h
     injection h with h h'
     split at m
     case h_2=>cases m
     rename_i p h4;injection m with m
     rw[<-m] at h';injection h' with h' _
     exact⟨by rw[l,h],by rw[p,h']⟩
    | y::z::u::r,h =>
     simp only[fS] at h;split at h
     case h_2=>cases h
     rename_i l m;injection h with h
     injection h with _ h
     subst h;split at m
     case h_2=>cases m
     rename_i p h4;injection m with m
     injection m with _ m
     subst m;split at h4
     ·injection h4 with h4;cases h4
     ·cases h4
   have ay:∀{t:TypeId},c.argTypes.toList=[t]->c.argTypes=#[t]:=fun e=>by apply Array.ext';simpa using e
   have ax:∀{t t':TypeId},c.argTypes.toList=[t,t']->c.argTypes=#[t,t']:=fun e=>by apply Array.ext';simpa using e
   split at j
   ·rename_i x t am;obtain⟨y,ha,hy⟩:=one rfl;split at j
    ·rename_i l;injection j with j;subst j
     exact ML hs he hd ho hc ha (ay am) l hy q
    ·rename_i l;injection j with j;subst j
     exact I9 hs he hd ho hc ha (ay am) l hy q
    ·rename_i l;injection j with j;subst j
     exact Jo hs he hd ho hc ha (ay am) l hy q
    ·cases j
   ·rename_i x t am;obtain⟨y,ha,hy⟩:=one rfl;split at j
    ·rename_i l;injection j with j;subst j
     exact Ja hs he hd ho hc ha (ay am) l hy q
    ·cases j
   ·injection j with j;subst j
    exact LX (mx:=true) hs he hd ho hc al q
   ·injection j with j;subst j
    exact LX (mx:=false) hs he hd ho hc al q
   ·rename_i x x' t t' am;obtain⟨y,y',ha,hy,ar⟩:=bb rfl;split at j
    ·rename_i l m;split at j
     case h_2=>cases j
     rename_i p;split at j
     case h_2=>cases j
     rename_i h4;split at j
     case h_2=>cases j
     rename_i h5 h6 h7;have h5:=Xw h5;subst h5;injection j with j;subst j
     exact MQ hs he hd ho hc ha (ax am) l p h4 (Xw h6) (Xw h7) hy ar q
    ·rename_i l m;split at j
     case h_2=>cases j
     rename_i p;split at j
     case h_2=>cases j
     rename_i h4;split at j
     case h_2=>cases j
     rename_i h5 h6 h7;have h5:=Xw h5;subst h5;injection j with j;subst j
     exact Jh hs he hd ho hc ha (ax am) l m p h4 (Xw h6) (Xw h7) hy ar q
    ·rename_i l m;split at j
     case h_2=>cases j
     rename_i p;split at j
     case h_2=>cases j
     rename_i h4;split at j
     case h_2=>cases j
     rename_i h5 h6;have h5:=Xw h5;subst h5;injection j with j;subst j
     exact Ji hs he hd ho hc ha (ax am) l m p h4 (Xw h6) hy ar q
    ·cases j
   ·rename_i x x' t t' am;obtain⟨y,y',ha,hy,ar⟩:=bb rfl;split at j
    ·rename_i l m;split at j
     case h_2=>cases j
     rename_i p;split at j
     case h_2=>cases j
     rename_i h5 h6;injection j with j;subst j
     exact Dk hs he hd ho hc ha (ax am) l p (Xw h6) hy ar q
    ·rename_i l m;split at j
     case h_2=>cases j
     rename_i p;split at j
     case h_2=>cases j
     rename_i h6;injection j with j;subst j
     exact Dk hs he hd ho hc ha (ax am) l p (Xw h6) hy ar q
    ·cases j
   ·cases j
end
structure cQ where
 n:Nat
 own:List Nat:=[]
 frz:List (Nat×Nat×List Nat):=[]
 ord:List (Nat×List Nat×List (List Nat)):=[]
 co:List Nat:=[]
 pan:List (Nat×Nat):=[]
 bx:List Nat:=[]
 fl:List Nat:=[]
 px:List Nat:=[]
 bk:List (Nat×Nat):=[]
def tY:List (Nat×Nat)->Nat->Nat->Bool
 | [],_,_=>false
 | (r,i)::l,b,c=>match Nat.beq r b&&Nat.beq i c with | true=>true | false=>tY l b c
def mY (b:Bool) (d:Option Nat) (s:dU) (g:Option (Nat×Bool)):ak:=match b with | true=>.pc d s g | false=>.op d s g
def cQ.owned (A:cQ):Option Nat->Bool
 | some d=>fw A.own d
 | none=>false
def cQ.isO (A:cQ):Option Nat->Bool
 | some d=>fw A.co d
 | none=>fw A.co 999999
def cQ.isX (A:cQ):Option Nat->Bool
 | some d=>fw A.px d
 | none=>fw A.px 999999
def Gl:List (Nat×Nat×List Nat)->Nat->Nat->List Nat
 | [],_,_=>[]
 | (r,i,ks)::l,b,c=>match Nat.beq r b&&Nat.beq i c with | true=>ks | false=>Gl l b c
def Gm:List (Nat×List Nat×List (List Nat))->Nat->Option (List Nat×List (List Nat))
 | [],_=>none
 | (r,is)::l,b=>match Nat.beq r b with | true=>some is | false=>Gm l b
def rX (l:List (Nat×List Nat×List (List Nat))) (r:Nat):List Nat:=match Gm l r with | some (is,_)=>is | none=>[]
def gS (c:Array Oper):Option (Nat×Bool)->Option (Option (Nat×Bool))
 | none=>some none
 | some (j,b)=>match(c[j]?).bind (·.dst) with
  | some d=>some (some (d,b))
  | none=>none
def LY (n:Nat):Option Nat->Bool
 | none=>true
 | some d=>Nat.blt d n
def pE (P:Program) (A:cQ) (r:Nat) (b:Array Oper):List Nat->Option (List ak)
 | []=>some []
 | i::is=>match b[i]? with
  | none=>none
  | some o=>match gS b o.guard,gQ P (A.owned o.dst) o.op,LY A.n o.dst,pE P A r b is with
   | some g,some s,true,some c=>some ((Gl A.frz r i).map .frz++mY (tY A.pan r i) o.dst s g::c)
   | _,_,_,_=>none
section
variable {P:Program}{F:aA}{L:Loc}{ρ:Env}{a:Act}{w:World}{K:cF}{Q:Exit->Act->World->Prop}
def dZ (n:Nat) (F:aA) (L:Loc) (w:World) (a:Act) (asg:List Nat) (K:cF) (b:Act) (w':World):Prop :=
 ∃F' L' ρ',St F' L' w'/\aC L' ρ' b/\b.tmps.size=n/\b.defers=a.defers/\Step F L w F' L' w'/\(∀j,j∉asg->b.tmps.getD j undef=a.tmps.getD j undef)/\K F' L' ρ'
theorem nE {k:Nat}{KK:aA->Loc->Prop}(hs:St F L w) (he:aC L ρ a) (h:LW F L k KK):∃F' L',St F' L' w/\aC L' ρ a/\Step F L w F' L' w/\KK F' L':=by
 obtain⟨v,t,sz,n,xs,hk,hK⟩:=h;have d:=hs.own k _ hk;simp only[Own.ok] at d;have s:=hs.part (Loc.WU L k);have m:aC (L.del k) ρ a:=by
  have hb:∀j g ty cs,L.get j=some (.box g ty cs)->(L.del k).get j=some (.box g ty cs):=by
   intro j g ty cs e;rw[Loc.Wy];split
   ·rename_i hj;subst hj;rw[hk] at e;cases e
   ·exact e
  refine⟨fun j=>?_,fun j r off e=>?_,he.el⟩
  ·rw[he.eq j];cases e:ρ j with
   | v x=>rfl
   | el x y=>rfl
   | own r off =>
    obtain⟨g,ty,cs,c⟩:=he.own j r off e;simp only[conc,c,hb r g ty cs c]
  ·obtain⟨g,ty,cs,c⟩:=he.own j r off e;exact⟨g,ty,cs,hb r g ty cs c⟩
 have ae:∀g,v.ownBlock=some g->¬(L.del k).owns g:=by
  rintro g c ⟨j,p,e,hb⟩;rw[Loc.Wy] at e;split at e
  ·cases e
  ·rename_i hj;exact hj (hs.sep j k p _ g e hk hb c)
 obtain⟨hx,f⟩:=d;rcases f with⟨rfl,rfl⟩ | ⟨g,cap,ad,rfl,ao,c,ag,an,ap,l⟩
 ·refine⟨F,L.del k,s,m,⟨aA.le_refl F,rfl,rfl,rfl,Xy _,fun _ _ _=>rfl,fun b h=>.inl h,fun b h=>.inl (Loc.WL h)⟩,hK F (aA.le_refl F) (.inl ⟨rfl,rfl,XD (by simpa using hx)⟩)⟩
 ·have q:=aA.WK hs c;refine⟨_,L.del k,s.freeze c (ae g rfl),m,⟨q,rfl,rfl,rfl,Xy _,fun _ _ _=>rfl,fun b h=>?_,fun b h=>.inl (Loc.WL h)⟩,hK _ q (.inr ⟨⟨g,0,none⟩,cap,rfl,⟨_,ad,t,(0,0),rfl,j3 rfl,rfl,fun i u z=>?_⟩,ag⟩)⟩
  ·by_cases o:b=g
   ·subst o;exact .inr (.inl ⟨k,_,hk,rfl⟩)
   ·simp only[vv o] at h;exact .inl h
  ·rw[<-l,XL] at z;split at z
   ·exact⟨by simpa using z,rP _⟩
   ·cases z
theorem q9 {k g:Nat}{t:TypeId}{cs:List Value}(n:St F L w) (q:aC L ρ a) (m:L.get k=some (.box g t cs)) :
  ∃F',F.le F'/\F' g=some (kR t cs)/\St F' (L.del k) w/\aC (L.del k) (vp k g ρ) a/\Step F L w F' (L.del k) w:=by
 have o:=n.own k _ m;simp only[Own.ok] at o;have u:=n.part (Loc.WU L k);have f:=aA.WK n o;have r:¬(L.del k).owns g:=by
  rintro⟨j,p,e,hb⟩;rw[Loc.Wy] at e;split at e
  ·cases e
  ·rename_i hj;exact hj (n.sep j k p _ g e m hb rfl)
 refine⟨_,f,j3 rfl,u.freeze o r,⟨fun j=>?_,fun j s off e=>?_,fun j ad i e=>?_⟩,⟨f,rfl,rfl,rfl,Xy _,fun _ _ _=>rfl,fun b h=>?_,fun b h=>.inl (Loc.WL h)⟩⟩
 ·rw[q.eq j];simp only[vp];cases e:ρ j with
  | v x=>rfl
  | el x y=>rfl
  | own s off =>
   simp only[];cases hb:Nat.beq s k with
   | true =>
    have:=v8 hb;subst this;simp only[conc,m]
   | false =>
    have c:s≠k:=fun e=>by rw[e] at hb;simp at hb
    simp only[conc];rw[Loc.Wy,vv c]
 ·simp only[vp] at e;split at e
  ·rename_i k2 l z;cases hb:Nat.beq k2 k with
   | true=>rw[hb] at e;cases e
   | false =>
    rw[hb] at e;injection e with e3 e4
    subst e3;have c:k2≠k:=fun e=>by rw[e] at hb;simp at hb
    rw[Loc.Wy,vv c];exact q.own j k2 l z
  ·cases e
  ·cases e
 ·simp only[vp] at e;split at e
  ·split at e<;>cases e
  ·cases e
  ·rename_i a2 i2 z;injection e with h1 h2
   subst h1;exact q.el j _ _ z
 ·by_cases d:b=g
  ·subst d;exact .inr (.inl ⟨k,_,m,rfl⟩)
  ·simp only[vv d] at h;exact .inl h
theorem qq {s:Nat}{b:Bool}(h:a.tmps.getD s undef=.bool b):a.tmps[s]?=some (.bool b):=by
 rw[XC] at h;cases e:a.tmps[s]? with
 | none=>rw[e] at h;simp[undef] at h
 | some v=>rw[e] at h;simp at h;rw[h]
theorem ku {ρ:Env}{s:Nat}{v:Value}(h:ρ s=.v v):put (some s) (.v v) ρ=ρ:=by
 funext t
 rw[put_eq];simp only[];split
 ·rename_i b;subst b;exact h.symm
 ·rfl
def dstsOf (b:Array Oper):List Nat->List Nat
 | []=>[]
 | i::is=>match(b[i]?).bind (·.dst) with | some d=>d::dstsOf b is | none=>dstsOf b is
theorem jO {d:Option Nat}{v:Value}{j:Nat}(h:d≠some j):(a.put d v).tmps.getD j undef=a.tmps.getD j undef:=by
 cases d with
 | none=>rfl
 | some k =>
  simp only[Act.put,XC,Array.getElem?_setIfInBounds];rw[vv (by intro e;exact h (by rw[e]))]
theorem pF {o:Oper}{asg:List Nat}{KK:Act->World->Prop}(b:o.wp P a w KK Q) :
  o.wp P a w (fun f w'=>KK f w'/\∀j,o.dst≠some j->f.tmps.getD j undef=a.tmps.getD j undef) Q:=by
 unfold Oper.wp at b ⊢;generalize(execOp a.eval o).run P w=r at b ⊢;cases r with
 | ok k w' =>
  cases k<;>simp only[Oper.upon] at b ⊢<;>first
   | exact⟨b,fun j h=>jO h⟩
   | exact Calls.mono b (fun e d c=>by cases e<;>first | exact⟨c,fun j h=>jO h⟩ | exact c)
   | exact Rows.mono b (fun v d c=>⟨c,fun j h=>jO h⟩)
 | halt x w'=>cases x<;>simp only[Oper.upon] at b ⊢<;>exact b
theorem sZ {c:Code}(I:Nat->Act->World->Prop) (y:∃n,I n a w)
  (q:∀n a w,I n a w->c.wp P (Exit.then (fun s w'=>∃m,m<n/\I m s w') Q) a w):(Code.loop c).wp P Q a w:=by
 intro b k cs;have key:∀n a w,I n a w->∃e s w',Q e s w'/\Arrives P (lone (b.at a (.code c::.inLoop c::k)) cs w) b k cs e s w':=by
  intro n
  induction n using Nat.strongRecOn with
  | _ n ih =>
   intro a w z;obtain⟨e,h,f,o,d⟩:=q n a w z b (.inLoop c::k) cs;cases e with
   | normal =>
    obtain⟨m,aa,r⟩:=o;obtain⟨t,v,u,p,j⟩:=ih m aa h f r;exact⟨t,v,u,p,.of_steps (Steps.trans d (.one step_inLoop)) j⟩
   | exit id=>exact⟨_,h,f,o,.pass (x:=.inLoop c) rfl (fun _ _=>.inl (by simp)) d⟩
   | goto l=>exact⟨_,h,f,o,.pass (x:=.inLoop c) rfl (fun _ _=>.inl (by simp)) d⟩
   | ret=>exact⟨_,h,f,o,.pass (x:=.inLoop c) rfl (fun _ _=>.inl (by simp)) d⟩
   | panic ch=>exact⟨_,h,f,o,.pass (x:=.inLoop c) rfl (fun _ _=>.inl (by simp)) d⟩
   | outgrown=>exact⟨_,h,f,o,.pass (x:=.inLoop c) rfl (fun _ _=>.inl (by simp)) d⟩
 obtain⟨n,z⟩:=y;obtain⟨e,s,w',o,d⟩:=key n a w z;exact⟨e,s,w',o,.of_steps (.one step_loop) d⟩
theorem lJ:∀{L L':Loc},L.keeps L'->∀{k g t cs},L.get k=some (.box g t cs)->∃cs',L'.get k=some (.box g t cs')
 | [],L',_,k,g,t,cs,e=>by cases e
 | (j,.box c d cs')::l,L',h,k,g,t,cs,e=>by
  simp only[Loc.keeps] at h;simp only[Loc.get] at e;split at e
  ·rename_i b;have:=v8 b;subst this;injection e with e
   injection e with e1 e2 e3
   subst e1 e2;exact h.1
  ·exact lJ h.2 e
 | (j,.row ..)::l,L',h,k,g,t,cs,e=>by
  simp only[Loc.keeps] at h;simp only[Loc.get] at e;split at e
  ·cases e
  ·exact lJ h e
theorem lK {L:Loc}:∀{L':Loc},L.gives L'->∀{k o},L'.get k=some o->L.get k=some o\/(L.get k=none/\∃t sz,o=.row (.slice none 0 0) t sz 0 [])
 | [],_,k,o,e=>by cases e
 | (j,p)::l,h,k,o,e=>by
  simp only[Loc.gives] at h;simp only[Loc.get] at e;split at e
  ·rename_i b;have:=v8 b;subst this;injection e with e
   subst e;exact h.1
  ·exact lK h.2 e
theorem St.gives {L':Loc}(c:St F L w) (h:L.gives L'):St F L' w:=by
 refine⟨c.frz,fun k o e=>?_,fun k o g e hb=>?_,fun k l o o' g e m hb d=>?_,c.glob⟩
 ·rcases lK h e with b | ⟨_,t,sz,rfl⟩
  ·exact c.own k o b
  ·exact World.ownsRow_nil w 0 t sz
 ·rcases lK h e with b | ⟨_,t,sz,rfl⟩
  ·exact c.off k o g b hb
  ·cases hb
 ·rcases lK h e with b | ⟨_,t,sz,rfl⟩<;>rcases lK h m with f | ⟨_,n,j,rfl⟩
  ·exact c.sep k l o o' g b f hb d
  ·cases d
  ·cases hb
  ·cases hb
theorem rf {L':Loc}(h:L.gives L'):Step F L w F L' w :=
 ⟨aA.le_refl F,rfl,rfl,rfl,Xy _,fun _ _ _=>rfl,fun b h=>.inl h,fun b ⟨k,o,e,hb⟩=>by
  rcases lK h e with c | ⟨_,t,sz,rfl⟩
  ·exact .inl ⟨k,o,c,hb⟩
  ·cases hb⟩
theorem cI:∀{l:List Nat}{k:Nat},fw l k=true↔k∈l
 | [],k=>by simp[fw]
 | j::l,k=>by
  simp only[fw];split
  ·rename_i h;have:=v8 h;subst this;simp
  ·rename_i h;have:=eZ h;rw[cI];simp only[Xh];constructor
   ·exact .inr
   ·rintro(h | h)
    ·exact v7 h.symm this
    ·exact h
theorem jl:∀(b:List Nat) (vs:List Value) (ρ:Env) (j:Nat),(puts b (vs.map .v) ρ j=ρ j)\/∃v,puts b (vs.map .v) ρ j=.v v
 | [],vs,ρ,j=>.inl rfl
 | k::b,[],ρ,j=>.inl rfl
 | k::b,v::vs,ρ,j=>by
  simp only[Xj,puts,put_eq];split
  ·exact .inr ⟨v,rfl⟩
  ·exact jl b vs ρ j
theorem ri {L:Loc}:∀(c:List Nat) (vs:List Value) (ρ b:Env) {a:Act},(∀t,a.tmps.getD t undef=conc L (ρ t))->holds c (vs.map .v) ρ->∀j,(∃v,puts c (vs.map .v) b j=.v v/\a.tmps.getD j undef=v)\/puts c (vs.map .v) b j=b j
 | [],vs,ρ,b,a,d,h,j=>.inr rfl
 | k::c,[],ρ,b,a,d,h,j=>.inr rfl
 | k::c,v::vs,ρ,b,a,d,h,j=>by
  simp only[Xj,holds] at h;simp only[Xj,puts,put_eq];split
  ·rename_i e;subst e;exact .inl ⟨v,rfl,by rw[d,h.1];rfl⟩
  ·exact ri c vs ρ b d h.2 j
end
end Go.Fr
