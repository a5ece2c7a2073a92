/- Part of the proofs of the statements of this seat. -/
import Derived.Orders
import Derived.Below
import Derived.Laws.OwnMore
import Derived.Maps.AppendAt
import Derived.WalkKit
import Derived.KernelRfl
import Derived.Lib.AppendStr
import Derived.Laws.BytesString
import Derived.Laws.StructEq
import Derived.Lib.AppendZeros
import Derived.ArgAppend
import Derived.Laws.CopyRow
import Derived.Laws.IdiomCopy
import Derived.Carry
import Derived.Maps.RangeRun
set_option maxRecDepth 10000
set_option linter.unusedVariables false
set_option linter.unusedSimpArgs false
namespace Go.Fr
open Go Go.RowKit
abbrev j3:=@if_pos
abbrev p7:=@congrArg
abbrev vv:=@if_neg
abbrev xo:=@absurd
abbrev yo:=@Nat.eq_of_beq_eq_true
abbrev WY:=@Option.some.injEq
abbrev WZ:=@List.getElem?_eq_getElem
abbrev W4:=@List.mem_append
abbrev W5:=@List.getElem?_eq_some_iff
abbrev W6:=@Bool.and_eq_true
abbrev W7:=@List.mem_cons
abbrev W8:=@List.length_append
abbrev W9:=@List.mem_of_getElem?
abbrev Xa:=@List.map_cons
abbrev Xb:=@List.append_assoc
abbrev Xc:=@List.getElem?_append_left
abbrev Xd:=@Bool.false_eq_true
abbrev Xe:=@List.getElem?_eq_none
abbrev Xf:=@List.all_eq_true
abbrev Xg:=@List.getElem?_cons_zero
abbrev Xh:=@Nat.le_of_ble_eq_true
abbrev Xi:=@List.getElem?_append_right
abbrev Xj:=@List.length_map
abbrev Xk:=@List.cons_append
abbrev Xl:=@List.length_cons
abbrev Xm:=@of_decide_eq_true
abbrev Xn:=@Nat.le_refl
abbrev Xo:=@List.length_take
abbrev Xp:=@List.append_nil
abbrev Xq:=@if_true
abbrev Xr:=@List.mem_iff_getElem?
abbrev Xt:=@Array.getD_eq_getD_getElem?
abbrev Xu:=@List.eq_nil_of_length_eq_zero
abbrev Xv:=@List.mem_cons_of_mem
abbrev Xw:=@Int.le_refl
abbrev Xx:=@Nat.zero_le
abbrev Xy:=@List.getElem?_drop
abbrev Xz:=@List.mem_map
abbrev XA:=@Bool.or_eq_true
abbrev XB:=@List.getElem?_take
abbrev XC:=@if_false
abbrev XD:=@List.nil_append
abbrev XE:=@List.length_nil
abbrev XF:=@List.ext_getElem?
abbrev XG:=@Bool.and_false
abbrev XH:=@List.getElem?_map
abbrev XI:=@of_decide_eq_false
abbrev XJ:=@List.mem_singleton
abbrev XK:=@Nat.le_trans
abbrev XL:=@List.length_replicate
abbrev XM:=@List.getElem?_cons_succ
abbrev XO:=@List.take_of_length_le
abbrev XP:=@Bool.false_ne_true
abbrev XQ:=@decide_eq_true_eq
abbrev XR:=@List.length_drop
abbrev XS:=@List.replicate_succ
abbrev XT:=@List.getElem?_eq_none_iff
abbrev XU:=@Option.map_some
abbrev XV:=@List.map_map
abbrev XW:=@List.drop_eq_getElem_cons
abbrev XY:=@Bool.true_and
abbrev XZ:=@List.map_congr_left
abbrev X0:=@List.map_nil
abbrev X1:=@Bool.false_and
abbrev X2:=@List.getElem?_set_ne
abbrev X3:=@Bool.and_true
abbrev aA:=Nat->Option Obj
def aA.le (F G:aA):Prop:=∀b o,F b=some o->G b=some o
theorem aA.le_refl (F:aA):F.le F:=fun _ _ h=>h
theorem aA.le_trans {F G H:aA}(h:F.le G) (k:G.le H):F.le H:=fun b o e=>k b o (h b o e)
def nQ:Nat:=2 ^ 64
def Mi:Nat->Value
 | 0=>.slice none 0 0
 | m+1=>.slice (some ⟨m / (nQ*nQ),0,none⟩) (m / nQ % nQ) (m % nQ)
def i9 (k:Nat) (F:aA) (v:Value):Prop:=(k=0/\v=.nilIface)\/∃m,k=m+1/\v=Mi m
theorem i9.mono {k:Nat}{F G:aA}{v:Value}(h:F.le G) (r:i9 k F v):i9 k G v:=r
theorem i9.one {k:Nat}{F:aA}{v:Value}(r:i9 k F v):v.oneCell'=true:=by
 rcases r with⟨_,rfl⟩ | ⟨m,_,rfl⟩
 ·rfl
 ·cases m<;>rfl
theorem za {F:aA}:i9 0 F .nilIface:=.inl ⟨rfl,rfl⟩
def FN:Nat->Option Nat
 | 0=>none
 | 1=>some 0
 | m+2=>some (m / nQ % nQ)
theorem Iw {F:aA}{k n:Nat}{v:Value}(h:i9 k F v) (e:FN k=some n):∃a c,v=.slice a n c:=by
 rcases h with⟨rfl,_⟩ | ⟨m,rfl,rfl⟩
 ·cases e
 ·cases m with
  | zero=>injection e with e;subst e;exact⟨none,0,rfl⟩
  | succ m=>injection e with e;subst e;exact⟨_,_,rfl⟩
def qO (F:aA):Prop:=True
theorem qO.mono {F G:aA}(h:F.le G) (g:qO F):qO G:=g
def uH (g:Nat):Option Nat:=none
theorem FO {F:aA}{g k:Nat}(h:qO F) (e:uH g=some k):∃v t a,F g=some (.cells #[v] t a)/\i9 k F v:=by cases e
def uI (k:Nat) (n:Int):Option (Int×Bool):=none
theorem FP {F:aA}{k:Nat}{v:Value}{n r:Int}{b:Bool}(h:i9 k F v) (e:uI k n=some (r,b)) :
  ∃m es a,v=.map (some m)/\F m=some (.map es a)/\es.isEmpty=false /\
   ∃o,Instr.findNow (.int .i64) (.int .i64 n) es.toList 0=some o/\((b=true/\∃i,o=some (i,.int .i64 r))\/(b=false/\r=0/\o=none)):=by cases e
theorem Ar {k:Nat}{n r:Int}{b:Bool}(e:uI k n=some (r,b)):(Lit.int .i64 r).wf=true:=by cases e
def Cf (k:Nat):Option Bool:=match k with | 0=>some true | _=>none
theorem FQ {F:aA}{k:Nat}{v:Value}{b:Bool}(h:i9 k F v) (e:Cf k=some b):(b=true->v=.nilIface)/\(b=false->∃t u,v=.iface t u):=by
 unfold Cf at e;split at e
 case h_2=>cases e
 injection e with e;subst e
 refine⟨fun _=>?_,fun e=>by cases e⟩;rcases h with h | ⟨m,h,_⟩
 ·exact h.2
 ·cases h
def Iy:Bool:=false
def Et:List (TypeId×String):=[(60,"leasehold/snapshot.num"),(60,"leasehold/snapshot.size"),(52,"leasehold/snapshot.num"),(52,"leasehold/snapshot.size"),(94,"leasehold/snapshot.num"),(94,"leasehold/snapshot.size")]
inductive SV where
 | v (x:Value)
 | own (k off:Nat)
 | el (a:Option Addr) (j:Nat)
 deriving Inhabited
inductive Own where
 | box (g:Nat) (t:TypeId) (cs:List Value)
 | row (v:Value) (t:TypeId) (sz n:Nat) (xs:List Value)
def Own.blk:Own->Option Nat
 | .box g _ _=>some g
 | .row v _ _ _ _=>v.ownBlock
abbrev Loc:=List (Nat×Own)
def Loc.get:Loc->Nat->Option Own
 | [],_=>none
 | (j,o)::l,k=>match Nat.beq j k with | true=>some o | false=>Loc.get l k
def Loc.set:Loc->Nat->Own->Loc
 | [],k,o=>[(k,o)]
 | (j,p)::l,k,o=>match Nat.beq j k with
  | true=>(k,o)::l
  | false=>match Nat.ble j k with
   | true=>(j,p)::Loc.set l k o
   | false=>(k,o)::(j,p)::l
def Loc.del:Loc->Nat->Loc
 | [],_=>[]
 | (j,o)::l,k=>match Nat.beq j k with | true=>Loc.del l k | false=>(j,o)::Loc.del l k
abbrev Env:=Nat->SV
def put (d:Option Nat) (v:SV) (ρ:Env):Env :=
 match d with
 | some d=>fun j=>match Nat.beq j d with | true=>v | false=>ρ j
 | none=>ρ
def conc (L:Loc):SV->Value
 | .v x=>x
 | .own k off=>match L.get k with | some (.box g _ _)=>.pointer (some ⟨g,off,none⟩) | _=>undef
 | .el a j=>match a with | some ad=>.pointer (some (ad.add j)) | none=>undef
def fQ:Value->Nat->MapEntry
 | .agg ⟨[k,v]⟩,i=>{key:=k,val:=v,born:=i}
 | v,i=>{key:=v,val:=v,born:=i}
def iN:Value->Nat
 | .int _ n=>n.toNat
 | _=>0
def aY:List Value->Nat->List MapEntry
 | [],_=>[]
 | v::l,i=>fQ v i::aY l (i+1)
def gL:List Value->Obj
 | .tuple ⟨[.map (some m),.int .i64 n]⟩::a=>.mapIter (some m) n.toNat (a.map iN).toArray n.toNat
 | es=>.map (aY es 0).toArray es.length
def kO:TypeId->List Value->Obj
 | 0,cs=>gL cs
 | t+1,cs=>.cells cs.toArray (t+1) (0,0)
theorem gD {t:TypeId}(h:t≠0) (cs:List Value):kO t cs=.cells cs.toArray t (0,0):=by
 cases t with
 | zero=>exact xo rfl h
 | succ t=>rfl
def Own.ok (w:World):Own->Prop
 | .box g t cs=>w.heap[g]?=some (kO t cs)
 | .row v t sz n xs=>w.ownsRow 0 t sz v n xs
structure St (F:aA) (L:Loc) (w:World):Prop where
 frz:∀b o,F b=some o->w.heap[b]?=some o
 own:∀k o,L.get k=some o->o.ok w
 off:∀k o g,L.get k=some o->o.blk=some g->F g=none
 sep:∀k k' o o' g,L.get k=some o->L.get k'=some o'->o.blk=some g->o'.blk=some g->k=k'
 glob:qO F
def Loc.owns (L:Loc) (b:Nat):Prop:=∃k o,L.get k=some o/\o.blk=some b
structure Step (F:aA) (L:Loc) (w:World) (F':aA) (L':Loc) (w':World):Prop where
 le:F.le F'
 os:w'.os=w.os
 tape:w'.tape=w.tape
 output:w'.output=w.output
 size:w.heap.size<=w'.heap.size
 same:∀b,b<w.heap.size->¬L.owns b->w'.heap[b]?=w.heap[b]?
 frz:∀b,F' b≠none->F b≠none\/L.owns b\/w.heap.size<=b
 own:∀b,L'.owns b->L.owns b\/w.heap.size<=b
def nR (a:Nat×Nat) (i:Nat):Prop:=¬(a.1<=i/\i<a.2)
theorem rL (i:Nat):nR (0,0) i:=fun h=>by cases h.2
def bN (F:aA) (a:Option Addr) (j:Nat) (cs:List Value):Prop :=
 ∃c b t d,a=some c/\F c.block=some (.cells b t d)/\c.spot=none/\∀(i:Nat) (v:Value),cs[i]?=some v->b[c.off+j+i]?=some v/\nR d (c.off+j+i)
def jY:Nat->List Own->Loc
 | _,[]=>[]
 | k,o::l=>(k,o)::jY (k+1) l
def inp (l:List Own):Loc:=jY 1000 l
structure CallsA (P:Program) (f:FuncId) (args:Array Value) (F:aA) (Lin:List Own) (R:aA->List Own->Value->Prop):Prop where
 ent:∃fn,P.funcs[f]?=some fn/\fn.body.isSome=true/\(fn.name == "runtime.NumGoroutine")=false
 mono:∀F G L v,F.le G->R F L v->R G L v
 run:∀w,St F (inp Lin) w->Calls P f args w fun e w'=>∃v F' Lo,e=.returned v/\St F' (inp Lo) w'/\Step F (inp Lin) w F' (inp Lo) w'/\R F' Lo v
def Ca (v:Value) (b:List PanicEntry):Prop:=∃a,b={v,recovered:=false}::a/\∀e∈a,e.goexit=false
theorem Ca.one (v:Value):Ca v [{v,recovered:=false}]:=⟨[],rfl,fun e h=>by cases h⟩
structure sO (P:Program) (f:FuncId) (args:Array Value) (F:aA) (Lin:List Own) (R:aA->List Own->Value->Prop) (Pp:Value->Prop):Prop where
 ent:∃fn,P.funcs[f]?=some fn/\fn.body.isSome=true/\(fn.name == "runtime.NumGoroutine")=false
 mono:∀F G L v,F.le G->R F L v->R G L v
 run:∀w,St F (inp Lin) w->Calls P f args w fun e w'=>(∃v F' Lo,e=.returned v/\St F' (inp Lo) w'/\Step F (inp Lin) w F' (inp Lo) w'/\R F' Lo v) \/
  ∃v ch F' Lo,e=.panicked ch/\Ca v ch/\St F' (inp Lo) w'/\Step F (inp Lin) w F' (inp Lo) w'/\Lo.length=Lin.length/\(∀(i:Nat) g t cs,Lin[i]?=some (.box g t cs)->∃cs',Lo[i]?=some (.box g t cs'))/\Pp v
theorem CallsA.toX {P:Program}{f:FuncId}{args:Array Value}{F:aA}{Lin:List Own}{R:aA->List Own->Value->Prop}{Pp:Value->Prop}(h:CallsA P f args F Lin R):sO P f args F Lin R Pp :=
 ⟨h.ent,h.mono,fun w a=>(h.run w a).mono fun _ _ k=>.inl k⟩
structure uJ (P:Program) (f:FuncId) (args:Array Value) (F:aA) (Lin:List Own) (R:aA->List Own->Value->Prop) (Pp:aA->List Own->Value->Prop):Prop where
 ent:∃fn,P.funcs[f]?=some fn/\fn.body.isSome=true/\(fn.name == "runtime.NumGoroutine")=false
 mono:∀F G L v,F.le G->R F L v->R G L v
 run:∀w,St F (inp Lin) w->Calls P f args w fun e w'=>(∃v F' Lo,e=.returned v/\St F' (inp Lo) w'/\Step F (inp Lin) w F' (inp Lo) w'/\R F' Lo v) \/
  ∃v ch F' Lo,e=.panicked ch/\Ca v ch/\St F' (inp Lo) w'/\Step F (inp Lin) w F' (inp Lo) w'/\Lo.length=Lin.length/\(∀(i:Nat) g t cs,Lin[i]?=some (.box g t cs)->∃cs',Lo[i]?=some (.box g t cs'))/\Pp F' Lo v
theorem sO.toS {P:Program}{f:FuncId}{args:Array Value}{F:aA}{Lin:List Own}{R:aA->List Own->Value->Prop}{Pp:Value->Prop}(h:sO P f args F Lin R Pp):uJ P f args F Lin R (fun _ _=>Pp):=⟨h.ent,h.mono,h.run⟩
inductive X where
 | t (n:Nat)
 | c (v:Value)
 | fn (f:Nat)
 | mt (nm:String) (n:Nat)
 deriving Inhabited
def Og (nm:String):SV->SV
 | .v x=>.v (.func (.method nm) #[x] #[])
 | .own _ _=>.v undef
 | .el _ _=>.v undef
def ev (ρ:Env):X->SV
 | .t n=>ρ n
 | .c v=>.v v
 | .fn f=>.v (.func (.func f) #[] #[])
 | .mt nm n=>Og nm (ρ n)
def m9 (P:Program) (t:TypeId) (nm:String):Option FuncId :=
 match P.info? t with
 | some i=>match i.methods.find? (·.name == nm) with
  | some m=>match m.path.toList,m.func with
   | [],some (f,a)=>match P.underlying t,a with
    | some (.pointer _),true=>some f
    | some (.pointer _),false=>none
    | some _,false=>some f
    | _,_=>none
   | _,_=>none
  | none=>none
 | none=>none
def LG:List (TypeId×String)->TypeId->String->Bool
 | [],_,_=>false
 | (t,nm)::l,b,a=>match Nat.beq t b,decide (nm=a) with | true,true=>true | _,_=>LG l b a
def LH (P:Program):Bool:=Et.all fun x=>(m9 P x.1 x.2).isSome
def kY (P:Program):SV->Option (Nat×List Value×List Value)
 | .v (.func (.func f) fi ca)=>some (f,fi.toList,ca.toList)
 | .v (.func (.method nm) fi ca)=>match fi.toList with
  | [.iface t u]=>match m9 P t nm with
   | some f=>some (f,[u],[])
   | none=>none
  | _=>none
 | _=>none
def xW (P:Program) (f:SV) (args:List Value):Option (Nat×List Value) :=
 match f,args with
 | .v (.func (.methodOf t nm) ⟨[]⟩ _),.iface b u::a=>match P.underlying t with
  | some (.interface _)=>match m9 P b nm with
   | some f=>some (f,u::a)
   | none=>none
  | _=>none
 | _,_=>none
def val (L:Loc) (ρ:Env) (x:X):Value:=conc L (ev ρ x)
inductive dS where
 | mov (x:X)
 | pick (c a b:X)
 | box (t:TypeId) (x:X)
 | boxF (t:TypeId) (x:X)
 | alloc (t:TypeId) (zs:List Value)
 | mkF (e:TypeId) (n sz:Nat) (xs:List X)
 | mkR (e:TypeId) (n sz:Nat) (xs:List X)
 | build (zs:List Value) (ps:List (Nat×Nat×X))
 | load (agg:Bool) (n:Nat) (x:X)
 | loadD (agg:Bool) (n:Nat) (x:X)
 | store (n:Nat) (a x:X)
 | nilck (x:X)
 | bin (op:BinOp) (x y:X)
 | eqB (neg:Bool) (x y:X)
 | eqP (neg:Bool) (x y:X)
 | eqS (neg:Bool) (x y:X)
 | eqF (neg:Bool) (x y:X)
 | eqN (neg:Bool) (x:X)
 | tas (t:TypeId) (z:Value) (x:X)
 | eqA (neg:Bool) (ks:List Bool) (x y:X)
 | un (op:UnOp) (x:X)
 | conv (k:IntKind) (x:X)
 | b2s (x:X)
 | s2b (e:TypeId) (x:X)
 | mkfn (f:Nat) (first cap:List X)
 | makeS (e:TypeId) (sz bytes:Nat) (zs:List Value) (l c:X)
 | slc (sz:Nat) (x:X) (lo hi:Option X)
 | slcS (x:X) (lo hi:Option X)
 | fieldA (off:Nat) (x:X)
 | fieldV (agg:Bool) (off n:Nat) (x:X)
 | idxA (sz:Nat) (x i:X)
 | idxS (x i:X)
 | extr (x:X) (i:Nat)
 | call (f:Nat) (args:List X)
 | callV (f:X) (args:List X)
 | callD (f:Nat) (args:List X)
 | boxD (t:TypeId) (x:X)
 | allocD (t:TypeId) (zs:List Value)
 | mkFD (e:TypeId) (n sz:Nat) (xs:List X)
 | callVD (f:X) (args:List X)
 | callO (f:Nat) (args:List X)
 | callVO (f:X) (args:List X)
 | len (x:X)
 | lenS (x:X)
 | capa (x:X)
 | mm (mx:Bool) (args:List X)
 | app (e:TypeId) (sz bytes:Nat) (zs:List Value) (s x:X)
 | appD (e:TypeId) (sz bytes:Nat) (zs:List Value) (s x:X)
 | storeD (n:Nat) (a x:X)
 | appX (e:TypeId) (sz bytes:Nat) (zs:List Value) (s x:X)
 | appS (e:TypeId) (s x:X)
 | appZ (e:TypeId) (bytes:Nat) (k:IntKind) (s x:X)
 | copy (e:TypeId) (sz:Nat) (d s:X)
 | mkif (t:TypeId) (x:X)
 | b2sD (x:X)
 | b2sR (x:X)
 | makeSD (e sz n:Nat) (zs:List Value)
 | makeSV (e sz b:Nat) (zs:List Value) (x:X)
 | loadK (key:Nat) (agg:Bool) (n:Nat) (x:X)
 | storeK (key n:Nat) (a x:X)
 | copyX (e:TypeId) (sz:Nat) (d s:X)
 | storeX (n:Nat) (a x:X)
 | pan (x:X)
 | gload (g:Nat)
 | look (x i:X)
 | mkmv (nm:String) (x:X)
 | loadF (agg:Bool) (n:Nat) (x:X)
 | loadR (agg:Bool) (n:Nat) (x:X)
 | mkmap
 | mlook (str ok:Bool) (z:Value) (x i:X)
 | mupd (str:Bool) (x i v:X)
 | mlen (x:X)
 | mrange (x:X)
 | mnext (x:X)
 | mentry (x:X)
 | dead
 deriving Inhabited
structure Sd where
 dst:Option Nat
 op:dS
 guard:Option (Nat×Bool)
 deriving Inhabited
abbrev cE:=aA->Loc->Env->Prop
def aM (cs:List Value) (off:Nat) (vs:List Value):List Value:=cs.take off++vs++cs.drop (off+vs.length)
structure Fit (k:IntKind) (n:Int) (K:Int->Prop):Prop where
 out:K (k.wrap n)
structure mT (n:Int) (K:Prop):Prop where
 ne:n≠0
 out:K
structure Mj (i:Int) (n:Int) (K:Prop):Prop where
 lo:0<=i
 hi:i<n
 out:K
structure Da (a:Option Addr) (i:Int) (n:Int) (K:Prop):Prop where
 ne:a≠none
 lo:0<=i
 hi:i<n
 out:K
structure ja (F:aA) (L:Loc) (a:Option Addr) (j n:Nat) (K:List Value->Prop):Prop where
 out:∃cs,cs.length=n/\(bN F a j cs\/(∃k v t sz m xs ad c,L.get k=some (.row v t sz m xs)/\a=some ad/\v=.slice (some ad) m c/\∀(i:Nat) (u:Value),cs[i]?=some u->xs[j+i]?=some u)\/n=0\/∃k g t bs o,L.get k=some (.box g t bs)/\t≠0/\a=some ⟨g,o,none⟩/\∀(i:Nat) (u:Value),cs[i]?=some u->bs[o+j+i]?=some u)/\K cs
structure Oh (F:aA) (g:Nat) (K:Value->Prop):Prop where
 out:∃v t fr,F g=some (.cells #[v] t fr)/\K v
structure gY (F:aA) (a:Option Addr) (j n:Nat) (K:List Value->Prop):Prop where
 out:∃cs,cs.length=n/\(bN F a j cs\/n=0)/\K cs
structure zb (L:Loc) (a:Option Addr) (j:Nat) (cs:List Value) (K:Loc->Prop):Prop where
 out:∃k v t sz m xs ad c,L.get k=some (.row v t sz m xs)/\a=some ad/\v=.slice (some ad) m c/\j+cs.length<=xs.length/\(∀u∈cs,u.oneCell'=true) /\
  K (L.set k (.row v t sz m (aM xs j cs)))
structure rM (F:aA) (L:Loc) (a:Option Addr) (j:Nat) (cs:List Value) (K:Loc->Prop):Prop where
 out:zb L a j cs K\/(bN F a j cs/\(∀u∈cs,u.oneCell'=true)/\K L)
def Loc.sub (L:Loc):List Nat->Option (List Own)
 | []=>some []
 | k::ks=>match L.get k,Loc.sub L ks with
  | some o,some l=>some (o::l)
  | _,_=>none
def Loc.Wi (L:Loc):List Nat->Loc
 | []=>L
 | k::ks=>Loc.Wi (L.del k) ks
def Loc.puts (L:Loc):List Nat->List Own->Loc
 | k::ks,o::l=>Loc.puts (L.set k o) ks l
 | _,_=>L
structure cV (P:Program) (f:Nat) (args:List Value) (F:aA) (L:Loc) (K:aA->Loc->Value->Prop):Prop where
 out:∃(ks ko:List Nat) (Lin:List Own) (R:aA->List Own->Value->Prop),L.sub ks=some Lin/\ks.Nodup/\ko.Nodup/\(∀k,k∈ko->k∈ks\/L.get k=none)/\CallsA P f args.toArray F Lin R /\
  ∀v F' Lo,F.le F'->R F' Lo v->ko.length=Lo.length /\
   (∀k g t cs,k∈ks->L.get k=some (.box g t cs)->∃cs',Loc.get ((L.Wi ks).puts ko Lo) k=some (.box g t cs')) /\
   K F' ((L.Wi ks).puts ko Lo) v
def Real (F:aA) (L:Loc):Prop:=∃w,St F L w
inductive dP (P:Program) (f:Nat) (args:List Value) (F:aA) (L:Loc) (d:Option Nat) (K:aA->Loc->Value->Prop):Prop
 | frz (R:aA->List Own->Value->Prop) (h:CallsA P f args.toArray F [] R) (k:∀v F' Lo,F.le F'->R F' Lo v->Lo=[]/\(Real F' L->K F' L v))
 | own (R:aA->List Own->Value->Prop) (k:Nat) (h:CallsA P f args.toArray F [] R) (hd:d=some k) (hk:L.get k=none)
   (kk:∀v F' Lo,F.le F'->R F' Lo v->∃o,Lo=[o]/\(Real F' (L.set k o)->K F' (L.set k o) v))
 | row (R:aA->List Own->Value->Prop) (kr:Nat) (rv:Value) (t:TypeId) (sz n:Nat) (xs:List Value) (h:CallsA P f args.toArray F [.row rv t sz n xs] R) (hk:L.get kr=some (.row rv t sz n xs))
   (kk:∀v F' Lo,F.le F'->R F' Lo v->Lo=[]/\(Real F' (L.set kr (.row (.slice none 0 0) t sz 0 []))->K F' (L.set kr (.row (.slice none 0 0) t sz 0 [])) v))
 | lent (R:aA->Value->Prop) (kr:Nat) (rv:Value) (t:TypeId) (sz n:Nat) (xs:List Value) (h:CallsA P f args.toArray F [.row rv t sz n xs] (fun F' Lo v=>Lo=[.row rv t sz n xs]/\R F' v)) (hk:L.get kr=some (.row rv t sz n xs))
   (kk:∀v F',F.le F'->R F' v->Real F' L->K F' L v)
structure Db (F:aA) (L:Loc) (e:TypeId) (sz bytes:Nat) (s x:Value) (K:Loc->Value->Prop):Prop where
 out:∃(kd:Nat) (n:Nat) (xs:List Value) (m:Nat) (news:List Value),
  (L.get kd=some (.row s e sz n xs)\/(L.get kd=none/\n=0/\xs=[]/\s=.slice none 0 0)\/(L.get kd=none/\∃ad,s=.slice (some ad) n n/\0<m/\xs.length=n*sz/\(bN F (some ad) 0 xs\/(n=0/\xs=[])))) /\
  (∃a c,x=.slice a m c/\news.length=m*sz/\(bN F a 0 news\/(m=0/\news=[]) \/
    ∃k v t sz' m' ys ad c',L.get k=some (.row v t sz' m' ys)/\a=some ad/\v=.slice (some ad) m' c'/\∀(i:Nat) (u:Value),news[i]?=some u->ys[i]?=some u)) /\
  (∀u∈news,u.oneCell'=true)/\n+m<=maxLen/\(n+m)*bytes<=140737488355328 /\
  ∀v,(∃a c,v=.slice a (n+m) c/\(a=none->n+m=0))->K (L.set kd (.row v e sz (n+m) (xs++news))) v
structure oW (F:aA) (L:Loc) (d:Option Nat) (e:TypeId) (sz bytes:Nat) (s x:Value) (K:Loc->Value->Prop):Prop where
 out:∃(kd:Nat) (n:Nat) (xs:List Value) (m:Nat) (news:List Value),
  (L.get kd=some (.row s e sz n xs)\/(d=some kd/\L.get kd=none/\n=0/\xs=[]/\s=.slice none 0 0) \/
   (d=some kd/\L.get kd=none/\∃ad,s=.slice (some ad) n n/\0<m/\xs.length=n*sz/\(bN F (some ad) 0 xs\/(n=0/\xs=[])))) /\
  (∃a c,x=.slice a m c/\news.length=m*sz/\(bN F a 0 news\/(m=0/\news=[]))) /\
  (∀u∈news,u.oneCell'=true)/\n+m<=maxLen/\(n+m)*bytes<=140737488355328 /\
  ∀v,(∃a c,v=.slice a (n+m) c/\(a=none->n+m=0))->Real F (L.set kd (.row v e sz (n+m) (xs++news)))->K (L.set kd (.row v e sz (n+m) (xs++news))) v
structure Mk (L:Loc) (e:TypeId) (s:Value) (t:ByteArray) (K:Loc->Value->Prop):Prop where
 out:∃(kd:Nat) (n:Nat) (xs:List Value),
  (L.get kd=some (.row s e 1 n xs)\/(L.get kd=none/\n=0/\xs=[]/\s=.slice none 0 0)) /\
  n+t.size<=maxLen/\(n+t.size)<=140737488355328 /\
  ∀v,(∃a c,v=.slice a (n+t.size) c/\(a=none->n+t.size=0))->K (L.set kd (.row v e 1 (n+t.size) (xs++t.data.toList.map fun b=>Value.int .u8 b.toNat))) v
structure FR (L:Loc) (e:TypeId) (bytes:Nat) (ki:IntKind) (s:Value) (m:Nat) (K:Loc->Value->Prop):Prop where
 out:∃(kd:Nat) (n:Nat) (xs:List Value),
  (L.get kd=some (.row s e 1 n xs)\/(L.get kd=none/\n=0/\xs=[]/\s=.slice none 0 0)) /\
  n+m<=maxLen/\(n+m)*bytes<=140737488355328 /\
  ∀v,(∃a c,v=.slice a (n+m) c/\(a=none->n+m=0))->K (L.set kd (.row v e 1 (n+m) (xs++List.replicate m (.int ki 0)))) v
structure ze (F:aA) (L:Loc) (e:TypeId) (sz:Nat) (d x:Value) (K:Loc->Nat->Prop):Prop where
 out:(∃(k n:Nat) (v:Value) (nr:Nat) (xs:List Value) (ad:Addr) (cr cd j m:Nat) (a:Option Addr) (c:Nat) (news:List Value),
  L.get k=some (.row v e sz nr xs)/\v=.slice (some ad) nr cr/\d=.slice (some (ad.add (j*sz))) n cd/\j+n<=nr /\
  x=.slice a m c/\news.length=(min m n)*sz/\(bN F a 0 news\/(min m n=0/\news=[]))/\(∀u∈news,u.oneCell'=true) /\
  K (L.set k (.row v e sz nr (aM xs (j*sz) news))) (min m n)) \/
  ∃(da:Option Addr) (n cd:Nat) (a:Option Addr) (m c:Nat),d=.slice da n cd/\x=.slice a m c/\min m n=0/\K L 0
structure Iz (L:Loc) (e:TypeId) (d:Value) (t:ByteArray) (K:Loc->Nat->Prop):Prop where
 out:∃(k n:Nat) (v:Value) (nr:Nat) (xs:List Value) (ad:Addr) (cr cd j:Nat),
  L.get k=some (.row v e 1 nr xs)/\v=.slice (some ad) nr cr/\d=.slice (some (ad.add j)) n cd/\j+n<=nr /\
  K (L.set k (.row v e 1 nr (aM xs j ((t.data.toList.take n).map fun b=>Value.int .u8 b.toNat)))) (min t.size n)
structure zf (cs:List Value) (K:List UInt8->Prop):Prop where
 out:∃bs:List UInt8,cs=bs.map (fun b=>Value.int .u8 b.toNat)/\K bs
structure PY (L:Loc) (a:Option Addr) (n:Nat) (K:List UInt8->Prop):Prop where
 out:∃k t c,∃bs:List UInt8,L.get k=some (.row (.slice a n c) t 1 n (bs.map (fun b=>Value.int .u8 b.toNat)))/\bs.length=n/\(a=none->n=0)/\K bs
def mI:List Value->Bool
 | .tuple _::_=>false
 | _=>true
def fj:Bool->Value->Value->Option Bool
 | false,.int .i64 a,.int .i64 b=>some (decide (a=b))
 | true,.string a,.string b=>some (decide (a.data.toList=b.data.toList))
 | _,_,_=>none
def lM (str:Bool) (key:Value):List Value->Nat->Option (Option (Nat×Value))
 | [],_=>some none
 | .agg ⟨[k,v]⟩::l,i=>match fj str key k with
  | some true=>some (some (i,v))
  | some false=>lM str key l (i+1)
  | none=>none
 | _::_,_=>none
def vg (str:Bool) (key val:Value):List Value->Option (List Value)
 | []=>some [.agg #[key,val]]
 | .agg ⟨[k,v]⟩::l=>match fj str key k with
  | some true=>some (.agg #[key,val]::l)
  | some false=>match vg str key val l with | some l'=>some (.agg #[k,v]::l') | none=>none
  | none=>none
 | _::_=>none
structure Au (L:Loc) (g:Nat) (K:Nat->List Value->Prop):Prop where
 out:∃k cs,L.get k=some (.box g 0 cs)/\mI cs=true/\K k cs
structure Dc (str:Bool) (cs:List Value) (key:Value) (ok:Bool) (z:Value) (K:Value->Prop):Prop where
 out:(∃i v,lM str key cs 0=some (some (i,v))/\K (match ok with | true=>.tuple #[v,.bool true] | false=>v))\/(lM str key cs 0=some none/\K (match ok with | true=>.tuple #[z,.bool false] | false=>z))
structure Ml (str:Bool) (cs:List Value) (key val:Value) (K:List Value->Prop):Prop where
 isKey:fj str key key=some true
 out:∃cs',vg str key val cs=some cs'/\K cs'
structure Mn (L:Loc) (k gi g n:Nat) (seen:List Value) (K:Loc->Value->Prop):Prop where
 out:∃km cs,L.get km=some (.box g 0 cs)/\mI cs=true/\cs.length=n/\(∀j e,cs[j]?=some e->j∉seen.map iN->K (L.set k (.box gi 0 (.tuple #[.map (some g),.int .i64 n]::(seen++[.int .i64 j])))) (.tuple #[.bool true,(fQ e j).key,(fQ e j).val])) /\
  ((∀j,j<n->j∈seen.map iN)->K L (.tuple #[.bool false]))
structure IA (L:Loc) (g n:Nat) (seen:List Value) (K:Value->Prop):Prop where
 out:∃km cs j e,L.get km=some (.box g 0 cs)/\mI cs=true/\cs.length=n/\seen.getLast?=some (.int .i64 (.ofNat j))/\cs[j]?=some e/\K (.tuple #[(fQ e j).key,(fQ e j).val])
structure Mp (F:aA) (mv:Value) (n:Int) (K:Int->Bool->Prop):Prop where
 out:∃k r b,i9 k F mv/\uI k n=some (r,b)/\K r b
structure sP (n c:Int) (bytes:Nat) (K:Nat->Prop):Prop where
 lo:0<=n
 le:n<=c
 hi:c.toNat*bytes<=140737488355328
 max:c.toNat<=maxLen
 out:K n.toNat
structure mJ (l h:Int) (c:Nat) (K:Nat->Nat->Prop):Prop where
 lo:0<=l
 le:l<=h
 hi:h<=c
 out:K l.toNat h.toNat
abbrev vh:Bool->Prop->Prop->Prop
 | true,A,_=>A
 | false,_,B=>B
def aH:Value->List Value
 | .agg cs=>cs.toList
 | v=>[v]
def bf (L:Loc) (ρ:Env):List X->List Value
 | []=>[]
 | x::xs=>val L ρ x::bf L ρ xs
def cellsOf (L:Loc) (ρ:Env):List X->List Value
 | []=>[]
 | x::xs=>aH (val L ρ x)++cellsOf L ρ xs
def fM (agg:Bool) (cs:List Value):Value :=
 match agg,cs with
 | true,cs=>.agg cs.toArray
 | false,[v]=>v
 | false,_=>undef
def eT:List Value->Nat->Bool
 | [],0=>true
 | _::l,n+1=>eT l n
 | _,_=>false
def iB (t:TypeId) (l:List Value) (n:Nat):Bool:=match Nat.beq t 0 with | true=>false | false=>eT l n
def eU (L:Loc) (ρ:Env) (sz:Nat):List X->Bool
 | []=>true
 | x::xs=>match eT (aH (val L ρ x)) sz with | true=>eU L ρ sz xs | false=>false
def iS:List Value->Bool
 | []=>true
 | v::l=>match v.oneCell' with | true=>iS l | false=>false
def mU:Bool->Bool->Bool
 | true,b=>!b
 | false,b=>b
def qC (a b:ByteArray):Bool:=decide (a.data.toList=b.data.toList)
def LI (a b:ByteArray):Bool:=Op.bytesLess a.data.toList b.data.toList
def built (L:Loc) (ρ:Env):List Value->List (Nat×Nat×X)->Option (List Value)
 | zs,[]=>some zs
 | zs,(off,n,x)::ps=>match eT (aH (val L ρ x)) n with
  | true=>built L ρ (aM zs off (aH (val L ρ x))) ps
  | false=>none
def LJ (mx:Bool):Int->List SV->Option Int
 | a,[]=>some a
 | a,.v (.int _ b)::l=>LJ mx (match mx with | true=>if b>a then b else a | false=>if b<a then b else a) l
 | _,_=>none
def fu (a:Option Addr) (c l h sz:Nat):Value:=.slice (if c=l then a else a.map (·.add (l*sz))) (h-l) (c-l)
def iY (ρ:Env) (d:Int):Option X->Option Int
 | none=>some d
 | some x=>match ev ρ x with | .v (.int _ i)=>some i | _=>none
def lN:Value->Nat
 | .int _ m=>m.toNat
 | _=>0
def rN (b:Nat):Value->Bool
 | .int _ m=>Nat.ble (m.toNat*b) 140737488355328&&Nat.ble m.toNat 9223372036854775807&&decide (0<=m)
 | _=>false
theorem Av {b:Nat}{v:Value}(h:rN b v=true):∃k m,v=.int k m/\0<=m/\lN v=m.toNat/\m.toNat*b<=140737488355328/\m.toNat<=maxLen:=by
 cases v<;>simp only[rN] at h<;>try (cases h;done)
 rename_i k m;simp only[W6,XQ] at h;exact⟨k,m,rfl,h.2,rfl,Xh h.1.1,Xh h.1.2⟩
theorem Eu {b:Nat}{v:Value}(h:rN b v=true):lN v<=maxLen:=by
 obtain⟨k,m,rfl,_,e,_,a⟩:=Av h;rw[e];exact a
def binI (op:BinOp) (k:IntKind) (a b:Int) (K:Value->Prop):Prop :=
 match op with
 | .add=>Fit k (a+b) fun n=>K (.int k n)
 | .sub=>Fit k (a-b) fun n=>K (.int k n)
 | .mul=>Fit k (a*b) fun n=>K (.int k n)
 | .quo=>mT b (Fit k (a.tdiv b) fun n=>K (.int k n))
 | .rem=>mT b (K (.int k (a.tmod b)))
 | .and=>K (.int k (k.wrap (BitVec.ofInt k.bits a &&& BitVec.ofInt k.bits b).toNat))
 | .or=>K (.int k (k.wrap (BitVec.ofInt k.bits a ||| BitVec.ofInt k.bits b).toNat))
 | .xor=>K (.int k (k.wrap (BitVec.ofInt k.bits a ^^^ BitVec.ofInt k.bits b).toNat))
 | .andNot=>K (.int k (k.wrap (BitVec.ofInt k.bits a &&& ~~~ BitVec.ofInt k.bits b).toNat))
 | .eql=>K (.bool (decide (a=b)))
 | .neq=>K (.bool (!decide (a=b)))
 | .lss=>K (.bool (decide (a<b)))
 | .leq=>K (.bool (decide (a<=b)))
 | .gtr=>K (.bool (decide (b<a)))
 | .geq=>K (.bool (decide (b<=a)))
 | _=>False
def shI (op:BinOp) (k:IntKind) (a b:Int) (K:Value->Prop):Prop :=
 match op with
 | .shl=>0<=b/\Fit k (a*2 ^ (min b.toNat k.bits)) fun n=>K (.int k n)
 | .shr=>0<=b/\K (.int k (a.fdiv (2 ^ (min b.toNat k.bits))))
 | _=>False
def binS (op:BinOp) (a b:ByteArray) (K:Value->Prop):Prop :=
 match op with
 | .add=>((a.size+b.size:Nat):Int)<=IntKind.i64.max/\K (.string (a++b))
 | .eql=>K (.bool (qC a b))
 | .neq=>K (.bool (!qC a b))
 | .lss=>K (.bool (LI a b))
 | .geq=>K (.bool (!LI a b))
 | _=>False
def oZ:IntKind->IntKind->Bool
 | .i64,.i64=>true | .u8,.u8=>true | .u64,.u64=>true | .i32,.i32=>true | .u16,.u16=>true | .u32,.u32=>true | .i8,.i8=>true | .i16,.i16=>true
 | _,_=>false
def FT:BinOp->Bool
 | .shl | .shr=>true
 | _=>false
def iC:List Bool->List Value->List Value->Bool->Option Bool
 | [],[],[],c=>some c
 | true::ks,.int k a::l,.int e b::d,c=>match oZ k e with | true=>iC ks l d (c&&decide (a=b)) | false=>none
 | false::ks,.bool a::l,.bool b::d,c=>iC ks l d (c&&decide (a=b))
 | _,_,_,_=>none
def aI (o:dS) (F:aA) (L:Loc) (ρ:Env) (V:SV->Prop):Prop :=
 match o with
 | .mov x=>V (ev ρ x)
 | .pick c a b=>match ev ρ c with
  | .v (.bool true)=>V (ev ρ a)
  | .v (.bool false)=>V (ev ρ b)
  | _=>False
 | .build zs ps=>match built L ρ zs ps with
  | some cs=>V (.v (.agg cs.toArray))
  | none=>False
 | .load agg n x=>match ev ρ x with
  | .own k off=>match L.get k with
   | some (.box _ t cs)=>match iB t ((cs.drop off).take n) n with
    | true=>V (.v (fM agg ((cs.drop off).take n)))
    | false=>False
   | _=>False
  | .el a j=>ja F L a j n fun cs=>V (.v (fM agg cs))
  | .v (.pointer (some a))=>ja F L (some a) 0 n fun cs=>V (.v (fM agg cs))
  | _=>False
 | .loadR agg n x=>match ev ρ x with
  | .own k off=>match L.get k with
   | some (.box _ t cs)=>match iB t ((cs.drop off).take n) n with
    | true=>V (.v (fM agg ((cs.drop off).take n)))
    | false=>False
   | _=>False
  | .el a j=>ja F L a j n fun cs=>V (.v (fM agg cs))
  | .v (.pointer (some a))=>ja F L (some a) 0 n fun cs=>V (.v (fM agg cs))
  | _=>False
 | .nilck x=>match ev ρ x with
  | .own k off=>V (.own k off)
  | .el a j=>a≠none/\V (.el a j)
  | .v (.pointer (some a))=>V (.v (.pointer (some a)))
  | .v (.func (.func f) fi ca)=>V (.v (.func (.func f) fi ca))
  | .v (.func (.method nm) fi ca)=>match fi.toList with
   | [.iface t u]=>LG Et t nm=true/\V (.v (.func (.method nm) fi ca))
   | _=>False
  | _=>False
 | .mkmv nm x=>match ev ρ x with
  | .v v=>V (.v (.func (.method nm) #[v] #[]))
  | _=>False
 | .bin op x y=>match ev ρ x,ev ρ y with
  | .v (.int k a),.v (.int e b)=>match FT op with
   | true=>shI op k a b fun v=>V (.v v)
   | false=>match oZ k e with
    | true=>binI op k a b fun v=>V (.v v)
    | false=>False
  | .v (.string a),.v (.string b)=>binS op a b fun v=>V (.v v)
  | _,_=>False
 | .eqB neg x y=>match ev ρ x,ev ρ y with
  | .v (.bool a),.v (.bool b)=>V (.v (.bool (mU neg (decide (a=b)))))
  | _,_=>False
 | .eqP neg x y=>match ev ρ x,ev ρ y with
  | .own _ _,.v (.pointer none)=>V (.v (.bool (mU neg false)))
  | .el (some _) _,.v (.pointer none)=>V (.v (.bool (mU neg false)))
  | .v (.pointer a),.v (.pointer none)=>V (.v (.bool (mU neg a.isNone)))
  | _,_=>False
 | .eqS neg x y=>match ev ρ x,ev ρ y with
  | .v (.slice a _ _),.v (.slice none _ _)=>V (.v (.bool (mU neg a.isNone)))
  | _,_=>False
 | .eqF neg x y=>match ev ρ x,ev ρ y with
  | .v .nilFunc,.v .nilFunc=>V (.v (.bool (mU neg true)))
  | .v (.func _ _ _),.v .nilFunc=>V (.v (.bool (mU neg false)))
  | _,_=>False
 | .eqN neg x=>match ev ρ x with
  | .v .nilIface=>V (.v (.bool (mU neg true)))
  | .v (.iface _ _)=>V (.v (.bool (mU neg false)))
  | _=>False
 | .tas t z x=>match ev ρ x with
  | .v .nilIface=>V (.v (.tuple #[z,.bool false]))
  | .v (.iface p u)=>match Nat.beq p t with
   | true=>V (.v (.tuple #[u,.bool true]))
   | false=>V (.v (.tuple #[z,.bool false]))
  | _=>False
 | .eqA neg ks x y=>match ev ρ x,ev ρ y with
  | .v (.agg cs),.v (.agg ds)=>match iC ks cs.toList ds.toList true with
   | some b=>V (.v (.bool (mU neg b)))
   | none=>False
  | _,_=>False
 | .un op x=>match op,ev ρ x with
  | .not,.v (.bool b)=>V (.v (.bool (!b)))
  | .neg,.v (.int k n)=>Fit k (0-n) fun m=>V (.v (.int k m))
  | .xor,.v (.int k n)=>V (.v (.int k (k.wrap (BitVec.ofInt k.bits (if k.signed then -1 else k.max) ^^^ BitVec.ofInt k.bits n).toNat)))
  | _,_=>False
 | .conv k x=>match ev ρ x with
  | .v (.int _ n)=>Fit k n fun m=>V (.v (.int k m))
  | _=>False
 | .b2s x=>match ev ρ x with
  | .v (.slice a n _)=>ja F L a 0 n fun cs=>zf cs fun bs=>V (.v (.string ⟨bs.toArray⟩))
  | _=>False
 | .mkfn f fi ca=>V (.v (.func (.func f) (bf L ρ fi).toArray (bf L ρ ca).toArray))
 | .slc sz x lo hi=>match ev ρ x with
  | .v (.slice a n c)=>match iY ρ 0 lo,iY ρ n hi with
   | some l,some h=>mJ l h c fun l h=>V (.v (fu a c l h sz))
   | _,_=>False
  | _=>False
 | .slcS x lo hi=>match ev ρ x with
  | .v (.string s)=>match iY ρ 0 lo,iY ρ s.size hi with
   | some l,some h=>mJ l h s.size fun l h=>V (.v (.string (s.extract l h)))
   | _,_=>False
  | _=>False
 | .fieldA off x=>match ev ρ x with
  | .own k o=>V (.own k (o+off))
  | .el a j=>V (.el a (j+off))
  | .v (.pointer (some a))=>V (.el (some a) off)
  | _=>False
 | .fieldV agg off n x=>match ev ρ x with
  | .v (.agg cs)=>match eT ((cs.toList.drop off).take n) n with
   | true=>V (.v (fM agg ((cs.toList.drop off).take n)))
   | false=>False
  | _=>False
 | .idxA sz x i=>match ev ρ x,ev ρ i with
  | .v (.slice a n _),.v (.int _ i)=>Da a i n (V (.el a (i.toNat*sz)))
  | _,_=>False
 | .idxS x i=>match ev ρ x,ev ρ i with
  | .v (.string s),.v (.int _ i)=>Mj i s.size (V (.v (.int .u8 ((s.data.toList.getD i.toNat 0).toNat))))
  | _,_=>False
 | .extr x i=>match ev ρ x with
  | .v (.tuple vs)=>match vs.toList[i]? with
   | some v=>V (.v v)
   | none=>False
  | _=>False
 | .len x=>match ev ρ x with
  | .v (.slice _ n _)=>V (.v (.int .i64 n))
  | _=>False
 | .lenS x=>match ev ρ x with
  | .v (.string s)=>V (.v (.int .i64 s.size))
  | _=>False
 | .capa x=>match ev ρ x with
  | .v (.slice _ _ c)=>V (.v (.int .i64 c))
  | _=>False
 | .mm mx args=>match args.map (ev ρ) with
  | .v (.int k a)::l=>match LJ mx a l with
   | some m=>V (.v (.int k m))
   | none=>False
  | _=>False
 | .loadD agg n x=>match ev ρ x with
  | .own k off=>match L.get k with
   | some (.box _ t cs)=>match iB t ((cs.drop off).take n) n with
    | true=>V (.v (fM agg ((cs.drop off).take n)))
    | false=>False
   | _=>False
  | .el a j=>gY F a j n fun cs=>V (.v (fM agg cs))
  | .v (.pointer (some a))=>gY F (some a) 0 n fun cs=>V (.v (fM agg cs))
  | _=>False
 | .gload g=>Oh F g fun v=>V (.v v)
 | .loadF agg n x=>match ev ρ x with
  | .el a j=>gY F a j n fun cs=>V (.v (fM agg cs))
  | .v (.pointer (some a))=>gY F (some a) 0 n fun cs=>V (.v (fM agg cs))
  | _=>False
 | .mkif t x=>match ev ρ x with
  | .v v=>V (.v (.iface t v))
  | .el (some d) j=>V (.v (.iface t (.pointer (some (d.add j)))))
  | .own k off=>match L.get k with
   | some (.box g _ _)=>V (.v (.iface t (.pointer (some ⟨g,off,none⟩))))
   | _=>False
  | _=>False
 | .b2sD x=>match ev ρ x with
  | .v (.slice a n _)=>gY F a 0 n fun cs=>zf cs fun bs=>V (.v (.string ⟨bs.toArray⟩))
  | _=>False
 | .b2sR x=>match ev ρ x with
  | .v (.slice a n _)=>PY L a n fun bs=>V (.v (.string ⟨bs.toArray⟩))
  | _=>False
 | .mlook str ok z x i=>match ev ρ x with
  | .v (.map (some g))=>Au L g fun _ cs=>Dc str cs (val L ρ i) ok z fun v=>V (.v v)
  | _=>False
 | .mlen x=>match ev ρ x with
  | .v (.map (some g))=>Au L g fun _ cs=>V (.v (.int .i64 cs.length))
  | _=>False
 | .loadK key agg n x=>match ev ρ x with
  | .own k off=>match Nat.beq k key with
   | true=>match L.get k with
    | some (.box _ t cs)=>match iB t ((cs.drop off).take n) n with
     | true=>V (.v (fM agg ((cs.drop off).take n)))
     | false=>False
    | _=>False
   | false=>False
  | _=>False
 | _=>False
def evalOp (P:Program) (o:dS) (d:Option Nat) (F:aA) (L:Loc) (ρ:Env) (K:cE):Prop :=
 match o with
 | .mov x=>aI (.mov x) F L ρ fun v=>K F L (put d v ρ)
 | .pick c a b=>aI (.pick c a b) F L ρ fun v=>K F L (put d v ρ)
 | .box t x=>match d with
  | some k=>match L.get k with
   | none=>∀g,K F (L.set k (.box g t (aH (val L ρ x)))) (put d (.own k 0) ρ)
   | some _=>False
  | none=>False
 | .boxF t x=>∀g F',F.le F'->F' g=some (.cells (aH (val L ρ x)).toArray t (0,0))->K F' L (put d (.v (.pointer (some ⟨g,0,none⟩))) ρ)
 | .alloc t zs=>match d with
  | some k=>match L.get k with
   | none=>∀g,K F (L.set k (.box g t zs)) (put d (.own k 0) ρ)
   | some _=>False
  | none=>False
 | .mkF e n sz xs=>match eU L ρ sz xs with
  | true=>∀g F',F.le F'->F' g=some (.cells (cellsOf L ρ xs).toArray e (0,0))->K F' L (put d (.v (.slice (some ⟨g,0,none⟩) n n)) ρ)
  | false=>False
 | .mkR e n sz xs=>match eU L ρ sz xs,d with
  | true,some k=>match L.get k with
   | none=>∀g,K F (L.set k (.row (.slice (some ⟨g,0,none⟩) n n) e sz n (cellsOf L ρ xs))) (put d (.v (.slice (some ⟨g,0,none⟩) n n)) ρ)
   | some _=>False
  | _,_=>False
 | .build zs ps=>aI (.build zs ps) F L ρ fun v=>K F L (put d v ρ)
 | .load agg n x=>aI (.load agg n x) F L ρ fun v=>K F L (put d v ρ)
 | .store n a x=>match eT (aH (val L ρ x)) n,iS (aH (val L ρ x)),ev ρ a with
  | true,true,.own k off=>match L.get k with
   | some (.box g t cs)=>match iB t ((cs.drop off).take n) n with
    | true=>K F (L.set k (.box g t (aM cs off (aH (val L ρ x))))) (put d (.v undef) ρ)
    | false=>False
   | _=>False
  | true,true,.el q j=>rM F L q j (aH (val L ρ x)) fun L'=>K F L' (put d (.v undef) ρ)
  | true,true,.v (.pointer (some q))=>rM F L (some q) 0 (aH (val L ρ x)) fun L'=>K F L' (put d (.v undef) ρ)
  | _,_,_=>False
 | .nilck x=>aI (.nilck x) F L ρ fun v=>K F L (put d v ρ)
 | .mkmv nm x=>aI (.mkmv nm x) F L ρ fun v=>K F L (put d v ρ)
 | .mkif t x=>aI (.mkif t x) F L ρ fun v=>K F L (put d v ρ)
 | .pan _=>False
 | .dead=>False
 | .bin op x y=>aI (.bin op x y) F L ρ fun v=>K F L (put d v ρ)
 | .eqB neg x y=>aI (.eqB neg x y) F L ρ fun v=>K F L (put d v ρ)
 | .eqP neg x y=>aI (.eqP neg x y) F L ρ fun v=>K F L (put d v ρ)
 | .eqS neg x y=>aI (.eqS neg x y) F L ρ fun v=>K F L (put d v ρ)
 | .eqF neg x y=>aI (.eqF neg x y) F L ρ fun v=>K F L (put d v ρ)
 | .eqN neg x=>aI (.eqN neg x) F L ρ fun v=>K F L (put d v ρ)
 | .tas t z x=>aI (.tas t z x) F L ρ fun v=>K F L (put d v ρ)
 | .eqA neg ks x y=>aI (.eqA neg ks x y) F L ρ fun v=>K F L (put d v ρ)
 | .un op x=>aI (.un op x) F L ρ fun v=>K F L (put d v ρ)
 | .conv k x=>aI (.conv k x) F L ρ fun v=>K F L (put d v ρ)
 | .b2s x=>aI (.b2s x) F L ρ fun v=>K F L (put d v ρ)
 | .s2b _ x=>match ev ρ x with
  | .v (.string s)=>∀g c F',F.le F'->bN F' (some ⟨g,0,none⟩) 0 (s.data.toList.map fun b=>Value.int .u8 b.toNat)->s.size<=c->K F' L (put d (.v (.slice (some ⟨g,0,none⟩) s.size c)) ρ)
  | _=>False
 | .mkfn f fi ca=>aI (.mkfn f fi ca) F L ρ fun v=>K F L (put d v ρ)
 | .makeS e sz bytes zs l c=>match ev ρ l,ev ρ c,d with
  | .v (.int _ n),.v (.int _ m),some k=>match L.get k with
   | none=>sP n m bytes fun n=>∀g,K F (L.set k (.row (.slice (some ⟨g,0,none⟩) n m.toNat) e sz n (List.replicate n zs).flatten)) (put d (.v (.slice (some ⟨g,0,none⟩) n m.toNat)) ρ)
   | some _=>False
  | _,_,_=>False
 | .slc sz x lo hi=>aI (.slc sz x lo hi) F L ρ fun v=>K F L (put d v ρ)
 | .slcS x lo hi=>aI (.slcS x lo hi) F L ρ fun v=>K F L (put d v ρ)
 | .fieldA off x=>aI (.fieldA off x) F L ρ fun v=>K F L (put d v ρ)
 | .fieldV agg off n x=>aI (.fieldV agg off n x) F L ρ fun v=>K F L (put d v ρ)
 | .idxA sz x i=>aI (.idxA sz x i) F L ρ fun v=>K F L (put d v ρ)
 | .idxS x i=>aI (.idxS x i) F L ρ fun v=>K F L (put d v ρ)
 | .extr x i=>aI (.extr x i) F L ρ fun v=>K F L (put d v ρ)
 | .call f args=>cV P f (bf L ρ args) F L fun F' L' v=>K F' L' (put d (.v v) ρ)
 | .callV f args=>match kY P (ev ρ f) with
  | some (f,fi,ca)=>cV P f (fi++bf L ρ args++ca) F L fun F' L' v=>K F' L' (put d (.v v) ρ)
  | none=>match xW P (ev ρ f) (bf L ρ args) with
   | some (f,args)=>cV P f args F L fun F' L' v=>K F' L' (put d (.v v) ρ)
   | none=>False
 | .gload g=>aI (.gload g) F L ρ fun v=>K F L (put d v ρ)
 | .look x i=>match ev ρ x,ev ρ i with
  | .v mv,.v (.int .i64 n)=>Mp F mv n fun r b=>K F L (put d (.v (.tuple #[.int .i64 r,.bool b])) ρ)
  | _,_=>False
 | .mkmap=>match d with
  | some k=>match L.get k with
   | none=>∀g,K F (L.set k (.box g 0 [])) (put d (.v (.map (some g))) ρ)
   | some _=>False
  | none=>False
 | .mlook str ok z x i=>aI (.mlook str ok z x i) F L ρ fun v=>K F L (put d v ρ)
 | .mlen x=>aI (.mlen x) F L ρ fun v=>K F L (put d v ρ)
 | .mupd str x i v=>match ev ρ x with
  | .v (.map (some g))=>Au L g fun k cs=>Ml str cs (val L ρ i) (val L ρ v) fun cs'=>K F (L.set k (.box g 0 cs')) (put d (.v undef) ρ)
  | _=>False
 | .mrange x=>match ev ρ x,d with
  | .v (.map (some g)),some k=>match L.get k with
   | none=>Au L g fun _ cs=>∀w,K F (L.set k (.box w 0 [.tuple #[.map (some g),.int .i64 cs.length]])) (put d (.own k 0) ρ)
   | some _=>False
  | _,_=>False
 | .mnext x=>match ev ρ x with
  | .own k 0=>match L.get k with
   | some (.box w 0 (.tuple ⟨[.map (some g),.int .i64 (.ofNat n)]⟩::h))=>Mn L k w g n h fun L' v=>K F L' (put d (.v v) ρ)
   | _=>False
  | _=>False
 | .mentry x=>match ev ρ x with
  | .own k 0=>match L.get k with
   | some (.box w 0 (.tuple ⟨[.map (some g),.int .i64 (.ofNat n)]⟩::h))=>IA L g n h fun v=>K F L (put d (.v v) ρ)
   | _=>False
  | _=>False
 | .len x=>aI (.len x) F L ρ fun v=>K F L (put d v ρ)
 | .lenS x=>aI (.lenS x) F L ρ fun v=>K F L (put d v ρ)
 | .capa x=>aI (.capa x) F L ρ fun v=>K F L (put d v ρ)
 | .mm mx args=>aI (.mm mx args) F L ρ fun v=>K F L (put d v ρ)
 | .app e sz bytes _ s x=>match ev ρ s,ev ρ x with
  | .v sv,.v p=>Db F L e sz bytes sv p fun L1 v=>K F L1 (put d (.v v) ρ)
  | _,_=>False
 | .appX e sz bytes _ s x=>match ev ρ s,ev ρ x with
  | .v sv,.v p=>Db F L e sz bytes sv p fun L1 v=>Real F L1->K F L1 (put d (.v v) ρ)
  | _,_=>False
 | .appD e sz bytes _ s x=>match ev ρ s,ev ρ x with
  | .v sv,.v p=>oW F L d e sz bytes sv p fun L1 v=>K F L1 (put d (.v v) ρ)
  | _,_=>False
 | .appS e s x=>match ev ρ s,ev ρ x with
  | .v sv,.v (.string t)=>Mk L e sv t fun L1 v=>K F L1 (put d (.v v) ρ)
  | _,_=>False
 | .appZ e bytes ki s x=>match ev ρ s,ev ρ x with
  | .v sv,.v (.int _ i)=>match i with
   | .ofNat m=>FR L e bytes ki sv m fun L1 v=>K F L1 (put d (.v v) ρ)
   | .negSucc _=>False
  | _,_=>False
 | .copy e sz dd x=>match ev ρ dd,ev ρ x with
  | .v u,.v (.string t)=>Iz L e u t fun L1 n=>K F L1 (put d (.v (.int .i64 n)) ρ)
  | .v u,.v p=>ze F L e sz u p fun L1 n=>K F L1 (put d (.v (.int .i64 n)) ρ)
  | _,_=>False
 | .storeD n a x=>match eT (aH (val L ρ x)) n,iS (aH (val L ρ x)),ev ρ a with
  | true,true,.own k off=>match L.get k with
   | some (.box g t cs)=>match iB t ((cs.drop off).take n) n with
    | true=>K F (L.set k (.box g t (aM cs off (aH (val L ρ x))))) (put d (.v undef) ρ)
    | false=>False
   | _=>False
  | _,_,_=>False
 | .storeK key n a x=>match eT (aH (val L ρ x)) n,iS (aH (val L ρ x)),ev ρ a with
  | true,true,.own k off=>match Nat.beq k key with
   | true=>match L.get k with
    | some (.box g t cs)=>match iB t ((cs.drop off).take n) n with
     | true=>K F (L.set k (.box g t (aM cs off (aH (val L ρ x))))) (put d (.v undef) ρ)
     | false=>False
    | _=>False
   | false=>False
  | _,_,_=>False
 | .loadD agg n x=>aI (.loadD agg n x) F L ρ fun v=>K F L (put d v ρ)
 | .loadF agg n x=>aI (.loadF agg n x) F L ρ fun v=>K F L (put d v ρ)
 | .loadR agg n x=>aI (.loadR agg n x) F L ρ fun v=>K F L (put d v ρ)
 | .loadK key agg n x=>aI (.loadK key agg n x) F L ρ fun v=>K F L (put d v ρ)
 | .b2sD x=>aI (.b2sD x) F L ρ fun v=>K F L (put d v ρ)
 | .b2sR x=>aI (.b2sR x) F L ρ fun v=>K F L (put d v ρ)
 | .makeSD e sz n zs=>match d with
  | some k=>match L.get k,eT zs sz,Nat.ble n 9223372036854775807 with
   | none,true,true=>∀g,Real F (L.set k (.row (.slice (some ⟨g,0,none⟩) n n) e sz n (List.replicate n zs).flatten))->K F (L.set k (.row (.slice (some ⟨g,0,none⟩) n n) e sz n (List.replicate n zs).flatten)) (put d (.v (.slice (some ⟨g,0,none⟩) n n)) ρ)
   | _,_,_=>False
  | none=>False
 | .makeSV e sz b zs x=>match d with
  | some k=>match L.get k,eT zs sz,rN b (val L ρ x) with
   | none,true,true=>∀g,Real F (L.set k (.row (.slice (some ⟨g,0,none⟩) (lN (val L ρ x)) (lN (val L ρ x))) e sz (lN (val L ρ x)) (List.replicate (lN (val L ρ x)) zs).flatten))->K F (L.set k (.row (.slice (some ⟨g,0,none⟩) (lN (val L ρ x)) (lN (val L ρ x))) e sz (lN (val L ρ x)) (List.replicate (lN (val L ρ x)) zs).flatten)) (put d (.v (.slice (some ⟨g,0,none⟩) (lN (val L ρ x)) (lN (val L ρ x)))) ρ)
   | _,_,_=>False
  | none=>False
 | .copyX e sz dd x=>match ev ρ dd,ev ρ x with
  | .v u,.v p=>ze F L e sz u p fun L1 n=>Real F L1->K F L1 (put d (.v (.int .i64 n)) ρ)
  | _,_=>False
 | .storeX n a x=>match eT (aH (val L ρ x)) n,iS (aH (val L ρ x)),ev ρ a with
  | true,true,.own k off=>match L.get k with
   | some (.box g t cs)=>match iB t ((cs.drop off).take n) n with
    | true=>Real F (L.set k (.box g t (aM cs off (aH (val L ρ x)))))->K F (L.set k (.box g t (aM cs off (aH (val L ρ x))))) (put d (.v undef) ρ)
    | false=>False
   | _=>False
  | true,true,.el q j=>zb L q j (aH (val L ρ x)) fun L'=>Real F L'->K F L' (put d (.v undef) ρ)
  | true,true,.v (.pointer (some q))=>zb L (some q) 0 (aH (val L ρ x)) fun L'=>Real F L'->K F L' (put d (.v undef) ρ)
  | _,_,_=>False
 | .boxD t x=>match d with
  | some k=>match L.get k with
   | none=>∀g,Real F (L.set k (.box g t (aH (val L ρ x))))->K F (L.set k (.box g t (aH (val L ρ x)))) (put d (.own k 0) ρ)
   | some _=>False
  | none=>False
 | .allocD t zs=>match d with
  | some k=>match L.get k with
   | none=>∀g,Real F (L.set k (.box g t zs))->K F (L.set k (.box g t zs)) (put d (.own k 0) ρ)
   | some _=>False
  | none=>False
 | .mkFD e n sz xs=>match eU L ρ sz xs with
  | true=>∀g F',F.le F'->F' g=some (.cells (cellsOf L ρ xs).toArray e (0,0))->Real F' L->K F' L (put d (.v (.slice (some ⟨g,0,none⟩) n n)) ρ)
  | false=>False
 | .callD f args=>dP P f (bf L ρ args) F L d fun F' L' v=>K F' L' (put d (.v v) ρ)
 | .callVD f args=>match kY P (ev ρ f) with
  | some (f,fi,ca)=>dP P f (fi++bf L ρ args++ca) F L d fun F' L' v=>K F' L' (put d (.v v) ρ)
  | none=>False
 | .callO f args=>cV P f (bf L ρ args) F L fun F' L' v=>Real F' L'->K F' L' (put d (.v v) ρ)
 | .callVO f args=>match kY P (ev ρ f) with
  | some (f,fi,ca)=>cV P f (fi++bf L ρ args++ca) F L fun F' L' v=>Real F' L'->K F' L' (put d (.v v) ρ)
  | none=>False
def FU (F:aA) (v:Value) (sz n:Nat) (xs:List Value):Prop :=
 (v=.slice none 0 0/\n=0/\xs=[])\/∃a c,v=.slice (some a) n c/\bN F (some a) 0 xs/\n<=c
structure LK (F:aA) (L:Loc) (k:Nat) (K:aA->Loc->Prop):Prop where
 out:∃v t sz n xs,L.get k=some (.row v t sz n xs)/\∀F',F.le F'->FU F' v sz n xs->K F' (L.del k)
inductive ak where
 | op (dst:Option Nat) (o:dS) (guard:Option (Nat×Bool))
 | frz (k:Nat)
 | pc (dst:Option Nat) (o:dS) (guard:Option (Nat×Bool))
 deriving Inhabited
def vk (k g:Nat) (ρ:Env):Env:=fun j=>match ρ j with
 | .own b off=>match Nat.beq b k with | true=>.v (.pointer (some ⟨g,off,none⟩)) | false=>.own b off
 | .v x=>.v x
 | .el a i=>.el a i
def aU (P:Program):List ak->aA->Loc->Env->cE->Prop
 | [],F,L,ρ,K=>K F L ρ
 | .op d o none::a,F,L,ρ,K=>evalOp P o d F L ρ fun F' L' ρ'=>aU P a F' L' ρ' K
 | .op d o (some (s,c))::a,F,L,ρ,K=>match ρ s with
  | .v (.bool b)=>vh b
    (match c with
     | true=>evalOp P o d F L (put (some s) (.v (.bool true)) ρ) fun F' L' ρ'=>aU P a F' L' ρ' K
     | false=>aU P a F L (put d (.v undef) (put (some s) (.v (.bool true)) ρ)) K)
    (match c with
     | false=>evalOp P o d F L (put (some s) (.v (.bool false)) ρ) fun F' L' ρ'=>aU P a F' L' ρ' K
     | true=>aU P a F L (put d (.v undef) (put (some s) (.v (.bool false)) ρ)) K)
  | .v (.tuple _)=>aU P a F L (put d (.v undef) ρ) K
  | _=>False
 | .frz k::a,F,L,ρ,K=>match L.get k with
  | some (.box g t cs)=>∀F',F.le F'->F' g=some (kO t cs)->aU P a F' (L.del k) (vk k g ρ) K
  | _=>LK F L k fun F' L'=>aU P a F' L' ρ K
 | .pc _ _ _::_,_,_,_,_=>False
inductive aJ where
 | skip
 | reg (ops:List ak)
 | regD (ops:List ak)
 | regX (ops:List ak)
 | seq (a b:aJ)
 | cond (c:X) (a b:aJ)
 | block (id:Nat) (c:aJ)
 | loop (asg:List Nat) (c:aJ)
 | exit (id:Nat)
 | ret
 deriving Inhabited
def fo:List Nat->Nat->Bool
 | [],_=>false
 | j::l,k=>match Nat.beq j k with | true=>true | false=>fo l k
def Loc.keeps:Loc->Loc->Prop
 | [],_=>True
 | (k,.box g t _)::l,L'=>(∃cs,L'.get k=some (.box g t cs))/\Loc.keeps l L'
 | (_,.row ..)::l,L'=>Loc.keeps l L'
structure Aw (F:aA) (L:Loc) (v:Value) (R:aA->List Own->Value->Prop):Prop where
 out:∃ko Lo,L.sub ko=some Lo/\ko.Nodup/\R F Lo v
abbrev RV:=Nat×Option (Bool×Nat)
def kP (L:Loc) (ρ:Env):List RV->(List Value->Prop)->Prop
 | [],K=>K []
 | (t,none)::l,K=>kP L ρ l fun vs=>K (conc L (ρ t)::vs)
 | (t,some (agg,n))::l,K=>match ρ t with
  | .own k off=>match L.get k with
   | some (.box _ ty cs)=>match iB ty ((cs.drop off).take n) n with
    | true=>kP L ρ l fun vs=>K (fM agg ((cs.drop off).take n)::vs)
    | false=>False
   | _=>False
  | _=>False
def gh:List Value->Value
 | [v]=>v
 | l=>.tuple l.toArray
def rO:Nat->List SV->Env
 | _,[]=>fun _=>.v undef
 | k,v::l=>put (some k) v (rO (k+1) l)
def Loc.gives (L:Loc):Loc->Prop
 | []=>True
 | (k,o)::l=>(L.get k=some o\/(L.get k=none/\∃t sz,o=.row (.slice none 0 0) t sz 0 []))/\Loc.gives L l
def gB (asg:List Nat) (a:Nat->Value) (ρ:Env):Env:=fun j=>match fo asg j with | true=>.v (a j) | false=>ρ j
def puts:List Nat->List SV->Env->Env
 | k::ks,v::vs,ρ=>put (some k) v (puts ks vs ρ)
 | _,_,ρ=>ρ
def holds:List Nat->List SV->Env->Prop
 | k::ks,v::vs,ρ=>ρ k=v/\holds ks vs ρ
 | _,_,_=>True
structure Mq (body:aA->Loc->Env->cE->Prop) (asg:List Nat) (F:aA) (L:Loc) (ρ:Env):Prop where
 out:∃(σ:Type) (x0:σ) (Inv:σ->aA->Prop) (ls:List Nat) (lv:σ->List Value) (Lf:σ->Loc) (μ:σ->Nat),
  Inv x0 F/\holds ls ((lv x0).map .v) ρ/\L.gives (Lf x0)/\(∀x,L.keeps (Lf x)) /\
  ∀x F' jk,F.le F'->Inv x F'->body F' (Lf x) (puts ls ((lv x).map .v) (gB asg jk ρ)) fun F'' L'' ρ'' =>
   ∃x',Inv x' F''/\holds ls ((lv x').map .v) ρ''/\L''.gives (Lf x')/\μ x'<μ x
def jJ (P:Program):aJ->(Nat->cE)->cE->cE->cE
 | .skip,_,_,N,F,L,ρ=>N F L ρ
 | .reg d,_,_,N,F,L,ρ=>aU P d F L ρ N
 | .regD d,_,_,N,F,L,ρ=>aU P d F L ρ N
 | .regX _,_,_,_,_,_,_=>False
 | .seq a b,E,R,N,F,L,ρ=>jJ P a E R (fun F L ρ=>jJ P b E R N F L ρ) F L ρ
 | .cond c a b,E,R,N,F,L,ρ=>match ev ρ c with
  | .v (.bool t)=>vh t (jJ P a E R N F L ρ) (jJ P b E R N F L ρ)
  | _=>False
 | .block id c,E,R,N,F,L,ρ=>jJ P c (fun j=>match Nat.beq j id with | true=>N | false=>E j) R N F L ρ
 | .loop asg c,E,R,_,F,L,ρ=>Mq (fun F L ρ K=>jJ P c E R K F L ρ) asg F L ρ
 | .exit id,E,_,_,F,L,ρ=>E id F L ρ
 | .ret,_,R,_,F,L,ρ=>R F L ρ
theorem eV {a b:Nat}(h:Nat.beq a b=false):a≠b:=by intro e;subst e;simp at h
theorem Loc.Wh (L:Loc) (k:Nat) (o:Own) (j:Nat):(L.set k o).get j=if j=k then some o else L.get j:=by
 induction L with
 | nil =>
  simp only[Loc.set,Loc.get];cases h:Nat.beq k j with
  | true=>have:=yo h;simp[this]
  | false=>have:=eV h;simp;omega
 | cons p l c =>
  obtain⟨i,q⟩:=p;simp only[Loc.set];cases h:Nat.beq i k with
  | true =>
   have e:=yo h;subst e;simp only[Loc.get];cases a:Nat.beq i j with
   | true=>have:=yo a;simp[this]
   | false=>have:=eV a;simp;omega
  | false =>
   have b:=eV h;simp only[];cases d:Nat.ble i k with
   | true =>
    simp only[Loc.get];cases a:Nat.beq i j with
    | true=>have:=yo a;simp;omega
    | false=>simpa using c
   | false =>
    simp only[Loc.get];cases a:Nat.beq k j with
    | true=>have:=yo a;simp[this]
    | false =>
     have:=eV a;simp only[];rw[vv (by omega)]
theorem Loc.Wm (L:Loc) (k j:Nat):(L.del k).get j=if j=k then none else L.get j:=by
 induction L with
 | nil=>simp[Loc.del,Loc.get]
 | cons p l c =>
  obtain⟨i,q⟩:=p;simp only[Loc.del];cases h:Nat.beq i k with
  | true =>
   have e:=yo h;subst e;simp only[Loc.get,c]
   by_cases a:j=i
   ·simp[a]
   ·have:Nat.beq i j=false:=by cases b:Nat.beq i j with | true=>exact xo (yo b).symm a | false=>rfl
    simp[a,this]
  | false =>
   have d:=eV h;simp only[Loc.get];cases b:Nat.beq i j with
   | true=>have:=yo b;simp;omega
   | false=>simpa using c
def Loc.part (L L':Loc):Prop:=∀k o,L'.get k=some o->L.get k=some o
theorem St.part {F:aA}{L L':Loc}{w:World}(h:St F L w) (a:L.part L'):St F L' w :=
 ⟨h.frz,fun k o e=>h.own k o (a k o e),fun k o g e=>h.off k o g (a k o e),fun k b o o' g e c=>h.sep k b o o' g (a k o e) (a b o' c),h.glob⟩
theorem Own.Wv {w:World}{o:Own}(h:o.ok w) {g:Nat}(a:o.blk=some g):g<w.heap.size:=by
 cases o with
 | box b t cs =>
  simp only[Own.blk,WY] at a;subst a;exact(Array.getElem?_eq_some_iff.1 h).1
 | row v t sz n xs=>exact(World.ownsRow.lt h g a).2
theorem Own.WA {w w':World}{o:Own}(h:o.ok w) (c:∀g,o.blk=some g->w'.heap[g]?=w.heap[g]?):o.ok w':=by
 cases o with
 | box g t cs=>exact(c g rfl).trans h
 | row v t sz n xs =>
  obtain⟨d,a⟩:=h;refine⟨d,?_⟩;rcases a with a | ⟨g,cap,b,rfl,hb,e,r⟩
  ·exact .inl a
  ·exact .inr ⟨g,cap,b,rfl,hb,(c g rfl).trans e,r⟩
theorem St.WC {F:aA}{L:Loc}{w:World}(h:St F L w) {b:Nat}(hb:F b≠none):b<w.heap.size:=by
 cases e:F b with
 | none=>exact xo e hb
 | some o=>exact(Array.getElem?_eq_some_iff.1 (h.frz b o e)).1
theorem St.WI {F:aA}{L:Loc}{w:World}(h:St F L w) {b:Nat}(hb:L.owns b):b<w.heap.size:=by
 obtain⟨k,o,e,a⟩:=hb;exact Own.Wv (h.own k o e) a
theorem St.keep {F:aA}{L:Loc}{w w':World}(h:St F L w) (a:∀b,b<w.heap.size->w'.heap[b]?=w.heap[b]?):St F L w':=by
 refine⟨fun b o e=>?_,fun k o e=>?_,h.off,h.sep,h.glob⟩
 ·have:=h.frz b o e;rw[a b (Array.getElem?_eq_some_iff.1 this).1];exact this
 ·exact Own.WA (h.own k o e) fun g c=>a g (Own.Wv (h.own k o e) c)
theorem St.drew {F:aA}{L:Loc}{w:World}(h:St F L w):St F L w.drew:=h.keep fun _ _=>rfl
theorem St.put {F:aA}{L:Loc}{w:World}(h:St F L w) {k:Nat}{o:Own}(x:L.get k=none) (u:o.ok w)
  (n:∀g,o.blk=some g->F g=none/\¬L.owns g):St F (L.set k o) w:=by
 have a:∀j p,(L.set k o).get j=some p->(j=k/\p=o)\/(j≠k/\L.get j=some p):=by
  intro j p e;rw[Loc.Wh] at e;split at e
  ·rename_i d;exact .inl ⟨d,by injection e with e;exact e.symm⟩
  ·rename_i d;exact .inr ⟨d,e⟩
 refine⟨h.frz,fun j p e=>?_,fun j p g e c=>?_,fun j l p q g e t c b=>?_,h.glob⟩
 ·rcases a j p e with⟨_,rfl⟩ | ⟨_,e⟩
  ·exact u
  ·exact h.own j p e
 ·rcases a j p e with⟨_,rfl⟩ | ⟨_,e⟩
  ·exact(n g c).1
  ·exact h.off j p g e c
 ·rcases a j p e with⟨d,v⟩ | ⟨_,r⟩<;>rcases a l q t with⟨m,f⟩ | ⟨_,s⟩
  ·exact d.trans m.symm
  ·subst v;exact xo ⟨l,q,s,b⟩ (n g c).2
  ·subst f;exact xo ⟨j,p,r,c⟩ (n g b).2
  ·exact h.sep j l p q g r s c b
theorem St.turn {F:aA}{L:Loc}{w w':World}(h:St F L w) {k:Nat}{o o':Own}(n:L.get k=some o) (z:o'.ok w')
  (x:∀b,b<w.heap.size->o.blk≠some b->w'.heap[b]?=w.heap[b]?) (hb:∀g,o'.blk=some g->o.blk=some g\/w.heap.size<=g):St F (L.set k o') w':=by
 have c:∀j p,(L.set k o').get j=some p->(j=k/\p=o')\/(j≠k/\L.get j=some p):=by
  intro j p e;rw[Loc.Wh] at e;split at e
  ·rename_i f;exact .inl ⟨f,by injection e with e;exact e.symm⟩
  ·rename_i f;exact .inr ⟨f,e⟩
 refine⟨fun b p e=>?_,fun j p e=>?_,fun j p g e d=>?_,fun j q p r g e y d l=>?_,h.glob⟩
 ·have:=h.frz b p e;rw[x b (Array.getElem?_eq_some_iff.1 this).1 (fun hb=>by have:=h.off k o b n hb;rw[this] at e;cases e)];exact this
 ·rcases c j p e with⟨_,rfl⟩ | ⟨f,e⟩
  ·exact z
  ·exact Own.WA (h.own j p e) fun g d=>x g (Own.Wv (h.own j p e) d) fun a=>f (h.sep j k p o g e n d a)
 ·rcases c j p e with⟨_,rfl⟩ | ⟨_,e⟩
  ·rcases hb g d with a | v
   ·exact h.off k o g n a
   ·cases hF:F g with
    | none=>rfl
    | some _=>have:=h.WC (b:=g) (by rw[hF];simp);omega
  ·exact h.off j p g e d
 ·rcases c j p e with⟨f,hp⟩ | ⟨f,t⟩<;>rcases c q r y with⟨m,s⟩ | ⟨m,u⟩
  ·exact f.trans m.symm
  ·subst hp;rcases hb g d with a | v
   ·exact xo (h.sep q k r o g u n l a) m
   ·have:=Own.Wv (h.own q r u) l;omega
  ·subst s;rcases hb g l with a | v
   ·exact xo (h.sep j k p o g t n d a) f
   ·have:=Own.Wv (h.own j p t) d;omega
  ·exact h.sep j q p r g t u d l
theorem St.freeze {F:aA}{L:Loc}{w:World}(h:St F L w) {g:Nat}{o:Obj}(c:w.heap[g]?=some o) (d:¬L.owns g) :
  St (fun b=>if b=g then some o else F b) L w:=by
 refine⟨fun b p e=>?_,h.own,fun k p b e hb=>?_,h.sep,qO.mono ?_ h.glob⟩
 ·split at e
  ·rename_i a;subst a;injection e with e;subst e;exact c
  ·exact h.frz b p e
 ·split
  ·rename_i a;subst a;exact xo ⟨k,p,e,hb⟩ d
  ·exact h.off k p b e hb
 ·intro b p e;simp only[];split
  ·rename_i a;subst a;rw[<-h.frz b p e,c]
  ·exact e
theorem aA.Ww {F:aA}{w:World}{L:Loc}(h:St F L w) {g:Nat}{o:Obj}(c:w.heap[g]?=some o):F.le (fun b=>if b=g then some o else F b):=by
 intro b p e;simp only[];split
 ·rename_i a;subst a;rw[<-h.frz b p e,c]
 ·exact e
theorem Step.refl (F:aA) (L:Loc) (w:World):Step F L w F L w :=
 ⟨aA.le_refl F,rfl,rfl,rfl,Xn _,fun _ _ _=>rfl,fun _ h=>.inl h,fun _ h=>.inl h⟩
theorem Step.trans {F F' F'':aA}{L L' L'':Loc}{w w' c:World}(h:Step F L w F' L' w') (k:Step F' L' w' F'' L'' c):Step F L w F'' L'' c:=by
 refine⟨aA.le_trans h.le k.le,k.os.trans h.os,k.tape.trans h.tape,k.output.trans h.output,XK h.size k.size,fun b hb e=>?_,fun b hb=>?_,fun b hb=>?_⟩
 ·rw[k.same b (Nat.lt_of_lt_of_le hb h.size) (fun d=>by rcases h.own b d with d | d;exact e d;omega)];exact h.same b hb e
 ·rcases k.frz b hb with a | a | a
  ·exact h.frz b a
  ·exact .inr (h.own b a)
  ·exact .inr (.inr (XK h.size a))
 ·rcases k.own b hb with a | a
  ·exact h.own b a
  ·exact .inr (XK h.size a)
theorem Step.mk' {F F':aA}{L L':Loc}{w w':World}(le:F.le F') (a:w.grownBy w' none) (frz:∀b,F' b≠none->F b≠none\/L.owns b\/w.heap.size<=b)
  (own:∀b,L'.owns b->L.owns b\/w.heap.size<=b):Step F L w F' L' w' :=
 ⟨le,a.os,a.tape,a.output,a.size,fun b hb _=>a.block b hb (by simp),frz,own⟩
theorem Loc.Wq {L:Loc}{k:Nat}{o:Own}{b:Nat}(h:(L.set k o).owns b):o.blk=some b\/L.owns b:=by
 obtain⟨j,p,e,hb⟩:=h;rw[Loc.Wh] at e;split at e
 ·injection e with e;subst e;exact .inl hb
 ·exact .inr ⟨j,p,e,hb⟩
theorem Loc.Wx {L:Loc}{k b:Nat}(h:(L.del k).owns b):L.owns b:=by
 obtain⟨j,p,e,hb⟩:=h;rw[Loc.Wm] at e;split at e
 ·cases e
 ·exact⟨j,p,e,hb⟩
theorem Loc.WH (L:Loc) (k:Nat):L.part (L.del k):=by
 intro j o e;rw[Loc.Wm] at e;split at e
 ·cases e
 ·exact e
theorem bN.mono {F G:aA}(h:F.le G) {a:Option Addr}{j:Nat}{cs:List Value}(c:bN F a j cs):bN G a j cs:=by
 obtain⟨m,b,t,k,e,f,l,d⟩:=c;exact⟨m,b,t,k,e,h _ _ f,l,d⟩
theorem bU {b o n:Nat}:(⟨b,o,none⟩:Addr).add n=⟨b,o+n,none⟩:=by
 unfold Addr.add;split<;>simp_all
theorem bN.cell {F:aA}{L:Loc}{w:World}(h:St F L w) {a:Option Addr}{j:Nat}{cs:List Value}(c:bN F a j cs) :
  ∃d,a=some d/\d.spot=none/\∀i v,cs[i]?=some v->w.cell? (d.add (j+i))=some v:=by
 obtain⟨d,k,t,q,e,l,f,m⟩:=c;refine⟨d,e,f,fun i v n=>?_⟩;obtain⟨b,o,p⟩:=d;simp only at f;subst f;rw[bU];have:=h.frz b _ l;simp only[World.cell?,this];simpa[Nat.add_assoc] using(m i v n).1
def bh:Operand->Option X
 | .tmp t=>some (.t t)
 | .const v=>some (.c v)
 | .func f=>some (.fn f)
 | .global _=>none
def fN:List Operand->Option (List X)
 | []=>some []
 | o::l=>match bh o,fN l with
  | some x,some xs=>some (x::xs)
  | _,_=>none
def o7:Option Operand->Option (Option X)
 | none=>some none
 | some o=>match bh o with | some x=>some (some x) | none=>none
def dh:TypeDesc->Bool
 | .struct _ | .array _ _=>true
 | _=>false
def N7 (i:TypeInfo):Option (List Value):=match i.zero with | some z=>some z.cells.toList | none=>none
def ni (P:Program) (b:Array Field):List (Nat×Operand)->Option (List (Nat×Nat×X))
 | []=>some []
 | (i,o)::l=>match b[i]?,bh o,ni P b l with
  | some f,some x,some ps=>match P.info? f.type with
   | some j=>some ((f.offset,j.size,x)::ps)
   | none=>none
  | _,_,_=>none
def xX:Operand->Option dS
 | .global g=>match uH g with | some _=>some (.gload g) | none=>none
 | _=>none
def nS (P:Program):List Field->Nat->Option (List Bool)
 | [],_=>some []
 | f::fs,k=>match Nat.beq f.offset k,decide (f.name="_"),P.underlying f.type with
  | true,false,some (.int _)=>match nS P fs (k+1) with | some ks=>some (true::ks) | none=>none
  | true,false,some .bool=>match nS P fs (k+1) with | some ks=>some (false::ks) | none=>none
  | _,_,_=>none
def vn:X->Bool
 | .c .nilIface=>true
 | _=>false
def gM (P:Program) (own:Bool) (o:Op):Option dS :=
 match o with
 | .move x | .assign x=>match bh x with | some x=>some (.mov x) | none=>none
 | .pick c a b=>match bh c,bh a,bh b with | some c,some a,some b=>some (.pick c a b) | _,_,_=>none
 | .box t x=>match bh x,decide (t=0) with | some x,false=>some (match own with | true=>.boxF t x | false=>.box t x) | _,_=>none
 | .alloc t=>match P.info? t,decide (t=0) with
  | some i,false=>match N7 i with | some z=>some (.alloc t z) | none=>none
  | _,_=>none
 | .buildSlice t n ps=>match P.underlying t,fN (ps.toList.map (·.2)) with
  | some (.slice e),some xs=>match P.info? e with
   | some i=>match decide (ps.toList.map (·.1)=List.range n),decide (n*i.size<=2 ^ 24/\n<=2 ^ 24),i.zero with
    | true,true,some _=>some (match own with | true=>.mkR e n i.size xs | false=>.mkF e n i.size xs)
    | _,_,_=>none
   | none=>none
  | _,_=>none
 | .build t ps=>match P.underlying t,P.info? t with
  | some (.struct fs),some i=>match N7 i,ni P fs ps.toList with
   | some z,some l=>match fs.toList.all (fun f=>(P.info? f.type).isSome),l.all (fun p=>Nat.ble (p.1+p.2.1) z.length) with
    | true,true=>some (.build z l)
    | _,_=>none
   | _,_=>none
  | _,_=>none
 | .lookup t x i ok=>match Iy with
  | true=>match P.underlying t,bh x,bh i,ok with
   | some (.map key e),some x,some i,true=>match P.underlying key,P.info? e with
    | some (.int .i64),some j=>match j.zero with
     | some (.int .i64 0)=>some (.look x i)
     | _=>none
    | _,_=>none
   | _,_,_,_=>none
  | false=>match P.underlying t,bh x,bh i with
   | some (.map key e),some x,some i=>match P.underlying key,P.info? e with
    | some (.int .i64),some j=>match j.zero with
     | some z=>some (.mlook false ok z x i)
     | none=>none
    | some .string,some j=>match j.zero with
     | some z=>some (.mlook true ok z x i)
     | none=>none
    | _,_=>none
   | _,_,_=>none
 | .makeMap _ none=>some .mkmap
 | .mapUpdate t x i v | .insert t x i v=>match P.underlying t,bh x,bh i,bh v with
  | some (.map key _),some x,some i,some v=>match P.underlying key with
   | some (.int .i64)=>some (.mupd false x i v)
   | some .string=>some (.mupd true x i v)
   | _=>none
  | _,_,_,_=>none
 | .range t x=>match P.underlying t,bh x with
  | some (.map _ _),some x=>some (.mrange x)
  | _,_=>none
 | .next x false=>match bh x with | some x=>some (.mnext x) | none=>none
 | .entry x=>match bh x with | some x=>some (.mentry x) | none=>none
 | .load t a=>match P.underlying t,P.info? t,bh a with
  | some d,some i,some x=>some (match dh d with | true=>.load true i.size x | false=>.load false 1 x)
  | some (.map _ _),some _,none=>xX a
  | some (.interface _),some _,none=>match xX a with | some s=>some s | none=>some .dead
  | some _,some _,none=>some .dead
  | _,_,_=>none
 | .store t a x=>match P.info? t,bh a,bh x with
  | some i,some a,some x=>some (.store i.size a x)
  | _,_,_=>none
 | .nilCheck x=>match bh x,LH P with | some x,true=>some (.nilck x) | _,_=>none
 | .binOp op t x y _=>match P.underlying t,bh x,bh y with
  | some d,some x,some y=>match d,op with
   | .bool,.eql=>some (.eqB false x y)
   | .bool,.neq=>some (.eqB true x y)
   | .pointer _,.eql=>some (.eqP false x y)
   | .pointer _,.neq=>some (.eqP true x y)
   | .slice _,.eql=>some (.eqS false x y)
   | .slice _,.neq=>some (.eqS true x y)
   | .func ..,.eql=>some (.eqF false x y)
   | .func ..,.neq=>some (.eqF true x y)
   | .interface _,.eql=>match vn y with | true=>some (.eqN false x) | false=>none
   | .interface _,.neq=>match vn y with | true=>some (.eqN true x) | false=>none
   | .struct fs,.eql=>match nS P fs.toList 0,P.stoodInHeld t,P.eqGuardType P.depth t with | some ks,false,false=>some (.eqA false ks x y) | _,_,_=>none
   | .struct fs,.neq=>match nS P fs.toList 0,P.stoodInHeld t,P.eqGuardType P.depth t with | some ks,false,false=>some (.eqA true ks x y) | _,_,_=>none
   | .int _,_ | .string,_=>some (.bin op x y)
   | _,_=>none
  | _,_,_=>none
 | .unOp op _ x=>match bh x with | some x=>some (.un op x) | none=>none
 | .convert s t x=>match P.underlying s,P.underlying t,bh x with
  | some (.int _),some (.int k),some x=>some (.conv k x)
  | some (.slice e),some .string,some x=>match P.underlying e with
   | some (.int .u8)=>some (.b2s x)
   | _=>none
  | some .string,some (.slice e),some x=>match P.underlying e with
   | some (.int .u8)=>some (.s2b e x)
   | _=>none
  | _,_,_=>none
 | .makeFunc (.func f) fi ca=>match fN fi.toList,fN ca.toList with
  | some fi,some ca=>some (.mkfn f fi ca)
  | _,_=>none
 | .makeFunc (.method nm) fi ca=>match fN fi.toList,ca.toList with
  | some [x],[]=>some (.mkmv nm x)
  | _,_=>none
 | .makeFunc (.methodOf t nm) fi ca=>match fi.toList,ca.toList with
  | [],[]=>some (.mov (.c (.func (.methodOf t nm) #[] #[])))
  | _,_=>none
 | .makeSlice t l c=>match P.underlying t,bh l,bh c with
  | some (.slice e),some l,some c=>match P.info? e with
   | some i=>match i.zero with
    | some z=>match decide (z.cells.size=i.size),decide (0<i.size) with
     | true,true=>some (.makeS e i.size i.bytes z.cells.toList l c)
     | _,_=>none
    | none=>none
   | none=>none
  | _,_,_=>none
 | .slice t x lo hi none=>match P.underlying t,bh x,o7 lo,o7 hi with
  | some (.slice e),some x,some lo,some hi=>match P.info? e with
   | some i=>some (.slc i.size x lo hi)
   | none=>none
  | some .string,some x,some lo,some hi=>some (.slcS x lo hi)
  | _,_,_,_=>none
 | .fieldAddr t x f=>match P.underlying t,bh x with
  | some (.struct fs),some x=>match fs[f]? with
   | some f=>match P.info? f.type with
    | some i=>match decide (i.size=0) with | true=>none | false=>some (.fieldA f.offset x)
    | none=>none
   | none=>none
  | _,_=>none
 | .field t x f=>match P.underlying t,bh x with
  | some (.struct fs),some x=>match fs[f]? with
   | some f=>match P.underlying f.type,P.info? f.type with
    | some d,some i=>match dh d with
     | true=>some (.fieldV true f.offset i.size x)
     | false=>some (.fieldV false f.offset 1 x)
    | _,_=>none
   | none=>none
  | _,_=>none
 | .indexAddr t x i=>match P.underlying t,bh x,bh i with
  | some (.slice e),some x,some i=>match P.info? e with
   | some j=>some (.idxA j.size x i)
   | none=>none
  | _,_,_=>none
 | .index t x i=>match P.underlying t,bh x,bh i with
  | some .string,some x,some i=>some (.idxS x i)
  | _,_,_=>none
 | .makeInterface t x=>match P.underlying t,bh x with
  | some (.interface _),_=>none
  | some _,some x=>some (.mkif t x)
  | _,_=>none
 | .typeAssert x _ t true=>match P.underlying t,P.info? t,bh x with
  | some (.interface _),_,_=>none
  | some _,some i,some x=>match i.zero with | some z=>some (.tas t z x) | none=>none
  | _,_,_=>none
 | .panic x=>match bh x with | some x=>some (.pan x) | none=>none
 | .extract x i=>match bh x with | some x=>some (.extr x i) | none=>none
 | .call c=>match fN c.args.toList with
  | none=>none
  | some args=>match c.callee with
   | .value (.func f)=>match P.funcs[f]? with
    | some fn=>match fn.name == "runtime.NumGoroutine",fn.body.isSome with
     | false,true=>some (.call f args)
     | _,_=>none
    | none=>none
   | .value f=>match bh f with | some x=>some (.callV x args) | none=>none
   | .invoke (.tmp n) nm=>some (.callV (.mt nm n) args)
   | .invoke _ _=>none
   | .builtin b=>match b,args,c.argTypes.toList with
    | .len,[x],[t]=>match P.underlying t with
     | some (.slice _)=>some (.len x)
     | some .string=>some (.lenS x)
     | some (.map _ _)=>some (.mlen x)
     | _=>none
    | .cap,[x],[t]=>match P.underlying t with
     | some (.slice _)=>some (.capa x)
     | _=>none
    | .max,args,_=>some (.mm true args)
    | .min,args,_=>some (.mm false args)
    | .append,[s,x],[t,t']=>match P.underlying t,P.underlying t' with
     | some (.slice e),some (.slice _)=>match P.info? e with
      | some i=>match i.zero with
       | some z=>match decide (t=t'),decide (z.cells.size=i.size),decide (0<i.size) with
        | true,true,true=>some (.app e i.size i.bytes z.cells.toList s x)
        | _,_,_=>none
       | none=>none
      | none=>none
     | some (.slice e),some .string=>match P.info? e with
      | some i=>match i.zero with
       | some (.int .u8 z)=>match decide (z=0),decide (i.size=1),decide (i.bytes=1) with
        | true,true,true=>some (.appS e s x)
        | _,_,_=>none
       | _=>none
      | none=>none
     | some (.slice e),some (.int _)=>match P.info? e with
      | some i=>match i.zero with
       | some (.int kz z)=>match decide (z=0),decide (i.size=1) with
        | true,true=>some (.appZ e i.bytes kz s x)
        | _,_=>none
       | _=>none
      | none=>none
     | _,_=>none
    | .copy,[s,x],[t,t']=>match P.underlying t,P.underlying t' with
     | some (.slice e),some (.slice _)=>match P.info? e with
      | some i=>match decide (t=t'),decide (i.size=1) with
       | true,true=>some (.copy e i.size s x)
       | _,_=>none
      | none=>none
     | some (.slice e),some .string=>match P.info? e with
      | some i=>match decide (i.size=1) with
       | true=>some (.copy e i.size s x)
       | _=>none
      | none=>none
     | _,_=>none
    | _,_,_=>none
 | _=>none
structure aC (L:Loc) (ρ:Env) (a:Act):Prop where
 eq:∀t,a.tmps.getD t undef=conc L (ρ t)
 own:∀t k off,ρ t=.own k off->∃g ty cs,L.get k=some (.box g ty cs)
 el:∀t ad j,ρ t=.el ad j->ad≠none
theorem aG {y:Operand}{x:X}(h:bh y=some x) {L:Loc}{ρ:Env}{a:Act}(b:aC L ρ a):a.eval y=val L ρ x:=by
 cases y<;>simp only[bh,WY,reduceCtorEq] at h<;>subst h
 ·exact b.eq _
 ·rfl
 ·rfl
theorem nj {y:Operand}{x:X}(h:bh y=some x) {L:Loc}{ρ:Env}{a:Act}(b:aC L ρ a) {k off:Nat}(e:ev ρ x=.own k off):∃g ty cs,L.get k=some (.box g ty cs):=by
 cases y<;>simp only[bh,WY,reduceCtorEq] at h<;>subst h
 ·exact b.own _ _ _ e
 ·cases e
 ·cases e
theorem qh {y:Operand}{x:X}(h:bh y=some x) {L:Loc}{ρ:Env}{a:Act}(c:aC L ρ a) {b:Option Addr}{j:Nat}(e:ev ρ x=.el b j):b≠none:=by
 cases y<;>simp only[bh,WY,reduceCtorEq] at h<;>subst h
 ·exact c.el _ _ _ e
 ·cases e
 ·cases e
theorem eW:∀{ys:List Operand}{xs:List X},fN ys=some xs->∀{L:Loc}{ρ:Env}{a:Act},aC L ρ a->ys.map a.eval=bf L ρ xs:=by
 intro ys
 induction ys with
 | nil=>intro xs h L ρ a b;simp only[fN,WY] at h;subst h;rfl
 | cons y ys e =>
  intro xs h L ρ a b;simp only[fN] at h;split at h
  ·rename_i x f d c;injection h with h
   subst h;simp only[Xa,bf,aG d b,e c b]
  ·cases h
def aZ (F:aA) (L:Loc) (w:World) (a:Act) (K:cE) (b:Act) (w':World):Prop :=
 ∃F' L' ρ',St F' L' w'/\aC L' ρ' b/\b.tmps.size=a.tmps.size/\b.defers=a.defers/\Step F L w F' L' w'/\K F' L' ρ'
theorem FV (a:Act) (d:Option Nat) (v:Value) (b:∀k,d=some k->k<a.tmps.size) (t:Nat) :
  (a.put d v).tmps.getD t undef=match d with | some k=>if t=k then v else a.tmps.getD t undef | none=>a.tmps.getD t undef:=by
 cases d with
 | none=>rfl
 | some k =>
  have:=b k rfl;simp only[Act.put,Xt,Array.getElem?_setIfInBounds]
  by_cases h:t=k
  ·subst h;simp[this]
  ·rw[vv (by omega),vv h]
theorem put_eq (d:Option Nat) (x:SV) (ρ:Env) (t:Nat):put d x ρ t=match d with | some k=>if t=k then x else ρ t | none=>ρ t:=by
 cases d with
 | none=>rfl
 | some k =>
  simp only[put];cases h:Nat.beq t k with
  | true=>have:=yo h;simp[this]
  | false=>have:=eV h;simp[this]
theorem aC.put {L L':Loc}{ρ:Env}{a:Act}(l:aC L ρ a) {d:Option Nat}{v:Value}{x:SV}(p:∀k,d=some k->k<a.tmps.size)
  (u:conc L' x=v) (r:∀k off,x=.own k off->∃g ty cs,L'.get k=some (.box g ty cs)) (q:∀f j,x=.el f j->f≠none)
  (n:∀k g ty cs,L.get k=some (.box g ty cs)->∃cs',L'.get k=some (.box g ty cs')):aC L' (put d x ρ) (a.put d v):=by
 have h:∀t,a.tmps.getD t undef=conc L' (ρ t):=by
  intro t;rw[l.eq t];cases e:ρ t with
  | v x=>rfl
  | el a j=>rfl
  | own k off =>
   obtain⟨g,ty,cs,m⟩:=l.own t k off e;obtain⟨cs',c⟩:=n k g ty cs m;simp only[conc,m,c]
 refine⟨fun t=>?_,fun t k off e=>?_,fun t f j e=>?_⟩
 ·rw[FV a d v p,put_eq];cases d with
  | none=>exact h t
  | some k =>
   simp only[];split
   ·exact u.symm
   ·exact h t
 ·rw[put_eq] at e;have b:∀k off,ρ t=.own k off->∃g ty cs,L'.get k=some (.box g ty cs):=by
   intro k off e;obtain⟨g,ty,cs,m⟩:=l.own t k off e;obtain⟨cs',c⟩:=n k g ty cs m;exact⟨g,ty,cs',c⟩
  cases d with
  | none=>exact b k off e
  | some s =>
   simp only[] at e;split at e
   ·exact r k off e
   ·exact b k off e
 ·rw[put_eq] at e;cases d with
  | none=>exact l.el t f j e
  | some s =>
   simp only[] at e;split at e
   ·exact q f j e
   ·exact l.el t f j e
theorem j9 (a:Act) (d:Option Nat) (v:Value):(a.put d v).tmps.size=a.tmps.size:=by cases d<;>simp[Act.put]
theorem gj (a:Act) (d:Option Nat) (v:Value):(a.put d v).defers=a.defers:=by cases d<;>rfl
section
variable {P:Program}{F:aA}{L:Loc}{ρ:Env}{a:Act}{w:World}{K:cE}{o:Oper}{Q:Exit->Act->World->Prop}
theorem bF (l:St F L w) (c:aC L ρ a) (m:∀k,o.dst=some k->k<a.tmps.size) {v:Value}{x:SV}
  (d:(execOp a.eval o).run P w=.ok (.value v) w) (n:conc L x=v) (h:∀k off,x=.own k off->∃g ty cs,L.get k=some (.box g ty cs)) (f:∀b j,x=.el b j->b≠none)
  (p:K F L (put o.dst x ρ)):o.wp P a w (aZ F L w a K) Q:=by
 unfold Oper.wp;rw[d];exact⟨F,L,_,l,c.put m n h f (fun k g ty cs e=>⟨cs,e⟩),j9 _ _ _,gj _ _ _,Step.refl _ _ _,p⟩
theorem fB (n:aC L ρ a) (e:∀k,o.dst=some k->k<a.tmps.size) {v:Value}{x:SV}{w':World}{F':aA}{L':Loc}
  (d:(execOp a.eval o).run P w=.ok (.value v) w') (p:St F' L' w') (b:Step F L w F' L' w') (q:conc L' x=v) (m:∀k off,x=.own k off->∃g ty cs,L'.get k=some (.box g ty cs)) (l:∀c j,x=.el c j->c≠none)
  (h:∀k g ty cs,L.get k=some (.box g ty cs)->∃cs',L'.get k=some (.box g ty cs')) (f:K F' L' (put o.dst x ρ)):o.wp P a w (aZ F L w a K) Q:=by
 unfold Oper.wp;rw[d];exact⟨F',L',_,p,n.put e q m l h,j9 _ _ _,gj _ _ _,b,f⟩
theorem rP (d:aC L ρ a) (l:∀k,o.dst=some k->k<a.tmps.size) {w':World}{F':aA}{L':Loc}
  (f:(execOp a.eval o).run P w=.ok .skip w') (h:St F' L' w') (b:Step F L w F' L' w')
  (c:∀k g ty cs,L.get k=some (.box g ty cs)->∃cs',L'.get k=some (.box g ty cs')) (j:K F' L' (put o.dst (.v undef) ρ)):o.wp P a w (aZ F L w a K) Q:=by
 unfold Oper.wp;rw[f];exact⟨F',L',_,h,d.put l rfl (fun _ _ e=>by cases e) (fun _ _ e=>by cases e) c,j9 _ _ _,gj _ _ _,b,j⟩
end
section
variable {P:Program}{F:aA}{L:Loc}{ρ:Env}{a:Act}{w:World}{K:cE}{o:Oper}{Q:Exit->Act->World->Prop}
theorem bL {v:Value}{L:Loc}:∀k off,SV.v v=.own k off->∃g ty cs,L.get k=some (.box g ty cs):=fun _ _ e=>by cases e
theorem dc {v:Value}:∀b j,SV.v v=.el b j->b≠none:=fun _ _ e=>by cases e
theorem qi (L:Loc):∀k g ty cs,L.get k=some (.box g ty cs)->∃cs',L.get k=some (.box g ty cs'):=fun k g ty cs e=>⟨cs,e⟩
theorem bB {x:X}{v:Value}{L:Loc}{ρ:Env}(h:ev ρ x=.v v):val L ρ x=v:=by simp only[val,h,conc]
theorem FW {y:Operand}{x:X}(f:St F L w) (b:aC L ρ a) (h:∀k,o.dst=some k->k<a.tmps.size)
  (c:o.op=.move y\/o.op=.assign y) (d:bh y=some x) (l:evalOp P (.mov x) o.dst F L ρ K):o.wp P a w (aZ F L w a K) Q:=by
 refine bF f b h (v:=a.eval y) (x:=ev ρ x) ?_ (aG d b).symm (fun k off e=>nj d b e) (fun m j e=>qh d b e) l;rcases c with c | c<;>simp only[execOp,c]<;>rfl
theorem IB {c y z:Operand}{q l f:X}(t:St F L w) (b:aC L ρ a) (p:∀k,o.dst=some k->k<a.tmps.size)
  (r:o.op=.pick c y z) (hc:bh c=some q) (n:bh y=some l) (m:bh z=some f) (d:evalOp P (.pick q l f) o.dst F L ρ K):o.wp P a w (aZ F L w a K) Q:=by
 have s:=aG hc b;simp only[evalOp,aI] at d;split at d
 ·rename_i h;refine bF t b p (v:=a.eval y) (x:=ev ρ l) ?_ (aG n b).symm (fun k off e=>nj n b e) (fun u j e=>qh n b e) d;simp only[execOp,r,s,val,h,conc];simp[asBool]
 ·rename_i h;refine bF t b p (v:=a.eval z) (x:=ev ρ f) ?_ (aG m b).symm (fun k off e=>nj m b e) (fun u j e=>qh m b e) d;simp only[execOp,r,s,val,h,conc];simp[asBool]
 ·exact d.elim
theorem fR (w:World) (o:Obj):(w.alloc o).heap[w.heap.size]?=some o:=heap_alloc_new w o
theorem o8 {F:aA}{L:Loc}{w:World}(c:St F L w):F w.heap.size=none/\¬L.owns w.heap.size:=by
 refine⟨?_,fun h=>?_⟩
 ·cases h:F w.heap.size with
  | none=>rfl
  | some _=>have:=c.WC (b:=w.heap.size) (by rw[h];simp);omega
 ·have:=c.WI h;omega
theorem St.alloc (c:St F L w) (o:Obj):St F L (w.alloc o):=c.keep fun b hb=>Below.heap_alloc w o b hb
theorem lO (n:St F L w) {k:Nat}(m:L.get k=none) {ob:Obj}{e:Own}(hb:e.blk=some w.heap.size) (l:e.ok (w.alloc ob)) :
  St F (L.set k e) (w.alloc ob)/\Step F L w F (L.set k e) (w.alloc ob) /\
   (∀j g ty xs,L.get j=some (.box g ty xs)->∃cs',(L.set k e).get j=some (.box g ty cs')):=by
 obtain⟨p,r⟩:=o8 n;refine⟨(n.alloc _).put m l fun g c=>?_,?_,fun j g ty xs d=>?_⟩
 ·rw[hb] at c;injection c with c;subst c;exact⟨p,r⟩
 ·refine Step.mk' (aA.le_refl F) (World.grownBy_alloc w _ none) (fun b hb=>.inl hb) fun b q=>?_;rcases Loc.Wq q with h | h
  ·rw[hb] at h;injection h with h;exact .inr (by omega)
  ·exact .inl h
 ·rw[Loc.Wh];split
  ·rename_i f;subst f;rw[m] at d;cases d
  ·exact⟨xs,d⟩
theorem jM (d:St F L w) {k:Nat}(c:L.get k=none) {cs:Array Value}{t:TypeId}{e:Own}(hb:e.blk=some w.heap.size) (b:e.ok (w.alloc (.cells cs t))) :
  St F (L.set k e) (w.alloc (.cells cs t))/\Step F L w F (L.set k e) (w.alloc (.cells cs t)) /\
   (∀j g ty xs,L.get j=some (.box g ty xs)->∃cs',(L.set k e).get j=some (.box g ty cs')):=lO d c hb b
theorem Mr {y:Operand}{x:X}{t:TypeId}(s:St F L w) (h:aC L ρ a) (l:∀k,o.dst=some k->k<a.tmps.size)
  (p:o.op=.box t y) (j:bh y=some x) (d:t≠0) (c:evalOp P (.box t x) o.dst F L ρ K):o.wp P a w (aZ F L w a K) Q:=by
 simp only[evalOp,aI] at c;split at c
 case h_2=>exact c.elim
 rename_i _ k f;split at c
 case h_2=>exact c.elim
 rename_i _ m;have c:=c w.heap.size;have b:(Value.cells (a.eval y)).toList=aH (val L ρ x):=by
  rw[aG j h];cases val L ρ x<;>rfl
 obtain⟨n,r,q⟩:=jM s m (cs:=(a.eval y).cells) (t:=t) (e:=.box w.heap.size t (aH (val L ρ x))) rfl
  (by show _=_;rw[fR,gD d,<-b])
 refine fB h l (v:=.pointer (some ⟨w.heap.size,0,none⟩)) (x:=.own k 0) ?_ n r ?_ ?_ (fun _ _ e=>by cases e) q c
 ·simp[execOp,p,Instr.box,newVar,newRow]
 ·simp only[conc,Loc.Wh,Xq]
 ·rintro u off e;injection e with e1 e2
  subst e1;exact⟨_,_,_,by rw[Loc.Wh,j3 rfl]⟩
theorem FX {t:TypeId}{i:TypeInfo}{zs:List Value}(s:St F L w) (r:aC L ρ a) (j:∀k,o.dst=some k->k<a.tmps.size)
  (n:o.op=.alloc t) (hi:P.info? t=some i) (c:N7 i=some zs) (f:t≠0) (b:evalOp P (.alloc t zs) o.dst F L ρ K):o.wp P a w (aZ F L w a K) Q:=by
 simp only[evalOp,aI] at b;split at b
 case h_2=>exact b.elim
 rename_i _ k h;split at b
 case h_2=>exact b.elim
 rename_i _ l;have b:=b w.heap.size;unfold N7 at c;split at c
 case h_2=>cases c
 rename_i z d;injection c with c
 obtain⟨m,q,p⟩:=jM s l (cs:=z.cells) (t:=t) (e:=.box w.heap.size t zs) rfl
  (by show _=_;rw[fR,gD f,<-c])
 refine fB r j (v:=.pointer (some ⟨w.heap.size,0,none⟩)) (x:=.own k 0) ?_ m q ?_ ?_ (fun _ _ e=>by cases e) p b
 ·simp[execOp,n,Instr.alloc,zeroValue,typeInfo,hi,d,newVar,newRow]
 ·simp only[conc,Loc.Wh,Xq]
 ·rintro u off e;injection e with e1 e2
  subst e1;exact⟨_,_,_,by rw[Loc.Wh,j3 rfl]⟩
theorem uK {t:TypeId}{l:List Value}{n:Nat}(h:iB t l n=true):t≠0:=by
 rintro rfl;simp[iB] at h
theorem zh {t:TypeId}{l:List Value}{n:Nat}(h:iB t l n=true):eT l n=true:=by
 unfold iB at h;split at h
 ·cases h
 ·exact h
theorem fk {t:TypeId}{l:List Value}{n:Nat}(h:t≠0) (b:eT l n=true):iB t l n=true:=by
 unfold iB;split
 ·rename_i e;exact xo (yo e) h
 ·exact b
theorem gZ:∀{l:List Value}{n:Nat},eT l n=true->l.length=n
 | [],0,_=>rfl
 | _::l,n+1,h=>by simp only[eT] at h;simp[gZ h]
 | [],_+1,h=>by simp[eT] at h
 | _::_,0,h=>by simp[eT] at h
theorem gN {cs vs:List Value}{off:Nat}(h:off+vs.length<=cs.length) (n:Nat) :
  (aM cs off vs)[n]?=if n<off then cs[n]? else if n<off+vs.length then vs[n-off]? else cs[n]?:=by
 unfold aM;have d:(cs.take off).length=off:=by simp;omega
 by_cases b:n<off
 ·rw[j3 b,Xb,Xc (by omega),List.getElem?_take_of_lt b]
 ·rw[vv b]
  by_cases c:n<off+vs.length
  ·rw[j3 c,Xb,Xi (by omega),Xc (by omega),d]
  ·rw[vv c,Xb,Xi (by omega),Xi (by omega),d,Xy];congr 1;omega
theorem IE (vs:List Value):∀(off j:Nat) (cells:Array Value),off+j+vs.length<=cells.size ->
  ((vs.zipIdx j).foldl (fun cs (c,j)=>cs.setIfInBounds (off+j) c) cells).toList=aM cells.toList (off+j) vs:=by
 induction vs with
 | nil=>intro off j cells h;simp[aM]
 | cons v vs f =>
  intro off j cells h;simp only[List.zipIdx_cons,List.foldl_cons,Xl] at h ⊢;have:=f off (j+1) (cells.setIfInBounds (off+j) v) (by simp;omega);rw[this];apply XF;intro n;rw[gN (by simp;omega),gN (by simp;omega)];simp only[Array.toList_setIfInBounds,Xl]
  by_cases e:n=off+j
  ·subst e;rw[j3 (by omega),vv (by omega),j3 (by omega),List.getElem?_set_self (by simp;omega)];simp
  ·by_cases b:n<off+j
   ·rw[j3 (by omega),j3 b,X2 (by omega)]
   ·by_cases d:n<off+(j+1)+vs.length
    ·rw[vv (by omega),j3 d,vv b,j3 (by omega),show n-(off+j)=(n-(off+(j+1)))+1 by omega,XM]
    ·rw[vv (by omega),vv d,vv b,vv (by omega),X2 (by omega)]
theorem Ay (vs:Array Value) (off:Nat) (cells:Array Value) (h:off+vs.size<=cells.size) :
  (vs.zipIdx.foldl (fun cs (x:Value×Nat)=>cs.setIfInBounds (off+x.2) x.1) cells).toList=aM cells.toList off vs.toList:=by
 have:=IE vs.toList off 0 cells (by simpa using h);rw[Nat.add_zero] at this;rw[<-this];congr 1;rw[<-Array.foldl_toList,Array.toList_zipIdx]
theorem eO (cs:List Value) (off:Nat) (vs:List Value) (h:off+vs.length<=cs.length):(aM cs off vs).length=cs.length:=by
 simp[aM];omega
theorem nk (v:Value):aH v=v.cells.toList:=by cases v<;>rfl
theorem Cg (sz n:Nat):∀(vs:List Value) (k:Nat) (cells:Array Value),cells.size=n*sz->k+vs.length=n->(∀v∈vs,v.cells.size=sz) ->
  ∃out,Instr.fill (fun i=>some (i*sz,sz)) cells ((List.range' k vs.length).zip vs)=some out /\
   out.toList=cells.toList.take (k*sz)++(vs.map (fun v=>v.cells.toList)).flatten:=by
 intro vs
 induction vs with
 | nil =>
  intro k cells f d e;refine⟨cells,by simp[Instr.fill],?_⟩;simp at d ⊢;subst d;rw[XO (by simp;omega)]
 | cons v vs q =>
  intro k cells f d e;have h:=e v (by simp);have l:k*sz+sz<=n*sz:=by
   rw[<-Nat.succ_mul];exact Nat.mul_le_mul_right _ (by simp at d;omega)
  simp only[Xl,List.range'_succ,List.zip_cons_cons,Instr.fill];rw[vv (by simp[h];omega)];have b:=Ay v.cells (k*sz) cells (by omega);have c:(v.cells.zipIdx.foldl (fun cs (x:Value×Nat)=>cs.setIfInBounds (k*sz+x.2) x.1) cells).size=n*sz:=by
   rw[<-Array.length_toList,b,eO _ _ _ (by simp;omega)];simpa using f
  obtain⟨out,p,m⟩:=q (k+1) _ c (by simp at d;omega) (fun u j=>e u (by simp[j]));refine⟨out,p,?_⟩;rw[m,b];simp only[aM,Xa,List.flatten_cons,<-Xb];congr 1;rw[Nat.succ_mul];have r:v.cells.toList.length=sz:=by simpa using h
  apply XF;intro i
  by_cases s:i<k*sz
  ·rw[List.getElem?_take_of_lt (by omega),Xb,Xc (by simp;omega),Xc (by simp;omega)]
  ·by_cases t:i<k*sz+sz
   ·rw[List.getElem?_take_of_lt (by omega),Xb,Xi (by simp;omega),Xc (by simp;omega),Xi (by simp;omega)]
   ·rw[Xe (by simp;omega),Xe (by simp;omega)]
end
section
variable {P:Program}{F:aA}{L:Loc}{ρ:Env}{a:Act}{w:World}{K:cE}{o:Oper}{Q:Exit->Act->World->Prop}
theorem vo (L:Loc) (ρ:Env):∀xs:List X,cellsOf L ρ xs=((bf L ρ xs).map fun v=>v.cells.toList).flatten
 | []=>rfl
 | x::xs=>by simp only[cellsOf,bf,Xa,List.flatten_cons,vo L ρ xs,nk]
theorem xY {L:Loc}{ρ:Env}{sz:Nat}:∀{xs:List X},eU L ρ sz xs=true->∀v∈bf L ρ xs,v.cells.size=sz
 | [],_,v,b=>by cases b
 | x::xs,h,v,b=>by
  simp only[eU] at h;split at h
  ·rename_i c;simp only[bf,W7] at b;rcases b with rfl | b
   ·have:=gZ c;rw[nk] at this;simpa using this
   ·exact xY h v b
  ·cases h
theorem kZ (L:Loc) (ρ:Env):∀xs:List X,(bf L ρ xs).length=xs.length
 | []=>rfl
 | _::xs=>by simp[bf,kZ L ρ xs]
theorem o9 {L:Loc}{ρ:Env}{sz:Nat}:∀{xs:List X},eU L ρ sz xs=true->(cellsOf L ρ xs).length=xs.length*sz
 | [],_=>by simp[cellsOf]
 | x::xs,h=>by
  simp only[eU] at h;split at h
  ·rename_i b;have:=gZ b;simp only[cellsOf,W8,this,o9 h,Xl,Nat.succ_mul];omega
  ·cases h
theorem Ch {ps:List (Nat×Operand)}{f:Operand->Value}{n:Nat}(h:ps.map (·.1)=List.range n) :
  ps.map (fun p=>(p.1,f p.2))=(List.range' 0 ps.length).zip ((ps.map (·.2)).map f):=by
 have b:ps.length=n:=by have:=p7 List.length h;simpa using this
 rw[b,<-List.range_eq_range',<-h]
 clear h b
 induction ps with
 | nil=>rfl
 | cons p ps c=>simp[c]
theorem pq {t e n:Nat}{ps:Array (Nat×Operand)}{i:TypeInfo}{z:Value}{xs:List X}(ht:P.underlying t=some (.slice e)) (hi:P.info? e=some i) (u:i.zero=some z)
  (y:fN (ps.toList.map (·.2))=some xs) (m:ps.toList.map (·.1)=List.range n) (hb:n*i.size<=2 ^ 24) (hp:eU L ρ i.size xs=true) (he:aC L ρ a) :
  (Instr.buildSlice t n (ps.map fun(j,x)=>(j,a.eval x))).run P w=.ok (.slice (some ⟨w.heap.size,0,none⟩) n n) (w.alloc (.cells (cellsOf L ρ xs).toArray e))/\xs.length=n:=by
 have l:=eW y he;have d:xs.length=n:=by
  have k:=p7 List.length l;have q:=p7 List.length m;simp only[Xj,kZ,List.length_range] at k q;omega
 have p:ps.toList.length=n:=by have:=p7 List.length m;simpa using this
 have b:(ps.map fun(x:Nat×Operand)=>(x.1,a.eval x.2)).toList=(List.range' 0 (bf L ρ xs).length).zip (bf L ρ xs):=by
  rw[Array.toList_map,Ch m,l,kZ,d,p]
 have f:=fun(cells:Array Value) (hc:cells.size=n*i.size)=>Cg i.size n (bf L ρ xs) 0 cells hc (by rw[kZ];omega) (xY hp);refine⟨?_,d⟩;have r:∀zero:Array Value,((Array.range (n*i.size)).map (zero[· % zero.size]!)).size=n*i.size:=fun _=>by simp
 obtain⟨out,k,q⟩:=f ((Array.range (n*i.size)).map ((if n*i.size=0 then #[] else z.cells)[· % (if n*i.size=0 then #[] else z.cells).size]!)) (r _);have c:out=(cellsOf L ρ xs).toArray:=by
  apply Array.ext';rw[q,vo];simp
 have s:¬(n*i.size>2 ^ 24):=by omega
 unfold Instr.buildSlice;simp only[Sem.run_bind,run_underlying ht,Result.andThen_ok,sizeOf,typeInfo,hi,run_program,Sem.run_pure,vv s,zeroValue,u]
 by_cases v:n*i.size=0
 ·simp only[v,Xq] at k ⊢
  try simp only[Sem.run_pure,Result.andThen_ok]
  rw[b];have h:=k;simp only[h,c,newRow,Sem.run_bind,run_newObj,Result.andThen_ok,Sem.run_pure];rfl
 ·simp only[v,XC] at k ⊢;simp only[Sem.run_bind,hi,u,run_program,Sem.run_pure,Result.andThen_ok];rw[b];have h:=k;simp only[h,c,newRow,Sem.run_bind,run_newObj,Result.andThen_ok,Sem.run_pure];rfl
theorem IG {t:TypeId}{y:Operand}{x:X}(l:St F L w) (n:aC L ρ a) (q:∀k,o.dst=some k->k<a.tmps.size)
  (r:o.op=.box t y) (p:bh y=some x) (m:evalOp P (.boxF t x) o.dst F L ρ K):o.wp P a w (aZ F L w a K) Q:=by
 simp only[evalOp] at m;have c:(a.eval y).cells=(aH (val L ρ x)).toArray:=by
  apply Array.ext';rw[aG p n];cases val L ρ x<;>rfl
 have d:=fR w (.cells (aH (val L ρ x)).toArray t);obtain⟨s,j⟩:=o8 l;have f:=(l.alloc (.cells (aH (val L ρ x)).toArray t)).freeze d j;have e:=aA.Ww (l.alloc (.cells (aH (val L ρ x)).toArray t)) d;refine fB n q (v:=.pointer (some ⟨w.heap.size,0,none⟩)) (x:=.v (.pointer (some ⟨w.heap.size,0,none⟩))) ?_ f (Step.mk' e (World.grownBy_alloc w _ none) ?_ fun b h=>.inl h) rfl bL dc (qi L) (m w.heap.size _ e (by simp))
 ·simp[execOp,r,Instr.box,newVar,newRow,c]
 ·intro b hb
  by_cases h:b=w.heap.size
  ·exact .inr (.inr (by omega))
  ·simp only[vv h] at hb;exact .inl hb
theorem Ms {t e n:Nat}{ps:Array (Nat×Operand)}{i:TypeInfo}{z:Value}{xs:List X}(p:St F L w) (r:aC L ρ a) (y:∀k,o.dst=some k->k<a.tmps.size)
  (ho:o.op=.buildSlice t n ps) (ht:P.underlying t=some (.slice e)) (hi:P.info? e=some i) (hz:i.zero=some z)
  (s:fN (ps.toList.map (·.2))=some xs) (u:ps.toList.map (·.1)=List.range n) (hb:n*i.size<=2 ^ 24) (j:evalOp P (.mkF e n i.size xs) o.dst F L ρ K):o.wp P a w (aZ F L w a K) Q:=by
 simp only[evalOp,aI] at j;split at j
 case h_2=>exact j.elim
 rename_i hp;obtain⟨f,q⟩:=pq (w:=w) ht hi hz s u hb hp r;have c:=fR w (.cells (cellsOf L ρ xs).toArray e);obtain⟨hf,m⟩:=o8 p;have l:=(p.alloc (.cells (cellsOf L ρ xs).toArray e)).freeze c m;have d:=aA.Ww (p.alloc (.cells (cellsOf L ρ xs).toArray e)) c;refine fB r y (v:=.slice (some ⟨w.heap.size,0,none⟩) n n) (x:=.v (.slice (some ⟨w.heap.size,0,none⟩) n n)) ?_ l (Step.mk' d (World.grownBy_alloc w _ none) ?_ fun b h=>.inl h) rfl bL dc (qi L) (j w.heap.size _ d (by simp))
 ·simp only[execOp,ho,Sem.run_bind,f,Result.andThen_ok,Sem.run_pure]
 ·intro b hb
  by_cases h:b=w.heap.size
  ·exact .inr (.inr (by omega))
  ·simp only[vv h] at hb;exact .inl hb
theorem ld (w:World) (cs:List Value) (e:TypeId) (n sz:Nat) (c:n<=maxLen) (b:cs.length=n*sz) :
  (w.alloc (.cells cs.toArray e)).ownsRow 0 e sz (.slice (some ⟨w.heap.size,0,none⟩) n n) n cs :=
 ⟨b,.inr ⟨w.heap.size,n,cs.toArray,rfl,Xx _,fR w _,Xn _,c,by simpa using b,by simp[<-b]⟩⟩
theorem Mt {t e n:Nat}{ps:Array (Nat×Operand)}{i:TypeInfo}{z:Value}{xs:List X}(hs:St F L w) (j:aC L ρ a) (q:∀k,o.dst=some k->k<a.tmps.size)
  (ho:o.op=.buildSlice t n ps) (s:P.underlying t=some (.slice e)) (hi:P.info? e=some i) (r:i.zero=some z)
  (m:fN (ps.toList.map (·.2))=some xs) (p:ps.toList.map (·.1)=List.range n) (hb:n*i.size<=2 ^ 24) (hn:n<=2 ^ 24) (b:evalOp P (.mkR e n i.size xs) o.dst F L ρ K):o.wp P a w (aZ F L w a K) Q:=by
 simp only[evalOp,aI] at b;split at b
 case h_2=>exact b.elim
 rename_i _ _ k l h;split at b
 case h_2=>exact b.elim
 rename_i _ u;obtain⟨f,c⟩:=pq (w:=w) s hi r m p hb l j;have d:=ld w (cellsOf L ρ xs) e n i.size (by simp only[maxLen];omega) (by rw[o9 l,c]);obtain⟨y,h2,h3⟩:=jM hs u (cs:=(cellsOf L ρ xs).toArray) (t:=e) (e:=.row (.slice (some ⟨w.heap.size,0,none⟩) n n) e i.size n (cellsOf L ρ xs)) rfl d;refine fB j q (v:=.slice (some ⟨w.heap.size,0,none⟩) n n) (x:=.v (.slice (some ⟨w.heap.size,0,none⟩) n n)) ?_ y h2 rfl bL dc h3 (b w.heap.size);simp only[execOp,ho,Sem.run_bind,f,Result.andThen_ok,Sem.run_pure]
def placeOf (P:Program) (f:Field):Nat×Nat:=(f.offset,P.cellsOf f.type)
def vp (f:Field):Sem (Nat×Nat):=do pure (f.offset,<-sizeOf f.type)
theorem xB {v:Array Field}:∀{ps:List (Nat×Operand)}{l:List (Nat×Nat×X)},ni P v ps=some l->∀{cells:Array Value}{cs:List Value}(q:Array (Nat×Nat)),aC L ρ a ->
  (∀(j:Nat) (f:Field) (i:TypeInfo),v[j]?=some f->P.info? f.type=some i->q[j]?=some (f.offset,i.size)) ->
  built L ρ cells.toList l=some cs->(∀off n x,(off,n,x)∈l->off+n<=cells.size) ->
  ∃out,Instr.fill (q[·]?) cells (ps.map fun p=>(p.1,a.eval p.2))=some out/\out.toList=cs:=by
 intro ps
 induction ps with
 | nil =>
  intro l h cells cs q s e hb k;simp only[ni,WY] at h;subst h;simp only[built,WY] at hb;exact⟨cells,rfl,hb⟩
 | cons p ps ih =>
  intro l h cells cs q s e hb k;obtain⟨j,y⟩:=p;simp only[ni] at h;split at h
  case h_2=>cases h
  rename_i f x l' hf z t;split at h
  case h_2=>cases h
  rename_i i hi;injection h with h
  subst h;simp only[built] at hb;split at hb
  case h_2=>cases hb
  rename_i b;have b:=gZ b;have m:=k f.offset i.size x (by simp);have r:=aG z s;simp only[Xa,Instr.fill,e j f i hf hi];have u:(a.eval y).cells.size=i.size:=by rw[r];rw[nk] at b;simpa using b
  rw[vv (by simp[u];omega)];have c:=Ay (a.eval y).cells f.offset cells (by omega);have d:(a.eval y).cells.toList=aH (val L ρ x):=by rw[r,nk]
  rw[d] at c;refine ih t q s e (cs:=cs) ?_ ?_
  ·rw[c];exact hb
  ·intro off n x' hm;rw[<-Array.length_toList,c,eO _ _ _ (by rw[b];simpa using m)];simpa using k off n x' (by simp[hm])
theorem uy (P:Program) (w:World):∀(b:List Field),(∀f:Field,f∈b->(P.info? f.type).isSome=true) ->
  (b.mapM vp).run P w=.ok (b.map (placeOf P)) w:=by
 intro b
 induction b with
 | nil=>intro _;simp
 | cons f b c =>
  intro h;have d:=h f (by simp);obtain⟨i,hi⟩:=Option.isSome_iff_exists.1 d;simp only[List.mapM_cons,vp,Sem.run_bind,sizeOf,typeInfo,run_program,Result.andThen_ok,hi,Sem.run_pure];rw[c (fun g e=>h g (by simp[e]))];simp[placeOf,Program.cellsOf,hi]
theorem FY {t:Nat}{ps:Array (Nat×Operand)}{b:Array Field}{i:TypeInfo}{zs:List Value}{l:List (Nat×Nat×X)}(hs:St F L w) (he:aC L ρ a) (hd:∀k,o.dst=some k->k<a.tmps.size)
  (ho:o.op=.build t ps) (ht:P.underlying t=some (.struct b)) (hi:P.info? t=some i) (c:N7 i=some zs) (hl:ni P b ps.toList=some l) (h:∀f:Field,f∈b.toList->(P.info? f.type).isSome=true)
  (y:∀off n x,(off,n,x)∈l->off+n<=zs.length) (m:evalOp P (.build zs l) o.dst F L ρ K):o.wp P a w (aZ F L w a K) Q:=by
 simp only[evalOp,aI] at m;split at m
 case h_2=>exact m.elim
 rename_i cs u;unfold N7 at c;split at c
 case h_2=>cases c
 rename_i z q;injection c with c
 have r:∀(j:Nat) (f:Field) (i:TypeInfo),b[j]?=some f->P.info? f.type=some i->(b.map (placeOf P))[j]?=some (f.offset,i.size):=by
  intro j f i s h2;simp[s,placeOf,Program.cellsOf,h2]
 obtain⟨out,s,h2⟩:=xB (a:=a) (cells:=z.cells) (cs:=cs) hl _ he r (by rw[c];exact u) (by intro off n x hm;have:=y off n x hm;rw[<-c] at this;simpa using this);have e:out=cs.toArray:=by apply Array.ext';simpa using h2
 have d:(b.mapM vp).run P w=.ok (b.map (placeOf P)) w:=by
  rw[Array.mapM_eq_mapM_toList,Sem.run_map,uy P w _ h];simp only[Result.andThen_ok];congr 1;exact Array.ext' (by simp)
 refine bF hs he hd (v:=.agg cs.toArray) (x:=.v (.agg cs.toArray)) ?_ rfl bL dc m;simp only[execOp,ho,Instr.build,Sem.run_bind,zeroValue,typeInfo,run_program,Result.andThen_ok,hi,Sem.run_pure,q,run_underlying ht];rw[show(b.mapM fun(f:Field)=>(do pure (f.offset,<-sizeOf f.type):Sem (Nat×Nat))).run P w=.ok (b.map (placeOf P)) w from d];simp only[Result.andThen_ok];rw[show(ps.map fun(x:Nat×Operand)=>(x.1,a.eval x.2)).toList=ps.toList.map (fun p=>(p.1,a.eval p.2)) by simp,s,e];simp
theorem sQ {t:Nat}{d:TypeDesc}(b:P.underlying t=some d):(isAgg t).run P w=.ok (dh d) w:=by
 unfold isAgg;simp only[Sem.run_bind,run_underlying b,Result.andThen_ok];cases d<;>rfl
theorem nT {t:Nat}{d:TypeDesc}{i:TypeInfo}(k:P.underlying t=some d) (hi:P.info? t=some i) {c:Addr}{cs:List Value}{n:Nat}
  (f:∀j v,cs[j]?=some v->w.cell? (c.add j)=some v) (b:cs.length=n) (e:n=match dh d with | true=>i.size | false=>1) :
  (Instr.loadAt t (.pointer (some c))).run P w=.ok (fM (dh d) cs) w:=by
 simp only[Instr.loadAt,Instr.sureAddr,Sem.run_bind,Sem.run_pure,Result.andThen_ok,loadVar,sQ k];cases h:dh d with
 | true =>
  simp only[h] at e;simp only[Xq,Sem.run_bind,sizeOf,typeInfo,run_program,Result.andThen_ok,hi,Sem.run_pure];rw[<-e,<-b,run_loadCells_list w c cs f];rfl
 | false =>
  simp only[h] at e;subst e
  match cs,b with
  | [v],_ =>
   have:=f 0 v (by simp);rw[show c.add 0=c by simp[Addr.add]] at this;simp[run_load,this,fM]
theorem mK {g:Nat}{t:TypeId}{cs:List Value}(b:t≠0) (h:Own.ok w (.box g t cs)) (n:Nat):w.cell? ⟨g,n,none⟩=cs[n]?:=by
 simp only[Own.ok,gD b] at h;simp[World.cell?,h]
theorem II {t:Nat}{y:Operand}{x:X}{d:TypeDesc}{i:TypeInfo}{n:Nat}(hs:St F L w) (he:aC L ρ a) (hd:∀k,o.dst=some k->k<a.tmps.size)
  (ho:o.op=.load t y) (ht:P.underlying t=some d) (hi:P.info? t=some i) (hx:bh y=some x) (hn:n=match dh d with | true=>i.size | false=>1)
  (q:evalOp P (.load (dh d) n x) o.dst F L ρ K):o.wp P a w (aZ F L w a K) Q:=by
 have ec:=aG hx he;have r:∀(l:Option Addr) (j:Nat),l≠none->(ja F L l j n fun cs=>K F L (put o.dst (.v (fM (dh d) cs)) ρ))->a.eval y=conc L (.el l j)->o.wp P a w (aZ F L w a K) Q:=by
  rintro l j ay ⟨cs,s,hc,q⟩ hy;cases l with
  | none=>exact xo rfl ay
  | some l =>
   have f:∀i v,cs[i]?=some v->w.cell? ((l.add j).add i)=some v:=by
    rcases hc with hc | ⟨k,v,t',sz,m,xs,ar,c,hk,e1,e2,hc⟩ | av | ⟨k,g,t',bs,o',hk,ab,e1,hc⟩
    ·obtain⟨ar,e,am,aE⟩:=hc.cell hs;injection e with e
     subst e;intro i v hv;obtain⟨b,o',sp⟩:=l;simp only at am;subst am;rw[bU,bU,Nat.add_assoc,<-bU];exact aE i v hv
    ·injection e1 with e1
     subst e1;have z:=hs.own k _ hk;simp only[Own.ok] at z;subst e2;intro i u hu;have hb:=hc i u hu;have h0:=World.ownsRow.cells z (g:=l.block) rfl (j+i) u hb;rcases z.2 with⟨e,_⟩ | ⟨g,cap,bm,e,_⟩
     ·cases e
     ·injection e with e1 e2 e3
      injection e1 with e1
      subst e1;rw[bU,bU];rw[bU] at h0;simpa[Nat.add_assoc] using h0
    ·intro i v hv;rw[av] at s;have:cs=[]:=Xu s;subst this;simp at hv
    ·injection e1 with e1
     subst e1;intro i u hu;rw[bU,bU,mK ab (hs.own k _ hk)];exact hc i u hu
   refine bF hs he hd (v:=fM (dh d) cs) (x:=.v (fM (dh d) cs)) ?_ rfl bL dc q;simp only[execOp,ho,hy,conc,Sem.run_bind,nT ht hi f s hn,Result.andThen_ok,Sem.run_pure]
 simp only[evalOp,aI] at q;split at q
 ·rename_i k off p;split at q
  case h_2=>exact q.elim
  rename_i g ty cs hk;split at q
  case h_2=>exact q.elim
  rename_i hl;have ab:=uK hl;have hl:=gZ (zh hl);have an:=hs.own k _ hk;have f:∀j v,((cs.drop off).take n)[j]?=some v->w.cell? ((⟨g,off,none⟩:Addr).add j)=some v:=by
   intro j v hv;rw[bU,mK ab an];have hj:j<n:=by
    have:=W5.1 hv;obtain⟨h,_⟩:=this;omega
   rw[List.getElem?_take_of_lt hj,Xy] at hv;exact hv
  refine bF hs he hd (v:=fM (dh d) ((cs.drop off).take n)) (x:=.v (fM (dh d) ((cs.drop off).take n))) ?_ rfl bL dc q;have hy:a.eval y=.pointer (some ⟨g,off,none⟩):=by rw[ec];simp only[val,p,conc,hk]
  simp only[execOp,ho,hy,Sem.run_bind,nT ht hi f hl hn,Result.andThen_ok,Sem.run_pure]
 ·rename_i l j p;exact r l j (qh hx he p) q (by rw[ec];simp only[val,p])
 ·rename_i l p;refine r (some l) 0 (by simp) q ?_;rw[ec];simp only[val,p,conc];simp[Addr.add]
 ·exact q.elim
end
section
variable {P:Program}{F:aA}{L:Loc}{ρ:Env}{a:Act}{w:World}{K:cE}{o:Oper}{Q:Exit->Act->World->Prop}
theorem xZ {k b:IntKind}(h:oZ k b=true):k=b:=by cases k<;>cases b<;>first | rfl | cases h
theorem qP {op:BinOp}{t:TypeId}{x y:Operand}{u v:Value}(h:∀c,u≠.agg c) (b:u≠.nilIface):(eqGuard op t x y u v).run P w=.ok () w:=by
 have key:(eqGuard op t x y u v).run P w=.ok () w\/True:=.inr trivial;unfold eqGuard;cases op<;>simp only[Bool.not_true,Bool.not_false,Xq,Xd,XC]<;>first
  | rfl
  | (cases u<;>first | rfl | exact xo rfl (h _) | exact xo rfl b)
theorem toList_data (s:ByteArray):s.toList=s.data.toList:=ByteArray.toList_eq s
theorem uL (x y:List UInt8):(x == y)=decide (x=y):=by rw[Bool.eq_iff_iff];simp
theorem Mu {t t':TypeId}{op:BinOp}{y z:Operand}{l z':X}(hs:St F L w) (he:aC L ρ a) (hd:∀k,o.dst=some k->k<a.tmps.size)
  (ho:o.op=.binOp op t y z t') (hy:bh y=some l) (hz:bh z=some z') (d:evalOp P (.bin op l z') o.dst F L ρ K):o.wp P a w (aZ F L w a K) Q:=by
 have ey:=aG hy he;have ez:=aG hz he;have fin:∀v,(binOp op t (val L ρ l) (val L ρ z')).run P w=.ok v w->(∀c,val L ρ l≠.agg c)->val L ρ l≠.nilIface->K F L (put o.dst (.v v) ρ)->o.wp P a w (aZ F L w a K) Q:=by
  intro v hr r h2 d;refine bF hs he hd (v:=v) (x:=.v v) ?_ rfl bL dc d;simp only[execOp,ho,ey,ez,Sem.run_bind,qP r h2,Result.andThen_ok,hr,Sem.run_pure]
 simp only[evalOp,aI] at d;split at d
 ·rename_i k n k' m j f;have b:=bB (L:=L) j;have e:=bB (L:=L) f;split at d
  ·rename_i p;have q:op=.shl\/op=.shr:=by cases op<;>simp_all [FT]
   have r:(binOp op t (.int k n) (.int k' m)).run P w=(Op.shift op k n k' m).run P w:=by rcases q with rfl | rfl<;>rfl
   rcases q with rfl | rfl
   ·obtain⟨hm,⟨d⟩⟩:=d;refine fin _ ?_ (by rw[b];simp) (by rw[b];simp) d;rw[b,e,r];simp[Op.shift,show¬m<0 by omega]
   ·obtain⟨hm,d⟩:=d;refine fin _ ?_ (by rw[b];simp) (by rw[b];simp) d;rw[b,e,r];simp[Op.shift,show¬m<0 by omega]
  ·rename_i p;split at d
   case h_2=>exact d.elim
   rename_i hk;have hk:=xZ hk;subst hk;cases op<;>simp only[binI] at d<;>first | (cases p;done) | skip
   ·obtain⟨d⟩:=d;exact fin _ (by rw[b,e];simp[binOp,Op.intArith]) (by rw[b];simp) (by rw[b];simp) d
   ·obtain⟨d⟩:=d;exact fin _ (by rw[b,e];simp[binOp,Op.intArith]) (by rw[b];simp) (by rw[b];simp) d
   ·obtain⟨d⟩:=d;exact fin _ (by rw[b,e];simp[binOp,Op.intArith]) (by rw[b];simp) (by rw[b];simp) d
   ·obtain⟨h,⟨d⟩⟩:=d;exact fin _ (by rw[b,e];simp[binOp,Op.intDiv,h]) (by rw[b];simp) (by rw[b];simp) d
   ·obtain⟨h,d⟩:=d;exact fin _ (by rw[b,e];simp[binOp,Op.intDiv,h]) (by rw[b];simp) (by rw[b];simp) d
   ·exact fin _ (by rw[b,e];simp[binOp,Op.intBits]) (by rw[b];simp) (by rw[b];simp) d
   ·exact fin _ (by rw[b,e];simp[binOp,Op.intBits]) (by rw[b];simp) (by rw[b];simp) d
   ·exact fin _ (by rw[b,e];simp[binOp,Op.intBits]) (by rw[b];simp) (by rw[b];simp) d
   ·exact fin _ (by rw[b,e];simp[binOp,Op.intBits]) (by rw[b];simp) (by rw[b];simp) d
   ·exact fin _ (by rw[b,e];simp[binOp,Op.intCmp];rfl) (by rw[b];simp) (by rw[b];simp) d
   ·exact fin _ (by rw[b,e];simp[binOp,Op.intCmp,bne];rfl) (by rw[b];simp) (by rw[b];simp) d
   ·exact fin _ (by rw[b,e];simp[binOp,Op.intCmp]) (by rw[b];simp) (by rw[b];simp) d
   ·exact fin _ (by rw[b,e];simp[binOp,Op.intCmp]) (by rw[b];simp) (by rw[b];simp) d
   ·exact fin _ (by rw[b,e];simp[binOp,Op.intCmp]) (by rw[b];simp) (by rw[b];simp) d
   ·exact fin _ (by rw[b,e];simp[binOp,Op.intCmp]) (by rw[b];simp) (by rw[b];simp) d
 ·rename_i s u j f;have b:=bB (L:=L) j;have e:=bB (L:=L) f;cases op<;>simp only[binS] at d<;>first | exact d.elim | skip
  ·obtain⟨al,d⟩:=d;refine fin _ ?_ (by rw[b];simp) (by rw[b];simp) d;rw[b,e];have:¬(((s.size+u.size:Nat):Int)>IntKind.i64.max):=by omega
   simp only[binOp,Op.stringOp,vv this];rfl
  ·exact fin _ (by rw[b,e];simp only[binOp,Op.stringOp,toList_data,uL];rfl) (by rw[b];simp) (by rw[b];simp) d
  ·exact fin _ (by rw[b,e];simp only[binOp,Op.stringOp,toList_data,uL];rfl) (by rw[b];simp) (by rw[b];simp) d
  ·exact fin _ (by rw[b,e];simp only[binOp,Op.stringOp,toList_data,uL];rfl) (by rw[b];simp) (by rw[b];simp) d
  ·exact fin _ (by rw[b,e];simp only[binOp,Op.stringOp,toList_data,uL];rfl) (by rw[b];simp) (by rw[b];simp) d
 ·exact d.elim
theorem FZ {t t':TypeId}{neg:Bool}{y z:Operand}{l j:X}(hs:St F L w) (f:aC L ρ a) (hd:∀k,o.dst=some k->k<a.tmps.size)
  (p:o.op=.binOp (if neg then .neq else .eql) t y z t') (m:P.underlying t=some .bool) (hy:bh y=some l) (hz:bh z=some j) (d:evalOp P (.eqB neg l j) o.dst F L ρ K):o.wp P a w (aZ F L w a K) Q:=by
 have n:=aG hy f;have s:=aG hz f;simp only[evalOp,aI] at d;split at d
 case h_2=>exact d.elim
 rename_i b c h e;have u:=bB (L:=L) h;have r:=bB (L:=L) e;refine bF hs f hd (v:=.bool (mU neg (decide (b=c)))) (x:=.v (.bool (mU neg (decide (b=c))))) ?_ rfl bL dc d;have q:∀op:BinOp,(eqGuard op t y z (.bool b) (.bool c)).run P w=.ok () w:=fun op=>qP (by simp) (by simp);have hb:(b == c)=decide (b=c):=by cases b<;>cases c<;>rfl
 cases neg
 ·simp only[execOp,p,n,s,u,r,Sem.run_bind,q,Result.andThen_ok];have:=run_eql_bool (P:=P) w t b c m;rw[hb] at this;simp[this,mU]
 ·simp only[execOp,p,n,s,u,r,Sem.run_bind,q,Result.andThen_ok];have:=run_neq_bool (P:=P) w t b c m;rw[hb] at this;simp[this,mU]
theorem Ci {t e:TypeId}(h:P.underlying t=some (.pointer e)) (p:Option Addr):(Op.equal t (.pointer p) (.pointer none)).run P w=.ok p.isNone w:=by
 have key:∀d:Nat,(Op.equalIn (d+1) t (.pointer p) (.pointer none)).run P w=.ok p.isNone w:=fun d=>by
  cases p<;>simp[Op.equalIn,run_underlying h]
 exact key 9999
theorem Mv {t e:TypeId}(h:P.underlying t=some (.slice e)) (p:Option Addr) (n c n' b:Nat):(Op.equal t (.slice p n c) (.slice none n' b)).run P w=.ok p.isNone w:=by
 have key:∀d:Nat,(Op.equalIn (d+1) t (.slice p n c) (.slice none n' b)).run P w=.ok p.isNone w:=fun d=>by
  cases p<;>simp[Op.equalIn,run_underlying h]
 exact key 9999
theorem Mw {t:TypeId}{ps b:Array TypeId}{v:Bool}(h:P.underlying t=some (.func ps b v)):(Op.equal t .nilFunc .nilFunc).run P w=.ok true w:=by
 have key:∀d:Nat,(Op.equalIn (d+1) t .nilFunc .nilFunc).run P w=.ok true w:=fun d=>by
  simp[Op.equalIn,run_underlying h]
 exact key 9999
theorem Mx {t:TypeId}{ps b:Array TypeId}{v:Bool}{f:Fn}{x y:Array Value}(h:P.underlying t=some (.func ps b v)):(Op.equal t (.func f x y) .nilFunc).run P w=.ok false w:=by
 have key:∀d:Nat,(Op.equalIn (d+1) t (.func f x y) .nilFunc).run P w=.ok false w:=fun d=>by
  simp[Op.equalIn,run_underlying h]
 exact key 9999
theorem qQ {t t':TypeId}{neg:Bool}{y z:Operand}{h f:X}(hs:St F L w) (d:aC L ρ a) (hd:∀k,o.dst=some k->k<a.tmps.size)
  (r:o.op=.binOp (if neg then .neq else .eql) t y z t') (hy:bh y=some h) (hz:bh z=some f)
  (u v:Value) (b:Bool) (j:val L ρ h=u) (hv:val L ρ f=v) (h1:∀c,u≠.agg c) (h2:u≠.nilIface) (h3:∀k n,u≠.int k n) (q:∀s,u≠.string s) (h5:∀k n,u≠.float k n) (p:∀k n m,u≠.complex k n m)
  (e:(Op.equal t u v).run P w=.ok b w) (hK:K F L (put o.dst (.v (.bool (mU neg b))) ρ)):o.wp P a w (aZ F L w a K) Q:=by
 have l:=aG hy d;have ez:=aG hz d;refine bF hs d hd (v:=.bool (mU neg b)) (x:=.v (.bool (mU neg b))) ?_ rfl bL dc hK;have hg:∀op:BinOp,(eqGuard op t y z u v).run P w=.ok () w:=fun op=>qP h1 h2;cases neg
 ·simp only[execOp,r,l,ez,j,hv,Sem.run_bind,hg,Result.andThen_ok];have:binOp .eql t u v=(do pure (.bool (<-Op.equal t u v)):Sem Value):=by
   cases u<;>first | rfl | exact xo rfl (h3 _ _) | exact xo rfl (q _) | exact xo rfl (h5 _ _) | exact xo rfl (p _ _ _)
  simp[this,e,mU]
 ·simp only[execOp,r,l,ez,j,hv,Sem.run_bind,hg,Result.andThen_ok];have:binOp .neq t u v=(do pure (.bool (!(<-Op.equal t u v))):Sem Value):=by
   cases u<;>first | rfl | exact xo rfl (h3 _ _) | exact xo rfl (q _) | exact xo rfl (h5 _ _) | exact xo rfl (p _ _ _)
  simp[this,e,mU]
theorem F5 {t t' e:TypeId}{neg:Bool}{y z:Operand}{u s:X}(r:St F L w) (h:aC L ρ a) (l:∀k,o.dst=some k->k<a.tmps.size)
  (q:o.op=.binOp (if neg then .neq else .eql) t y z t') (n:P.underlying t=some (.pointer e)) (f:bh y=some u) (m:bh z=some s) (d:evalOp P (.eqP neg u s) o.dst F L ρ K):o.wp P a w (aZ F L w a K) Q:=by
 simp only[evalOp,aI] at d;split at d
 ·rename_i k off b c;obtain⟨g,ty,cs,x⟩:=nj f h b;exact qQ r h l q f m (.pointer (some ⟨g,off,none⟩)) (.pointer none) false (by simp only[val,b,conc,x]) (bB c) (by simp) (by simp) (by simp) (by simp) (by simp) (by simp) (Ci n _) d
 ·rename_i v j b c;exact qQ r h l q f m (.pointer (some (v.add j))) (.pointer none) false (by simp only[val,b,conc]) (bB c) (by simp) (by simp) (by simp) (by simp) (by simp) (by simp) (Ci n _) d
 ·rename_i p b c;exact qQ r h l q f m (.pointer p) (.pointer none) p.isNone (bB b) (bB c) (by simp) (by simp) (by simp) (by simp) (by simp) (by simp) (Ci n _) d
 ·exact d.elim
theorem F7 {t x e:TypeId}{neg:Bool}{y z:Operand}{j h:X}(hs:St F L w) (v:aC L ρ a) (l:∀k,o.dst=some k->k<a.tmps.size)
  (u:o.op=.binOp (if neg then .neq else .eql) t y z x) (r:P.underlying t=some (.slice e)) (s:bh y=some j) (q:bh z=some h) (b:evalOp P (.eqS neg j h) o.dst F L ρ K):o.wp P a w (aZ F L w a K) Q:=by
 simp only[evalOp,aI] at b;split at b
 ·rename_i p n c n' m f d;exact qQ hs v l u s q (.slice p n c) (.slice none n' m) p.isNone (bB f) (bB d) (by simp) (by simp) (by simp) (by simp) (by simp) (by simp) (Mv r _ _ _ _ _) b
 ·exact b.elim
theorem F8 {t v:TypeId}{ps s:Array TypeId}{u neg:Bool}{y z:Operand}{h e:X}(r:St F L w) (q:aC L ρ a) (j:∀k,o.dst=some k->k<a.tmps.size)
  (p:o.op=.binOp (if neg then .neq else .eql) t y z v) (m:P.underlying t=some (.func ps s u)) (n:bh y=some h) (l:bh z=some e) (d:evalOp P (.eqF neg h e) o.dst F L ρ K):o.wp P a w (aZ F L w a K) Q:=by
 simp only[evalOp,aI] at d;split at d
 ·rename_i c b;exact qQ r q j p n l .nilFunc .nilFunc true (bB c) (bB b) (by simp) (by simp) (by simp) (by simp) (by simp) (by simp) (Mw m) d
 ·rename_i f x y c b;exact qQ r q j p n l (.func f x y) .nilFunc false (bB c) (bB b) (by simp) (by simp) (by simp) (by simp) (by simp) (by simp) (Mx m) d
 ·exact d.elim
theorem Ev {z:Operand}{b:X}(h:bh z=some b) (k:vn b=true):z=.const .nilIface:=by
 unfold vn at k;split at k
 ·cases z with
  | const v=>simp only[bh,WY,X.c.injEq] at h;rw[h]
  | tmp n=>cases h
  | func f=>cases h
  | global g=>cases h
 ·cases k
theorem My {t:TypeId}{b:Array (String×TypeId)}(h:P.underlying t=some (.interface b)):(Op.equal t .nilIface .nilIface).run P w=.ok true w:=by
 have key:∀d:Nat,(Op.equalIn (d+1) t .nilIface .nilIface).run P w=.ok true w:=fun d=>by
  simp[Op.equalIn,run_underlying h]
 exact key 9999
theorem Mz {t ty:TypeId}{b:Array (String×TypeId)}{u:Value}(h:P.underlying t=some (.interface b)):(Op.equal t (.iface ty u) .nilIface).run P w=.ok false w:=by
 have key:∀d:Nat,(Op.equalIn (d+1) t (.iface ty u) .nilIface).run P w=.ok false w:=fun d=>by
  simp[Op.equalIn,run_underlying h]
 exact key 9999
theorem F9 {t t':TypeId}{ms:Array (String×TypeId)}{neg:Bool}{y z:Operand}{f e:X}(hs:St F L w) (l:aC L ρ a) (p:∀k,o.dst=some k->k<a.tmps.size)
  (h:o.op=.binOp (if neg then .neq else .eql) t y z t') (q:P.underlying t=some (.interface ms)) (s:bh y=some f) (d:bh z=some e) (hn:vn e=true) (c:evalOp P (.eqN neg f) o.dst F L ρ K):o.wp P a w (aZ F L w a K) Q:=by
 have r:=aG s l;obtain rfl:=Ev d hn;simp only[evalOp,aI] at c;split at c
 ·rename_i b;have n:val L ρ f=.nilIface:=bB b;refine bF hs l p (v:=.bool (mU neg true)) (x:=.v (.bool (mU neg true))) ?_ rfl bL dc c;have hg:∀op:BinOp,(eqGuard op t y (.const .nilIface) .nilIface .nilIface).run P w=.ok () w:=fun op=>by
   cases op<;>simp[eqGuard]
  have ez:a.eval (.const .nilIface)=.nilIface:=rfl;have m:=My (P:=P) (w:=w) q;cases neg
  ·simp only[execOp,h,r,ez,n,Sem.run_bind,hg,Result.andThen_ok];have:binOp .eql t .nilIface .nilIface=(do pure (.bool (<-Op.equal t .nilIface .nilIface)):Sem Value):=rfl;simp[this,m,mU]
  ·simp only[execOp,h,r,ez,n,Sem.run_bind,hg,Result.andThen_ok];have:binOp .neq t .nilIface .nilIface=(do pure (.bool (!(<-Op.equal t .nilIface .nilIface))):Sem Value):=rfl;simp[this,m,mU]
 ·rename_i ty u b;have j:val L ρ e=.nilIface:=by
   simp only[bh,WY] at d;rw[<-d];rfl
  exact qQ hs l p h s d (.iface ty u) .nilIface false (bB b) j (by simp) (by simp) (by simp) (by simp) (by simp) (by simp) (Mz q) c
 ·exact c.elim
theorem Az {l c:List Value}{b r:Bool}(h:iC [] l c b=some r):l=[]/\c=[]/\r=b:=by
 cases l with
 | cons v l=>simp[iC] at h
 | nil =>
  cases c with
  | cons v l=>simp[iC] at h
  | nil=>simp only[iC,WY] at h;exact⟨rfl,rfl,h.symm⟩
theorem x6 {ks:List Bool}{l d:List Value}{c r:Bool}(h:iC (true::ks) l d c=some r):∃k a e b f,l=.int k a::e/\d=.int k b::f/\iC ks e f (c&&decide (a=b))=some r:=by
 cases l with
 | nil=>simp[iC] at h
 | cons v l =>
  cases d with
  | nil=>cases v<;>simp[iC] at h
  | cons m d =>
   cases v<;>cases m<;>try (simp[iC] at h;done)
   rename_i k a n b;simp only[iC] at h;split at h
   ·rename_i j;have:=xZ j;subst this;exact⟨k,a,l,b,d,rfl,rfl,h⟩
   ·cases h
theorem vq {ks:List Bool}{l d:List Value}{c r:Bool}(h:iC (false::ks) l d c=some r):∃a e b f,l=.bool a::e/\d=.bool b::f/\iC ks e f (c&&decide (a=b))=some r:=by
 cases l with
 | nil=>simp[iC] at h
 | cons v l =>
  cases d with
  | nil=>cases v<;>simp[iC] at h
  | cons j d =>
   cases v<;>cases j<;>try (simp[iC] at h;done)
   rename_i a b;simp only[iC] at h;exact⟨a,l,b,d,rfl,rfl,h⟩
theorem AA (k:IntKind):oZ k k=true:=by cases k<;>rfl
theorem Ga:∀{ks:List Bool}{l f:List Value}{d r:Bool},iC ks l f d=some r->∃e,(∀c,iC ks l f c=some (c&&e))/\r=(d&&e):=by
 intro ks
 induction ks with
 | nil =>
  intro l f d r h;obtain⟨rfl,rfl,rfl⟩:=Az h;exact⟨true,fun c=>by simp[iC],by simp⟩
 | cons k ks p =>
  intro l f d r h;cases k with
  | true =>
   obtain⟨k,a,q,b,s,rfl,rfl,n⟩:=x6 h;obtain⟨e,j,m⟩:=p n;exact⟨decide (a=b)&&e,fun c=>by simp only[iC,AA,j,Bool.and_assoc],by rw[m,Bool.and_assoc]⟩
  | false =>
   obtain⟨a,q,b,s,rfl,rfl,n⟩:=vq h;obtain⟨e,j,m⟩:=p n;exact⟨decide (a=b)&&e,fun c=>by simp only[iC,j,Bool.and_assoc],by rw[m,Bool.and_assoc]⟩
theorem vu {t:TypeId}{d:TypeDesc}(c:P.underlying t=some d) (b:dh d=false) {cs:Array Value}{off:Nat}{v:Value}(h:cs[off]?=some v):(part t cs off).run P w=.ok v w:=by
 simp only[part,Sem.run_bind,sQ c,Result.andThen_ok,b,Xd,XC,h,Sem.run_pure]
theorem rQ {d:Nat}{xs ys:Array Value}:∀{fs:List Field}{k:Nat}{ks:List Bool}{b:Bool},nS P fs k=some ks->iC ks (xs.toList.drop k) (ys.toList.drop k) true=some b->(Op.eqFields (d+1) xs ys fs).run P w=.ok b w
 | [],k,ks,b,h,he=>by
  simp only[nS,WY] at h;subst h;obtain⟨_,_,rfl⟩:=Az he;simp[Op.eqFields]
 | f::fs,k,ks,b,h,he=>by
  have hcons:∀{zs:Array Value}{v:Value}{l:List Value},zs.toList.drop k=v::l->zs[k]?=some v/\zs.toList.drop (k+1)=l:=by
   intro zs v l e;refine⟨?_,?_⟩
   ·have:=p7 (fun q=>q[0]?) e;simp only[Xy,Nat.add_zero,Xg] at this;simpa using this
   ·rw[<-List.drop_drop,e];rfl
  have fin:∀{u v:Value}{l l':List Value}{ks':List Bool}{r:Bool}{dd:TypeDesc},P.underlying f.type=some dd->dh dd=false->f.offset=k->f.name≠"_"->xs.toList.drop k=u::l->ys.toList.drop k=v::l'->(Op.equalIn (d+1) f.type u v).run P w=.ok r w ->
    nS P fs (k+1)=some ks'->iC ks' l l' r=some b->(Op.eqFields (d+1) xs ys (f::fs)).run P w=.ok b w:=by
   intro u v l l' ks' r dd hu hag ho hnm e1 e2 heq hfl hev;obtain⟨a1,a2⟩:=hcons e1;obtain⟨b1,b2⟩:=hcons e2;simp only[Op.eqFields];rw[j3 hnm];simp only[Sem.run_bind,ho,vu hu hag a1,vu hu hag b1,Result.andThen_ok,heq];obtain⟨r0,q1,q2⟩:=Ga hev;cases r with
   | false =>
    simp only[X1] at q2;subst q2;simp
   | true =>
    simp only[XY] at q2;subst q2;simp only[Bool.not_true,Xd,XC];exact rQ hfl (by rw[a2,b2];simpa using q1 true)
  simp only[nS] at h;split at h
  ·rename_i ki hoff hnm hu;split at h
   case h_2=>cases h
   rename_i ks' hks;injection h with h
   subst h;have hoff:=yo hoff;have hnm:=XI hnm;obtain⟨k1,x,l1,y,l2,e1,e2,he⟩:=x6 he;exact fin hu rfl hoff hnm e1 e2 (run_equalIn_int w d f.type k1 _ x y hu) hks (by rw[show(x == y)=decide (x=y) from rfl];simpa using he)
  ·rename_i hoff hnm hu;split at h
   case h_2=>cases h
   rename_i ks' hks;injection h with h
   subst h;have hoff:=yo hoff;have hnm:=XI hnm;obtain⟨x,l1,y,l2,e1,e2,he⟩:=vq he;have hb:(x == y)=decide (x=y):=by cases x<;>cases y<;>rfl
   exact fin hu rfl hoff hnm e1 e2 (run_equalIn_bool' w d f.type x y hu) hks (by rw[hb];simpa using he)
  ·cases h
theorem Gb {t t':TypeId}{j:Array Field}{neg:Bool}{ks:List Bool}{y z:Operand}{p n:X}(hs:St F L w) (l:aC L ρ a) (hd:∀k,o.dst=some k->k<a.tmps.size)
  (s:o.op=.binOp (if neg then .neq else .eql) t y z t') (q:P.underlying t=some (.struct j)) (hk:nS P j.toList 0=some ks) (hp:P.stoodInHeld t=false) (u:P.eqGuardType P.depth t=false) (hy:bh y=some p) (hz:bh z=some n)
  (c:evalOp P (.eqA neg ks p n) o.dst F L ρ K):o.wp P a w (aZ F L w a K) Q:=by
 have r:=aG hy l;have ez:=aG hz l;simp only[evalOp,aI] at c;split at c
 case h_2=>exact c.elim
 rename_i cs ds m h;split at c
 case h_2=>exact c.elim
 rename_i b hb;have vy:=bB (L:=L) m;have vz:=bB (L:=L) h;have e:P.fieldsOf t=j:=by simp only[Program.fieldsOf,q]
 have f:(Op.equalIn 10000 t (.agg cs) (.agg ds)).run P w=.ok b w:=by
  rw[show(10000:Nat)=9999+1 from rfl,run_equalIn_agg w 9999 t cs ds (by rw[e];exact q) hp,e];exact rQ (d:=9998) hk (by simpa using hb)
 refine bF hs l hd (v:=.bool (mU neg b)) (x:=.v (.bool (mU neg b))) ?_ rfl bL dc c;cases neg
 ·simp only[execOp,s,r,ez,vy,vz,Sem.run_bind,run_eqGuard_agg w _ t y z cs ds u,Result.andThen_ok];simp[run_eql_struct,f,mU]
 ·simp only[execOp,s,r,ez,vy,vz,Sem.run_bind,run_eqGuard_agg w _ t y z cs ds u,Result.andThen_ok];simp[run_neq_struct,f,mU]
end
section
variable {P:Program}{F:aA}{L:Loc}{ρ:Env}{a:Act}{w:World}{K:cE}{o:Oper}{Q:Exit->Act->World->Prop}
theorem Oi {t:TypeId}{op:UnOp}{y:Operand}{m:X}(j:St F L w) (e:aC L ρ a) (l:∀k,o.dst=some k->k<a.tmps.size)
  (h:o.op=.unOp op t y) (p:bh y=some m) (d:evalOp P (.un op m) o.dst F L ρ K):o.wp P a w (aZ F L w a K) Q:=by
 have f:=aG p e;simp only[evalOp,aI] at d;split at d
 ·rename_i b c;refine bF j e l (v:=.bool (!b)) (x:=.v (.bool (!b))) ?_ rfl bL dc d;simp[execOp,h,f,bB c,Op.unary]
 ·rename_i k n c;obtain⟨d⟩:=d;refine bF j e l (v:=.int k (k.wrap (0-n))) (x:=.v (.int k (k.wrap (0-n)))) ?_ rfl bL dc d;simp[execOp,h,f,bB c,Op.unary,Op.intArith]
 ·rename_i k n c;refine bF j e l ?_ rfl bL dc d;simp[execOp,h,f,bB c,Op.unary,Op.intBits];rfl
 ·exact d.elim
theorem IJ {s t:TypeId}{k r:IntKind}{y:Operand}{e:X}(m:St F L w) (d:aC L ρ a) (q:∀k,o.dst=some k->k<a.tmps.size)
  (h:o.op=.convert s t y) (l:P.underlying s=some (.int r)) (j:P.underlying t=some (.int k)) (p:bh y=some e) (b:evalOp P (.conv k e) o.dst F L ρ K):o.wp P a w (aZ F L w a K) Q:=by
 have f:=aG p d;simp only[evalOp,aI] at b;split at b
 ·rename_i u n c;obtain⟨b⟩:=b;refine bF m d q (v:=.int k (k.wrap n)) (x:=.v (.int k (k.wrap n))) ?_ rfl bL dc b;simp[execOp,h,f,bB c,convert,run_underlying l,run_underlying j,Conv.intToInt]
 ·exact b.elim
theorem Ew (bs:List UInt8):∀s:ByteArray,((bs.map fun b=>(b.toNat:Int)).foldl (fun r n=>r.push (UInt8.ofNat n.toNat)) s).data.toList=s.data.toList++bs:=by
 induction bs with
 | nil=>intro s;simp
 | cons b bs c =>
  intro s;simp only[Xa,List.foldl_cons];rw[c];simp[ByteArray.push]
theorem MA {s t e:TypeId}{y:Operand}{y':X}(hs:St F L w) (he:aC L ρ a) (hd:∀k,o.dst=some k->k<a.tmps.size)
  (ho:o.op=.convert s t y) (h1:P.underlying s=some (.slice e)) (h2:P.underlying t=some .string) (h3:P.underlying e=some (.int .u8)) (hy:bh y=some y') (hK:evalOp P (.b2s y') o.dst F L ρ K):o.wp P a w (aZ F L w a K) Q:=by
 have ey:=aG hy he;simp only[evalOp,aI] at hK;split at hK
 case h_2=>exact hK.elim
 rename_i ad n c ao;obtain⟨cs,f,p,⟨bs,rfl,hK⟩⟩:=hK;refine bF hs he hd (v:=.string ⟨bs.toArray⟩) (x:=.v (.string ⟨bs.toArray⟩)) ?_ rfl bL dc hK;simp only[execOp,ho,ey,bB ao,Sem.run_bind,run_convert_bytes_string w s t e ad n c h1 h3 h2];cases ad with
 | none =>
  rcases p with p | ⟨_,_,_,_,_,_,_,_,_,e,_⟩ | aa | ⟨_,_,_,_,_,_,_,e,_⟩
  ·obtain⟨_,e,_⟩:=p.cell hs;cases e
  ·cases e
  ·rw[aa] at f;have:bs=[]:=Xu (by simpa using f);subst this;simp[Conv.bytesToString];rfl
  ·cases e
 | some ad =>
  have q:∀i v,(bs.map fun b=>Value.int .u8 b.toNat)[i]?=some v->w.cell? (ad.add i)=some v:=by
   rcases p with p | ⟨k,v,t',sz,m,xs,ag,c',hk,j,e2,p⟩ | aa | ⟨k,g,t',bx,o',hk,an,j,p⟩
   ·obtain⟨ag,e,bc,ap⟩:=p.cell hs;injection e with e
    subst e;intro i v hv;have:=ap i v hv
    rwa [Nat.zero_add] at this
   ·injection j with j
    subst j;have h:=hs.own k _ hk;simp only[Own.ok] at h;subst e2;intro i u hu;have hb:=p i u hu;rw[Nat.zero_add] at hb;have h0:=World.ownsRow.cells h (g:=ad.block) rfl i u hb;rcases h.2 with⟨e,_⟩ | ⟨g,cap,bk,e,_⟩
    ·cases e
    ·injection e with j e2 e3
     injection j with j
     subst j;exact h0
   ·intro i v hv;rw[aa] at f;have:bs=[]:=Xu (by simpa using f);subst this;simp at hv
   ·injection j with j
    subst j;intro i u hu;rw[bU,mK an (hs.own k _ hk)];have:=p i u hu
    rwa [Nat.add_zero] at this
  have l:=run_loadCells_list (P:=P) w ad _ q;rw[f] at l;have hb:=run_bytesToString (P:=P) w ad n c (bs.map fun b=>(b.toNat:Int)) (by rw[l];simp);rw[hb];simp only[Result.andThen_ok,Sem.run_pure];congr 3;have:=Ew bs ByteArray.empty;generalize(bs.map fun b=>(b.toNat:Int)).foldl (fun r n=>r.push (UInt8.ofNat n.toNat)) ByteArray.empty=z at this ⊢;obtain⟨d⟩:=z;congr 1;apply Array.ext';simpa using this
theorem IK {f:FuncId}{fi ca:Array Operand}{b c:List X}(m:St F L w) (d:aC L ρ a) (p:∀k,o.dst=some k->k<a.tmps.size)
  (j:o.op=.makeFunc (.func f) fi ca) (l:fN fi.toList=some b) (e:fN ca.toList=some c) (q:evalOp P (.mkfn f b c) o.dst F L ρ K):o.wp P a w (aZ F L w a K) Q:=by
 have n:fi.map a.eval=(bf L ρ b).toArray:=by apply Array.ext';simpa using eW l d
 have h:ca.map a.eval=(bf L ρ c).toArray:=by apply Array.ext';simpa using eW e d
 refine bF m d p ?_ rfl bL dc q;simp[execOp,j,Instr.makeFunc,n,h];rfl
theorem IL {i:Nat}{y:Operand}{e:X}(l:St F L w) (d:aC L ρ a) (m:∀k,o.dst=some k->k<a.tmps.size)
  (h:o.op=.extract y i) (j:bh y=some e) (b:evalOp P (.extr e i) o.dst F L ρ K):o.wp P a w (aZ F L w a K) Q:=by
 have f:=aG j d;simp only[evalOp,aI] at b;split at b
 case h_2=>exact b.elim
 rename_i vs c;split at b
 case h_2=>exact b.elim
 rename_i v n;refine bF l d m (v:=v) (x:=.v v) ?_ rfl bL dc b;have:vs[i]?=some v:=by simpa using n
 simp[execOp,h,f,bB c,Instr.extract,this]
theorem Ey {t f:Nat}{y:Operand}{s:X}{u:Array Field}{b:Field}{d:TypeDesc}{i:TypeInfo}{n:Nat}(hs:St F L w) (z:aC L ρ a) (hd:∀k,o.dst=some k->k<a.tmps.size)
  (ho:o.op=.field t y f) (ht:P.underlying t=some (.struct u)) (hf:u[f]?=some b) (p:P.underlying b.type=some d) (hi:P.info? b.type=some i) (hy:bh y=some s)
  (j:n=match dh d with | true=>i.size | false=>1) (c:evalOp P (.fieldV (dh d) b.offset n s) o.dst F L ρ K):o.wp P a w (aZ F L w a K) Q:=by
 have ey:=aG hy z;simp only[evalOp,aI] at c;split at c
 case h_2=>exact c.elim
 rename_i cs q;split at c
 case h_2=>exact c.elim
 rename_i l;have l:=gZ l;refine bF hs z hd (v:=fM (dh d) ((cs.toList.drop b.offset).take n)) (x:=.v (fM (dh d) ((cs.toList.drop b.offset).take n))) ?_ rfl bL dc c;simp only[execOp,ho,ey,bB q,Instr.field,Sem.run_bind,run_underlying ht,Result.andThen_ok,hf,asAgg,Sem.run_pure,part,sQ p];cases e:dh d with
 | true =>
  simp only[e] at j;simp only[Xq,Sem.run_bind,sizeOf,typeInfo,run_program,Result.andThen_ok,hi,Sem.run_pure];subst j;have m:cs.extract b.offset (b.offset+i.size)=((cs.toList.drop b.offset).take i.size).toArray:=by
   apply Array.ext';rw[Array.toList_extract];simp[List.extract_eq_take_drop]
  simp[fM,m]
 | false =>
  simp only[e] at j;subst j;have:∃v,cs[b.offset]?=some v/\(cs.toList.drop b.offset).take 1=[v]:=by
   match h:cs.toList.drop b.offset,l with
   | v::r,_ =>
    refine⟨v,?_,by simp⟩;have:=p7 (·[0]?) h;simpa using this
  obtain⟨v,h1,h2⟩:=this;simp[h1,h2,fM]
theorem Ez {t f:Nat}{y:Operand}{q:X}{fs:Array Field}{h:Field}{i:TypeInfo}(z:St F L w) (n:aC L ρ a) (r:∀k,o.dst=some k->k<a.tmps.size)
  (ho:o.op=.fieldAddr t y f) (ht:P.underlying t=some (.struct fs)) (hf:fs[f]?=some h) (hi:P.info? h.type=some i) (l:i.size≠0) (s:bh y=some q)
  (m:evalOp P (.fieldA h.offset q) o.dst F L ρ K):o.wp P a w (aZ F L w a K) Q:=by
 have ey:=aG s n;have run:∀d:Addr,val L ρ q=.pointer (some d)->(execOp a.eval o).run P w=.ok (.value (.pointer (some (d.add h.offset)))) w:=by
  intro d hv;simp[execOp,ho,ey,hv,Instr.fieldAt,run_underlying ht,hf,Instr.sureAddr,fieldPlace,sizeOf,typeInfo,hi,l]
 simp only[evalOp,aI] at m;split at m
 ·rename_i k off c;obtain⟨g,ty,cs,u⟩:=nj s n c;refine bF z n r (v:=.pointer (some ⟨g,off+h.offset,none⟩)) (x:=.own k (off+h.offset)) ?_ (by simp only[conc,u]) (fun k' aa e=>by injection e with e1 e2;subst e1;exact⟨g,ty,cs,u⟩) (fun _ _ e=>by cases e) m;rw[run ⟨g,off,none⟩ (by simp only[val,c,conc,u]),bU]
 ·rename_i d j c;have l:=qh s n c;cases d with
  | none=>exact xo rfl l
  | some d =>
   refine bF z n r (v:=.pointer (some (d.add (j+h.offset)))) (x:=.el (some d) (j+h.offset)) ?_ rfl (fun _ _ e=>by cases e) (fun p j' e=>by injection e with e1 e2;subst e1;simp) m;rw[run (d.add j) (by simp only[val,c,conc])];congr 4;obtain⟨b,o',sp⟩:=d;unfold Addr.add
   by_cases h1:j=0<;>by_cases h2:h.offset=0<;>simp[h1,h2,Nat.add_assoc]
 ·rename_i d c;refine bF z n r (v:=.pointer (some (d.add h.offset))) (x:=.el (some d) h.offset) ?_ rfl (fun _ _ e=>by cases e) (fun p j' e=>by injection e with e1 e2;subst e1;simp) m;rw[run d (bB c)]
 ·exact m.elim
theorem IQ {t e:TypeId}{y z:Operand}{q p:X}{i:TypeInfo}(hs:St F L w) (l:aC L ρ a) (s:∀k,o.dst=some k->k<a.tmps.size)
  (ho:o.op=.indexAddr t y z) (ht:P.underlying t=some (.slice e)) (hi:P.info? e=some i) (hy:bh y=some q) (u:bh z=some p)
  (b:evalOp P (.idxA i.size q p) o.dst F L ρ K):o.wp P a w (aZ F L w a K) Q:=by
 have ey:=aG hy l;have ez:=aG u l;simp only[evalOp,aI] at b;split at b
 case h_2=>exact b.elim
 rename_i d n c k j m f;obtain⟨h,h1,h2,b⟩:=b;cases d with
 | none=>exact xo rfl h
 | some d =>
  refine bF hs l s (v:=.pointer (some (d.add (j.toNat*i.size)))) (x:=.el (some d) (j.toNat*i.size)) ?_ rfl (fun _ _ e=>by cases e) (fun r j' e=>by injection e with e1 e2;subst e1;simp) b;simp[execOp,ho,ey,ez,bB m,bB f,Instr.indexAt,asIntOf,run_underlying ht,h1,h2,sizeOf,typeInfo,hi]
theorem IU {t:TypeId}{y z:Operand}{m l:X}(hs:St F L w) (f:aC L ρ a) (n:∀k,o.dst=some k->k<a.tmps.size)
  (ho:o.op=.index t y z) (q:P.underlying t=some .string) (hy:bh y=some m) (p:bh z=some l)
  (b:evalOp P (.idxS m l) o.dst F L ρ K):o.wp P a w (aZ F L w a K) Q:=by
 have r:=aG hy f;have ez:=aG p f;simp only[evalOp,aI] at b;split at b
 case h_2=>exact b.elim
 rename_i s k j h e;obtain⟨u,h2,b⟩:=b;refine bF hs f n (v:=.int .u8 ((s.data.toList.getD j.toNat 0).toNat)) (x:=.v (.int .u8 ((s.data.toList.getD j.toNat 0).toNat))) ?_ rfl bL dc b;have c:j.toNat<s.size:=by omega
 have d:s[j.toNat]?=some (s.data.toList.getD j.toNat 0):=by
  have h3:j.toNat<s.data.toList.length:=by simpa using c
  rw[getElem?_pos s j.toNat c,List.getD_eq_getElem?_getD,WZ h3];simp;rfl
 simp[execOp,ho,r,ez,bB h,bB e,Instr.index,asIntOf,run_underlying q,u,d]
theorem MB {t e:TypeId}{y:Operand}{h:X}{c:Call}(z:St F L w) (j:aC L ρ a) (l:∀k,o.dst=some k->k<a.tmps.size)
  (s:o.op=.call c) (u:c.callee=.builtin .len) (p:c.args=#[y]) (d:c.argTypes=#[t]) (m:P.underlying t=some (.slice e)) (r:bh y=some h)
  (b:evalOp P (.len h) o.dst F L ρ K):o.wp P a w (aZ F L w a K) Q:=by
 have q:=aG r j;simp only[evalOp,aI] at b;split at b
 ·rename_i ad n cp f;refine bF z j l (v:=.int .i64 n) (x:=.v (.int .i64 n)) ?_ rfl bL dc b;simp[execOp,s,resolve,u,p,d,invoke,builtin,Builtin.len_,q,bB f,run_underlying m,goInt]
 ·exact b.elim
theorem IV {t:TypeId}{y:Operand}{h:X}{c:Call}(p:St F L w) (f:aC L ρ a) (q:∀k,o.dst=some k->k<a.tmps.size)
  (m:o.op=.call c) (r:c.callee=.builtin .len) (j:c.args=#[y]) (e:c.argTypes=#[t]) (u:P.underlying t=some .string) (n:bh y=some h)
  (b:evalOp P (.lenS h) o.dst F L ρ K):o.wp P a w (aZ F L w a K) Q:=by
 have l:=aG n f;simp only[evalOp,aI] at b;split at b
 ·rename_i s d;refine bF p f q (v:=.int .i64 s.size) (x:=.v (.int .i64 s.size)) ?_ rfl bL dc b;simp[execOp,m,resolve,r,j,e,invoke,builtin,Builtin.len_,l,bB d,run_underlying u,goInt]
 ·exact b.elim
theorem IW {t e:TypeId}{y:Operand}{h:X}{c:Call}(hs:St F L w) (j:aC L ρ a) (m:∀k,o.dst=some k->k<a.tmps.size)
  (u:o.op=.call c) (z:c.callee=.builtin .cap) (q:c.args=#[y]) (d:c.argTypes=#[t]) (p:P.underlying t=some (.slice e)) (s:bh y=some h)
  (b:evalOp P (.capa h) o.dst F L ρ K):o.wp P a w (aZ F L w a K) Q:=by
 have r:=aG s j;simp only[evalOp,aI] at b;split at b
 ·rename_i ad n l f;refine bF hs j m (v:=.int .i64 l) (x:=.v (.int .i64 l)) ?_ rfl bL dc b;simp[execOp,u,resolve,z,q,d,invoke,builtin,Builtin.cap_,r,bB f,run_underlying p,goInt]
 ·exact b.elim
theorem Gc {L:Loc}{ρ:Env}:∀{xs:List X},bf L ρ xs=(xs.map (ev ρ)).map (conc L)
 | []=>rfl
 | _::xs=>by simp[bf,val,Gc (xs:=xs)]
theorem MC (mx:Bool) (k:IntKind):∀(l:List SV) (d m:Int),LJ mx d l=some m ->
  ((l.map (conc L)).foldlM (if mx then Builtin.max2 else Builtin.min2) (.int k d)).run P w=.ok (.int k m) w:=by
 intro l
 induction l with
 | nil=>intro d m h;simp only[LJ,WY] at h;subst h;rfl
 | cons x l e =>
  intro d m h;unfold LJ at h;split at h
  ·rename_i c;cases c
  ·rename_i j b f c;injection c with h1 h2
   subst h1 h2;have:=e _ _ h;cases mx
   ·simp only[Xa,List.foldlM_cons,conc,Sem.run_bind];simp only[Xd,XC] at this ⊢;simp only[Builtin.min2,Sem.run_pure,Result.andThen_ok];exact this
   ·simp only[Xa,List.foldlM_cons,conc,Sem.run_bind];simp only[Xq] at this ⊢;simp only[Builtin.max2,Sem.run_pure,Result.andThen_ok];exact this
  ·cases h
theorem LL {mx:Bool}{c:Call}{xs:List X}(s:St F L w) (h:aC L ρ a) (t:∀k,o.dst=some k->k<a.tmps.size)
  (j:o.op=.call c) (f:c.callee=.builtin (if mx then .max else .min)) (n:fN c.args.toList=some xs)
  (d:evalOp P (.mm mx xs) o.dst F L ρ K):o.wp P a w (aZ F L w a K) Q:=by
 have b:=eW n h;rw[Gc] at b;simp only[evalOp,aI] at d;split at d
 case h_2=>exact d.elim
 rename_i k r l q;split at d
 case h_2=>exact d.elim
 rename_i m p;rw[q] at b;have e:=MC (P:=P) (L:=L) (w:=w) mx k l r m p;refine bF s h t (v:=.int k m) (x:=.v (.int k m)) ?_ rfl bL dc d;cases mx
 ·simp only[Xd,XC] at f e;simp only[execOp,j,resolve,f,invoke,builtin,Builtin.min_,Sem.run_bind,Sem.run_pure,Result.andThen_ok,Array.toList_map,b,Xa,conc,e]
 ·simp only[Xq] at f e;simp only[execOp,j,resolve,f,invoke,builtin,Builtin.max_,Sem.run_bind,Sem.run_pure,Result.andThen_ok,Array.toList_map,b,Xa,conc,e]
theorem IX {t:TypeId}{d:TypeDesc}{y:Operand}{q:X}(p:St F L w) (f:aC L ρ a) (h:∀k,o.dst=some k->k<a.tmps.size)
  (n:o.op=.makeInterface t y) (l:P.underlying t=some d) (e:∀z,d≠.interface z) (s:bh y=some q) (c:evalOp P (.mkif t q) o.dst F L ρ K):o.wp P a w (aZ F L w a K) Q:=by
 have m:=aG s f;simp only[evalOp,aI] at c;split at c
 ·rename_i v b;refine bF p f h (v:=.iface t v) (x:=.v (.iface t v)) ?_ rfl bL dc c;simp only[execOp,n,m,bB b,Instr.makeInterface];simp only[Sem.run_bind,Sem.run_map,run_underlying l,Result.andThen_ok];cases d<;>first | exact xo rfl (e _) | simp
 ·rename_i r j b;refine bF p f h (v:=.iface t (.pointer (some (r.add j)))) (x:=.v (.iface t (.pointer (some (r.add j))))) ?_ rfl bL dc c;simp only[execOp,n,m,val,b,conc,Instr.makeInterface];simp only[Sem.run_bind,Sem.run_map,run_underlying l,Result.andThen_ok];cases d<;>first | exact xo rfl (e _) | simp
 ·rename_i k off b;split at c
  case h_2=>exact c.elim
  rename_i g t' cs u;refine bF p f h (v:=.iface t (.pointer (some ⟨g,off,none⟩))) (x:=.v (.iface t (.pointer (some ⟨g,off,none⟩)))) ?_ rfl bL dc c;simp only[execOp,n,m,val,b,conc,u,Instr.makeInterface];simp only[Sem.run_bind,Sem.run_map,run_underlying l,Result.andThen_ok];cases d<;>first | exact xo rfl (e _) | simp
 ·exact c.elim
theorem MD {t s:TypeId}{d:TypeDesc}{i:TypeInfo}{z:Value}{y:Operand}{q:X}(p:St F L w) (h:aC L ρ a) (j:∀k,o.dst=some k->k<a.tmps.size)
  (n:o.op=.typeAssert y s t true) (l:P.underlying t=some d) (f:∀ms,d≠.interface ms) (hi:P.info? t=some i) (r:i.zero=some z) (hy:bh y=some q) (c:evalOp P (.tas t z q) o.dst F L ρ K):o.wp P a w (aZ F L w a K) Q:=by
 have m:=aG hy h;simp only[evalOp,aI] at c;split at c
 ·rename_i b;refine bF p h j (v:=.tuple #[z,.bool false]) (x:=.v (.tuple #[z,.bool false])) ?_ rfl bL dc c;simp only[execOp,n,m,bB b,Instr.typeAssert];simp only[Sem.run_bind,Sem.run_map,run_underlying l,Result.andThen_ok];cases d<;>first | exact xo rfl (f _) | simp[zeroValue,typeInfo,hi,r]
 ·rename_i t' u b;split at c
  ·rename_i hb;have hb:=yo hb;refine bF p h j (v:=.tuple #[u,.bool true]) (x:=.v (.tuple #[u,.bool true])) ?_ rfl bL dc c;simp only[execOp,n,m,bB b,Instr.typeAssert];simp only[Sem.run_bind,Sem.run_map,run_underlying l,Result.andThen_ok];cases d<;>first | exact xo rfl (f _) | simp[hb]
  ·rename_i hb;have hb:t'≠t:=fun e=>by rw[e,Nat.beq_refl] at hb;cases hb
   refine bF p h j (v:=.tuple #[z,.bool false]) (x:=.v (.tuple #[z,.bool false])) ?_ rfl bL dc c;simp only[execOp,n,m,bB b,Instr.typeAssert];simp only[Sem.run_bind,Sem.run_map,run_underlying l,Result.andThen_ok];cases d<;>first | exact xo rfl (f _) | simp[zeroValue,typeInfo,hi,r,hb]
 ·exact c.elim
theorem Df:∀{l:List (TypeId×String)}{t:TypeId}{nm:String},LG l t nm=true->(t,nm)∈l
 | [],_,_,h=>by cases h
 | (t,nm)::l,e,d,h=>by
  simp only[LG] at h;split at h
  ·rename_i c b;rw[<-yo c,<-Xm b];exact List.mem_cons_self ..
  ·exact Xv _ (Df h)
theorem x7 {t:TypeId}{nm:String}{f:FuncId}(h:m9 P t nm=some f):∃i m b d,P.info? t=some i/\i.methods.find? (·.name == nm)=some m/\m.path.toList=[]/\m.func=some (f,b)/\P.underlying t=some d /\
  ((∃e,d=.pointer e/\b=true)\/((∀e,d≠.pointer e)/\b=false)):=by
 simp only[m9] at h;split at h
 case h_2=>cases h
 rename_i i hi;split at h
 case h_2=>cases h
 rename_i m k;split at h
 case h_2=>cases h
 rename_i q b n l;split at h
 ·rename_i e j;injection h with h;subst h
  exact⟨i,m,_,_,hi,k,n,l,j,.inl ⟨_,rfl,rfl⟩⟩
 ·cases h
 ·rename_i d c j;injection h with h;subst h
  exact⟨i,m,_,_,hi,k,n,l,j,.inr ⟨fun e p=>c e p,rfl⟩⟩
 ·cases h
theorem x9 (P:Program):∃n,P.types.size+Made.depth=n+1:=⟨P.types.size+99,by simp[Made.depth]⟩
theorem EA {t:TypeId}{nm:String}{f:FuncId}(h:m9 P t nm=some f) (v:Value) (w:World):(method (P.types.size+Made.depth) t v nm).run P w=.ok (f,v) w:=by
 obtain⟨i,m,r,d,c,p,l,k,q,b⟩:=x7 h;obtain⟨n,j⟩:=x9 P;rw[j];simp only[method,Sem.run_bind,typeInfo,run_program,Result.andThen_ok,c,Sem.run_pure,p,l,follow,k,receiverAt,run_underlying q];rcases b with⟨e,rfl,rfl⟩ | ⟨b,rfl⟩
 ·simp only[Place.get,Sem.run_pure,Result.andThen_ok]
 ·cases d<;>first | exact xo rfl (b _) | simp only[Place.get,Sem.run_pure,Result.andThen_ok]
theorem EC {t:TypeId}{nm:String}{f:FuncId}(h:m9 P t nm=some f) (v:Value) (w:World):(nilAhead (P.types.size+Made.depth) t v nm).run P w=.ok (some false) w:=by
 obtain⟨i,m,r,d,c,p,l,k,q,b⟩:=x7 h;obtain⟨n,j⟩:=x9 P;rw[j];simp only[nilAhead,Sem.run_bind,typeInfo,run_program,Result.andThen_ok,c,Sem.run_pure,p,l,followBlind,k];rcases b with⟨e,rfl,rfl⟩ | ⟨b,rfl⟩
 ·rfl
 ·simp only[Sem.run_bind,run_underlying q,Result.andThen_ok];cases d<;>first | exact xo rfl (b _) | rfl
theorem IY {nm:String}{fi ca:Array Operand}{c:X}(m:St F L w) (d:aC L ρ a) (n:∀k,o.dst=some k->k<a.tmps.size)
  (j:o.op=.makeFunc (.method nm) fi ca) (l:fN fi.toList=some [c]) (f:ca.toList=[]) (b:evalOp P (.mkmv nm c) o.dst F L ρ K):o.wp P a w (aZ F L w a K) Q:=by
 have e:fi.map a.eval=(bf L ρ [c]).toArray:=by apply Array.ext';simpa using eW l d
 have h:ca=#[]:=by apply Array.ext';exact f
 simp only[evalOp,aI] at b;split at b
 case h_2=>exact b.elim
 rename_i v p;refine bF m d n (v:=.func (.method nm) #[v] #[]) (x:=.v (.func (.method nm) #[v] #[])) ?_ rfl bL dc b;simp only[bf,bB p] at e;simp[execOp,j,Instr.makeFunc,e,h]
theorem IZ {t:TypeId}{nm:String}{fi ca:Array Operand}(j:St F L w) (b:aC L ρ a) (m:∀k,o.dst=some k->k<a.tmps.size)
  (f:o.op=.makeFunc (.methodOf t nm) fi ca) (h:fi.toList=[]) (d:ca.toList=[]) (n:evalOp P (.mov (.c (.func (.methodOf t nm) #[] #[]))) o.dst F L ρ K):o.wp P a w (aZ F L w a K) Q:=by
 have l:fi=#[]:=by apply Array.ext';exact h
 have e:ca=#[]:=by apply Array.ext';exact d
 refine bF j b m (v:=.func (.methodOf t nm) #[] #[]) (x:=.v (.func (.methodOf t nm) #[] #[])) ?_ rfl bL dc n;simp[execOp,f,Instr.makeFunc,l,e]
theorem AB {t:TypeId}{g k:Nat}{d:TypeDesc}{i:TypeInfo}(l:St F L w) (y:aC L ρ a) (m:∀k,o.dst=some k->k<a.tmps.size)
  (r:o.op=.load t (.global g)) (p:P.underlying t=some d) (hi:P.info? t=some i) (c:dh d=false) (hg:uH g=some k) (e:evalOp P (.gload g) o.dst F L ρ K):o.wp P a w (aZ F L w a K) Q:=by
 simp only[evalOp,aI] at e;obtain⟨v,ty,fr,s,e⟩:=e;have z:=l.frz _ _ s;refine bF l y m (v:=v) (x:=.v v) ?_ rfl bL dc e;have q:a.eval (.global g)=.pointer (some ⟨g,0,none⟩):=rfl;have b:∀(j:Nat) (u:Value),[v][j]?=some u->w.cell? ((⟨g,0,none⟩:Addr).add j)=some u:=by
  intro j u f;cases j with
  | zero =>
   simp only[Xg,WY] at f;subst f;rw[bU];simp[World.cell?,z]
  | succ j=>simp at f
 have h:=nT p hi b (n:=1) rfl (by rw[c]);rw[c] at h;simp only[execOp,r,q,Sem.run_bind,h,Result.andThen_ok,Sem.run_pure,fM]
theorem I0 {t key e:TypeId}{y z:Operand}{s q:X}{j:TypeInfo}(hs:St F L w) (p:aC L ρ a) (hd:∀k,o.dst=some k->k<a.tmps.size)
  (ho:o.op=.lookup t y z true) (ht:P.underlying t=some (.map key e)) (u:P.underlying key=some (.int .i64)) (hi:P.info? e=some j) (hz:j.zero=some (.int .i64 0)) (hy:bh y=some s) (h:bh z=some q) (c:evalOp P (.look s q) o.dst F L ρ K):o.wp P a w (aZ F L w a K) Q:=by
 have ey:=aG hy p;have ez:=aG h p;simp only[evalOp] at c;split at c
 case h_2=>exact c.elim
 rename_i mv n hm hn;obtain⟨k,r,b,h1,h2,c⟩:=c;obtain⟨m,es,cl,rfl,h3,h4,o',h5,h6⟩:=FP h1 h2;have hh:=hs.frz _ _ h3;refine bF hs p hd (v:=.tuple #[.int .i64 r,.bool b]) (x:=.v (.tuple #[.int .i64 r,.bool b])) ?_ rfl bL dc c;have f:(getObj m).run P w=.ok (.map es cl) w:=by simp[getObj,Sem.run,hh]
 have l:(Instr.checkKey es.isEmpty 10000 key (.int .i64 n)).run P w=.ok () w:=by
  rw[show(10000:Nat)=9999+1 from rfl,Instr.checkKey];simp only[Sem.run_bind,run_underlying u,Result.andThen_ok,Sem.run_pure]
 have d:(Instr.findKey key (.int .i64 n) es.toList).run P w=.ok o' w:=by
  simp only[Instr.findKey,Sem.run_bind,run_underlying u,Result.andThen_ok,h5,Sem.run_pure]
 simp only[execOp,ho,ey,ez,bB hm,bB hn,Instr.lookup,Sem.run_bind,run_underlying ht,Result.andThen_ok,f,Sem.run_pure,l,d];rcases h6 with⟨rfl,i,rfl⟩ | ⟨rfl,rfl,rfl⟩
 ·simp only[Sem.run_bind,Sem.run_pure,Result.andThen_ok,Xq]
 ·simp only[Sem.run_bind,zeroValue,typeInfo,run_program,Result.andThen_ok,hi,hz,Sem.run_pure,Xq]
theorem Gd {y:Operand}{y':X}(r:St F L w) (h:aC L ρ a) (l:∀k,o.dst=some k->k<a.tmps.size)
  (q:o.op=.nilCheck y) (hy:bh y=some y') (p:LH P=true) (c:evalOp P (.nilck y') o.dst F L ρ K):o.wp P a w (aZ F L w a K) Q:=by
 have n:=aG hy h;simp only[evalOp,aI] at c;split at c
 ·rename_i k off b;obtain⟨g,ty,cs,hg⟩:=nj hy h b;refine bF r h l (v:=.pointer (some ⟨g,off,none⟩)) (x:=.own k off) ?_ (by simp only[conc,hg]) (fun k' ac e=>by injection e with e1 e2;subst e1;exact⟨g,ty,cs,hg⟩) (fun _ _ e=>by cases e) c;simp[execOp,q,n,val,b,conc,hg]
 ·rename_i d j b;obtain⟨z,c⟩:=c;cases d with
  | none=>exact xo rfl z
  | some d =>
   refine bF r h l (v:=.pointer (some (d.add j))) (x:=.el (some d) j) ?_ rfl (fun _ _ e=>by cases e) (fun ag j' e=>by injection e with e1 e2;subst e1;simp) c;simp[execOp,q,n,val,b,conc]
 ·rename_i d b;refine bF r h l (v:=.pointer (some d)) (x:=.v (.pointer (some d))) ?_ rfl bL dc c;simp[execOp,q,n,bB b]
 ·rename_i f fi ca b;refine bF r h l (v:=.func (.func f) fi ca) (x:=.v (.func (.func f) fi ca)) ?_ rfl bL dc c;simp[execOp,q,n,bB b]
 ·rename_i nm fi ca b;split at c
  case h_2=>exact c.elim
  rename_i t u s;obtain⟨hm,c⟩:=c;have h1:=Xf.1 p _ (Df hm);obtain⟨f,hf⟩:=Option.isSome_iff_exists.1 h1;have m:fi[0]?=some (.iface t u):=by rw[<-Array.getElem?_toList,s];rfl
  refine bF r h l (v:=.func (.method nm) fi ca) (x:=.v (.func (.method nm) fi ca)) ?_ rfl bL dc c;have hn:=EC (P:=P) hf u w;simp only[execOp,q,n,bB b,m,Sem.run_bind,run_program,Result.andThen_ok,Sem.run_pure,hn];rfl
 ·exact c.elim
theorem AE:∀{l:List Value},iS l=true->∀u∈l,u.oneCell'=true
 | [],_,u,b=>by cases b
 | v::l,h,u,b=>by
  simp only[iS] at h;split at h
  ·rename_i c;rcases W7.1 b with rfl | b
   ·exact c
   ·exact AE h u b
  ·cases h
theorem AF {t:TypeId}{i:TypeInfo}(hi:P.info? t=some i) {g off:Nat}{v:Value}{b:Array Value}{ty:TypeId}(h:w.heap[g]?=some (.cells b ty (0,0)))
  (e:v.cells.size=i.size) (c:off+v.cells.size<=b.size) (f:∀u∈v.cells.toList,u.oneCell'=true) :
  (Instr.storeAt t (.pointer (some ⟨g,off,none⟩)) v).run P w=.ok () (w.setRow g (aM b.toList off v.cells.toList).toArray):=by
 have d:=run_storeCells_at P g off ty v.cells.toList 0 b w h (by simpa using c) f;simp only[Nat.add_zero] at d;simp only[Instr.storeAt,Instr.sureAddr,storeVar,Sem.run_bind,Sem.run_pure,Result.andThen_ok,sizeOf,typeInfo,run_program,hi];rw[vv (by omega)];rw[d];rfl
theorem qR {c:Type}(b:Array c) (i:Nat) (v:c) (h:b[i]?=some v):b.setIfInBounds i v=b:=by
 apply Array.ext_getElem?;intro j;rw[Array.getElem?_setIfInBounds];split
 ·rename_i e;subst e;split
  ·exact h.symm
  ·rename_i d;rw[Array.getElem?_eq_none (by omega)]
 ·rfl
theorem kT (g o:Nat) (t:TypeId) (d:Nat×Nat) (b:Array Value) (w:World) (h:w.heap[g]?=some (.cells b t d)):∀(vs:List Value) (i:Nat),(∀(n:Nat) (v:Value),vs[n]?=some v->b[o+i+n]?=some v/\nR d (o+i+n))->(∀v∈vs,v.oneCell'=true) ->
  (storeCells ⟨g,o,none⟩ vs i).run P w=.ok () w
 | [],i,_,_=>rfl
 | v::f,i,q,m=>by
  have j:(⟨g,o,none⟩:Addr).add i=⟨g,o+i,none⟩:=by unfold Addr.add;split<;>simp_all
  obtain⟨l,p⟩:=q 0 v (by simp);simp only[Nat.add_zero] at l p;have c:w.cell? ⟨g,o+i,none⟩=some v:=by simp[World.cell?,h,l]
  have e:w.frozen? ⟨g,o+i,none⟩=false:=by
   obtain⟨lo,s⟩:=d;simp only[World.frozen?,h,Bool.and_eq_false_iff,decide_eq_false_iff_not];simp only[nR] at p;omega
  have k:(store ((⟨g,o,none⟩:Addr).add i) v).run P w=.ok () w:=by
   rw[j,run_store P w _ v _ (m v (by simp)),c];simp only[e,setCell_eq_setRow w g (o+i) b t d v h,qR b _ v l,setRow_self w g b t d h];simp
  have z:=kT g o t d b w h f (i+1) (fun n u y=>by
   have:=q (n+1) u (by simpa using y)
   rwa [show o+i+(n+1)=o+(i+1)+n by omega] at this) (fun x r=>m x (by simp[r]))
  simp only[storeCells,Sem.run_bind,k,Result.andThen_ok,z]
theorem nu {t:TypeId}{i:TypeInfo}(hi:P.info? t=some i) {g off:Nat}{v:Value}{b:Array Value}{ty:TypeId}{c:Nat×Nat}(j:w.heap[g]?=some (.cells b ty c))
  (e:v.cells.size=i.size) (f:∀(n:Nat) (u:Value),v.cells.toList[n]?=some u->b[off+n]?=some u/\nR c (off+n)) (h:∀u∈v.cells.toList,u.oneCell'=true) :
  (Instr.storeAt t (.pointer (some ⟨g,off,none⟩)) v).run P w=.ok () w:=by
 have d:=kT (P:=P) g off ty c b w j v.cells.toList 0 (by simpa using f) h;simp only[Instr.storeAt,Instr.sureAddr,storeVar,Sem.run_bind,Sem.run_pure,Result.andThen_ok,sizeOf,typeInfo,run_program,hi];rw[vv (by omega)];rw[d]
theorem lf (w:World) (g:Nat) (cs:Array Value):w.grownBy (w.setRow g cs) (some g) :=
 ⟨rfl,rfl,rfl,by simp[World.setRow],fun k _ b=>setRow_other w g k cs (fun e=>b (by rw[e]))⟩
theorem Ge {t:TypeId}{y z:Operand}{y' z':X}{i:TypeInfo}(hs:St F L w) (he:aC L ρ a) (hd:∀k,o.dst=some k->k<a.tmps.size)
  (ho:o.op=.store t y z) (hi:P.info? t=some i) (hy:bh y=some y') (hz:bh z=some z')
  (l:evalOp P (.store i.size y' z') o.dst F L ρ K):o.wp P a w (aZ F L w a K) Q:=by
 have ey:=aG hy he;have ez:=aG hz he;have am:aH (val L ρ z')=(a.eval z).cells.toList:=by rw[ez,nk]
 have turn:∀(k:Nat) (g:Nat) (oo o':Own) (f:Array Value) (ty:TypeId) (off:Nat),L.get k=some oo->oo.blk=some g->o'.blk=some g->w.heap[g]?=some (.cells f ty (0,0)) ->
   (a.eval z).cells.size=i.size->off+(a.eval z).cells.size<=f.size->(∀u∈(a.eval z).cells.toList,u.oneCell'=true)->a.eval y=.pointer (some ⟨g,off,none⟩) ->
   o'.ok (w.setRow g (aM f.toList off (a.eval z).cells.toList).toArray)->(∀g' ty' cs',oo=.box g' ty' cs'->∃an,o'=.box g' ty' an) ->
   K F (L.set k o') (put o.dst (.v undef) ρ)->o.wp P a w (aZ F L w a K) Q:=by
  intro k g oo o' f ty off s hb bj hg be d h1 x bz r l;have ab:=lf w g (aM f.toList off (a.eval z).cells.toList).toArray;have bu:St F (L.set k o') (w.setRow g (aM f.toList off (a.eval z).cells.toList).toArray) :=
   hs.turn s bz (fun b ax bl=>ab.block b ax (fun e=>bl (by rw[hb,e]))) (fun g' ar=>.inl (by rw[hb];rw[bj] at ar;exact ar))
  refine rP he hd (w':=w.setRow g (aM f.toList off (a.eval z).cells.toList).toArray) ?_ bu ?_ ?_ l
  ·simp[execOp,ho,x,AF hi hg be d h1]
  ·refine⟨aA.le_refl F,rfl,rfl,rfl,ab.size,fun b ax hn=>ab.block b ax (fun e=>hn ⟨k,oo,s,by rw[hb,e]⟩),fun b h=>.inl h,fun b h=>?_⟩;rcases Loc.Wq h with h | h
   ·rw[bj] at h;exact .inl ⟨k,oo,s,by rw[hb];exact h⟩
   ·exact .inl h
  ·intro j g' ty' cs' e;rw[Loc.Wh];split
   ·rename_i hj;subst hj;rw[s] at e;injection e with e
    obtain⟨an,h⟩:=r g' ty' cs' e;exact⟨an,by rw[h]⟩
   ·exact⟨cs',e⟩
 have q:∀(ad:Option Addr) (j:Nat),ad≠none->a.eval y=conc L (.el ad j)->eT (aH (val L ρ z')) i.size=true->iS (aH (val L ρ z'))=true ->
   (rM F L ad j (aH (val L ρ z')) fun L'=>K F L' (put o.dst (.v undef) ρ))->o.wp P a w (aZ F L w a K) Q:=by
  rintro ad j bl x p h1 ⟨⟨k,v,ty,sz,m,xs,bc,c,s,rfl,rfl,d,al,l⟩ | ⟨⟨bc,cp,ty,fz,rfl,hb,ap,hc⟩,al,l⟩⟩
  case inr =>
   have p:=gZ p;rw[am] at p al hc;obtain⟨g,off,sp⟩:=bc;simp only at ap;subst ap;have hr:=nu (P:=P) hi (off:=off+j) (v:=a.eval z) (hs.frz g _ hb) (by simpa using p) hc al;refine rP he hd (w':=w) ?_ hs ?_ (fun j g' ty' cs' e=>⟨cs',e⟩) l
   ·simp only[conc,bU] at x;simp[execOp,ho,x,hr]
   ·exact⟨aA.le_refl F,rfl,rfl,rfl,Xn _,fun b _ _=>rfl,fun b h=>.inl h,fun b h=>.inl h⟩
  have p:=gZ p;rw[am] at p al d l;have ay:(a.eval z).cells.size=i.size:=by simpa using p
  have ac:=hs.own k _ s;simp only[Own.ok] at ac;obtain⟨hx,ac⟩:=ac;rcases ac with⟨e,_⟩ | ⟨g,cap,f,e,bt,hg,bd,bx,av,ag⟩
  ·cases e
  ·injection e with e1 e2 e3
   injection e1 with e1
   subst e1 e3;have cw:m*sz<=f.size:=by rw[av];exact Nat.mul_le_mul_right _ bd
   rw[<-ag] at d;have aw:j+(a.eval z).cells.size<=m*sz:=by simp at d;omega
   refine turn k g _ (.row (.slice (some ⟨g,0,none⟩) m c) ty sz m (aM xs j (a.eval z).cells.toList)) f ty j s rfl rfl hg ay (by omega) al (by rw[x];simp only[conc];rw[bU];simp) ?_ (fun g' ty' cs' e=>by cases e) l;refine⟨?_,.inr ⟨g,c,_,rfl,bt,setRow_heap w g f _ ty _ hg,bd,bx,?_,?_⟩⟩
   ·rw[eO _ _ _ (by rw[hx];simpa using aw)];exact hx
   ·have:(aM f.toList j (a.eval z).cells.toList).length=f.size:=by rw[eO _ _ _ (by simp;omega)];simp
    simp[this,av]
   ·rw[List.toList_toArray,<-ag];apply XF;intro n;have cb:j+(a.eval z).cells.toList.length<=f.toList.length:=by simp;omega
    rw[gN (by simp;omega)]
    by_cases hn:n<m*sz
    ·rw[List.getElem?_take_of_lt hn,gN cb,List.getElem?_take_of_lt hn]
    ·rw[Xe (by simp;omega)];have h1:¬n<j:=by omega
     have h2:¬n<j+(a.eval z).cells.toList.length:=by simp;omega
     rw[vv h1,vv h2,Xe (by simp;omega)]
 simp only[evalOp,aI] at l;split at l
 ·rename_i p h1 aa;rename_i k off;have p:=gZ p;have h1:=AE h1;rw[am] at p h1;split at l
  case h_2=>exact l.elim
  rename_i g ty cs s;split at l
  case h_2=>exact l.elim
  rename_i d;have bi:=uK d;have d:=gZ (zh d);have r:w.heap[g]?=some (.cells cs.toArray ty (0,0)):=by rw[<-gD bi];exact hs.own k _ s
  by_cases h0:i.size=0
  ·have hz:(a.eval z).cells.toList=[]:=Xu (by rw[p,h0]);have ap:aM cs off []=cs:=by simp[aM]
   rw[am,hz,ap] at l;have hr:=nu (P:=P) hi (off:=off) (v:=a.eval z) r (by simpa using p) (by rw[hz];intro n u hu;simp at hu) (by rw[hz];intro u hu;cases hu);have x:a.eval y=.pointer (some ⟨g,off,none⟩):=by rw[ey];simp only[val,aa,conc,s]
   refine rP he hd (w':=w) ?_ (hs.turn s (o':=.box g ty cs) (hs.own k _ s) (fun _ _ _=>rfl) (fun g' ar=>.inl ar)) ?_ (fun j g' ty' cs' e=>?_) l
   ·simp[execOp,ho,x,hr]
   ·refine⟨aA.le_refl F,rfl,rfl,rfl,Xn _,fun b _ _=>rfl,fun b h=>.inl h,fun b h=>?_⟩;rcases Loc.Wq h with h | h
    ·exact .inl ⟨k,_,s,h⟩
    ·exact .inl h
   ·rw[Loc.Wh];split
    ·rename_i hj;subst hj;rw[s] at e;injection e with e
     injection e with q1 q2 q3
     subst q1 q2;exact⟨_,rfl⟩
    ·exact⟨cs',e⟩
  have cd:off+i.size<=cs.length:=by simp at d;omega
  rw[am] at l;have ay:(a.eval z).cells.size=i.size:=by simpa using p
  refine turn k g _ (.box g ty (aM cs off (a.eval z).cells.toList)) cs.toArray ty off s rfl rfl r ay (by simp;omega) h1 (by rw[ey];simp only[val,aa,conc,s]) ?_ (fun g' ty' cs' e=>by injection e with e1 e2 e3;subst e1 e2;exact⟨_,rfl⟩) l;show _=_;rw[gD bi];exact setRow_heap w g cs.toArray _ ty _ r
 ·rename_i p h1 aa;exact q _ _ (qh hy he aa) (by rw[ey];simp only[val,aa]) p h1 l
 ·rename_i p h1 aa;rename_i ad;refine q (some ad) 0 (by simp) (by rw[ey];simp only[val,aa,conc];simp[Addr.add]) p h1 l
 ·exact l.elim
end
def Cb (k:IntKind) (n:Nat):List Value:=List.replicate n (.int k 0)
theorem lQ {k:IntKind}{n:Nat}:(Cb k n).length=n:=by simp[Cb]
theorem I3 {k:IntKind}{n:Nat}:∀u∈Cb k n,u.oneCell'=true:=by
 intro u a;obtain rfl:=List.eq_of_mem_replicate a;rfl
theorem nU {k:IntKind}{n:Nat}:Builtin.zeroCells (Value.int k 0).cells n=(Cb k n).toArray:=by
 apply Array.ext';have h:(Value.int k 0).cells=#[.int k 0]:=rfl;rw[h];simp only[Builtin.zeroCells,Cb,List.size_toArray,Xl,XE,Nat.zero_add,Nat.mul_one,Nat.mod_one];apply List.ext_getElem
 ·simp
 ·intro i b a;simp
section
variable {P:Program}(w:World)
theorem oO (t v ty e:TypeId) (i:TypeInfo) (k h y:IntKind) (s:P.underlying t=some (.slice e)) (m:P.underlying v=some (.int y)) (hi:P.info? e=some i) (hz:i.zero=some (.int h 0)) (j:i.size=1)
  (g a c:Nat) (b:Array Value) (hg:w.heap[g]?=some (.cells b e (0,0))) (n:Nat) (z:(n:Int)<=9223372036854775807) (x:n*i.bytes<=281474976710656)
  (f:a+n<=c) (o:a+n<=b.size) :
  (Builtin.append_ #[t,v] ty #[.slice (some ⟨g,0,none⟩) a c,.int k n]).run P w =
   .ok (.slice (some ⟨g,0,none⟩) (a+n) c) (w.setRow g (b.toList.take a++Cb h n++b.toList.drop (a+n)).toArray):=by
 have hw:IntKind.i64.wrap (n:Int)=n:=by rw[IntKind.wrap_i64];omega
 have l:¬((n:Int)<0):=by omega
 have p:¬(281474976710656<(n:Int)*(i.bytes:Int)):=by
  rw[<-Int.natCast_mul];omega
 have d:=run_storeCells_at P g a e (Cb h n) 0 b w hg (by simpa[lQ] using o) (I3);simp only[Nat.add_zero,lQ] at d
 by_cases u:n=0
 ·subst u;have h0:Cb h 0=[]:=rfl;have q:IntKind.i64.wrap 0=0:=by decide
  have r:a<=c:=by omega
  rw[h0] at d ⊢;simp[Builtin.append_,run_underlying s,run_underlying m,sizeOf,typeInfo,hi,j,asInt,asIntOf,q,r,Addr.add_lit];have h2:w.setRow g b=w.setRow g (b.toList.take a++[]++b.toList.drop a).toArray:=by simp
  simp at d;rw[d];rfl
 ·have hl:(Cb h n)=(Builtin.zeroCells (Value.int h 0).cells n).toList:=by rw[nU]
  rw[hl] at d ⊢;simp[Builtin.append_,run_underlying s,run_underlying m,sizeOf,typeInfo,hi,j,asInt,asIntOf,hw,l,p,u,f,Addr.add_lit,zeroValue,hz,d]
theorem run_append_grow_zeros (t x ty e:TypeId) (i:TypeInfo) (k l kn:IntKind) (ht:P.underlying t=some (.slice e)) (u:P.underlying x=some (.int kn)) (hi:P.info? e=some i) (hz:i.zero=some (.int l 0)) (f:i.size=1)
  (b:Addr) (a c:Nat) (d:List Value) (r:d.length=a*i.size) (holds:∀j v,d[j]?=some v->w.cell? (b.add j)=some v) (n:Nat) (ag:a<=c)
  (hg:c<a+n) (ab:((a+n:Nat):Int)<=9223372036854775807) (z:n*i.bytes<=281474976710656) (y:Builtin.nextslicecap (a+n) c*i.bytes<=281474976710656) :
  (Builtin.append_ #[t,x] ty #[.slice (some b) a c,.int k n]).run P w =
   .ok (.slice (some ⟨w.heap.size,0,none⟩) (a+n) (grownCap w (a+n) c e))
    (w.drew.alloc (.cells (d.toArray++(Cb l n).toArray++Builtin.zeroCells (Value.int l 0).cells (grownCap w (a+n) c e-(a+n))) e)):=by
 have hw:IntKind.i64.wrap (n:Int)=n:=by rw[IntKind.wrap_i64];omega
 have o:¬((n:Int)<0):=by omega
 have p:¬(281474976710656<(n:Int)*(i.bytes:Int)):=by
  rw[<-Int.natCast_mul];omega
 have hn:¬(a+n<=c):=by omega
 have s:n≠0:=by omega
 have m:¬(9223372036854775807<((a:Int)+(n:Int))):=by omega
 have h:¬(281474976710656<Builtin.nextslicecap (a+n) c*i.bytes):=by omega
 have q:=run_firstCells_some (P:=P) w.drew i.size a b a c d r (by simpa using holds);have hl:(Cb l n).toArray=(Builtin.zeroCells (Value.int l 0).cells n):=by rw[nU]
 rw[hl];rw[f] at q;simp[Builtin.append_,run_underlying ht,run_underlying u,sizeOf,typeInfo,zeroValue,hi,hz,f,asInt,asIntOf,hw,o,p,s,hn,m,h,Question.forced,q,newRow,grownCap]
theorem pu (b:Nat) (t tn ty e:TypeId) (i:TypeInfo) (k h kn:IntKind) (ht:P.underlying t=some (.slice e)) (s:P.underlying tn=some (.int kn)) (hi:P.info? e=some i) (hz:i.zero=some (.int h 0)) (q:i.size=1)
  (v:Value) (n:Nat) (xs:List Value) (p:w.ownsRow b e 1 v n xs) (m:Nat)
  (ac:n+m<=maxLen) (d:(n+m)*i.bytes<=140737488355328) (z:b<=w.heap.size) :
  ∃v' w',(Builtin.append_ #[t,tn] ty #[v,.int k m]).run P w=.ok v' w'/\w'.ownsRow b e 1 v' (n+m) (xs++Cb h m)/\w.grownBy w' v.ownBlock /\
   (v'.ownBlock=v.ownBlock\/v'.ownBlock=some w.heap.size):=by
 have an:n+m<=9223372036854775807:=by simp only[maxLen] at ac;omega
 have r:xs.length=n:=by simpa using p.1
 have bc:m*i.bytes<=140737488355328:=XK (Nat.mul_le_mul_right _ (by omega)) d;have c:(xs++Cb h m).length=(n+m)*1:=by rw[W8,r,lQ,Nat.mul_one]
 have l:∀(a:Nat),a<n+m->∀(row:Option Nat),
   (w.drew.alloc (.cells (xs.toArray++(Cb h m).toArray++Builtin.zeroCells (Value.int h 0).cells (grownCap w (n+m) a e-(n+m))) e)).ownsRow b e 1
    (.slice (some ⟨w.heap.size,0,none⟩) (n+m) (grownCap w (n+m) a e)) (n+m) (xs++Cb h m) /\
   w.grownBy (w.drew.alloc (.cells (xs.toArray++(Cb h m).toArray++Builtin.zeroCells (Value.int h 0).cells (grownCap w (n+m) a e-(n+m))) e)) row:=by
  intro a ho row;have ay:=grownCap_ge w (n+m) a e;have y:grownCap w (n+m) a e<=maxLen:=grownCap_le_maxLen w (n+m) a e ac;refine⟨⟨c,.inr ⟨w.heap.size,_,_,rfl,z,heap_alloc_new w.drew _,ay,y,?_,?_⟩⟩,⟨rfl,rfl,rfl,by simp,fun k hk _=>by first | exact heap_alloc_old w.drew _ k hk | exact heap_alloc_old w.drew _ hk⟩⟩
  ·have ao:(Value.int h 0).cells.size=1:=rfl;simp only[Array.size_append,List.size_toArray,size_zeroCells,ao,r,lQ];omega
  ·simp only[Array.toList_append,Xb];rw[<-Xb,<-c];exact List.take_left
 rcases p.2 with⟨rfl,rfl⟩ | ⟨g,cap,x,rfl,aw,hg,ax,y,ar,aa⟩
 ·have hx:xs=[]:=Xu r;subst hx
  by_cases hm:m=0
  ·subst hm;refine⟨.slice none 0 0,w,?_,World.ownsRow_nil w b e 1,⟨rfl,rfl,rfl,Xn _,fun _ _ _=>rfl⟩,.inl rfl⟩;have hw:IntKind.i64.wrap 0=0:=by decide
   simp[Builtin.append_,run_underlying ht,run_underlying s,sizeOf,typeInfo,hi,q,asInt,asIntOf,hw]
  ·have hr:=Lib.run_append_nil_zeros (P:=P) w t tn ty e i (.int h 0) k kn ht s hi hz m (by omega) (by omega) (by omega) (by omega);have f:=l 0 (by omega) (Value.ownBlock (.slice none 0 0));simp only[Nat.zero_add,XD,Array.empty_append] at f ⊢;rw[nU (n:=m)] at hr;exact⟨_,_,hr,f.1,f.2,.inr rfl⟩
 ·by_cases o:n+m<=cap
  ·have az:x.size=cap:=by simpa using ar
   have hr:=oO (P:=P) w t tn ty e i k h kn ht s hi hz q g n cap x hg m (by omega) (by omega) o (by omega);refine⟨_,_,hr,⟨c,.inr ⟨g,cap,_,rfl,aw,setRow_heap w g x _ e _ hg,o,y,?_,?_⟩⟩,⟨rfl,rfl,rfl,by simp,fun k _ hk=>setRow_other w g k _ (fun e=>hk (by simp[Value.ownBlock,e]))⟩,.inl rfl⟩
   ·simp only[List.size_toArray,W8,Xo,XR,Array.length_toList,lQ];omega
   ·have av:x.toList.take n=xs:=by simpa using aa
    rw[av,<-c];exact List.take_left
  ·have holds:∀j u,xs[j]?=some u->w.cell? ((⟨g,0,none⟩:Addr).add j)=some u:=p.cells (g:=g) rfl;have hr:=run_append_grow_zeros (P:=P) w t tn ty e i k h kn ht s hi hz q ⟨g,0,none⟩ n cap xs (by rw[q];simpa using r) holds m ax (by omega) (by omega) (by omega) (growslice_fits (by omega) d);have f:=l cap (by omega) (Value.ownBlock (.slice (some ⟨g,0,none⟩) n cap));exact⟨_,_,hr,f.1,f.2,.inr rfl⟩
end
section
variable {P:Program}{F:aA}{L:Loc}{ρ:Env}{a:Act}{w:World}{K:cE}{o:Oper}{Q:Exit->Act->World->Prop}
theorem yc {b:Option Operand}{c:Option X}(h:o7 b=some c) (f:aC L ρ a) {d i:Int}(hi:iY ρ d c=some i) :
  (b=none/\i=d)\/∃y k,b=some y/\a.eval y=.int k i:=by
 cases b with
 | none=>simp only[o7,WY] at h;subst h;simp only[iY,WY] at hi;exact .inl ⟨rfl,hi.symm⟩
 | some y =>
  simp only[o7] at h;split at h
  case h_2=>cases h
  rename_i x e;injection h with h
  subst h;simp only[iY] at hi;split at hi
  case h_2=>cases hi
  rename_i k j l;injection hi with hi
  subst hi;exact .inr ⟨y,k,rfl,by rw[aG e f,bB l]⟩
theorem jb {k:IntKind}{i:Int}{y:Nat}{code:BoundsCode}(b:0<=i) (c:i<=y):(Instr.sliceBound (.int k i) y code).run P w=.ok i.toNat w:=by
 simp[Instr.sliceBound,asIntOf,b,c]
theorem oI {b:Bool}{n c:Nat}{lo hi:Option Operand}{e d:Option X}{l h:Int}(r:o7 lo=some e) (v:o7 hi=some d) (p:aC L ρ a)
  (el:iY ρ 0 e=some l) (t:iY ρ n d=some h) (j:0<=l) (u:l<=h) (m:h<=c) :
  (Instr.sliceBounds b n c (lo.map a.eval) (hi.map a.eval) none).run P w=.ok (l.toNat,h.toNat,c) w:=by
 unfold Instr.sliceBounds;rcases yc r p el with⟨rfl,rfl⟩ | ⟨y,k,rfl,f⟩<;>rcases yc v p t with⟨rfl,rfl⟩ | ⟨z,x,rfl,q⟩
 ·simp
 ·simp[q,jb (P:=P) (w:=w) (show 0<=h by omega) m]
 ·simp[f,jb (P:=P) (w:=w) j u]
 ·have s:l<=(h.toNat:Nat):=by omega
  simp[f,q,jb (P:=P) (w:=w) (show 0<=h by omega) m,jb (P:=P) (w:=w) j s]
theorem ME {t e:TypeId}{y:Operand}{lo up:Option Operand}{q:X}{j f:Option X}{i:TypeInfo}(hs:St F L w) (m:aC L ρ a) (s:∀k,o.dst=some k->k<a.tmps.size)
  (ho:o.op=.slice t y lo up none) (u:P.underlying t=some (.slice e)) (hi:P.info? e=some i) (hy:bh y=some q) (hl:o7 lo=some j) (hh:o7 up=some f)
  (d:evalOp P (.slc i.size q j f) o.dst F L ρ K):o.wp P a w (aZ F L w a K) Q:=by
 have z:=aG hy m;simp only[evalOp,aI] at d;split at d
 case h_2=>exact d.elim
 rename_i r n c p;split at d
 case h_2=>exact d.elim
 rename_i l h el eh;obtain⟨h1,h2,h3,d⟩:=d;refine bF hs m s (v:=fu r c l.toNat h.toNat i.size) (x:=.v (fu r c l.toNat h.toNat i.size)) ?_ rfl bL dc d;have hb:=oI (P:=P) (w:=w) (b:=true) hl hh m el eh h1 h2 h3;simp[execOp,ho,z,bB p,Instr.sliceAt,Instr.slice,run_underlying u,hb,sizeOf,typeInfo,hi,fu]
theorem I4 {t:TypeId}{y:Operand}{lo up:Option Operand}{m:X}{e d:Option X}(hs:St F L w) (f:aC L ρ a) (n:∀k,o.dst=some k->k<a.tmps.size)
  (ho:o.op=.slice t y lo up none) (p:P.underlying t=some .string) (z:bh y=some m) (r:o7 lo=some e) (hh:o7 up=some d)
  (c:evalOp P (.slcS m e d) o.dst F L ρ K):o.wp P a w (aZ F L w a K) Q:=by
 have q:=aG z f;simp only[evalOp,aI] at c;split at c
 case h_2=>exact c.elim
 rename_i s j;split at c
 case h_2=>exact c.elim
 rename_i l h el eh;obtain⟨u,h2,h3,c⟩:=c;refine bF hs f n (v:=.string (s.extract l.toNat h.toNat)) (x:=.v (.string (s.extract l.toNat h.toNat))) ?_ rfl bL dc c;have hb:=oI (P:=P) (w:=w) (b:=false) r hh f el eh u h2 h3;simp[execOp,ho,q,bB j,Instr.sliceAt,Instr.slice,run_underlying p,hb]
theorem vA (z:Array Value) (n:Nat) (q:0<z.size):(madeCells z (n*z.size)).toList=(List.replicate n z.toList).flatten:=by
 induction n with
 | zero=>simp[madeCells]
 | succ n f =>
  rw[List.replicate_succ',List.flatten_append,<-f];apply XF;intro j;have e:(madeCells z (n*z.size)).toList.length=n*z.size:=by simp[madeCells]
  have b:∀m j,j<m->(madeCells z m).toList[j]?=some (z[j % z.size]!):=by
   intro m j k;simp[madeCells,k]
  have p:(n+1)*z.size=n*z.size+z.size:=Nat.succ_mul _ _
  by_cases h:j<n*z.size
  ·rw[Xc (by omega),b _ _ (by omega),b _ _ h]
  ·rw[Xi (by omega),e]
   by_cases d:j<(n+1)*z.size
   ·rw[b _ _ d];have c:j-n*z.size<z.size:=by omega
    have l:j % z.size=j-n*z.size:=by
     have:j=(j-n*z.size)+z.size*n:=by rw[Nat.mul_comm z.size n];omega
     rw[this,Nat.add_mul_mod_self_left,Nat.mod_eq_of_lt c,Nat.mul_comm z.size n];omega
    simp[c,l]
   ·rw[Xe (by simp[madeCells];omega),Xe (by simp;omega)]
theorem Gf {t e:TypeId}{y z:Operand}{y' z':X}{i:TypeInfo}{b:Value}(hs:St F L w) (he:aC L ρ a) (hd:∀k,o.dst=some k->k<a.tmps.size)
  (ho:o.op=.makeSlice t y z) (ht:P.underlying t=some (.slice e)) (hi:P.info? e=some i) (ad:i.zero=some b) (p:b.cells.size=i.size) (av:0<i.size) (hy:bh y=some y') (hz:bh z=some z')
  (c:evalOp P (.makeS e i.size i.bytes b.cells.toList y' z') o.dst F L ρ K):o.wp P a w (aZ F L w a K) Q:=by
 have ey:=aG hy he;have ez:=aG hz he;simp only[evalOp,aI] at c;split at c
 case h_2=>exact c.elim
 rename_i k1 n k2 m k al ab ar;split at c
 case h_2=>exact c.elim
 rename_i _ hk;obtain⟨h0,u,hb,l,c⟩:=c;have c:=c w.heap.size;obtain⟨r,rfl⟩:=Int.eq_ofNat_of_zero_le h0;obtain⟨q,rfl⟩:=Int.eq_ofNat_of_zero_le (Int.le_trans h0 u);simp only[Int.toNat_natCast] at hb l c;have aa:r<=q:=by omega
 have j:(i.bytes:Int)*(q:Int)<=281474976710656:=by
  have h:((i.bytes*q:Nat):Int)<=281474976710656:=by rw[Nat.mul_comm];omega
  rwa [Int.natCast_mul] at h
 have ac:(q:Int)<=9223372036854775807:=by
  have h:=l;simp[maxLen] at h;omega
 have hr:=run_make (P:=P) w t e i b ht hi ad k1 k2 r q (by omega) u j ac;simp only[Int.toNat_natCast] at hr;have f:=vA b.cells q (by omega);rw[p] at f;have d:∀m:Nat,(List.replicate m b.cells.toList).flatten.length=m*i.size:=by
  intro m;simp[p]
 have ag:(List.replicate r b.cells.toList).flatten=(List.replicate q b.cells.toList).flatten.take (r*i.size):=by
  have e1:q=r+(q-r):=by omega
  conv=>rhs;rw[e1]
  rw[<-List.replicate_append_replicate,List.flatten_append,List.take_append_of_le_length (by rw[d];exact Xn _),XO (by rw[d];exact Xn _)]
 have s:(w.alloc (.cells (madeCells b.cells (q*i.size)) e)).ownsRow 0 e i.size (.slice (some ⟨w.heap.size,0,none⟩) r q) r (List.replicate r b.cells.toList).flatten:=by
  refine⟨d r,.inr ⟨w.heap.size,q,madeCells b.cells (q*i.size),rfl,Xx _,fR w _,aa,l,size_madeCells _ _,?_⟩⟩;rw[ag,<-f]
 obtain⟨h1,h2,h3⟩:=jM hs hk (cs:=madeCells b.cells (q*i.size)) (t:=e) (e:=.row (.slice (some ⟨w.heap.size,0,none⟩) r q) e i.size r (List.replicate r b.cells.toList).flatten) rfl s;refine fB he hd (v:=.slice (some ⟨w.heap.size,0,none⟩) r q) (x:=.v (.slice (some ⟨w.heap.size,0,none⟩) r q)) ?_ h1 h2 rfl bL dc h3 c;simp only[execOp,ho,ey,ez,bB al,bB ab,Sem.run_bind,hr,Result.andThen_ok,Sem.run_pure]
theorem vB (u:St F L w) {k:Nat}{e:TypeId}{sz n n':Nat}{s v:Value}{xs f:List Value}{w':World}
  (l:L.get k=some (.row s e sz n xs)\/(L.get k=none/\s=.slice none 0 0)) (m:w'.ownsRow 0 e sz v n' f) (d:w.grownBy w' s.ownBlock)
  (q:v.ownBlock=s.ownBlock\/v.ownBlock=some w.heap.size) :
  St F (L.set k (.row v e sz n' f)) w'/\Step F L w F (L.set k (.row v e sz n' f)) w'/\(∀j g ty cs,L.get j=some (.box g ty cs)->∃cs',(L.set k (.row v e sz n' f)).get j=some (.box g ty cs')):=by
 have p:∀j g ty cs,L.get j=some (.box g ty cs)->∃cs',(L.set k (.row v e sz n' f)).get j=some (.box g ty cs'):=by
  intro j g ty cs x;rw[Loc.Wh];split
  ·rename_i hj;subst hj;rcases l with h | ⟨h,_⟩<;>rw[h] at x<;>cases x
  ·exact⟨cs,x⟩
 rcases l with t | ⟨t,rfl⟩
 ·refine⟨u.turn t m (fun b hb z=>d.block b hb (fun e=>z (by simpa[Own.blk] using e.symm))) (fun g c=>?_),⟨aA.le_refl F,d.os,d.tape,d.output,d.size,fun b hb hn=>d.block b hb (fun e=>hn ⟨k,_,t,e.symm⟩),fun b h=>.inl h,fun b h=>?_⟩,p⟩
  ·rcases q with h | h
   ·exact .inl (by simp only[Own.blk] at c ⊢;rw[<-h];exact c)
   ·simp only[Own.blk] at c;rw[h] at c;injection c with c;exact .inr (by omega)
  ·rcases Loc.Wq h with h | h
   ·simp only[Own.blk] at h;rcases q with r | r
    ·exact .inl ⟨k,_,t,by simp only[Own.blk];rw[<-r];exact h⟩
    ·rw[r] at h;injection h with h;exact .inr (by omega)
   ·exact .inl h
 ·have hv:∀g,v.ownBlock=some g->w.heap.size<=g:=by
   intro g h;rcases q with r | r
   ·rw[r] at h;cases h
   ·rw[r] at h;injection h with h;omega
  have y:St F L w':=u.keep fun b hb=>d.block b hb (by simp[Value.ownBlock]);refine⟨y.put t m fun g c=>⟨?_,fun ho=>?_⟩,⟨aA.le_refl F,d.os,d.tape,d.output,d.size,fun b hb hn=>d.block b hb (by simp[Value.ownBlock]),fun b h=>.inl h,fun b h=>?_⟩,p⟩
  ·cases hF:F g with
   | none=>rfl
   | some _=>have h1:=u.WC (b:=g) (by rw[hF];simp);have h2:=hv g c;omega
  ·have h1:=u.WI ho;have h2:=hv g c;omega
  ·rcases Loc.Wq h with h | h
   ·exact .inr (hv b h)
   ·exact .inl h
theorem rR {e:TypeId}{sz n:Nat}{v:Value}{xs:List Value}(h:w.ownsRow 0 e sz v n xs):∃a c,v=.slice a n c/\(a=none->n=0):=by
 rcases h.2 with⟨rfl,rfl⟩ | ⟨g,cap,b,rfl,_⟩
 ·exact⟨none,0,rfl,fun _=>rfl⟩
 ·exact⟨_,cap,rfl,fun e=>(by cases e)⟩
theorem qU {t ty e:TypeId}{i:TypeInfo}(h:P.underlying t=some (.slice e)) (hi:P.info? e=some i) {s:Value}{n:Nat}{xs:List Value}(b:w.ownsRow 0 e i.size s n xs) (d:Option Addr) (c:Nat) :
  ∃w',(Builtin.append_ #[t,t] ty #[s,.slice d 0 c]).run P w=.ok s w'/\w'=w:=by
 refine⟨w,?_,rfl⟩;have j:(Builtin.firstCells i.size 0 (.slice d 0 c)).run P w=.ok #[] w:=by
  cases d<;>simp[Builtin.firstCells,loadCells,loadCellsFrom]
 rcases b.2 with⟨rfl,rfl⟩ | ⟨g,cap,k,rfl,_,_,f,_⟩
 ·simp[Builtin.append_,run_underlying h,sizeOf,typeInfo,hi,Builtin.lenOf,j]
 ·simp[Builtin.append_,run_underlying h,sizeOf,typeInfo,hi,Builtin.lenOf,j,f,storeCells]
theorem MF {t e:TypeId}{y z:Operand}{y' z':X}{i:TypeInfo}{zv:Value}{c:Call}(hs:St F L w) (he:aC L ρ a) (hd:∀k,o.dst=some k->k<a.tmps.size)
  (ho:o.op=.call c) (hc:c.callee=.builtin .append) (ha:c.args=#[y,z]) (bm:c.argTypes=#[t,t]) (ht:P.underlying t=some (.slice e)) (hi:P.info? e=some i) (bt:i.zero=some zv) (bi:zv.cells.size=i.size) (aw:0<i.size)
  (hy:bh y=some y') (hz:bh z=some z') (hK:evalOp P (.app e i.size i.bytes zv.cells.toList y' z') o.dst F L ρ K):o.wp P a w (aZ F L w a K) Q:=by
 have ey:=aG hy he;have ez:=aG hz he;simp only[evalOp,aI] at hK;split at hK
 case h_2=>exact hK.elim
 rename_i s x bx bp;obtain⟨kd,n,xs,m,news,az,⟨ad,cx,rfl,ab,ay⟩,h1,bs,bo,hK⟩:=hK;have ap:m≠0->∃d,ad=some d/\∀j u,news[j]?=some u->w.cell? (d.add j)=some u:=by
  intro hm;rcases ay with p | ⟨ao,_⟩ | ⟨k,v,ty,cY,m',ys,d,c',hk,rfl,rfl,p⟩
  ·obtain⟨d,r,bj,ag⟩:=p.cell hs;refine⟨d,r,fun j u hu=>?_⟩;have:=ag j u hu
   rwa [Nat.zero_add] at this
  ·exact xo ao hm
  ·refine⟨d,rfl,fun j u hu=>?_⟩;have q:=hs.own k _ hk;simp only[Own.ok] at q;have h0:=World.ownsRow.cells q (g:=d.block) rfl j u (p j u hu);rcases q.2 with⟨r,_⟩ | ⟨g,cap,ar,r,_⟩
   ·cases r
   ·injection r with e1 e2 e3
    injection e1 with e1
    subst e1;exact h0
 have be:(L.get kd=some (.row s e i.size n xs)\/(L.get kd=none/\n=0/\xs=[]/\s=.slice none 0 0))\/(L.get kd=none/\∃ad,s=.slice (some ad) n n/\0<m/\xs.length=n*i.size/\(bN F (some ad) 0 xs\/(n=0/\xs=[]))):=by
  rcases az with h | h | h
  ·exact .inl (.inl h)
  ·exact .inl (.inr h)
  ·exact .inr h
 rcases be with av | ⟨bk,bv,rfl,ao,da,cr⟩
 case inr =>
  obtain⟨d,rfl,l⟩:=ap (by omega);have cp:∀j u,xs[j]?=some u->w.cell? (bv.add j)=some u:=by
   intro j u hu;rcases cr with p | ⟨_,rfl⟩
   ·obtain⟨dy,r,bj,ag⟩:=p.cell hs;injection r with r
    subst r;have:=ag j u hu
    rwa [Nat.zero_add] at this
   ·simp at hu
  obtain⟨v,w',q,f,hg⟩:=run_append_arg_grows (P:=P) w t o.type e i zv i.size i.bytes ht hi bt rfl rfl bi aw bv n n xs da cp d m cx news ab l (by omega) bs bo;have ac:w'.ownsRow 0 e i.size v (n+m) (xs++news):=by
   refine⟨f.1,?_⟩;rcases f.2 with h | ⟨g,cap,ar,e1,e2,e3⟩
   ·exact .inl h
   ·exact .inr ⟨g,cap,ar,e1,Xx _,e3⟩
  have ba:v.ownBlock=none\/(∃g,v.ownBlock=some g/\w.heap.size<=g):=by
   rcases f.2 with⟨h,_⟩ | ⟨g,cap,ar,e1,e2,e3⟩
   ·rw[h];exact .inl rfl
   ·rw[e1];exact .inr ⟨g,rfl,e2⟩
  have hv:∀g,v.ownBlock=some g->w.heap.size<=g:=by
   intro g h;rcases ba with h' | ⟨g',h',h2⟩
   ·rw[h'] at h;cases h
   ·rw[h'] at h;injection h with h;omega
  have co:St F L w':=hs.keep fun b hb=>hg.block b hb (by simp);have cy:St F (L.set kd (.row v e i.size (n+m) (xs++news))) w':=co.put bk ac fun g ca=>⟨by
   cases hF:F g with
   | none=>rfl
   | some _=>have h1:=hs.WC (b:=g) (by rw[hF];simp);have h2:=hv g ca;omega,fun ho=>by have h1:=hs.WI ho;have h2:=hv g ca;omega⟩
  have bb:Step F L w F (L.set kd (.row v e i.size (n+m) (xs++news))) w':=⟨aA.le_refl F,hg.os,hg.tape,hg.output,hg.size,fun b hb hn=>hg.block b hb (by simp),fun b h=>.inl h,fun b h=>by
   rcases Loc.Wq h with h | h
   ·exact .inr (hv b h)
   ·exact .inl h⟩
  have bl:∀j g ty cs,L.get j=some (.box g ty cs)->∃cs',(L.set kd (.row v e i.size (n+m) (xs++news))).get j=some (.box g ty cs'):=by
   intro j g ty cs ej;rw[Loc.Wh,vv (by rintro rfl;rw[bk] at ej;cases ej)];exact⟨cs,ej⟩
  refine fB he hd (v:=v) (x:=.v v) ?_ cy bb rfl bL dc bl (hK v (rR ac));simp[execOp,ho,resolve,hc,ha,bm,invoke,builtin,ey,ez,bB bx,bB bp,q]
 have aa:w.ownsRow 0 e i.size s n xs:=by
  rcases av with h | ⟨_,rfl,rfl,rfl⟩
  ·exact hs.own kd _ h
  ·exact World.ownsRow_nil w 0 e i.size
 have aE:L.get kd=some (.row s e i.size n xs)\/(L.get kd=none/\s=.slice none 0 0):=by
  rcases av with h | ⟨h,_,_,h'⟩
  ·exact .inl h
  ·exact .inr ⟨h,h'⟩
 have fin:∀(v:Value) (w':World),(Builtin.append_ #[t,t] o.type #[s,.slice ad m cx]).run P w=.ok v w'->w'.ownsRow 0 e i.size v (n+m) (xs++news)->w.grownBy w' s.ownBlock->(v.ownBlock=s.ownBlock\/v.ownBlock=some w.heap.size)->o.wp P a w (aZ F L w a K) Q:=by
  intro v w' q f hg ba;obtain⟨g1,g2,g3⟩:=vB hs aE f hg ba;refine fB he hd (v:=v) (x:=.v v) ?_ g1 g2 rfl bL dc g3 (hK v (rR f));simp[execOp,ho,resolve,hc,ha,bm,invoke,builtin,ey,ez,bB bx,bB bp,q]
 by_cases hm:m=0
 ·subst hm;have hn:news=[]:=Xu (by simpa using ab);subst hn;obtain⟨w',q,rfl⟩:=qU (P:=P) (ty:=o.type) ht hi aa ad cx;exact fin s w' q (by simpa using aa) (World.grownBy.refl _ _) (.inl rfl)
 ·have l:∃d,ad=some d/\∀j u,news[j]?=some u->w.cell? (d.add j)=some u:=by
   rcases ay with p | ⟨ao,_⟩ | ⟨k,v,ty,cY,m',ys,d,c',hk,rfl,rfl,p⟩
   ·obtain⟨d,r,bj,ag⟩:=p.cell hs;refine⟨d,r,fun j u hu=>?_⟩;have:=ag j u hu
    rwa [Nat.zero_add] at this
   ·exact xo ao hm
   ·refine⟨d,rfl,fun j u hu=>?_⟩;have q:=hs.own k _ hk;simp only[Own.ok] at q;have h0:=World.ownsRow.cells q (g:=d.block) rfl j u (p j u hu);rcases q.2 with⟨r,_⟩ | ⟨g,cap,ar,r,_⟩
    ·cases r
    ·injection r with e1 e2 e3
     injection e1 with e1
     subst e1;exact h0
  obtain⟨d,rfl,l⟩:=l;obtain⟨v,w',q,h2,h3,_,h5⟩:=run_append_own_at (P:=P) w 0 t o.type e i zv i.size i.bytes ht hi bt rfl rfl bi aw s n xs aa d m cx news ab l h1 bs bo (Xx _);exact fin v w' q h2 h3 h5
theorem I5 {t t' e:TypeId}{y z:Operand}{y' z':X}{i:TypeInfo}{c:Call}(hs:St F L w) (he:aC L ρ a) (hd:∀k,o.dst=some k->k<a.tmps.size)
  (ho:o.op=.call c) (hc:c.callee=.builtin .append) (ha:c.args=#[y,z]) (aw:c.argTypes=#[t,t']) (ht:P.underlying t=some (.slice e)) (l:P.underlying t'=some .string) (hi:P.info? e=some i) (ab:i.zero=some (.int .u8 0)) (ac:i.size=1) (aa:i.bytes=1)
  (hy:bh y=some y') (hz:bh z=some z') (hK:evalOp P (.appS e y' z') o.dst F L ρ K):o.wp P a w (aZ F L w a K) Q:=by
 have ey:=aG hy he;have ez:=aG hz he;simp only[evalOp,aI] at hK;split at hK
 case h_2=>exact hK.elim
 rename_i s x az an;obtain⟨kd,n,xs,m,p,ax,hK⟩:=hK;have b:w.ownsRow 0 e 1 s n xs:=by
  rcases m with h | ⟨_,rfl,rfl,rfl⟩
  ·exact hs.own kd _ h
  ·exact World.ownsRow_nil w 0 e 1
 have ad:L.get kd=some (.row s e 1 n xs)\/(L.get kd=none/\s=.slice none 0 0):=by
  rcases m with h | ⟨h,_,_,h'⟩
  ·exact .inl h
  ·exact .inr ⟨h,h'⟩
 obtain⟨v,w',d,h2,h3,h4⟩:=Lib.run_append_own_string (P:=P) w 0 t t' o.type e i ht l hi ab ac aa s n xs b x p ax (Xx _);have ao:v.ownBlock=s.ownBlock\/v.ownBlock=some w.heap.size:=by
  rcases b.2 with⟨rfl,rfl⟩ | ⟨g,cap,al,rfl,_,hg,bz,bj,av,aE⟩
  ·have ap:xs=[]:=Xu (by simpa using b.1);subst ap
   by_cases hm:x.size=0
   ·exact .inl (by rw[(h4.2 ⟨rfl,hm⟩)])
   ·have r:=p;simp only[maxLen] at r;have f:=run_append_nil_string (P:=P) w t t' o.type e i (.int .u8 0) ht l hi ab x (by omega) (by omega) (by rw[aa];omega);rw[f] at d;injection d with d _
    subst d;exact .inr rfl
  ·by_cases q:n+x.size<=cap
   ·have bc:al.size=cap:=by simpa using av
    have f:=Lib.run_append_room_string (P:=P) w t t' o.type e i ht l hi ac g n cap al hg x q (by omega);rw[f] at d;injection d with d _
    subst d;exact .inl rfl
   ·have holds:∀j u,xs[j]?=some u->w.cell? ((⟨g,0,none⟩:Addr).add j)=some u:=b.cells (g:=g) rfl;have r:=p;simp only[maxLen] at r;have f:=Lib.run_append_grow_string (P:=P) w t t' o.type e i (.int .u8 0) ht l hi ab ⟨g,0,none⟩ n cap xs (by rw[ac];simpa using b.1) holds x (by omega) (by omega) (by rw[aa];exact growslice_fits (by omega) (by omega));rw[f] at d;injection d with d _
    subst d;exact .inr rfl
 obtain⟨g1,g2,g3⟩:=vB hs ad h2 h3 ao;refine fB he hd (v:=v) (x:=.v v) ?_ g1 g2 rfl bL dc g3 (hK v (rR h2));simp[execOp,ho,resolve,hc,ha,aw,invoke,builtin,ey,ez,bB az,bB an,d]
theorem I6 {t p e:TypeId}{kn kz:IntKind}{y z:Operand}{y' z':X}{i:TypeInfo}{c:Call}(hs:St F L w) (he:aC L ρ a) (hd:∀k,o.dst=some k->k<a.tmps.size)
  (ho:o.op=.call c) (hc:c.callee=.builtin .append) (ha:c.args=#[y,z]) (ad:c.argTypes=#[t,p]) (ht:P.underlying t=some (.slice e)) (ac:P.underlying p=some (.int kn)) (hi:P.info? e=some i) (ag:i.zero=some (.int kz 0)) (am:i.size=1)
  (hy:bh y=some y') (hz:bh z=some z') (b:evalOp P (.appZ e i.bytes kz y' z') o.dst F L ρ K):o.wp P a w (aZ F L w a K) Q:=by
 have ey:=aG hy he;have ez:=aG hz he;simp only[evalOp,aI] at b;split at b
 case h_2=>exact b.elim
 rename_i s kx x an q;split at b
 case h_2=>exact b.elim
 rename_i m;obtain⟨kd,n,xs,d,u,ae,b⟩:=b;have j:w.ownsRow 0 e 1 s n xs:=by
  rcases d with h | ⟨_,rfl,rfl,rfl⟩
  ·exact hs.own kd _ h
  ·exact World.ownsRow_nil w 0 e 1
 have f:L.get kd=some (.row s e 1 n xs)\/(L.get kd=none/\s=.slice none 0 0):=by
  rcases d with h | ⟨h,_,_,h'⟩
  ·exact .inl h
  ·exact .inr ⟨h,h'⟩
 obtain⟨v,w',hr,h2,h3,r⟩:=pu (P:=P) w 0 t p o.type e i kx kz kn ht ac hi ag am s n xs j m u ae (Xx _);obtain⟨g1,g2,g3⟩:=vB hs f h2 h3 r;have l:(Builtin.append_ #[t,p] o.type #[s,.int kx (Int.ofNat m)]).run P w=.ok v w':=hr;refine fB he hd (v:=v) (x:=.v v) ?_ g1 g2 rfl bL dc g3 (b v (rR h2));simp at l;simp[execOp,ho,resolve,hc,ha,ad,invoke,builtin,ey,ez,bB an,bB q,l]
end
section
variable {P:Program}{F:aA}{L:Loc}{ρ:Env}{a:Act}{w:World}{K:cE}{o:Oper}{Q:Exit->Act->World->Prop}
theorem tT:∀(l:List Own) (k j:Nat),Loc.get (jY k l) j=if k<=j then l[j-k]? else none
 | [],k,j=>by simp[jY,Loc.get]
 | o::l,k,j=>by
  simp only[jY,Loc.get];cases h:Nat.beq k j with
  | true=>have:=yo h;subst this;simp
  | false =>
   have c:=eV h;simp only[tT l (k+1) j]
   by_cases b:k<=j
   ·rw[j3 (by omega),j3 b,show j-k=(j-(k+1))+1 by omega,XM]
   ·rw[vv (by omega),vv b]
theorem aS (l:List Own) (j:Nat):Loc.get (inp l) j=if 1000<=j then l[j-1000]? else none:=tT l 1000 j
theorem dW:∀{L:Loc}{ks:List Nat}{l:List Own},L.sub ks=some l->l.length=ks.length/\∀(i:Nat) (k:Nat),ks[i]?=some k->L.get k=l[i]?
 | L,[],l,h=>by simp only[Loc.sub,WY] at h;subst h;simp
 | L,k::ks,l,h=>by
  simp only[Loc.sub] at h;split at h
  case h_2=>cases h
  rename_i o j d b;injection h with h
  subst h;obtain⟨e,c⟩:=dW b;refine⟨by simp[e],fun i f hi=>?_⟩;cases i with
  | zero=>simp at hi;subst hi;simpa using d
  | succ i=>simp at hi;simpa using c i f hi
theorem eX:∀(ks:List Nat) (L:Loc) (j:Nat),(L.Wi ks).get j=if j∈ks then none else L.get j
 | [],L,j=>by simp[Loc.Wi]
 | k::ks,L,j=>by
  simp only[Loc.Wi,eX ks,Loc.Wm,W7]
  by_cases c:j=k<;>by_cases b:j∈ks<;>simp[c,b]
theorem cW:∀(ko:List Nat) (l:List Own) (L:Loc) (j:Nat),ko.Nodup->ko.length=l.length ->
  ((L.puts ko l).get j=L.get j/\j∉ko)\/∃i,ko[i]?=some j/\(L.puts ko l).get j=l[i]?/\i<l.length
 | [],l,L,j,_,h=>by
  refine .inl ⟨?_,by simp⟩;cases l<;>rfl
 | k::ko,[],L,j,_,h=>by simp at h
 | k::ko,o::l,L,j,e,h=>by
  simp only[Xl,Nat.add_right_cancel_iff] at h;rw[List.nodup_cons] at e;simp only[Loc.puts];rcases cW ko l (L.set k o) j e.2 h with⟨b,c⟩ | ⟨i,b,c,f⟩
  ·rw[Loc.Wh] at b
   by_cases d:j=k
   ·subst d;rw[j3 rfl] at b;exact .inr ⟨0,by simp,by simpa using b,by simp⟩
   ·rw[vv d] at b;exact .inl ⟨b,by simp[d,c]⟩
  ·exact .inr ⟨i+1,by simpa using b,by simpa using c,by simp;omega⟩
theorem yd {l:List Nat}(h:l.Nodup) {i j:Nat}{k:Nat}(hi:l[i]?=some k) (b:l[j]?=some k):i=j:=by
 induction l generalizing i j with
 | nil=>simp at hi
 | cons x l c =>
  rw[List.nodup_cons] at h;cases i with
  | zero =>
   cases j with
   | zero=>rfl
   | succ j =>
    simp at hi b;subst hi;exact xo (W9 b) h.1
  | succ i =>
   cases j with
   | zero =>
    simp at hi b;subst b;exact xo (W9 hi) h.1
   | succ j =>
    simp at hi b;rw[c h.2 hi b]
theorem St.handed (c:St F L w) {ks:List Nat}{l:List Own}(b:L.sub ks=some l) (v:ks.Nodup):St F (inp l) w:=by
 obtain⟨hl,y⟩:=dW b;have key:∀j p,Loc.get (inp l) j=some p->∃k,1000<=j/\ks[j-1000]?=some k/\L.get k=some p:=by
  intro j p e;rw[aS] at e;split at e
  case isFalse=>cases e
  rename_i q;have aa:j-1000<l.length:=(W5.1 e).1;have n:ks[j-1000]?=some (ks[j-1000]'(by omega)):=WZ (by omega);exact⟨_,q,n,by rw[y _ _ n];exact e⟩
 refine⟨c.frz,fun j p e=>?_,fun j p g e hb=>?_,fun j u p r g e t hb m=>?_,c.glob⟩
 ·obtain⟨k,_,_,h⟩:=key j p e;exact c.own k p h
 ·obtain⟨k,_,_,h⟩:=key j p e;exact c.off k p g h hb
 ·obtain⟨k,q,h2,x⟩:=key j p e;obtain⟨z,s,d,f⟩:=key u r t;have:=c.sep k z p r g x f hb m;subst this;have:=yd v h2 d;omega
theorem iT (z:St F L w) {ks ko:List Nat}{l lo:List Own}(ae:L.sub ks=some l) (hn:ks.Nodup) (x:ko.Nodup) (aw:∀k,k∈ko->k∈ks\/L.get k=none)
  {F':aA}{w':World}(s:St F' (inp lo) w') (m:Step F (inp l) w F' (inp lo) w') (ab:ko.length=lo.length) :
  St F' ((L.Wi ks).puts ko lo) w'/\Step F L w F' ((L.Wi ks).puts ko lo) w':=by
 obtain⟨hl,hg⟩:=dW ae;have n:∀b,(inp l).owns b->∃k o,k∈ks/\L.get k=some o/\o.blk=some b:=by
  rintro b ⟨j,p,e,hb⟩;rw[aS] at e;split at e
  case isFalse=>cases e
  have az:j-1000<l.length:=(W5.1 e).1;have hk:ks[j-1000]?=some (ks[j-1000]'(by omega)):=WZ (by omega);exact⟨_,p,W9 hk,by rw[hg _ _ hk];exact e,hb⟩
 have f:∀k p b,k∉ks->L.get k=some p->p.blk=some b->¬(inp l).owns b:=by
  intro k p b hk e hb ho;obtain⟨y,o,ao,e',d⟩:=n b ho;exact hk (by rw[z.sep k y p o b e e' hb d];exact ao)
 have get:∀k p,((L.Wi ks).puts ko lo).get k=some p->(k∉ks/\k∉ko/\L.get k=some p)\/∃i,ko[i]?=some k/\Loc.get (inp lo) (1000+i)=some p:=by
  intro k p e;rcases cW ko lo (L.Wi ks) k x ab with⟨q,c⟩ | ⟨i,q,c,v⟩
  ·rw[q,eX] at e;split at e
   ·cases e
   ·rename_i v;exact .inl ⟨v,c,e⟩
  ·rw[c] at e;exact .inr ⟨i,q,by rw[aS,j3 (by omega),show 1000+i-1000=i by omega];exact e⟩
 refine⟨⟨s.frz,fun k p e=>?_,fun k p b e hb=>?_,fun k y p u b e e' hb d=>?_,s.glob⟩,⟨m.le,m.os,m.tape,m.output,m.size,fun b hb x=>?_,fun b hb=>?_,fun b hb=>?_⟩⟩
 ·rcases get k p e with⟨q,_,c⟩ | ⟨i,_,c⟩
  ·exact Own.WA (z.own k p c) fun g ag=>m.same g (Own.Wv (z.own k p c) ag) (f k p g q c ag)
  ·exact s.own _ p c
 ·rcases get k p e with⟨q,_,c⟩ | ⟨i,_,c⟩
  ·cases hF:F' b with
   | none=>rfl
   | some _ =>
    rcases m.frz b (by rw[hF];simp) with v | v | v
    ·exact xo (z.off k p b c hb) v
    ·exact xo v (f k p b q c hb)
    ·have:=Own.Wv (z.own k p c) hb;omega
  ·exact s.off _ p b c hb
 ·have r:∀k p i u,k∉ks->L.get k=some p->Loc.get (inp lo) (1000+i)=some u->p.blk=some b->u.blk=some b->False:=by
   intro k p i u q c v h4 h5;rcases m.own b ⟨_,u,v,h5⟩ with h6 | h6
   ·exact f k p b q c h4 h6
   ·have:=Own.Wv (z.own k p c) h4;omega
  rcases get k p e with⟨q,_,c⟩ | ⟨i,hi,c⟩<;>rcases get y u e' with⟨am,_,t⟩ | ⟨i',ac,t⟩
  ·exact z.sep k y p u b c t hb d
  ·exact(r k p i' u q c t hb d).elim
  ·exact(r y u i p am t c d hb).elim
  ·have:=s.sep _ _ p u b c t hb d;have:i=i':=by omega
   subst this;rw[hi] at ac;injection ac
 ·refine m.same b hb fun ho=>?_;obtain⟨k,o,_,e,d⟩:=n b ho;exact x ⟨k,o,e,d⟩
 ·rcases m.frz b hb with h | h | h
  ·exact .inl h
  ·obtain⟨k,o,_,e,d⟩:=n b h;exact .inr (.inl ⟨k,o,e,d⟩)
  ·exact .inr (.inr h)
 ·obtain⟨k,p,e,d⟩:=hb;rcases get k p e with⟨q,_,c⟩ | ⟨i,_,c⟩
  ·exact .inl ⟨k,p,c,d⟩
  ·rcases m.own b ⟨_,p,c,d⟩ with h | h
   ·obtain⟨y,o,_,e',ad⟩:=n b h;exact .inl ⟨y,o,e',ad⟩
   ·exact .inr h
theorem uM {f:Nat}{args:List Value}(hs:St F L w) (he:aC L ρ a) (hd:∀k,o.dst=some k->k<a.tmps.size)
  (hrun:(∃fn,P.funcs[f]?=some fn/\fn.body.isSome=true/\(fn.name == "runtime.NumGoroutine")=false)->(execOp a.eval o).run P w=.ok (.enter f args.toArray) w)
  (hK:cV P f args F L fun F' L' v=>K F' L' (put o.dst (.v v) ρ)):o.wp P a w (aZ F L w a K) Q:=by
 obtain⟨ks,ko,l,R,hsub,hn,hno,hko,hc,hK⟩:=hK;unfold Oper.wp;rw[hrun hc.ent];rw[Oper.upon_enter];refine(hc.run w (hs.handed hsub hn)).mono ?_;rintro e w' ⟨v,F',lo,rfl,hs',hst,hR⟩;obtain⟨hlen,hbox,hK⟩:=hK v F' lo hst.le hR;obtain⟨h1,h2⟩:=iT hs hsub hn hno hko hs' hst hlen;refine⟨F',_,_,h1,he.put hd (x:=.v v) rfl bL dc ?_,j9 _ _ _,gj _ _ _,h2,hK⟩;intro k g ty cs e
 by_cases hk:k∈ks
 ·exact hbox k g ty cs hk e
 ·rcases cW ko lo (L.Wi ks) k hno hlen with⟨h1,h2⟩ | ⟨i,h1,h2,h3⟩
  ·rw[h1,eX,vv hk];exact⟨cs,e⟩
  ·rcases hko k (W9 h1) with h | h
   ·exact xo h hk
   ·rw[h] at e;cases e
theorem jc {f:Nat}{args:Array Value}(h:∃fn,P.funcs[f]?=some fn/\fn.body.isSome=true/\(fn.name == "runtime.NumGoroutine")=false):(callFunc f args).run P w=.ok (.enter f args) w:=by
 obtain⟨fn,h1,h2,h3⟩:=h;have h4:fn.body≠none:=by intro hb;rw[hb] at h2;cases h2
 have h5:fn.name≠"runtime.NumGoroutine":=by simpa using h3
 simp[callFunc,h1,h4,h5]
theorem I7 {f:Nat}{args:List X}{c:Call}(m:St F L w) (h:aC L ρ a) (n:∀k,o.dst=some k->k<a.tmps.size)
  (l:o.op=.call c) (p:c.callee=.value (.func f)) (j:fN c.args.toList=some args) (q:evalOp P (.call f args) o.dst F L ρ K):o.wp P a w (aZ F L w a K) Q:=by
 refine uM m h n (fun d=>?_) q;have e:=eW j h;have b:c.args.map a.eval=(bf L ρ args).toArray:=by apply Array.ext';simpa using e
 simp[execOp,l,resolve,p,Deferred.ofValue,Act.eval,invoke,b,jc d]
theorem jd {t:TypeId}{nm:String}{u:Value}{f:Nat}{args:Array Value}(hf:m9 P t nm=some f) (h:∃fn,P.funcs[f]?=some fn/\fn.body.isSome=true/\(fn.name == "runtime.NumGoroutine")=false) :
  (callMethod (.iface t u) nm args).run P w=.ok (.enter f (#[u]++args)) w:=by
 have:=EA (P:=P) hf u w;simp only[callMethod,Sem.run_bind,run_program,Result.andThen_ok,this];exact jc h
theorem AG {V:SV}{v:Value}{args:List Value}{f:Nat}{fi ca:List Value}(hf:kY P V=some (f,fi,ca)) (hv:∀x,V=.v x->v=x) (h:∃fn,P.funcs[f]?=some fn/\fn.body.isSome=true/\(fn.name == "runtime.NumGoroutine")=false) :
  (do let d <-Deferred.ofValue v args.toArray;invoke d.target d.args:Sem Next).run P w=.ok (.enter f (fi++args++ca).toArray) w:=by
 unfold kY at hf;split at hf
 ·rename_i f' fi' ca';injection hf with hf
  injection hf with e1 e2
  injection e2 with e2 e3
  subst e1 e2 e3;rw[hv _ rfl];have hall:fi'++(args.toArray++ca')=(fi'.toList++args++ca'.toList).toArray:=by apply Array.ext';simp
  simp[Deferred.ofValue,invoke];rw[jc h];simp
 ·rename_i nm fi' ca';split at hf
  case h_2=>cases hf
  rename_i t u hfi;split at hf
  case h_2=>cases hf
  rename_i f' hm;injection hf with hf
  injection hf with e1 e2
  injection e2 with e2 e3
  subst e1 e2 e3;have hfi':fi'=#[.iface t u]:=by apply Array.ext';exact hfi
  rw[hv _ rfl,hfi'];have hx:(#[Value.iface t u]++args.toArray).extract 1 (#[Value.iface t u]++args.toArray).size=args.toArray:=by apply Array.ext';simp
  have h0:(#[Value.iface t u]++args.toArray)[0]?=some (.iface t u):=by simp
  have:=jd (w:=w) (u:=u) (args:=args.toArray) hm h;simp only[Deferred.ofValue,Sem.run_bind,Sem.run_pure,Result.andThen_ok,invoke,h0,hx,this];simp
 ·cases hf
theorem Gg {y:Operand}{q:X}{args:List X}{c:Call}(hs:St F L w) (p:aC L ρ a) (hd:∀k,o.dst=some k->k<a.tmps.size)
  (ho:o.op=.call c) (hc:c.callee=.value y) (hy:bh y=some q) (ha:fN c.args.toList=some args) (n:evalOp P (.callV q args) o.dst F L ρ K):o.wp P a w (aZ F L w a K) Q:=by
 have ey:=aG hy p;have z:=eW ha p;have l:c.args.map a.eval=(bf L ρ args).toArray:=by apply Array.ext';simpa using z
 have m:∀x,ev ρ q=.v x->a.eval y=x:=fun x e=>by rw[ey,bB e]
 simp only[evalOp] at n;split at n
 ·rename_i f fi ca d;refine uM hs p hd (fun j=>?_) n;have:=AG (w:=w) (args:=bf L ρ args) d m j;simp only[execOp,ho,resolve,hc,l];exact this
 ·split at n
  case h_2=>exact n.elim
  rename_i f ab d;unfold xW at d;split at d
  case h_2=>cases d
  rename_i t nm ca t' u h s b;split at d
  case h_2=>cases d
  rename_i ms hu;split at d
  case h_2=>cases d
  rename_i f' hm;injection d with d
  injection d with e1 e2
  subst e1 e2;refine uM hs p hd (fun j=>?_) n;have h0:(#[]++(bf L ρ args).toArray)[0]?=some (.iface t' u):=by rw[b];simp
  have hx:(#[]++(bf L ρ args).toArray).extract 1 (#[]++(bf L ρ args).toArray).size=h.toArray:=by rw[b];apply Array.ext';simp
  have:=jd (w:=w) (u:=u) (args:=h.toArray) hm j;simp only[execOp,ho,resolve,hc,l,m _ s,Deferred.ofValue,Sem.run_bind,Sem.run_pure,Result.andThen_ok,invoke];have aa:((⟨[]⟩:Array Value)++(bf L ρ args).toArray)[0]?=some (.iface t' u):=h0;simp only[aa,Sem.run_bind,run_underlying hu,Result.andThen_ok];have r:((⟨[]⟩:Array Value)++(bf L ρ args).toArray).extract 1 ((⟨[]⟩:Array Value)++(bf L ρ args).toArray).size=h.toArray:=hx;simp only[r,this];simp
theorem MG {n:Nat}{nm:String}{args:List X}{c:Call}(hs:St F L w) (r:aC L ρ a) (hd:∀k,o.dst=some k->k<a.tmps.size)
  (ho:o.op=.call c) (hc:c.callee=.invoke (.tmp n) nm) (ha:fN c.args.toList=some args) (h:evalOp P (.callV (.mt nm n) args) o.dst F L ρ K):o.wp P a w (aZ F L w a K) Q:=by
 have s:=eW ha r;have e:c.args.map a.eval=(bf L ρ args).toArray:=by apply Array.ext';simpa using s
 simp only[evalOp,ev] at h;split at h
 ·rename_i f fi ca d;refine uM hs r hd (fun l=>?_) h;cases m:ρ n with
  | own k off=>rw[m] at d;cases d
  | el b j=>rw[m] at d;cases d
  | v x =>
   rw[m] at d;have hx:a.eval (.tmp n)=x:=by
    have:=r.eq n;rw[m] at this;exact this
   simp only[Og,kY] at d;split at d
   case h_2=>cases d
   rename_i t u q;split at d
   case h_2=>cases d
   rename_i f' hm;injection d with d
   injection d with e1 e2
   injection e2 with e2 e3
   subst e1 e2 e3;have p:x=.iface t u:=by simpa using q
   subst p;have y:(#[Value.iface t u]++(bf L ρ args).toArray).extract 1 (#[Value.iface t u]++(bf L ρ args).toArray).size=(bf L ρ args).toArray:=by apply Array.ext';simp
   have h0:(#[Value.iface t u]++(bf L ρ args).toArray)[0]?=some (.iface t u):=by simp
   have:=jd (w:=w) (u:=u) (args:=(bf L ρ args).toArray) hm l;simp only[execOp,ho,resolve,hc,e,hx,Sem.run_bind,Sem.run_pure,Result.andThen_ok,invoke,h0,y,this];simp
 ·split at h
  case h_2=>exact h.elim
  rename_i f z d;exfalso
  revert d
  cases ρ n<;>simp[Og,xW,undef]
theorem MH {s t e:TypeId}{y:Operand}{y':X}(hs:St F L w) (he:aC L ρ a) (hd:∀k,o.dst=some k->k<a.tmps.size)
  (ho:o.op=.convert s t y) (j:P.underlying s=some .string) (h2:P.underlying t=some (.slice e)) (h3:P.underlying e=some (.int .u8)) (hy:bh y=some y') (r:evalOp P (.s2b e y') o.dst F L ρ K):o.wp P a w (aZ F L w a K) Q:=by
 have ey:=aG hy he;simp only[evalOp,aI] at r;split at r
 case h_2=>exact r.elim
 rename_i str ac
 let cap:=(Question.appendCap str.size 0 e).cut (w.tape w.drawn (.appendCap str.size 0 e))
 have n:str.size<=cap:=by simp only[cap,Question.cut];omega
 let cells:Array Value:=(str.data.map fun b=>Value.int .u8 b.toNat)++Array.replicate (cap-str.size) (.int .u8 0)
 have z:cells.size=cap:=by simp only[cells,Array.size_append,Array.size_map,Array.size_replicate];have:str.data.size=str.size:=rfl;omega
 let f:=w.drew.alloc (.cells cells e)
 let c:=f.freeze {block:=w.heap.size,off:=cap} 1
 have p:(execOp a.eval o).run P w=.ok (.value (.slice (some ⟨w.heap.size,0,none⟩) str.size cap)) c:=by
  have u:f.shape? w.heap.size=some (e,cap):=by
   have:f.heap[w.heap.size]?=some (.cells cells e):=fR w.drew _;simp only[World.shape?,this,z]
  simp[execOp,ho,ey,bB ac,convert,run_underlying j,run_underlying h2,run_underlying h3,Conv.stringToBytes,Question.forced,newRow,markStringish];rw[show(w.drew.alloc (.cells ((str.data.map fun b=>Value.int .u8 b.toNat)++Array.replicate ((Question.appendCap str.size 0 e).cut (w.tape w.drawn (.appendCap str.size 0 e))-str.size) (.int .u8 0)) e)).shape? w.heap.size=some (e,cap) from u];simp;exact⟨rfl,rfl⟩
 have q:∀b,b<w.heap.size->c.heap[b]?=w.heap[b]?:=by
  intro b hb;have j:f.heap[b]?=w.heap[b]?:=Below.heap_alloc w.drew _ b hb;simp only[c,World.freeze];simp only[Nat.one_ne_zero,XC,Array.getElem?_modify];rw[vv (by omega)];exact j
 have d:c.heap[w.heap.size]?=some (.cells cells e (cap,cap+1)):=by
  have j:f.heap[w.heap.size]?=some (.cells cells e (0,0)):=fR w.drew _;simp only[c,World.freeze,Nat.one_ne_zero,XC,Array.getElem?_modify,Xq,j];simp
 have m:St F L c:=hs.keep q;obtain⟨hf,aa⟩:=o8 hs;have ab:=m.freeze d aa;have l:=aA.Ww m d;refine fB he hd (x:=.v (.slice (some ⟨w.heap.size,0,none⟩) str.size cap)) p ab ⟨l,?_,?_,?_,?_,fun b hb _=>q b hb,?_,fun b h=>.inl h⟩ rfl bL dc (qi L) (r w.heap.size cap _ l ?_ n)
 ·simp only[c,World.freeze,Nat.one_ne_zero,XC];rfl
 ·simp only[c,World.freeze,Nat.one_ne_zero,XC];rfl
 ·simp only[c,World.freeze,Nat.one_ne_zero,XC];rfl
 ·simp only[c,World.freeze,Nat.one_ne_zero,XC,Array.size_modify];have:f.heap.size=w.heap.size+1:=by simp[f]
  omega
 ·intro b hb
  by_cases h:b=w.heap.size
  ·exact .inr (.inr (by omega))
  ·simp only[vv h] at hb;exact .inl hb
 ·refine⟨_,cells,e,_,rfl,j3 rfl,rfl,fun i v hv=>?_⟩;have hi:i<str.data.size:=by
   have:=(W5.1 hv).1;simpa using this
  simp only[cells,Nat.zero_add];rw[Array.getElem?_append_left (by simpa using hi)];refine⟨by simpa using hv,fun h=>?_⟩;have j:cap<=i:=by simpa using h.1
  have h2:str.size=str.data.size:=rfl;omega
theorem zi (w:World) (k r ty elem:TypeId) (g o c f:Nat) (s:ByteArray) (d:Array Value) (t:TypeId)
  (m:P.underlying k=some (.slice elem)) (l:(P.info? elem).map (·.size)=some 1)
  (q:w.heap[g]?=some (.cells d t (0,0))) (j:o+min s.size c<=d.size) :
  (Builtin.copy_ #[k,r] ty #[.slice (some ⟨g,o,none⟩) c f,.string s]).run P w =
   .ok (goInt (min s.size c:Nat)) (w.setRow g (aM d.toList o ((s.data.toList.take c).map fun b=>Value.int .u8 b.toNat)).toArray):=by
 have n:((s.data.toList.take c).map fun b=>Value.int .u8 b.toNat).length=min s.size c:=by
  rw[Xj,Xo,Nat.min_comm,Array.length_toList];rfl
 have h:=run_storeCells_at P g o t ((s.data.toList.take c).map fun b=>Value.int .u8 b.toNat) 0 d w q (by rw[n];simpa using j) (fun v x=>by
  obtain⟨b,_,rfl⟩:=Xz.1 x;rfl)
 rw[Nat.add_zero] at h;have u:List.take (s.size.min c) (List.map (fun b=>Value.int IntKind.u8 b.toNat) s.data.toList)=(s.data.toList.take c).map fun b=>Value.int .u8 b.toNat:=by
  have p:s.size=s.data.toList.length:=by simp
  rw[<-List.map_take,p];congr 1;rw[show Nat.min s.data.toList.length c=min s.data.toList.length c from rfl,Nat.min_comm,<-List.take_take,List.take_length]
 generalize(s.data.toList.take c).map (fun b=>Value.int .u8 b.toNat)=news at *;cases e:P.info? elem with
 | none=>simp[e] at l
 | some i =>
  have hi:i.size=1:=by simpa[e] using l
  simp[Builtin.copy_,run_underlying m,Builtin.lenOf,Builtin.firstCells,sizeOf,typeInfo,e,hi,u,h,aM]
theorem Dg {t t' e:TypeId}{y z:Operand}{y' z':X}{i:TypeInfo}{c:Call}(hs:St F L w) (he:aC L ρ a) (hd:∀k,o.dst=some k->k<a.tmps.size)
  (ho:o.op=.call c) (hc:c.callee=.builtin .copy) (ha:c.args=#[y,z]) (bt:c.argTypes=#[t,t']) (ht:P.underlying t=some (.slice e)) (hi:P.info? e=some i) (bk:i.size=1)
  (hy:bh y=some y') (hz:bh z=some z') (hK:evalOp P (.copy e i.size y' z') o.dst F L ρ K):o.wp P a w (aZ F L w a K) Q:=by
 have ey:=aG hy he;have ez:=aG hz he;rw[bk] at hK;simp only[evalOp] at hK;split at hK
 case h_3=>exact hK.elim
 case h_1 =>
  rename_i dv str an bb;obtain⟨k,n,v,s,xs,ad,cr,cd,j,hk,rfl,rfl,cX,hK⟩:=hK;have aw:(P.info? e).map (·.size)=some 1:=by rw[hi];simp[bk]
  have l:=hs.own k _ hk;simp only[Own.ok] at l;obtain⟨hx,l⟩:=l;rcases l with⟨e',_⟩ | ⟨g,cap,d,e',bs,hg,bl,bu,aa,p⟩
  ·cases e'
  injection e' with e1 e2 e3
  injection e1 with e1
  subst e1 e3;simp only[Nat.mul_one] at hx aa p;have hl:((str.data.toList.take n).map fun b=>Value.int .u8 b.toNat).length=min str.size n:=by
   rw[Xj,Xo,Nat.min_comm,Array.length_toList];rfl
  generalize bj:(str.data.toList.take n).map (fun b=>Value.int .u8 b.toNat)=news at hl hK;have ag:j+news.length<=s:=by rw[hl];omega
  have r:j+news.length<=d.size:=by omega
  have f:=lf w g (aM d.toList j news).toArray;have am:∀(ap:List Value) i' g' ty' cs',L.get i'=some (.box g' ty' cs')->∃ay,(L.set k (.row (.slice (some ⟨g,0,none⟩) s cr) e 1 s ap)).get i'=some (.box g' ty' ay):=by
   intro ap i' g' ty' cs' ej;rw[Loc.Wh,vv (by rintro rfl;rw[hk] at ej;cases ej)];exact⟨cs',ej⟩
  have ar:Own.ok (w.setRow g (aM d.toList j news).toArray) (.row (.slice (some ⟨g,0,none⟩) s cr) e 1 s (aM xs j news)):=by
   refine⟨?_,.inr ⟨g,cr,_,rfl,bs,setRow_heap w g d _ e _ hg,bl,bu,?_,?_⟩⟩
   ·rw[eO _ _ _ (by rw[hx];exact ag),hx,Nat.mul_one]
   ·have:(aM d.toList j news).length=d.size:=by rw[eO _ _ _ (by simpa using r)];simp
    simp[this,aa]
   ·rw[Nat.mul_one,List.toList_toArray,<-p];apply XF;intro q;have bv:j+news.length<=d.toList.length:=by simpa using r
    rw[gN (by rw[Xo];simp;omega)]
    by_cases hn:q<s
    ·rw[List.getElem?_take_of_lt hn,gN bv,List.getElem?_take_of_lt hn]
    ·rw[Xe (by simp;omega)];have h1:¬q<j:=by omega
     have h2:¬q<j+news.length:=by omega
     rw[vv h1,vv h2,Xe (by simp;omega)]
  have ao:St F (L.set k (.row (.slice (some ⟨g,0,none⟩) s cr) e 1 s (aM xs j news))) (w.setRow g (aM d.toList j news).toArray) :=
   hs.turn hk ar (fun b ae bz=>f.block b ae (fun e=>bz (by rw[e];rfl))) (fun g' az=>.inl az)
  refine fB he hd (v:=.int .i64 (min str.size n:Nat)) (x:=.v (.int .i64 (min str.size n:Nat))) ?_ ao ?_ rfl bL dc (am _) hK
  ·have co:(⟨g,0,none⟩:Addr).add j=⟨g,j,none⟩:=by rw[bU,Nat.zero_add]
   have:=zi (P:=P) w t t' o.type e g j n cd str d e ht aw hg (by rw[<-hl];exact r);rw[bj] at this;rw[co] at an;simp[execOp,ho,resolve,hc,ha,bt,invoke,builtin,ey,ez,bB an,bB bb,this,goInt]
  ·refine⟨aA.le_refl F,rfl,rfl,rfl,f.size,fun b ae hn=>f.block b ae (fun e=>hn ⟨k,_,hk,by rw[e];rfl⟩),fun b h=>.inl h,fun b h=>?_⟩;rcases Loc.Wq h with h | h
   ·exact .inl ⟨k,_,hk,h⟩
   ·exact .inl h
 rename_i dv xv _ an bb;have aw:(P.info? e).map (·.size)=some 1:=by rw[hi];simp[bk]
 obtain⟨⟨k,n,v,s,xs,ad,cr,cd,j,m,ax,cx,news,hk,rfl,rfl,cX,rfl,ab,cp,h1,hK⟩ | ⟨da,n,cd,ax,m,cx,rfl,rfl,h0,hK⟩⟩:=hK
 rotate_left
 ·have bd:∀v:Value,(execOp a.eval o).run P w=(do pure (.value (<-Builtin.copy_ #[t,t'] o.type #[.slice da n cd,.slice ax m cx])):Sem Next).run P w:=by
   intro v;simp[execOp,ho,resolve,hc,ha,bt,invoke,builtin,ey,ez,bB an,bB bb]
  refine bF hs he hd (v:=.int .i64 0) (x:=.v (.int .i64 0)) ?_ rfl bL dc hK;rw[bd undef];have:=run_copy_none (P:=P) w t t' o.type e da ax n cd m cx ht aw h0;simp[this,goInt]
 rw[Nat.mul_one] at ab;have l:=hs.own k _ hk;simp only[Own.ok] at l;obtain⟨hx,l⟩:=l;rcases l with⟨e',_⟩ | ⟨g,cap,d,e',bs,hg,bl,bu,aa,p⟩
 ·cases e'
 injection e' with e1 e2 e3
 injection e1 with e1
 subst e1 e3;simp only[Nat.mul_one] at hx aa p hK an;have am:∀(ap:List Value) i' g' ty' cs',L.get i'=some (.box g' ty' cs')->∃ay,(L.set k (.row (.slice (some ⟨g,0,none⟩) s cr) e 1 s ap)).get i'=some (.box g' ty' ay):=by
  intro ap i' g' ty' cs' ej;rw[Loc.Wh,vv (by rintro rfl;rw[hk] at ej;cases ej)];exact⟨cs',ej⟩
 have bd:∀v:Value,(execOp a.eval o).run P w=(do pure (.value (<-Builtin.copy_ #[t,t'] o.type #[.slice (some ((⟨g,0,none⟩:Addr).add j)) n cd,.slice ax m cx])):Sem Next).run P w:=by
  intro v;simp[execOp,ho,resolve,hc,ha,bt,invoke,builtin,ey,ez,bB an,bB bb]
 by_cases h0:min m n=0
 ·have:news=[]:=Xu (by rw[ab,h0]);subst this;have ch:aM xs j []=xs:=by simp[aM]
  rw[ch,h0] at hK;have ar:Own.ok w (.row (.slice (some ⟨g,0,none⟩) s cr) e 1 s xs):=by
   have:=hs.own k _ hk;exact this
  have ao:St F (L.set k (.row (.slice (some ⟨g,0,none⟩) s cr) e 1 s xs)) w:=hs.turn hk ar (fun _ _ _=>rfl) (fun g' az=>.inl az);refine fB he hd (v:=.int .i64 0) (x:=.v (.int .i64 0)) ?_ ao ?_ rfl bL dc (am xs) hK
  ·rw[bd undef];have:=run_copy_none (P:=P) w t t' o.type e (some ((⟨g,0,none⟩:Addr).add j)) ax n cd m cx ht aw h0;simp[this,goInt]
  ·refine⟨aA.le_refl F,rfl,rfl,rfl,Xn _,fun _ _ _=>rfl,fun b h=>.inl h,fun b h=>?_⟩;rcases Loc.Wq h with h | h
   ·exact .inl ⟨k,_,hk,h⟩
   ·exact .inl h
 ·have hF:bN F ax 0 news:=cp.resolve_right fun h=>h0 h.1;obtain⟨cf,rfl,_,dg⟩:=hF.cell hs;have ba:∀j v,news[j]?=some v->w.cell? (cf.add j)=some v:=fun j' u hu=>by
   have:=dg j' u hu
   rwa [Nat.zero_add] at this
  have ag:j+news.length<=s:=by rw[ab];omega
  have r:j+news.length<=d.size:=by omega
  have f:=lf w g (aM d.toList j news).toArray;have ar:Own.ok (w.setRow g (aM d.toList j news).toArray) (.row (.slice (some ⟨g,0,none⟩) s cr) e 1 s (aM xs j news)):=by
   refine⟨?_,.inr ⟨g,cr,_,rfl,bs,setRow_heap w g d _ e _ hg,bl,bu,?_,?_⟩⟩
   ·rw[eO _ _ _ (by rw[hx];exact ag),hx,Nat.mul_one]
   ·have:(aM d.toList j news).length=d.size:=by rw[eO _ _ _ (by simpa using r)];simp
    simp[this,aa]
   ·rw[Nat.mul_one,List.toList_toArray,<-p];apply XF;intro q;have bv:j+news.length<=d.toList.length:=by simpa using r
    rw[gN (by rw[Xo];simp;omega)]
    by_cases hn:q<s
    ·rw[List.getElem?_take_of_lt hn,gN bv,List.getElem?_take_of_lt hn]
    ·rw[Xe (by simp;omega)];have h1:¬q<j:=by omega
     have h2:¬q<j+news.length:=by omega
     rw[vv h1,vv h2,Xe (by simp;omega)]
  have ao:St F (L.set k (.row (.slice (some ⟨g,0,none⟩) s cr) e 1 s (aM xs j news))) (w.setRow g (aM d.toList j news).toArray) :=
   hs.turn hk ar (fun b ae bz=>f.block b ae (fun e=>bz (by rw[e];rfl))) (fun g' az=>.inl az)
  refine fB he hd (v:=.int .i64 (min m n:Nat)) (x:=.v (.int .i64 (min m n:Nat))) ?_ ao ?_ rfl bL dc (am _) hK
  ·rw[bd undef,bU,Nat.zero_add];have:=run_copy_row P w t t' o.type e g j n cd cf m cx d e news ht aw hg ab ba r h1;have cM:(d.toList.take j++news++d.toList.drop (j+news.length)).toArray=(aM d.toList j news).toArray:=rfl;rw[cM] at this;simp[this,goInt,ab]
  ·refine⟨aA.le_refl F,rfl,rfl,rfl,f.size,fun b ae hn=>f.block b ae (fun e=>hn ⟨k,_,hk,by rw[e];rfl⟩),fun b h=>.inl h,fun b h=>?_⟩;rcases Loc.Wq h with h | h
   ·exact .inl ⟨k,_,hk,h⟩
   ·exact .inl h
end
open Go.ChangeMaps (setBlock)
theorem ye {cs:List Value}(h:mI cs=true):gL cs=.map (aY cs 0).toArray cs.length:=by
 unfold gL;split
 ·simp[mI] at h
 ·rfl
theorem tU:∀{cs:List Value}{i:Nat},(aY cs i).length=cs.length
 | [],_=>rfl
 | c::cs,i=>by simp[aY,tU (cs:=cs)]
theorem lR:∀(v:Value) (i:Nat),(fQ v i).born=i:=by
 intro v i;unfold fQ;split<;>rfl
theorem py:∀{cs:List Value}{i j:Nat},(aY cs i)[j]?=(cs[j]?).map fun v=>fQ v (i+j)
 | [],_,_=>by simp[aY]
 | c::cs,i,0=>by simp[aY]
 | c::cs,i,j+1=>by
  simp only[aY,XM,py (cs:=cs)];rw[show i+1+j=i+(j+1) by omega]
def kindOf:Bool->TypeDesc
 | false=>.int .i64
 | true=>.string
theorem Dh (s t:ByteArray):(s == t)=decide (s.data.toList=t.data.toList):=by
 have:(s == t)=(s.data == t.data):=rfl;rw[this,Bool.eq_iff_iff];simp[Array.toList_inj]
theorem vC {str:Bool}{a b:Value}{r:Bool}(h:fj str a b=some r):Instr.sameNow (kindOf str) a b=some r:=by
 unfold fj at h;split at h
 ·injection h with h;subst h;simp[kindOf,Instr.sameNow,beq_dec']
 ·injection h with h
  subst h;rename_i s t;simp only[kindOf,Instr.sameNow,Dh]
 ·cases h
where beq_dec':∀{a b:Int},(a == b)=decide (a=b):=by intro a b;rw[Bool.eq_iff_iff];simp
theorem I8 {str:Bool}{a b:Value}(h:fj str a b=some true):a=b:=by
 unfold fj at h;split at h
 ·simp only[WY,XQ] at h;rw[h]
 ·simp only[WY,XQ] at h;rename_i s t;cases s;cases t;simp only[Value.string.injEq,ByteArray.mk.injEq];exact Array.ext' h
 ·cases h
theorem I9 {str:Bool}{a b:Value}{r:Bool}(h:fj str a b=some r):∀n,Instr.sameBits n a a=true:=by
 intro n;unfold fj at h;split at h
 ·cases n<;>simp[Instr.sameBits]
 ·cases n<;>simp[Instr.sameBits,Dh]
 ·cases h
theorem nA {str:Bool}{key:Value}:∀{cs:List Value}{i:Nat}{o:Option (Nat×Value)},lM str key cs i=some o->Instr.findNow (kindOf str) key (aY cs i) i=some o
 | [],i,o,h=>by simp only[lM] at h;simpa[aY,Instr.findNow] using h
 | c::cs,i,o,h=>by
  unfold lM at h;split at h
  ·rename_i b;cases b
  ·rename_i k v l j b;injection b with e1 e2
   subst e1 e2;simp only[aY,fQ,Instr.findNow];split at h
   ·rename_i d;rw[vC d];exact h
   ·rename_i d;rw[vC d];exact nA h
   ·cases h
  ·cases h
theorem yg {str:Bool}{key val:Value}(m:fj str key key=some true):∀{cs cs':List Value}{i:Nat},vg str key val cs=some cs' ->
  (∃j v,lM str key cs i=some (some (i+j,v))/\j<cs.length/\((aY cs i)[j]?.map (·.key))=some key/\aY cs' i=(aY cs i).modify j (fun e=>{e with key:=key,val:=val})/\cs'.length=cs.length) \/
  (lM str key cs i=some none/\cs'=cs++[.agg #[key,val]])
 | [],cs',i,h=>by
  simp only[vg,WY] at h;subst h;exact .inr ⟨rfl,rfl⟩
 | c::cs,cs',i,h=>by
  unfold vg at h;split at h
  ·rename_i b;cases b
  ·rename_i k v l b;injection b with e1 e2
   subst e1 e2;split at h
   ·rename_i d;injection h with h
    subst h;refine .inl ⟨0,v,by simp only[lM,d,Nat.add_zero],by simp,?_,?_,rfl⟩
    ·simp[aY,fQ,(I8 d).symm]
    ·simp[aY,fQ]
   ·rename_i d;split at h
    case h_2=>cases h
    rename_i t p;injection h with h
    subst h;rcases yg m (i:=i+1) p with⟨j,u,f,n,r,q,s⟩ | ⟨f,n⟩
    ·refine .inl ⟨j+1,u,?_,by simp;omega,by simpa[aY] using r,by simp[aY,q],by simp[s]⟩;simp only[lM,d];rw[f,show i+1+j=i+(j+1) by omega]
    ·refine .inr ⟨?_,by rw[n];rfl⟩;simp only[lM,d];exact f
   ·cases h
  ·cases h
theorem Cj {str:Bool}{key val:Value}{cs cs':List Value}(h:vg str key val cs=some cs'):mI cs'=true:=by
 unfold vg at h;split at h
 ·injection h with h;subst h;rfl
 ·split at h
  ·injection h with h;subst h;rfl
  ·split at h
   ·injection h with h;subst h;rfl
   ·cases h
  ·cases h
 ·cases h
section
variable {P:Program}{F:aA}{L:Loc}{ρ:Env}{a:Act}{w:World}{K:cE}{o:Oper}{Q:Exit->Act->World->Prop}
theorem sS (d:St F L w) {k g:Nat}{cs:List Value}(b:L.get k=some (.box g 0 cs)) (c:mI cs=true):w.heap[g]?=some (.map (aY cs 0).toArray cs.length):=by
 have h:=d.own k _ b;simp only[Own.ok,kO] at h;rw[ye c] at h;exact h
theorem Ja {str:Bool}{key:TypeId}{kv:Value}(b:P.underlying key=some (kindOf str)) (c:fj str kv kv=some true) (e:Bool):(Instr.checkKey e 10000 key kv).run P w=.ok () w:=by
 rw[show(10000:Nat)=9999+1 from rfl,Instr.checkKey];simp only[Sem.run_bind,run_underlying b,Result.andThen_ok];cases str<;>simp[kindOf,Sem.run_pure]
theorem Ck {str:Bool}{key:TypeId}{kv:Value}(b:P.underlying key=some (kindOf str)) (e:Bool):(Instr.checkKey e 10000 key kv).run P w=.ok () w:=by
 rw[show(10000:Nat)=9999+1 from rfl,Instr.checkKey];simp only[Sem.run_bind,run_underlying b,Result.andThen_ok];cases str<;>simp[kindOf,Sem.run_pure]
theorem rS {str:Bool}{key:TypeId}{kv:Value}{es:List MapEntry}{o:Option (Nat×Value)}(b:P.underlying key=some (kindOf str)) (h:Instr.findNow (kindOf str) kv es 0=some o):(Instr.findKey key kv es).run P w=.ok o w:=by
 simp only[Instr.findKey,Sem.run_bind,run_underlying b,Result.andThen_ok,h,Sem.run_pure]
theorem Gh {t:TypeId}(n:St F L w) (h:aC L ρ a) (p:∀k,o.dst=some k->k<a.tmps.size) (j:o.op=.makeMap t none)
  (b:evalOp P .mkmap o.dst F L ρ K):o.wp P a w (aZ F L w a K) Q:=by
 simp only[evalOp] at b;split at b
 case h_2=>exact b.elim
 rename_i _ k c;split at b
 case h_2=>exact b.elim
 rename_i _ d;have b:=b w.heap.size;obtain⟨l,f,m⟩:=lO n d (ob:=.map #[] 0) (e:=.box w.heap.size 0 []) rfl (by show _=_;rw[fR];rfl);refine fB h p (v:=.map (some w.heap.size)) (x:=.v (.map (some w.heap.size))) ?_ l f rfl bL dc m b;simp[execOp,j,run_makeMap]
theorem AH {str ok:Bool}{t key e:TypeId}{y z:Operand}{u l:X}{j:TypeInfo}{zv:Value}(s:St F L w) (h:aC L ρ a) (x:∀k,o.dst=some k->k<a.tmps.size)
  (ho:o.op=.lookup t y z ok) (ht:P.underlying t=some (.map key e)) (b:P.underlying key=some (kindOf str)) (hi:P.info? e=some j) (hz:j.zero=some zv) (hy:bh y=some u) (n:bh z=some l)
  (c:evalOp P (.mlook str ok zv u l) o.dst F L ρ K):o.wp P a w (aZ F L w a K) Q:=by
 have ey:=aG hy h;have ez:=aG n h;simp only[evalOp,aI] at c;split at c
 case h_2=>exact c.elim
 rename_i g hm;obtain⟨k,cs,hk,q,c⟩:=c;have hg:=sS s hk q;have d:(getObj g).run P w=.ok (.map (aY cs 0).toArray cs.length) w:=by simp[getObj,Sem.run,hg]
 have f:=Ck (w:=w) (kv:=val L ρ l) b (aY cs 0).toArray.isEmpty;rcases c.out with⟨i,v,m,r⟩ | ⟨m,r⟩
 ·have p:=rS (P:=P) (w:=w) b (nA m);refine bF s h x ?_ rfl bL dc r;simp only[execOp,ho,ey,ez,bB hm,Instr.lookup,Sem.run_bind,run_underlying ht,Result.andThen_ok,d,Sem.run_pure,f,p];cases ok<;>simp[Sem.run_pure,conc]
 ·have p:=rS (P:=P) (w:=w) b (nA m);refine bF s h x ?_ rfl bL dc r;simp only[execOp,ho,ey,ez,bB hm,Instr.lookup,Sem.run_bind,run_underlying ht,Result.andThen_ok,d,Sem.run_pure,f,p];cases ok<;>simp[Sem.run_pure,zeroValue,typeInfo,run_program,hi,hz,conc]
theorem Jb {t key e:TypeId}{y:Operand}{j:X}{c:Call}(m:St F L w) (l:aC L ρ a) (n:∀k,o.dst=some k->k<a.tmps.size)
  (z:o.op=.call c) (hc:c.callee=.builtin .len) (r:c.args=#[y]) (f:c.argTypes=#[t]) (p:P.underlying t=some (.map key e)) (u:bh y=some j)
  (b:evalOp P (.mlen j) o.dst F L ρ K):o.wp P a w (aZ F L w a K) Q:=by
 have s:=aG u l;simp only[evalOp,aI] at b;split at b
 case h_2=>exact b.elim
 rename_i g hm;obtain⟨k,cs,q,h,b⟩:=b;have hg:=sS m q h;have d:(getObj g).run P w=.ok (.map (aY cs 0).toArray cs.length) w:=by simp[getObj,Sem.run,hg]
 refine bF m l n (v:=.int .i64 cs.length) (x:=.v (.int .i64 cs.length)) ?_ rfl bL dc b;simp[execOp,z,resolve,hc,r,f,invoke,builtin,Builtin.len_,s,bB hm,run_underlying p,goInt,d,tU]
theorem Di (r:St F L w) {k g:Nat}{cs cs':List Value}(d:L.get k=some (.box g 0 cs)):St F (L.set k (.box g 0 cs')) (setBlock w g (gL cs'))/\Step F L w F (L.set k (.box g 0 cs')) (setBlock w g (gL cs')) /\
  (∀j f ty xs,L.get j=some (.box f ty xs)->∃m,(L.set k (.box g 0 cs')).get j=some (.box f ty m)):=by
 have n:g<w.heap.size:=Own.Wv (r.own k _ d) rfl;have c:∀b,b≠g->(setBlock w g (gL cs')).heap[b]?=w.heap[b]?:=fun b hb=>by
  show(w.heap.setIfInBounds g (gL cs'))[b]?=_;rw[Array.getElem?_setIfInBounds,vv (fun e=>hb e.symm)]
 have p:w.heap.size<=(setBlock w g (gL cs')).heap.size:=by show _<=(w.heap.setIfInBounds g (gL cs')).size;simp
 refine⟨r.turn d ?_ (fun b hb l=>c b fun e=>l (by rw[e];rfl)) (fun f q=>.inl q),⟨aA.le_refl F,rfl,rfl,rfl,p,fun b hb s=>c b fun e=>s ⟨k,_,d,by rw[e];rfl⟩,fun b h=>.inl h,fun b h=>?_⟩,fun j f ty xs e=>?_⟩
 ·show(w.heap.setIfInBounds g (gL cs'))[g]?=_;rw[Array.getElem?_setIfInBounds,j3 rfl,j3 n];rfl
 ·rcases Loc.Wq h with h | h
  ·exact .inl ⟨k,_,d,h⟩
  ·exact .inl h
 ·rw[Loc.Wh];split
  ·rename_i t;subst t;rw[d] at e;injection e with e
   injection e with e1 e2 e3
   subst e1 e2;exact⟨_,rfl⟩
  ·exact⟨xs,e⟩
theorem xC {str:Bool}{t key e:TypeId}{g:Nat}{kv p:Value}{cs cs':List Value}(s:P.underlying t=some (.map key e)) (b:P.underlying key=some (kindOf str))
  (u:w.heap[g]?=some (.map (aY cs 0).toArray cs.length)) (d:fj str kv kv=some true) (h:vg str kv p cs=some cs') :
  (Instr.mapUpdate t (.map (some g)) kv p).run P w=.ok () (setBlock w g (gL cs')):=by
 have m:(getObj g).run P w=.ok (.map (aY cs 0).toArray cs.length) w:=by simp[getObj,Sem.run,u]
 have f:∀o',(setObj g o').run P w=.ok () (setBlock w g o'):=fun o'=>by simp[setObj,Sem.run,u,setBlock]
 have n:=Ja (P:=P) (w:=w) (str:=str) (kv:=kv) b d false;rw[ye (Cj h)];rcases yg d (i:=0) h with⟨j,v,q,x,z,y,h5⟩ | ⟨q,x⟩
 ·have r:=rS (P:=P) (w:=w) b (nA q);have k:(((aY cs 0).toArray[0+j]?).map (·.key)).getD kv=kv:=by
   rw[Nat.zero_add];simp only[List.getElem?_toArray];rw[z];rfl
  simp only[Instr.mapUpdate,Sem.run_bind,run_underlying s,Result.andThen_ok,m,n,r,k,Instr.keyThatStays,I9 d,Xq,Sem.run_pure,f];rw[y,h5,Nat.zero_add];congr 3;apply Array.ext';simp
 ·have r:=rS (P:=P) (w:=w) b (nA q);simp only[Instr.mapUpdate,Sem.run_bind,run_underlying s,Result.andThen_ok,m,n,r,f];subst x;congr 3
  ·apply Array.ext';have:∀(l:List Value) (i:Nat),aY (l++[.agg #[kv,p]]) i=aY l i++[{key:=kv,val:=p,born:=i+l.length}]:=by
    intro l
    induction l with
    | nil=>intro i;simp[aY,fQ]
    | cons c l ih=>intro i;simp only[Xk,aY,ih,Xl];rw[show i+1+l.length=i+(l.length+1) by omega]
   simp[this]
  ·simp
theorem uN {str:Bool}{t key e:TypeId}{y z u:Operand}{n m q:X}(r:St F L w) (f:aC L ρ a) (x:∀k,o.dst=some k->k<a.tmps.size)
  (d:o.op=.mapUpdate t y z u\/o.op=.insert t y z u) (ht:P.underlying t=some (.map key e)) (h:P.underlying key=some (kindOf str)) (hy:bh y=some n) (hz:bh z=some m) (v:bh u=some q)
  (b:evalOp P (.mupd str n m q) o.dst F L ρ K):o.wp P a w (aZ F L w a K) Q:=by
 have ey:=aG hy f;have ez:=aG hz f;have eu:=aG v f;simp only[evalOp] at b;split at b
 case h_2=>exact b.elim
 rename_i g hm;obtain⟨k,cs,p,j,b⟩:=b;obtain⟨l,cs',c,b⟩:=b;have hg:=sS r p j;obtain⟨h1,h2,h3⟩:=Di r p (cs':=cs');refine rP f x (w':=setBlock w g (gL cs')) ?_ h1 h2 h3 b;have s:=xC (w:=w) ht h hg l c;rcases d with d | d<;>simp[execOp,d,ey,ez,eu,bB hm,s]
theorem ED {t key e:TypeId}{y:Operand}{h:X}(m:St F L w) (l:aC L ρ a) (n:∀k,o.dst=some k->k<a.tmps.size)
  (z:o.op=.range t y) (p:P.underlying t=some (.map key e)) (u:bh y=some h) (b:evalOp P (.mrange h) o.dst F L ρ K):o.wp P a w (aZ F L w a K) Q:=by
 have r:=aG u l;simp only[evalOp] at b;split at b
 case h_2=>exact b.elim
 rename_i _ g k hm j;split at b
 case h_2=>exact b.elim
 rename_i _ q;obtain⟨km,cs,c,f,b⟩:=b;have hg:=sS m c f;have d:(getObj g).run P w=.ok (.map (aY cs 0).toArray cs.length) w:=by simp[getObj,Sem.run,hg]
 have b:=b w.heap.size;obtain⟨s,h2,h3⟩:=lO m q (ob:=.mapIter (some g) cs.length #[] cs.length) (e:=.box w.heap.size 0 [.tuple #[.map (some g),.int .i64 cs.length]]) rfl (by show _=_;rw[fR];simp[kO,gL]);refine fB l n (v:=.pointer (some ⟨w.heap.size,0,none⟩)) (x:=.own k 0) ?_ s h2 ?_ ?_ (fun _ _ e=>by cases e) h3 b
 ·simp[execOp,z,Instr.range,r,bB hm,run_underlying p,d]
 ·simp only[conc,Loc.Wh,Xq]
 ·rintro k' off e;injection e with e1 e2
  subst e1;exact⟨_,_,_,by rw[Loc.Wh,j3 rfl]⟩
theorem Gi {y:Operand}{y':X}(hs:St F L w) (he:aC L ρ a) (hd:∀k,o.dst=some k->k<a.tmps.size)
  (ho:o.op=.next y false) (hy:bh y=some y') (r:evalOp P (.mnext y') o.dst F L ρ K):o.wp P a w (aZ F L w a K) Q:=by
 have ey:=aG hy he;simp only[evalOp] at r;split at r
 case h_2=>exact r.elim
 rename_i k hm;split at r
 case h_2=>exact r.elim
 rename_i gi g n b hk;obtain⟨km,cs,al,aw,t,q,s⟩:=r.out;have hg:=sS hs al aw;have ap:w.heap[gi]?=some (.mapIter (some g) n (b.map iN).toArray n):=by
  have h:=hs.own k _ hk;simp only[Own.ok,kO,gL] at h;exact h
 have ab:a.eval y=.pointer (some ⟨gi,0,none⟩):=by rw[ey];simp only[val,hm,conc,hk]
 have u:∀x∈(aY cs 0).toArray.toList,x.born<n:=by
  intro x hx;simp only[List.toList_toArray] at hx;obtain⟨j,d⟩:=Xr.1 hx;rw[py] at d;cases m:cs[j]? with
  | none=>rw[m] at d;cases d
  | some v =>
   rw[m] at d;simp only[XU,WY] at d;rw[<-d,lR];have:=(W5.1 m).1;omega
 rcases run_next_at (P:=P) w o.type gi g n n (b.map iN).toArray (aY cs 0).toArray cs.length ap hg u (Xn _) with⟨h0,f⟩ | ⟨e,l,w1,ac,f⟩
 ·refine bF hs he hd (v:=.tuple #[.bool false]) (x:=.v (.tuple #[.bool false])) ?_ rfl bL dc (s fun j d=>?_)
  ·simp only[execOp,ho,ab,Sem.run_bind,f,Result.andThen_ok,Sem.run_pure]
  ·have m:∃v,cs[j]?=some v:=⟨cs[j]'(by omega),WZ (by omega)⟩;obtain⟨v,m⟩:=m;have ay:(aY cs 0)[j]?=some (fQ v (0+j)):=by rw[py,m];rfl
   have p:fQ v (0+j)∈aY cs 0:=W9 ay;apply Classical.byContradiction;intro c;have h1:fQ v (0+j)∈(leftOf (aY cs 0).toArray (b.map iN).toArray).toList:=by
    unfold leftOf;simp only[Array.toList_filter,List.mem_filter,p,true_and];rw[lR];simpa using c
   have h2:(leftOf (aY cs 0).toArray (b.map iN).toArray)=#[]:=Array.eq_empty_of_size_eq_zero h0;rw[h2] at h1;cases h1
 ·unfold leftOf at l;simp only[Array.toList_filter,List.mem_filter] at l;obtain⟨p,c⟩:=l;obtain⟨j,d⟩:=Xr.1 p;rw[py] at d;cases m:cs[j]? with
  | none=>rw[m] at d;cases d
  | some v =>
   rw[m] at d;simp only[XU,WY,Nat.zero_add] at d;subst d;rw[lR] at f c;have ar:j∉b.map iN:=by simpa using c
   have am:=q j v m ar;have ag:St F L w1:=by rcases ac with rfl | rfl;exact hs;exact hs.drew
   obtain⟨h1,h2,h3⟩:=Di ag hk (cs':=.tuple #[.map (some g),.int .i64 n]::(b++[.int .i64 j]));have an:Step F L w F L w1:=by
    rcases ac with rfl | rfl
    ·exact Step.refl _ _ _
    ·exact⟨aA.le_refl F,rfl,rfl,rfl,Xn _,fun _ _ _=>rfl,fun _ h=>.inl h,fun _ h=>.inl h⟩
   have z:gL (.tuple #[.map (some g),.int .i64 n]::(b++[.int .i64 j]))=.mapIter (some g) n ((b.map iN).toArray.push j) cs.length:=by
    simp[gL,iN,t]
   rw[z] at h1 h2;refine fB he hd (v:=.tuple #[.bool true,(fQ v j).key,(fQ v j).val]) (x:=.v (.tuple #[.bool true,(fQ v j).key,(fQ v j).val])) ?_ h1 (an.trans h2) rfl bL dc h3 am;simp only[execOp,ho,ab,Sem.run_bind,f,Result.andThen_ok,Sem.run_pure]
theorem EF {y:Operand}{y':X}(hs:St F L w) (he:aC L ρ a) (hd:∀k,o.dst=some k->k<a.tmps.size)
  (ho:o.op=.entry y) (hy:bh y=some y') (p:evalOp P (.mentry y') o.dst F L ρ K):o.wp P a w (aZ F L w a K) Q:=by
 have ey:=aG hy he;simp only[evalOp] at p;split at p
 case h_2=>exact p.elim
 rename_i k hm;split at p
 case h_2=>exact p.elim
 rename_i gi g n d hk;obtain⟨km,cs,j,e,aa,ag,q,b,hj,ab⟩:=p.out;have hg:=sS hs aa ag;have s:w.heap[gi]?=some (.mapIter (some g) n (d.map iN).toArray n):=by
  have h:=hs.own k _ hk;simp only[Own.ok,kO,gL] at h;exact h
 have ad:a.eval y=.pointer (some ⟨gi,0,none⟩):=by rw[ey];simp only[val,hm,conc,hk]
 have m:∃l,d=l++[.int .i64 (.ofNat j)]:=by
  have t:d≠[]:=by rintro rfl;simp at b
  refine⟨d.dropLast,?_⟩;rw[List.getLast?_eq_some_getLast t] at b;injection b with b
  rw[<-b];exact(List.dropLast_concat_getLast t).symm
 obtain⟨l,rfl⟩:=m;have z:(aY cs 0)[j]?=some (fQ e j):=by rw[py,hj];simp
 have f:(fQ e j).born=j:=lR e j;have ac:((aY cs 0).toArray.toList.map (·.born)).Nodup:=by
  have:∀(cs:List Value) (i:Nat),(aY cs i).map (·.born)=List.range' i cs.length:=by
   intro cs
   induction cs with
   | nil=>intro i;rfl
   | cons c cs ih=>intro i;simp[aY,lR,ih,List.range'_succ]
  simp only[List.toList_toArray,this];exact List.nodup_range' ..
 have r:((l++[Value.int .i64 (.ofNat j)]).map iN).toArray=(l.map iN).toArray.push (fQ e j).born:=by
  rw[f];simp[iN]
 rw[r,<-q] at s;have u:=run_entry_at (P:=P) w gi g cs.length (l.map iN).toArray (aY cs 0).toArray cs.length (fQ e j) s hg (by simpa using W9 z) ac;refine bF hs he hd (v:=.tuple #[(fQ e j).key,(fQ e j).val]) (x:=.v (.tuple #[(fQ e j).key,(fQ e j).val])) ?_ rfl bL dc ab;simp only[execOp,ho,ad,Sem.run_bind,u,Result.andThen_ok,Sem.run_pure]
end
section
variable {P:Program}{F:aA}{L:Loc}{ρ:Env}{a:Act}{w:World}{K:cE}{o:Oper}{Q:Exit->Act->World->Prop}
theorem Cl {zs:List Value}{l:List (Nat×Nat×X)}(h:(l.all fun p=>Nat.ble (p.1+p.2.1) zs.length)=true):∀off n x,(off,n,x)∈l->off+n<=zs.length:=by
 intro off n x b;have:=Xf.1 h _ b;exact Xh this
set_option maxHeartbeats 1000000 in
theorem eD {own:Bool}{s:dS}(hs:St F L w) (he:aC L ρ a) (hd:∀k,o.dst=some k->k<a.tmps.size) (j:gM P own o.op=some s)
  (q:evalOp P s o.dst F L ρ K):o.wp P a w (aZ F L w a K) Q:=by
 cases ho:o.op<;>rw[ho] at j<;>simp only[gM] at j<;>try (cases j;done)
 case move y =>
  split at j
  case h_2=>cases j
  rename_i x hx;injection j with j;subst j
  exact FW hs he hd (.inl ho) hx q
 case assign y =>
  split at j
  case h_2=>cases j
  rename_i x hx;injection j with j;subst j
  exact FW hs he hd (.inr ho) hx q
 case pick c y z =>
  split at j
  case h_2=>cases j
  rename_i l m p;injection j with j;subst j
  exact IB hs he hd ho l m p q
 case box t y =>
  split at j
  case h_2=>cases j
  rename_i l ap;have ap:=XI ap;injection j with j
  cases own
  ·subst j;exact Mr hs he hd ho l ap q
  ·subst j;exact IG hs he hd ho l q
 case alloc t =>
  split at j
  case h_2=>cases j
  rename_i l ap;have ap:=XI ap;split at j
  case h_2=>cases j
  rename_i m;injection j with j;subst j
  exact FX hs he hd ho l m ap q
 case buildSlice t n ps =>
  split at j
  case h_2=>cases j
  rename_i l m;split at j
  case h_2=>cases j
  rename_i p;split at j
  case h_2=>cases j
  rename_i h4 h5 h6;have h4:=Xm h4;have h5:=Xm h5;injection j with j
  cases own
  ·subst j;exact Ms hs he hd ho l p h6 m h4 h5.1 q
  ·subst j;exact Mt hs he hd ho l p h6 m h4 h5.1 h5.2 q
 case build t ps =>
  split at j
  case h_2=>cases j
  rename_i l m;split at j
  case h_2=>cases j
  rename_i p h4;split at j
  case h_2=>cases j
  rename_i h5 h6;injection j with j;subst j
  exact FY hs he hd ho l m p h4 (fun f hf=>Xf.1 h5 f hf) (Cl h6) q
 case load t y =>
  split at j
  ·rename_i d i x l m p;injection j with j
   refine II (d:=d) (i:=i) (n:=match dh d with | true=>i.size | false=>1) hs he hd ho l m p rfl ?_;cases az:dh d<;>simp only[az] at j ⊢<;>subst j<;>exact q
  ·rename_i l m p;cases y with
   | global g =>
    simp only[xX] at j;split at j
    ·rename_i h4;injection j with j;subst j
     exact AB hs he hd ho l m rfl h4 q
    ·cases j
   | tmp n=>cases j
   | const v=>cases j
   | func f=>cases j
  ·rename_i l m p;split at j
   case h_2=>injection j with j;subst j;exact False.elim q
   rename_i h4;injection j with j;subst j
   cases y with
   | global g =>
    simp only[xX] at h4;split at h4
    ·rename_i h5;injection h4 with h4;subst h4
     exact AB hs he hd ho l m rfl h5 q
    ·cases h4
   | tmp n=>cases h4
   | const v=>cases h4
   | func f=>cases h4
  ·injection j with j;subst j
   exact False.elim q
  ·cases j
 case lookup t y z ok =>
  split at j
  ·split at j
   case h_2=>cases j
   rename_i l m p;split at j
   case h_2=>cases j
   rename_i h4 h5;split at j
   case h_2=>cases j
   rename_i h6;injection j with j;subst j
   exact I0 hs he hd ho l h4 h5 h6 m p q
  ·split at j
   case h_2=>cases j
   rename_i l m p;split at j
   case h_3=>cases j
   ·rename_i h4 h5;split at j
    case h_2=>cases j
    rename_i h6;injection j with j;subst j
    exact AH (str:=false) hs he hd ho l h4 h5 h6 m p q
   ·rename_i h4 h5;split at j
    case h_2=>cases j
    rename_i h6;injection j with j;subst j
    exact AH (str:=true) hs he hd ho l h4 h5 h6 m p q
 case makeMap t r =>
  cases r with
  | none =>
   simp only[gM,WY] at j;subst j;exact Gh hs he hd ho q
  | some r=>simp only[gM] at j;cases j
 case mapUpdate t y z u =>
  split at j
  case h_2=>cases j
  rename_i l m p h4;split at j
  case h_3=>cases j
  ·rename_i h5;injection j with j;subst j
   exact uN (str:=false) hs he hd (.inl ho) l h5 m p h4 q
  ·rename_i h5;injection j with j;subst j
   exact uN (str:=true) hs he hd (.inl ho) l h5 m p h4 q
 case insert t y z u =>
  split at j
  case h_2=>cases j
  rename_i l m p h4;split at j
  case h_3=>cases j
  ·rename_i h5;injection j with j;subst j
   exact uN (str:=false) hs he hd (.inr ho) l h5 m p h4 q
  ·rename_i h5;injection j with j;subst j
   exact uN (str:=true) hs he hd (.inr ho) l h5 m p h4 q
 case range t y =>
  split at j
  case h_2=>cases j
  rename_i l m;injection j with j;subst j
  exact ED hs he hd ho l m q
 case entry y =>
  split at j
  case h_2=>cases j
  rename_i l;injection j with j;subst j
  exact EF hs he hd ho l q
 case next y b =>
  cases b with
  | true=>simp only[gM] at j;cases j
  | false =>
   simp only[gM] at j;split at j
   case h_2=>cases j
   rename_i l;injection j with j;subst j
   exact Gi hs he hd ho l q
 case store t y z =>
  split at j
  case h_2=>cases j
  rename_i l m p;injection j with j;subst j
  exact Ge hs he hd ho l m p q
 case makeInterface t y =>
  split at j
  ·cases j
  ·rename_i d x l m p;injection j with j;subst j
   exact IX hs he hd ho m l p q
  ·cases j
 case typeAssert y xt t ok =>
  cases ok with
  | false=>cases j
  | true =>
   simp only[] at j;split at j
   ·cases j
   ·rename_i d i x h4 l m p;split at j
    case h_2=>cases j
    rename_i h5;injection j with j;subst j
    exact MD hs he hd ho l h4 m h5 p q
   ·cases j
 case panic y =>
  split at j
  case h_2=>cases j
  injection j with j;subst j
  exact q.elim
 case nilCheck y =>
  split at j
  case h_2=>cases j
  rename_i l m;injection j with j;subst j
  exact Gd hs he hd ho l m q
 case binOp op t y z t' =>
  split at j
  case h_2=>cases j
  rename_i d x1 x2 l m p;split at j<;>first
   | (cases j;done)
   | (injection j with j;subst j;first
     | exact FZ (neg:=false) hs he hd ho l m p q
     | exact FZ (neg:=true) hs he hd ho l m p q
     | exact F5 (neg:=false) hs he hd ho l m p q
     | exact F5 (neg:=true) hs he hd ho l m p q
     | exact F7 (neg:=false) hs he hd ho l m p q
     | exact F7 (neg:=true) hs he hd ho l m p q
     | exact F8 (neg:=false) hs he hd ho l m p q
     | exact F8 (neg:=true) hs he hd ho l m p q
     | exact Mu hs he hd ho m p q)
   | (split at j
      case h_2=>cases j
      rename_i k1 k2 k3;injection j with j;subst j
      first
       | exact Gb (neg:=false) hs he hd ho l k1 k2 k3 m p q
       | exact Gb (neg:=true) hs he hd ho l k1 k2 k3 m p q)
   | (split at j
      case h_2=>cases j
      rename_i k1;injection j with j;subst j
      first
       | exact F9 (neg:=false) hs he hd ho l m p k1 q
       | exact F9 (neg:=true) hs he hd ho l m p k1 q)
 case unOp op t y =>
  split at j
  case h_2=>cases j
  rename_i l;injection j with j;subst j
  exact Oi hs he hd ho l q
 case convert s t y =>
  split at j
  case h_4=>cases j
  ·rename_i l m p;injection j with j;subst j
   exact IJ hs he hd ho l m p q
  ·rename_i l m p;split at j
   case h_2=>cases j
   rename_i h4;injection j with j;subst j
   exact MA hs he hd ho l m h4 p q
  ·rename_i l m p;split at j
   case h_2=>cases j
   rename_i h4;injection j with j;subst j
   exact MH hs he hd ho l m h4 p q
 case makeFunc fn fi ca =>
  cases fn<;>simp only[] at j<;>try (cases j;done)
  ·split at j
   case h_2=>cases j
   rename_i l m;injection j with j;subst j
   exact IK hs he hd ho l m q
  ·split at j
   case h_2=>cases j
   rename_i l m;injection j with j;subst j
   exact IY hs he hd ho l m q
  ·split at j
   case h_2=>cases j
   rename_i l m;injection j with j;subst j
   exact IZ hs he hd ho l m q
 case makeSlice t y z =>
  split at j
  case h_2=>cases j
  rename_i l m p;split at j
  case h_2=>cases j
  rename_i h4;split at j
  case h_2=>cases j
  rename_i h5;split at j
  case h_2=>cases j
  rename_i h6 h7;injection j with j;subst j
  exact Gf hs he hd ho l h4 h5 (Xm h6) (Xm h7) m p q
 case slice t y lo up mx =>
  cases mx<;>simp only[] at j<;>try (cases j;done)
  split at j
  case h_3=>cases j
  ·rename_i l m p h4;split at j
   case h_2=>cases j
   rename_i h5;injection j with j;subst j
   exact ME hs he hd ho l h5 m p h4 q
  ·rename_i l m p h4;injection j with j;subst j
   exact I4 hs he hd ho l m p h4 q
 case fieldAddr t y f =>
  split at j
  case h_2=>cases j
  rename_i l m;split at j
  case h_2=>cases j
  rename_i p;split at j
  case h_2=>cases j
  rename_i h4;split at j
  case h_1=>cases j
  rename_i h5;injection j with j;subst j
  exact Ez hs he hd ho l p h4 (XI h5) m q
 case field t y f =>
  split at j
  case h_2=>cases j
  rename_i l m;split at j
  case h_2=>cases j
  rename_i p;split at j
  case h_2=>cases j
  rename_i d i h4 h5;refine Ey (n:=match dh d with | true=>i.size | false=>1) hs he hd ho l p h4 h5 m rfl ?_;cases az:dh d<;>simp only[az] at j ⊢<;>injection j with j<;>subst j<;>exact q
 case indexAddr t y z =>
  split at j
  case h_2=>cases j
  rename_i l m p;split at j
  case h_2=>cases j
  rename_i h4;injection j with j;subst j
  exact IQ hs he hd ho l h4 m p q
 case index t y z =>
  split at j
  case h_2=>cases j
  rename_i l m p;injection j with j;subst j
  exact IU hs he hd ho l m p q
 case extract y i =>
  split at j
  case h_2=>cases j
  rename_i l;injection j with j;subst j
  exact IL hs he hd ho l q
 case call c =>
  split at j
  case h_1=>cases j
  rename_i args al;split at j
  ·rename_i f hc;split at j
   case h_2=>cases j
   split at j
   case h_2=>cases j
   injection j with j;subst j
   exact I7 hs he hd ho hc al q
  ·rename_i y hc;split at j
   case h_2=>cases j
   rename_i l;injection j with j;subst j
   exact Gg hs he hd ho hc l al q
  ·rename_i n nm hc;injection j with j;subst j
   exact MG hs he hd ho hc al q
  ·cases j
  ·rename_i b hc;have one:∀{x:X},args=[x]->∃y,c.args=#[y]/\bh y=some x:=by
    intro x e;subst e
    match aE:c.args.toList,al with
    | [],h=>simp[fN] at h
    | [y],h =>
     refine⟨y,by apply Array.ext';simpa using aE,?_⟩;simp only[fN] at h;split at h
     case h_2=>cases h
     rename_i l m;injection h with h
     injection h with h _
     rw[l,h]
    | y::z::r,h =>
     simp only[fN] at h;split at h
     case h_2=>cases h
     rename_i l m;injection h with h
     injection h with _ h
     subst h;split at m
     ·injection m with m;cases m
     ·cases m
   have bc:∀{x x':X},args=[x,x']->∃y y',c.args=#[y,y']/\bh y=some x/\bh y'=some x':=by
    intro x x' e;subst e
    match aE:c.args.toList,al with
    | [],h=>simp[fN] at h
    | [y],h =>
     simp only[fN] at h;split at h
     case h_2=>cases h
     rename_i l m;injection m with m
     injection h with h
     injection h with _ h
     rw[h] at m;cases m
    | [y,y'],h =>
     refine⟨y,y',by apply Array.ext';simpa using aE,?_⟩;simp only[fN] at h;split at h
     case h_2=>cases h
     rename_i l m;injection h with h
     injection h with h h'
     split at m
     case h_2=>cases m
     rename_i p h4;injection m with m
     rw[<-m] at h';injection h' with h' _
     exact⟨by rw[l,h],by rw[p,h']⟩
    | y::z::u::r,h =>
     simp only[fN] at h;split at h
     case h_2=>cases h
     rename_i l m;injection h with h
     injection h with _ h
     subst h;split at m
     case h_2=>cases m
     rename_i p h4;injection m with m
     injection m with _ m
     subst m;split at h4
     ·injection h4 with h4;cases h4
     ·cases h4
   have ay:∀{t:TypeId},c.argTypes.toList=[t]->c.argTypes=#[t]:=fun e=>by apply Array.ext';simpa using e
   have ax:∀{t t':TypeId},c.argTypes.toList=[t,t']->c.argTypes=#[t,t']:=fun e=>by apply Array.ext';simpa using e
   split at j
   ·rename_i x t am;obtain⟨y,ha,hy⟩:=one rfl;split at j
    ·rename_i l;injection j with j;subst j
     exact MB hs he hd ho hc ha (ay am) l hy q
    ·rename_i l;injection j with j;subst j
     exact IV hs he hd ho hc ha (ay am) l hy q
    ·rename_i l;injection j with j;subst j
     exact Jb hs he hd ho hc ha (ay am) l hy q
    ·cases j
   ·rename_i x t am;obtain⟨y,ha,hy⟩:=one rfl;split at j
    ·rename_i l;injection j with j;subst j
     exact IW hs he hd ho hc ha (ay am) l hy q
    ·cases j
   ·injection j with j;subst j
    exact LL (mx:=true) hs he hd ho hc al q
   ·injection j with j;subst j
    exact LL (mx:=false) hs he hd ho hc al q
   ·rename_i x x' t t' am;obtain⟨y,y',ha,hy,ar⟩:=bc rfl;split at j
    ·rename_i l m;split at j
     case h_2=>cases j
     rename_i p;split at j
     case h_2=>cases j
     rename_i h4;split at j
     case h_2=>cases j
     rename_i h5 h6 h7;have h5:=Xm h5;subst h5;injection j with j;subst j
     exact MF hs he hd ho hc ha (ax am) l p h4 (Xm h6) (Xm h7) hy ar q
    ·rename_i l m;split at j
     case h_2=>cases j
     rename_i p;split at j
     case h_2=>cases j
     rename_i h4;split at j
     case h_2=>cases j
     rename_i h5 h6 h7;have h5:=Xm h5;subst h5;injection j with j;subst j
     exact I5 hs he hd ho hc ha (ax am) l m p h4 (Xm h6) (Xm h7) hy ar q
    ·rename_i l m;split at j
     case h_2=>cases j
     rename_i p;split at j
     case h_2=>cases j
     rename_i h4;split at j
     case h_2=>cases j
     rename_i h5 h6;have h5:=Xm h5;subst h5;injection j with j;subst j
     exact I6 hs he hd ho hc ha (ax am) l m p h4 (Xm h6) hy ar q
    ·cases j
   ·rename_i x x' t t' am;obtain⟨y,y',ha,hy,ar⟩:=bc rfl;split at j
    ·rename_i l m;split at j
     case h_2=>cases j
     rename_i p;split at j
     case h_2=>cases j
     rename_i h5 h6;injection j with j;subst j
     exact Dg hs he hd ho hc ha (ax am) l p (Xm h6) hy ar q
    ·rename_i l m;split at j
     case h_2=>cases j
     rename_i p;split at j
     case h_2=>cases j
     rename_i h6;injection j with j;subst j
     exact Dg hs he hd ho hc ha (ax am) l p (Xm h6) hy ar q
    ·cases j
   ·cases j
end
structure cP where
 n:Nat
 own:List Nat:=[]
 frz:List (Nat×Nat×List Nat):=[]
 ord:List (Nat×List Nat×List (List Nat)):=[]
 co:List Nat:=[]
 pan:List (Nat×Nat):=[]
 bx:List Nat:=[]
 fl:List Nat:=[]
 px:List Nat:=[]
 bk:List (Nat×Nat):=[]
def tV:List (Nat×Nat)->Nat->Nat->Bool
 | [],_,_=>false
 | (r,i)::l,c,b=>match Nat.beq r c&&Nat.beq i b with | true=>true | false=>tV l c b
def mV (b:Bool) (d:Option Nat) (s:dS) (g:Option (Nat×Bool)):ak:=match b with | true=>.pc d s g | false=>.op d s g
def cP.owned (A:cP):Option Nat->Bool
 | some d=>fo A.own d
 | none=>false
def cP.isO (A:cP):Option Nat->Bool
 | some d=>fo A.co d
 | none=>fo A.co 999999
def cP.isX (A:cP):Option Nat->Bool
 | some d=>fo A.px d
 | none=>fo A.px 999999
def Gj:List (Nat×Nat×List Nat)->Nat->Nat->List Nat
 | [],_,_=>[]
 | (r,i,ks)::l,c,b=>match Nat.beq r c&&Nat.beq i b with | true=>ks | false=>Gj l c b
def Gk:List (Nat×List Nat×List (List Nat))->Nat->Option (List Nat×List (List Nat))
 | [],_=>none
 | (r,is)::l,b=>match Nat.beq r b with | true=>some is | false=>Gk l b
def rT (l:List (Nat×List Nat×List (List Nat))) (r:Nat):List Nat:=match Gk l r with | some (is,_)=>is | none=>[]
def gO (c:Array Oper):Option (Nat×Bool)->Option (Option (Nat×Bool))
 | none=>some none
 | some (j,b)=>match(c[j]?).bind (·.dst) with
  | some d=>some (some (d,b))
  | none=>none
def LM (n:Nat):Option Nat->Bool
 | none=>true
 | some d=>Nat.blt d n
def pz (P:Program) (A:cP) (r:Nat) (b:Array Oper):List Nat->Option (List ak)
 | []=>some []
 | i::is=>match b[i]? with
  | none=>none
  | some o=>match gO b o.guard,gM P (A.owned o.dst) o.op,LM A.n o.dst,pz P A r b is with
   | some g,some s,true,some c=>some ((Gj A.frz r i).map .frz++mV (tV A.pan r i) o.dst s g::c)
   | _,_,_,_=>none
section
variable {P:Program}{F:aA}{L:Loc}{ρ:Env}{a:Act}{w:World}{K:cE}{Q:Exit->Act->World->Prop}
def dY (n:Nat) (F:aA) (L:Loc) (w:World) (a:Act) (asg:List Nat) (K:cE) (b:Act) (w':World):Prop :=
 ∃F' L' ρ',St F' L' w'/\aC L' ρ' b/\b.tmps.size=n/\b.defers=a.defers/\Step F L w F' L' w'/\(∀j,j∉asg->b.tmps.getD j undef=a.tmps.getD j undef)/\K F' L' ρ'
theorem nB {k:Nat}{KK:aA->Loc->Prop}(hs:St F L w) (he:aC L ρ a) (h:LK F L k KK):∃F' L',St F' L' w/\aC L' ρ a/\Step F L w F' L' w/\KK F' L':=by
 obtain⟨v,t,sz,n,xs,hk,hK⟩:=h;have d:=hs.own k _ hk;simp only[Own.ok] at d;have m:=hs.part (Loc.WH L k);have s:aC (L.del k) ρ a:=by
  have hb:∀j g ty cs,L.get j=some (.box g ty cs)->(L.del k).get j=some (.box g ty cs):=by
   intro j g ty cs e;rw[Loc.Wm];split
   ·rename_i hj;subst hj;rw[hk] at e;cases e
   ·exact e
  refine⟨fun j=>?_,fun j r off e=>?_,he.el⟩
  ·rw[he.eq j];cases e:ρ j with
   | v x=>rfl
   | el x y=>rfl
   | own r off =>
    obtain⟨g,ty,cs,c⟩:=he.own j r off e;simp only[conc,c,hb r g ty cs c]
  ·obtain⟨g,ty,cs,c⟩:=he.own j r off e;exact⟨g,ty,cs,hb r g ty cs c⟩
 have ad:∀g,v.ownBlock=some g->¬(L.del k).owns g:=by
  rintro g c ⟨j,p,e,hb⟩;rw[Loc.Wm] at e;split at e
  ·cases e
  ·rename_i hj;exact hj (hs.sep j k p _ g e hk hb c)
 obtain⟨hx,f⟩:=d;rcases f with⟨rfl,rfl⟩ | ⟨g,cap,al,rfl,ao,c,ag,ap,ar,l⟩
 ·refine⟨F,L.del k,m,s,⟨aA.le_refl F,rfl,rfl,rfl,Xn _,fun _ _ _=>rfl,fun b h=>.inl h,fun b h=>.inl (Loc.Wx h)⟩,hK F (aA.le_refl F) (.inl ⟨rfl,rfl,Xu (by simpa using hx)⟩)⟩
 ·have o:=aA.Ww hs c;refine⟨_,L.del k,m.freeze c (ad g rfl),s,⟨o,rfl,rfl,rfl,Xn _,fun _ _ _=>rfl,fun b h=>?_,fun b h=>.inl (Loc.Wx h)⟩,hK _ o (.inr ⟨⟨g,0,none⟩,cap,rfl,⟨_,al,t,(0,0),rfl,j3 rfl,rfl,fun i u z=>?_⟩,ag⟩)⟩
  ·by_cases q:b=g
   ·subst q;exact .inr (.inl ⟨k,_,hk,rfl⟩)
   ·simp only[vv q] at h;exact .inl h
  ·rw[<-l,XB] at z;split at z
   ·exact⟨by simpa using z,rL _⟩
   ·cases z
theorem qV {k g:Nat}{t:TypeId}{cs:List Value}(n:St F L w) (z:aC L ρ a) (m:L.get k=some (.box g t cs)) :
  ∃F',F.le F'/\F' g=some (kO t cs)/\St F' (L.del k) w/\aC (L.del k) (vk k g ρ) a/\Step F L w F' (L.del k) w:=by
 have s:=n.own k _ m;simp only[Own.ok] at s;have o:=n.part (Loc.WH L k);have d:=aA.Ww n s;have r:¬(L.del k).owns g:=by
  rintro⟨j,p,e,hb⟩;rw[Loc.Wm] at e;split at e
  ·cases e
  ·rename_i hj;exact hj (n.sep j k p _ g e m hb rfl)
 refine⟨_,d,j3 rfl,o.freeze s r,⟨fun j=>?_,fun j u off e=>?_,fun j ad i e=>?_⟩,⟨d,rfl,rfl,rfl,Xn _,fun _ _ _=>rfl,fun b h=>?_,fun b h=>.inl (Loc.Wx h)⟩⟩
 ·rw[z.eq j];simp only[vk];cases e:ρ j with
  | v x=>rfl
  | el x y=>rfl
  | own u off =>
   simp only[];cases hb:Nat.beq u k with
   | true =>
    have:=yo hb;subst this;simp only[conc,m]
   | false =>
    have c:u≠k:=fun e=>by rw[e] at hb;simp at hb
    simp only[conc];rw[Loc.Wm,vv c]
 ·simp only[vk] at e;split at e
  ·rename_i q l e2;cases hb:Nat.beq q k with
   | true=>rw[hb] at e;cases e
   | false =>
    rw[hb] at e;injection e with e3 e4
    subst e3;have c:q≠k:=fun e=>by rw[e] at hb;simp at hb
    rw[Loc.Wm,vv c];exact z.own j q l e2
  ·cases e
  ·cases e
 ·simp only[vk] at e;split at e
  ·split at e<;>cases e
  ·cases e
  ·rename_i a2 i2 e2;injection e with h1 h2
   subst h1;exact z.el j _ _ e2
 ·by_cases f:b=g
  ·subst f;exact .inr (.inl ⟨k,_,m,rfl⟩)
  ·simp only[vv f] at h;exact .inl h
theorem qj {s:Nat}{b:Bool}(h:a.tmps.getD s undef=.bool b):a.tmps[s]?=some (.bool b):=by
 rw[Xt] at h;cases e:a.tmps[s]? with
 | none=>rw[e] at h;simp[undef] at h
 | some v=>rw[e] at h;simp at h;rw[h]
theorem kg {ρ:Env}{s:Nat}{v:Value}(h:ρ s=.v v):put (some s) (.v v) ρ=ρ:=by
 funext t
 rw[put_eq];simp only[];split
 ·rename_i b;subst b;exact h.symm
 ·rfl
def dstsOf (b:Array Oper):List Nat->List Nat
 | []=>[]
 | i::is=>match(b[i]?).bind (·.dst) with | some d=>d::dstsOf b is | none=>dstsOf b is
theorem jN {d:Option Nat}{v:Value}{j:Nat}(h:d≠some j):(a.put d v).tmps.getD j undef=a.tmps.getD j undef:=by
 cases d with
 | none=>rfl
 | some k =>
  simp only[Act.put,Xt,Array.getElem?_setIfInBounds];rw[vv (by intro e;exact h (by rw[e]))]
theorem pA {o:Oper}{asg:List Nat}{KK:Act->World->Prop}(b:o.wp P a w KK Q) :
  o.wp P a w (fun f w'=>KK f w'/\∀j,o.dst≠some j->f.tmps.getD j undef=a.tmps.getD j undef) Q:=by
 unfold Oper.wp at b ⊢;generalize(execOp a.eval o).run P w=r at b ⊢;cases r with
 | ok k w' =>
  cases k<;>simp only[Oper.upon] at b ⊢<;>first
   | exact⟨b,fun j h=>jN h⟩
   | exact Calls.mono b (fun e d c=>by cases e<;>first | exact⟨c,fun j h=>jN h⟩ | exact c)
   | exact Rows.mono b (fun v d c=>⟨c,fun j h=>jN h⟩)
 | halt x w'=>cases x<;>simp only[Oper.upon] at b ⊢<;>exact b
theorem sU {c:Code}(I:Nat->Act->World->Prop) (y:∃n,I n a w)
  (q:∀n a w,I n a w->c.wp P (Exit.then (fun s w'=>∃m,m<n/\I m s w') Q) a w):(Code.loop c).wp P Q a w:=by
 intro b k cs;have key:∀n a w,I n a w->∃e s w',Q e s w'/\Arrives P (lone (b.at a (.code c::.inLoop c::k)) cs w) b k cs e s w':=by
  intro n
  induction n using Nat.strongRecOn with
  | _ n ih =>
   intro a w hI;obtain⟨e,h,f,o,d⟩:=q n a w hI b (.inLoop c::k) cs;cases e with
   | normal =>
    obtain⟨m,z,r⟩:=o;obtain⟨u,v,t,p,j⟩:=ih m z h f r;exact⟨u,v,t,p,.of_steps (Steps.trans d (.one step_inLoop)) j⟩
   | exit id=>exact⟨_,h,f,o,.pass (x:=.inLoop c) rfl (fun _ _=>.inl (by simp)) d⟩
   | goto l=>exact⟨_,h,f,o,.pass (x:=.inLoop c) rfl (fun _ _=>.inl (by simp)) d⟩
   | ret=>exact⟨_,h,f,o,.pass (x:=.inLoop c) rfl (fun _ _=>.inl (by simp)) d⟩
   | panic ch=>exact⟨_,h,f,o,.pass (x:=.inLoop c) rfl (fun _ _=>.inl (by simp)) d⟩
   | outgrown=>exact⟨_,h,f,o,.pass (x:=.inLoop c) rfl (fun _ _=>.inl (by simp)) d⟩
 obtain⟨n,hI⟩:=y;obtain⟨e,s,w',o,d⟩:=key n a w hI;exact⟨e,s,w',o,.of_steps (.one step_loop) d⟩
theorem lG:∀{L L':Loc},L.keeps L'->∀{k g t cs},L.get k=some (.box g t cs)->∃cs',L'.get k=some (.box g t cs')
 | [],L',_,k,g,t,cs,e=>by cases e
 | (j,.box d c cs')::l,L',h,k,g,t,cs,e=>by
  simp only[Loc.keeps] at h;simp only[Loc.get] at e;split at e
  ·rename_i b;have:=yo b;subst this;injection e with e
   injection e with e1 e2 e3
   subst e1 e2;exact h.1
  ·exact lG h.2 e
 | (j,.row ..)::l,L',h,k,g,t,cs,e=>by
  simp only[Loc.keeps] at h;simp only[Loc.get] at e;split at e
  ·cases e
  ·exact lG h e
theorem lH {L:Loc}:∀{L':Loc},L.gives L'->∀{k o},L'.get k=some o->L.get k=some o\/(L.get k=none/\∃t sz,o=.row (.slice none 0 0) t sz 0 [])
 | [],_,k,o,e=>by cases e
 | (j,p)::l,h,k,o,e=>by
  simp only[Loc.gives] at h;simp only[Loc.get] at e;split at e
  ·rename_i b;have:=yo b;subst this;injection e with e
   subst e;exact h.1
  ·exact lH h.2 e
theorem St.gives {L':Loc}(c:St F L w) (h:L.gives L'):St F L' w:=by
 refine⟨c.frz,fun k o e=>?_,fun k o g e hb=>?_,fun k m o o' g e l hb d=>?_,c.glob⟩
 ·rcases lH h e with b | ⟨_,t,sz,rfl⟩
  ·exact c.own k o b
  ·exact World.ownsRow_nil w 0 t sz
 ·rcases lH h e with b | ⟨_,t,sz,rfl⟩
  ·exact c.off k o g b hb
  ·cases hb
 ·rcases lH h e with b | ⟨_,t,sz,rfl⟩<;>rcases lH h l with f | ⟨_,n,j,rfl⟩
  ·exact c.sep k m o o' g b f hb d
  ·cases d
  ·cases hb
  ·cases hb
theorem qW {L':Loc}(h:L.gives L'):Step F L w F L' w :=
 ⟨aA.le_refl F,rfl,rfl,rfl,Xn _,fun _ _ _=>rfl,fun b h=>.inl h,fun b ⟨k,o,e,hb⟩=>by
  rcases lH h e with c | ⟨_,t,sz,rfl⟩
  ·exact .inl ⟨k,o,c,hb⟩
  ·cases hb⟩
theorem cH:∀{l:List Nat}{k:Nat},fo l k=true↔k∈l
 | [],k=>by simp[fo]
 | j::l,k=>by
  simp only[fo];split
  ·rename_i h;have:=yo h;subst this;simp
  ·rename_i h;have:=eV h;rw[cH];simp only[W7];constructor
   ·exact .inr
   ·rintro(h | h)
    ·exact xo h.symm this
    ·exact h
theorem je:∀(b:List Nat) (vs:List Value) (ρ:Env) (j:Nat),(puts b (vs.map .v) ρ j=ρ j)\/∃v,puts b (vs.map .v) ρ j=.v v
 | [],vs,ρ,j=>.inl rfl
 | k::b,[],ρ,j=>.inl rfl
 | k::b,v::vs,ρ,j=>by
  simp only[Xa,puts,put_eq];split
  ·exact .inr ⟨v,rfl⟩
  ·exact je b vs ρ j
theorem qX {L:Loc}:∀(c:List Nat) (vs:List Value) (ρ b:Env) {a:Act},(∀t,a.tmps.getD t undef=conc L (ρ t))->holds c (vs.map .v) ρ->∀j,(∃v,puts c (vs.map .v) b j=.v v/\a.tmps.getD j undef=v)\/puts c (vs.map .v) b j=b j
 | [],vs,ρ,b,a,d,h,j=>.inr rfl
 | k::c,[],ρ,b,a,d,h,j=>.inr rfl
 | k::c,v::vs,ρ,b,a,d,h,j=>by
  simp only[Xa,holds] at h;simp only[Xa,puts,put_eq];split
  ·rename_i e;subst e;exact .inl ⟨v,rfl,by rw[d,h.1];rfl⟩
  ·exact qX c vs ρ b d h.2 j
end
end Go.Fr
