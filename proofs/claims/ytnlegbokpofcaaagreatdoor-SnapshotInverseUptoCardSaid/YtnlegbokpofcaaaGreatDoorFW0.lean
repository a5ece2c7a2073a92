/- Part of the proofs of the statements of this seat. -/
import Derived.Orders
import Derived.Below
import Derived.Laws.OwnMore
import Derived.Maps.AppendAt
import Derived.WalkKit
import Derived.KernelRfl
import Derived.Lib.AppendStr
import Derived.Laws.BytesString
import Derived.Laws.StructEq
import Derived.Lib.AppendZeros
import Derived.ArgAppend
import Derived.Laws.CopyRow
import Derived.Laws.IdiomCopy
import Derived.Carry
import Derived.Maps.RangeRun
set_option maxRecDepth 10000
set_option linter.unusedVariables false
set_option linter.unusedSimpArgs false
namespace Go.Fr
open Go Go.RowKit
abbrev j3:=@congrArg
abbrev o6:=@if_pos
abbrev p7:=@absurd
abbrev vv:=@if_neg
abbrev v8:=@Nat.eq_of_beq_eq_true
abbrev w7:=@Option.some.injEq
abbrev w8:=@List.getElem?_eq_getElem
abbrev xo:=@List.mem_append
abbrev xD:=@List.getElem?_eq_some_iff
abbrev yo:=@Bool.and_eq_true
abbrev aaQ:=@List.mem_cons
abbrev aaR:=@List.length_append
abbrev aaS:=@List.mem_of_getElem?
abbrev aaT:=@List.append_assoc
abbrev aaU:=@List.map_cons
abbrev aaV:=@List.cons_append
abbrev aaW:=@List.length_cons
abbrev aaX:=@List.append_nil
abbrev aaY:=@List.getElem?_append_left
abbrev aaZ:=@Bool.false_eq_true
abbrev aa0:=@List.getElem?_eq_none
abbrev aa1:=@List.all_eq_true
abbrev aa2:=@List.getElem?_cons_zero
abbrev aa3:=@Nat.le_of_ble_eq_true
abbrev aa4:=@List.getElem?_append_right
abbrev aa5:=@List.nil_append
abbrev aa6:=@List.length_map
abbrev aa7:=@of_decide_eq_true
abbrev aa8:=@Nat.le_refl
abbrev aa9:=@List.length_take
abbrev abb:=@List.mem_cons_of_mem
abbrev abd:=@if_true
abbrev abe:=@List.length_nil
abbrev abf:=@List.mem_iff_getElem?
abbrev abg:=@Array.getD_eq_getD_getElem?
abbrev abh:=@List.eq_nil_of_length_eq_zero
abbrev abj:=@Int.le_refl
abbrev abk:=@List.mem_map
abbrev abl:=@Nat.zero_le
abbrev abm:=@List.getElem?_drop
abbrev abn:=@Bool.or_eq_true
abbrev abo:=@List.getElem?_take
abbrev abp:=@if_false
abbrev abq:=@List.ext_getElem?
abbrev abr:=@Bool.and_false
abbrev abt:=@List.getElem?_map
abbrev abu:=@of_decide_eq_false
abbrev abv:=@List.mem_singleton
abbrev abw:=@decide_eq_true_eq
abbrev abx:=@List.length_replicate
abbrev aby:=@List.getElem?_cons_succ
abbrev abz:=@List.take_of_length_le
abbrev abA:=@Bool.false_ne_true
abbrev abB:=@Nat.le_trans
abbrev abC:=@List.length_drop
abbrev abD:=@List.replicate_succ
abbrev abE:=@List.getElem?_eq_none_iff
abbrev abF:=@Option.map_some
abbrev abG:=@List.map_map
abbrev abH:=@Nat.lt_succ_self
abbrev abI:=@List.drop_eq_getElem_cons
abbrev abJ:=@Bool.true_and
abbrev abK:=@List.map_congr_left
abbrev abL:=@List.map_nil
abbrev abM:=@Bool.false_and
abbrev abN:=@List.getElem?_set_ne
abbrev abO:=@Bool.and_true
abbrev abP:=@Nat.lt_of_lt_of_le
abbrev aF:=Nat->Option Obj
def aF.le (F G:aF):Prop:=∀b o,F b=some o->G b=some o
theorem aF.le_refl (F:aF):F.le F:=fun _ _ h=>h
theorem aF.le_trans {F G H:aF}(h:F.le G) (k:G.le H):F.le H:=fun b o e=>k b o (h b o e)
def pR:Nat:=2 ^ 64
def QX:Nat->Value
 | 0=>.slice none 0 0
 | m+1=>.slice (some ⟨m / (pR*pR),0,none⟩) (m / pR % pR) (m % pR)
def j7 (k:Nat) (F:aF) (v:Value):Prop:=(k=0/\v=.nilIface)\/∃m,k=m+1/\v=QX m
theorem j7.mono {k:Nat}{F G:aF}{v:Value}(h:F.le G) (r:j7 k F v):j7 k G v:=r
theorem j7.one {k:Nat}{F:aF}{v:Value}(r:j7 k F v):v.oneCell'=true:=by
 rcases r with⟨_,rfl⟩ | ⟨m,_,rfl⟩
 ·rfl
 ·cases m<;>rfl
theorem Bv {F:aF}:j7 0 F .nilIface:=.inl ⟨rfl,rfl⟩
def I8:Nat->Option Nat
 | 0=>none
 | 1=>some 0
 | m+2=>some (m / pR % pR)
theorem MA {F:aF}{k n:Nat}{v:Value}(h:j7 k F v) (e:I8 k=some n):∃a c,v=.slice a n c:=by
 rcases h with⟨rfl,_⟩ | ⟨m,rfl,rfl⟩
 ·cases e
 ·cases m with
  | zero=>injection e with e;subst e;exact⟨none,0,rfl⟩
  | succ m=>injection e with e;subst e;exact⟨_,_,rfl⟩
def tj (F:aF):Prop:=True
theorem tj.mono {F G:aF}(h:F.le G) (g:tj F):tj G:=g
def wT (g:Nat):Option Nat:=none
theorem I9 {F:aF}{g k:Nat}(h:tj F) (e:wT g=some k):∃v t a,F g=some (.cells #[v] t a)/\j7 k F v:=by cases e
def wU (k:Nat) (n:Int):Option (Int×Bool):=none
theorem Ja {F:aF}{k:Nat}{v:Value}{n r:Int}{b:Bool}(h:j7 k F v) (e:wU k n=some (r,b)) :
  ∃m es a,v=.map (some m)/\F m=some (.map es a)/\es.isEmpty=false /\
   ∃o,Instr.findNow (.int .i64) (.int .i64 n) es.toList 0=some o/\((b=true/\∃i,o=some (i,.int .i64 r))\/(b=false/\r=0/\o=none)):=by cases e
theorem CT {k:Nat}{n r:Int}{b:Bool}(e:wU k n=some (r,b)):(Lit.int .i64 r).wf=true:=by cases e
def EK (k:Nat):Option Bool:=match k with | 0=>some true | _=>none
theorem Jb {F:aF}{k:Nat}{v:Value}{b:Bool}(h:j7 k F v) (e:EK k=some b):(b=true->v=.nilIface)/\(b=false->∃t u,v=.iface t u):=by
 unfold EK at e;split at e
 case h_2=>cases e
 injection e with e;subst e
 refine⟨fun _=>?_,fun e=>by cases e⟩;rcases h with h | ⟨m,h,_⟩
 ·exact h.2
 ·cases h
def MB:Bool:=false
def Hq:List (TypeId×String):=[(102,"leasehold/snapshot.num"),(102,"leasehold/snapshot.size"),(86,"leasehold/snapshot.num"),(86,"leasehold/snapshot.size"),(123,"leasehold/snapshot.num"),(123,"leasehold/snapshot.size")]
inductive SV where
 | v (x:Value)
 | own (k off:Nat)
 | el (a:Option Addr) (j:Nat)
 deriving Inhabited
inductive Own where
 | box (g:Nat) (t:TypeId) (cs:List Value)
 | row (v:Value) (t:TypeId) (sz n:Nat) (xs:List Value)
def Own.blk:Own->Option Nat
 | .box g _ _=>some g
 | .row v _ _ _ _=>v.ownBlock
abbrev Loc:=List (Nat×Own)
def Loc.get:Loc->Nat->Option Own
 | [],_=>none
 | (j,o)::l,k=>match Nat.beq j k with | true=>some o | false=>Loc.get l k
def Loc.set:Loc->Nat->Own->Loc
 | [],k,o=>[(k,o)]
 | (j,p)::l,k,o=>match Nat.beq j k with
  | true=>(k,o)::l
  | false=>match Nat.ble j k with
   | true=>(j,p)::Loc.set l k o
   | false=>(k,o)::(j,p)::l
def Loc.del:Loc->Nat->Loc
 | [],_=>[]
 | (j,o)::l,k=>match Nat.beq j k with | true=>Loc.del l k | false=>(j,o)::Loc.del l k
abbrev Env:=Nat->SV
def put (d:Option Nat) (v:SV) (ρ:Env):Env :=
 match d with
 | some d=>fun j=>match Nat.beq j d with | true=>v | false=>ρ j
 | none=>ρ
def conc (L:Loc):SV->Value
 | .v x=>x
 | .own k off=>match L.get k with | some (.box g _ _)=>.pointer (some ⟨g,off,none⟩) | _=>undef
 | .el a j=>match a with | some ad=>.pointer (some (ad.add j)) | none=>undef
def hU:Value->Nat->MapEntry
 | .agg ⟨[k,v]⟩,i=>{key:=k,val:=v,born:=i}
 | v,i=>{key:=v,val:=v,born:=i}
def jM:Value->Nat
 | .int _ n=>n.toNat
 | _=>0
def bB:List Value->Nat->List MapEntry
 | [],_=>[]
 | v::l,i=>hU v i::bB l (i+1)
def iW:List Value->Obj
 | .tuple ⟨[.map (some m),.int .i64 n]⟩::a=>.mapIter (some m) n.toNat (a.map jM).toArray n.toNat
 | es=>.map (bB es 0).toArray es.length
def mC:TypeId->List Value->Obj
 | 0,cs=>iW cs
 | t+1,cs=>.cells cs.toArray (t+1) (0,0)
theorem iN {t:TypeId}(h:t≠0) (cs:List Value):mC t cs=.cells cs.toArray t (0,0):=by
 cases t with
 | zero=>exact p7 rfl h
 | succ t=>rfl
def Own.ok (w:World):Own->Prop
 | .box g t cs=>w.heap[g]?=some (mC t cs)
 | .row v t sz n xs=>w.ownsRow 0 t sz v n xs
structure St (F:aF) (L:Loc) (w:World):Prop where
 frz:∀b o,F b=some o->w.heap[b]?=some o
 own:∀k o,L.get k=some o->o.ok w
 off:∀k o g,L.get k=some o->o.blk=some g->F g=none
 sep:∀k k' o o' g,L.get k=some o->L.get k'=some o'->o.blk=some g->o'.blk=some g->k=k'
 glob:tj F
def Loc.owns (L:Loc) (b:Nat):Prop:=∃k o,L.get k=some o/\o.blk=some b
structure Step (F:aF) (L:Loc) (w:World) (F':aF) (L':Loc) (w':World):Prop where
 le:F.le F'
 os:w'.os=w.os
 tape:w'.tape=w.tape
 output:w'.output=w.output
 size:w.heap.size<=w'.heap.size
 same:∀b,b<w.heap.size->¬L.owns b->w'.heap[b]?=w.heap[b]?
 frz:∀b,F' b≠none->F b≠none\/L.owns b\/w.heap.size<=b
 own:∀b,L'.owns b->L.owns b\/w.heap.size<=b
def pT (a:Nat×Nat) (i:Nat):Prop:=¬(a.1<=i/\i<a.2)
theorem ud (i:Nat):pT (0,0) i:=fun h=>by cases h.2
def cg (F:aF) (a:Option Addr) (j:Nat) (cs:List Value):Prop :=
 ∃b c t d,a=some b/\F b.block=some (.cells c t d)/\b.spot=none/\∀(i:Nat) (v:Value),cs[i]?=some v->c[b.off+j+i]?=some v/\pT d (b.off+j+i)
def lK:Nat->List Own->Loc
 | _,[]=>[]
 | k,o::l=>(k,o)::lK (k+1) l
def inp (l:List Own):Loc:=lK 1000 l
structure CallsA (P:Program) (f:FuncId) (args:Array Value) (F:aF) (Lin:List Own) (R:aF->List Own->Value->Prop):Prop where
 ent:∃fn,P.funcs[f]?=some fn/\fn.body.isSome=true/\(fn.name == "runtime.NumGoroutine")=false
 mono:∀F G L v,F.le G->R F L v->R G L v
 run:∀w,St F (inp Lin) w->Calls P f args w fun e w'=>∃v F' Lo,e=.returned v/\St F' (inp Lo) w'/\Step F (inp Lin) w F' (inp Lo) w'/\R F' Lo v
def EC (v:Value) (b:List PanicEntry):Prop:=∃a,b={v,recovered:=false}::a/\∀e∈a,e.goexit=false
theorem EC.one (v:Value):EC v [{v,recovered:=false}]:=⟨[],rfl,fun e h=>by cases h⟩
structure ve (P:Program) (f:FuncId) (args:Array Value) (F:aF) (Lin:List Own) (R:aF->List Own->Value->Prop) (Pp:Value->Prop):Prop where
 ent:∃fn,P.funcs[f]?=some fn/\fn.body.isSome=true/\(fn.name == "runtime.NumGoroutine")=false
 mono:∀F G L v,F.le G->R F L v->R G L v
 run:∀w,St F (inp Lin) w->Calls P f args w fun e w'=>(∃v F' Lo,e=.returned v/\St F' (inp Lo) w'/\Step F (inp Lin) w F' (inp Lo) w'/\R F' Lo v) \/
  ∃v ch F' Lo,e=.panicked ch/\EC v ch/\St F' (inp Lo) w'/\Step F (inp Lin) w F' (inp Lo) w'/\Lo.length=Lin.length/\(∀(i:Nat) g t cs,Lin[i]?=some (.box g t cs)->∃cs',Lo[i]?=some (.box g t cs'))/\Pp v
theorem CallsA.toX {P:Program}{f:FuncId}{args:Array Value}{F:aF}{Lin:List Own}{R:aF->List Own->Value->Prop}{Pp:Value->Prop}(h:CallsA P f args F Lin R):ve P f args F Lin R Pp :=
 ⟨h.ent,h.mono,fun w a=>(h.run w a).mono fun _ _ k=>.inl k⟩
structure wV (P:Program) (f:FuncId) (args:Array Value) (F:aF) (Lin:List Own) (R:aF->List Own->Value->Prop) (Pp:aF->List Own->Value->Prop):Prop where
 ent:∃fn,P.funcs[f]?=some fn/\fn.body.isSome=true/\(fn.name == "runtime.NumGoroutine")=false
 mono:∀F G L v,F.le G->R F L v->R G L v
 run:∀w,St F (inp Lin) w->Calls P f args w fun e w'=>(∃v F' Lo,e=.returned v/\St F' (inp Lo) w'/\Step F (inp Lin) w F' (inp Lo) w'/\R F' Lo v) \/
  ∃v ch F' Lo,e=.panicked ch/\EC v ch/\St F' (inp Lo) w'/\Step F (inp Lin) w F' (inp Lo) w'/\Lo.length=Lin.length/\(∀(i:Nat) g t cs,Lin[i]?=some (.box g t cs)->∃cs',Lo[i]?=some (.box g t cs'))/\Pp F' Lo v
theorem ve.toS {P:Program}{f:FuncId}{args:Array Value}{F:aF}{Lin:List Own}{R:aF->List Own->Value->Prop}{Pp:Value->Prop}(h:ve P f args F Lin R Pp):wV P f args F Lin R (fun _ _=>Pp):=⟨h.ent,h.mono,h.run⟩
inductive X where
 | t (n:Nat)
 | c (v:Value)
 | fn (f:Nat)
 | mt (nm:String) (n:Nat)
 deriving Inhabited
def Tt (nm:String):SV->SV
 | .v x=>.v (.func (.method nm) #[x] #[])
 | .own _ _=>.v undef
 | .el _ _=>.v undef
def ev (ρ:Env):X->SV
 | .t n=>ρ n
 | .c v=>.v v
 | .fn f=>.v (.func (.func f) #[] #[])
 | .mt nm n=>Tt nm (ρ n)
def oV (P:Program) (t:TypeId) (nm:String):Option FuncId :=
 match P.info? t with
 | some i=>match i.methods.find? (·.name == nm) with
  | some m=>match m.path.toList,m.func with
   | [],some (f,a)=>match P.underlying t,a with
    | some (.pointer _),true=>some f
    | some (.pointer _),false=>none
    | some _,false=>some f
    | _,_=>none
   | _,_=>none
  | none=>none
 | none=>none
def PW:List (TypeId×String)->TypeId->String->Bool
 | [],_,_=>false
 | (t,nm)::l,b,a=>match Nat.beq t b,decide (nm=a) with | true,true=>true | _,_=>PW l b a
def PY (P:Program):Bool:=Hq.all fun x=>(oV P x.1 x.2).isSome
def mK (P:Program):SV->Option (Nat×List Value×List Value)
 | .v (.func (.func f) fi ca)=>some (f,fi.toList,ca.toList)
 | .v (.func (.method nm) fi ca)=>match fi.toList with
  | [.iface t u]=>match oV P t nm with
   | some f=>some (f,[u],[])
   | none=>none
  | _=>none
 | _=>none
def Am (P:Program) (f:SV) (args:List Value):Option (Nat×List Value) :=
 match f,args with
 | .v (.func (.methodOf t nm) ⟨[]⟩ _),.iface b u::a=>match P.underlying t with
  | some (.interface _)=>match oV P b nm with
   | some f=>some (f,u::a)
   | none=>none
  | _=>none
 | _,_=>none
def val (L:Loc) (ρ:Env) (x:X):Value:=conc L (ev ρ x)
inductive eY where
 | mov (x:X)
 | pick (c a b:X)
 | box (t:TypeId) (x:X)
 | boxF (t:TypeId) (x:X)
 | alloc (t:TypeId) (zs:List Value)
 | mkF (e:TypeId) (n sz:Nat) (xs:List X)
 | mkR (e:TypeId) (n sz:Nat) (xs:List X)
 | build (zs:List Value) (ps:List (Nat×Nat×X))
 | load (agg:Bool) (n:Nat) (x:X)
 | loadD (agg:Bool) (n:Nat) (x:X)
 | store (n:Nat) (a x:X)
 | nilck (x:X)
 | bin (op:BinOp) (x y:X)
 | eqB (neg:Bool) (x y:X)
 | eqP (neg:Bool) (x y:X)
 | eqS (neg:Bool) (x y:X)
 | eqF (neg:Bool) (x y:X)
 | eqN (neg:Bool) (x:X)
 | tas (t:TypeId) (z:Value) (x:X)
 | eqA (neg:Bool) (ks:List Bool) (x y:X)
 | un (op:UnOp) (x:X)
 | conv (k:IntKind) (x:X)
 | b2s (x:X)
 | s2b (e:TypeId) (x:X)
 | mkfn (f:Nat) (first cap:List X)
 | makeS (e:TypeId) (sz bytes:Nat) (zs:List Value) (l c:X)
 | slc (sz:Nat) (x:X) (lo hi:Option X)
 | slcS (x:X) (lo hi:Option X)
 | fieldA (off:Nat) (x:X)
 | fieldV (agg:Bool) (off n:Nat) (x:X)
 | idxA (sz:Nat) (x i:X)
 | idxS (x i:X)
 | extr (x:X) (i:Nat)
 | call (f:Nat) (args:List X)
 | callV (f:X) (args:List X)
 | callD (f:Nat) (args:List X)
 | boxD (t:TypeId) (x:X)
 | allocD (t:TypeId) (zs:List Value)
 | mkFD (e:TypeId) (n sz:Nat) (xs:List X)
 | callVD (f:X) (args:List X)
 | callO (f:Nat) (args:List X)
 | callVO (f:X) (args:List X)
 | len (x:X)
 | lenS (x:X)
 | capa (x:X)
 | mm (mx:Bool) (args:List X)
 | app (e:TypeId) (sz bytes:Nat) (zs:List Value) (s x:X)
 | appD (e:TypeId) (sz bytes:Nat) (zs:List Value) (s x:X)
 | storeD (n:Nat) (a x:X)
 | appX (e:TypeId) (sz bytes:Nat) (zs:List Value) (s x:X)
 | appS (e:TypeId) (s x:X)
 | appZ (e:TypeId) (bytes:Nat) (k:IntKind) (s x:X)
 | copy (e:TypeId) (sz:Nat) (d s:X)
 | mkif (t:TypeId) (x:X)
 | b2sD (x:X)
 | b2sR (x:X)
 | makeSD (e sz n:Nat) (zs:List Value)
 | makeSV (e sz b:Nat) (zs:List Value) (x:X)
 | loadK (key:Nat) (agg:Bool) (n:Nat) (x:X)
 | storeK (key n:Nat) (a x:X)
 | copyX (e:TypeId) (sz:Nat) (d s:X)
 | storeX (n:Nat) (a x:X)
 | pan (x:X)
 | gload (g:Nat)
 | look (x i:X)
 | mkmv (nm:String) (x:X)
 | loadF (agg:Bool) (n:Nat) (x:X)
 | loadR (agg:Bool) (n:Nat) (x:X)
 | mkmap
 | mlook (str ok:Bool) (z:Value) (x i:X)
 | mupd (str:Bool) (x i v:X)
 | mlen (x:X)
 | mrange (x:X)
 | mnext (x:X)
 | mentry (x:X)
 | dead
 deriving Inhabited
structure Zm where
 dst:Option Nat
 op:eY
 guard:Option (Nat×Bool)
 deriving Inhabited
abbrev dm:=aF->Loc->Env->Prop
def aR (cs:List Value) (off:Nat) (vs:List Value):List Value:=cs.take off++vs++cs.drop (off+vs.length)
structure Fit (k:IntKind) (n:Int) (K:Int->Prop):Prop where
 out:K (k.wrap n)
structure oG (n:Int) (K:Prop):Prop where
 ne:n≠0
 out:K
structure QY (i:Int) (n:Int) (K:Prop):Prop where
 lo:0<=i
 hi:i<n
 out:K
structure FO (a:Option Addr) (i:Int) (n:Int) (K:Prop):Prop where
 ne:a≠none
 lo:0<=i
 hi:i<n
 out:K
structure j8 (F:aF) (L:Loc) (a:Option Addr) (j n:Nat) (K:List Value->Prop):Prop where
 out:∃cs,cs.length=n/\(cg F a j cs\/(∃k v t sz m xs ad c,L.get k=some (.row v t sz m xs)/\a=some ad/\v=.slice (some ad) m c/\∀(i:Nat) (u:Value),cs[i]?=some u->xs[j+i]?=some u)\/n=0\/∃k g t bs o,L.get k=some (.box g t bs)/\t≠0/\a=some ⟨g,o,none⟩/\∀(i:Nat) (u:Value),cs[i]?=some u->bs[o+j+i]?=some u)/\K cs
structure Tv (F:aF) (g:Nat) (K:Value->Prop):Prop where
 out:∃v t fr,F g=some (.cells #[v] t fr)/\K v
structure jg (F:aF) (a:Option Addr) (j n:Nat) (K:List Value->Prop):Prop where
 out:∃cs,cs.length=n/\(cg F a j cs\/n=0)/\K cs
structure Bw (L:Loc) (a:Option Addr) (j:Nat) (cs:List Value) (K:Loc->Prop):Prop where
 out:∃k v t sz m xs ad c,L.get k=some (.row v t sz m xs)/\a=some ad/\v=.slice (some ad) m c/\j+cs.length<=xs.length/\(∀u∈cs,u.oneCell'=true) /\
  K (L.set k (.row v t sz m (aR xs j cs)))
structure uf (F:aF) (L:Loc) (a:Option Addr) (j:Nat) (cs:List Value) (K:Loc->Prop):Prop where
 out:Bw L a j cs K\/(cg F a j cs/\(∀u∈cs,u.oneCell'=true)/\K L)
def Loc.sub (L:Loc):List Nat->Option (List Own)
 | []=>some []
 | k::ks=>match L.get k,Loc.sub L ks with
  | some o,some l=>some (o::l)
  | _,_=>none
def Loc.aaf (L:Loc):List Nat->Loc
 | []=>L
 | k::ks=>Loc.aaf (L.del k) ks
def Loc.puts (L:Loc):List Nat->List Own->Loc
 | k::ks,o::l=>Loc.puts (L.set k o) ks l
 | _,_=>L
structure dQ (P:Program) (f:Nat) (args:List Value) (F:aF) (L:Loc) (K:aF->Loc->Value->Prop):Prop where
 out:∃(ks ko:List Nat) (Lin:List Own) (R:aF->List Own->Value->Prop),L.sub ks=some Lin/\ks.Nodup/\ko.Nodup/\(∀k,k∈ko->k∈ks\/L.get k=none)/\CallsA P f args.toArray F Lin R /\
  ∀v F' Lo,F.le F'->R F' Lo v->ko.length=Lo.length /\
   (∀k g t cs,k∈ks->L.get k=some (.box g t cs)->∃cs',Loc.get ((L.aaf ks).puts ko Lo) k=some (.box g t cs')) /\
   K F' ((L.aaf ks).puts ko Lo) v
def Real (F:aF) (L:Loc):Prop:=∃w,St F L w
inductive eV (P:Program) (f:Nat) (args:List Value) (F:aF) (L:Loc) (d:Option Nat) (K:aF->Loc->Value->Prop):Prop
 | frz (R:aF->List Own->Value->Prop) (h:CallsA P f args.toArray F [] R) (k:∀v F' Lo,F.le F'->R F' Lo v->Lo=[]/\(Real F' L->K F' L v))
 | own (R:aF->List Own->Value->Prop) (k:Nat) (h:CallsA P f args.toArray F [] R) (hd:d=some k) (hk:L.get k=none)
   (kk:∀v F' Lo,F.le F'->R F' Lo v->∃o,Lo=[o]/\(Real F' (L.set k o)->K F' (L.set k o) v))
 | row (R:aF->List Own->Value->Prop) (kr:Nat) (rv:Value) (t:TypeId) (sz n:Nat) (xs:List Value) (h:CallsA P f args.toArray F [.row rv t sz n xs] R) (hk:L.get kr=some (.row rv t sz n xs))
   (kk:∀v F' Lo,F.le F'->R F' Lo v->Lo=[]/\(Real F' (L.set kr (.row (.slice none 0 0) t sz 0 []))->K F' (L.set kr (.row (.slice none 0 0) t sz 0 [])) v))
 | lent (R:aF->Value->Prop) (kr:Nat) (rv:Value) (t:TypeId) (sz n:Nat) (xs:List Value) (h:CallsA P f args.toArray F [.row rv t sz n xs] (fun F' Lo v=>Lo=[.row rv t sz n xs]/\R F' v)) (hk:L.get kr=some (.row rv t sz n xs))
   (kk:∀v F',F.le F'->R F' v->Real F' L->K F' L v)
structure FP (F:aF) (L:Loc) (e:TypeId) (sz bytes:Nat) (s x:Value) (K:Loc->Value->Prop):Prop where
 out:∃(kd:Nat) (n:Nat) (xs:List Value) (m:Nat) (news:List Value),
  (L.get kd=some (.row s e sz n xs)\/(L.get kd=none/\n=0/\xs=[]/\s=.slice none 0 0)\/(L.get kd=none/\∃ad,s=.slice (some ad) n n/\0<m/\xs.length=n*sz/\(cg F (some ad) 0 xs\/(n=0/\xs=[])))) /\
  (∃a c,x=.slice a m c/\news.length=m*sz/\(cg F a 0 news\/(m=0/\news=[]) \/
    ∃k v t sz' m' ys ad c',L.get k=some (.row v t sz' m' ys)/\a=some ad/\v=.slice (some ad) m' c'/\∀(i:Nat) (u:Value),news[i]?=some u->ys[i]?=some u)) /\
  (∀u∈news,u.oneCell'=true)/\n+m<=maxLen/\(n+m)*bytes<=140737488355328 /\
  ∀v,(∃a c,v=.slice a (n+m) c/\(a=none->n+m=0))->K (L.set kd (.row v e sz (n+m) (xs++news))) v
structure qL (F:aF) (L:Loc) (d:Option Nat) (e:TypeId) (sz bytes:Nat) (s x:Value) (K:Loc->Value->Prop):Prop where
 out:∃(kd:Nat) (n:Nat) (xs:List Value) (m:Nat) (news:List Value),
  (L.get kd=some (.row s e sz n xs)\/(d=some kd/\L.get kd=none/\n=0/\xs=[]/\s=.slice none 0 0) \/
   (d=some kd/\L.get kd=none/\∃ad,s=.slice (some ad) n n/\0<m/\xs.length=n*sz/\(cg F (some ad) 0 xs\/(n=0/\xs=[])))) /\
  (∃a c,x=.slice a m c/\news.length=m*sz/\(cg F a 0 news\/(m=0/\news=[]))) /\
  (∀u∈news,u.oneCell'=true)/\n+m<=maxLen/\(n+m)*bytes<=140737488355328 /\
  ∀v,(∃a c,v=.slice a (n+m) c/\(a=none->n+m=0))->Real F (L.set kd (.row v e sz (n+m) (xs++news)))->K (L.set kd (.row v e sz (n+m) (xs++news))) v
structure QZ (L:Loc) (e:TypeId) (s:Value) (t:ByteArray) (K:Loc->Value->Prop):Prop where
 out:∃(kd:Nat) (n:Nat) (xs:List Value),
  (L.get kd=some (.row s e 1 n xs)\/(L.get kd=none/\n=0/\xs=[]/\s=.slice none 0 0)) /\
  n+t.size<=maxLen/\(n+t.size)<=140737488355328 /\
  ∀v,(∃a c,v=.slice a (n+t.size) c/\(a=none->n+t.size=0))->K (L.set kd (.row v e 1 (n+t.size) (xs++t.data.toList.map fun b=>Value.int .u8 b.toNat))) v
structure Jc (L:Loc) (e:TypeId) (bytes:Nat) (ki:IntKind) (s:Value) (m:Nat) (K:Loc->Value->Prop):Prop where
 out:∃(kd:Nat) (n:Nat) (xs:List Value),
  (L.get kd=some (.row s e 1 n xs)\/(L.get kd=none/\n=0/\xs=[]/\s=.slice none 0 0)) /\
  n+m<=maxLen/\(n+m)*bytes<=140737488355328 /\
  ∀v,(∃a c,v=.slice a (n+m) c/\(a=none->n+m=0))->K (L.set kd (.row v e 1 (n+m) (xs++List.replicate m (.int ki 0)))) v
structure Bx (F:aF) (L:Loc) (e:TypeId) (sz:Nat) (d x:Value) (K:Loc->Nat->Prop):Prop where
 out:(∃(k n:Nat) (v:Value) (nr:Nat) (xs:List Value) (ad:Addr) (cr cd j m:Nat) (a:Option Addr) (c:Nat) (news:List Value),
  L.get k=some (.row v e sz nr xs)/\v=.slice (some ad) nr cr/\d=.slice (some (ad.add (j*sz))) n cd/\j+n<=nr /\
  x=.slice a m c/\news.length=(min m n)*sz/\(cg F a 0 news\/(min m n=0/\news=[]))/\(∀u∈news,u.oneCell'=true) /\
  K (L.set k (.row v e sz nr (aR xs (j*sz) news))) (min m n)) \/
  ∃(da:Option Addr) (n cd:Nat) (a:Option Addr) (m c:Nat),d=.slice da n cd/\x=.slice a m c/\min m n=0/\K L 0
structure MC (L:Loc) (e:TypeId) (d:Value) (t:ByteArray) (K:Loc->Nat->Prop):Prop where
 out:∃(k n:Nat) (v:Value) (nr:Nat) (xs:List Value) (ad:Addr) (cr cd j:Nat),
  L.get k=some (.row v e 1 nr xs)/\v=.slice (some ad) nr cr/\d=.slice (some (ad.add j)) n cd/\j+n<=nr /\
  K (L.set k (.row v e 1 nr (aR xs j ((t.data.toList.take n).map fun b=>Value.int .u8 b.toNat)))) (min t.size n)
structure Bz (cs:List Value) (K:List UInt8->Prop):Prop where
 out:∃bs:List UInt8,cs=bs.map (fun b=>Value.int .u8 b.toNat)/\K bs
structure VD (L:Loc) (a:Option Addr) (n:Nat) (K:List UInt8->Prop):Prop where
 out:∃k t c,∃bs:List UInt8,L.get k=some (.row (.slice a n c) t 1 n (bs.map (fun b=>Value.int .u8 b.toNat)))/\bs.length=n/\(a=none->n=0)/\K bs
def og:List Value->Bool
 | .tuple _::_=>false
 | _=>true
def gD:Bool->Value->Value->Option Bool
 | false,.int .i64 a,.int .i64 b=>some (decide (a=b))
 | true,.string a,.string b=>some (decide (a.data.toList=b.data.toList))
 | _,_,_=>none
def nk (str:Bool) (key:Value):List Value->Nat->Option (Option (Nat×Value))
 | [],_=>some none
 | .agg ⟨[k,v]⟩::l,i=>match gD str key k with
  | some true=>some (some (i,v))
  | some false=>nk str key l (i+1)
  | none=>none
 | _::_,_=>none
def xR (str:Bool) (key val:Value):List Value->Option (List Value)
 | []=>some [.agg #[key,val]]
 | .agg ⟨[k,v]⟩::l=>match gD str key k with
  | some true=>some (.agg #[key,val]::l)
  | some false=>match xR str key val l with | some l'=>some (.agg #[k,v]::l') | none=>none
  | none=>none
 | _::_=>none
structure CU (L:Loc) (g:Nat) (K:Nat->List Value->Prop):Prop where
 out:∃k cs,L.get k=some (.box g 0 cs)/\og cs=true/\K k cs
structure FQ (str:Bool) (cs:List Value) (key:Value) (ok:Bool) (z:Value) (K:Value->Prop):Prop where
 out:(∃i v,nk str key cs 0=some (some (i,v))/\K (match ok with | true=>.tuple #[v,.bool true] | false=>v))\/(nk str key cs 0=some none/\K (match ok with | true=>.tuple #[z,.bool false] | false=>z))
structure Q0 (str:Bool) (cs:List Value) (key val:Value) (K:List Value->Prop):Prop where
 isKey:gD str key key=some true
 out:∃cs',xR str key val cs=some cs'/\K cs'
structure Q5 (L:Loc) (k gi g n:Nat) (seen:List Value) (K:Loc->Value->Prop):Prop where
 out:∃km cs,L.get km=some (.box g 0 cs)/\og cs=true/\cs.length=n/\(∀j e,cs[j]?=some e->j∉seen.map jM->K (L.set k (.box gi 0 (.tuple #[.map (some g),.int .i64 n]::(seen++[.int .i64 j])))) (.tuple #[.bool true,(hU e j).key,(hU e j).val])) /\
  ((∀j,j<n->j∈seen.map jM)->K L (.tuple #[.bool false]))
structure MD (L:Loc) (g n:Nat) (seen:List Value) (K:Value->Prop):Prop where
 out:∃km cs j e,L.get km=some (.box g 0 cs)/\og cs=true/\cs.length=n/\seen.getLast?=some (.int .i64 (.ofNat j))/\cs[j]?=some e/\K (.tuple #[(hU e j).key,(hU e j).val])
structure Q6 (F:aF) (mv:Value) (n:Int) (K:Int->Bool->Prop):Prop where
 out:∃k r b,j7 k F mv/\wU k n=some (r,b)/\K r b
structure vg (n c:Int) (bytes:Nat) (K:Nat->Prop):Prop where
 lo:0<=n
 le:n<=c
 hi:c.toNat*bytes<=140737488355328
 max:c.toNat<=maxLen
 out:K n.toNat
structure oh (l h:Int) (c:Nat) (K:Nat->Nat->Prop):Prop where
 lo:0<=l
 le:l<=h
 hi:h<=c
 out:K l.toNat h.toNat
abbrev xS:Bool->Prop->Prop->Prop
 | true,A,_=>A
 | false,_,B=>B
def aM:Value->List Value
 | .agg cs=>cs.toList
 | v=>[v]
def bE (L:Loc) (ρ:Env):List X->List Value
 | []=>[]
 | x::xs=>val L ρ x::bE L ρ xs
def cellsOf (L:Loc) (ρ:Env):List X->List Value
 | []=>[]
 | x::xs=>aM (val L ρ x)++cellsOf L ρ xs
def gZ (agg:Bool) (cs:List Value):Value :=
 match agg,cs with
 | true,cs=>.agg cs.toArray
 | false,[v]=>v
 | false,_=>undef
def fZ:List Value->Nat->Bool
 | [],0=>true
 | _::l,n+1=>fZ l n
 | _,_=>false
def jz (t:TypeId) (l:List Value) (n:Nat):Bool:=match Nat.beq t 0 with | true=>false | false=>fZ l n
def ga (L:Loc) (ρ:Env) (sz:Nat):List X->Bool
 | []=>true
 | x::xs=>match fZ (aM (val L ρ x)) sz with | true=>ga L ρ sz xs | false=>false
def jQ:List Value->Bool
 | []=>true
 | v::l=>match v.oneCell' with | true=>jQ l | false=>false
def lS:Bool->Bool->Bool
 | true,b=>!b
 | false,b=>b
def ug (a b:ByteArray):Bool:=decide (a.data.toList=b.data.toList)
def P0 (a b:ByteArray):Bool:=Op.bytesLess a.data.toList b.data.toList
def built (L:Loc) (ρ:Env):List Value->List (Nat×Nat×X)->Option (List Value)
 | zs,[]=>some zs
 | zs,(off,n,x)::ps=>match fZ (aM (val L ρ x)) n with
  | true=>built L ρ (aR zs off (aM (val L ρ x))) ps
  | false=>none
def P1 (mx:Bool):Int->List SV->Option Int
 | a,[]=>some a
 | a,.v (.int _ b)::l=>P1 mx (match mx with | true=>if b>a then b else a | false=>if b<a then b else a) l
 | _,_=>none
def gK (a:Option Addr) (c l h sz:Nat):Value:=.slice (if c=l then a else a.map (·.add (l*sz))) (h-l) (c-l)
def jZ (ρ:Env) (d:Int):Option X->Option Int
 | none=>some d
 | some x=>match ev ρ x with | .v (.int _ i)=>some i | _=>none
def nu:Value->Nat
 | .int _ m=>m.toNat
 | _=>0
def uh (b:Nat):Value->Bool
 | .int _ m=>Nat.ble (m.toNat*b) 140737488355328&&Nat.ble m.toNat 9223372036854775807&&decide (0<=m)
 | _=>false
theorem CV {b:Nat}{v:Value}(h:uh b v=true):∃k m,v=.int k m/\0<=m/\nu v=m.toNat/\m.toNat*b<=140737488355328/\m.toNat<=maxLen:=by
 cases v<;>simp only[uh] at h<;>try (cases h;done)
 rename_i k m;simp only[yo,abw] at h;exact⟨k,m,rfl,h.2,rfl,aa3 h.1.1,aa3 h.1.2⟩
theorem Hr {b:Nat}{v:Value}(h:uh b v=true):nu v<=maxLen:=by
 obtain⟨k,m,rfl,_,e,_,a⟩:=CV h;rw[e];exact a
def binI (op:BinOp) (k:IntKind) (a b:Int) (K:Value->Prop):Prop :=
 match op with
 | .add=>Fit k (a+b) fun n=>K (.int k n)
 | .sub=>Fit k (a-b) fun n=>K (.int k n)
 | .mul=>Fit k (a*b) fun n=>K (.int k n)
 | .quo=>oG b (Fit k (a.tdiv b) fun n=>K (.int k n))
 | .rem=>oG b (K (.int k (a.tmod b)))
 | .and=>K (.int k (k.wrap (BitVec.ofInt k.bits a &&& BitVec.ofInt k.bits b).toNat))
 | .or=>K (.int k (k.wrap (BitVec.ofInt k.bits a ||| BitVec.ofInt k.bits b).toNat))
 | .xor=>K (.int k (k.wrap (BitVec.ofInt k.bits a ^^^ BitVec.ofInt k.bits b).toNat))
 | .andNot=>K (.int k (k.wrap (BitVec.ofInt k.bits a &&& ~~~ BitVec.ofInt k.bits b).toNat))
 | .eql=>K (.bool (decide (a=b)))
 | .neq=>K (.bool (!decide (a=b)))
 | .lss=>K (.bool (decide (a<b)))
 | .leq=>K (.bool (decide (a<=b)))
 | .gtr=>K (.bool (decide (b<a)))
 | .geq=>K (.bool (decide (b<=a)))
 | _=>False
def shI (op:BinOp) (k:IntKind) (a b:Int) (K:Value->Prop):Prop :=
 match op with
 | .shl=>0<=b/\Fit k (a*2 ^ (min b.toNat k.bits)) fun n=>K (.int k n)
 | .shr=>0<=b/\K (.int k (a.fdiv (2 ^ (min b.toNat k.bits))))
 | _=>False
def binS (op:BinOp) (a b:ByteArray) (K:Value->Prop):Prop :=
 match op with
 | .add=>((a.size+b.size:Nat):Int)<=IntKind.i64.max/\K (.string (a++b))
 | .eql=>K (.bool (ug a b))
 | .neq=>K (.bool (!ug a b))
 | .lss=>K (.bool (P0 a b))
 | .geq=>K (.bool (!P0 a b))
 | _=>False
def qM:IntKind->IntKind->Bool
 | .i64,.i64=>true | .u8,.u8=>true | .u64,.u64=>true | .i32,.i32=>true | .u16,.u16=>true | .u32,.u32=>true | .i8,.i8=>true | .i16,.i16=>true
 | _,_=>false
def Jd:BinOp->Bool
 | .shl | .shr=>true
 | _=>false
def jA:List Bool->List Value->List Value->Bool->Option Bool
 | [],[],[],c=>some c
 | true::ks,.int k a::l,.int e b::d,c=>match qM k e with | true=>jA ks l d (c&&decide (a=b)) | false=>none
 | false::ks,.bool a::l,.bool b::d,c=>jA ks l d (c&&decide (a=b))
 | _,_,_,_=>none
def aN (o:eY) (F:aF) (L:Loc) (ρ:Env) (V:SV->Prop):Prop :=
 match o with
 | .mov x=>V (ev ρ x)
 | .pick c a b=>match ev ρ c with
  | .v (.bool true)=>V (ev ρ a)
  | .v (.bool false)=>V (ev ρ b)
  | _=>False
 | .build zs ps=>match built L ρ zs ps with
  | some cs=>V (.v (.agg cs.toArray))
  | none=>False
 | .load agg n x=>match ev ρ x with
  | .own k off=>match L.get k with
   | some (.box _ t cs)=>match jz t ((cs.drop off).take n) n with
    | true=>V (.v (gZ agg ((cs.drop off).take n)))
    | false=>False
   | _=>False
  | .el a j=>j8 F L a j n fun cs=>V (.v (gZ agg cs))
  | .v (.pointer (some a))=>j8 F L (some a) 0 n fun cs=>V (.v (gZ agg cs))
  | _=>False
 | .loadR agg n x=>match ev ρ x with
  | .own k off=>match L.get k with
   | some (.box _ t cs)=>match jz t ((cs.drop off).take n) n with
    | true=>V (.v (gZ agg ((cs.drop off).take n)))
    | false=>False
   | _=>False
  | .el a j=>j8 F L a j n fun cs=>V (.v (gZ agg cs))
  | .v (.pointer (some a))=>j8 F L (some a) 0 n fun cs=>V (.v (gZ agg cs))
  | _=>False
 | .nilck x=>match ev ρ x with
  | .own k off=>V (.own k off)
  | .el a j=>a≠none/\V (.el a j)
  | .v (.pointer (some a))=>V (.v (.pointer (some a)))
  | .v (.func (.func f) fi ca)=>V (.v (.func (.func f) fi ca))
  | .v (.func (.method nm) fi ca)=>match fi.toList with
   | [.iface t u]=>PW Hq t nm=true/\V (.v (.func (.method nm) fi ca))
   | _=>False
  | _=>False
 | .mkmv nm x=>match ev ρ x with
  | .v v=>V (.v (.func (.method nm) #[v] #[]))
  | _=>False
 | .bin op x y=>match ev ρ x,ev ρ y with
  | .v (.int k a),.v (.int p b)=>match Jd op with
   | true=>shI op k a b fun v=>V (.v v)
   | false=>match qM k p with
    | true=>binI op k a b fun v=>V (.v v)
    | false=>False
  | .v (.string a),.v (.string b)=>binS op a b fun v=>V (.v v)
  | _,_=>False
 | .eqB neg x y=>match ev ρ x,ev ρ y with
  | .v (.bool a),.v (.bool b)=>V (.v (.bool (lS neg (decide (a=b)))))
  | _,_=>False
 | .eqP neg x y=>match ev ρ x,ev ρ y with
  | .own _ _,.v (.pointer none)=>V (.v (.bool (lS neg false)))
  | .el (some _) _,.v (.pointer none)=>V (.v (.bool (lS neg false)))
  | .v (.pointer a),.v (.pointer none)=>V (.v (.bool (lS neg a.isNone)))
  | _,_=>False
 | .eqS neg x y=>match ev ρ x,ev ρ y with
  | .v (.slice a _ _),.v (.slice none _ _)=>V (.v (.bool (lS neg a.isNone)))
  | _,_=>False
 | .eqF neg x y=>match ev ρ x,ev ρ y with
  | .v .nilFunc,.v .nilFunc=>V (.v (.bool (lS neg true)))
  | .v (.func _ _ _),.v .nilFunc=>V (.v (.bool (lS neg false)))
  | _,_=>False
 | .eqN neg x=>match ev ρ x with
  | .v .nilIface=>V (.v (.bool (lS neg true)))
  | .v (.iface _ _)=>V (.v (.bool (lS neg false)))
  | _=>False
 | .tas t z x=>match ev ρ x with
  | .v .nilIface=>V (.v (.tuple #[z,.bool false]))
  | .v (.iface e u)=>match Nat.beq e t with
   | true=>V (.v (.tuple #[u,.bool true]))
   | false=>V (.v (.tuple #[z,.bool false]))
  | _=>False
 | .eqA neg ks x y=>match ev ρ x,ev ρ y with
  | .v (.agg cs),.v (.agg ds)=>match jA ks cs.toList ds.toList true with
   | some b=>V (.v (.bool (lS neg b)))
   | none=>False
  | _,_=>False
 | .un op x=>match op,ev ρ x with
  | .not,.v (.bool b)=>V (.v (.bool (!b)))
  | .neg,.v (.int k n)=>Fit k (0-n) fun m=>V (.v (.int k m))
  | .xor,.v (.int k n)=>V (.v (.int k (k.wrap (BitVec.ofInt k.bits (if k.signed then -1 else k.max) ^^^ BitVec.ofInt k.bits n).toNat)))
  | _,_=>False
 | .conv k x=>match ev ρ x with
  | .v (.int _ n)=>Fit k n fun m=>V (.v (.int k m))
  | _=>False
 | .b2s x=>match ev ρ x with
  | .v (.slice a n _)=>j8 F L a 0 n fun cs=>Bz cs fun bs=>V (.v (.string ⟨bs.toArray⟩))
  | _=>False
 | .mkfn f fi ca=>V (.v (.func (.func f) (bE L ρ fi).toArray (bE L ρ ca).toArray))
 | .slc sz x lo hi=>match ev ρ x with
  | .v (.slice a n c)=>match jZ ρ 0 lo,jZ ρ n hi with
   | some l,some h=>oh l h c fun l h=>V (.v (gK a c l h sz))
   | _,_=>False
  | _=>False
 | .slcS x lo hi=>match ev ρ x with
  | .v (.string s)=>match jZ ρ 0 lo,jZ ρ s.size hi with
   | some l,some h=>oh l h s.size fun l h=>V (.v (.string (s.extract l h)))
   | _,_=>False
  | _=>False
 | .fieldA off x=>match ev ρ x with
  | .own k o=>V (.own k (o+off))
  | .el a j=>V (.el a (j+off))
  | .v (.pointer (some a))=>V (.el (some a) off)
  | _=>False
 | .fieldV agg off n x=>match ev ρ x with
  | .v (.agg cs)=>match fZ ((cs.toList.drop off).take n) n with
   | true=>V (.v (gZ agg ((cs.toList.drop off).take n)))
   | false=>False
  | _=>False
 | .idxA sz x i=>match ev ρ x,ev ρ i with
  | .v (.slice a n _),.v (.int _ i)=>FO a i n (V (.el a (i.toNat*sz)))
  | _,_=>False
 | .idxS x i=>match ev ρ x,ev ρ i with
  | .v (.string s),.v (.int _ i)=>QY i s.size (V (.v (.int .u8 ((s.data.toList.getD i.toNat 0).toNat))))
  | _,_=>False
 | .extr x i=>match ev ρ x with
  | .v (.tuple vs)=>match vs.toList[i]? with
   | some v=>V (.v v)
   | none=>False
  | _=>False
 | .len x=>match ev ρ x with
  | .v (.slice _ n _)=>V (.v (.int .i64 n))
  | _=>False
 | .lenS x=>match ev ρ x with
  | .v (.string s)=>V (.v (.int .i64 s.size))
  | _=>False
 | .capa x=>match ev ρ x with
  | .v (.slice _ _ c)=>V (.v (.int .i64 c))
  | _=>False
 | .mm mx args=>match args.map (ev ρ) with
  | .v (.int k a)::l=>match P1 mx a l with
   | some m=>V (.v (.int k m))
   | none=>False
  | _=>False
 | .loadD agg n x=>match ev ρ x with
  | .own k off=>match L.get k with
   | some (.box _ t cs)=>match jz t ((cs.drop off).take n) n with
    | true=>V (.v (gZ agg ((cs.drop off).take n)))
    | false=>False
   | _=>False
  | .el a j=>jg F a j n fun cs=>V (.v (gZ agg cs))
  | .v (.pointer (some a))=>jg F (some a) 0 n fun cs=>V (.v (gZ agg cs))
  | _=>False
 | .gload g=>Tv F g fun v=>V (.v v)
 | .loadF agg n x=>match ev ρ x with
  | .el a j=>jg F a j n fun cs=>V (.v (gZ agg cs))
  | .v (.pointer (some a))=>jg F (some a) 0 n fun cs=>V (.v (gZ agg cs))
  | _=>False
 | .mkif t x=>match ev ρ x with
  | .v v=>V (.v (.iface t v))
  | .el (some d) j=>V (.v (.iface t (.pointer (some (d.add j)))))
  | .own k off=>match L.get k with
   | some (.box g _ _)=>V (.v (.iface t (.pointer (some ⟨g,off,none⟩))))
   | _=>False
  | _=>False
 | .b2sD x=>match ev ρ x with
  | .v (.slice a n _)=>jg F a 0 n fun cs=>Bz cs fun bs=>V (.v (.string ⟨bs.toArray⟩))
  | _=>False
 | .b2sR x=>match ev ρ x with
  | .v (.slice a n _)=>VD L a n fun bs=>V (.v (.string ⟨bs.toArray⟩))
  | _=>False
 | .mlook str ok z x i=>match ev ρ x with
  | .v (.map (some g))=>CU L g fun _ cs=>FQ str cs (val L ρ i) ok z fun v=>V (.v v)
  | _=>False
 | .mlen x=>match ev ρ x with
  | .v (.map (some g))=>CU L g fun _ cs=>V (.v (.int .i64 cs.length))
  | _=>False
 | .loadK key agg n x=>match ev ρ x with
  | .own k off=>match Nat.beq k key with
   | true=>match L.get k with
    | some (.box _ t cs)=>match jz t ((cs.drop off).take n) n with
     | true=>V (.v (gZ agg ((cs.drop off).take n)))
     | false=>False
    | _=>False
   | false=>False
  | _=>False
 | _=>False
def evalOp (P:Program) (o:eY) (d:Option Nat) (F:aF) (L:Loc) (ρ:Env) (K:dm):Prop :=
 match o with
 | .mov x=>aN (.mov x) F L ρ fun v=>K F L (put d v ρ)
 | .pick c a b=>aN (.pick c a b) F L ρ fun v=>K F L (put d v ρ)
 | .box t x=>match d with
  | some k=>match L.get k with
   | none=>∀g,K F (L.set k (.box g t (aM (val L ρ x)))) (put d (.own k 0) ρ)
   | some _=>False
  | none=>False
 | .boxF t x=>∀g F',F.le F'->F' g=some (.cells (aM (val L ρ x)).toArray t (0,0))->K F' L (put d (.v (.pointer (some ⟨g,0,none⟩))) ρ)
 | .alloc t zs=>match d with
  | some k=>match L.get k with
   | none=>∀g,K F (L.set k (.box g t zs)) (put d (.own k 0) ρ)
   | some _=>False
  | none=>False
 | .mkF e n sz xs=>match ga L ρ sz xs with
  | true=>∀g F',F.le F'->F' g=some (.cells (cellsOf L ρ xs).toArray e (0,0))->K F' L (put d (.v (.slice (some ⟨g,0,none⟩) n n)) ρ)
  | false=>False
 | .mkR e n sz xs=>match ga L ρ sz xs,d with
  | true,some k=>match L.get k with
   | none=>∀g,K F (L.set k (.row (.slice (some ⟨g,0,none⟩) n n) e sz n (cellsOf L ρ xs))) (put d (.v (.slice (some ⟨g,0,none⟩) n n)) ρ)
   | some _=>False
  | _,_=>False
 | .build zs ps=>aN (.build zs ps) F L ρ fun v=>K F L (put d v ρ)
 | .load agg n x=>aN (.load agg n x) F L ρ fun v=>K F L (put d v ρ)
 | .store n a x=>match fZ (aM (val L ρ x)) n,jQ (aM (val L ρ x)),ev ρ a with
  | true,true,.own k off=>match L.get k with
   | some (.box g t cs)=>match jz t ((cs.drop off).take n) n with
    | true=>K F (L.set k (.box g t (aR cs off (aM (val L ρ x))))) (put d (.v undef) ρ)
    | false=>False
   | _=>False
  | true,true,.el q j=>uf F L q j (aM (val L ρ x)) fun L'=>K F L' (put d (.v undef) ρ)
  | true,true,.v (.pointer (some q))=>uf F L (some q) 0 (aM (val L ρ x)) fun L'=>K F L' (put d (.v undef) ρ)
  | _,_,_=>False
 | .nilck x=>aN (.nilck x) F L ρ fun v=>K F L (put d v ρ)
 | .mkmv nm x=>aN (.mkmv nm x) F L ρ fun v=>K F L (put d v ρ)
 | .mkif t x=>aN (.mkif t x) F L ρ fun v=>K F L (put d v ρ)
 | .pan _=>False
 | .dead=>False
 | .bin op x y=>aN (.bin op x y) F L ρ fun v=>K F L (put d v ρ)
 | .eqB neg x y=>aN (.eqB neg x y) F L ρ fun v=>K F L (put d v ρ)
 | .eqP neg x y=>aN (.eqP neg x y) F L ρ fun v=>K F L (put d v ρ)
 | .eqS neg x y=>aN (.eqS neg x y) F L ρ fun v=>K F L (put d v ρ)
 | .eqF neg x y=>aN (.eqF neg x y) F L ρ fun v=>K F L (put d v ρ)
 | .eqN neg x=>aN (.eqN neg x) F L ρ fun v=>K F L (put d v ρ)
 | .tas t z x=>aN (.tas t z x) F L ρ fun v=>K F L (put d v ρ)
 | .eqA neg ks x y=>aN (.eqA neg ks x y) F L ρ fun v=>K F L (put d v ρ)
 | .un op x=>aN (.un op x) F L ρ fun v=>K F L (put d v ρ)
 | .conv k x=>aN (.conv k x) F L ρ fun v=>K F L (put d v ρ)
 | .b2s x=>aN (.b2s x) F L ρ fun v=>K F L (put d v ρ)
 | .s2b _ x=>match ev ρ x with
  | .v (.string s)=>∀g c F',F.le F'->cg F' (some ⟨g,0,none⟩) 0 (s.data.toList.map fun b=>Value.int .u8 b.toNat)->s.size<=c->K F' L (put d (.v (.slice (some ⟨g,0,none⟩) s.size c)) ρ)
  | _=>False
 | .mkfn f fi ca=>aN (.mkfn f fi ca) F L ρ fun v=>K F L (put d v ρ)
 | .makeS e sz bytes zs l c=>match ev ρ l,ev ρ c,d with
  | .v (.int _ n),.v (.int _ m),some k=>match L.get k with
   | none=>vg n m bytes fun n=>∀g,K F (L.set k (.row (.slice (some ⟨g,0,none⟩) n m.toNat) e sz n (List.replicate n zs).flatten)) (put d (.v (.slice (some ⟨g,0,none⟩) n m.toNat)) ρ)
   | some _=>False
  | _,_,_=>False
 | .slc sz x lo hi=>aN (.slc sz x lo hi) F L ρ fun v=>K F L (put d v ρ)
 | .slcS x lo hi=>aN (.slcS x lo hi) F L ρ fun v=>K F L (put d v ρ)
 | .fieldA off x=>aN (.fieldA off x) F L ρ fun v=>K F L (put d v ρ)
 | .fieldV agg off n x=>aN (.fieldV agg off n x) F L ρ fun v=>K F L (put d v ρ)
 | .idxA sz x i=>aN (.idxA sz x i) F L ρ fun v=>K F L (put d v ρ)
 | .idxS x i=>aN (.idxS x i) F L ρ fun v=>K F L (put d v ρ)
 | .extr x i=>aN (.extr x i) F L ρ fun v=>K F L (put d v ρ)
 | .call f args=>dQ P f (bE L ρ args) F L fun F' L' v=>K F' L' (put d (.v v) ρ)
 | .callV f args=>match mK P (ev ρ f) with
  | some (f,fi,ca)=>dQ P f (fi++bE L ρ args++ca) F L fun F' L' v=>K F' L' (put d (.v v) ρ)
  | none=>match Am P (ev ρ f) (bE L ρ args) with
   | some (f,args)=>dQ P f args F L fun F' L' v=>K F' L' (put d (.v v) ρ)
   | none=>False
 | .gload g=>aN (.gload g) F L ρ fun v=>K F L (put d v ρ)
 | .look x i=>match ev ρ x,ev ρ i with
  | .v mv,.v (.int .i64 n)=>Q6 F mv n fun r b=>K F L (put d (.v (.tuple #[.int .i64 r,.bool b])) ρ)
  | _,_=>False
 | .mkmap=>match d with
  | some k=>match L.get k with
   | none=>∀g,K F (L.set k (.box g 0 [])) (put d (.v (.map (some g))) ρ)
   | some _=>False
  | none=>False
 | .mlook str ok z x i=>aN (.mlook str ok z x i) F L ρ fun v=>K F L (put d v ρ)
 | .mlen x=>aN (.mlen x) F L ρ fun v=>K F L (put d v ρ)
 | .mupd str x i v=>match ev ρ x with
  | .v (.map (some g))=>CU L g fun k cs=>Q0 str cs (val L ρ i) (val L ρ v) fun cs'=>K F (L.set k (.box g 0 cs')) (put d (.v undef) ρ)
  | _=>False
 | .mrange x=>match ev ρ x,d with
  | .v (.map (some g)),some k=>match L.get k with
   | none=>CU L g fun _ cs=>∀w,K F (L.set k (.box w 0 [.tuple #[.map (some g),.int .i64 cs.length]])) (put d (.own k 0) ρ)
   | some _=>False
  | _,_=>False
 | .mnext x=>match ev ρ x with
  | .own k 0=>match L.get k with
   | some (.box w 0 (.tuple ⟨[.map (some g),.int .i64 (.ofNat n)]⟩::h))=>Q5 L k w g n h fun L' v=>K F L' (put d (.v v) ρ)
   | _=>False
  | _=>False
 | .mentry x=>match ev ρ x with
  | .own k 0=>match L.get k with
   | some (.box w 0 (.tuple ⟨[.map (some g),.int .i64 (.ofNat n)]⟩::h))=>MD L g n h fun v=>K F L (put d (.v v) ρ)
   | _=>False
  | _=>False
 | .len x=>aN (.len x) F L ρ fun v=>K F L (put d v ρ)
 | .lenS x=>aN (.lenS x) F L ρ fun v=>K F L (put d v ρ)
 | .capa x=>aN (.capa x) F L ρ fun v=>K F L (put d v ρ)
 | .mm mx args=>aN (.mm mx args) F L ρ fun v=>K F L (put d v ρ)
 | .app e sz bytes _ s x=>match ev ρ s,ev ρ x with
  | .v sv,.v p=>FP F L e sz bytes sv p fun L1 v=>K F L1 (put d (.v v) ρ)
  | _,_=>False
 | .appX e sz bytes _ s x=>match ev ρ s,ev ρ x with
  | .v sv,.v p=>FP F L e sz bytes sv p fun L1 v=>Real F L1->K F L1 (put d (.v v) ρ)
  | _,_=>False
 | .appD e sz bytes _ s x=>match ev ρ s,ev ρ x with
  | .v sv,.v p=>qL F L d e sz bytes sv p fun L1 v=>K F L1 (put d (.v v) ρ)
  | _,_=>False
 | .appS e s x=>match ev ρ s,ev ρ x with
  | .v sv,.v (.string t)=>QZ L e sv t fun L1 v=>K F L1 (put d (.v v) ρ)
  | _,_=>False
 | .appZ e bytes ki s x=>match ev ρ s,ev ρ x with
  | .v sv,.v (.int _ i)=>match i with
   | .ofNat m=>Jc L e bytes ki sv m fun L1 v=>K F L1 (put d (.v v) ρ)
   | .negSucc _=>False
  | _,_=>False
 | .copy e sz dd x=>match ev ρ dd,ev ρ x with
  | .v u,.v (.string t)=>MC L e u t fun L1 n=>K F L1 (put d (.v (.int .i64 n)) ρ)
  | .v u,.v p=>Bx F L e sz u p fun L1 n=>K F L1 (put d (.v (.int .i64 n)) ρ)
  | _,_=>False
 | .storeD n a x=>match fZ (aM (val L ρ x)) n,jQ (aM (val L ρ x)),ev ρ a with
  | true,true,.own k off=>match L.get k with
   | some (.box g t cs)=>match jz t ((cs.drop off).take n) n with
    | true=>K F (L.set k (.box g t (aR cs off (aM (val L ρ x))))) (put d (.v undef) ρ)
    | false=>False
   | _=>False
  | _,_,_=>False
 | .storeK key n a x=>match fZ (aM (val L ρ x)) n,jQ (aM (val L ρ x)),ev ρ a with
  | true,true,.own k off=>match Nat.beq k key with
   | true=>match L.get k with
    | some (.box g t cs)=>match jz t ((cs.drop off).take n) n with
     | true=>K F (L.set k (.box g t (aR cs off (aM (val L ρ x))))) (put d (.v undef) ρ)
     | false=>False
    | _=>False
   | false=>False
  | _,_,_=>False
 | .loadD agg n x=>aN (.loadD agg n x) F L ρ fun v=>K F L (put d v ρ)
 | .loadF agg n x=>aN (.loadF agg n x) F L ρ fun v=>K F L (put d v ρ)
 | .loadR agg n x=>aN (.loadR agg n x) F L ρ fun v=>K F L (put d v ρ)
 | .loadK key agg n x=>aN (.loadK key agg n x) F L ρ fun v=>K F L (put d v ρ)
 | .b2sD x=>aN (.b2sD x) F L ρ fun v=>K F L (put d v ρ)
 | .b2sR x=>aN (.b2sR x) F L ρ fun v=>K F L (put d v ρ)
 | .makeSD e sz n zs=>match d with
  | some k=>match L.get k,fZ zs sz,Nat.ble n 9223372036854775807 with
   | none,true,true=>∀g,Real F (L.set k (.row (.slice (some ⟨g,0,none⟩) n n) e sz n (List.replicate n zs).flatten))->K F (L.set k (.row (.slice (some ⟨g,0,none⟩) n n) e sz n (List.replicate n zs).flatten)) (put d (.v (.slice (some ⟨g,0,none⟩) n n)) ρ)
   | _,_,_=>False
  | none=>False
 | .makeSV e sz b zs x=>match d with
  | some k=>match L.get k,fZ zs sz,uh b (val L ρ x) with
   | none,true,true=>∀g,Real F (L.set k (.row (.slice (some ⟨g,0,none⟩) (nu (val L ρ x)) (nu (val L ρ x))) e sz (nu (val L ρ x)) (List.replicate (nu (val L ρ x)) zs).flatten))->K F (L.set k (.row (.slice (some ⟨g,0,none⟩) (nu (val L ρ x)) (nu (val L ρ x))) e sz (nu (val L ρ x)) (List.replicate (nu (val L ρ x)) zs).flatten)) (put d (.v (.slice (some ⟨g,0,none⟩) (nu (val L ρ x)) (nu (val L ρ x)))) ρ)
   | _,_,_=>False
  | none=>False
 | .copyX e sz dd x=>match ev ρ dd,ev ρ x with
  | .v u,.v p=>Bx F L e sz u p fun L1 n=>Real F L1->K F L1 (put d (.v (.int .i64 n)) ρ)
  | _,_=>False
 | .storeX n a x=>match fZ (aM (val L ρ x)) n,jQ (aM (val L ρ x)),ev ρ a with
  | true,true,.own k off=>match L.get k with
   | some (.box g t cs)=>match jz t ((cs.drop off).take n) n with
    | true=>Real F (L.set k (.box g t (aR cs off (aM (val L ρ x)))))->K F (L.set k (.box g t (aR cs off (aM (val L ρ x))))) (put d (.v undef) ρ)
    | false=>False
   | _=>False
  | true,true,.el q j=>Bw L q j (aM (val L ρ x)) fun L'=>Real F L'->K F L' (put d (.v undef) ρ)
  | true,true,.v (.pointer (some q))=>Bw L (some q) 0 (aM (val L ρ x)) fun L'=>Real F L'->K F L' (put d (.v undef) ρ)
  | _,_,_=>False
 | .boxD t x=>match d with
  | some k=>match L.get k with
   | none=>∀g,Real F (L.set k (.box g t (aM (val L ρ x))))->K F (L.set k (.box g t (aM (val L ρ x)))) (put d (.own k 0) ρ)
   | some _=>False
  | none=>False
 | .allocD t zs=>match d with
  | some k=>match L.get k with
   | none=>∀g,Real F (L.set k (.box g t zs))->K F (L.set k (.box g t zs)) (put d (.own k 0) ρ)
   | some _=>False
  | none=>False
 | .mkFD e n sz xs=>match ga L ρ sz xs with
  | true=>∀g F',F.le F'->F' g=some (.cells (cellsOf L ρ xs).toArray e (0,0))->Real F' L->K F' L (put d (.v (.slice (some ⟨g,0,none⟩) n n)) ρ)
  | false=>False
 | .callD f args=>eV P f (bE L ρ args) F L d fun F' L' v=>K F' L' (put d (.v v) ρ)
 | .callVD f args=>match mK P (ev ρ f) with
  | some (f,fi,ca)=>eV P f (fi++bE L ρ args++ca) F L d fun F' L' v=>K F' L' (put d (.v v) ρ)
  | none=>False
 | .callO f args=>dQ P f (bE L ρ args) F L fun F' L' v=>Real F' L'->K F' L' (put d (.v v) ρ)
 | .callVO f args=>match mK P (ev ρ f) with
  | some (f,fi,ca)=>dQ P f (fi++bE L ρ args++ca) F L fun F' L' v=>Real F' L'->K F' L' (put d (.v v) ρ)
  | none=>False
def Je (F:aF) (v:Value) (sz n:Nat) (xs:List Value):Prop :=
 (v=.slice none 0 0/\n=0/\xs=[])\/∃a c,v=.slice (some a) n c/\cg F (some a) 0 xs/\n<=c
structure P2 (F:aF) (L:Loc) (k:Nat) (K:aF->Loc->Prop):Prop where
 out:∃v t sz n xs,L.get k=some (.row v t sz n xs)/\∀F',F.le F'->Je F' v sz n xs->K F' (L.del k)
inductive aB where
 | op (dst:Option Nat) (o:eY) (guard:Option (Nat×Bool))
 | frz (k:Nat)
 | pc (dst:Option Nat) (o:eY) (guard:Option (Nat×Bool))
 deriving Inhabited
def xT (k g:Nat) (ρ:Env):Env:=fun j=>match ρ j with
 | .own b off=>match Nat.beq b k with | true=>.v (.pointer (some ⟨g,off,none⟩)) | false=>.own b off
 | .v x=>.v x
 | .el a i=>.el a i
def bh (P:Program):List aB->aF->Loc->Env->dm->Prop
 | [],F,L,ρ,K=>K F L ρ
 | .op d o none::a,F,L,ρ,K=>evalOp P o d F L ρ fun F' L' ρ'=>bh P a F' L' ρ' K
 | .op d o (some (s,c))::a,F,L,ρ,K=>match ρ s with
  | .v (.bool b)=>xS b
    (match c with
     | true=>evalOp P o d F L (put (some s) (.v (.bool true)) ρ) fun F' L' ρ'=>bh P a F' L' ρ' K
     | false=>bh P a F L (put d (.v undef) (put (some s) (.v (.bool true)) ρ)) K)
    (match c with
     | false=>evalOp P o d F L (put (some s) (.v (.bool false)) ρ) fun F' L' ρ'=>bh P a F' L' ρ' K
     | true=>bh P a F L (put d (.v undef) (put (some s) (.v (.bool false)) ρ)) K)
  | .v (.tuple _)=>bh P a F L (put d (.v undef) ρ) K
  | _=>False
 | .frz k::a,F,L,ρ,K=>match L.get k with
  | some (.box g t cs)=>∀F',F.le F'->F' g=some (mC t cs)->bh P a F' (L.del k) (xT k g ρ) K
  | _=>P2 F L k fun F' L'=>bh P a F' L' ρ K
 | .pc _ _ _::_,_,_,_,_=>False
inductive aI where
 | skip
 | reg (ops:List aB)
 | regD (ops:List aB)
 | regX (ops:List aB)
 | seq (a b:aI)
 | cond (c:X) (a b:aI)
 | block (id:Nat) (c:aI)
 | loop (asg:List Nat) (c:aI)
 | exit (id:Nat)
 | ret
 deriving Inhabited
def gI:List Nat->Nat->Bool
 | [],_=>false
 | j::l,k=>match Nat.beq j k with | true=>true | false=>gI l k
def Loc.keeps:Loc->Loc->Prop
 | [],_=>True
 | (k,.box g t _)::l,L'=>(∃cs,L'.get k=some (.box g t cs))/\Loc.keeps l L'
 | (_,.row ..)::l,L'=>Loc.keeps l L'
structure CW (F:aF) (L:Loc) (v:Value) (R:aF->List Own->Value->Prop):Prop where
 out:∃ko Lo,L.sub ko=some Lo/\ko.Nodup/\R F Lo v
abbrev RV:=Nat×Option (Bool×Nat)
def mD (L:Loc) (ρ:Env):List RV->(List Value->Prop)->Prop
 | [],K=>K []
 | (t,none)::l,K=>mD L ρ l fun vs=>K (conc L (ρ t)::vs)
 | (t,some (agg,n))::l,K=>match ρ t with
  | .own k off=>match L.get k with
   | some (.box _ ty cs)=>match jz ty ((cs.drop off).take n) n with
    | true=>mD L ρ l fun vs=>K (gZ agg ((cs.drop off).take n)::vs)
    | false=>False
   | _=>False
  | _=>False
def iC:List Value->Value
 | [v]=>v
 | l=>.tuple l.toArray
def uj:Nat->List SV->Env
 | _,[]=>fun _=>.v undef
 | k,v::l=>put (some k) v (uj (k+1) l)
def Loc.gives (L:Loc):Loc->Prop
 | []=>True
 | (k,o)::l=>(L.get k=some o\/(L.get k=none/\∃t sz,o=.row (.slice none 0 0) t sz 0 []))/\Loc.gives L l
def iK (asg:List Nat) (a:Nat->Value) (ρ:Env):Env:=fun j=>match gI asg j with | true=>.v (a j) | false=>ρ j
def puts:List Nat->List SV->Env->Env
 | k::ks,v::vs,ρ=>put (some k) v (puts ks vs ρ)
 | _,_,ρ=>ρ
def holds:List Nat->List SV->Env->Prop
 | k::ks,v::vs,ρ=>ρ k=v/\holds ks vs ρ
 | _,_,_=>True
structure Q7 (body:aF->Loc->Env->dm->Prop) (asg:List Nat) (F:aF) (L:Loc) (ρ:Env):Prop where
 out:∃(σ:Type) (x0:σ) (Inv:σ->aF->Prop) (ls:List Nat) (lv:σ->List Value) (Lf:σ->Loc) (μ:σ->Nat),
  Inv x0 F/\holds ls ((lv x0).map .v) ρ/\L.gives (Lf x0)/\(∀x,L.keeps (Lf x)) /\
  ∀x F' jk,F.le F'->Inv x F'->body F' (Lf x) (puts ls ((lv x).map .v) (iK asg jk ρ)) fun F'' L'' ρ'' =>
   ∃x',Inv x' F''/\holds ls ((lv x').map .v) ρ''/\L''.gives (Lf x')/\μ x'<μ x
def kY (P:Program):aI->(Nat->dm)->dm->dm->dm
 | .skip,_,_,N,F,L,ρ=>N F L ρ
 | .reg d,_,_,N,F,L,ρ=>bh P d F L ρ N
 | .regD d,_,_,N,F,L,ρ=>bh P d F L ρ N
 | .regX _,_,_,_,_,_,_=>False
 | .seq a b,E,R,N,F,L,ρ=>kY P a E R (fun F L ρ=>kY P b E R N F L ρ) F L ρ
 | .cond c a b,E,R,N,F,L,ρ=>match ev ρ c with
  | .v (.bool t)=>xS t (kY P a E R N F L ρ) (kY P b E R N F L ρ)
  | _=>False
 | .block id c,E,R,N,F,L,ρ=>kY P c (fun j=>match Nat.beq j id with | true=>N | false=>E j) R N F L ρ
 | .loop asg c,E,R,_,F,L,ρ=>Q7 (fun F L ρ K=>kY P c E R K F L ρ) asg F L ρ
 | .exit id,E,_,_,F,L,ρ=>E id F L ρ
 | .ret,_,R,_,F,L,ρ=>R F L ρ
theorem gh {a b:Nat}(h:Nat.beq a b=false):a≠b:=by intro e;subst e;simp at h
theorem Loc.aac (L:Loc) (k:Nat) (o:Own) (j:Nat):(L.set k o).get j=if j=k then some o else L.get j:=by
 induction L with
 | nil =>
  simp only[Loc.set,Loc.get];cases h:Nat.beq k j with
  | true=>have:=v8 h;simp[this]
  | false=>have:=gh h;simp;omega
 | cons p l c =>
  obtain⟨i,q⟩:=p;simp only[Loc.set];cases h:Nat.beq i k with
  | true =>
   have e:=v8 h;subst e;simp only[Loc.get];cases a:Nat.beq i j with
   | true=>have:=v8 a;simp[this]
   | false=>have:=gh a;simp;omega
  | false =>
   have b:=gh h;simp only[];cases d:Nat.ble i k with
   | true =>
    simp only[Loc.get];cases a:Nat.beq i j with
    | true=>have:=v8 a;simp;omega
    | false=>simpa using c
   | false =>
    simp only[Loc.get];cases a:Nat.beq k j with
    | true=>have:=v8 a;simp[this]
    | false =>
     have:=gh a;simp only[];rw[vv (by omega)]
theorem Loc.aai (L:Loc) (k j:Nat):(L.del k).get j=if j=k then none else L.get j:=by
 induction L with
 | nil=>simp[Loc.del,Loc.get]
 | cons p l c =>
  obtain⟨i,q⟩:=p;simp only[Loc.del];cases h:Nat.beq i k with
  | true =>
   have e:=v8 h;subst e;simp only[Loc.get,c]
   by_cases b:j=i
   ·simp[b]
   ·have:Nat.beq i j=false:=by cases a:Nat.beq i j with | true=>exact p7 (v8 a).symm b | false=>rfl
    simp[b,this]
  | false =>
   have d:=gh h;simp only[Loc.get];cases a:Nat.beq i j with
   | true=>have:=v8 a;simp;omega
   | false=>simpa using c
def Loc.part (L L':Loc):Prop:=∀k o,L'.get k=some o->L.get k=some o
theorem St.part {F:aF}{L L':Loc}{w:World}(h:St F L w) (a:L.part L'):St F L' w :=
 ⟨h.frz,fun k o e=>h.own k o (a k o e),fun k o g e=>h.off k o g (a k o e),fun k b o o' g e c=>h.sep k b o o' g (a k o e) (a b o' c),h.glob⟩
theorem Own.aaq {w:World}{o:Own}(h:o.ok w) {g:Nat}(a:o.blk=some g):g<w.heap.size:=by
 cases o with
 | box b t cs =>
  simp only[Own.blk,w7] at a;subst a;exact(Array.getElem?_eq_some_iff.1 h).1
 | row v t sz n xs=>exact(World.ownsRow.lt h g a).2
theorem Own.aav {w w':World}{o:Own}(h:o.ok w) (c:∀g,o.blk=some g->w'.heap[g]?=w.heap[g]?):o.ok w':=by
 cases o with
 | box g t cs=>exact(c g rfl).trans h
 | row v t sz n xs =>
  obtain⟨d,a⟩:=h;refine⟨d,?_⟩;rcases a with a | ⟨g,cap,b,rfl,hb,e,r⟩
  ·exact .inl a
  ·exact .inr ⟨g,cap,b,rfl,hb,(c g rfl).trans e,r⟩
theorem St.aaw {F:aF}{L:Loc}{w:World}(h:St F L w) {b:Nat}(hb:F b≠none):b<w.heap.size:=by
 cases e:F b with
 | none=>exact p7 e hb
 | some o=>exact(Array.getElem?_eq_some_iff.1 (h.frz b o e)).1
theorem St.aaB {F:aF}{L:Loc}{w:World}(h:St F L w) {b:Nat}(hb:L.owns b):b<w.heap.size:=by
 obtain⟨k,o,e,a⟩:=hb;exact Own.aaq (h.own k o e) a
theorem St.keep {F:aF}{L:Loc}{w w':World}(h:St F L w) (a:∀b,b<w.heap.size->w'.heap[b]?=w.heap[b]?):St F L w':=by
 refine⟨fun b o e=>?_,fun k o e=>?_,h.off,h.sep,h.glob⟩
 ·have:=h.frz b o e;rw[a b (Array.getElem?_eq_some_iff.1 this).1];exact this
 ·exact Own.aav (h.own k o e) fun g c=>a g (Own.aaq (h.own k o e) c)
theorem St.drew {F:aF}{L:Loc}{w:World}(h:St F L w):St F L w.drew:=h.keep fun _ _=>rfl
theorem St.put {F:aF}{L:Loc}{w:World}(h:St F L w) {k:Nat}{o:Own}(x:L.get k=none) (v:o.ok w)
  (n:∀g,o.blk=some g->F g=none/\¬L.owns g):St F (L.set k o) w:=by
 have a:∀j p,(L.set k o).get j=some p->(j=k/\p=o)\/(j≠k/\L.get j=some p):=by
  intro j p e;rw[Loc.aac] at e;split at e
  ·rename_i d;exact .inl ⟨d,by injection e with e;exact e.symm⟩
  ·rename_i d;exact .inr ⟨d,e⟩
 refine⟨h.frz,fun j p e=>?_,fun j p g e c=>?_,fun j f p m g e t c b=>?_,h.glob⟩
 ·rcases a j p e with⟨_,rfl⟩ | ⟨_,e⟩
  ·exact v
  ·exact h.own j p e
 ·rcases a j p e with⟨_,rfl⟩ | ⟨_,e⟩
  ·exact(n g c).1
  ·exact h.off j p g e c
 ·rcases a j p e with⟨d,u⟩ | ⟨_,r⟩<;>rcases a f m t with⟨q,l⟩ | ⟨_,s⟩
  ·exact d.trans q.symm
  ·subst u;exact p7 ⟨f,m,s,b⟩ (n g c).2
  ·subst l;exact p7 ⟨j,p,r,c⟩ (n g b).2
  ·exact h.sep j f p m g r s c b
theorem St.turn {F:aF}{L:Loc}{w w':World}(h:St F L w) {k:Nat}{o o':Own}(n:L.get k=some o) (ho:o'.ok w')
  (v:∀b,b<w.heap.size->o.blk≠some b->w'.heap[b]?=w.heap[b]?) (hb:∀g,o'.blk=some g->o.blk=some g\/w.heap.size<=g):St F (L.set k o') w':=by
 have c:∀j p,(L.set k o').get j=some p->(j=k/\p=o')\/(j≠k/\L.get j=some p):=by
  intro j p e;rw[Loc.aac] at e;split at e
  ·rename_i f;exact .inl ⟨f,by injection e with e;exact e.symm⟩
  ·rename_i f;exact .inr ⟨f,e⟩
 refine⟨fun b p e=>?_,fun j p e=>?_,fun j p g e d=>?_,fun j q p r g e y d l=>?_,h.glob⟩
 ·have:=h.frz b p e;rw[v b (Array.getElem?_eq_some_iff.1 this).1 (fun hb=>by have:=h.off k o b n hb;rw[this] at e;cases e)];exact this
 ·rcases c j p e with⟨_,rfl⟩ | ⟨f,e⟩
  ·exact ho
  ·exact Own.aav (h.own j p e) fun g d=>v g (Own.aaq (h.own j p e) d) fun a=>f (h.sep j k p o g e n d a)
 ·rcases c j p e with⟨_,rfl⟩ | ⟨_,e⟩
  ·rcases hb g d with a | x
   ·exact h.off k o g n a
   ·cases hF:F g with
    | none=>rfl
    | some _=>have:=h.aaw (b:=g) (by rw[hF];simp);omega
  ·exact h.off j p g e d
 ·rcases c j p e with⟨f,z⟩ | ⟨f,t⟩<;>rcases c q r y with⟨m,s⟩ | ⟨m,u⟩
  ·exact f.trans m.symm
  ·subst z;rcases hb g d with a | x
   ·exact p7 (h.sep q k r o g u n l a) m
   ·have:=Own.aaq (h.own q r u) l;omega
  ·subst s;rcases hb g l with a | x
   ·exact p7 (h.sep j k p o g t n d a) f
   ·have:=Own.aaq (h.own j p t) d;omega
  ·exact h.sep j q p r g t u d l
theorem St.freeze {F:aF}{L:Loc}{w:World}(h:St F L w) {g:Nat}{o:Obj}(c:w.heap[g]?=some o) (d:¬L.owns g) :
  St (fun b=>if b=g then some o else F b) L w:=by
 refine⟨fun b p e=>?_,h.own,fun k p b e hb=>?_,h.sep,tj.mono ?_ h.glob⟩
 ·split at e
  ·rename_i a;subst a;injection e with e;subst e;exact c
  ·exact h.frz b p e
 ·split
  ·rename_i a;subst a;exact p7 ⟨k,p,e,hb⟩ d
  ·exact h.off k p b e hb
 ·intro b p e;simp only[];split
  ·rename_i a;subst a;rw[<-h.frz b p e,c]
  ·exact e
theorem aF.aas {F:aF}{w:World}{L:Loc}(h:St F L w) {g:Nat}{o:Obj}(c:w.heap[g]?=some o):F.le (fun b=>if b=g then some o else F b):=by
 intro b p e;simp only[];split
 ·rename_i a;subst a;rw[<-h.frz b p e,c]
 ·exact e
theorem Step.refl (F:aF) (L:Loc) (w:World):Step F L w F L w :=
 ⟨aF.le_refl F,rfl,rfl,rfl,aa8 _,fun _ _ _=>rfl,fun _ h=>.inl h,fun _ h=>.inl h⟩
theorem Step.trans {F F' F'':aF}{L L' L'':Loc}{w w' c:World}(h:Step F L w F' L' w') (k:Step F' L' w' F'' L'' c):Step F L w F'' L'' c:=by
 refine⟨aF.le_trans h.le k.le,k.os.trans h.os,k.tape.trans h.tape,k.output.trans h.output,abB h.size k.size,fun b hb e=>?_,fun b hb=>?_,fun b hb=>?_⟩
 ·rw[k.same b (abP hb h.size) (fun d=>by rcases h.own b d with d | d;exact e d;omega)];exact h.same b hb e
 ·rcases k.frz b hb with a | a | a
  ·exact h.frz b a
  ·exact .inr (h.own b a)
  ·exact .inr (.inr (abB h.size a))
 ·rcases k.own b hb with a | a
  ·exact h.own b a
  ·exact .inr (abB h.size a)
theorem Step.mk' {F F':aF}{L L':Loc}{w w':World}(le:F.le F') (a:w.grownBy w' none) (frz:∀b,F' b≠none->F b≠none\/L.owns b\/w.heap.size<=b)
  (own:∀b,L'.owns b->L.owns b\/w.heap.size<=b):Step F L w F' L' w' :=
 ⟨le,a.os,a.tape,a.output,a.size,fun b hb _=>a.block b hb (by simp),frz,own⟩
theorem Loc.aal {L:Loc}{k:Nat}{o:Own}{b:Nat}(h:(L.set k o).owns b):o.blk=some b\/L.owns b:=by
 obtain⟨j,p,e,hb⟩:=h;rw[Loc.aac] at e;split at e
 ·injection e with e;subst e;exact .inl hb
 ·exact .inr ⟨j,p,e,hb⟩
theorem Loc.aat {L:Loc}{k b:Nat}(h:(L.del k).owns b):L.owns b:=by
 obtain⟨j,p,e,hb⟩:=h;rw[Loc.aai] at e;split at e
 ·cases e
 ·exact⟨j,p,e,hb⟩
theorem Loc.aaA (L:Loc) (k:Nat):L.part (L.del k):=by
 intro j o e;rw[Loc.aai] at e;split at e
 ·cases e
 ·exact e
theorem cg.mono {F G:aF}(h:F.le G) {a:Option Addr}{j:Nat}{cs:List Value}(c:cg F a j cs):cg G a j cs:=by
 obtain⟨d,b,t,k,e,f,m,l⟩:=c;exact⟨d,b,t,k,e,h _ _ f,m,l⟩
theorem cA {b o n:Nat}:(⟨b,o,none⟩:Addr).add n=⟨b,o+n,none⟩:=by
 unfold Addr.add;split<;>simp_all
theorem cg.cell {F:aF}{L:Loc}{w:World}(h:St F L w) {a:Option Addr}{j:Nat}{cs:List Value}(c:cg F a j cs) :
  ∃d,a=some d/\d.spot=none/\∀i v,cs[i]?=some v->w.cell? (d.add (j+i))=some v:=by
 obtain⟨d,k,t,q,e,m,f,l⟩:=c;refine⟨d,e,f,fun i v n=>?_⟩;obtain⟨b,o,p⟩:=d;simp only at f;subst f;rw[cA];have:=h.frz b _ m;simp only[World.cell?,this];simpa[Nat.add_assoc] using(l i v n).1
def bG:Operand->Option X
 | .tmp t=>some (.t t)
 | .const v=>some (.c v)
 | .func f=>some (.fn f)
 | .global _=>none
def hO:List Operand->Option (List X)
 | []=>some []
 | o::l=>match bG o,hO l with
  | some x,some xs=>some (x::xs)
  | _,_=>none
def qN:Option Operand->Option (Option X)
 | none=>some none
 | some o=>match bG o with | some x=>some (some x) | none=>none
def dX:TypeDesc->Bool
 | .struct _ | .array _ _=>true
 | _=>false
def Tl (i:TypeInfo):Option (List Value):=match i.zero with | some z=>some z.cells.toList | none=>none
def oW (P:Program) (fs:Array Field):List (Nat×Operand)->Option (List (Nat×Nat×X))
 | []=>some []
 | (i,o)::l=>match fs[i]?,bG o,oW P fs l with
  | some f,some x,some ps=>match P.info? f.type with
   | some j=>some ((f.offset,j.size,x)::ps)
   | none=>none
  | _,_,_=>none
def Ao:Operand->Option eY
 | .global g=>match wT g with | some _=>some (.gload g) | none=>none
 | _=>none
def pU (P:Program):List Field->Nat->Option (List Bool)
 | [],_=>some []
 | f::fs,k=>match Nat.beq f.offset k,decide (f.name="_"),P.underlying f.type with
  | true,false,some (.int _)=>match pU P fs (k+1) with | some ks=>some (true::ks) | none=>none
  | true,false,some .bool=>match pU P fs (k+1) with | some ks=>some (false::ks) | none=>none
  | _,_,_=>none
def xU:X->Bool
 | .c .nilIface=>true
 | _=>false
def iX (P:Program) (own:Bool) (o:Op):Option eY :=
 match o with
 | .move x | .assign x=>match bG x with | some x=>some (.mov x) | none=>none
 | .pick c a b=>match bG c,bG a,bG b with | some c,some a,some b=>some (.pick c a b) | _,_,_=>none
 | .box t x=>match bG x,decide (t=0) with | some x,false=>some (match own with | true=>.boxF t x | false=>.box t x) | _,_=>none
 | .alloc t=>match P.info? t,decide (t=0) with
  | some i,false=>match Tl i with | some z=>some (.alloc t z) | none=>none
  | _,_=>none
 | .buildSlice t n ps=>match P.underlying t,hO (ps.toList.map (·.2)) with
  | some (.slice e),some xs=>match P.info? e with
   | some i=>match decide (ps.toList.map (·.1)=List.range n),decide (n*i.size<=2 ^ 24/\n<=2 ^ 24),i.zero with
    | true,true,some _=>some (match own with | true=>.mkR e n i.size xs | false=>.mkF e n i.size xs)
    | _,_,_=>none
   | none=>none
  | _,_=>none
 | .build t ps=>match P.underlying t,P.info? t with
  | some (.struct fs),some i=>match Tl i,oW P fs ps.toList with
   | some z,some l=>match fs.toList.all (fun f=>(P.info? f.type).isSome),l.all (fun p=>Nat.ble (p.1+p.2.1) z.length) with
    | true,true=>some (.build z l)
    | _,_=>none
   | _,_=>none
  | _,_=>none
 | .lookup t x i ok=>match MB with
  | true=>match P.underlying t,bG x,bG i,ok with
   | some (.map key e),some x,some i,true=>match P.underlying key,P.info? e with
    | some (.int .i64),some j=>match j.zero with
     | some (.int .i64 0)=>some (.look x i)
     | _=>none
    | _,_=>none
   | _,_,_,_=>none
  | false=>match P.underlying t,bG x,bG i with
   | some (.map key e),some x,some i=>match P.underlying key,P.info? e with
    | some (.int .i64),some j=>match j.zero with
     | some z=>some (.mlook false ok z x i)
     | none=>none
    | some .string,some j=>match j.zero with
     | some z=>some (.mlook true ok z x i)
     | none=>none
    | _,_=>none
   | _,_,_=>none
 | .makeMap _ none=>some .mkmap
 | .mapUpdate t x i v | .insert t x i v=>match P.underlying t,bG x,bG i,bG v with
  | some (.map key _),some x,some i,some v=>match P.underlying key with
   | some (.int .i64)=>some (.mupd false x i v)
   | some .string=>some (.mupd true x i v)
   | _=>none
  | _,_,_,_=>none
 | .range t x=>match P.underlying t,bG x with
  | some (.map _ _),some x=>some (.mrange x)
  | _,_=>none
 | .next x false=>match bG x with | some x=>some (.mnext x) | none=>none
 | .entry x=>match bG x with | some x=>some (.mentry x) | none=>none
 | .load t a=>match P.underlying t,P.info? t,bG a with
  | some d,some i,some x=>some (match dX d with | true=>.load true i.size x | false=>.load false 1 x)
  | some (.map _ _),some _,none=>Ao a
  | some (.interface _),some _,none=>match Ao a with | some s=>some s | none=>some .dead
  | some _,some _,none=>some .dead
  | _,_,_=>none
 | .store t a x=>match P.info? t,bG a,bG x with
  | some i,some a,some x=>some (.store i.size a x)
  | _,_,_=>none
 | .nilCheck x=>match bG x,PY P with | some x,true=>some (.nilck x) | _,_=>none
 | .binOp op t x y _=>match P.underlying t,bG x,bG y with
  | some d,some x,some y=>match d,op with
   | .bool,.eql=>some (.eqB false x y)
   | .bool,.neq=>some (.eqB true x y)
   | .pointer _,.eql=>some (.eqP false x y)
   | .pointer _,.neq=>some (.eqP true x y)
   | .slice _,.eql=>some (.eqS false x y)
   | .slice _,.neq=>some (.eqS true x y)
   | .func ..,.eql=>some (.eqF false x y)
   | .func ..,.neq=>some (.eqF true x y)
   | .interface _,.eql=>match xU y with | true=>some (.eqN false x) | false=>none
   | .interface _,.neq=>match xU y with | true=>some (.eqN true x) | false=>none
   | .struct fs,.eql=>match pU P fs.toList 0,P.stoodInHeld t,P.eqGuardType P.depth t with | some ks,false,false=>some (.eqA false ks x y) | _,_,_=>none
   | .struct fs,.neq=>match pU P fs.toList 0,P.stoodInHeld t,P.eqGuardType P.depth t with | some ks,false,false=>some (.eqA true ks x y) | _,_,_=>none
   | .int _,_ | .string,_=>some (.bin op x y)
   | _,_=>none
  | _,_,_=>none
 | .unOp op _ x=>match bG x with | some x=>some (.un op x) | none=>none
 | .convert s t x=>match P.underlying s,P.underlying t,bG x with
  | some (.int _),some (.int k),some x=>some (.conv k x)
  | some (.slice e),some .string,some x=>match P.underlying e with
   | some (.int .u8)=>some (.b2s x)
   | _=>none
  | some .string,some (.slice e),some x=>match P.underlying e with
   | some (.int .u8)=>some (.s2b e x)
   | _=>none
  | _,_,_=>none
 | .makeFunc (.func f) fi ca=>match hO fi.toList,hO ca.toList with
  | some fi,some ca=>some (.mkfn f fi ca)
  | _,_=>none
 | .makeFunc (.method nm) fi ca=>match hO fi.toList,ca.toList with
  | some [x],[]=>some (.mkmv nm x)
  | _,_=>none
 | .makeFunc (.methodOf t nm) fi ca=>match fi.toList,ca.toList with
  | [],[]=>some (.mov (.c (.func (.methodOf t nm) #[] #[])))
  | _,_=>none
 | .makeSlice t l c=>match P.underlying t,bG l,bG c with
  | some (.slice e),some l,some c=>match P.info? e with
   | some i=>match i.zero with
    | some z=>match decide (z.cells.size=i.size),decide (0<i.size) with
     | true,true=>some (.makeS e i.size i.bytes z.cells.toList l c)
     | _,_=>none
    | none=>none
   | none=>none
  | _,_,_=>none
 | .slice t x lo hi none=>match P.underlying t,bG x,qN lo,qN hi with
  | some (.slice e),some x,some lo,some hi=>match P.info? e with
   | some i=>some (.slc i.size x lo hi)
   | none=>none
  | some .string,some x,some lo,some hi=>some (.slcS x lo hi)
  | _,_,_,_=>none
 | .fieldAddr t x f=>match P.underlying t,bG x with
  | some (.struct fs),some x=>match fs[f]? with
   | some f=>match P.info? f.type with
    | some i=>match decide (i.size=0) with | true=>none | false=>some (.fieldA f.offset x)
    | none=>none
   | none=>none
  | _,_=>none
 | .field t x f=>match P.underlying t,bG x with
  | some (.struct fs),some x=>match fs[f]? with
   | some f=>match P.underlying f.type,P.info? f.type with
    | some d,some i=>match dX d with
     | true=>some (.fieldV true f.offset i.size x)
     | false=>some (.fieldV false f.offset 1 x)
    | _,_=>none
   | none=>none
  | _,_=>none
 | .indexAddr t x i=>match P.underlying t,bG x,bG i with
  | some (.slice e),some x,some i=>match P.info? e with
   | some j=>some (.idxA j.size x i)
   | none=>none
  | _,_,_=>none
 | .index t x i=>match P.underlying t,bG x,bG i with
  | some .string,some x,some i=>some (.idxS x i)
  | _,_,_=>none
 | .makeInterface t x=>match P.underlying t,bG x with
  | some (.interface _),_=>none
  | some _,some x=>some (.mkif t x)
  | _,_=>none
 | .typeAssert x _ t true=>match P.underlying t,P.info? t,bG x with
  | some (.interface _),_,_=>none
  | some _,some i,some x=>match i.zero with | some z=>some (.tas t z x) | none=>none
  | _,_,_=>none
 | .panic x=>match bG x with | some x=>some (.pan x) | none=>none
 | .extract x i=>match bG x with | some x=>some (.extr x i) | none=>none
 | .call c=>match hO c.args.toList with
  | none=>none
  | some args=>match c.callee with
   | .value (.func f)=>match P.funcs[f]? with
    | some fn=>match fn.name == "runtime.NumGoroutine",fn.body.isSome with
     | false,true=>some (.call f args)
     | _,_=>none
    | none=>none
   | .value f=>match bG f with | some x=>some (.callV x args) | none=>none
   | .invoke (.tmp n) nm=>some (.callV (.mt nm n) args)
   | .invoke _ _=>none
   | .builtin b=>match b,args,c.argTypes.toList with
    | .len,[x],[t]=>match P.underlying t with
     | some (.slice _)=>some (.len x)
     | some .string=>some (.lenS x)
     | some (.map _ _)=>some (.mlen x)
     | _=>none
    | .cap,[x],[t]=>match P.underlying t with
     | some (.slice _)=>some (.capa x)
     | _=>none
    | .max,args,_=>some (.mm true args)
    | .min,args,_=>some (.mm false args)
    | .append,[s,x],[t,t']=>match P.underlying t,P.underlying t' with
     | some (.slice e),some (.slice _)=>match P.info? e with
      | some i=>match i.zero with
       | some z=>match decide (t=t'),decide (z.cells.size=i.size),decide (0<i.size) with
        | true,true,true=>some (.app e i.size i.bytes z.cells.toList s x)
        | _,_,_=>none
       | none=>none
      | none=>none
     | some (.slice e),some .string=>match P.info? e with
      | some i=>match i.zero with
       | some (.int .u8 z)=>match decide (z=0),decide (i.size=1),decide (i.bytes=1) with
        | true,true,true=>some (.appS e s x)
        | _,_,_=>none
       | _=>none
      | none=>none
     | some (.slice e),some (.int _)=>match P.info? e with
      | some i=>match i.zero with
       | some (.int kz z)=>match decide (z=0),decide (i.size=1) with
        | true,true=>some (.appZ e i.bytes kz s x)
        | _,_=>none
       | _=>none
      | none=>none
     | _,_=>none
    | .copy,[s,x],[t,t']=>match P.underlying t,P.underlying t' with
     | some (.slice e),some (.slice _)=>match P.info? e with
      | some i=>match decide (t=t'),decide (i.size=1) with
       | true,true=>some (.copy e i.size s x)
       | _,_=>none
      | none=>none
     | some (.slice e),some .string=>match P.info? e with
      | some i=>match decide (i.size=1) with
       | true=>some (.copy e i.size s x)
       | _=>none
      | none=>none
     | _,_=>none
    | _,_,_=>none
 | _=>none
structure aJ (L:Loc) (ρ:Env) (a:Act):Prop where
 eq:∀t,a.tmps.getD t undef=conc L (ρ t)
 own:∀t k off,ρ t=.own k off->∃g ty cs,L.get k=some (.box g ty cs)
 el:∀t ad j,ρ t=.el ad j->ad≠none
theorem aL {y:Operand}{x:X}(h:bG y=some x) {L:Loc}{ρ:Env}{a:Act}(b:aJ L ρ a):a.eval y=val L ρ x:=by
 cases y<;>simp only[bG,w7,reduceCtorEq] at h<;>subst h
 ·exact b.eq _
 ·rfl
 ·rfl
theorem oZ {y:Operand}{x:X}(h:bG y=some x) {L:Loc}{ρ:Env}{a:Act}(b:aJ L ρ a) {k off:Nat}(e:ev ρ x=.own k off):∃g ty cs,L.get k=some (.box g ty cs):=by
 cases y<;>simp only[bG,w7,reduceCtorEq] at h<;>subst h
 ·exact b.own _ _ _ e
 ·cases e
 ·cases e
theorem rV {y:Operand}{x:X}(h:bG y=some x) {L:Loc}{ρ:Env}{a:Act}(c:aJ L ρ a) {b:Option Addr}{j:Nat}(e:ev ρ x=.el b j):b≠none:=by
 cases y<;>simp only[bG,w7,reduceCtorEq] at h<;>subst h
 ·exact c.el _ _ _ e
 ·cases e
 ·cases e
theorem gj:∀{ys:List Operand}{xs:List X},hO ys=some xs->∀{L:Loc}{ρ:Env}{a:Act},aJ L ρ a->ys.map a.eval=bE L ρ xs:=by
 intro ys
 induction ys with
 | nil=>intro xs h L ρ a b;simp only[hO,w7] at h;subst h;rfl
 | cons y ys f =>
  intro xs h L ρ a b;simp only[hO] at h;split at h
  ·rename_i x c d e;injection h with h
   subst h;simp only[aaU,bE,aL d b,f e b]
  ·cases h
def bC (F:aF) (L:Loc) (w:World) (a:Act) (K:dm) (b:Act) (w':World):Prop :=
 ∃F' L' ρ',St F' L' w'/\aJ L' ρ' b/\b.tmps.size=a.tmps.size/\b.defers=a.defers/\Step F L w F' L' w'/\K F' L' ρ'
theorem Jf (a:Act) (d:Option Nat) (v:Value) (b:∀k,d=some k->k<a.tmps.size) (t:Nat) :
  (a.put d v).tmps.getD t undef=match d with | some k=>if t=k then v else a.tmps.getD t undef | none=>a.tmps.getD t undef:=by
 cases d with
 | none=>rfl
 | some k =>
  have:=b k rfl;simp only[Act.put,abg,Array.getElem?_setIfInBounds]
  by_cases h:t=k
  ·subst h;simp[this]
  ·rw[vv (by omega),vv h]
theorem put_eq (d:Option Nat) (x:SV) (ρ:Env) (t:Nat):put d x ρ t=match d with | some k=>if t=k then x else ρ t | none=>ρ t:=by
 cases d with
 | none=>rfl
 | some k =>
  simp only[put];cases h:Nat.beq t k with
  | true=>have:=v8 h;simp[this]
  | false=>have:=gh h;simp[this]
theorem aJ.put {L L':Loc}{ρ:Env}{a:Act}(l:aJ L ρ a) {d:Option Nat}{v:Value}{x:SV}(q:∀k,d=some k->k<a.tmps.size)
  (s:conc L' x=v) (r:∀k off,x=.own k off->∃g ty cs,L'.get k=some (.box g ty cs)) (p:∀f j,x=.el f j->f≠none)
  (n:∀k g ty cs,L.get k=some (.box g ty cs)->∃cs',L'.get k=some (.box g ty cs')):aJ L' (put d x ρ) (a.put d v):=by
 have h:∀t,a.tmps.getD t undef=conc L' (ρ t):=by
  intro t;rw[l.eq t];cases e:ρ t with
  | v x=>rfl
  | el a j=>rfl
  | own k off =>
   obtain⟨g,ty,cs,m⟩:=l.own t k off e;obtain⟨cs',c⟩:=n k g ty cs m;simp only[conc,m,c]
 refine⟨fun t=>?_,fun t k off e=>?_,fun t f j e=>?_⟩
 ·rw[Jf a d v q,put_eq];cases d with
  | none=>exact h t
  | some k =>
   simp only[];split
   ·exact s.symm
   ·exact h t
 ·rw[put_eq] at e;have b:∀k off,ρ t=.own k off->∃g ty cs,L'.get k=some (.box g ty cs):=by
   intro k off e;obtain⟨g,ty,cs,m⟩:=l.own t k off e;obtain⟨cs',c⟩:=n k g ty cs m;exact⟨g,ty,cs',c⟩
  cases d with
  | none=>exact b k off e
  | some u =>
   simp only[] at e;split at e
   ·exact r k off e
   ·exact b k off e
 ·rw[put_eq] at e;cases d with
  | none=>exact l.el t f j e
  | some u =>
   simp only[] at e;split at e
   ·exact p f j e
   ·exact l.el t f j e
theorem lT (a:Act) (d:Option Nat) (v:Value):(a.put d v).tmps.size=a.tmps.size:=by cases d<;>simp[Act.put]
theorem iD (a:Act) (d:Option Nat) (v:Value):(a.put d v).defers=a.defers:=by cases d<;>rfl
section
variable {P:Program}{F:aF}{L:Loc}{ρ:Env}{a:Act}{w:World}{K:dm}{o:Oper}{Q:Exit->Act->World->Prop}
theorem bR (p:St F L w) (n:aJ L ρ a) (c:∀k,o.dst=some k->k<a.tmps.size) {v:Value}{x:SV}
  (f:(execOp a.eval o).run P w=.ok (.value v) w) (h:conc L x=v) (l:∀k off,x=.own k off->∃g ty cs,L.get k=some (.box g ty cs)) (d:∀b j,x=.el b j->b≠none)
  (m:K F L (put o.dst x ρ)):o.wp P a w (bC F L w a K) Q:=by
 unfold Oper.wp;rw[f];exact⟨F,L,_,p,n.put c h l d (fun k g ty cs e=>⟨cs,e⟩),lT _ _ _,iD _ _ _,Step.refl _ _ _,m⟩
theorem gP (p:aJ L ρ a) (h:∀k,o.dst=some k->k<a.tmps.size) {v:Value}{x:SV}{w':World}{F':aF}{L':Loc}
  (l:(execOp a.eval o).run P w=.ok (.value v) w') (d:St F' L' w') (b:Step F L w F' L' w') (q:conc L' x=v) (m:∀k off,x=.own k off->∃g ty cs,L'.get k=some (.box g ty cs)) (e:∀c j,x=.el c j->c≠none)
  (f:∀k g ty cs,L.get k=some (.box g ty cs)->∃cs',L'.get k=some (.box g ty cs')) (n:K F' L' (put o.dst x ρ)):o.wp P a w (bC F L w a K) Q:=by
 unfold Oper.wp;rw[l];exact⟨F',L',_,d,p.put h q m e f,lT _ _ _,iD _ _ _,b,n⟩
theorem ul (l:aJ L ρ a) (d:∀k,o.dst=some k->k<a.tmps.size) {w':World}{F':aF}{L':Loc}
  (h:(execOp a.eval o).run P w=.ok .skip w') (f:St F' L' w') (b:Step F L w F' L' w')
  (c:∀k g ty cs,L.get k=some (.box g ty cs)->∃cs',L'.get k=some (.box g ty cs')) (j:K F' L' (put o.dst (.v undef) ρ)):o.wp P a w (bC F L w a K) Q:=by
 unfold Oper.wp;rw[h];exact⟨F',L',_,f,l.put d rfl (fun _ _ e=>by cases e) (fun _ _ e=>by cases e) c,lT _ _ _,iD _ _ _,b,j⟩
end
section
variable {P:Program}{F:aF}{L:Loc}{ρ:Env}{a:Act}{w:World}{K:dm}{o:Oper}{Q:Exit->Act->World->Prop}
theorem bY {v:Value}{L:Loc}:∀k off,SV.v v=.own k off->∃g ty cs,L.get k=some (.box g ty cs):=fun _ _ e=>by cases e
theorem dV {v:Value}:∀b j,SV.v v=.el b j->b≠none:=fun _ _ e=>by cases e
theorem rW (L:Loc):∀k g ty cs,L.get k=some (.box g ty cs)->∃cs',L.get k=some (.box g ty cs'):=fun k g ty cs e=>⟨cs,e⟩
theorem bN {x:X}{v:Value}{L:Loc}{ρ:Env}(h:ev ρ x=.v v):val L ρ x=v:=by simp only[val,h,conc]
theorem Jg {y:Operand}{x:X}(l:St F L w) (c:aJ L ρ a) (f:∀k,o.dst=some k->k<a.tmps.size)
  (b:o.op=.move y\/o.op=.assign y) (d:bG y=some x) (h:evalOp P (.mov x) o.dst F L ρ K):o.wp P a w (bC F L w a K) Q:=by
 refine bR l c f (v:=a.eval y) (x:=ev ρ x) ?_ (aL d c).symm (fun k off e=>oZ d c e) (fun m j e=>rV d c e) h;rcases b with b | b<;>simp only[execOp,b]<;>rfl
theorem ME {c y z:Operand}{r m l:X}(q:St F L w) (b:aJ L ρ a) (s:∀k,o.dst=some k->k<a.tmps.size)
  (t:o.op=.pick c y z) (hc:bG c=some r) (f:bG y=some m) (n:bG z=some l) (d:evalOp P (.pick r m l) o.dst F L ρ K):o.wp P a w (bC F L w a K) Q:=by
 have p:=aL hc b;simp only[evalOp,aN] at d;split at d
 ·rename_i h;refine bR q b s (v:=a.eval y) (x:=ev ρ m) ?_ (aL f b).symm (fun k off e=>oZ f b e) (fun u j e=>rV f b e) d;simp only[execOp,t,p,val,h,conc];simp[asBool]
 ·rename_i h;refine bR q b s (v:=a.eval z) (x:=ev ρ l) ?_ (aL n b).symm (fun k off e=>oZ n b e) (fun u j e=>rV n b e) d;simp only[execOp,t,p,val,h,conc];simp[asBool]
 ·exact d.elim
theorem ia (w:World) (o:Obj):(w.alloc o).heap[w.heap.size]?=some o:=heap_alloc_new w o
theorem qO {F:aF}{L:Loc}{w:World}(c:St F L w):F w.heap.size=none/\¬L.owns w.heap.size:=by
 refine⟨?_,fun h=>?_⟩
 ·cases h:F w.heap.size with
  | none=>rfl
  | some _=>have:=c.aaw (b:=w.heap.size) (by rw[h];simp);omega
 ·have:=c.aaB h;omega
theorem St.alloc (c:St F L w) (o:Obj):St F L (w.alloc o):=c.keep fun b hb=>Below.heap_alloc w o b hb
theorem nA (m:St F L w) {k:Nat}(n:L.get k=none) {ob:Obj}{e:Own}(hb:e.blk=some w.heap.size) (f:e.ok (w.alloc ob)) :
  St F (L.set k e) (w.alloc ob)/\Step F L w F (L.set k e) (w.alloc ob) /\
   (∀j g ty xs,L.get j=some (.box g ty xs)->∃cs',(L.set k e).get j=some (.box g ty cs')):=by
 obtain⟨q,p⟩:=qO m;refine⟨(m.alloc _).put n f fun g c=>?_,?_,fun j g ty xs d=>?_⟩
 ·rw[hb] at c;injection c with c;subst c;exact⟨q,p⟩
 ·refine Step.mk' (aF.le_refl F) (World.grownBy_alloc w _ none) (fun b hb=>.inl hb) fun b r=>?_;rcases Loc.aal r with h | h
  ·rw[hb] at h;injection h with h;exact .inr (by omega)
  ·exact .inl h
 ·rw[Loc.aac];split
  ·rename_i l;subst l;rw[n] at d;cases d
  ·exact⟨xs,d⟩
theorem ld (d:St F L w) {k:Nat}(c:L.get k=none) {cs:Array Value}{t:TypeId}{e:Own}(hb:e.blk=some w.heap.size) (b:e.ok (w.alloc (.cells cs t))) :
  St F (L.set k e) (w.alloc (.cells cs t))/\Step F L w F (L.set k e) (w.alloc (.cells cs t)) /\
   (∀j g ty xs,L.get j=some (.box g ty xs)->∃cs',(L.set k e).get j=some (.box g ty cs')):=nA d c hb b
theorem Q8 {y:Operand}{x:X}{t:TypeId}(l:St F L w) (h:aJ L ρ a) (q:∀k,o.dst=some k->k<a.tmps.size)
  (r:o.op=.box t y) (m:bG y=some x) (d:t≠0) (c:evalOp P (.box t x) o.dst F L ρ K):o.wp P a w (bC F L w a K) Q:=by
 simp only[evalOp,aN] at c;split at c
 case h_2=>exact c.elim
 rename_i _ k f;split at c
 case h_2=>exact c.elim
 rename_i _ p;have c:=c w.heap.size;have b:(Value.cells (a.eval y)).toList=aM (val L ρ x):=by
  rw[aL m h];cases val L ρ x<;>rfl
 obtain⟨n,j,s⟩:=ld l p (cs:=(a.eval y).cells) (t:=t) (e:=.box w.heap.size t (aM (val L ρ x))) rfl
  (by show _=_;rw[ia,iN d,<-b])
 refine gP h q (v:=.pointer (some ⟨w.heap.size,0,none⟩)) (x:=.own k 0) ?_ n j ?_ ?_ (fun _ _ e=>by cases e) s c
 ·simp[execOp,r,Instr.box,newVar,newRow]
 ·simp only[conc,Loc.aac,abd]
 ·rintro u off e;injection e with e1 e2
  subst e1;exact⟨_,_,_,by rw[Loc.aac,o6 rfl]⟩
theorem Jh {t:TypeId}{i:TypeInfo}{zs:List Value}(l:St F L w) (r:aJ L ρ a) (p:∀k,o.dst=some k->k<a.tmps.size)
  (q:o.op=.alloc t) (hi:P.info? t=some i) (c:Tl i=some zs) (d:t≠0) (b:evalOp P (.alloc t zs) o.dst F L ρ K):o.wp P a w (bC F L w a K) Q:=by
 simp only[evalOp,aN] at b;split at b
 case h_2=>exact b.elim
 rename_i _ k h;split at b
 case h_2=>exact b.elim
 rename_i _ n;have b:=b w.heap.size;unfold Tl at c;split at c
 case h_2=>cases c
 rename_i z f;injection c with c
 obtain⟨m,j,s⟩:=ld l n (cs:=z.cells) (t:=t) (e:=.box w.heap.size t zs) rfl
  (by show _=_;rw[ia,iN d,<-c])
 refine gP r p (v:=.pointer (some ⟨w.heap.size,0,none⟩)) (x:=.own k 0) ?_ m j ?_ ?_ (fun _ _ e=>by cases e) s b
 ·simp[execOp,q,Instr.alloc,zeroValue,typeInfo,hi,f,newVar,newRow]
 ·simp only[conc,Loc.aac,abd]
 ·rintro u off e;injection e with e1 e2
  subst e1;exact⟨_,_,_,by rw[Loc.aac,o6 rfl]⟩
theorem wW {t:TypeId}{l:List Value}{n:Nat}(h:jz t l n=true):t≠0:=by
 rintro rfl;simp[jz] at h
theorem BA {t:TypeId}{l:List Value}{n:Nat}(h:jz t l n=true):fZ l n=true:=by
 unfold jz at h;split at h
 ·cases h
 ·exact h
theorem gF {t:TypeId}{l:List Value}{n:Nat}(h:t≠0) (b:fZ l n=true):jz t l n=true:=by
 unfold jz;split
 ·rename_i e;exact p7 (v8 e) h
 ·exact b
theorem jh:∀{l:List Value}{n:Nat},fZ l n=true->l.length=n
 | [],0,_=>rfl
 | _::l,n+1,h=>by simp only[fZ] at h;simp[jh h]
 | [],_+1,h=>by simp[fZ] at h
 | _::_,0,h=>by simp[fZ] at h
theorem iY {cs vs:List Value}{off:Nat}(h:off+vs.length<=cs.length) (n:Nat) :
  (aR cs off vs)[n]?=if n<off then cs[n]? else if n<off+vs.length then vs[n-off]? else cs[n]?:=by
 unfold aR;have c:(cs.take off).length=off:=by simp;omega
 by_cases b:n<off
 ·rw[o6 b,aaT,aaY (by omega),List.getElem?_take_of_lt b]
 ·rw[vv b]
  by_cases d:n<off+vs.length
  ·rw[o6 d,aaT,aa4 (by omega),aaY (by omega),c]
  ·rw[vv d,aaT,aa4 (by omega),aa4 (by omega),c,abm];congr 1;omega
theorem MF (vs:List Value):∀(off j:Nat) (cells:Array Value),off+j+vs.length<=cells.size ->
  ((vs.zipIdx j).foldl (fun cs (c,j)=>cs.setIfInBounds (off+j) c) cells).toList=aR cells.toList (off+j) vs:=by
 induction vs with
 | nil=>intro off j cells h;simp[aR]
 | cons v vs f =>
  intro off j cells h;simp only[List.zipIdx_cons,List.foldl_cons,aaW] at h ⊢;have:=f off (j+1) (cells.setIfInBounds (off+j) v) (by simp;omega);rw[this];apply abq;intro n;rw[iY (by simp;omega),iY (by simp;omega)];simp only[Array.toList_setIfInBounds,aaW]
  by_cases e:n=off+j
  ·subst e;rw[o6 (by omega),vv (by omega),o6 (by omega),List.getElem?_set_self (by simp;omega)];simp
  ·by_cases b:n<off+j
   ·rw[o6 (by omega),o6 b,abN (by omega)]
   ·by_cases d:n<off+(j+1)+vs.length
    ·rw[vv (by omega),o6 d,vv b,o6 (by omega),show n-(off+j)=(n-(off+(j+1)))+1 by omega,aby]
    ·rw[vv (by omega),vv d,vv b,vv (by omega),abN (by omega)]
theorem CX (vs:Array Value) (off:Nat) (cells:Array Value) (h:off+vs.size<=cells.size) :
  (vs.zipIdx.foldl (fun cs (x:Value×Nat)=>cs.setIfInBounds (off+x.2) x.1) cells).toList=aR cells.toList off vs.toList:=by
 have:=MF vs.toList off 0 cells (by simpa using h);rw[Nat.add_zero] at this;rw[<-this];congr 1;rw[<-Array.foldl_toList,Array.toList_zipIdx]
theorem fU (cs:List Value) (off:Nat) (vs:List Value) (h:off+vs.length<=cs.length):(aR cs off vs).length=cs.length:=by
 simp[aR];omega
theorem o7 (v:Value):aM v=v.cells.toList:=by cases v<;>rfl
theorem EL (sz n:Nat):∀(vs:List Value) (k:Nat) (cells:Array Value),cells.size=n*sz->k+vs.length=n->(∀v∈vs,v.cells.size=sz) ->
  ∃out,Instr.fill (fun i=>some (i*sz,sz)) cells ((List.range' k vs.length).zip vs)=some out /\
   out.toList=cells.toList.take (k*sz)++(vs.map (fun v=>v.cells.toList)).flatten:=by
 intro vs
 induction vs with
 | nil =>
  intro k cells f d e;refine⟨cells,by simp[Instr.fill],?_⟩;simp at d ⊢;subst d;rw[abz (by simp;omega)]
 | cons v vs q =>
  intro k cells f d e;have h:=e v (by simp);have l:k*sz+sz<=n*sz:=by
   rw[<-Nat.succ_mul];exact Nat.mul_le_mul_right _ (by simp at d;omega)
  simp only[aaW,List.range'_succ,List.zip_cons_cons,Instr.fill];rw[vv (by simp[h];omega)];have b:=CX v.cells (k*sz) cells (by omega);have c:(v.cells.zipIdx.foldl (fun cs (x:Value×Nat)=>cs.setIfInBounds (k*sz+x.2) x.1) cells).size=n*sz:=by
   rw[<-Array.length_toList,b,fU _ _ _ (by simp;omega)];simpa using f
  obtain⟨out,m,j⟩:=q (k+1) _ c (by simp at d;omega) (fun u p=>e u (by simp[p]));refine⟨out,m,?_⟩;rw[j,b];simp only[aR,aaU,List.flatten_cons,<-aaT];congr 1;rw[Nat.succ_mul];have r:v.cells.toList.length=sz:=by simpa using h
  apply abq;intro i
  by_cases t:i<k*sz
  ·rw[List.getElem?_take_of_lt (by omega),aaT,aaY (by simp;omega),aaY (by simp;omega)]
  ·by_cases s:i<k*sz+sz
   ·rw[List.getElem?_take_of_lt (by omega),aaT,aa4 (by simp;omega),aaY (by simp;omega),aa4 (by simp;omega)]
   ·rw[aa0 (by simp;omega),aa0 (by simp;omega)]
end
section
variable {P:Program}{F:aF}{L:Loc}{ρ:Env}{a:Act}{w:World}{K:dm}{o:Oper}{Q:Exit->Act->World->Prop}
theorem xV (L:Loc) (ρ:Env):∀xs:List X,cellsOf L ρ xs=((bE L ρ xs).map fun v=>v.cells.toList).flatten
 | []=>rfl
 | x::xs=>by simp only[cellsOf,bE,aaU,List.flatten_cons,xV L ρ xs,o7]
theorem Ap {L:Loc}{ρ:Env}{sz:Nat}:∀{xs:List X},ga L ρ sz xs=true->∀v∈bE L ρ xs,v.cells.size=sz
 | [],_,v,b=>by cases b
 | x::xs,h,v,b=>by
  simp only[ga] at h;split at h
  ·rename_i c;simp only[bE,aaQ] at b;rcases b with rfl | b
   ·have:=jh c;rw[o7] at this;simpa using this
   ·exact Ap h v b
  ·cases h
theorem mL (L:Loc) (ρ:Env):∀xs:List X,(bE L ρ xs).length=xs.length
 | []=>rfl
 | _::xs=>by simp[bE,mL L ρ xs]
theorem qP {L:Loc}{ρ:Env}{sz:Nat}:∀{xs:List X},ga L ρ sz xs=true->(cellsOf L ρ xs).length=xs.length*sz
 | [],_=>by simp[cellsOf]
 | x::xs,h=>by
  simp only[ga] at h;split at h
  ·rename_i b;have:=jh b;simp only[cellsOf,aaR,this,qP h,aaW,Nat.succ_mul];omega
  ·cases h
theorem EM {ps:List (Nat×Operand)}{f:Operand->Value}{n:Nat}(h:ps.map (·.1)=List.range n) :
  ps.map (fun p=>(p.1,f p.2))=(List.range' 0 ps.length).zip ((ps.map (·.2)).map f):=by
 have b:ps.length=n:=by have:=j3 List.length h;simpa using this
 rw[b,<-List.range_eq_range',<-h]
 clear h b
 induction ps with
 | nil=>rfl
 | cons p ps c=>simp[c]
theorem qQ {t e n:Nat}{ps:Array (Nat×Operand)}{i:TypeInfo}{z:Value}{xs:List X}(ht:P.underlying t=some (.slice e)) (hi:P.info? e=some i) (v:i.zero=some z)
  (y:hO (ps.toList.map (·.2))=some xs) (r:ps.toList.map (·.1)=List.range n) (hb:n*i.size<=2 ^ 24) (hp:ga L ρ i.size xs=true) (he:aJ L ρ a) :
  (Instr.buildSlice t n (ps.map fun(j,x)=>(j,a.eval x))).run P w=.ok (.slice (some ⟨w.heap.size,0,none⟩) n n) (w.alloc (.cells (cellsOf L ρ xs).toArray e))/\xs.length=n:=by
 have l:=gj y he;have c:xs.length=n:=by
  have k:=j3 List.length l;have m:=j3 List.length r;simp only[aa6,mL,List.length_range] at k m;omega
 have s:ps.toList.length=n:=by have:=j3 List.length r;simpa using this
 have b:(ps.map fun(x:Nat×Operand)=>(x.1,a.eval x.2)).toList=(List.range' 0 (bE L ρ xs).length).zip (bE L ρ xs):=by
  rw[Array.toList_map,EM r,l,mL,c,s]
 have f:=fun(cells:Array Value) (hc:cells.size=n*i.size)=>EL i.size n (bE L ρ xs) 0 cells hc (by rw[mL];omega) (Ap hp);refine⟨?_,c⟩;have p:∀zero:Array Value,((Array.range (n*i.size)).map (zero[· % zero.size]!)).size=n*i.size:=fun _=>by simp
 obtain⟨out,k,m⟩:=f ((Array.range (n*i.size)).map ((if n*i.size=0 then #[] else z.cells)[· % (if n*i.size=0 then #[] else z.cells).size]!)) (p _);have d:out=(cellsOf L ρ xs).toArray:=by
  apply Array.ext';rw[m,xV];simp
 have q:¬(n*i.size>2 ^ 24):=by omega
 unfold Instr.buildSlice;simp only[Sem.run_bind,run_underlying ht,Result.andThen_ok,sizeOf,typeInfo,hi,run_program,Sem.run_pure,vv q,zeroValue,v]
 by_cases u:n*i.size=0
 ·simp only[u,abd] at k ⊢
  try simp only[Sem.run_pure,Result.andThen_ok]
  rw[b];have h:=k;simp only[h,d,newRow,Sem.run_bind,run_newObj,Result.andThen_ok,Sem.run_pure];rfl
 ·simp only[u,abp] at k ⊢;simp only[Sem.run_bind,hi,v,run_program,Sem.run_pure,Result.andThen_ok];rw[b];have h:=k;simp only[h,d,newRow,Sem.run_bind,run_newObj,Result.andThen_ok,Sem.run_pure];rfl
theorem MG {t:TypeId}{y:Operand}{x:X}(l:St F L w) (n:aJ L ρ a) (q:∀k,o.dst=some k->k<a.tmps.size)
  (r:o.op=.box t y) (p:bG y=some x) (m:evalOp P (.boxF t x) o.dst F L ρ K):o.wp P a w (bC F L w a K) Q:=by
 simp only[evalOp] at m;have c:(a.eval y).cells=(aM (val L ρ x)).toArray:=by
  apply Array.ext';rw[aL p n];cases val L ρ x<;>rfl
 have d:=ia w (.cells (aM (val L ρ x)).toArray t);obtain⟨s,j⟩:=qO l;have f:=(l.alloc (.cells (aM (val L ρ x)).toArray t)).freeze d j;have e:=aF.aas (l.alloc (.cells (aM (val L ρ x)).toArray t)) d;refine gP n q (v:=.pointer (some ⟨w.heap.size,0,none⟩)) (x:=.v (.pointer (some ⟨w.heap.size,0,none⟩))) ?_ f (Step.mk' e (World.grownBy_alloc w _ none) ?_ fun b h=>.inl h) rfl bY dV (rW L) (m w.heap.size _ e (by simp))
 ·simp[execOp,r,Instr.box,newVar,newRow,c]
 ·intro b hb
  by_cases h:b=w.heap.size
  ·exact .inr (.inr (by omega))
  ·simp only[vv h] at hb;exact .inl hb
theorem Q9 {t e n:Nat}{ps:Array (Nat×Operand)}{i:TypeInfo}{z:Value}{xs:List X}(p:St F L w) (r:aJ L ρ a) (u:∀k,o.dst=some k->k<a.tmps.size)
  (ho:o.op=.buildSlice t n ps) (ht:P.underlying t=some (.slice e)) (hi:P.info? e=some i) (hz:i.zero=some z)
  (s:hO (ps.toList.map (·.2))=some xs) (hr:ps.toList.map (·.1)=List.range n) (hb:n*i.size<=2 ^ 24) (j:evalOp P (.mkF e n i.size xs) o.dst F L ρ K):o.wp P a w (bC F L w a K) Q:=by
 simp only[evalOp,aN] at j;split at j
 case h_2=>exact j.elim
 rename_i y;obtain⟨d,q⟩:=qQ (w:=w) ht hi hz s hr hb y r;have c:=ia w (.cells (cellsOf L ρ xs).toArray e);obtain⟨hf,m⟩:=qO p;have l:=(p.alloc (.cells (cellsOf L ρ xs).toArray e)).freeze c m;have f:=aF.aas (p.alloc (.cells (cellsOf L ρ xs).toArray e)) c;refine gP r u (v:=.slice (some ⟨w.heap.size,0,none⟩) n n) (x:=.v (.slice (some ⟨w.heap.size,0,none⟩) n n)) ?_ l (Step.mk' f (World.grownBy_alloc w _ none) ?_ fun b h=>.inl h) rfl bY dV (rW L) (j w.heap.size _ f (by simp))
 ·simp only[execOp,ho,Sem.run_bind,d,Result.andThen_ok,Sem.run_pure]
 ·intro b hb
  by_cases h:b=w.heap.size
  ·exact .inr (.inr (by omega))
  ·simp only[vv h] at hb;exact .inl hb
theorem mM (w:World) (cs:List Value) (e:TypeId) (n sz:Nat) (c:n<=maxLen) (b:cs.length=n*sz) :
  (w.alloc (.cells cs.toArray e)).ownsRow 0 e sz (.slice (some ⟨w.heap.size,0,none⟩) n n) n cs :=
 ⟨b,.inr ⟨w.heap.size,n,cs.toArray,rfl,abl _,ia w _,aa8 _,c,by simpa using b,by simp[<-b]⟩⟩
theorem Ra {t e n:Nat}{ps:Array (Nat×Operand)}{i:TypeInfo}{z:Value}{xs:List X}(p:St F L w) (l:aJ L ρ a) (u:∀k,o.dst=some k->k<a.tmps.size)
  (ho:o.op=.buildSlice t n ps) (ht:P.underlying t=some (.slice e)) (hi:P.info? e=some i) (hz:i.zero=some z)
  (q:hO (ps.toList.map (·.2))=some xs) (y:ps.toList.map (·.1)=List.range n) (hb:n*i.size<=2 ^ 24) (hn:n<=2 ^ 24) (b:evalOp P (.mkR e n i.size xs) o.dst F L ρ K):o.wp P a w (bC F L w a K) Q:=by
 simp only[evalOp,aN] at b;split at b
 case h_2=>exact b.elim
 rename_i _ _ k j h;split at b
 case h_2=>exact b.elim
 rename_i _ s;obtain⟨c,d⟩:=qQ (w:=w) ht hi hz q y hb j l;have f:=mM w (cellsOf L ρ xs) e n i.size (by simp only[maxLen];omega) (by rw[qP j,d]);obtain⟨r,m,h3⟩:=ld p s (cs:=(cellsOf L ρ xs).toArray) (t:=e) (e:=.row (.slice (some ⟨w.heap.size,0,none⟩) n n) e i.size n (cellsOf L ρ xs)) rfl f;refine gP l u (v:=.slice (some ⟨w.heap.size,0,none⟩) n n) (x:=.v (.slice (some ⟨w.heap.size,0,none⟩) n n)) ?_ r m rfl bY dV h3 (b w.heap.size);simp only[execOp,ho,Sem.run_bind,c,Result.andThen_ok,Sem.run_pure]
def placeOf (P:Program) (f:Field):Nat×Nat:=(f.offset,P.cellsOf f.type)
def xW (f:Field):Sem (Nat×Nat):=do pure (f.offset,<-sizeOf f.type)
theorem zO {fs:Array Field}:∀{ps:List (Nat×Operand)}{l:List (Nat×Nat×X)},oW P fs ps=some l->∀{cells:Array Value}{cs:List Value}(r:Array (Nat×Nat)),aJ L ρ a ->
  (∀(j:Nat) (f:Field) (i:TypeInfo),fs[j]?=some f->P.info? f.type=some i->r[j]?=some (f.offset,i.size)) ->
  built L ρ cells.toList l=some cs->(∀off n x,(off,n,x)∈l->off+n<=cells.size) ->
  ∃out,Instr.fill (r[·]?) cells (ps.map fun p=>(p.1,a.eval p.2))=some out/\out.toList=cs:=by
 intro ps
 induction ps with
 | nil =>
  intro l h cells cs r u k hb e;simp only[oW,w7] at h;subst h;simp only[built,w7] at hb;exact⟨cells,rfl,hb⟩
 | cons p ps ih =>
  intro l h cells cs r u k hb e;obtain⟨j,y⟩:=p;simp only[oW] at h;split at h
  case h_2=>cases h
  rename_i f x l' hf hx s;split at h
  case h_2=>cases h
  rename_i i hi;injection h with h
  subst h;simp only[built] at hb;split at hb
  case h_2=>cases hb
  rename_i b;have b:=jh b;have q:=e f.offset i.size x (by simp);have m:=aL hx u;simp only[aaU,Instr.fill,k j f i hf hi];have t:(a.eval y).cells.size=i.size:=by rw[m];rw[o7] at b;simpa using b
  rw[vv (by simp[t];omega)];have c:=CX (a.eval y).cells f.offset cells (by omega);have d:(a.eval y).cells.toList=aM (val L ρ x):=by rw[m,o7]
  rw[d] at c;refine ih s r u k (cs:=cs) ?_ ?_
  ·rw[c];exact hb
  ·intro off n v z;rw[<-Array.length_toList,c,fU _ _ _ (by rw[b];simpa using q)];simpa using e off n v (by simp[z])
theorem wH (P:Program) (w:World):∀(fs:List Field),(∀f:Field,f∈fs->(P.info? f.type).isSome=true) ->
  (fs.mapM xW).run P w=.ok (fs.map (placeOf P)) w:=by
 intro fs
 induction fs with
 | nil=>intro _;simp
 | cons f fs c =>
  intro h;have d:=h f (by simp);obtain⟨i,hi⟩:=Option.isSome_iff_exists.1 d;simp only[List.mapM_cons,xW,Sem.run_bind,sizeOf,typeInfo,run_program,Result.andThen_ok,hi,Sem.run_pure];rw[c (fun g b=>h g (by simp[b]))];simp[placeOf,Program.cellsOf,hi]
theorem Ji {t:Nat}{ps:Array (Nat×Operand)}{fs:Array Field}{i:TypeInfo}{zs:List Value}{l:List (Nat×Nat×X)}(hs:St F L w) (he:aJ L ρ a) (hd:∀k,o.dst=some k->k<a.tmps.size)
  (ho:o.op=.build t ps) (ht:P.underlying t=some (.struct fs)) (hi:P.info? t=some i) (b:Tl i=some zs) (hl:oW P fs ps.toList=some l) (d:∀f:Field,f∈fs.toList->(P.info? f.type).isSome=true)
  (s:∀off n x,(off,n,x)∈l->off+n<=zs.length) (h:evalOp P (.build zs l) o.dst F L ρ K):o.wp P a w (bC F L w a K) Q:=by
 simp only[evalOp,aN] at h;split at h
 case h_2=>exact h.elim
 rename_i cs y;unfold Tl at b;split at b
 case h_2=>cases b
 rename_i z r;injection b with b
 have u:∀(j:Nat) (f:Field) (i:TypeInfo),fs[j]?=some f->P.info? f.type=some i->(fs.map (placeOf P))[j]?=some (f.offset,i.size):=by
  intro j f i q m;simp[q,placeOf,Program.cellsOf,m]
 obtain⟨out,q,m⟩:=zO (a:=a) (cells:=z.cells) (cs:=cs) hl _ he u (by rw[b];exact y) (by intro off n x hm;have:=s off n x hm;rw[<-b] at this;simpa using this);have c:out=cs.toArray:=by apply Array.ext';simpa using m
 have e:(fs.mapM xW).run P w=.ok (fs.map (placeOf P)) w:=by
  rw[Array.mapM_eq_mapM_toList,Sem.run_map,wH P w _ d];simp only[Result.andThen_ok];congr 1;exact Array.ext' (by simp)
 refine bR hs he hd (v:=.agg cs.toArray) (x:=.v (.agg cs.toArray)) ?_ rfl bY dV h;simp only[execOp,ho,Instr.build,Sem.run_bind,zeroValue,typeInfo,run_program,Result.andThen_ok,hi,Sem.run_pure,r,run_underlying ht];rw[show(fs.mapM fun(f:Field)=>(do pure (f.offset,<-sizeOf f.type):Sem (Nat×Nat))).run P w=.ok (fs.map (placeOf P)) w from e];simp only[Result.andThen_ok];rw[show(ps.map fun(x:Nat×Operand)=>(x.1,a.eval x.2)).toList=ps.toList.map (fun p=>(p.1,a.eval p.2)) by simp,q,c];simp
theorem vh {t:Nat}{d:TypeDesc}(b:P.underlying t=some d):(isAgg t).run P w=.ok (dX d) w:=by
 unfold isAgg;simp only[Sem.run_bind,run_underlying b,Result.andThen_ok];cases d<;>rfl
theorem pV {t:Nat}{d:TypeDesc}{i:TypeInfo}(k:P.underlying t=some d) (hi:P.info? t=some i) {c:Addr}{cs:List Value}{n:Nat}
  (h:∀j v,cs[j]?=some v->w.cell? (c.add j)=some v) (b:cs.length=n) (e:n=match dX d with | true=>i.size | false=>1) :
  (Instr.loadAt t (.pointer (some c))).run P w=.ok (gZ (dX d) cs) w:=by
 simp only[Instr.loadAt,Instr.sureAddr,Sem.run_bind,Sem.run_pure,Result.andThen_ok,loadVar,vh k];cases f:dX d with
 | true =>
  simp only[f] at e;simp only[abd,Sem.run_bind,sizeOf,typeInfo,run_program,Result.andThen_ok,hi,Sem.run_pure];rw[<-e,<-b,run_loadCells_list w c cs h];rfl
 | false =>
  simp only[f] at e;subst e
  match cs,b with
  | [v],_ =>
   have:=h 0 v (by simp);rw[show c.add 0=c by simp[Addr.add]] at this;simp[run_load,this,gZ]
theorem ol {g:Nat}{t:TypeId}{cs:List Value}(b:t≠0) (h:Own.ok w (.box g t cs)) (n:Nat):w.cell? ⟨g,n,none⟩=cs[n]?:=by
 simp only[Own.ok,iN b] at h;simp[World.cell?,h]
theorem MH {t:Nat}{y:Operand}{x:X}{d:TypeDesc}{i:TypeInfo}{n:Nat}(hs:St F L w) (he:aJ L ρ a) (hd:∀k,o.dst=some k->k<a.tmps.size)
  (ho:o.op=.load t y) (ht:P.underlying t=some d) (hi:P.info? t=some i) (hx:bG y=some x) (hn:n=match dX d with | true=>i.size | false=>1)
  (q:evalOp P (.load (dX d) n x) o.dst F L ρ K):o.wp P a w (bC F L w a K) Q:=by
 have ec:=aL hx he;have z:∀(l:Option Addr) (j:Nat),l≠none->(j8 F L l j n fun cs=>K F L (put o.dst (.v (gZ (dX d) cs)) ρ))->a.eval y=conc L (.el l j)->o.wp P a w (bC F L w a K) Q:=by
  rintro l j ay ⟨cs,r,hc,q⟩ hy;cases l with
  | none=>exact p7 rfl ay
  | some l =>
   have f:∀i v,cs[i]?=some v->w.cell? ((l.add j).add i)=some v:=by
    rcases hc with hc | ⟨k,v,t',sz,m,xs,ax,c,hk,s,e2,hc⟩ | aE | ⟨k,g,t',bs,o',hk,ab,s,hc⟩
    ·obtain⟨ax,e,am,ar⟩:=hc.cell hs;injection e with e
     subst e;intro i v hv;obtain⟨b,o',sp⟩:=l;simp only at am;subst am;rw[cA,cA,Nat.add_assoc,<-cA];exact ar i v hv
    ·injection s with s
     subst s;have aa:=hs.own k _ hk;simp only[Own.ok] at aa;subst e2;intro i u hu;have hb:=hc i u hu;have h0:=World.ownsRow.cells aa (g:=l.block) rfl (j+i) u hb;rcases aa.2 with⟨e,_⟩ | ⟨g,cap,bm,e,_⟩
     ·cases e
     ·injection e with s e2 e3
      injection s with s
      subst s;rw[cA,cA];rw[cA] at h0;simpa[Nat.add_assoc] using h0
    ·intro i v hv;rw[aE] at r;have:cs=[]:=abh r;subst this;simp at hv
    ·injection s with s
     subst s;intro i u hu;rw[cA,cA,ol ab (hs.own k _ hk)];exact hc i u hu
   refine bR hs he hd (v:=gZ (dX d) cs) (x:=.v (gZ (dX d) cs)) ?_ rfl bY dV q;simp only[execOp,ho,hy,conc,Sem.run_bind,pV ht hi f r hn,Result.andThen_ok,Sem.run_pure]
 simp only[evalOp,aN] at q;split at q
 ·rename_i k off p;split at q
  case h_2=>exact q.elim
  rename_i g ty cs hk;split at q
  case h_2=>exact q.elim
  rename_i hl;have ab:=wW hl;have hl:=jh (BA hl);have an:=hs.own k _ hk;have f:∀j v,((cs.drop off).take n)[j]?=some v->w.cell? ((⟨g,off,none⟩:Addr).add j)=some v:=by
   intro j v hv;rw[cA,ol ab an];have hj:j<n:=by
    have:=xD.1 hv;obtain⟨h,_⟩:=this;omega
   rw[List.getElem?_take_of_lt hj,abm] at hv;exact hv
  refine bR hs he hd (v:=gZ (dX d) ((cs.drop off).take n)) (x:=.v (gZ (dX d) ((cs.drop off).take n))) ?_ rfl bY dV q;have hy:a.eval y=.pointer (some ⟨g,off,none⟩):=by rw[ec];simp only[val,p,conc,hk]
  simp only[execOp,ho,hy,Sem.run_bind,pV ht hi f hl hn,Result.andThen_ok,Sem.run_pure]
 ·rename_i l j p;exact z l j (rV hx he p) q (by rw[ec];simp only[val,p])
 ·rename_i l p;refine z (some l) 0 (by simp) q ?_;rw[ec];simp only[val,p,conc];simp[Addr.add]
 ·exact q.elim
end
section
variable {P:Program}{F:aF}{L:Loc}{ρ:Env}{a:Act}{w:World}{K:dm}{o:Oper}{Q:Exit->Act->World->Prop}
theorem Aq {k b:IntKind}(h:qM k b=true):k=b:=by cases k<;>cases b<;>first | rfl | cases h
theorem tq {op:BinOp}{t:TypeId}{x y:Operand}{u v:Value}(h:∀c,u≠.agg c) (b:u≠.nilIface):(eqGuard op t x y u v).run P w=.ok () w:=by
 have key:(eqGuard op t x y u v).run P w=.ok () w\/True:=.inr trivial;unfold eqGuard;cases op<;>simp only[Bool.not_true,Bool.not_false,abd,aaZ,abp]<;>first
  | rfl
  | (cases u<;>first | rfl | exact p7 rfl (h _) | exact p7 rfl b)
theorem toList_data (s:ByteArray):s.toList=s.data.toList:=ByteArray.toList_eq s
theorem wX (x y:List UInt8):(x == y)=decide (x=y):=by rw[Bool.eq_iff_iff];simp
theorem Rb {t t':TypeId}{op:BinOp}{y z:Operand}{p z':X}(hs:St F L w) (he:aJ L ρ a) (hd:∀k,o.dst=some k->k<a.tmps.size)
  (ho:o.op=.binOp op t y z t') (hy:bG y=some p) (hz:bG z=some z') (d:evalOp P (.bin op p z') o.dst F L ρ K):o.wp P a w (bC F L w a K) Q:=by
 have ey:=aL hy he;have ez:=aL hz he;have fin:∀v,(binOp op t (val L ρ p) (val L ρ z')).run P w=.ok v w->(∀c,val L ρ p≠.agg c)->val L ρ p≠.nilIface->K F L (put o.dst (.v v) ρ)->o.wp P a w (bC F L w a K) Q:=by
  intro v hr r h2 d;refine bR hs he hd (v:=v) (x:=.v v) ?_ rfl bY dV d;simp only[execOp,ho,ey,ez,Sem.run_bind,tq r h2,Result.andThen_ok,hr,Sem.run_pure]
 simp only[evalOp,aN] at d;split at d
 ·rename_i k n k' m j h;have b:=bN (L:=L) j;have e:=bN (L:=L) h;split at d
  ·rename_i l;have q:op=.shl\/op=.shr:=by cases op<;>simp_all [Jd]
   have r:(binOp op t (.int k n) (.int k' m)).run P w=(Op.shift op k n k' m).run P w:=by rcases q with rfl | rfl<;>rfl
   rcases q with rfl | rfl
   ·obtain⟨hm,⟨d⟩⟩:=d;refine fin _ ?_ (by rw[b];simp) (by rw[b];simp) d;rw[b,e,r];simp[Op.shift,show¬m<0 by omega]
   ·obtain⟨hm,d⟩:=d;refine fin _ ?_ (by rw[b];simp) (by rw[b];simp) d;rw[b,e,r];simp[Op.shift,show¬m<0 by omega]
  ·rename_i l;split at d
   case h_2=>exact d.elim
   rename_i hk;have hk:=Aq hk;subst hk;cases op<;>simp only[binI] at d<;>first | (cases l;done) | skip
   ·obtain⟨d⟩:=d;exact fin _ (by rw[b,e];simp[binOp,Op.intArith]) (by rw[b];simp) (by rw[b];simp) d
   ·obtain⟨d⟩:=d;exact fin _ (by rw[b,e];simp[binOp,Op.intArith]) (by rw[b];simp) (by rw[b];simp) d
   ·obtain⟨d⟩:=d;exact fin _ (by rw[b,e];simp[binOp,Op.intArith]) (by rw[b];simp) (by rw[b];simp) d
   ·obtain⟨f,⟨d⟩⟩:=d;exact fin _ (by rw[b,e];simp[binOp,Op.intDiv,f]) (by rw[b];simp) (by rw[b];simp) d
   ·obtain⟨f,d⟩:=d;exact fin _ (by rw[b,e];simp[binOp,Op.intDiv,f]) (by rw[b];simp) (by rw[b];simp) d
   ·exact fin _ (by rw[b,e];simp[binOp,Op.intBits]) (by rw[b];simp) (by rw[b];simp) d
   ·exact fin _ (by rw[b,e];simp[binOp,Op.intBits]) (by rw[b];simp) (by rw[b];simp) d
   ·exact fin _ (by rw[b,e];simp[binOp,Op.intBits]) (by rw[b];simp) (by rw[b];simp) d
   ·exact fin _ (by rw[b,e];simp[binOp,Op.intBits]) (by rw[b];simp) (by rw[b];simp) d
   ·exact fin _ (by rw[b,e];simp[binOp,Op.intCmp];rfl) (by rw[b];simp) (by rw[b];simp) d
   ·exact fin _ (by rw[b,e];simp[binOp,Op.intCmp,bne];rfl) (by rw[b];simp) (by rw[b];simp) d
   ·exact fin _ (by rw[b,e];simp[binOp,Op.intCmp]) (by rw[b];simp) (by rw[b];simp) d
   ·exact fin _ (by rw[b,e];simp[binOp,Op.intCmp]) (by rw[b];simp) (by rw[b];simp) d
   ·exact fin _ (by rw[b,e];simp[binOp,Op.intCmp]) (by rw[b];simp) (by rw[b];simp) d
   ·exact fin _ (by rw[b,e];simp[binOp,Op.intCmp]) (by rw[b];simp) (by rw[b];simp) d
 ·rename_i s u j h;have b:=bN (L:=L) j;have e:=bN (L:=L) h;cases op<;>simp only[binS] at d<;>first | exact d.elim | skip
  ·obtain⟨aw,d⟩:=d;refine fin _ ?_ (by rw[b];simp) (by rw[b];simp) d;rw[b,e];have:¬(((s.size+u.size:Nat):Int)>IntKind.i64.max):=by omega
   simp only[binOp,Op.stringOp,vv this];rfl
  ·exact fin _ (by rw[b,e];simp only[binOp,Op.stringOp,toList_data,wX];rfl) (by rw[b];simp) (by rw[b];simp) d
  ·exact fin _ (by rw[b,e];simp only[binOp,Op.stringOp,toList_data,wX];rfl) (by rw[b];simp) (by rw[b];simp) d
  ·exact fin _ (by rw[b,e];simp only[binOp,Op.stringOp,toList_data,wX];rfl) (by rw[b];simp) (by rw[b];simp) d
  ·exact fin _ (by rw[b,e];simp only[binOp,Op.stringOp,toList_data,wX];rfl) (by rw[b];simp) (by rw[b];simp) d
 ·exact d.elim
theorem Jj {t t':TypeId}{neg:Bool}{y z:Operand}{q l:X}(hs:St F L w) (f:aJ L ρ a) (hd:∀k,o.dst=some k->k<a.tmps.size)
  (r:o.op=.binOp (if neg then .neq else .eql) t y z t') (s:P.underlying t=some .bool) (hy:bG y=some q) (hz:bG z=some l) (d:evalOp P (.eqB neg q l) o.dst F L ρ K):o.wp P a w (bC F L w a K) Q:=by
 have m:=aL hy f;have j:=aL hz f;simp only[evalOp,aN] at d;split at d
 case h_2=>exact d.elim
 rename_i b c h e;have n:=bN (L:=L) h;have u:=bN (L:=L) e;refine bR hs f hd (v:=.bool (lS neg (decide (b=c)))) (x:=.v (.bool (lS neg (decide (b=c))))) ?_ rfl bY dV d;have p:∀op:BinOp,(eqGuard op t y z (.bool b) (.bool c)).run P w=.ok () w:=fun op=>tq (by simp) (by simp);have hb:(b == c)=decide (b=c):=by cases b<;>cases c<;>rfl
 cases neg
 ·simp only[execOp,r,m,j,n,u,Sem.run_bind,p,Result.andThen_ok];have:=run_eql_bool (P:=P) w t b c s;rw[hb] at this;simp[this,lS]
 ·simp only[execOp,r,m,j,n,u,Sem.run_bind,p,Result.andThen_ok];have:=run_neq_bool (P:=P) w t b c s;rw[hb] at this;simp[this,lS]
theorem EN {t e:TypeId}(h:P.underlying t=some (.pointer e)) (p:Option Addr):(Op.equal t (.pointer p) (.pointer none)).run P w=.ok p.isNone w:=by
 have key:∀d:Nat,(Op.equalIn (d+1) t (.pointer p) (.pointer none)).run P w=.ok p.isNone w:=fun d=>by
  cases p<;>simp[Op.equalIn,run_underlying h]
 exact key 9999
theorem Rc {t e:TypeId}(h:P.underlying t=some (.slice e)) (p:Option Addr) (n c n' b:Nat):(Op.equal t (.slice p n c) (.slice none n' b)).run P w=.ok p.isNone w:=by
 have key:∀d:Nat,(Op.equalIn (d+1) t (.slice p n c) (.slice none n' b)).run P w=.ok p.isNone w:=fun d=>by
  cases p<;>simp[Op.equalIn,run_underlying h]
 exact key 9999
theorem Rf {t:TypeId}{ps b:Array TypeId}{v:Bool}(h:P.underlying t=some (.func ps b v)):(Op.equal t .nilFunc .nilFunc).run P w=.ok true w:=by
 have key:∀d:Nat,(Op.equalIn (d+1) t .nilFunc .nilFunc).run P w=.ok true w:=fun d=>by
  simp[Op.equalIn,run_underlying h]
 exact key 9999
theorem Rh {t:TypeId}{ps b:Array TypeId}{v:Bool}{f:Fn}{x y:Array Value}(h:P.underlying t=some (.func ps b v)):(Op.equal t (.func f x y) .nilFunc).run P w=.ok false w:=by
 have key:∀d:Nat,(Op.equalIn (d+1) t (.func f x y) .nilFunc).run P w=.ok false w:=fun d=>by
  simp[Op.equalIn,run_underlying h]
 exact key 9999
theorem tu {t t':TypeId}{neg:Bool}{y z:Operand}{p h:X}(hs:St F L w) (d:aJ L ρ a) (hd:∀k,o.dst=some k->k<a.tmps.size)
  (r:o.op=.binOp (if neg then .neq else .eql) t y z t') (hy:bG y=some p) (hz:bG z=some h)
  (u v:Value) (b:Bool) (hu:val L ρ p=u) (hv:val L ρ h=v) (h1:∀c,u≠.agg c) (h2:u≠.nilIface) (h3:∀k n,u≠.int k n) (h4:∀s,u≠.string s) (h5:∀k n,u≠.float k n) (f:∀k n m,u≠.complex k n m)
  (q:(Op.equal t u v).run P w=.ok b w) (hK:K F L (put o.dst (.v (.bool (lS neg b))) ρ)):o.wp P a w (bC F L w a K) Q:=by
 have j:=aL hy d;have e:=aL hz d;refine bR hs d hd (v:=.bool (lS neg b)) (x:=.v (.bool (lS neg b))) ?_ rfl bY dV hK;have l:∀op:BinOp,(eqGuard op t y z u v).run P w=.ok () w:=fun op=>tq h1 h2;cases neg
 ·simp only[execOp,r,j,e,hu,hv,Sem.run_bind,l,Result.andThen_ok];have:binOp .eql t u v=(do pure (.bool (<-Op.equal t u v)):Sem Value):=by
   cases u<;>first | rfl | exact p7 rfl (h3 _ _) | exact p7 rfl (h4 _) | exact p7 rfl (h5 _ _) | exact p7 rfl (f _ _ _)
  simp[this,q,lS]
 ·simp only[execOp,r,j,e,hu,hv,Sem.run_bind,l,Result.andThen_ok];have:binOp .neq t u v=(do pure (.bool (!(<-Op.equal t u v))):Sem Value):=by
   cases u<;>first | rfl | exact p7 rfl (h3 _ _) | exact p7 rfl (h4 _) | exact p7 rfl (h5 _ _) | exact p7 rfl (f _ _ _)
  simp[this,q,lS]
theorem Jk {t x e:TypeId}{neg:Bool}{y z:Operand}{u s:X}(l:St F L w) (h:aJ L ρ a) (m:∀k,o.dst=some k->k<a.tmps.size)
  (n:o.op=.binOp (if neg then .neq else .eql) t y z x) (q:P.underlying t=some (.pointer e)) (f:bG y=some u) (r:bG z=some s) (d:evalOp P (.eqP neg u s) o.dst F L ρ K):o.wp P a w (bC F L w a K) Q:=by
 simp only[evalOp,aN] at d;split at d
 ·rename_i k off b c;obtain⟨g,ty,cs,hg⟩:=oZ f h b;exact tu l h m n f r (.pointer (some ⟨g,off,none⟩)) (.pointer none) false (by simp only[val,b,conc,hg]) (bN c) (by simp) (by simp) (by simp) (by simp) (by simp) (by simp) (EN q _) d
 ·rename_i v j b c;exact tu l h m n f r (.pointer (some (v.add j))) (.pointer none) false (by simp only[val,b,conc]) (bN c) (by simp) (by simp) (by simp) (by simp) (by simp) (by simp) (EN q _) d
 ·rename_i p b c;exact tu l h m n f r (.pointer p) (.pointer none) p.isNone (bN b) (bN c) (by simp) (by simp) (by simp) (by simp) (by simp) (by simp) (EN q _) d
 ·exact d.elim
theorem Jl {t q e:TypeId}{neg:Bool}{y z:Operand}{j h:X}(m:St F L w) (v:aJ L ρ a) (s:∀k,o.dst=some k->k<a.tmps.size)
  (u:o.op=.binOp (if neg then .neq else .eql) t y z q) (x:P.underlying t=some (.slice e)) (l:bG y=some j) (hz:bG z=some h) (b:evalOp P (.eqS neg j h) o.dst F L ρ K):o.wp P a w (bC F L w a K) Q:=by
 simp only[evalOp,aN] at b;split at b
 ·rename_i p n c n' r f d;exact tu m v s u l hz (.slice p n c) (.slice none n' r) p.isNone (bN f) (bN d) (by simp) (by simp) (by simp) (by simp) (by simp) (by simp) (Rc x _ _ _ _ _) b
 ·exact b.elim
theorem Jm {t s:TypeId}{ps u:Array TypeId}{v neg:Bool}{y z:Operand}{m j:X}(h:St F L w) (p:aJ L ρ a) (l:∀k,o.dst=some k->k<a.tmps.size)
  (n:o.op=.binOp (if neg then .neq else .eql) t y z s) (q:P.underlying t=some (.func ps u v)) (e:bG y=some m) (r:bG z=some j) (d:evalOp P (.eqF neg m j) o.dst F L ρ K):o.wp P a w (bC F L w a K) Q:=by
 simp only[evalOp,aN] at d;split at d
 ·rename_i c b;exact tu h p l n e r .nilFunc .nilFunc true (bN c) (bN b) (by simp) (by simp) (by simp) (by simp) (by simp) (by simp) (Rf q) d
 ·rename_i f x y c b;exact tu h p l n e r (.func f x y) .nilFunc false (bN c) (bN b) (by simp) (by simp) (by simp) (by simp) (by simp) (by simp) (Rh q) d
 ·exact d.elim
theorem Hs {z:Operand}{b:X}(h:bG z=some b) (k:xU b=true):z=.const .nilIface:=by
 unfold xU at k;split at k
 ·cases z with
  | const v=>simp only[bG,w7,X.c.injEq] at h;rw[h]
  | tmp n=>cases h
  | func f=>cases h
  | global g=>cases h
 ·cases k
theorem Ri {t:TypeId}{b:Array (String×TypeId)}(h:P.underlying t=some (.interface b)):(Op.equal t .nilIface .nilIface).run P w=.ok true w:=by
 have key:∀d:Nat,(Op.equalIn (d+1) t .nilIface .nilIface).run P w=.ok true w:=fun d=>by
  simp[Op.equalIn,run_underlying h]
 exact key 9999
theorem Rj {t ty:TypeId}{b:Array (String×TypeId)}{u:Value}(h:P.underlying t=some (.interface b)):(Op.equal t (.iface ty u) .nilIface).run P w=.ok false w:=by
 have key:∀d:Nat,(Op.equalIn (d+1) t (.iface ty u) .nilIface).run P w=.ok false w:=fun d=>by
  simp[Op.equalIn,run_underlying h]
 exact key 9999
theorem Jo {t t':TypeId}{ms:Array (String×TypeId)}{neg:Bool}{y z:Operand}{h f:X}(p:St F L w) (l:aJ L ρ a) (r:∀k,o.dst=some k->k<a.tmps.size)
  (j:o.op=.binOp (if neg then .neq else .eql) t y z t') (ht:P.underlying t=some (.interface ms)) (m:bG y=some h) (d:bG z=some f) (hn:xU f=true) (c:evalOp P (.eqN neg h) o.dst F L ρ K):o.wp P a w (bC F L w a K) Q:=by
 have q:=aL m l;obtain rfl:=Hs d hn;simp only[evalOp,aN] at c;split at c
 ·rename_i b;have hu:val L ρ h=.nilIface:=bN b;refine bR p l r (v:=.bool (lS neg true)) (x:=.v (.bool (lS neg true))) ?_ rfl bY dV c;have s:∀op:BinOp,(eqGuard op t y (.const .nilIface) .nilIface .nilIface).run P w=.ok () w:=fun op=>by
   cases op<;>simp[eqGuard]
  have n:a.eval (.const .nilIface)=.nilIface:=rfl;have hr:=Ri (P:=P) (w:=w) ht;cases neg
  ·simp only[execOp,j,q,n,hu,Sem.run_bind,s,Result.andThen_ok];have:binOp .eql t .nilIface .nilIface=(do pure (.bool (<-Op.equal t .nilIface .nilIface)):Sem Value):=rfl;simp[this,hr,lS]
  ·simp only[execOp,j,q,n,hu,Sem.run_bind,s,Result.andThen_ok];have:binOp .neq t .nilIface .nilIface=(do pure (.bool (!(<-Op.equal t .nilIface .nilIface))):Sem Value):=rfl;simp[this,hr,lS]
 ·rename_i ty u b;have e:val L ρ f=.nilIface:=by
   simp only[bG,w7] at d;rw[<-d];rfl
  exact tu p l r j m d (.iface ty u) .nilIface false (bN b) e (by simp) (by simp) (by simp) (by simp) (by simp) (by simp) (Rj ht) c
 ·exact c.elim
theorem CY {l c:List Value}{b r:Bool}(h:jA [] l c b=some r):l=[]/\c=[]/\r=b:=by
 cases l with
 | cons v l=>simp[jA] at h
 | nil =>
  cases c with
  | cons v l=>simp[jA] at h
  | nil=>simp only[jA,w7] at h;exact⟨rfl,rfl,h.symm⟩
theorem Ar {ks:List Bool}{l d:List Value}{c r:Bool}(h:jA (true::ks) l d c=some r):∃k a f b e,l=.int k a::f/\d=.int k b::e/\jA ks f e (c&&decide (a=b))=some r:=by
 cases l with
 | nil=>simp[jA] at h
 | cons v l =>
  cases d with
  | nil=>cases v<;>simp[jA] at h
  | cons m d =>
   cases v<;>cases m<;>try (simp[jA] at h;done)
   rename_i k a n b;simp only[jA] at h;split at h
   ·rename_i j;have:=Aq j;subst this;exact⟨k,a,l,b,d,rfl,rfl,h⟩
   ·cases h
theorem xX {ks:List Bool}{l d:List Value}{c r:Bool}(h:jA (false::ks) l d c=some r):∃a f b e,l=.bool a::f/\d=.bool b::e/\jA ks f e (c&&decide (a=b))=some r:=by
 cases l with
 | nil=>simp[jA] at h
 | cons v l =>
  cases d with
  | nil=>cases v<;>simp[jA] at h
  | cons j d =>
   cases v<;>cases j<;>try (simp[jA] at h;done)
   rename_i a b;simp only[jA] at h;exact⟨a,l,b,d,rfl,rfl,h⟩
theorem CZ (k:IntKind):qM k k=true:=by cases k<;>rfl
theorem Jp:∀{ks:List Bool}{l f:List Value}{d r:Bool},jA ks l f d=some r->∃e,(∀c,jA ks l f c=some (c&&e))/\r=(d&&e):=by
 intro ks
 induction ks with
 | nil =>
  intro l f d r h;obtain⟨rfl,rfl,rfl⟩:=CY h;exact⟨true,fun c=>by simp[jA],by simp⟩
 | cons k ks p =>
  intro l f d r h;cases k with
  | true =>
   obtain⟨k,a,q,b,s,rfl,rfl,m⟩:=Ar h;obtain⟨e,n,j⟩:=p m;exact⟨decide (a=b)&&e,fun c=>by simp only[jA,CZ,n,Bool.and_assoc],by rw[j,Bool.and_assoc]⟩
  | false =>
   obtain⟨a,q,b,s,rfl,rfl,m⟩:=xX h;obtain⟨e,n,j⟩:=p m;exact⟨decide (a=b)&&e,fun c=>by simp only[jA,n,Bool.and_assoc],by rw[j,Bool.and_assoc]⟩
theorem xY {t:TypeId}{d:TypeDesc}(c:P.underlying t=some d) (b:dX d=false) {cs:Array Value}{off:Nat}{v:Value}(h:cs[off]?=some v):(part t cs off).run P w=.ok v w:=by
 simp only[part,Sem.run_bind,vh c,Result.andThen_ok,b,aaZ,abp,h,Sem.run_pure]
theorem um {d:Nat}{xs ys:Array Value}:∀{fs:List Field}{k:Nat}{ks:List Bool}{b:Bool},pU P fs k=some ks->jA ks (xs.toList.drop k) (ys.toList.drop k) true=some b->(Op.eqFields (d+1) xs ys fs).run P w=.ok b w
 | [],k,ks,b,h,he=>by
  simp only[pU,w7] at h;subst h;obtain⟨_,_,rfl⟩:=CY he;simp[Op.eqFields]
 | f::fs,k,ks,b,h,he=>by
  have hcons:∀{zs:Array Value}{v:Value}{l:List Value},zs.toList.drop k=v::l->zs[k]?=some v/\zs.toList.drop (k+1)=l:=by
   intro zs v l e;refine⟨?_,?_⟩
   ·have:=j3 (fun q=>q[0]?) e;simp only[abm,Nat.add_zero,aa2] at this;simpa using this
   ·rw[<-List.drop_drop,e];rfl
  have fin:∀{u v:Value}{l l':List Value}{ks':List Bool}{r:Bool}{dd:TypeDesc},P.underlying f.type=some dd->dX dd=false->f.offset=k->f.name≠"_"->xs.toList.drop k=u::l->ys.toList.drop k=v::l'->(Op.equalIn (d+1) f.type u v).run P w=.ok r w ->
    pU P fs (k+1)=some ks'->jA ks' l l' r=some b->(Op.eqFields (d+1) xs ys (f::fs)).run P w=.ok b w:=by
   intro u v l l' ks' r dd hu hag ho hnm e1 e2 heq hfl hev;obtain⟨a1,a2⟩:=hcons e1;obtain⟨b1,b2⟩:=hcons e2;simp only[Op.eqFields];rw[o6 hnm];simp only[Sem.run_bind,ho,xY hu hag a1,xY hu hag b1,Result.andThen_ok,heq];obtain⟨r0,q1,q2⟩:=Jp hev;cases r with
   | false =>
    simp only[abM] at q2;subst q2;simp
   | true =>
    simp only[abJ] at q2;subst q2;simp only[Bool.not_true,aaZ,abp];exact um hfl (by rw[a2,b2];simpa using q1 true)
  simp only[pU] at h;split at h
  ·rename_i ki hoff hnm hu;split at h
   case h_2=>cases h
   rename_i ks' hks;injection h with h
   subst h;have hoff:=v8 hoff;have hnm:=abu hnm;obtain⟨k1,x,l1,y,l2,e1,e2,he⟩:=Ar he;exact fin hu rfl hoff hnm e1 e2 (run_equalIn_int w d f.type k1 _ x y hu) hks (by rw[show(x == y)=decide (x=y) from rfl];simpa using he)
  ·rename_i hoff hnm hu;split at h
   case h_2=>cases h
   rename_i ks' hks;injection h with h
   subst h;have hoff:=v8 hoff;have hnm:=abu hnm;obtain⟨x,l1,y,l2,e1,e2,he⟩:=xX he;have hb:(x == y)=decide (x=y):=by cases x<;>cases y<;>rfl
   exact fin hu rfl hoff hnm e1 e2 (run_equalIn_bool' w d f.type x y hu) hks (by rw[hb];simpa using he)
  ·cases h
theorem Jq {t t':TypeId}{fs:Array Field}{neg:Bool}{ks:List Bool}{y z:Operand}{s n:X}(hs:St F L w) (j:aJ L ρ a) (hd:∀k,o.dst=some k->k<a.tmps.size)
  (u:o.op=.binOp (if neg then .neq else .eql) t y z t') (ht:P.underlying t=some (.struct fs)) (hk:pU P fs.toList 0=some ks) (hp:P.stoodInHeld t=false) (r:P.eqGuardType P.depth t=false) (hy:bG y=some s) (hz:bG z=some n)
  (c:evalOp P (.eqA neg ks s n) o.dst F L ρ K):o.wp P a w (bC F L w a K) Q:=by
 have p:=aL hy j;have m:=aL hz j;simp only[evalOp,aN] at c;split at c
 case h_2=>exact c.elim
 rename_i cs ds l h;split at c
 case h_2=>exact c.elim
 rename_i b hb;have q:=bN (L:=L) l;have vz:=bN (L:=L) h;have f:P.fieldsOf t=fs:=by simp only[Program.fieldsOf,ht]
 have e:(Op.equalIn 10000 t (.agg cs) (.agg ds)).run P w=.ok b w:=by
  rw[show(10000:Nat)=9999+1 from rfl,run_equalIn_agg w 9999 t cs ds (by rw[f];exact ht) hp,f];exact um (d:=9998) hk (by simpa using hb)
 refine bR hs j hd (v:=.bool (lS neg b)) (x:=.v (.bool (lS neg b))) ?_ rfl bY dV c;cases neg
 ·simp only[execOp,u,p,m,q,vz,Sem.run_bind,run_eqGuard_agg w _ t y z cs ds r,Result.andThen_ok];simp[run_eql_struct,e,lS]
 ·simp only[execOp,u,p,m,q,vz,Sem.run_bind,run_eqGuard_agg w _ t y z cs ds r,Result.andThen_ok];simp[run_neq_struct,e,lS]
end
section
variable {P:Program}{F:aF}{L:Loc}{ρ:Env}{a:Act}{w:World}{K:dm}{o:Oper}{Q:Exit->Act->World->Prop}
theorem Tw {t:TypeId}{op:UnOp}{y:Operand}{m:X}(l:St F L w) (e:aJ L ρ a) (f:∀k,o.dst=some k->k<a.tmps.size)
  (j:o.op=.unOp op t y) (p:bG y=some m) (d:evalOp P (.un op m) o.dst F L ρ K):o.wp P a w (bC F L w a K) Q:=by
 have h:=aL p e;simp only[evalOp,aN] at d;split at d
 ·rename_i b c;refine bR l e f (v:=.bool (!b)) (x:=.v (.bool (!b))) ?_ rfl bY dV d;simp[execOp,j,h,bN c,Op.unary]
 ·rename_i k n c;obtain⟨d⟩:=d;refine bR l e f (v:=.int k (k.wrap (0-n))) (x:=.v (.int k (k.wrap (0-n)))) ?_ rfl bY dV d;simp[execOp,j,h,bN c,Op.unary,Op.intArith]
 ·rename_i k n c;refine bR l e f ?_ rfl bY dV d;simp[execOp,j,h,bN c,Op.unary,Op.intBits];rfl
 ·exact d.elim
theorem MI {s t:TypeId}{k r:IntKind}{y:Operand}{e:X}(h:St F L w) (d:aJ L ρ a) (f:∀k,o.dst=some k->k<a.tmps.size)
  (m:o.op=.convert s t y) (q:P.underlying s=some (.int r)) (j:P.underlying t=some (.int k)) (p:bG y=some e) (b:evalOp P (.conv k e) o.dst F L ρ K):o.wp P a w (bC F L w a K) Q:=by
 have l:=aL p d;simp only[evalOp,aN] at b;split at b
 ·rename_i u n c;obtain⟨b⟩:=b;refine bR h d f (v:=.int k (k.wrap n)) (x:=.v (.int k (k.wrap n))) ?_ rfl bY dV b;simp[execOp,m,l,bN c,convert,run_underlying q,run_underlying j,Conv.intToInt]
 ·exact b.elim
theorem Ht (bs:List UInt8):∀s:ByteArray,((bs.map fun b=>(b.toNat:Int)).foldl (fun r n=>r.push (UInt8.ofNat n.toNat)) s).data.toList=s.data.toList++bs:=by
 induction bs with
 | nil=>intro s;simp
 | cons b bs c =>
  intro s;simp only[aaU,List.foldl_cons];rw[c];simp[ByteArray.push]
theorem Rk {s t e:TypeId}{y:Operand}{y':X}(hs:St F L w) (he:aJ L ρ a) (hd:∀k,o.dst=some k->k<a.tmps.size)
  (ho:o.op=.convert s t y) (h1:P.underlying s=some (.slice e)) (h2:P.underlying t=some .string) (h3:P.underlying e=some (.int .u8)) (hy:bG y=some y') (hK:evalOp P (.b2s y') o.dst F L ρ K):o.wp P a w (bC F L w a K) Q:=by
 have ey:=aL hy he;simp only[evalOp,aN] at hK;split at hK
 case h_2=>exact hK.elim
 rename_i q n c ap;obtain⟨cs,f,p,⟨bs,rfl,hK⟩⟩:=hK;refine bR hs he hd (v:=.string ⟨bs.toArray⟩) (x:=.v (.string ⟨bs.toArray⟩)) ?_ rfl bY dV hK;simp only[execOp,ho,ey,bN ap,Sem.run_bind,run_convert_bytes_string w s t e q n c h1 h3 h2];cases q with
 | none =>
  rcases p with p | ⟨_,_,_,_,_,_,_,_,_,e,_⟩ | ab | ⟨_,_,_,_,_,_,_,e,_⟩
  ·obtain⟨_,e,_⟩:=p.cell hs;cases e
  ·cases e
  ·rw[ab] at f;have:bs=[]:=abh (by simpa using f);subst this;simp[Conv.bytesToString];rfl
  ·cases e
 | some q =>
  have aa:∀i v,(bs.map fun b=>Value.int .u8 b.toNat)[i]?=some v->w.cell? (q.add i)=some v:=by
   rcases p with p | ⟨k,v,t',sz,m,xs,am,c',hk,h,e2,p⟩ | ab | ⟨k,g,t',bx,o',hk,ag,h,p⟩
   ·obtain⟨am,e,bb,al⟩:=p.cell hs;injection e with e
    subst e;intro i v hv;have:=al i v hv
    rwa [Nat.zero_add] at this
   ·injection h with h
    subst h;have l:=hs.own k _ hk;simp only[Own.ok] at l;subst e2;intro i u hu;have hb:=p i u hu;rw[Nat.zero_add] at hb;have h0:=World.ownsRow.cells l (g:=q.block) rfl i u hb;rcases l.2 with⟨e,_⟩ | ⟨g,cap,bc,e,_⟩
    ·cases e
    ·injection e with h e2 e3
     injection h with h
     subst h;exact h0
   ·intro i v hv;rw[ab] at f;have:bs=[]:=abh (by simpa using f);subst this;simp at hv
   ·injection h with h
    subst h;intro i u hu;rw[cA,ol ag (hs.own k _ hk)];have:=p i u hu
    rwa [Nat.add_zero] at this
  have j:=run_loadCells_list (P:=P) w q _ aa;rw[f] at j;have hb:=run_bytesToString (P:=P) w q n c (bs.map fun b=>(b.toNat:Int)) (by rw[j];simp);rw[hb];simp only[Result.andThen_ok,Sem.run_pure];congr 3;have:=Ht bs ByteArray.empty;generalize(bs.map fun b=>(b.toNat:Int)).foldl (fun r n=>r.push (UInt8.ofNat n.toNat)) ByteArray.empty=z at this ⊢;obtain⟨d⟩:=z;congr 1;apply Array.ext';simpa using this
theorem MJ {f:FuncId}{fi ca:Array Operand}{c b:List X}(j:St F L w) (d:aJ L ρ a) (h:∀k,o.dst=some k->k<a.tmps.size)
  (m:o.op=.makeFunc (.func f) fi ca) (p:hO fi.toList=some c) (l:hO ca.toList=some b) (n:evalOp P (.mkfn f c b) o.dst F L ρ K):o.wp P a w (bC F L w a K) Q:=by
 have e:fi.map a.eval=(bE L ρ c).toArray:=by apply Array.ext';simpa using gj p d
 have q:ca.map a.eval=(bE L ρ b).toArray:=by apply Array.ext';simpa using gj l d
 refine bR j d h ?_ rfl bY dV n;simp[execOp,m,Instr.makeFunc,e,q];rfl
theorem MK {i:Nat}{y:Operand}{d:X}(n:St F L w) (e:aJ L ρ a) (f:∀k,o.dst=some k->k<a.tmps.size)
  (l:o.op=.extract y i) (m:bG y=some d) (b:evalOp P (.extr d i) o.dst F L ρ K):o.wp P a w (bC F L w a K) Q:=by
 have h:=aL m e;simp only[evalOp,aN] at b;split at b
 case h_2=>exact b.elim
 rename_i vs c;split at b
 case h_2=>exact b.elim
 rename_i v j;refine bR n e f (v:=v) (x:=.v v) ?_ rfl bY dV b;have:vs[i]?=some v:=by simpa using j
 simp[execOp,l,h,bN c,Instr.extract,this]
theorem Hu {t f:Nat}{y:Operand}{s:X}{fs:Array Field}{b:Field}{d:TypeDesc}{i:TypeInfo}{n:Nat}(hs:St F L w) (u:aJ L ρ a) (hd:∀k,o.dst=some k->k<a.tmps.size)
  (ho:o.op=.field t y f) (ht:P.underlying t=some (.struct fs)) (hf:fs[f]?=some b) (p:P.underlying b.type=some d) (hi:P.info? b.type=some i) (hy:bG y=some s)
  (j:n=match dX d with | true=>i.size | false=>1) (c:evalOp P (.fieldV (dX d) b.offset n s) o.dst F L ρ K):o.wp P a w (bC F L w a K) Q:=by
 have ey:=aL hy u;simp only[evalOp,aN] at c;split at c
 case h_2=>exact c.elim
 rename_i cs q;split at c
 case h_2=>exact c.elim
 rename_i m;have m:=jh m;refine bR hs u hd (v:=gZ (dX d) ((cs.toList.drop b.offset).take n)) (x:=.v (gZ (dX d) ((cs.toList.drop b.offset).take n))) ?_ rfl bY dV c;simp only[execOp,ho,ey,bN q,Instr.field,Sem.run_bind,run_underlying ht,Result.andThen_ok,hf,asAgg,Sem.run_pure,part,vh p];cases e:dX d with
 | true =>
  simp only[e] at j;simp only[abd,Sem.run_bind,sizeOf,typeInfo,run_program,Result.andThen_ok,hi,Sem.run_pure];subst j;have l:cs.extract b.offset (b.offset+i.size)=((cs.toList.drop b.offset).take i.size).toArray:=by
   apply Array.ext';rw[Array.toList_extract];simp[List.extract_eq_take_drop]
  simp[gZ,l]
 | false =>
  simp only[e] at j;subst j;have:∃v,cs[b.offset]?=some v/\(cs.toList.drop b.offset).take 1=[v]:=by
   match h:cs.toList.drop b.offset,m with
   | v::r,_ =>
    refine⟨v,?_,by simp⟩;have:=j3 (·[0]?) h;simpa using this
  obtain⟨v,h1,z⟩:=this;simp[h1,z,gZ]
theorem Hv {t f:Nat}{y:Operand}{z:X}{fs:Array Field}{h:Field}{i:TypeInfo}(r:St F L w) (n:aJ L ρ a) (s:∀k,o.dst=some k->k<a.tmps.size)
  (ho:o.op=.fieldAddr t y f) (ht:P.underlying t=some (.struct fs)) (hf:fs[f]?=some h) (hi:P.info? h.type=some i) (l:i.size≠0) (p:bG y=some z)
  (m:evalOp P (.fieldA h.offset z) o.dst F L ρ K):o.wp P a w (bC F L w a K) Q:=by
 have ey:=aL p n;have run:∀d:Addr,val L ρ z=.pointer (some d)->(execOp a.eval o).run P w=.ok (.value (.pointer (some (d.add h.offset)))) w:=by
  intro d hv;simp[execOp,ho,ey,hv,Instr.fieldAt,run_underlying ht,hf,Instr.sureAddr,fieldPlace,sizeOf,typeInfo,hi,l]
 simp only[evalOp,aN] at m;split at m
 ·rename_i k off c;obtain⟨g,ty,cs,u⟩:=oZ p n c;refine bR r n s (v:=.pointer (some ⟨g,off+h.offset,none⟩)) (x:=.own k (off+h.offset)) ?_ (by simp only[conc,u]) (fun k' ab e=>by injection e with e1 e2;subst e1;exact⟨g,ty,cs,u⟩) (fun _ _ e=>by cases e) m;rw[run ⟨g,off,none⟩ (by simp only[val,c,conc,u]),cA]
 ·rename_i d j c;have l:=rV p n c;cases d with
  | none=>exact p7 rfl l
  | some d =>
   refine bR r n s (v:=.pointer (some (d.add (j+h.offset)))) (x:=.el (some d) (j+h.offset)) ?_ rfl (fun _ _ e=>by cases e) (fun q j' e=>by injection e with e1 e2;subst e1;simp) m;rw[run (d.add j) (by simp only[val,c,conc])];congr 4;obtain⟨b,o',sp⟩:=d;unfold Addr.add
   by_cases h1:j=0<;>by_cases h2:h.offset=0<;>simp[h1,h2,Nat.add_assoc]
 ·rename_i d c;refine bR r n s (v:=.pointer (some (d.add h.offset))) (x:=.el (some d) h.offset) ?_ rfl (fun _ _ e=>by cases e) (fun q j' e=>by injection e with e1 e2;subst e1;simp) m;rw[run d (bN c)]
 ·exact m.elim
theorem ML {t e:TypeId}{y z:Operand}{q p:X}{i:TypeInfo}(hs:St F L w) (l:aJ L ρ a) (hd:∀k,o.dst=some k->k<a.tmps.size)
  (ho:o.op=.indexAddr t y z) (ht:P.underlying t=some (.slice e)) (hi:P.info? e=some i) (s:bG y=some q) (hz:bG z=some p)
  (b:evalOp P (.idxA i.size q p) o.dst F L ρ K):o.wp P a w (bC F L w a K) Q:=by
 have ey:=aL s l;have ez:=aL hz l;simp only[evalOp,aN] at b;split at b
 case h_2=>exact b.elim
 rename_i d n c k j m h;obtain⟨f,h1,r,b⟩:=b;cases d with
 | none=>exact p7 rfl f
 | some d =>
  refine bR hs l hd (v:=.pointer (some (d.add (j.toNat*i.size)))) (x:=.el (some d) (j.toNat*i.size)) ?_ rfl (fun _ _ e=>by cases e) (fun u j' e=>by injection e with e1 e2;subst e1;simp) b;simp[execOp,ho,ey,ez,bN m,bN h,Instr.indexAt,asIntOf,run_underlying ht,h1,r,sizeOf,typeInfo,hi]
theorem MN {t:TypeId}{y z:Operand}{m l:X}(q:St F L w) (f:aJ L ρ a) (hd:∀k,o.dst=some k->k<a.tmps.size)
  (ho:o.op=.index t y z) (ht:P.underlying t=some .string) (n:bG y=some m) (hz:bG z=some l)
  (b:evalOp P (.idxS m l) o.dst F L ρ K):o.wp P a w (bC F L w a K) Q:=by
 have r:=aL n f;have p:=aL hz f;simp only[evalOp,aN] at b;split at b
 case h_2=>exact b.elim
 rename_i s k j h e;obtain⟨u,h2,b⟩:=b;refine bR q f hd (v:=.int .u8 ((s.data.toList.getD j.toNat 0).toNat)) (x:=.v (.int .u8 ((s.data.toList.getD j.toNat 0).toNat))) ?_ rfl bY dV b;have d:j.toNat<s.size:=by omega
 have c:s[j.toNat]?=some (s.data.toList.getD j.toNat 0):=by
  have h3:j.toNat<s.data.toList.length:=by simpa using d
  rw[getElem?_pos s j.toNat d,List.getD_eq_getElem?_getD,w8 h3];simp;rfl
 simp[execOp,ho,r,p,bN h,bN e,Instr.index,asIntOf,run_underlying ht,u,c]
theorem Rl {t e:TypeId}{y:Operand}{h:X}{c:Call}(m:St F L w) (j:aJ L ρ a) (r:∀k,o.dst=some k->k<a.tmps.size)
  (s:o.op=.call c) (q:c.callee=.builtin .len) (z:c.args=#[y]) (d:c.argTypes=#[t]) (u:P.underlying t=some (.slice e)) (l:bG y=some h)
  (b:evalOp P (.len h) o.dst F L ρ K):o.wp P a w (bC F L w a K) Q:=by
 have p:=aL l j;simp only[evalOp,aN] at b;split at b
 ·rename_i ad n cp f;refine bR m j r (v:=.int .i64 n) (x:=.v (.int .i64 n)) ?_ rfl bY dV b;simp[execOp,s,resolve,q,z,d,invoke,builtin,Builtin.len_,p,bN f,run_underlying u,goInt]
 ·exact b.elim
theorem MO {t:TypeId}{y:Operand}{f:X}{c:Call}(r:St F L w) (h:aJ L ρ a) (j:∀k,o.dst=some k->k<a.tmps.size)
  (m:o.op=.call c) (n:c.callee=.builtin .len) (p:c.args=#[y]) (e:c.argTypes=#[t]) (u:P.underlying t=some .string) (q:bG y=some f)
  (b:evalOp P (.lenS f) o.dst F L ρ K):o.wp P a w (bC F L w a K) Q:=by
 have l:=aL q h;simp only[evalOp,aN] at b;split at b
 ·rename_i s d;refine bR r h j (v:=.int .i64 s.size) (x:=.v (.int .i64 s.size)) ?_ rfl bY dV b;simp[execOp,m,resolve,n,p,e,invoke,builtin,Builtin.len_,l,bN d,run_underlying u,goInt]
 ·exact b.elim
theorem MP {t e:TypeId}{y:Operand}{j:X}{c:Call}(p:St F L w) (l:aJ L ρ a) (s:∀k,o.dst=some k->k<a.tmps.size)
  (u:o.op=.call c) (r:c.callee=.builtin .cap) (ha:c.args=#[y]) (d:c.argTypes=#[t]) (z:P.underlying t=some (.slice e)) (m:bG y=some j)
  (b:evalOp P (.capa j) o.dst F L ρ K):o.wp P a w (bC F L w a K) Q:=by
 have q:=aL m l;simp only[evalOp,aN] at b;split at b
 ·rename_i ad n h f;refine bR p l s (v:=.int .i64 h) (x:=.v (.int .i64 h)) ?_ rfl bY dV b;simp[execOp,u,resolve,r,ha,d,invoke,builtin,Builtin.cap_,q,bN f,run_underlying z,goInt]
 ·exact b.elim
theorem Jr {L:Loc}{ρ:Env}:∀{xs:List X},bE L ρ xs=(xs.map (ev ρ)).map (conc L)
 | []=>rfl
 | _::xs=>by simp[bE,val,Jr (xs:=xs)]
theorem Rm (mx:Bool) (k:IntKind):∀(l:List SV) (d m:Int),P1 mx d l=some m ->
  ((l.map (conc L)).foldlM (if mx then Builtin.max2 else Builtin.min2) (.int k d)).run P w=.ok (.int k m) w:=by
 intro l
 induction l with
 | nil=>intro d m h;simp only[P1,w7] at h;subst h;rfl
 | cons x l e =>
  intro d m h;unfold P1 at h;split at h
  ·rename_i c;cases c
  ·rename_i j b f c;injection c with h1 h2
   subst h1 h2;have:=e _ _ h;cases mx
   ·simp only[aaU,List.foldlM_cons,conc,Sem.run_bind];simp only[aaZ,abp] at this ⊢;simp only[Builtin.min2,Sem.run_pure,Result.andThen_ok];exact this
   ·simp only[aaU,List.foldlM_cons,conc,Sem.run_bind];simp only[abd] at this ⊢;simp only[Builtin.max2,Sem.run_pure,Result.andThen_ok];exact this
  ·cases h
theorem P3 {mx:Bool}{c:Call}{xs:List X}(t:St F L w) (j:aJ L ρ a) (n:∀k,o.dst=some k->k<a.tmps.size)
  (h:o.op=.call c) (f:c.callee=.builtin (if mx then .max else .min)) (r:hO c.args.toList=some xs)
  (d:evalOp P (.mm mx xs) o.dst F L ρ K):o.wp P a w (bC F L w a K) Q:=by
 have b:=gj r j;rw[Jr] at b;simp only[evalOp,aN] at d;split at d
 case h_2=>exact d.elim
 rename_i k q l p;split at d
 case h_2=>exact d.elim
 rename_i m s;rw[p] at b;have e:=Rm (P:=P) (L:=L) (w:=w) mx k l q m s;refine bR t j n (v:=.int k m) (x:=.v (.int k m)) ?_ rfl bY dV d;cases mx
 ·simp only[aaZ,abp] at f e;simp only[execOp,h,resolve,f,invoke,builtin,Builtin.min_,Sem.run_bind,Sem.run_pure,Result.andThen_ok,Array.toList_map,b,aaU,conc,e]
 ·simp only[abd] at f e;simp only[execOp,h,resolve,f,invoke,builtin,Builtin.max_,Sem.run_bind,Sem.run_pure,Result.andThen_ok,Array.toList_map,b,aaU,conc,e]
theorem MQ {t:TypeId}{d:TypeDesc}{y:Operand}{r:X}(h:St F L w) (f:aJ L ρ a) (m:∀k,o.dst=some k->k<a.tmps.size)
  (n:o.op=.makeInterface t y) (p:P.underlying t=some d) (e:∀z,d≠.interface z) (s:bG y=some r) (c:evalOp P (.mkif t r) o.dst F L ρ K):o.wp P a w (bC F L w a K) Q:=by
 have l:=aL s f;simp only[evalOp,aN] at c;split at c
 ·rename_i v b;refine bR h f m (v:=.iface t v) (x:=.v (.iface t v)) ?_ rfl bY dV c;simp only[execOp,n,l,bN b,Instr.makeInterface];simp only[Sem.run_bind,Sem.run_map,run_underlying p,Result.andThen_ok];cases d<;>first | exact p7 rfl (e _) | simp
 ·rename_i q j b;refine bR h f m (v:=.iface t (.pointer (some (q.add j)))) (x:=.v (.iface t (.pointer (some (q.add j))))) ?_ rfl bY dV c;simp only[execOp,n,l,val,b,conc,Instr.makeInterface];simp only[Sem.run_bind,Sem.run_map,run_underlying p,Result.andThen_ok];cases d<;>first | exact p7 rfl (e _) | simp
 ·rename_i k off b;split at c
  case h_2=>exact c.elim
  rename_i g t' cs u;refine bR h f m (v:=.iface t (.pointer (some ⟨g,off,none⟩))) (x:=.v (.iface t (.pointer (some ⟨g,off,none⟩)))) ?_ rfl bY dV c;simp only[execOp,n,l,val,b,conc,u,Instr.makeInterface];simp only[Sem.run_bind,Sem.run_map,run_underlying p,Result.andThen_ok];cases d<;>first | exact p7 rfl (e _) | simp
 ·exact c.elim
theorem Rn {t xt:TypeId}{d:TypeDesc}{i:TypeInfo}{z:Value}{y:Operand}{q:X}(j:St F L w) (h:aJ L ρ a) (m:∀k,o.dst=some k->k<a.tmps.size)
  (n:o.op=.typeAssert y xt t true) (p:P.underlying t=some d) (c:∀ms,d≠.interface ms) (hi:P.info? t=some i) (r:i.zero=some z) (s:bG y=some q) (f:evalOp P (.tas t z q) o.dst F L ρ K):o.wp P a w (bC F L w a K) Q:=by
 have l:=aL s h;simp only[evalOp,aN] at f;split at f
 ·rename_i b;refine bR j h m (v:=.tuple #[z,.bool false]) (x:=.v (.tuple #[z,.bool false])) ?_ rfl bY dV f;simp only[execOp,n,l,bN b,Instr.typeAssert];simp only[Sem.run_bind,Sem.run_map,run_underlying p,Result.andThen_ok];cases d<;>first | exact p7 rfl (c _) | simp[zeroValue,typeInfo,hi,r]
 ·rename_i t' u b;split at f
  ·rename_i hb;have hb:=v8 hb;refine bR j h m (v:=.tuple #[u,.bool true]) (x:=.v (.tuple #[u,.bool true])) ?_ rfl bY dV f;simp only[execOp,n,l,bN b,Instr.typeAssert];simp only[Sem.run_bind,Sem.run_map,run_underlying p,Result.andThen_ok];cases d<;>first | exact p7 rfl (c _) | simp[hb]
  ·rename_i hb;have hb:t'≠t:=fun e=>by rw[e,Nat.beq_refl] at hb;cases hb
   refine bR j h m (v:=.tuple #[z,.bool false]) (x:=.v (.tuple #[z,.bool false])) ?_ rfl bY dV f;simp only[execOp,n,l,bN b,Instr.typeAssert];simp only[Sem.run_bind,Sem.run_map,run_underlying p,Result.andThen_ok];cases d<;>first | exact p7 rfl (c _) | simp[zeroValue,typeInfo,hi,r,hb]
 ·exact f.elim
theorem FR:∀{l:List (TypeId×String)}{t:TypeId}{nm:String},PW l t nm=true->(t,nm)∈l
 | [],_,_,h=>by cases h
 | (t,nm)::l,e,c,h=>by
  simp only[PW] at h;split at h
  ·rename_i d b;rw[<-v8 d,<-aa7 b];exact List.mem_cons_self ..
  ·exact abb _ (FR h)
theorem Au {t:TypeId}{nm:String}{f:FuncId}(h:oV P t nm=some f):∃i m b d,P.info? t=some i/\i.methods.find? (·.name == nm)=some m/\m.path.toList=[]/\m.func=some (f,b)/\P.underlying t=some d /\
  ((∃e,d=.pointer e/\b=true)\/((∀e,d≠.pointer e)/\b=false)):=by
 simp only[oV] at h;split at h
 case h_2=>cases h
 rename_i i hi;split at h
 case h_2=>cases h
 rename_i m n;split at h
 case h_2=>cases h
 rename_i q b l k;split at h
 ·rename_i e j;injection h with h;subst h
  exact⟨i,m,_,_,hi,n,l,k,j,.inl ⟨_,rfl,rfl⟩⟩
 ·cases h
 ·rename_i d c j;injection h with h;subst h
  exact⟨i,m,_,_,hi,n,l,k,j,.inr ⟨fun e p=>c e p,rfl⟩⟩
 ·cases h
theorem Av (P:Program):∃n,P.types.size+Made.depth=n+1:=⟨P.types.size+99,by simp[Made.depth]⟩
theorem Hw {t:TypeId}{nm:String}{f:FuncId}(h:oV P t nm=some f) (v:Value) (w:World):(method (P.types.size+Made.depth) t v nm).run P w=.ok (f,v) w:=by
 obtain⟨i,m,r,d,j,c,l,q,p,b⟩:=Au h;obtain⟨n,k⟩:=Av P;rw[k];simp only[method,Sem.run_bind,typeInfo,run_program,Result.andThen_ok,j,Sem.run_pure,c,l,follow,q,receiverAt,run_underlying p];rcases b with⟨e,rfl,rfl⟩ | ⟨b,rfl⟩
 ·simp only[Place.get,Sem.run_pure,Result.andThen_ok]
 ·cases d<;>first | exact p7 rfl (b _) | simp only[Place.get,Sem.run_pure,Result.andThen_ok]
theorem Hy {t:TypeId}{nm:String}{f:FuncId}(h:oV P t nm=some f) (v:Value) (w:World):(nilAhead (P.types.size+Made.depth) t v nm).run P w=.ok (some false) w:=by
 obtain⟨i,m,r,d,j,c,l,q,p,b⟩:=Au h;obtain⟨n,k⟩:=Av P;rw[k];simp only[nilAhead,Sem.run_bind,typeInfo,run_program,Result.andThen_ok,j,Sem.run_pure,c,l,followBlind,q];rcases b with⟨e,rfl,rfl⟩ | ⟨b,rfl⟩
 ·rfl
 ·simp only[Sem.run_bind,run_underlying p,Result.andThen_ok];cases d<;>first | exact p7 rfl (b _) | rfl
theorem MR {nm:String}{fi ca:Array Operand}{c:X}(p:St F L w) (e:aJ L ρ a) (f:∀k,o.dst=some k->k<a.tmps.size)
  (l:o.op=.makeFunc (.method nm) fi ca) (m:hO fi.toList=some [c]) (h:ca.toList=[]) (b:evalOp P (.mkmv nm c) o.dst F L ρ K):o.wp P a w (bC F L w a K) Q:=by
 have d:fi.map a.eval=(bE L ρ [c]).toArray:=by apply Array.ext';simpa using gj m e
 have n:ca=#[]:=by apply Array.ext';exact h
 simp only[evalOp,aN] at b;split at b
 case h_2=>exact b.elim
 rename_i v j;refine bR p e f (v:=.func (.method nm) #[v] #[]) (x:=.v (.func (.method nm) #[v] #[])) ?_ rfl bY dV b;simp only[bE,bN j] at d;simp[execOp,l,Instr.makeFunc,d,n]
theorem MS {t:TypeId}{nm:String}{fi ca:Array Operand}(n:St F L w) (l:aJ L ρ a) (d:∀k,o.dst=some k->k<a.tmps.size)
  (f:o.op=.makeFunc (.methodOf t nm) fi ca) (j:fi.toList=[]) (e:ca.toList=[]) (h:evalOp P (.mov (.c (.func (.methodOf t nm) #[] #[]))) o.dst F L ρ K):o.wp P a w (bC F L w a K) Q:=by
 have b:fi=#[]:=by apply Array.ext';exact j
 have m:ca=#[]:=by apply Array.ext';exact e
 refine bR n l d (v:=.func (.methodOf t nm) #[] #[]) (x:=.v (.func (.methodOf t nm) #[] #[])) ?_ rfl bY dV h;simp[execOp,f,Instr.makeFunc,b,m]
theorem C0 {t:TypeId}{g k:Nat}{d:TypeDesc}{i:TypeInfo}(h:St F L w) (r:aJ L ρ a) (q:∀k,o.dst=some k->k<a.tmps.size)
  (s:o.op=.load t (.global g)) (y:P.underlying t=some d) (hi:P.info? t=some i) (c:dX d=false) (hg:wT g=some k) (e:evalOp P (.gload g) o.dst F L ρ K):o.wp P a w (bC F L w a K) Q:=by
 simp only[evalOp,aN] at e;obtain⟨v,ty,fr,z,e⟩:=e;have p:=h.frz _ _ z;refine bR h r q (v:=v) (x:=.v v) ?_ rfl bY dV e;have m:a.eval (.global g)=.pointer (some ⟨g,0,none⟩):=rfl;have b:∀(j:Nat) (u:Value),[v][j]?=some u->w.cell? ((⟨g,0,none⟩:Addr).add j)=some u:=by
  intro j u f;cases j with
  | zero =>
   simp only[aa2,w7] at f;subst f;rw[cA];simp[World.cell?,p]
  | succ j=>simp at f
 have l:=pV y hi b (n:=1) rfl (by rw[c]);rw[c] at l;simp only[execOp,s,m,Sem.run_bind,l,Result.andThen_ok,Sem.run_pure,gZ]
theorem MT {t key e:TypeId}{y z:Operand}{y' s:X}{j:TypeInfo}(q:St F L w) (p:aJ L ρ a) (hd:∀k,o.dst=some k->k<a.tmps.size)
  (ho:o.op=.lookup t y z true) (ht:P.underlying t=some (.map key e)) (u:P.underlying key=some (.int .i64)) (hi:P.info? e=some j) (hz:j.zero=some (.int .i64 0)) (hy:bG y=some y') (d:bG z=some s) (c:evalOp P (.look y' s) o.dst F L ρ K):o.wp P a w (bC F L w a K) Q:=by
 have ey:=aL hy p;have ez:=aL d p;simp only[evalOp] at c;split at c
 case h_2=>exact c.elim
 rename_i mv n hm hn;obtain⟨k,r,b,h1,h2,c⟩:=c;obtain⟨m,es,cl,rfl,h3,h4,o',h5,h6⟩:=Ja h1 h2;have hh:=q.frz _ _ h3;refine bR q p hd (v:=.tuple #[.int .i64 r,.bool b]) (x:=.v (.tuple #[.int .i64 r,.bool b])) ?_ rfl bY dV c;have h:(getObj m).run P w=.ok (.map es cl) w:=by simp[getObj,Sem.run,hh]
 have f:(Instr.checkKey es.isEmpty 10000 key (.int .i64 n)).run P w=.ok () w:=by
  rw[show(10000:Nat)=9999+1 from rfl,Instr.checkKey];simp only[Sem.run_bind,run_underlying u,Result.andThen_ok,Sem.run_pure]
 have l:(Instr.findKey key (.int .i64 n) es.toList).run P w=.ok o' w:=by
  simp only[Instr.findKey,Sem.run_bind,run_underlying u,Result.andThen_ok,h5,Sem.run_pure]
 simp only[execOp,ho,ey,ez,bN hm,bN hn,Instr.lookup,Sem.run_bind,run_underlying ht,Result.andThen_ok,h,Sem.run_pure,f,l];rcases h6 with⟨rfl,i,rfl⟩ | ⟨rfl,rfl,rfl⟩
 ·simp only[Sem.run_bind,Sem.run_pure,Result.andThen_ok,abd]
 ·simp only[Sem.run_bind,zeroValue,typeInfo,run_program,Result.andThen_ok,hi,hz,Sem.run_pure,abd]
theorem Js {y:Operand}{y':X}(l:St F L w) (h:aJ L ρ a) (p:∀k,o.dst=some k->k<a.tmps.size)
  (q:o.op=.nilCheck y) (hy:bG y=some y') (r:PY P=true) (c:evalOp P (.nilck y') o.dst F L ρ K):o.wp P a w (bC F L w a K) Q:=by
 have n:=aL hy h;simp only[evalOp,aN] at c;split at c
 ·rename_i k off b;obtain⟨g,ty,cs,z⟩:=oZ hy h b;refine bR l h p (v:=.pointer (some ⟨g,off,none⟩)) (x:=.own k off) ?_ (by simp only[conc,z]) (fun k' ac e=>by injection e with e1 e2;subst e1;exact⟨g,ty,cs,z⟩) (fun _ _ e=>by cases e) c;simp[execOp,q,n,val,b,conc,z]
 ·rename_i d j b;obtain⟨s,c⟩:=c;cases d with
  | none=>exact p7 rfl s
  | some d =>
   refine bR l h p (v:=.pointer (some (d.add j))) (x:=.el (some d) j) ?_ rfl (fun _ _ e=>by cases e) (fun ag j' e=>by injection e with e1 e2;subst e1;simp) c;simp[execOp,q,n,val,b,conc]
 ·rename_i d b;refine bR l h p (v:=.pointer (some d)) (x:=.v (.pointer (some d))) ?_ rfl bY dV c;simp[execOp,q,n,bN b]
 ·rename_i f fi ca b;refine bR l h p (v:=.func (.func f) fi ca) (x:=.v (.func (.func f) fi ca)) ?_ rfl bY dV c;simp[execOp,q,n,bN b]
 ·rename_i nm fi ca b;split at c
  case h_2=>exact c.elim
  rename_i t u aa;obtain⟨hm,c⟩:=c;have h1:=aa1.1 r _ (FR hm);obtain⟨f,hf⟩:=Option.isSome_iff_exists.1 h1;have m:fi[0]?=some (.iface t u):=by rw[<-Array.getElem?_toList,aa];rfl
  refine bR l h p (v:=.func (.method nm) fi ca) (x:=.v (.func (.method nm) fi ca)) ?_ rfl bY dV c;have hn:=Hy (P:=P) hf u w;simp only[execOp,q,n,bN b,m,Sem.run_bind,run_program,Result.andThen_ok,Sem.run_pure,hn];rfl
 ·exact c.elim
theorem C2:∀{l:List Value},jQ l=true->∀u∈l,u.oneCell'=true
 | [],_,u,b=>by cases b
 | v::l,h,u,b=>by
  simp only[jQ] at h;split at h
  ·rename_i c;rcases aaQ.1 b with rfl | b
   ·exact c
   ·exact C2 h u b
  ·cases h
theorem C3 {t:TypeId}{i:TypeInfo}(hi:P.info? t=some i) {g off:Nat}{v:Value}{b:Array Value}{ty:TypeId}(f:w.heap[g]?=some (.cells b ty (0,0)))
  (e:v.cells.size=i.size) (c:off+v.cells.size<=b.size) (h:∀u∈v.cells.toList,u.oneCell'=true) :
  (Instr.storeAt t (.pointer (some ⟨g,off,none⟩)) v).run P w=.ok () (w.setRow g (aR b.toList off v.cells.toList).toArray):=by
 have d:=run_storeCells_at P g off ty v.cells.toList 0 b w f (by simpa using c) h;simp only[Nat.add_zero] at d;simp only[Instr.storeAt,Instr.sureAddr,storeVar,Sem.run_bind,Sem.run_pure,Result.andThen_ok,sizeOf,typeInfo,run_program,hi];rw[vv (by omega)];rw[d];rfl
theorem tv {c:Type}(b:Array c) (i:Nat) (v:c) (h:b[i]?=some v):b.setIfInBounds i v=b:=by
 apply Array.ext_getElem?;intro j;rw[Array.getElem?_setIfInBounds];split
 ·rename_i e;subst e;split
  ·exact h.symm
  ·rename_i d;rw[Array.getElem?_eq_none (by omega)]
 ·rfl
theorem mI (g o:Nat) (t:TypeId) (d:Nat×Nat) (b:Array Value) (w:World) (j:w.heap[g]?=some (.cells b t d)):∀(vs:List Value) (i:Nat),(∀(n:Nat) (v:Value),vs[n]?=some v->b[o+i+n]?=some v/\pT d (o+i+n))->(∀v∈vs,v.oneCell'=true) ->
  (storeCells ⟨g,o,none⟩ vs i).run P w=.ok () w
 | [],i,_,_=>rfl
 | v::e,i,q,m=>by
  have f:(⟨g,o,none⟩:Addr).add i=⟨g,o+i,none⟩:=by unfold Addr.add;split<;>simp_all
  obtain⟨k,p⟩:=q 0 v (by simp);simp only[Nat.add_zero] at k p;have c:w.cell? ⟨g,o+i,none⟩=some v:=by simp[World.cell?,j,k]
  have h:w.frozen? ⟨g,o+i,none⟩=false:=by
   obtain⟨lo,y⟩:=d;simp only[World.frozen?,j,Bool.and_eq_false_iff,decide_eq_false_iff_not];simp only[pT] at p;omega
  have l:(store ((⟨g,o,none⟩:Addr).add i) v).run P w=.ok () w:=by
   rw[f,run_store P w _ v _ (m v (by simp)),c];simp only[h,setCell_eq_setRow w g (o+i) b t d v j,tv b _ v k,setRow_self w g b t d j];simp
  have z:=mI g o t d b w j e (i+1) (fun n u s=>by
   have:=q (n+1) u (by simpa using s)
   rwa [show o+i+(n+1)=o+(i+1)+n by omega] at this) (fun x r=>m x (by simp[r]))
  simp only[storeCells,Sem.run_bind,l,Result.andThen_ok,z]
theorem o8 {t:TypeId}{i:TypeInfo}(hi:P.info? t=some i) {g off:Nat}{v:Value}{b:Array Value}{ty:TypeId}{d:Nat×Nat}(f:w.heap[g]?=some (.cells b ty d))
  (e:v.cells.size=i.size) (h:∀(n:Nat) (u:Value),v.cells.toList[n]?=some u->b[off+n]?=some u/\pT d (off+n)) (j:∀u∈v.cells.toList,u.oneCell'=true) :
  (Instr.storeAt t (.pointer (some ⟨g,off,none⟩)) v).run P w=.ok () w:=by
 have c:=mI (P:=P) g off ty d b w f v.cells.toList 0 (by simpa using h) j;simp only[Instr.storeAt,Instr.sureAddr,storeVar,Sem.run_bind,Sem.run_pure,Result.andThen_ok,sizeOf,typeInfo,run_program,hi];rw[vv (by omega)];rw[c]
theorem mN (w:World) (g:Nat) (cs:Array Value):w.grownBy (w.setRow g cs) (some g) :=
 ⟨rfl,rfl,rfl,by simp[World.setRow],fun k _ b=>setRow_other w g k cs (fun e=>b (by rw[e]))⟩
theorem Jt {t:TypeId}{y z:Operand}{y' z':X}{i:TypeInfo}(hs:St F L w) (he:aJ L ρ a) (hd:∀k,o.dst=some k->k<a.tmps.size)
  (ho:o.op=.store t y z) (hi:P.info? t=some i) (hy:bG y=some y') (hz:bG z=some z')
  (l:evalOp P (.store i.size y' z') o.dst F L ρ K):o.wp P a w (bC F L w a K) Q:=by
 have ey:=aL hy he;have ez:=aL hz he;have an:aM (val L ρ z')=(a.eval z).cells.toList:=by rw[ez,o7]
 have turn:∀(k:Nat) (g:Nat) (oo o':Own) (f:Array Value) (ty:TypeId) (off:Nat),L.get k=some oo->oo.blk=some g->o'.blk=some g->w.heap[g]?=some (.cells f ty (0,0)) ->
   (a.eval z).cells.size=i.size->off+(a.eval z).cells.size<=f.size->(∀u∈(a.eval z).cells.toList,u.oneCell'=true)->a.eval y=.pointer (some ⟨g,off,none⟩) ->
   o'.ok (w.setRow g (aR f.toList off (a.eval z).cells.toList).toArray)->(∀g' ty' cs',oo=.box g' ty' cs'->∃al,o'=.box g' ty' al) ->
   K F (L.set k o') (put o.dst (.v undef) ρ)->o.wp P a w (bC F L w a K) Q:=by
  intro k g oo o' f ty off s hb bc hg bi d h1 ab cc r l;have aa:=mN w g (aR f.toList off (a.eval z).cells.toList).toArray;have cd:St F (L.set k o') (w.setRow g (aR f.toList off (a.eval z).cells.toList).toArray) :=
   hs.turn s cc (fun b aw bl=>aa.block b aw (fun e=>bl (by rw[hb,e]))) (fun g' ap=>.inl (by rw[hb];rw[bc] at ap;exact ap))
  refine ul he hd (w':=w.setRow g (aR f.toList off (a.eval z).cells.toList).toArray) ?_ cd ?_ ?_ l
  ·simp[execOp,ho,ab,C3 hi hg bi d h1]
  ·refine⟨aF.le_refl F,rfl,rfl,rfl,aa.size,fun b aw hn=>aa.block b aw (fun e=>hn ⟨k,oo,s,by rw[hb,e]⟩),fun b h=>.inl h,fun b h=>?_⟩;rcases Loc.aal h with h | h
   ·rw[bc] at h;exact .inl ⟨k,oo,s,by rw[hb];exact h⟩
   ·exact .inl h
  ·intro j g' ty' cs' e;rw[Loc.aac];split
   ·rename_i hj;subst hj;rw[s] at e;injection e with e
    obtain⟨al,h⟩:=r g' ty' cs' e;exact⟨al,by rw[h]⟩
   ·exact⟨cs',e⟩
 have q:∀(ad:Option Addr) (j:Nat),ad≠none->a.eval y=conc L (.el ad j)->fZ (aM (val L ρ z')) i.size=true->jQ (aM (val L ρ z'))=true ->
   (uf F L ad j (aM (val L ρ z')) fun L'=>K F L' (put o.dst (.v undef) ρ))->o.wp P a w (bC F L w a K) Q:=by
  rintro ad j bl ab p h1 ⟨⟨k,v,ty,sz,m,xs,bk,c,s,rfl,rfl,d,am,l⟩ | ⟨⟨bk,cp,ty,fz,rfl,hb,ar,hc⟩,am,l⟩⟩
  case inr =>
   have p:=jh p;rw[an] at p am hc;obtain⟨g,off,sp⟩:=bk;simp only at ar;subst ar;have hr:=o8 (P:=P) hi (off:=off+j) (v:=a.eval z) (hs.frz g _ hb) (by simpa using p) hc am;refine ul he hd (w':=w) ?_ hs ?_ (fun j g' ty' cs' e=>⟨cs',e⟩) l
   ·simp only[conc,cA] at ab;simp[execOp,ho,ab,hr]
   ·exact⟨aF.le_refl F,rfl,rfl,rfl,aa8 _,fun b _ _=>rfl,fun b h=>.inl h,fun b h=>.inl h⟩
  have p:=jh p;rw[an] at p am d l;have ay:(a.eval z).cells.size=i.size:=by simpa using p
  have ac:=hs.own k _ s;simp only[Own.ok] at ac;obtain⟨hx,ac⟩:=ac;rcases ac with⟨e,_⟩ | ⟨g,cap,f,e,bu,hg,bd,bs,av,ag⟩
  ·cases e
  ·injection e with e1 e2 e3
   injection e1 with e1
   subst e1 e3;have cx:m*sz<=f.size:=by rw[av];exact Nat.mul_le_mul_right _ bd
   rw[<-ag] at d;have ax:j+(a.eval z).cells.size<=m*sz:=by simp at d;omega
   refine turn k g _ (.row (.slice (some ⟨g,0,none⟩) m c) ty sz m (aR xs j (a.eval z).cells.toList)) f ty j s rfl rfl hg ay (by omega) am (by rw[ab];simp only[conc];rw[cA];simp) ?_ (fun g' ty' cs' e=>by cases e) l;refine⟨?_,.inr ⟨g,c,_,rfl,bu,setRow_heap w g f _ ty _ hg,bd,bs,?_,?_⟩⟩
   ·rw[fU _ _ _ (by rw[hx];simpa using ax)];exact hx
   ·have:(aR f.toList j (a.eval z).cells.toList).length=f.size:=by rw[fU _ _ _ (by simp;omega)];simp
    simp[this,av]
   ·rw[List.toList_toArray,<-ag];apply abq;intro n;have bx:j+(a.eval z).cells.toList.length<=f.toList.length:=by simp;omega
    rw[iY (by simp;omega)]
    by_cases hn:n<m*sz
    ·rw[List.getElem?_take_of_lt hn,iY bx,List.getElem?_take_of_lt hn]
    ·rw[aa0 (by simp;omega)];have h1:¬n<j:=by omega
     have h2:¬n<j+(a.eval z).cells.toList.length:=by simp;omega
     rw[vv h1,vv h2,aa0 (by simp;omega)]
 simp only[evalOp,aN] at l;split at l
 ·rename_i p h1 x;rename_i k off;have p:=jh p;have h1:=C2 h1;rw[an] at p h1;split at l
  case h_2=>exact l.elim
  rename_i g ty cs s;split at l
  case h_2=>exact l.elim
  rename_i d;have be:=wW d;have d:=jh (BA d);have r:w.heap[g]?=some (.cells cs.toArray ty (0,0)):=by rw[<-iN be];exact hs.own k _ s
  by_cases h0:i.size=0
  ·have hz:(a.eval z).cells.toList=[]:=abh (by rw[p,h0]);have ar:aR cs off []=cs:=by simp[aR]
   rw[an,hz,ar] at l;have hr:=o8 (P:=P) hi (off:=off) (v:=a.eval z) r (by simpa using p) (by rw[hz];intro n u hu;simp at hu) (by rw[hz];intro u hu;cases hu);have ab:a.eval y=.pointer (some ⟨g,off,none⟩):=by rw[ey];simp only[val,x,conc,s]
   refine ul he hd (w':=w) ?_ (hs.turn s (o':=.box g ty cs) (hs.own k _ s) (fun _ _ _=>rfl) (fun g' ap=>.inl ap)) ?_ (fun j g' ty' cs' e=>?_) l
   ·simp[execOp,ho,ab,hr]
   ·refine⟨aF.le_refl F,rfl,rfl,rfl,aa8 _,fun b _ _=>rfl,fun b h=>.inl h,fun b h=>?_⟩;rcases Loc.aal h with h | h
    ·exact .inl ⟨k,_,s,h⟩
    ·exact .inl h
   ·rw[Loc.aac];split
    ·rename_i hj;subst hj;rw[s] at e;injection e with e
     injection e with q1 q2 q3
     subst q1 q2;exact⟨_,rfl⟩
    ·exact⟨cs',e⟩
  have cb:off+i.size<=cs.length:=by simp at d;omega
  rw[an] at l;have ay:(a.eval z).cells.size=i.size:=by simpa using p
  refine turn k g _ (.box g ty (aR cs off (a.eval z).cells.toList)) cs.toArray ty off s rfl rfl r ay (by simp;omega) h1 (by rw[ey];simp only[val,x,conc,s]) ?_ (fun g' ty' cs' e=>by injection e with e1 e2 e3;subst e1 e2;exact⟨_,rfl⟩) l;show _=_;rw[iN be];exact setRow_heap w g cs.toArray _ ty _ r
 ·rename_i p h1 x;exact q _ _ (rV hy he x) (by rw[ey];simp only[val,x]) p h1 l
 ·rename_i p h1 x;rename_i ad;refine q (some ad) 0 (by simp) (by rw[ey];simp only[val,x,conc];simp[Addr.add]) p h1 l
 ·exact l.elim
end
def ED (k:IntKind) (n:Nat):List Value:=List.replicate n (.int k 0)
theorem nB {k:IntKind}{n:Nat}:(ED k n).length=n:=by simp[ED]
theorem MU {k:IntKind}{n:Nat}:∀u∈ED k n,u.oneCell'=true:=by
 intro u a;obtain rfl:=List.eq_of_mem_replicate a;rfl
theorem pW {k:IntKind}{n:Nat}:Builtin.zeroCells (Value.int k 0).cells n=(ED k n).toArray:=by
 apply Array.ext';have h:(Value.int k 0).cells=#[.int k 0]:=rfl;rw[h];simp only[Builtin.zeroCells,ED,List.size_toArray,aaW,abe,Nat.zero_add,Nat.mul_one,Nat.mod_one];apply List.ext_getElem
 ·simp
 ·intro i b a;simp
section
variable {P:Program}(w:World)
theorem qH (t s ty e:TypeId) (i:TypeInfo) (k h y:IntKind) (v:P.underlying t=some (.slice e)) (m:P.underlying s=some (.int y)) (hi:P.info? e=some i) (hz:i.zero=some (.int h 0)) (j:i.size=1)
  (g a c:Nat) (b:Array Value) (hg:w.heap[g]?=some (.cells b e (0,0))) (n:Nat) (ab:(n:Int)<=9223372036854775807) (ac:n*i.bytes<=281474976710656)
  (f:a+n<=c) (o:a+n<=b.size) :
  (Builtin.append_ #[t,s] ty #[.slice (some ⟨g,0,none⟩) a c,.int k n]).run P w =
   .ok (.slice (some ⟨g,0,none⟩) (a+n) c) (w.setRow g (b.toList.take a++ED h n++b.toList.drop (a+n)).toArray):=by
 have z:IntKind.i64.wrap (n:Int)=n:=by rw[IntKind.wrap_i64];omega
 have p:¬((n:Int)<0):=by omega
 have l:¬(281474976710656<(n:Int)*(i.bytes:Int)):=by
  rw[<-Int.natCast_mul];omega
 have d:=run_storeCells_at P g a e (ED h n) 0 b w hg (by simpa[nB] using o) (MU);simp only[Nat.add_zero,nB] at d
 by_cases u:n=0
 ·subst u;have x:ED h 0=[]:=rfl;have q:IntKind.i64.wrap 0=0:=by decide
  have r:a<=c:=by omega
  rw[x] at d ⊢;simp[Builtin.append_,run_underlying v,run_underlying m,sizeOf,typeInfo,hi,j,asInt,asIntOf,q,r,Addr.add_lit];have h2:w.setRow g b=w.setRow g (b.toList.take a++[]++b.toList.drop a).toArray:=by simp
  simp at d;rw[d];rfl
 ·have hl:(ED h n)=(Builtin.zeroCells (Value.int h 0).cells n).toList:=by rw[pW]
  rw[hl] at d ⊢;simp[Builtin.append_,run_underlying v,run_underlying m,sizeOf,typeInfo,hi,j,asInt,asIntOf,z,p,l,u,f,Addr.add_lit,zeroValue,hz,d]
theorem run_append_grow_zeros (t x ty e:TypeId) (i:TypeInfo) (k l z:IntKind) (ht:P.underlying t=some (.slice e)) (r:P.underlying x=some (.int z)) (hi:P.info? e=some i) (hz:i.zero=some (.int l 0)) (f:i.size=1)
  (b:Addr) (a c:Nat) (d:List Value) (u:d.length=a*i.size) (holds:∀j v,d[j]?=some v->w.cell? (b.add j)=some v) (n:Nat) (ae:a<=c)
  (hg:c<a+n) (ac:((a+n:Nat):Int)<=9223372036854775807) (ad:n*i.bytes<=281474976710656) (y:Builtin.nextslicecap (a+n) c*i.bytes<=281474976710656) :
  (Builtin.append_ #[t,x] ty #[.slice (some b) a c,.int k n]).run P w =
   .ok (.slice (some ⟨w.heap.size,0,none⟩) (a+n) (grownCap w (a+n) c e))
    (w.drew.alloc (.cells (d.toArray++(ED l n).toArray++Builtin.zeroCells (Value.int l 0).cells (grownCap w (a+n) c e-(a+n))) e)):=by
 have hw:IntKind.i64.wrap (n:Int)=n:=by rw[IntKind.wrap_i64];omega
 have q:¬((n:Int)<0):=by omega
 have h:¬(281474976710656<(n:Int)*(i.bytes:Int)):=by
  rw[<-Int.natCast_mul];omega
 have hn:¬(a+n<=c):=by omega
 have s:n≠0:=by omega
 have p:¬(9223372036854775807<((a:Int)+(n:Int))):=by omega
 have o:¬(281474976710656<Builtin.nextslicecap (a+n) c*i.bytes):=by omega
 have m:=run_firstCells_some (P:=P) w.drew i.size a b a c d u (by simpa using holds);have hl:(ED l n).toArray=(Builtin.zeroCells (Value.int l 0).cells n):=by rw[pW]
 rw[hl];rw[f] at m;simp[Builtin.append_,run_underlying ht,run_underlying r,sizeOf,typeInfo,zeroValue,hi,hz,f,asInt,asIntOf,hw,q,h,s,hn,p,o,Question.forced,m,newRow,grownCap]
theorem qR (b:Nat) (t tn ty e:TypeId) (i:TypeInfo) (k h kn:IntKind) (ht:P.underlying t=some (.slice e)) (s:P.underlying tn=some (.int kn)) (hi:P.info? e=some i) (hz:i.zero=some (.int h 0)) (q:i.size=1)
  (v:Value) (n:Nat) (xs:List Value) (p:w.ownsRow b e 1 v n xs) (m:Nat)
  (ad:n+m<=maxLen) (d:(n+m)*i.bytes<=140737488355328) (z:b<=w.heap.size) :
  ∃v' w',(Builtin.append_ #[t,tn] ty #[v,.int k m]).run P w=.ok v' w'/\w'.ownsRow b e 1 v' (n+m) (xs++ED h m)/\w.grownBy w' v.ownBlock /\
   (v'.ownBlock=v.ownBlock\/v'.ownBlock=some w.heap.size):=by
 have ae:n+m<=9223372036854775807:=by simp only[maxLen] at ad;omega
 have x:xs.length=n:=by simpa using p.1
 have ba:m*i.bytes<=140737488355328:=abB (Nat.mul_le_mul_right _ (by omega)) d;have c:(xs++ED h m).length=(n+m)*1:=by rw[aaR,x,nB,Nat.mul_one]
 have l:∀(a:Nat),a<n+m->∀(row:Option Nat),
   (w.drew.alloc (.cells (xs.toArray++(ED h m).toArray++Builtin.zeroCells (Value.int h 0).cells (grownCap w (n+m) a e-(n+m))) e)).ownsRow b e 1
    (.slice (some ⟨w.heap.size,0,none⟩) (n+m) (grownCap w (n+m) a e)) (n+m) (xs++ED h m) /\
   w.grownBy (w.drew.alloc (.cells (xs.toArray++(ED h m).toArray++Builtin.zeroCells (Value.int h 0).cells (grownCap w (n+m) a e-(n+m))) e)) row:=by
  intro a ho row;have aw:=grownCap_ge w (n+m) a e;have y:grownCap w (n+m) a e<=maxLen:=grownCap_le_maxLen w (n+m) a e ad;refine⟨⟨c,.inr ⟨w.heap.size,_,_,rfl,z,heap_alloc_new w.drew _,aw,y,?_,?_⟩⟩,⟨rfl,rfl,rfl,by simp,fun k hk _=>by first | exact heap_alloc_old w.drew _ k hk | exact heap_alloc_old w.drew _ hk⟩⟩
  ·have ar:(Value.int h 0).cells.size=1:=rfl;simp only[Array.size_append,List.size_toArray,size_zeroCells,ar,x,nB];omega
  ·simp only[Array.toList_append,aaT];rw[<-aaT,<-c];exact List.take_left
 rcases p.2 with⟨rfl,rfl⟩ | ⟨g,cap,r,rfl,ao,hg,ay,y,av,aa⟩
 ·have hx:xs=[]:=abh x;subst hx
  by_cases hm:m=0
  ·subst hm;refine⟨.slice none 0 0,w,?_,World.ownsRow_nil w b e 1,⟨rfl,rfl,rfl,aa8 _,fun _ _ _=>rfl⟩,.inl rfl⟩;have hw:IntKind.i64.wrap 0=0:=by decide
   simp[Builtin.append_,run_underlying ht,run_underlying s,sizeOf,typeInfo,hi,q,asInt,asIntOf,hw]
  ·have hr:=Lib.run_append_nil_zeros (P:=P) w t tn ty e i (.int h 0) k kn ht s hi hz m (by omega) (by omega) (by omega) (by omega);have f:=l 0 (by omega) (Value.ownBlock (.slice none 0 0));simp only[Nat.zero_add,aa5,Array.empty_append] at f ⊢;rw[pW (n:=m)] at hr;exact⟨_,_,hr,f.1,f.2,.inr rfl⟩
 ·by_cases o:n+m<=cap
  ·have az:r.size=cap:=by simpa using av
   have hr:=qH (P:=P) w t tn ty e i k h kn ht s hi hz q g n cap r hg m (by omega) (by omega) o (by omega);refine⟨_,_,hr,⟨c,.inr ⟨g,cap,_,rfl,ao,setRow_heap w g r _ e _ hg,o,y,?_,?_⟩⟩,⟨rfl,rfl,rfl,by simp,fun k _ hk=>setRow_other w g k _ (fun e=>hk (by simp[Value.ownBlock,e]))⟩,.inl rfl⟩
   ·simp only[List.size_toArray,aaR,aa9,abC,Array.length_toList,nB];omega
   ·have ap:r.toList.take n=xs:=by simpa using aa
    rw[ap,<-c];exact List.take_left
  ·have holds:∀j u,xs[j]?=some u->w.cell? ((⟨g,0,none⟩:Addr).add j)=some u:=p.cells (g:=g) rfl;have hr:=run_append_grow_zeros (P:=P) w t tn ty e i k h kn ht s hi hz q ⟨g,0,none⟩ n cap xs (by rw[q];simpa using x) holds m ay (by omega) (by omega) (by omega) (growslice_fits (by omega) d);have f:=l cap (by omega) (Value.ownBlock (.slice (some ⟨g,0,none⟩) n cap));exact⟨_,_,hr,f.1,f.2,.inr rfl⟩
end
section
variable {P:Program}{F:aF}{L:Loc}{ρ:Env}{a:Act}{w:World}{K:dm}{o:Oper}{Q:Exit->Act->World->Prop}
theorem Aw {b:Option Operand}{c:Option X}(h:qN b=some c) (l:aJ L ρ a) {d i:Int}(hi:jZ ρ d c=some i) :
  (b=none/\i=d)\/∃y k,b=some y/\a.eval y=.int k i:=by
 cases b with
 | none=>simp only[qN,w7] at h;subst h;simp only[jZ,w7] at hi;exact .inl ⟨rfl,hi.symm⟩
 | some y =>
  simp only[qN] at h;split at h
  case h_2=>cases h
  rename_i x e;injection h with h
  subst h;simp only[jZ] at hi;split at hi
  case h_2=>cases hi
  rename_i k j f;injection hi with hi
  subst hi;exact .inr ⟨y,k,rfl,by rw[aL e l,bN f]⟩
theorem j9 {k:IntKind}{i:Int}{y:Nat}{code:BoundsCode}(b:0<=i) (c:i<=y):(Instr.sliceBound (.int k i) y code).run P w=.ok i.toNat w:=by
 simp[Instr.sliceBound,asIntOf,b,c]
theorem qA {b:Bool}{n c:Nat}{lo hi:Option Operand}{d e:Option X}{l h:Int}(s:qN lo=some d) (t:qN hi=some e) (p:aJ L ρ a)
  (el:jZ ρ 0 d=some l) (u:jZ ρ n e=some h) (m:0<=l) (r:l<=h) (q:h<=c) :
  (Instr.sliceBounds b n c (lo.map a.eval) (hi.map a.eval) none).run P w=.ok (l.toNat,h.toNat,c) w:=by
 unfold Instr.sliceBounds;rcases Aw s p el with⟨rfl,rfl⟩ | ⟨y,k,rfl,j⟩<;>rcases Aw t p u with⟨rfl,rfl⟩ | ⟨z,x,rfl,f⟩
 ·simp
 ·simp[f,j9 (P:=P) (w:=w) (show 0<=h by omega) q]
 ·simp[j,j9 (P:=P) (w:=w) m r]
 ·have v:l<=(h.toNat:Nat):=by omega
  simp[j,f,j9 (P:=P) (w:=w) (show 0<=h by omega) q,j9 (P:=P) (w:=w) m v]
theorem Ro {t e:TypeId}{y:Operand}{lo up:Option Operand}{r:X}{f j:Option X}{i:TypeInfo}(z:St F L w) (m:aJ L ρ a) (hd:∀k,o.dst=some k->k<a.tmps.size)
  (ho:o.op=.slice t y lo up none) (ht:P.underlying t=some (.slice e)) (hi:P.info? e=some i) (u:bG y=some r) (hl:qN lo=some f) (hh:qN up=some j)
  (d:evalOp P (.slc i.size r f j) o.dst F L ρ K):o.wp P a w (bC F L w a K) Q:=by
 have ey:=aL u m;simp only[evalOp,aN] at d;split at d
 case h_2=>exact d.elim
 rename_i q n c p;split at d
 case h_2=>exact d.elim
 rename_i l h el eh;obtain⟨h1,s,h3,d⟩:=d;refine bR z m hd (v:=gK q c l.toNat h.toNat i.size) (x:=.v (gK q c l.toNat h.toNat i.size)) ?_ rfl bY dV d;have hb:=qA (P:=P) (w:=w) (b:=true) hl hh m el eh h1 s h3;simp[execOp,ho,ey,bN p,Instr.sliceAt,Instr.slice,run_underlying ht,hb,sizeOf,typeInfo,hi,gK]
theorem MV {t:TypeId}{y:Operand}{lo up:Option Operand}{m:X}{d e:Option X}(q:St F L w) (f:aJ L ρ a) (hd:∀k,o.dst=some k->k<a.tmps.size)
  (ho:o.op=.slice t y lo up none) (ht:P.underlying t=some .string) (p:bG y=some m) (r:qN lo=some d) (z:qN up=some e)
  (c:evalOp P (.slcS m d e) o.dst F L ρ K):o.wp P a w (bC F L w a K) Q:=by
 have u:=aL p f;simp only[evalOp,aN] at c;split at c
 case h_2=>exact c.elim
 rename_i s j;split at c
 case h_2=>exact c.elim
 rename_i l h el eh;obtain⟨h1,n,h3,c⟩:=c;refine bR q f hd (v:=.string (s.extract l.toNat h.toNat)) (x:=.v (.string (s.extract l.toNat h.toNat))) ?_ rfl bY dV c;have hb:=qA (P:=P) (w:=w) (b:=false) r z f el eh h1 n h3;simp[execOp,ho,u,bN j,Instr.sliceAt,Instr.slice,run_underlying ht,hb]
theorem xZ (z:Array Value) (n:Nat) (q:0<z.size):(madeCells z (n*z.size)).toList=(List.replicate n z.toList).flatten:=by
 induction n with
 | zero=>simp[madeCells]
 | succ n p =>
  rw[List.replicate_succ',List.flatten_append,<-p];apply abq;intro j;have f:(madeCells z (n*z.size)).toList.length=n*z.size:=by simp[madeCells]
  have b:∀m j,j<m->(madeCells z m).toList[j]?=some (z[j % z.size]!):=by
   intro m j e;simp[madeCells,e]
  have d:(n+1)*z.size=n*z.size+z.size:=Nat.succ_mul _ _
  by_cases l:j<n*z.size
  ·rw[aaY (by omega),b _ _ (by omega),b _ _ l]
  ·rw[aa4 (by omega),f]
   by_cases h:j<(n+1)*z.size
   ·rw[b _ _ h];have c:j-n*z.size<z.size:=by omega
    have k:j % z.size=j-n*z.size:=by
     have:j=(j-n*z.size)+z.size*n:=by rw[Nat.mul_comm z.size n];omega
     rw[this,Nat.add_mul_mod_self_left,Nat.mod_eq_of_lt c,Nat.mul_comm z.size n];omega
    simp[c,k]
   ·rw[aa0 (by simp[madeCells];omega),aa0 (by simp;omega)]
theorem Ju {t e:TypeId}{y z:Operand}{y' z':X}{i:TypeInfo}{b:Value}(hs:St F L w) (he:aJ L ρ a) (hd:∀k,o.dst=some k->k<a.tmps.size)
  (ho:o.op=.makeSlice t y z) (ht:P.underlying t=some (.slice e)) (hi:P.info? e=some i) (al:i.zero=some b) (p:b.cells.size=i.size) (ao:0<i.size) (hy:bG y=some y') (hz:bG z=some z')
  (d:evalOp P (.makeS e i.size i.bytes b.cells.toList y' z') o.dst F L ρ K):o.wp P a w (bC F L w a K) Q:=by
 have ey:=aL hy he;have ez:=aL hz he;simp only[evalOp,aN] at d;split at d
 case h_2=>exact d.elim
 rename_i k1 n k2 m k ag ab an;split at d
 case h_2=>exact d.elim
 rename_i _ hk;obtain⟨h0,s,hb,l,d⟩:=d;have d:=d w.heap.size;obtain⟨r,rfl⟩:=Int.eq_ofNat_of_zero_le h0;obtain⟨q,rfl⟩:=Int.eq_ofNat_of_zero_le (Int.le_trans h0 s);simp only[Int.toNat_natCast] at hb l d;have ac:r<=q:=by omega
 have j:(i.bytes:Int)*(q:Int)<=281474976710656:=by
  have h:((i.bytes*q:Nat):Int)<=281474976710656:=by rw[Nat.mul_comm];omega
  rwa [Int.natCast_mul] at h
 have aa:(q:Int)<=9223372036854775807:=by
  have h:=l;simp[maxLen] at h;omega
 have hr:=run_make (P:=P) w t e i b ht hi al k1 k2 r q (by omega) s j aa;simp only[Int.toNat_natCast] at hr;have f:=xZ b.cells q (by omega);rw[p] at f;have c:∀m:Nat,(List.replicate m b.cells.toList).flatten.length=m*i.size:=by
  intro m;simp[p]
 have ad:(List.replicate r b.cells.toList).flatten=(List.replicate q b.cells.toList).flatten.take (r*i.size):=by
  have e1:q=r+(q-r):=by omega
  conv=>rhs;rw[e1]
  rw[<-List.replicate_append_replicate,List.flatten_append,List.take_append_of_le_length (by rw[c];exact aa8 _),abz (by rw[c];exact aa8 _)]
 have u:(w.alloc (.cells (madeCells b.cells (q*i.size)) e)).ownsRow 0 e i.size (.slice (some ⟨w.heap.size,0,none⟩) r q) r (List.replicate r b.cells.toList).flatten:=by
  refine⟨c r,.inr ⟨w.heap.size,q,madeCells b.cells (q*i.size),rfl,abl _,ia w _,ac,l,size_madeCells _ _,?_⟩⟩;rw[ad,<-f]
 obtain⟨h1,h2,h3⟩:=ld hs hk (cs:=madeCells b.cells (q*i.size)) (t:=e) (e:=.row (.slice (some ⟨w.heap.size,0,none⟩) r q) e i.size r (List.replicate r b.cells.toList).flatten) rfl u;refine gP he hd (v:=.slice (some ⟨w.heap.size,0,none⟩) r q) (x:=.v (.slice (some ⟨w.heap.size,0,none⟩) r q)) ?_ h1 h2 rfl bY dV h3 d;simp only[execOp,ho,ey,ez,bN ag,bN ab,Sem.run_bind,hr,Result.andThen_ok,Sem.run_pure]
theorem x6 (u:St F L w) {k:Nat}{e:TypeId}{sz n n':Nat}{s v:Value}{xs f:List Value}{w':World}
  (m:L.get k=some (.row s e sz n xs)\/(L.get k=none/\s=.slice none 0 0)) (p:w'.ownsRow 0 e sz v n' f) (d:w.grownBy w' s.ownBlock)
  (r:v.ownBlock=s.ownBlock\/v.ownBlock=some w.heap.size) :
  St F (L.set k (.row v e sz n' f)) w'/\Step F L w F (L.set k (.row v e sz n' f)) w'/\(∀j g ty cs,L.get j=some (.box g ty cs)->∃cs',(L.set k (.row v e sz n' f)).get j=some (.box g ty cs')):=by
 have l:∀j g ty cs,L.get j=some (.box g ty cs)->∃cs',(L.set k (.row v e sz n' f)).get j=some (.box g ty cs'):=by
  intro j g ty cs x;rw[Loc.aac];split
  ·rename_i hj;subst hj;rcases m with h | ⟨h,_⟩<;>rw[h] at x<;>cases x
  ·exact⟨cs,x⟩
 rcases m with t | ⟨t,rfl⟩
 ·refine⟨u.turn t p (fun b hb z=>d.block b hb (fun e=>z (by simpa[Own.blk] using e.symm))) (fun g c=>?_),⟨aF.le_refl F,d.os,d.tape,d.output,d.size,fun b hb hn=>d.block b hb (fun e=>hn ⟨k,_,t,e.symm⟩),fun b h=>.inl h,fun b h=>?_⟩,l⟩
  ·rcases r with h | h
   ·exact .inl (by simp only[Own.blk] at c ⊢;rw[<-h];exact c)
   ·simp only[Own.blk] at c;rw[h] at c;injection c with c;exact .inr (by omega)
  ·rcases Loc.aal h with h | h
   ·simp only[Own.blk] at h;rcases r with q | q
    ·exact .inl ⟨k,_,t,by simp only[Own.blk];rw[<-q];exact h⟩
    ·rw[q] at h;injection h with h;exact .inr (by omega)
   ·exact .inl h
 ·have hv:∀g,v.ownBlock=some g->w.heap.size<=g:=by
   intro g h;rcases r with q | q
   ·rw[q] at h;cases h
   ·rw[q] at h;injection h with h;omega
  have y:St F L w':=u.keep fun b hb=>d.block b hb (by simp[Value.ownBlock]);refine⟨y.put t p fun g c=>⟨?_,fun ho=>?_⟩,⟨aF.le_refl F,d.os,d.tape,d.output,d.size,fun b hb hn=>d.block b hb (by simp[Value.ownBlock]),fun b h=>.inl h,fun b h=>?_⟩,l⟩
  ·cases hF:F g with
   | none=>rfl
   | some _=>have h1:=u.aaw (b:=g) (by rw[hF];simp);have h2:=hv g c;omega
  ·have h1:=u.aaB ho;have h2:=hv g c;omega
  ·rcases Loc.aal h with h | h
   ·exact .inr (hv b h)
   ·exact .inl h
theorem uo {e:TypeId}{sz n:Nat}{v:Value}{xs:List Value}(h:w.ownsRow 0 e sz v n xs):∃a c,v=.slice a n c/\(a=none->n=0):=by
 rcases h.2 with⟨rfl,rfl⟩ | ⟨g,cap,b,rfl,_⟩
 ·exact⟨none,0,rfl,fun _=>rfl⟩
 ·exact⟨_,cap,rfl,fun e=>(by cases e)⟩
theorem tw {t ty e:TypeId}{i:TypeInfo}(j:P.underlying t=some (.slice e)) (hi:P.info? e=some i) {s:Value}{n:Nat}{xs:List Value}(b:w.ownsRow 0 e i.size s n xs) (d:Option Addr) (c:Nat) :
  ∃w',(Builtin.append_ #[t,t] ty #[s,.slice d 0 c]).run P w=.ok s w'/\w'=w:=by
 refine⟨w,?_,rfl⟩;have h:(Builtin.firstCells i.size 0 (.slice d 0 c)).run P w=.ok #[] w:=by
  cases d<;>simp[Builtin.firstCells,loadCells,loadCellsFrom]
 rcases b.2 with⟨rfl,rfl⟩ | ⟨g,cap,k,rfl,_,_,f,_⟩
 ·simp[Builtin.append_,run_underlying j,sizeOf,typeInfo,hi,Builtin.lenOf,h]
 ·simp[Builtin.append_,run_underlying j,sizeOf,typeInfo,hi,Builtin.lenOf,h,f,storeCells]
theorem Rp {t e:TypeId}{y z:Operand}{y' z':X}{i:TypeInfo}{zv:Value}{c:Call}(hs:St F L w) (he:aJ L ρ a) (hd:∀k,o.dst=some k->k<a.tmps.size)
  (ho:o.op=.call c) (hc:c.callee=.builtin .append) (ha:c.args=#[y,z]) (bz:c.argTypes=#[t,t]) (ht:P.underlying t=some (.slice e)) (hi:P.info? e=some i) (bo:i.zero=some zv) (bp:zv.cells.size=i.size) (av:0<i.size)
  (hy:bG y=some y') (hz:bG z=some z') (hK:evalOp P (.app e i.size i.bytes zv.cells.toList y' z') o.dst F L ρ K):o.wp P a w (bC F L w a K) Q:=by
 have ey:=aL hy he;have ez:=aL hz he;simp only[evalOp,aN] at hK;split at hK
 case h_2=>exact hK.elim
 rename_i s x bv bk;obtain⟨kd,n,xs,m,news,az,⟨ad,cx,rfl,ab,ax⟩,h1,bj,bm,hK⟩:=hK;have ao:m≠0->∃d,ad=some d/\∀j u,news[j]?=some u->w.cell? (d.add j)=some u:=by
  intro hm;rcases ax with p | ⟨ap,_⟩ | ⟨k,v,ty,cp,m',ys,d,c',hk,rfl,rfl,p⟩
  ·obtain⟨d,r,bs,aa⟩:=p.cell hs;refine⟨d,r,fun j u hu=>?_⟩;have:=aa j u hu
   rwa [Nat.zero_add] at this
  ·exact p7 ap hm
  ·refine⟨d,rfl,fun j u hu=>?_⟩;have q:=hs.own k _ hk;simp only[Own.ok] at q;have h0:=World.ownsRow.cells q (g:=d.block) rfl j u (p j u hu);rcases q.2 with⟨r,_⟩ | ⟨g,cap,an,r,_⟩
   ·cases r
   ·injection r with e1 e2 e3
    injection e1 with e1
    subst e1;exact h0
 have bc:(L.get kd=some (.row s e i.size n xs)\/(L.get kd=none/\n=0/\xs=[]/\s=.slice none 0 0))\/(L.get kd=none/\∃ad,s=.slice (some ad) n n/\0<m/\xs.length=n*i.size/\(cg F (some ad) 0 xs\/(n=0/\xs=[]))):=by
  rcases az with h | h | h
  ·exact .inl (.inl h)
  ·exact .inl (.inr h)
  ·exact .inr h
 rcases bc with ay | ⟨bi,bu,rfl,ap,cz,cM⟩
 case inr =>
  obtain⟨d,rfl,l⟩:=ao (by omega);have cl:∀j u,xs[j]?=some u->w.cell? (bu.add j)=some u:=by
   intro j u hu;rcases cM with p | ⟨_,rfl⟩
   ·obtain⟨ds,r,bs,aa⟩:=p.cell hs;injection r with r
    subst r;have:=aa j u hu
    rwa [Nat.zero_add] at this
   ·simp at hu
  obtain⟨v,w',q,f,hg⟩:=run_append_arg_grows (P:=P) w t o.type e i zv i.size i.bytes ht hi bo rfl rfl bp av bu n n xs cz cl d m cx news ab l (by omega) bj bm;have ae:w'.ownsRow 0 e i.size v (n+m) (xs++news):=by
   refine⟨f.1,?_⟩;rcases f.2 with h | ⟨g,cap,an,e1,e2,e3⟩
   ·exact .inl h
   ·exact .inr ⟨g,cap,an,e1,abl _,e3⟩
  have bd:v.ownBlock=none\/(∃g,v.ownBlock=some g/\w.heap.size<=g):=by
   rcases f.2 with⟨h,_⟩ | ⟨g,cap,an,e1,e2,e3⟩
   ·rw[h];exact .inl rfl
   ·rw[e1];exact .inr ⟨g,rfl,e2⟩
  have hv:∀g,v.ownBlock=some g->w.heap.size<=g:=by
   intro g h;rcases bd with h' | ⟨g',h',h2⟩
   ·rw[h'] at h;cases h
   ·rw[h'] at h;injection h with h;omega
  have db:St F L w':=hs.keep fun b hb=>hg.block b hb (by simp);have cX:St F (L.set kd (.row v e i.size (n+m) (xs++news))) w':=db.put bi ae fun g bl=>⟨by
   cases hF:F g with
   | none=>rfl
   | some _=>have h1:=hs.aaw (b:=g) (by rw[hF];simp);have h2:=hv g bl;omega,fun ho=>by have h1:=hs.aaB ho;have h2:=hv g bl;omega⟩
  have be:Step F L w F (L.set kd (.row v e i.size (n+m) (xs++news))) w':=⟨aF.le_refl F,hg.os,hg.tape,hg.output,hg.size,fun b hb hn=>hg.block b hb (by simp),fun b h=>.inl h,fun b h=>by
   rcases Loc.aal h with h | h
   ·exact .inr (hv b h)
   ·exact .inl h⟩
  have ca:∀j g ty cs,L.get j=some (.box g ty cs)->∃cs',(L.set kd (.row v e i.size (n+m) (xs++news))).get j=some (.box g ty cs'):=by
   intro j g ty cs ej;rw[Loc.aac,vv (by rintro rfl;rw[bi] at ej;cases ej)];exact⟨cs,ej⟩
  refine gP he hd (v:=v) (x:=.v v) ?_ cX be rfl bY dV ca (hK v (uo ae));simp[execOp,ho,resolve,hc,ha,bz,invoke,builtin,ey,ez,bN bv,bN bk,q]
 have ag:w.ownsRow 0 e i.size s n xs:=by
  rcases ay with h | ⟨_,rfl,rfl,rfl⟩
  ·exact hs.own kd _ h
  ·exact World.ownsRow_nil w 0 e i.size
 have bb:L.get kd=some (.row s e i.size n xs)\/(L.get kd=none/\s=.slice none 0 0):=by
  rcases ay with h | ⟨h,_,_,h'⟩
  ·exact .inl h
  ·exact .inr ⟨h,h'⟩
 have fin:∀(v:Value) (w':World),(Builtin.append_ #[t,t] o.type #[s,.slice ad m cx]).run P w=.ok v w'->w'.ownsRow 0 e i.size v (n+m) (xs++news)->w.grownBy w' s.ownBlock->(v.ownBlock=s.ownBlock\/v.ownBlock=some w.heap.size)->o.wp P a w (bC F L w a K) Q:=by
  intro v w' q f hg bd;obtain⟨g1,g2,g3⟩:=x6 hs bb f hg bd;refine gP he hd (v:=v) (x:=.v v) ?_ g1 g2 rfl bY dV g3 (hK v (uo f));simp[execOp,ho,resolve,hc,ha,bz,invoke,builtin,ey,ez,bN bv,bN bk,q]
 by_cases hm:m=0
 ·subst hm;have hn:news=[]:=abh (by simpa using ab);subst hn;obtain⟨w',q,rfl⟩:=tw (P:=P) (ty:=o.type) ht hi ag ad cx;exact fin s w' q (by simpa using ag) (World.grownBy.refl _ _) (.inl rfl)
 ·have l:∃d,ad=some d/\∀j u,news[j]?=some u->w.cell? (d.add j)=some u:=by
   rcases ax with p | ⟨ap,_⟩ | ⟨k,v,ty,cp,m',ys,d,c',hk,rfl,rfl,p⟩
   ·obtain⟨d,r,bs,aa⟩:=p.cell hs;refine⟨d,r,fun j u hu=>?_⟩;have:=aa j u hu
    rwa [Nat.zero_add] at this
   ·exact p7 ap hm
   ·refine⟨d,rfl,fun j u hu=>?_⟩;have q:=hs.own k _ hk;simp only[Own.ok] at q;have h0:=World.ownsRow.cells q (g:=d.block) rfl j u (p j u hu);rcases q.2 with⟨r,_⟩ | ⟨g,cap,an,r,_⟩
    ·cases r
    ·injection r with e1 e2 e3
     injection e1 with e1
     subst e1;exact h0
  obtain⟨d,rfl,l⟩:=l;obtain⟨v,w',q,h2,h3,_,h5⟩:=run_append_own_at (P:=P) w 0 t o.type e i zv i.size i.bytes ht hi bo rfl rfl bp av s n xs ag d m cx news ab l h1 bj bm (abl _);exact fin v w' q h2 h3 h5
theorem MW {t t' e:TypeId}{y z:Operand}{y' z':X}{i:TypeInfo}{c:Call}(hs:St F L w) (he:aJ L ρ a) (hd:∀k,o.dst=some k->k<a.tmps.size)
  (ho:o.op=.call c) (hc:c.callee=.builtin .append) (ha:c.args=#[y,z]) (ap:c.argTypes=#[t,t']) (ht:P.underlying t=some (.slice e)) (l:P.underlying t'=some .string) (hi:P.info? e=some i) (ac:i.zero=some (.int .u8 0)) (q:i.size=1) (ab:i.bytes=1)
  (hy:bG y=some y') (hz:bG z=some z') (hK:evalOp P (.appS e y' z') o.dst F L ρ K):o.wp P a w (bC F L w a K) Q:=by
 have ey:=aL hy he;have ez:=aL hz he;simp only[evalOp,aN] at hK;split at hK
 case h_2=>exact hK.elim
 rename_i s x ax ao;obtain⟨kd,n,xs,m,r,aE,hK⟩:=hK;have b:w.ownsRow 0 e 1 s n xs:=by
  rcases m with h | ⟨_,rfl,rfl,rfl⟩
  ·exact hs.own kd _ h
  ·exact World.ownsRow_nil w 0 e 1
 have p:L.get kd=some (.row s e 1 n xs)\/(L.get kd=none/\s=.slice none 0 0):=by
  rcases m with h | ⟨h,_,_,h'⟩
  ·exact .inl h
  ·exact .inr ⟨h,h'⟩
 obtain⟨v,w',d,h2,h3,h4⟩:=Lib.run_append_own_string (P:=P) w 0 t t' o.type e i ht l hi ac q ab s n xs b x r aE (abl _);have av:v.ownBlock=s.ownBlock\/v.ownBlock=some w.heap.size:=by
  rcases b.2 with⟨rfl,rfl⟩ | ⟨g,cap,al,rfl,_,hg,cd,bv,an,aw⟩
  ·have az:xs=[]:=abh (by simpa using b.1);subst az
   by_cases hm:x.size=0
   ·exact .inl (by rw[(h4.2 ⟨rfl,hm⟩)])
   ·have ad:=r;simp only[maxLen] at ad;have f:=run_append_nil_string (P:=P) w t t' o.type e i (.int .u8 0) ht l hi ac x (by omega) (by omega) (by rw[ab];omega);rw[f] at d;injection d with d _
    subst d;exact .inr rfl
  ·by_cases aa:n+x.size<=cap
   ·have ba:al.size=cap:=by simpa using an
    have f:=Lib.run_append_room_string (P:=P) w t t' o.type e i ht l hi q g n cap al hg x aa (by omega);rw[f] at d;injection d with d _
    subst d;exact .inl rfl
   ·have holds:∀j u,xs[j]?=some u->w.cell? ((⟨g,0,none⟩:Addr).add j)=some u:=b.cells (g:=g) rfl;have ad:=r;simp only[maxLen] at ad;have f:=Lib.run_append_grow_string (P:=P) w t t' o.type e i (.int .u8 0) ht l hi ac ⟨g,0,none⟩ n cap xs (by rw[q];simpa using b.1) holds x (by omega) (by omega) (by rw[ab];exact growslice_fits (by omega) (by omega));rw[f] at d;injection d with d _
    subst d;exact .inr rfl
 obtain⟨g1,g2,g3⟩:=x6 hs p h2 h3 av;refine gP he hd (v:=v) (x:=.v v) ?_ g1 g2 rfl bY dV g3 (hK v (uo h2));simp[execOp,ho,resolve,hc,ha,ap,invoke,builtin,ey,ez,bN ax,bN ao,d]
theorem MX {t p e:TypeId}{kn q:IntKind}{y z:Operand}{y' z':X}{i:TypeInfo}{c:Call}(hs:St F L w) (he:aJ L ρ a) (hd:∀k,o.dst=some k->k<a.tmps.size)
  (ho:o.op=.call c) (hc:c.callee=.builtin .append) (ha:c.args=#[y,z]) (ac:c.argTypes=#[t,p]) (ht:P.underlying t=some (.slice e)) (aa:P.underlying p=some (.int kn)) (hi:P.info? e=some i) (an:i.zero=some (.int q 0)) (r:i.size=1)
  (hy:bG y=some y') (hz:bG z=some z') (b:evalOp P (.appZ e i.bytes q y' z') o.dst F L ρ K):o.wp P a w (bC F L w a K) Q:=by
 have ey:=aL hy he;have ez:=aL hz he;simp only[evalOp,aN] at b;split at b
 case h_2=>exact b.elim
 rename_i s kx x ag ab;split at b
 case h_2=>exact b.elim
 rename_i m;obtain⟨kd,n,xs,d,u,am,b⟩:=b;have l:w.ownsRow 0 e 1 s n xs:=by
  rcases d with h | ⟨_,rfl,rfl,rfl⟩
  ·exact hs.own kd _ h
  ·exact World.ownsRow_nil w 0 e 1
 have f:L.get kd=some (.row s e 1 n xs)\/(L.get kd=none/\s=.slice none 0 0):=by
  rcases d with h | ⟨h,_,_,h'⟩
  ·exact .inl h
  ·exact .inr ⟨h,h'⟩
 obtain⟨v,w',hr,h2,h3,ae⟩:=qR (P:=P) w 0 t p o.type e i kx q kn ht aa hi an r s n xs l m u am (abl _);obtain⟨g1,g2,g3⟩:=x6 hs f h2 h3 ae;have j:(Builtin.append_ #[t,p] o.type #[s,.int kx (Int.ofNat m)]).run P w=.ok v w':=hr;refine gP he hd (v:=v) (x:=.v v) ?_ g1 g2 rfl bY dV g3 (b v (uo h2));simp at j;simp[execOp,ho,resolve,hc,ha,ac,invoke,builtin,ey,ez,bN ag,bN ab,j]
end
section
variable {P:Program}{F:aF}{L:Loc}{ρ:Env}{a:Act}{w:World}{K:dm}{o:Oper}{Q:Exit->Act->World->Prop}
theorem vY:∀(l:List Own) (k j:Nat),Loc.get (lK k l) j=if k<=j then l[j-k]? else none
 | [],k,j=>by simp[lK,Loc.get]
 | o::l,k,j=>by
  simp only[lK,Loc.get];cases h:Nat.beq k j with
  | true=>have:=v8 h;subst this;simp
  | false =>
   have c:=gh h;simp only[vY l (k+1) j]
   by_cases b:k<=j
   ·rw[o6 (by omega),o6 b,show j-k=(j-(k+1))+1 by omega,aby]
   ·rw[vv (by omega),vv b]
theorem bg (l:List Own) (j:Nat):Loc.get (inp l) j=if 1000<=j then l[j-1000]? else none:=vY l 1000 j
theorem fo:∀{L:Loc}{ks:List Nat}{l:List Own},L.sub ks=some l->l.length=ks.length/\∀(i:Nat) (k:Nat),ks[i]?=some k->L.get k=l[i]?
 | L,[],l,h=>by simp only[Loc.sub,w7] at h;subst h;simp
 | L,k::ks,l,h=>by
  simp only[Loc.sub] at h;split at h
  case h_2=>cases h
  rename_i o j d c;injection h with h
  subst h;obtain⟨b,e⟩:=fo c;refine⟨by simp[b],fun i f hi=>?_⟩;cases i with
  | zero=>simp at hi;subst hi;simpa using d
  | succ i=>simp at hi;simpa using e i f hi
theorem gk:∀(ks:List Nat) (L:Loc) (j:Nat),(L.aaf ks).get j=if j∈ks then none else L.get j
 | [],L,j=>by simp[Loc.aaf]
 | k::ks,L,j=>by
  simp only[Loc.aaf,gk ks,Loc.aai,aaQ]
  by_cases c:j=k<;>by_cases b:j∈ks<;>simp[c,b]
theorem dR:∀(ko:List Nat) (l:List Own) (L:Loc) (j:Nat),ko.Nodup->ko.length=l.length ->
  ((L.puts ko l).get j=L.get j/\j∉ko)\/∃i,ko[i]?=some j/\(L.puts ko l).get j=l[i]?/\i<l.length
 | [],l,L,j,_,h=>by
  refine .inl ⟨?_,by simp⟩;cases l<;>rfl
 | k::ko,[],L,j,_,h=>by simp at h
 | k::ko,o::l,L,j,e,h=>by
  simp only[aaW,Nat.add_right_cancel_iff] at h;rw[List.nodup_cons] at e;simp only[Loc.puts];rcases dR ko l (L.set k o) j e.2 h with⟨b,d⟩ | ⟨i,b,d,f⟩
  ·rw[Loc.aac] at b
   by_cases c:j=k
   ·subst c;rw[o6 rfl] at b;exact .inr ⟨0,by simp,by simpa using b,by simp⟩
   ·rw[vv c] at b;exact .inl ⟨b,by simp[c,d]⟩
  ·exact .inr ⟨i+1,by simpa using b,by simpa using d,by simp;omega⟩
theorem Ay {l:List Nat}(h:l.Nodup) {i j:Nat}{k:Nat}(hi:l[i]?=some k) (b:l[j]?=some k):i=j:=by
 induction l generalizing i j with
 | nil=>simp at hi
 | cons x l c =>
  rw[List.nodup_cons] at h;cases i with
  | zero =>
   cases j with
   | zero=>rfl
   | succ j =>
    simp at hi b;subst hi;exact p7 (aaS b) h.1
  | succ i =>
   cases j with
   | zero =>
    simp at hi b;subst b;exact p7 (aaS hi) h.1
   | succ j =>
    simp at hi b;rw[c h.2 hi b]
theorem St.handed (b:St F L w) {ks:List Nat}{l:List Own}(c:L.sub ks=some l) (x:ks.Nodup):St F (inp l) w:=by
 obtain⟨hl,v⟩:=fo c;have key:∀j p,Loc.get (inp l) j=some p->∃k,1000<=j/\ks[j-1000]?=some k/\L.get k=some p:=by
  intro j p e;rw[bg] at e;split at e
  case isFalse=>cases e
  rename_i q;have aa:j-1000<l.length:=(xD.1 e).1;have r:ks[j-1000]?=some (ks[j-1000]'(by omega)):=w8 (by omega);exact⟨_,q,r,by rw[v _ _ r];exact e⟩
 refine⟨b.frz,fun j p e=>?_,fun j p g e hb=>?_,fun j s p n g e t hb d=>?_,b.glob⟩
 ·obtain⟨k,_,_,h⟩:=key j p e;exact b.own k p h
 ·obtain⟨k,_,_,h⟩:=key j p e;exact b.off k p g h hb
 ·obtain⟨k,q,u,z⟩:=key j p e;obtain⟨k',y,m,f⟩:=key s n t;have:=b.sep k k' p n g z f hb d;subst this;have:=Ay x u m;omega
theorem jT (y:St F L w) {ks ko:List Nat}{l lo:List Own}(ad:L.sub ks=some l) (hn:ks.Nodup) (x:ko.Nodup) (aw:∀k,k∈ko->k∈ks\/L.get k=none)
  {F':aF}{w':World}(r:St F' (inp lo) w') (m:Step F (inp l) w F' (inp lo) w') (ab:ko.length=lo.length) :
  St F' ((L.aaf ks).puts ko lo) w'/\Step F L w F' ((L.aaf ks).puts ko lo) w':=by
 obtain⟨hl,hg⟩:=fo ad;have n:∀b,(inp l).owns b->∃k o,k∈ks/\L.get k=some o/\o.blk=some b:=by
  rintro b ⟨j,p,e,hb⟩;rw[bg] at e;split at e
  case isFalse=>cases e
  have aE:j-1000<l.length:=(xD.1 e).1;have hk:ks[j-1000]?=some (ks[j-1000]'(by omega)):=w8 (by omega);exact⟨_,p,aaS hk,by rw[hg _ _ hk];exact e,hb⟩
 have f:∀k p b,k∉ks->L.get k=some p->p.blk=some b->¬(inp l).owns b:=by
  intro k p b hk e hb ho;obtain⟨z,o,am,e',d⟩:=n b ho;exact hk (by rw[y.sep k z p o b e e' hb d];exact am)
 have get:∀k p,((L.aaf ks).puts ko lo).get k=some p->(k∉ks/\k∉ko/\L.get k=some p)\/∃i,ko[i]?=some k/\Loc.get (inp lo) (1000+i)=some p:=by
  intro k p e;rcases dR ko lo (L.aaf ks) k x ab with⟨q,c⟩ | ⟨i,q,c,v⟩
  ·rw[q,gk] at e;split at e
   ·cases e
   ·rename_i v;exact .inl ⟨v,c,e⟩
  ·rw[c] at e;exact .inr ⟨i,q,by rw[bg,o6 (by omega),show 1000+i-1000=i by omega];exact e⟩
 refine⟨⟨r.frz,fun k p e=>?_,fun k p b e hb=>?_,fun k z p u b e e' hb d=>?_,r.glob⟩,⟨m.le,m.os,m.tape,m.output,m.size,fun b hb x=>?_,fun b hb=>?_,fun b hb=>?_⟩⟩
 ·rcases get k p e with⟨q,_,c⟩ | ⟨i,_,c⟩
  ·exact Own.aav (y.own k p c) fun g ac=>m.same g (Own.aaq (y.own k p c) ac) (f k p g q c ac)
  ·exact r.own _ p c
 ·rcases get k p e with⟨q,_,c⟩ | ⟨i,_,c⟩
  ·cases hF:F' b with
   | none=>rfl
   | some _ =>
    rcases m.frz b (by rw[hF];simp) with v | v | v
    ·exact p7 (y.off k p b c hb) v
    ·exact p7 v (f k p b q c hb)
    ·have:=Own.aaq (y.own k p c) hb;omega
  ·exact r.off _ p b c hb
 ·have s:∀k p i u,k∉ks->L.get k=some p->Loc.get (inp lo) (1000+i)=some u->p.blk=some b->u.blk=some b->False:=by
   intro k p i u q c v h4 h5;rcases m.own b ⟨_,u,v,h5⟩ with h6 | h6
   ·exact f k p b q c h4 h6
   ·have:=Own.aaq (y.own k p c) h4;omega
  rcases get k p e with⟨q,_,c⟩ | ⟨i,hi,c⟩<;>rcases get z u e' with⟨ao,_,t⟩ | ⟨i',ae,t⟩
  ·exact y.sep k z p u b c t hb d
  ·exact(s k p i' u q c t hb d).elim
  ·exact(s z u i p ao t c d hb).elim
  ·have:=r.sep _ _ p u b c t hb d;have:i=i':=by omega
   subst this;rw[hi] at ae;injection ae
 ·refine m.same b hb fun ho=>?_;obtain⟨k,o,_,e,d⟩:=n b ho;exact x ⟨k,o,e,d⟩
 ·rcases m.frz b hb with h | h | h
  ·exact .inl h
  ·obtain⟨k,o,_,e,d⟩:=n b h;exact .inr (.inl ⟨k,o,e,d⟩)
  ·exact .inr (.inr h)
 ·obtain⟨k,p,e,d⟩:=hb;rcases get k p e with⟨q,_,c⟩ | ⟨i,_,c⟩
  ·exact .inl ⟨k,p,c,d⟩
  ·rcases m.own b ⟨_,p,c,d⟩ with h | h
   ·obtain⟨z,o,_,e',ag⟩:=n b h;exact .inl ⟨z,o,e',ag⟩
   ·exact .inr h
theorem wY {f:Nat}{args:List Value}(hs:St F L w) (he:aJ L ρ a) (hd:∀k,o.dst=some k->k<a.tmps.size)
  (hrun:(∃fn,P.funcs[f]?=some fn/\fn.body.isSome=true/\(fn.name == "runtime.NumGoroutine")=false)->(execOp a.eval o).run P w=.ok (.enter f args.toArray) w)
  (hK:dQ P f args F L fun F' L' v=>K F' L' (put o.dst (.v v) ρ)):o.wp P a w (bC F L w a K) Q:=by
 obtain⟨ks,ko,l,R,hsub,hn,hno,hko,hc,hK⟩:=hK;unfold Oper.wp;rw[hrun hc.ent];rw[Oper.upon_enter];refine(hc.run w (hs.handed hsub hn)).mono ?_;rintro e w' ⟨v,F',lo,rfl,hs',hst,hR⟩;obtain⟨hlen,hbox,hK⟩:=hK v F' lo hst.le hR;obtain⟨h1,h2⟩:=jT hs hsub hn hno hko hs' hst hlen;refine⟨F',_,_,h1,he.put hd (x:=.v v) rfl bY dV ?_,lT _ _ _,iD _ _ _,h2,hK⟩;intro k g ty cs e
 by_cases hk:k∈ks
 ·exact hbox k g ty cs hk e
 ·rcases dR ko lo (L.aaf ks) k hno hlen with⟨h1,h2⟩ | ⟨i,h1,h2,h3⟩
  ·rw[h1,gk,vv hk];exact⟨cs,e⟩
  ·rcases hko k (aaS h1) with h | h
   ·exact p7 h hk
   ·rw[h] at e;cases e
theorem kg {f:Nat}{args:Array Value}(h:∃fn,P.funcs[f]?=some fn/\fn.body.isSome=true/\(fn.name == "runtime.NumGoroutine")=false):(callFunc f args).run P w=.ok (.enter f args) w:=by
 obtain⟨fn,h1,h2,h3⟩:=h;have h4:fn.body≠none:=by intro hb;rw[hb] at h2;cases h2
 have h5:fn.name≠"runtime.NumGoroutine":=by simpa using h3
 simp[callFunc,h1,h4,h5]
theorem MY {f:Nat}{args:List X}{c:Call}(q:St F L w) (h:aJ L ρ a) (j:∀k,o.dst=some k->k<a.tmps.size)
  (n:o.op=.call c) (m:c.callee=.value (.func f)) (l:hO c.args.toList=some args) (p:evalOp P (.call f args) o.dst F L ρ K):o.wp P a w (bC F L w a K) Q:=by
 refine wY q h j (fun d=>?_) p;have e:=gj l h;have b:c.args.map a.eval=(bE L ρ args).toArray:=by apply Array.ext';simpa using e
 simp[execOp,n,resolve,m,Deferred.ofValue,Act.eval,invoke,b,kg d]
theorem kh {t:TypeId}{nm:String}{u:Value}{f:Nat}{args:Array Value}(hf:oV P t nm=some f) (h:∃fn,P.funcs[f]?=some fn/\fn.body.isSome=true/\(fn.name == "runtime.NumGoroutine")=false) :
  (callMethod (.iface t u) nm args).run P w=.ok (.enter f (#[u]++args)) w:=by
 have:=Hw (P:=P) hf u w;simp only[callMethod,Sem.run_bind,run_program,Result.andThen_ok,this];exact kg h
theorem C4 {V:SV}{v:Value}{args:List Value}{f:Nat}{fi ca:List Value}(hf:mK P V=some (f,fi,ca)) (hv:∀x,V=.v x->v=x) (h:∃fn,P.funcs[f]?=some fn/\fn.body.isSome=true/\(fn.name == "runtime.NumGoroutine")=false) :
  (do let d <-Deferred.ofValue v args.toArray;invoke d.target d.args:Sem Next).run P w=.ok (.enter f (fi++args++ca).toArray) w:=by
 unfold mK at hf;split at hf
 ·rename_i f' fi' ca';injection hf with hf
  injection hf with e1 e2
  injection e2 with e2 e3
  subst e1 e2 e3;rw[hv _ rfl];have hall:fi'++(args.toArray++ca')=(fi'.toList++args++ca'.toList).toArray:=by apply Array.ext';simp
  simp[Deferred.ofValue,invoke];rw[kg h];simp
 ·rename_i nm fi' ca';split at hf
  case h_2=>cases hf
  rename_i t u hfi;split at hf
  case h_2=>cases hf
  rename_i f' hm;injection hf with hf
  injection hf with e1 e2
  injection e2 with e2 e3
  subst e1 e2 e3;have hfi':fi'=#[.iface t u]:=by apply Array.ext';exact hfi
  rw[hv _ rfl,hfi'];have hx:(#[Value.iface t u]++args.toArray).extract 1 (#[Value.iface t u]++args.toArray).size=args.toArray:=by apply Array.ext';simp
  have h0:(#[Value.iface t u]++args.toArray)[0]?=some (.iface t u):=by simp
  have:=kh (w:=w) (u:=u) (args:=args.toArray) hm h;simp only[Deferred.ofValue,Sem.run_bind,Sem.run_pure,Result.andThen_ok,invoke,h0,hx,this];simp
 ·cases hf
theorem Jv {y:Operand}{y':X}{args:List X}{c:Call}(hs:St F L w) (p:aJ L ρ a) (hd:∀k,o.dst=some k->k<a.tmps.size)
  (ho:o.op=.call c) (hc:c.callee=.value y) (hy:bG y=some y') (ha:hO c.args.toList=some args) (n:evalOp P (.callV y' args) o.dst F L ρ K):o.wp P a w (bC F L w a K) Q:=by
 have ey:=aL hy p;have q:=gj ha p;have l:c.args.map a.eval=(bE L ρ args).toArray:=by apply Array.ext';simpa using q
 have m:∀x,ev ρ y'=.v x->a.eval y=x:=fun x e=>by rw[ey,bN e]
 simp only[evalOp] at n;split at n
 ·rename_i f fi ca d;refine wY hs p hd (fun j=>?_) n;have:=C4 (w:=w) (args:=bE L ρ args) d m j;simp only[execOp,ho,resolve,hc,l];exact this
 ·split at n
  case h_2=>exact n.elim
  rename_i f r d;unfold Am at d;split at d
  case h_2=>cases d
  rename_i t nm ca t' u h ab b;split at d
  case h_2=>cases d
  rename_i ms hu;split at d
  case h_2=>cases d
  rename_i f' hm;injection d with d
  injection d with e1 e2
  subst e1 e2;refine wY hs p hd (fun j=>?_) n;have h0:(#[]++(bE L ρ args).toArray)[0]?=some (.iface t' u):=by rw[b];simp
  have hx:(#[]++(bE L ρ args).toArray).extract 1 (#[]++(bE L ρ args).toArray).size=h.toArray:=by rw[b];apply Array.ext';simp
  have:=kh (w:=w) (u:=u) (args:=h.toArray) hm j;simp only[execOp,ho,resolve,hc,l,m _ ab,Deferred.ofValue,Sem.run_bind,Sem.run_pure,Result.andThen_ok,invoke];have z:((⟨[]⟩:Array Value)++(bE L ρ args).toArray)[0]?=some (.iface t' u):=h0;simp only[z,Sem.run_bind,run_underlying hu,Result.andThen_ok];have s:((⟨[]⟩:Array Value)++(bE L ρ args).toArray).extract 1 ((⟨[]⟩:Array Value)++(bE L ρ args).toArray).size=h.toArray:=hx;simp only[s,this];simp
theorem Rq {n:Nat}{nm:String}{args:List X}{c:Call}(hs:St F L w) (s:aJ L ρ a) (hd:∀k,o.dst=some k->k<a.tmps.size)
  (ho:o.op=.call c) (hc:c.callee=.invoke (.tmp n) nm) (ha:hO c.args.toList=some args) (h:evalOp P (.callV (.mt nm n) args) o.dst F L ρ K):o.wp P a w (bC F L w a K) Q:=by
 have p:=gj ha s;have e:c.args.map a.eval=(bE L ρ args).toArray:=by apply Array.ext';simpa using p
 simp only[evalOp,ev] at h;split at h
 ·rename_i f fi ca d;refine wY hs s hd (fun l=>?_) h;cases m:ρ n with
  | own k off=>rw[m] at d;cases d
  | el b j=>rw[m] at d;cases d
  | v x =>
   rw[m] at d;have hx:a.eval (.tmp n)=x:=by
    have:=s.eq n;rw[m] at this;exact this
   simp only[Tt,mK] at d;split at d
   case h_2=>cases d
   rename_i t u z;split at d
   case h_2=>cases d
   rename_i f' hm;injection d with d
   injection d with e1 e2
   injection e2 with e2 e3
   subst e1 e2 e3;have y:x=.iface t u:=by simpa using z
   subst y;have q:(#[Value.iface t u]++(bE L ρ args).toArray).extract 1 (#[Value.iface t u]++(bE L ρ args).toArray).size=(bE L ρ args).toArray:=by apply Array.ext';simp
   have h0:(#[Value.iface t u]++(bE L ρ args).toArray)[0]?=some (.iface t u):=by simp
   have:=kh (w:=w) (u:=u) (args:=(bE L ρ args).toArray) hm l;simp only[execOp,ho,resolve,hc,e,hx,Sem.run_bind,Sem.run_pure,Result.andThen_ok,invoke,h0,q,this];simp
 ·split at h
  case h_2=>exact h.elim
  rename_i f r d;exfalso
  revert d
  cases ρ n<;>simp[Tt,Am,undef]
theorem Rs {s t e:TypeId}{y:Operand}{y':X}(hs:St F L w) (he:aJ L ρ a) (hd:∀k,o.dst=some k->k<a.tmps.size)
  (ho:o.op=.convert s t y) (j:P.underlying s=some .string) (h2:P.underlying t=some (.slice e)) (h3:P.underlying e=some (.int .u8)) (hy:bG y=some y') (r:evalOp P (.s2b e y') o.dst F L ρ K):o.wp P a w (bC F L w a K) Q:=by
 have ey:=aL hy he;simp only[evalOp,aN] at r;split at r
 case h_2=>exact r.elim
 rename_i str ab
 let cap:=(Question.appendCap str.size 0 e).cut (w.tape w.drawn (.appendCap str.size 0 e))
 have m:str.size<=cap:=by simp only[cap,Question.cut];omega
 let cells:Array Value:=(str.data.map fun b=>Value.int .u8 b.toNat)++Array.replicate (cap-str.size) (.int .u8 0)
 have ac:cells.size=cap:=by simp only[cells,Array.size_append,Array.size_map,Array.size_replicate];have:str.data.size=str.size:=rfl;omega
 let f:=w.drew.alloc (.cells cells e)
 let c:=f.freeze {block:=w.heap.size,off:=cap} 1
 have l:(execOp a.eval o).run P w=.ok (.value (.slice (some ⟨w.heap.size,0,none⟩) str.size cap)) c:=by
  have aa:f.shape? w.heap.size=some (e,cap):=by
   have:f.heap[w.heap.size]?=some (.cells cells e):=ia w.drew _;simp only[World.shape?,this,ac]
  simp[execOp,ho,ey,bN ab,convert,run_underlying j,run_underlying h2,run_underlying h3,Conv.stringToBytes,Question.forced,newRow,markStringish];rw[show(w.drew.alloc (.cells ((str.data.map fun b=>Value.int .u8 b.toNat)++Array.replicate ((Question.appendCap str.size 0 e).cut (w.tape w.drawn (.appendCap str.size 0 e))-str.size) (.int .u8 0)) e)).shape? w.heap.size=some (e,cap) from aa];simp;exact⟨rfl,rfl⟩
 have q:∀b,b<w.heap.size->c.heap[b]?=w.heap[b]?:=by
  intro b hb;have j:f.heap[b]?=w.heap[b]?:=Below.heap_alloc w.drew _ b hb;simp only[c,World.freeze];simp only[Nat.one_ne_zero,abp,Array.getElem?_modify];rw[vv (by omega)];exact j
 have d:c.heap[w.heap.size]?=some (.cells cells e (cap,cap+1)):=by
  have j:f.heap[w.heap.size]?=some (.cells cells e (0,0)):=ia w.drew _;simp only[c,World.freeze,Nat.one_ne_zero,abp,Array.getElem?_modify,abd,j];simp
 have p:St F L c:=hs.keep q;obtain⟨hf,u⟩:=qO hs;have z:=p.freeze d u;have n:=aF.aas p d;refine gP he hd (x:=.v (.slice (some ⟨w.heap.size,0,none⟩) str.size cap)) l z ⟨n,?_,?_,?_,?_,fun b hb _=>q b hb,?_,fun b h=>.inl h⟩ rfl bY dV (rW L) (r w.heap.size cap _ n ?_ m)
 ·simp only[c,World.freeze,Nat.one_ne_zero,abp];rfl
 ·simp only[c,World.freeze,Nat.one_ne_zero,abp];rfl
 ·simp only[c,World.freeze,Nat.one_ne_zero,abp];rfl
 ·simp only[c,World.freeze,Nat.one_ne_zero,abp,Array.size_modify];have:f.heap.size=w.heap.size+1:=by simp[f]
  omega
 ·intro b hb
  by_cases h:b=w.heap.size
  ·exact .inr (.inr (by omega))
  ·simp only[vv h] at hb;exact .inl hb
 ·refine⟨_,cells,e,_,rfl,o6 rfl,rfl,fun i v hv=>?_⟩;have hi:i<str.data.size:=by
   have:=(xD.1 hv).1;simpa using this
  simp only[cells,Nat.zero_add];rw[Array.getElem?_append_left (by simpa using hi)];refine⟨by simpa using hv,fun h=>?_⟩;have j:cap<=i:=by simpa using h.1
  have h2:str.size=str.data.size:=rfl;omega
theorem BB (w:World) (l u ty elem:TypeId) (g o c h:Nat) (s:ByteArray) (d:Array Value) (t:TypeId)
  (r:P.underlying l=some (.slice elem)) (k:(P.info? elem).map (·.size)=some 1)
  (n:w.heap[g]?=some (.cells d t (0,0))) (f:o+min s.size c<=d.size) :
  (Builtin.copy_ #[l,u] ty #[.slice (some ⟨g,o,none⟩) c h,.string s]).run P w =
   .ok (goInt (min s.size c:Nat)) (w.setRow g (aR d.toList o ((s.data.toList.take c).map fun b=>Value.int .u8 b.toNat)).toArray):=by
 have m:((s.data.toList.take c).map fun b=>Value.int .u8 b.toNat).length=min s.size c:=by
  rw[aa6,aa9,Nat.min_comm,Array.length_toList];rfl
 have j:=run_storeCells_at P g o t ((s.data.toList.take c).map fun b=>Value.int .u8 b.toNat) 0 d w n (by rw[m];simpa using f) (fun v x=>by
  obtain⟨b,_,rfl⟩:=abk.1 x;rfl)
 rw[Nat.add_zero] at j;have q:List.take (s.size.min c) (List.map (fun b=>Value.int IntKind.u8 b.toNat) s.data.toList)=(s.data.toList.take c).map fun b=>Value.int .u8 b.toNat:=by
  have p:s.size=s.data.toList.length:=by simp
  rw[<-List.map_take,p];congr 1;rw[show Nat.min s.data.toList.length c=min s.data.toList.length c from rfl,Nat.min_comm,<-List.take_take,List.take_length]
 generalize(s.data.toList.take c).map (fun b=>Value.int .u8 b.toNat)=news at *;cases e:P.info? elem with
 | none=>simp[e] at k
 | some i =>
  have hi:i.size=1:=by simpa[e] using k
  simp[Builtin.copy_,run_underlying r,Builtin.lenOf,Builtin.firstCells,sizeOf,typeInfo,e,hi,q,j,aR]
theorem FT {t t' e:TypeId}{y z:Operand}{y' z':X}{i:TypeInfo}{c:Call}(hs:St F L w) (he:aJ L ρ a) (hd:∀k,o.dst=some k->k<a.tmps.size)
  (ho:o.op=.call c) (hc:c.callee=.builtin .copy) (ha:c.args=#[y,z]) (bv:c.argTypes=#[t,t']) (ht:P.underlying t=some (.slice e)) (hi:P.info? e=some i) (bt:i.size=1)
  (hy:bG y=some y') (hz:bG z=some z') (hK:evalOp P (.copy e i.size y' z') o.dst F L ρ K):o.wp P a w (bC F L w a K) Q:=by
 have ey:=aL hy he;have ez:=aL hz he;rw[bt] at hK;simp only[evalOp] at hK;split at hK
 case h_3=>exact hK.elim
 case h_1 =>
  rename_i dv str an bb;obtain⟨k,n,v,s,xs,ad,cr,cd,j,hk,rfl,rfl,db,hK⟩:=hK;have az:(P.info? e).map (·.size)=some 1:=by rw[hi];simp[bt]
  have l:=hs.own k _ hk;simp only[Own.ok] at l;obtain⟨hx,l⟩:=l;rcases l with⟨e',_⟩ | ⟨g,cap,d,e',bo,hg,bl,bk,ab,p⟩
  ·cases e'
  injection e' with e1 e2 e3
  injection e1 with e1
  subst e1 e3;simp only[Nat.mul_one] at hx ab p;have hl:((str.data.toList.take n).map fun b=>Value.int .u8 b.toNat).length=min str.size n:=by
   rw[aa6,aa9,Nat.min_comm,Array.length_toList];rfl
  generalize bi:(str.data.toList.take n).map (fun b=>Value.int .u8 b.toNat)=news at hl hK;have ae:j+news.length<=s:=by rw[hl];omega
  have r:j+news.length<=d.size:=by omega
  have f:=mN w g (aR d.toList j news).toArray;have am:∀(ar:List Value) i' g' ty' cs',L.get i'=some (.box g' ty' cs')->∃ap,(L.set k (.row (.slice (some ⟨g,0,none⟩) s cr) e 1 s ar)).get i'=some (.box g' ty' ap):=by
   intro ar i' g' ty' cs' ej;rw[Loc.aac,vv (by rintro rfl;rw[hk] at ej;cases ej)];exact⟨cs',ej⟩
  have av:Own.ok (w.setRow g (aR d.toList j news).toArray) (.row (.slice (some ⟨g,0,none⟩) s cr) e 1 s (aR xs j news)):=by
   refine⟨?_,.inr ⟨g,cr,_,rfl,bo,setRow_heap w g d _ e _ hg,bl,bk,?_,?_⟩⟩
   ·rw[fU _ _ _ (by rw[hx];exact ae),hx,Nat.mul_one]
   ·have:(aR d.toList j news).length=d.size:=by rw[fU _ _ _ (by simpa using r)];simp
    simp[this,ab]
   ·rw[Nat.mul_one,List.toList_toArray,<-p];apply abq;intro q;have bp:j+news.length<=d.toList.length:=by simpa using r
    rw[iY (by rw[aa9];simp;omega)]
    by_cases hn:q<s
    ·rw[List.getElem?_take_of_lt hn,iY bp,List.getElem?_take_of_lt hn]
    ·rw[aa0 (by simp;omega)];have h1:¬q<j:=by omega
     have h2:¬q<j+news.length:=by omega
     rw[vv h1,vv h2,aa0 (by simp;omega)]
  have aw:St F (L.set k (.row (.slice (some ⟨g,0,none⟩) s cr) e 1 s (aR xs j news))) (w.setRow g (aR d.toList j news).toArray) :=
   hs.turn hk av (fun b ag bz=>f.block b ag (fun e=>bz (by rw[e];rfl))) (fun g' ao=>.inl ao)
  refine gP he hd (v:=.int .i64 (min str.size n:Nat)) (x:=.v (.int .i64 (min str.size n:Nat))) ?_ aw ?_ rfl bY dV (am _) hK
  ·have cf:(⟨g,0,none⟩:Addr).add j=⟨g,j,none⟩:=by rw[cA,Nat.zero_add]
   have:=BB (P:=P) w t t' o.type e g j n cd str d e ht az hg (by rw[<-hl];exact r);rw[bi] at this;rw[cf] at an;simp[execOp,ho,resolve,hc,ha,bv,invoke,builtin,ey,ez,bN an,bN bb,this,goInt]
  ·refine⟨aF.le_refl F,rfl,rfl,rfl,f.size,fun b ag hn=>f.block b ag (fun e=>hn ⟨k,_,hk,by rw[e];rfl⟩),fun b h=>.inl h,fun b h=>?_⟩;rcases Loc.aal h with h | h
   ·exact .inl ⟨k,_,hk,h⟩
   ·exact .inl h
 rename_i dv xv _ an bb;have az:(P.info? e).map (·.size)=some 1:=by rw[hi];simp[bt]
 obtain⟨⟨k,n,v,s,xs,ad,cr,cd,j,m,ax,cx,news,hk,rfl,rfl,db,rfl,aa,cl,h1,hK⟩ | ⟨da,n,cd,ax,m,cx,rfl,rfl,h0,hK⟩⟩:=hK
 rotate_left
 ·have bc:∀v:Value,(execOp a.eval o).run P w=(do pure (.value (<-Builtin.copy_ #[t,t'] o.type #[.slice da n cd,.slice ax m cx])):Sem Next).run P w:=by
   intro v;simp[execOp,ho,resolve,hc,ha,bv,invoke,builtin,ey,ez,bN an,bN bb]
  refine bR hs he hd (v:=.int .i64 0) (x:=.v (.int .i64 0)) ?_ rfl bY dV hK;rw[bc undef];have:=run_copy_none (P:=P) w t t' o.type e da ax n cd m cx ht az h0;simp[this,goInt]
 rw[Nat.mul_one] at aa;have l:=hs.own k _ hk;simp only[Own.ok] at l;obtain⟨hx,l⟩:=l;rcases l with⟨e',_⟩ | ⟨g,cap,d,e',bo,hg,bl,bk,ab,p⟩
 ·cases e'
 injection e' with e1 e2 e3
 injection e1 with e1
 subst e1 e3;simp only[Nat.mul_one] at hx ab p hK an;have am:∀(ar:List Value) i' g' ty' cs',L.get i'=some (.box g' ty' cs')->∃ap,(L.set k (.row (.slice (some ⟨g,0,none⟩) s cr) e 1 s ar)).get i'=some (.box g' ty' ap):=by
  intro ar i' g' ty' cs' ej;rw[Loc.aac,vv (by rintro rfl;rw[hk] at ej;cases ej)];exact⟨cs',ej⟩
 have bc:∀v:Value,(execOp a.eval o).run P w=(do pure (.value (<-Builtin.copy_ #[t,t'] o.type #[.slice (some ((⟨g,0,none⟩:Addr).add j)) n cd,.slice ax m cx])):Sem Next).run P w:=by
  intro v;simp[execOp,ho,resolve,hc,ha,bv,invoke,builtin,ey,ez,bN an,bN bb]
 by_cases h0:min m n=0
 ·have:news=[]:=abh (by rw[aa,h0]);subst this;have co:aR xs j []=xs:=by simp[aR]
  rw[co,h0] at hK;have av:Own.ok w (.row (.slice (some ⟨g,0,none⟩) s cr) e 1 s xs):=by
   have:=hs.own k _ hk;exact this
  have aw:St F (L.set k (.row (.slice (some ⟨g,0,none⟩) s cr) e 1 s xs)) w:=hs.turn hk av (fun _ _ _=>rfl) (fun g' ao=>.inl ao);refine gP he hd (v:=.int .i64 0) (x:=.v (.int .i64 0)) ?_ aw ?_ rfl bY dV (am xs) hK
  ·rw[bc undef];have:=run_copy_none (P:=P) w t t' o.type e (some ((⟨g,0,none⟩:Addr).add j)) ax n cd m cx ht az h0;simp[this,goInt]
  ·refine⟨aF.le_refl F,rfl,rfl,rfl,aa8 _,fun _ _ _=>rfl,fun b h=>.inl h,fun b h=>?_⟩;rcases Loc.aal h with h | h
   ·exact .inl ⟨k,_,hk,h⟩
   ·exact .inl h
 ·have hF:cg F ax 0 news:=cl.resolve_right fun h=>h0 h.1;obtain⟨cp,rfl,_,cz⟩:=hF.cell hs;have ba:∀j v,news[j]?=some v->w.cell? (cp.add j)=some v:=fun j' u hu=>by
   have:=cz j' u hu
   rwa [Nat.zero_add] at this
  have ae:j+news.length<=s:=by rw[aa];omega
  have r:j+news.length<=d.size:=by omega
  have f:=mN w g (aR d.toList j news).toArray;have av:Own.ok (w.setRow g (aR d.toList j news).toArray) (.row (.slice (some ⟨g,0,none⟩) s cr) e 1 s (aR xs j news)):=by
   refine⟨?_,.inr ⟨g,cr,_,rfl,bo,setRow_heap w g d _ e _ hg,bl,bk,?_,?_⟩⟩
   ·rw[fU _ _ _ (by rw[hx];exact ae),hx,Nat.mul_one]
   ·have:(aR d.toList j news).length=d.size:=by rw[fU _ _ _ (by simpa using r)];simp
    simp[this,ab]
   ·rw[Nat.mul_one,List.toList_toArray,<-p];apply abq;intro q;have bp:j+news.length<=d.toList.length:=by simpa using r
    rw[iY (by rw[aa9];simp;omega)]
    by_cases hn:q<s
    ·rw[List.getElem?_take_of_lt hn,iY bp,List.getElem?_take_of_lt hn]
    ·rw[aa0 (by simp;omega)];have h1:¬q<j:=by omega
     have h2:¬q<j+news.length:=by omega
     rw[vv h1,vv h2,aa0 (by simp;omega)]
  have aw:St F (L.set k (.row (.slice (some ⟨g,0,none⟩) s cr) e 1 s (aR xs j news))) (w.setRow g (aR d.toList j news).toArray) :=
   hs.turn hk av (fun b ag bz=>f.block b ag (fun e=>bz (by rw[e];rfl))) (fun g' ao=>.inl ao)
  refine gP he hd (v:=.int .i64 (min m n:Nat)) (x:=.v (.int .i64 (min m n:Nat))) ?_ aw ?_ rfl bY dV (am _) hK
  ·rw[bc undef,cA,Nat.zero_add];have:=run_copy_row P w t t' o.type e g j n cd cp m cx d e news ht az hg aa ba r h1;have cM:(d.toList.take j++news++d.toList.drop (j+news.length)).toArray=(aR d.toList j news).toArray:=rfl;rw[cM] at this;simp[this,goInt,aa]
  ·refine⟨aF.le_refl F,rfl,rfl,rfl,f.size,fun b ag hn=>f.block b ag (fun e=>hn ⟨k,_,hk,by rw[e];rfl⟩),fun b h=>.inl h,fun b h=>?_⟩;rcases Loc.aal h with h | h
   ·exact .inl ⟨k,_,hk,h⟩
   ·exact .inl h
end
open Go.ChangeMaps (setBlock)
theorem Az {cs:List Value}(h:og cs=true):iW cs=.map (bB cs 0).toArray cs.length:=by
 unfold iW;split
 ·simp[og] at h
 ·rfl
theorem vZ:∀{cs:List Value}{i:Nat},(bB cs i).length=cs.length
 | [],_=>rfl
 | c::cs,i=>by simp[bB,vZ (cs:=cs)]
theorem nC:∀(v:Value) (i:Nat),(hU v i).born=i:=by
 intro v i;unfold hU;split<;>rfl
theorem qU:∀{cs:List Value}{i j:Nat},(bB cs i)[j]?=(cs[j]?).map fun v=>hU v (i+j)
 | [],_,_=>by simp[bB]
 | c::cs,i,0=>by simp[bB]
 | c::cs,i,j+1=>by
  simp only[bB,aby,qU (cs:=cs)];rw[show i+1+j=i+(j+1) by omega]
def kindOf:Bool->TypeDesc
 | false=>.int .i64
 | true=>.string
theorem FU (s t:ByteArray):(s == t)=decide (s.data.toList=t.data.toList):=by
 have:(s == t)=(s.data == t.data):=rfl;rw[this,Bool.eq_iff_iff];simp[Array.toList_inj]
theorem x7 {str:Bool}{a b:Value}{r:Bool}(h:gD str a b=some r):Instr.sameNow (kindOf str) a b=some r:=by
 unfold gD at h;split at h
 ·injection h with h;subst h;simp[kindOf,Instr.sameNow,beq_dec']
 ·injection h with h
  subst h;rename_i s t;simp only[kindOf,Instr.sameNow,FU]
 ·cases h
where beq_dec':∀{a b:Int},(a == b)=decide (a=b):=by intro a b;rw[Bool.eq_iff_iff];simp
theorem MZ {str:Bool}{a b:Value}(h:gD str a b=some true):a=b:=by
 unfold gD at h;split at h
 ·simp only[w7,abw] at h;rw[h]
 ·simp only[w7,abw] at h;rename_i s t;cases s;cases t;simp only[Value.string.injEq,ByteArray.mk.injEq];exact Array.ext' h
 ·cases h
theorem M0 {str:Bool}{a b:Value}{r:Bool}(h:gD str a b=some r):∀n,Instr.sameBits n a a=true:=by
 intro n;unfold gD at h;split at h
 ·cases n<;>simp[Instr.sameBits]
 ·cases n<;>simp[Instr.sameBits,FU]
 ·cases h
theorem o9 {str:Bool}{key:Value}:∀{cs:List Value}{i:Nat}{o:Option (Nat×Value)},nk str key cs i=some o->Instr.findNow (kindOf str) key (bB cs i) i=some o
 | [],i,o,h=>by simp only[nk] at h;simpa[bB,Instr.findNow] using h
 | c::cs,i,o,h=>by
  unfold nk at h;split at h
  ·rename_i b;cases b
  ·rename_i k v l j b;injection b with e1 e2
   subst e1 e2;simp only[bB,hU,Instr.findNow];split at h
   ·rename_i d;rw[x7 d];exact h
   ·rename_i d;rw[x7 d];exact o9 h
   ·cases h
  ·cases h
theorem AA {str:Bool}{key val:Value}(m:gD str key key=some true):∀{cs cs':List Value}{i:Nat},xR str key val cs=some cs' ->
  (∃j v,nk str key cs i=some (some (i+j,v))/\j<cs.length/\((bB cs i)[j]?.map (·.key))=some key/\bB cs' i=(bB cs i).modify j (fun e=>{e with key:=key,val:=val})/\cs'.length=cs.length) \/
  (nk str key cs i=some none/\cs'=cs++[.agg #[key,val]])
 | [],cs',i,h=>by
  simp only[xR,w7] at h;subst h;exact .inr ⟨rfl,rfl⟩
 | c::cs,cs',i,h=>by
  unfold xR at h;split at h
  ·rename_i b;cases b
  ·rename_i k v l b;injection b with e1 e2
   subst e1 e2;split at h
   ·rename_i d;injection h with h
    subst h;refine .inl ⟨0,v,by simp only[nk,d,Nat.add_zero],by simp,?_,?_,rfl⟩
    ·simp[bB,hU,(MZ d).symm]
    ·simp[bB,hU]
   ·rename_i d;split at h
    case h_2=>cases h
    rename_i t p;injection h with h
    subst h;rcases AA m (i:=i+1) p with⟨j,u,f,n,q,s,r⟩ | ⟨f,n⟩
    ·refine .inl ⟨j+1,u,?_,by simp;omega,by simpa[bB] using q,by simp[bB,s],by simp[r]⟩;simp only[nk,d];rw[f,show i+1+j=i+(j+1) by omega]
    ·refine .inr ⟨?_,by rw[n];rfl⟩;simp only[nk,d];exact f
   ·cases h
  ·cases h
theorem EO {str:Bool}{key val:Value}{cs cs':List Value}(h:xR str key val cs=some cs'):og cs'=true:=by
 unfold xR at h;split at h
 ·injection h with h;subst h;rfl
 ·split at h
  ·injection h with h;subst h;rfl
  ·split at h
   ·injection h with h;subst h;rfl
   ·cases h
  ·cases h
 ·cases h
section
variable {P:Program}{F:aF}{L:Loc}{ρ:Env}{a:Act}{w:World}{K:dm}{o:Oper}{Q:Exit->Act->World->Prop}
theorem vk (d:St F L w) {k g:Nat}{cs:List Value}(b:L.get k=some (.box g 0 cs)) (c:og cs=true):w.heap[g]?=some (.map (bB cs 0).toArray cs.length):=by
 have h:=d.own k _ b;simp only[Own.ok,mC] at h;rw[Az c] at h;exact h
theorem M5 {str:Bool}{key:TypeId}{kv:Value}(b:P.underlying key=some (kindOf str)) (c:gD str kv kv=some true) (e:Bool):(Instr.checkKey e 10000 key kv).run P w=.ok () w:=by
 rw[show(10000:Nat)=9999+1 from rfl,Instr.checkKey];simp only[Sem.run_bind,run_underlying b,Result.andThen_ok];cases str<;>simp[kindOf,Sem.run_pure]
theorem EP {str:Bool}{key:TypeId}{kv:Value}(b:P.underlying key=some (kindOf str)) (e:Bool):(Instr.checkKey e 10000 key kv).run P w=.ok () w:=by
 rw[show(10000:Nat)=9999+1 from rfl,Instr.checkKey];simp only[Sem.run_bind,run_underlying b,Result.andThen_ok];cases str<;>simp[kindOf,Sem.run_pure]
theorem uq {str:Bool}{key:TypeId}{kv:Value}{es:List MapEntry}{o:Option (Nat×Value)}(b:P.underlying key=some (kindOf str)) (h:Instr.findNow (kindOf str) kv es 0=some o):(Instr.findKey key kv es).run P w=.ok o w:=by
 simp only[Instr.findKey,Sem.run_bind,run_underlying b,Result.andThen_ok,h,Sem.run_pure]
theorem Jw {t:TypeId}(p:St F L w) (n:aJ L ρ a) (f:∀k,o.dst=some k->k<a.tmps.size) (l:o.op=.makeMap t none)
  (b:evalOp P .mkmap o.dst F L ρ K):o.wp P a w (bC F L w a K) Q:=by
 simp only[evalOp] at b;split at b
 case h_2=>exact b.elim
 rename_i _ k c;split at b
 case h_2=>exact b.elim
 rename_i _ d;have b:=b w.heap.size;obtain⟨m,j,h⟩:=nA p d (ob:=.map #[] 0) (e:=.box w.heap.size 0 []) rfl (by show _=_;rw[ia];rfl);refine gP n f (v:=.map (some w.heap.size)) (x:=.v (.map (some w.heap.size))) ?_ m j rfl bY dV h b;simp[execOp,l,run_makeMap]
theorem C5 {str ok:Bool}{t key e:TypeId}{y z:Operand}{y' p:X}{j:TypeInfo}{u:Value}(n:St F L w) (h:aJ L ρ a) (hd:∀k,o.dst=some k->k<a.tmps.size)
  (ho:o.op=.lookup t y z ok) (ht:P.underlying t=some (.map key e)) (b:P.underlying key=some (kindOf str)) (hi:P.info? e=some j) (hz:j.zero=some u) (hy:bG y=some y') (l:bG z=some p)
  (c:evalOp P (.mlook str ok u y' p) o.dst F L ρ K):o.wp P a w (bC F L w a K) Q:=by
 have ey:=aL hy h;have x:=aL l h;simp only[evalOp,aN] at c;split at c
 case h_2=>exact c.elim
 rename_i g hm;obtain⟨k,cs,hk,s,c⟩:=c;have hg:=vk n hk s;have f:(getObj g).run P w=.ok (.map (bB cs 0).toArray cs.length) w:=by simp[getObj,Sem.run,hg]
 have d:=EP (w:=w) (kv:=val L ρ p) b (bB cs 0).toArray.isEmpty;rcases c.out with⟨i,v,q,m⟩ | ⟨q,m⟩
 ·have r:=uq (P:=P) (w:=w) b (o9 q);refine bR n h hd ?_ rfl bY dV m;simp only[execOp,ho,ey,x,bN hm,Instr.lookup,Sem.run_bind,run_underlying ht,Result.andThen_ok,f,Sem.run_pure,d,r];cases ok<;>simp[Sem.run_pure,conc]
 ·have r:=uq (P:=P) (w:=w) b (o9 q);refine bR n h hd ?_ rfl bY dV m;simp only[execOp,ho,ey,x,bN hm,Instr.lookup,Sem.run_bind,run_underlying ht,Result.andThen_ok,f,Sem.run_pure,d,r];cases ok<;>simp[Sem.run_pure,zeroValue,typeInfo,run_program,hi,hz,conc]
theorem M6 {t key e:TypeId}{y:Operand}{l:X}{c:Call}(j:St F L w) (m:aJ L ρ a) (u:∀k,o.dst=some k->k<a.tmps.size)
  (ho:o.op=.call c) (r:c.callee=.builtin .len) (ha:c.args=#[y]) (f:c.argTypes=#[t]) (ht:P.underlying t=some (.map key e)) (n:bG y=some l)
  (b:evalOp P (.mlen l) o.dst F L ρ K):o.wp P a w (bC F L w a K) Q:=by
 have q:=aL n m;simp only[evalOp,aN] at b;split at b
 case h_2=>exact b.elim
 rename_i g p;obtain⟨k,cs,s,h,b⟩:=b;have z:=vk j s h;have d:(getObj g).run P w=.ok (.map (bB cs 0).toArray cs.length) w:=by simp[getObj,Sem.run,z]
 refine bR j m u (v:=.int .i64 cs.length) (x:=.v (.int .i64 cs.length)) ?_ rfl bY dV b;simp[execOp,ho,resolve,r,ha,f,invoke,builtin,Builtin.len_,q,bN p,run_underlying ht,goInt,d,vZ]
theorem FV (r:St F L w) {k g:Nat}{cs cs':List Value}(d:L.get k=some (.box g 0 cs)):St F (L.set k (.box g 0 cs')) (setBlock w g (iW cs'))/\Step F L w F (L.set k (.box g 0 cs')) (setBlock w g (iW cs')) /\
  (∀j f ty xs,L.get j=some (.box f ty xs)->∃l,(L.set k (.box g 0 cs')).get j=some (.box f ty l)):=by
 have q:g<w.heap.size:=Own.aaq (r.own k _ d) rfl;have c:∀b,b≠g->(setBlock w g (iW cs')).heap[b]?=w.heap[b]?:=fun b hb=>by
  show(w.heap.setIfInBounds g (iW cs'))[b]?=_;rw[Array.getElem?_setIfInBounds,vv (fun e=>hb e.symm)]
 have m:w.heap.size<=(setBlock w g (iW cs')).heap.size:=by show _<=(w.heap.setIfInBounds g (iW cs')).size;simp
 refine⟨r.turn d ?_ (fun b hb n=>c b fun e=>n (by rw[e];rfl)) (fun f p=>.inl p),⟨aF.le_refl F,rfl,rfl,rfl,m,fun b hb t=>c b fun e=>t ⟨k,_,d,by rw[e];rfl⟩,fun b h=>.inl h,fun b h=>?_⟩,fun j f ty xs e=>?_⟩
 ·show(w.heap.setIfInBounds g (iW cs'))[g]?=_;rw[Array.getElem?_setIfInBounds,o6 rfl,o6 q];rfl
 ·rcases Loc.aal h with h | h
  ·exact .inl ⟨k,_,d,h⟩
  ·exact .inl h
 ·rw[Loc.aac];split
  ·rename_i s;subst s;rw[d] at e;injection e with e
   injection e with e1 e2 e3
   subst e1 e2;exact⟨_,rfl⟩
  ·exact⟨xs,e⟩
theorem zP {str:Bool}{t key e:TypeId}{g:Nat}{kv p:Value}{cs cs':List Value}(x:P.underlying t=some (.map key e)) (d:P.underlying key=some (kindOf str))
  (u:w.heap[g]?=some (.map (bB cs 0).toArray cs.length)) (b:gD str kv kv=some true) (h:xR str kv p cs=some cs') :
  (Instr.mapUpdate t (.map (some g)) kv p).run P w=.ok () (setBlock w g (iW cs')):=by
 have m:(getObj g).run P w=.ok (.map (bB cs 0).toArray cs.length) w:=by simp[getObj,Sem.run,u]
 have k:∀o',(setObj g o').run P w=.ok () (setBlock w g o'):=fun o'=>by simp[setObj,Sem.run,u,setBlock]
 have f:=M5 (P:=P) (w:=w) (str:=str) (kv:=kv) d b false;rw[Az (EO h)];rcases AA b (i:=0) h with⟨j,v,q,s,z,h4,h5⟩ | ⟨q,s⟩
 ·have r:=uq (P:=P) (w:=w) d (o9 q);have n:(((bB cs 0).toArray[0+j]?).map (·.key)).getD kv=kv:=by
   rw[Nat.zero_add];simp only[List.getElem?_toArray];rw[z];rfl
  simp only[Instr.mapUpdate,Sem.run_bind,run_underlying x,Result.andThen_ok,m,f,r,n,Instr.keyThatStays,M0 b,abd,Sem.run_pure,k];rw[h4,h5,Nat.zero_add];congr 3;apply Array.ext';simp
 ·have r:=uq (P:=P) (w:=w) d (o9 q);simp only[Instr.mapUpdate,Sem.run_bind,run_underlying x,Result.andThen_ok,m,f,r,k];subst s;congr 3
  ·apply Array.ext';have:∀(l:List Value) (i:Nat),bB (l++[.agg #[kv,p]]) i=bB l i++[{key:=kv,val:=p,born:=i+l.length}]:=by
    intro l
    induction l with
    | nil=>intro i;simp[bB,hU]
    | cons c l y=>intro i;simp only[aaV,bB,y,aaW];rw[show i+1+l.length=i+(l.length+1) by omega]
   simp[this]
  ·simp
theorem wZ {str:Bool}{t key e:TypeId}{y z u:Operand}{r n p:X}(m:St F L w) (f:aJ L ρ a) (hd:∀k,o.dst=some k->k<a.tmps.size)
  (d:o.op=.mapUpdate t y z u\/o.op=.insert t y z u) (ht:P.underlying t=some (.map key e)) (l:P.underlying key=some (kindOf str)) (v:bG y=some r) (hz:bG z=some n) (hu:bG u=some p)
  (b:evalOp P (.mupd str r n p) o.dst F L ρ K):o.wp P a w (bC F L w a K) Q:=by
 have ey:=aL v f;have x:=aL hz f;have eu:=aL hu f;simp only[evalOp] at b;split at b
 case h_2=>exact b.elim
 rename_i g hm;obtain⟨k,cs,q,j,b⟩:=b;obtain⟨h,cs',c,b⟩:=b;have hg:=vk m q j;obtain⟨h1,s,h3⟩:=FV m q (cs':=cs');refine ul f hd (w':=setBlock w g (iW cs')) ?_ h1 s h3 b;have hr:=zP (w:=w) ht l hg h c;rcases d with d | d<;>simp[execOp,d,ey,x,eu,bN hm,hr]
theorem Hz {t key e:TypeId}{y:Operand}{l:X}(j:St F L w) (m:aJ L ρ a) (z:∀k,o.dst=some k->k<a.tmps.size)
  (ho:o.op=.range t y) (ht:P.underlying t=some (.map key e)) (p:bG y=some l) (b:evalOp P (.mrange l) o.dst F L ρ K):o.wp P a w (bC F L w a K) Q:=by
 have r:=aL p m;simp only[evalOp] at b;split at b
 case h_2=>exact b.elim
 rename_i _ g k q h;split at b
 case h_2=>exact b.elim
 rename_i _ u;obtain⟨km,cs,d,f,b⟩:=b;have hg:=vk j d f;have c:(getObj g).run P w=.ok (.map (bB cs 0).toArray cs.length) w:=by simp[getObj,Sem.run,hg]
 have b:=b w.heap.size;obtain⟨s,n,h3⟩:=nA j u (ob:=.mapIter (some g) cs.length #[] cs.length) (e:=.box w.heap.size 0 [.tuple #[.map (some g),.int .i64 cs.length]]) rfl (by show _=_;rw[ia];simp[mC,iW]);refine gP m z (v:=.pointer (some ⟨w.heap.size,0,none⟩)) (x:=.own k 0) ?_ s n ?_ ?_ (fun _ _ e=>by cases e) h3 b
 ·simp[execOp,ho,Instr.range,r,bN q,run_underlying ht,c]
 ·simp only[conc,Loc.aac,abd]
 ·rintro k' off e;injection e with e1 e2
  subst e1;exact⟨_,_,_,by rw[Loc.aac,o6 rfl]⟩
theorem Jy {y:Operand}{y':X}(t:St F L w) (he:aJ L ρ a) (hd:∀k,o.dst=some k->k<a.tmps.size)
  (ho:o.op=.next y false) (hy:bG y=some y') (r:evalOp P (.mnext y') o.dst F L ρ K):o.wp P a w (bC F L w a K) Q:=by
 have ey:=aL hy he;simp only[evalOp] at r;split at r
 case h_2=>exact r.elim
 rename_i k hm;split at r
 case h_2=>exact r.elim
 rename_i gi g n b hk;obtain⟨km,cs,ar,ax,u,p,ac⟩:=r.out;have hg:=vk t ar ax;have al:w.heap[gi]?=some (.mapIter (some g) n (b.map jM).toArray n):=by
  have h:=t.own k _ hk;simp only[Own.ok,mC,iW] at h;exact h
 have s:a.eval y=.pointer (some ⟨gi,0,none⟩):=by rw[ey];simp only[val,hm,conc,hk]
 have ad:∀x∈(bB cs 0).toArray.toList,x.born<n:=by
  intro x hx;simp only[List.toList_toArray] at hx;obtain⟨j,d⟩:=abf.1 hx;rw[qU] at d;cases m:cs[j]? with
  | none=>rw[m] at d;cases d
  | some v =>
   rw[m] at d;simp only[abF,w7] at d;rw[<-d,nC];have:=(xD.1 m).1;omega
 rcases run_next_at (P:=P) w o.type gi g n n (b.map jM).toArray (bB cs 0).toArray cs.length al hg ad (aa8 _) with⟨h0,c⟩ | ⟨e,l,w1,ab,c⟩
 ·refine bR t he hd (v:=.tuple #[.bool false]) (x:=.v (.tuple #[.bool false])) ?_ rfl bY dV (ac fun j d=>?_)
  ·simp only[execOp,ho,s,Sem.run_bind,c,Result.andThen_ok,Sem.run_pure]
  ·have m:∃v,cs[j]?=some v:=⟨cs[j]'(by omega),w8 (by omega)⟩;obtain⟨v,m⟩:=m;have ap:(bB cs 0)[j]?=some (hU v (0+j)):=by rw[qU,m];rfl
   have q:hU v (0+j)∈bB cs 0:=aaS ap;apply Classical.byContradiction;intro f;have z:hU v (0+j)∈(leftOf (bB cs 0).toArray (b.map jM).toArray).toList:=by
    unfold leftOf;simp only[Array.toList_filter,List.mem_filter,q,true_and];rw[nC];simpa using f
   have h2:(leftOf (bB cs 0).toArray (b.map jM).toArray)=#[]:=Array.eq_empty_of_size_eq_zero h0;rw[h2] at z;cases z
 ·unfold leftOf at l;simp only[Array.toList_filter,List.mem_filter] at l;obtain⟨q,f⟩:=l;obtain⟨j,d⟩:=abf.1 q;rw[qU] at d;cases m:cs[j]? with
  | none=>rw[m] at d;cases d
  | some v =>
   rw[m] at d;simp only[abF,w7,Nat.zero_add] at d;subst d;rw[nC] at c f;have ao:j∉b.map jM:=by simpa using f
   have an:=p j v m ao;have ag:St F L w1:=by rcases ab with rfl | rfl;exact t;exact t.drew
   obtain⟨z,h2,h3⟩:=FV ag hk (cs':=.tuple #[.map (some g),.int .i64 n]::(b++[.int .i64 j]));have ay:Step F L w F L w1:=by
    rcases ab with rfl | rfl
    ·exact Step.refl _ _ _
    ·exact⟨aF.le_refl F,rfl,rfl,rfl,aa8 _,fun _ _ _=>rfl,fun _ h=>.inl h,fun _ h=>.inl h⟩
   have aa:iW (.tuple #[.map (some g),.int .i64 n]::(b++[.int .i64 j]))=.mapIter (some g) n ((b.map jM).toArray.push j) cs.length:=by
    simp[iW,jM,u]
   rw[aa] at z h2;refine gP he hd (v:=.tuple #[.bool true,(hU v j).key,(hU v j).val]) (x:=.v (.tuple #[.bool true,(hU v j).key,(hU v j).val])) ?_ z (ay.trans h2) rfl bY dV h3 an;simp only[execOp,ho,s,Sem.run_bind,c,Result.andThen_ok,Sem.run_pure]
theorem HA {y:Operand}{y':X}(hs:St F L w) (he:aJ L ρ a) (hd:∀k,o.dst=some k->k<a.tmps.size)
  (ho:o.op=.entry y) (hy:bG y=some y') (p:evalOp P (.mentry y') o.dst F L ρ K):o.wp P a w (bC F L w a K) Q:=by
 have ey:=aL hy he;simp only[evalOp] at p;split at p
 case h_2=>exact p.elim
 rename_i k hm;split at p
 case h_2=>exact p.elim
 rename_i gi g n d hk;obtain⟨km,cs,j,e,ag,al,s,b,hj,aa⟩:=p.out;have hg:=vk hs ag al;have q:w.heap[gi]?=some (.mapIter (some g) n (d.map jM).toArray n):=by
  have h:=hs.own k _ hk;simp only[Own.ok,mC,iW] at h;exact h
 have ac:a.eval y=.pointer (some ⟨gi,0,none⟩):=by rw[ey];simp only[val,hm,conc,hk]
 have m:∃l,d=l++[.int .i64 (.ofNat j)]:=by
  have t:d≠[]:=by rintro rfl;simp at b
  refine⟨d.dropLast,?_⟩;rw[List.getLast?_eq_some_getLast t] at b;injection b with b
  rw[<-b];exact(List.dropLast_concat_getLast t).symm
 obtain⟨l,rfl⟩:=m;have z:(bB cs 0)[j]?=some (hU e j):=by rw[qU,hj];simp
 have f:(hU e j).born=j:=nC e j;have ae:((bB cs 0).toArray.toList.map (·.born)).Nodup:=by
  have:∀(cs:List Value) (i:Nat),(bB cs i).map (·.born)=List.range' i cs.length:=by
   intro cs
   induction cs with
   | nil=>intro i;rfl
   | cons c cs ih=>intro i;simp[bB,nC,ih,List.range'_succ]
  simp only[List.toList_toArray,this];exact List.nodup_range' ..
 have u:((l++[Value.int .i64 (.ofNat j)]).map jM).toArray=(l.map jM).toArray.push (hU e j).born:=by
  rw[f];simp[jM]
 rw[u,<-s] at q;have r:=run_entry_at (P:=P) w gi g cs.length (l.map jM).toArray (bB cs 0).toArray cs.length (hU e j) q hg (by simpa using aaS z) ae;refine bR hs he hd (v:=.tuple #[(hU e j).key,(hU e j).val]) (x:=.v (.tuple #[(hU e j).key,(hU e j).val])) ?_ rfl bY dV aa;simp only[execOp,ho,ac,Sem.run_bind,r,Result.andThen_ok,Sem.run_pure]
end
section
variable {P:Program}{F:aF}{L:Loc}{ρ:Env}{a:Act}{w:World}{K:dm}{o:Oper}{Q:Exit->Act->World->Prop}
theorem EQ {zs:List Value}{l:List (Nat×Nat×X)}(h:(l.all fun p=>Nat.ble (p.1+p.2.1) zs.length)=true):∀off n x,(off,n,x)∈l->off+n<=zs.length:=by
 intro off n x b;have:=aa1.1 h _ b;exact aa3 this
set_option maxHeartbeats 1000000 in
theorem fK {own:Bool}{s:eY}(hs:St F L w) (he:aJ L ρ a) (hd:∀k,o.dst=some k->k<a.tmps.size) (j:iX P own o.op=some s)
  (q:evalOp P s o.dst F L ρ K):o.wp P a w (bC F L w a K) Q:=by
 cases ho:o.op<;>rw[ho] at j<;>simp only[iX] at j<;>try (cases j;done)
 case move y =>
  split at j
  case h_2=>cases j
  rename_i x hx;injection j with j;subst j
  exact Jg hs he hd (.inl ho) hx q
 case assign y =>
  split at j
  case h_2=>cases j
  rename_i x hx;injection j with j;subst j
  exact Jg hs he hd (.inr ho) hx q
 case pick c y z =>
  split at j
  case h_2=>cases j
  rename_i l m p;injection j with j;subst j
  exact ME hs he hd ho l m p q
 case box t y =>
  split at j
  case h_2=>cases j
  rename_i l ap;have ap:=abu ap;injection j with j
  cases own
  ·subst j;exact Q8 hs he hd ho l ap q
  ·subst j;exact MG hs he hd ho l q
 case alloc t =>
  split at j
  case h_2=>cases j
  rename_i l ap;have ap:=abu ap;split at j
  case h_2=>cases j
  rename_i m;injection j with j;subst j
  exact Jh hs he hd ho l m ap q
 case buildSlice t n ps =>
  split at j
  case h_2=>cases j
  rename_i l m;split at j
  case h_2=>cases j
  rename_i p;split at j
  case h_2=>cases j
  rename_i h4 h5 h6;have h4:=aa7 h4;have h5:=aa7 h5;injection j with j
  cases own
  ·subst j;exact Q9 hs he hd ho l p h6 m h4 h5.1 q
  ·subst j;exact Ra hs he hd ho l p h6 m h4 h5.1 h5.2 q
 case build t ps =>
  split at j
  case h_2=>cases j
  rename_i l m;split at j
  case h_2=>cases j
  rename_i p h4;split at j
  case h_2=>cases j
  rename_i h5 h6;injection j with j;subst j
  exact Ji hs he hd ho l m p h4 (fun f hf=>aa1.1 h5 f hf) (EQ h6) q
 case load t y =>
  split at j
  ·rename_i d i x l m p;injection j with j
   refine MH (d:=d) (i:=i) (n:=match dX d with | true=>i.size | false=>1) hs he hd ho l m p rfl ?_;cases aE:dX d<;>simp only[aE] at j ⊢<;>subst j<;>exact q
  ·rename_i l m p;cases y with
   | global g =>
    simp only[Ao] at j;split at j
    ·rename_i h4;injection j with j;subst j
     exact C0 hs he hd ho l m rfl h4 q
    ·cases j
   | tmp n=>cases j
   | const v=>cases j
   | func f=>cases j
  ·rename_i l m p;split at j
   case h_2=>injection j with j;subst j;exact False.elim q
   rename_i h4;injection j with j;subst j
   cases y with
   | global g =>
    simp only[Ao] at h4;split at h4
    ·rename_i h5;injection h4 with h4;subst h4
     exact C0 hs he hd ho l m rfl h5 q
    ·cases h4
   | tmp n=>cases h4
   | const v=>cases h4
   | func f=>cases h4
  ·injection j with j;subst j
   exact False.elim q
  ·cases j
 case lookup t y z ok =>
  split at j
  ·split at j
   case h_2=>cases j
   rename_i l m p;split at j
   case h_2=>cases j
   rename_i h4 h5;split at j
   case h_2=>cases j
   rename_i h6;injection j with j;subst j
   exact MT hs he hd ho l h4 h5 h6 m p q
  ·split at j
   case h_2=>cases j
   rename_i l m p;split at j
   case h_3=>cases j
   ·rename_i h4 h5;split at j
    case h_2=>cases j
    rename_i h6;injection j with j;subst j
    exact C5 (str:=false) hs he hd ho l h4 h5 h6 m p q
   ·rename_i h4 h5;split at j
    case h_2=>cases j
    rename_i h6;injection j with j;subst j
    exact C5 (str:=true) hs he hd ho l h4 h5 h6 m p q
 case makeMap t r =>
  cases r with
  | none =>
   simp only[iX,w7] at j;subst j;exact Jw hs he hd ho q
  | some r=>simp only[iX] at j;cases j
 case mapUpdate t y z u =>
  split at j
  case h_2=>cases j
  rename_i l m p h4;split at j
  case h_3=>cases j
  ·rename_i h5;injection j with j;subst j
   exact wZ (str:=false) hs he hd (.inl ho) l h5 m p h4 q
  ·rename_i h5;injection j with j;subst j
   exact wZ (str:=true) hs he hd (.inl ho) l h5 m p h4 q
 case insert t y z u =>
  split at j
  case h_2=>cases j
  rename_i l m p h4;split at j
  case h_3=>cases j
  ·rename_i h5;injection j with j;subst j
   exact wZ (str:=false) hs he hd (.inr ho) l h5 m p h4 q
  ·rename_i h5;injection j with j;subst j
   exact wZ (str:=true) hs he hd (.inr ho) l h5 m p h4 q
 case range t y =>
  split at j
  case h_2=>cases j
  rename_i l m;injection j with j;subst j
  exact Hz hs he hd ho l m q
 case entry y =>
  split at j
  case h_2=>cases j
  rename_i l;injection j with j;subst j
  exact HA hs he hd ho l q
 case next y b =>
  cases b with
  | true=>simp only[iX] at j;cases j
  | false =>
   simp only[iX] at j;split at j
   case h_2=>cases j
   rename_i l;injection j with j;subst j
   exact Jy hs he hd ho l q
 case store t y z =>
  split at j
  case h_2=>cases j
  rename_i l m p;injection j with j;subst j
  exact Jt hs he hd ho l m p q
 case makeInterface t y =>
  split at j
  ·cases j
  ·rename_i d x l m p;injection j with j;subst j
   exact MQ hs he hd ho m l p q
  ·cases j
 case typeAssert y xt t ok =>
  cases ok with
  | false=>cases j
  | true =>
   simp only[] at j;split at j
   ·cases j
   ·rename_i d i x h4 l m p;split at j
    case h_2=>cases j
    rename_i h5;injection j with j;subst j
    exact Rn hs he hd ho l h4 m h5 p q
   ·cases j
 case panic y =>
  split at j
  case h_2=>cases j
  injection j with j;subst j
  exact q.elim
 case nilCheck y =>
  split at j
  case h_2=>cases j
  rename_i l m;injection j with j;subst j
  exact Js hs he hd ho l m q
 case binOp op t y z t' =>
  split at j
  case h_2=>cases j
  rename_i d x1 x2 l m p;split at j<;>first
   | (cases j;done)
   | (injection j with j;subst j;first
     | exact Jj (neg:=false) hs he hd ho l m p q
     | exact Jj (neg:=true) hs he hd ho l m p q
     | exact Jk (neg:=false) hs he hd ho l m p q
     | exact Jk (neg:=true) hs he hd ho l m p q
     | exact Jl (neg:=false) hs he hd ho l m p q
     | exact Jl (neg:=true) hs he hd ho l m p q
     | exact Jm (neg:=false) hs he hd ho l m p q
     | exact Jm (neg:=true) hs he hd ho l m p q
     | exact Rb hs he hd ho m p q)
   | (split at j
      case h_2=>cases j
      rename_i k1 k2 k3;injection j with j;subst j
      first
       | exact Jq (neg:=false) hs he hd ho l k1 k2 k3 m p q
       | exact Jq (neg:=true) hs he hd ho l k1 k2 k3 m p q)
   | (split at j
      case h_2=>cases j
      rename_i k1;injection j with j;subst j
      first
       | exact Jo (neg:=false) hs he hd ho l m p k1 q
       | exact Jo (neg:=true) hs he hd ho l m p k1 q)
 case unOp op t y =>
  split at j
  case h_2=>cases j
  rename_i l;injection j with j;subst j
  exact Tw hs he hd ho l q
 case convert s t y =>
  split at j
  case h_4=>cases j
  ·rename_i l m p;injection j with j;subst j
   exact MI hs he hd ho l m p q
  ·rename_i l m p;split at j
   case h_2=>cases j
   rename_i h4;injection j with j;subst j
   exact Rk hs he hd ho l m h4 p q
  ·rename_i l m p;split at j
   case h_2=>cases j
   rename_i h4;injection j with j;subst j
   exact Rs hs he hd ho l m h4 p q
 case makeFunc fn fi ca =>
  cases fn<;>simp only[] at j<;>try (cases j;done)
  ·split at j
   case h_2=>cases j
   rename_i l m;injection j with j;subst j
   exact MJ hs he hd ho l m q
  ·split at j
   case h_2=>cases j
   rename_i l m;injection j with j;subst j
   exact MR hs he hd ho l m q
  ·split at j
   case h_2=>cases j
   rename_i l m;injection j with j;subst j
   exact MS hs he hd ho l m q
 case makeSlice t y z =>
  split at j
  case h_2=>cases j
  rename_i l m p;split at j
  case h_2=>cases j
  rename_i h4;split at j
  case h_2=>cases j
  rename_i h5;split at j
  case h_2=>cases j
  rename_i h6 h7;injection j with j;subst j
  exact Ju hs he hd ho l h4 h5 (aa7 h6) (aa7 h7) m p q
 case slice t y lo up mx =>
  cases mx<;>simp only[] at j<;>try (cases j;done)
  split at j
  case h_3=>cases j
  ·rename_i l m p h4;split at j
   case h_2=>cases j
   rename_i h5;injection j with j;subst j
   exact Ro hs he hd ho l h5 m p h4 q
  ·rename_i l m p h4;injection j with j;subst j
   exact MV hs he hd ho l m p h4 q
 case fieldAddr t y f =>
  split at j
  case h_2=>cases j
  rename_i l m;split at j
  case h_2=>cases j
  rename_i p;split at j
  case h_2=>cases j
  rename_i h4;split at j
  case h_1=>cases j
  rename_i h5;injection j with j;subst j
  exact Hv hs he hd ho l p h4 (abu h5) m q
 case field t y f =>
  split at j
  case h_2=>cases j
  rename_i l m;split at j
  case h_2=>cases j
  rename_i p;split at j
  case h_2=>cases j
  rename_i d i h4 h5;refine Hu (n:=match dX d with | true=>i.size | false=>1) hs he hd ho l p h4 h5 m rfl ?_;cases aE:dX d<;>simp only[aE] at j ⊢<;>injection j with j<;>subst j<;>exact q
 case indexAddr t y z =>
  split at j
  case h_2=>cases j
  rename_i l m p;split at j
  case h_2=>cases j
  rename_i h4;injection j with j;subst j
  exact ML hs he hd ho l h4 m p q
 case index t y z =>
  split at j
  case h_2=>cases j
  rename_i l m p;injection j with j;subst j
  exact MN hs he hd ho l m p q
 case extract y i =>
  split at j
  case h_2=>cases j
  rename_i l;injection j with j;subst j
  exact MK hs he hd ho l q
 case call c =>
  split at j
  case h_1=>cases j
  rename_i args al;split at j
  ·rename_i f hc;split at j
   case h_2=>cases j
   split at j
   case h_2=>cases j
   injection j with j;subst j
   exact MY hs he hd ho hc al q
  ·rename_i y hc;split at j
   case h_2=>cases j
   rename_i l;injection j with j;subst j
   exact Jv hs he hd ho hc l al q
  ·rename_i n nm hc;injection j with j;subst j
   exact Rq hs he hd ho hc al q
  ·cases j
  ·rename_i b hc;have one:∀{x:X},args=[x]->∃y,c.args=#[y]/\bG y=some x:=by
    intro x e;subst e
    match az:c.args.toList,al with
    | [],h=>simp[hO] at h
    | [y],h =>
     refine⟨y,by apply Array.ext';simpa using az,?_⟩;simp only[hO] at h;split at h
     case h_2=>cases h
     rename_i l m;injection h with h
     injection h with h _
     rw[l,h]
    | y::z::r,h =>
     simp only[hO] at h;split at h
     case h_2=>cases h
     rename_i l m;injection h with h
     injection h with _ h
     subst h;split at m
     ·injection m with m;cases m
     ·cases m
   have be:∀{x x':X},args=[x,x']->∃y y',c.args=#[y,y']/\bG y=some x/\bG y'=some x':=by
    intro x x' e;subst e
    match az:c.args.toList,al with
    | [],h=>simp[hO] at h
    | [y],h =>
     simp only[hO] at h;split at h
     case h_2=>cases h
     rename_i l m;injection m with m
     injection h with h
     injection h with _ h
     rw[h] at m;cases m
    | [y,y'],h =>
     refine⟨y,y',by apply Array.ext';simpa using az,?_⟩;simp only[hO] at h;split at h
     case h_2=>cases h
     rename_i l m;injection h with h
     injection h with h h'
     split at m
     case h_2=>cases m
     rename_i p h4;injection m with m
     rw[<-m] at h';injection h' with h' _
     exact⟨by rw[l,h],by rw[p,h']⟩
    | y::z::u::r,h =>
     simp only[hO] at h;split at h
     case h_2=>cases h
     rename_i l m;injection h with h
     injection h with _ h
     subst h;split at m
     case h_2=>cases m
     rename_i p h4;injection m with m
     injection m with _ m
     subst m;split at h4
     ·injection h4 with h4;cases h4
     ·cases h4
   have ay:∀{t:TypeId},c.argTypes.toList=[t]->c.argTypes=#[t]:=fun e=>by apply Array.ext';simpa using e
   have ax:∀{t t':TypeId},c.argTypes.toList=[t,t']->c.argTypes=#[t,t']:=fun e=>by apply Array.ext';simpa using e
   split at j
   ·rename_i x t am;obtain⟨y,ha,hy⟩:=one rfl;split at j
    ·rename_i l;injection j with j;subst j
     exact Rl hs he hd ho hc ha (ay am) l hy q
    ·rename_i l;injection j with j;subst j
     exact MO hs he hd ho hc ha (ay am) l hy q
    ·rename_i l;injection j with j;subst j
     exact M6 hs he hd ho hc ha (ay am) l hy q
    ·cases j
   ·rename_i x t am;obtain⟨y,ha,hy⟩:=one rfl;split at j
    ·rename_i l;injection j with j;subst j
     exact MP hs he hd ho hc ha (ay am) l hy q
    ·cases j
   ·injection j with j;subst j
    exact P3 (mx:=true) hs he hd ho hc al q
   ·injection j with j;subst j
    exact P3 (mx:=false) hs he hd ho hc al q
   ·rename_i x x' t t' am;obtain⟨y,y',ha,hy,ar⟩:=be rfl;split at j
    ·rename_i l m;split at j
     case h_2=>cases j
     rename_i p;split at j
     case h_2=>cases j
     rename_i h4;split at j
     case h_2=>cases j
     rename_i h5 h6 h7;have h5:=aa7 h5;subst h5;injection j with j;subst j
     exact Rp hs he hd ho hc ha (ax am) l p h4 (aa7 h6) (aa7 h7) hy ar q
    ·rename_i l m;split at j
     case h_2=>cases j
     rename_i p;split at j
     case h_2=>cases j
     rename_i h4;split at j
     case h_2=>cases j
     rename_i h5 h6 h7;have h5:=aa7 h5;subst h5;injection j with j;subst j
     exact MW hs he hd ho hc ha (ax am) l m p h4 (aa7 h6) (aa7 h7) hy ar q
    ·rename_i l m;split at j
     case h_2=>cases j
     rename_i p;split at j
     case h_2=>cases j
     rename_i h4;split at j
     case h_2=>cases j
     rename_i h5 h6;have h5:=aa7 h5;subst h5;injection j with j;subst j
     exact MX hs he hd ho hc ha (ax am) l m p h4 (aa7 h6) hy ar q
    ·cases j
   ·rename_i x x' t t' am;obtain⟨y,y',ha,hy,ar⟩:=be rfl;split at j
    ·rename_i l m;split at j
     case h_2=>cases j
     rename_i p;split at j
     case h_2=>cases j
     rename_i h5 h6;injection j with j;subst j
     exact FT hs he hd ho hc ha (ax am) l p (aa7 h6) hy ar q
    ·rename_i l m;split at j
     case h_2=>cases j
     rename_i p;split at j
     case h_2=>cases j
     rename_i h6;injection j with j;subst j
     exact FT hs he hd ho hc ha (ax am) l p (aa7 h6) hy ar q
    ·cases j
   ·cases j
end
structure cF where
 n:Nat
 own:List Nat:=[]
 frz:List (Nat×Nat×List Nat):=[]
 ord:List (Nat×List Nat×List (List Nat)):=[]
 co:List Nat:=[]
 pan:List (Nat×Nat):=[]
 bx:List Nat:=[]
 fl:List Nat:=[]
 px:List Nat:=[]
 bk:List (Nat×Nat):=[]
def v9:List (Nat×Nat)->Nat->Nat->Bool
 | [],_,_=>false
 | (r,i)::l,c,b=>match Nat.beq r c&&Nat.beq i b with | true=>true | false=>v9 l c b
def oH (b:Bool) (d:Option Nat) (s:eY) (g:Option (Nat×Bool)):aB:=match b with | true=>.pc d s g | false=>.op d s g
def cF.owned (A:cF):Option Nat->Bool
 | some d=>gI A.own d
 | none=>false
def cF.isO (A:cF):Option Nat->Bool
 | some d=>gI A.co d
 | none=>gI A.co 999999
def cF.isX (A:cF):Option Nat->Bool
 | some d=>gI A.px d
 | none=>gI A.px 999999
def Jz:List (Nat×Nat×List Nat)->Nat->Nat->List Nat
 | [],_,_=>[]
 | (r,i,ks)::l,c,b=>match Nat.beq r c&&Nat.beq i b with | true=>ks | false=>Jz l c b
def JA:List (Nat×List Nat×List (List Nat))->Nat->Option (List Nat×List (List Nat))
 | [],_=>none
 | (r,is)::l,b=>match Nat.beq r b with | true=>some is | false=>JA l b
def ur (l:List (Nat×List Nat×List (List Nat))) (r:Nat):List Nat:=match JA l r with | some (is,_)=>is | none=>[]
def iZ (c:Array Oper):Option (Nat×Bool)->Option (Option (Nat×Bool))
 | none=>some none
 | some (j,b)=>match(c[j]?).bind (·.dst) with
  | some d=>some (some (d,b))
  | none=>none
def P4 (n:Nat):Option Nat->Bool
 | none=>true
 | some d=>Nat.blt d n
def qV (P:Program) (A:cF) (r:Nat) (b:Array Oper):List Nat->Option (List aB)
 | []=>some []
 | i::is=>match b[i]? with
  | none=>none
  | some o=>match iZ b o.guard,iX P (A.owned o.dst) o.op,P4 A.n o.dst,qV P A r b is with
   | some g,some s,true,some c=>some ((Jz A.frz r i).map .frz++oH (v9 A.pan r i) o.dst s g::c)
   | _,_,_,_=>none
section
variable {P:Program}{F:aF}{L:Loc}{ρ:Env}{a:Act}{w:World}{K:dm}{Q:Exit->Act->World->Prop}
def fw (n:Nat) (F:aF) (L:Loc) (w:World) (a:Act) (asg:List Nat) (K:dm) (b:Act) (w':World):Prop :=
 ∃F' L' ρ',St F' L' w'/\aJ L' ρ' b/\b.tmps.size=n/\b.defers=a.defers/\Step F L w F' L' w'/\(∀j,j∉asg->b.tmps.getD j undef=a.tmps.getD j undef)/\K F' L' ρ'
theorem pq {k:Nat}{KK:aF->Loc->Prop}(z:St F L w) (he:aJ L ρ a) (h:P2 F L k KK):∃F' L',St F' L' w/\aJ L' ρ a/\Step F L w F' L' w/\KK F' L':=by
 obtain⟨v,t,sz,n,xs,hk,hK⟩:=h;have d:=z.own k _ hk;simp only[Own.ok] at d;have m:=z.part (Loc.aaA L k);have q:aJ (L.del k) ρ a:=by
  have hb:∀j g ty cs,L.get j=some (.box g ty cs)->(L.del k).get j=some (.box g ty cs):=by
   intro j g ty cs e;rw[Loc.aai];split
   ·rename_i hj;subst hj;rw[hk] at e;cases e
   ·exact e
  refine⟨fun j=>?_,fun j s off e=>?_,he.el⟩
  ·rw[he.eq j];cases e:ρ j with
   | v x=>rfl
   | el x y=>rfl
   | own s off =>
    obtain⟨g,ty,cs,c⟩:=he.own j s off e;simp only[conc,c,hb s g ty cs c]
  ·obtain⟨g,ty,cs,c⟩:=he.own j s off e;exact⟨g,ty,cs,hb s g ty cs c⟩
 have ad:∀g,v.ownBlock=some g->¬(L.del k).owns g:=by
  rintro g c ⟨j,p,e,hb⟩;rw[Loc.aai] at e;split at e
  ·cases e
  ·rename_i hj;exact hj (z.sep j k p _ g e hk hb c)
 obtain⟨hx,f⟩:=d;rcases f with⟨rfl,rfl⟩ | ⟨g,cap,ag,rfl,ao,c,al,ap,ar,l⟩
 ·refine⟨F,L.del k,m,q,⟨aF.le_refl F,rfl,rfl,rfl,aa8 _,fun _ _ _=>rfl,fun b h=>.inl h,fun b h=>.inl (Loc.aat h)⟩,hK F (aF.le_refl F) (.inl ⟨rfl,rfl,abh (by simpa using hx)⟩)⟩
 ·have r:=aF.aas z c;refine⟨_,L.del k,m.freeze c (ad g rfl),q,⟨r,rfl,rfl,rfl,aa8 _,fun _ _ _=>rfl,fun b h=>?_,fun b h=>.inl (Loc.aat h)⟩,hK _ r (.inr ⟨⟨g,0,none⟩,cap,rfl,⟨_,ag,t,(0,0),rfl,o6 rfl,rfl,fun i u hu=>?_⟩,al⟩)⟩
  ·by_cases o:b=g
   ·subst o;exact .inr (.inl ⟨k,_,hk,rfl⟩)
   ·simp only[vv o] at h;exact .inl h
  ·rw[<-l,abo] at hu;split at hu
   ·exact⟨by simpa using hu,ud _⟩
   ·cases hu
theorem tC {k g:Nat}{t:TypeId}{cs:List Value}(m:St F L w) (z:aJ L ρ a) (n:L.get k=some (.box g t cs)) :
  ∃F',F.le F'/\F' g=some (mC t cs)/\St F' (L.del k) w/\aJ (L.del k) (xT k g ρ) a/\Step F L w F' (L.del k) w:=by
 have s:=m.own k _ n;simp only[Own.ok] at s;have o:=m.part (Loc.aaA L k);have l:=aF.aas m s;have q:¬(L.del k).owns g:=by
  rintro⟨j,p,e,hb⟩;rw[Loc.aai] at e;split at e
  ·cases e
  ·rename_i hj;exact hj (m.sep j k p _ g e n hb rfl)
 refine⟨_,l,o6 rfl,o.freeze s q,⟨fun j=>?_,fun j k' off e=>?_,fun j ad i e=>?_⟩,⟨l,rfl,rfl,rfl,aa8 _,fun _ _ _=>rfl,fun b h=>?_,fun b h=>.inl (Loc.aat h)⟩⟩
 ·rw[z.eq j];simp only[xT];cases e:ρ j with
  | v x=>rfl
  | el x y=>rfl
  | own k' off =>
   simp only[];cases hb:Nat.beq k' k with
   | true =>
    have:=v8 hb;subst this;simp only[conc,n]
   | false =>
    have c:k'≠k:=fun e=>by rw[e] at hb;simp at hb
    simp only[conc];rw[Loc.aai,vv c]
 ·simp only[xT] at e;split at e
  ·rename_i u f r;cases hb:Nat.beq u k with
   | true=>rw[hb] at e;cases e
   | false =>
    rw[hb] at e;injection e with e3 e4
    subst e3;have c:u≠k:=fun e=>by rw[e] at hb;simp at hb
    rw[Loc.aai,vv c];exact z.own j u f r
  ·cases e
  ·cases e
 ·simp only[xT] at e;split at e
  ·split at e<;>cases e
  ·cases e
  ·rename_i a2 i2 r;injection e with h1 h2
   subst h1;exact z.el j _ _ r
 ·by_cases d:b=g
  ·subst d;exact .inr (.inl ⟨k,_,n,rfl⟩)
  ·simp only[vv d] at h;exact .inl h
theorem rX {s:Nat}{b:Bool}(h:a.tmps.getD s undef=.bool b):a.tmps[s]?=some (.bool b):=by
 rw[abg] at h;cases e:a.tmps[s]? with
 | none=>rw[e] at h;simp[undef] at h
 | some v=>rw[e] at h;simp at h;rw[h]
theorem lU {ρ:Env}{s:Nat}{v:Value}(h:ρ s=.v v):put (some s) (.v v) ρ=ρ:=by
 funext t
 rw[put_eq];simp only[];split
 ·rename_i b;subst b;exact h.symm
 ·rfl
def dstsOf (b:Array Oper):List Nat->List Nat
 | []=>[]
 | i::is=>match(b[i]?).bind (·.dst) with | some d=>d::dstsOf b is | none=>dstsOf b is
theorem lf {d:Option Nat}{v:Value}{j:Nat}(h:d≠some j):(a.put d v).tmps.getD j undef=a.tmps.getD j undef:=by
 cases d with
 | none=>rfl
 | some k =>
  simp only[Act.put,abg,Array.getElem?_setIfInBounds];rw[vv (by intro e;exact h (by rw[e]))]
theorem qW {o:Oper}{asg:List Nat}{KK:Act->World->Prop}(b:o.wp P a w KK Q) :
  o.wp P a w (fun f w'=>KK f w'/\∀j,o.dst≠some j->f.tmps.getD j undef=a.tmps.getD j undef) Q:=by
 unfold Oper.wp at b ⊢;generalize(execOp a.eval o).run P w=r at b ⊢;cases r with
 | ok k w' =>
  cases k<;>simp only[Oper.upon] at b ⊢<;>first
   | exact⟨b,fun j h=>lf h⟩
   | exact Calls.mono b (fun e d c=>by cases e<;>first | exact⟨c,fun j h=>lf h⟩ | exact c)
   | exact Rows.mono b (fun v d c=>⟨c,fun j h=>lf h⟩)
 | halt x w'=>cases x<;>simp only[Oper.upon] at b ⊢<;>exact b
theorem vn {c:Code}(I:Nat->Act->World->Prop) (v:∃n,I n a w)
  (q:∀n a w,I n a w->c.wp P (Exit.then (fun s w'=>∃m,m<n/\I m s w') Q) a w):(Code.loop c).wp P Q a w:=by
 intro b k cs;have key:∀n a w,I n a w->∃e s w',Q e s w'/\Arrives P (lone (b.at a (.code c::.inLoop c::k)) cs w) b k cs e s w':=by
  intro n
  induction n using Nat.strongRecOn with
  | _ n ih =>
   intro a w hI;obtain⟨e,h,f,o,d⟩:=q n a w hI b (.inLoop c::k) cs;cases e with
   | normal =>
    obtain⟨m,z,p⟩:=o;obtain⟨y,u,t,r,j⟩:=ih m z h f p;exact⟨y,u,t,r,.of_steps (Steps.trans d (.one step_inLoop)) j⟩
   | exit id=>exact⟨_,h,f,o,.pass (x:=.inLoop c) rfl (fun _ _=>.inl (by simp)) d⟩
   | goto l=>exact⟨_,h,f,o,.pass (x:=.inLoop c) rfl (fun _ _=>.inl (by simp)) d⟩
   | ret=>exact⟨_,h,f,o,.pass (x:=.inLoop c) rfl (fun _ _=>.inl (by simp)) d⟩
   | panic ch=>exact⟨_,h,f,o,.pass (x:=.inLoop c) rfl (fun _ _=>.inl (by simp)) d⟩
   | outgrown=>exact⟨_,h,f,o,.pass (x:=.inLoop c) rfl (fun _ _=>.inl (by simp)) d⟩
 obtain⟨n,hI⟩:=v;obtain⟨e,s,w',o,d⟩:=key n a w hI;exact⟨e,s,w',o,.of_steps (.one step_loop) d⟩
theorem m7:∀{L L':Loc},L.keeps L'->∀{k g t cs},L.get k=some (.box g t cs)->∃cs',L'.get k=some (.box g t cs')
 | [],L',_,k,g,t,cs,e=>by cases e
 | (j,.box d c cs')::l,L',h,k,g,t,cs,e=>by
  simp only[Loc.keeps] at h;simp only[Loc.get] at e;split at e
  ·rename_i b;have:=v8 b;subst this;injection e with e
   injection e with e1 e2 e3
   subst e1 e2;exact h.1
  ·exact m7 h.2 e
 | (j,.row ..)::l,L',h,k,g,t,cs,e=>by
  simp only[Loc.keeps] at h;simp only[Loc.get] at e;split at e
  ·cases e
  ·exact m7 h e
theorem m8 {L:Loc}:∀{L':Loc},L.gives L'->∀{k o},L'.get k=some o->L.get k=some o\/(L.get k=none/\∃t sz,o=.row (.slice none 0 0) t sz 0 [])
 | [],_,k,o,e=>by cases e
 | (j,p)::l,h,k,o,e=>by
  simp only[Loc.gives] at h;simp only[Loc.get] at e;split at e
  ·rename_i b;have:=v8 b;subst this;injection e with e
   subst e;exact h.1
  ·exact m8 h.2 e
theorem St.gives {L':Loc}(b:St F L w) (h:L.gives L'):St F L' w:=by
 refine⟨b.frz,fun k o e=>?_,fun k o g e hb=>?_,fun k m o o' g e j hb c=>?_,b.glob⟩
 ·rcases m8 h e with d | ⟨_,t,sz,rfl⟩
  ·exact b.own k o d
  ·exact World.ownsRow_nil w 0 t sz
 ·rcases m8 h e with d | ⟨_,t,sz,rfl⟩
  ·exact b.off k o g d hb
  ·cases hb
 ·rcases m8 h e with d | ⟨_,t,sz,rfl⟩<;>rcases m8 h j with f | ⟨_,n,l,rfl⟩
  ·exact b.sep k m o o' g d f hb c
  ·cases c
  ·cases hb
  ·cases hb
theorem tD {L':Loc}(h:L.gives L'):Step F L w F L' w :=
 ⟨aF.le_refl F,rfl,rfl,rfl,aa8 _,fun _ _ _=>rfl,fun b h=>.inl h,fun b ⟨k,o,e,hb⟩=>by
  rcases m8 h e with c | ⟨_,t,sz,rfl⟩
  ·exact .inl ⟨k,o,c,hb⟩
  ·cases hb⟩
theorem dn:∀{l:List Nat}{k:Nat},gI l k=true↔k∈l
 | [],k=>by simp[gI]
 | j::l,k=>by
  simp only[gI];split
  ·rename_i h;have:=v8 h;subst this;simp
  ·rename_i h;have:=gh h;rw[dn];simp only[aaQ];constructor
   ·exact .inr
   ·rintro(h | h)
    ·exact p7 h.symm this
    ·exact h
theorem ku:∀(b:List Nat) (vs:List Value) (ρ:Env) (j:Nat),(puts b (vs.map .v) ρ j=ρ j)\/∃v,puts b (vs.map .v) ρ j=.v v
 | [],vs,ρ,j=>.inl rfl
 | k::b,[],ρ,j=>.inl rfl
 | k::b,v::vs,ρ,j=>by
  simp only[aaU,puts,put_eq];split
  ·exact .inr ⟨v,rfl⟩
  ·exact ku b vs ρ j
theorem tE {L:Loc}:∀(c:List Nat) (vs:List Value) (ρ b:Env) {a:Act},(∀t,a.tmps.getD t undef=conc L (ρ t))->holds c (vs.map .v) ρ->∀j,(∃v,puts c (vs.map .v) b j=.v v/\a.tmps.getD j undef=v)\/puts c (vs.map .v) b j=b j
 | [],vs,ρ,b,a,d,h,j=>.inr rfl
 | k::c,[],ρ,b,a,d,h,j=>.inr rfl
 | k::c,v::vs,ρ,b,a,d,h,j=>by
  simp only[aaU,holds] at h;simp only[aaU,puts,put_eq];split
  ·rename_i e;subst e;exact .inl ⟨v,rfl,by rw[d,h.1];rfl⟩
  ·exact tE c vs ρ b d h.2 j
end
end Go.Fr
