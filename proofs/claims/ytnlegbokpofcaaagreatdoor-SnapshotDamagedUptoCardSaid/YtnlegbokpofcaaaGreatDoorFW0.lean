/- Part of the proofs of the statements of this seat. -/
import Derived.Orders
import Derived.Below
import Derived.Laws.OwnMore
import Derived.Maps.AppendAt
import Derived.WalkKit
import Derived.KernelRfl
import Derived.Lib.AppendStr
import Derived.Laws.BytesString
import Derived.Laws.StructEq
import Derived.Lib.AppendZeros
import Derived.ArgAppend
import Derived.Laws.CopyRow
import Derived.Laws.IdiomCopy
import Derived.Carry
import Derived.Maps.RangeRun
set_option maxRecDepth 10000
set_option linter.unusedVariables false
set_option linter.unusedSimpArgs false
namespace Go.Fr
open Go Go.RowKit
abbrev eu:=@if_pos
abbrev j3:=@congrArg
abbrev o4:=@absurd
abbrev o6:=@if_neg
abbrev vv:=@Nat.eq_of_beq_eq_true
abbrev vz:=@Option.some.injEq
abbrev v7:=@List.getElem?_eq_getElem
abbrev w7:=@List.getElem?_eq_some_iff
abbrev w8:=@List.mem_append
abbrev xo:=@Bool.and_eq_true
abbrev xC:=@List.mem_cons
abbrev yo:=@List.length_append
abbrev aaQ:=@List.mem_of_getElem?
abbrev aaR:=@List.append_assoc
abbrev aaS:=@List.map_cons
abbrev aaT:=@List.cons_append
abbrev aaU:=@List.append_nil
abbrev aaV:=@List.length_cons
abbrev aaW:=@List.getElem?_append_left
abbrev aaX:=@Bool.false_eq_true
abbrev aaY:=@List.getElem?_eq_none
abbrev aaZ:=@List.all_eq_true
abbrev aa0:=@List.getElem?_cons_zero
abbrev aa1:=@Nat.le_of_ble_eq_true
abbrev aa2:=@List.getElem?_append_right
abbrev aa3:=@List.length_map
abbrev aa4:=@of_decide_eq_true
abbrev aa5:=@List.nil_append
abbrev aa6:=@List.length_take
abbrev aa7:=@Nat.le_refl
abbrev aa8:=@List.mem_cons_of_mem
abbrev aa9:=@if_true
abbrev abb:=@List.length_nil
abbrev abd:=@List.mem_iff_getElem?
abbrev abe:=@Int.le_refl
abbrev abf:=@Array.getD_eq_getD_getElem?
abbrev abg:=@List.eq_nil_of_length_eq_zero
abbrev abh:=@List.mem_map
abbrev abj:=@List.getElem?_drop
abbrev abk:=@Nat.zero_le
abbrev abl:=@Bool.or_eq_true
abbrev abm:=@List.getElem?_take
abbrev abn:=@if_false
abbrev abo:=@decide_eq_true_eq
abbrev abp:=@List.ext_getElem?
abbrev abq:=@Bool.and_false
abbrev abr:=@List.getElem?_map
abbrev abt:=@of_decide_eq_false
abbrev abu:=@List.mem_singleton
abbrev abv:=@List.take_of_length_le
abbrev abw:=@List.length_replicate
abbrev abx:=@List.getElem?_cons_succ
abbrev aby:=@Bool.false_ne_true
abbrev abz:=@Nat.le_trans
abbrev abA:=@List.length_drop
abbrev abB:=@List.replicate_succ
abbrev abC:=@List.getElem?_eq_none_iff
abbrev abD:=@List.drop_eq_getElem_cons
abbrev abE:=@Option.map_some
abbrev abF:=@List.map_map
abbrev abG:=@Bool.true_and
abbrev abH:=@List.map_congr_left
abbrev abI:=@List.map_nil
abbrev abJ:=@Bool.false_and
abbrev abK:=@List.getElem?_set_ne
abbrev abL:=@Nat.lt_succ_self
abbrev abM:=@Bool.and_true
abbrev abN:=@Int.toNat_natCast
abbrev abO:=@Nat.lt_of_lt_of_le
abbrev aD:=Nat->Option Obj
def aD.le (F G:aD):Prop:=∀b o,F b=some o->G b=some o
theorem aD.le_refl (F:aD):F.le F:=fun _ _ h=>h
theorem aD.le_trans {F G H:aD}(h:F.le G) (k:G.le H):F.le H:=fun b o e=>k b o (h b o e)
def pE:Nat:=2 ^ 64
def QL:Nat->Value
 | 0=>.slice none 0 0
 | m+1=>.slice (some ⟨m / (pE*pE),0,none⟩) (m / pE % pE) (m % pE)
def jK (k:Nat) (F:aD) (v:Value):Prop:=(k=0/\v=.nilIface)\/∃m,k=m+1/\v=QL m
theorem jK.mono {k:Nat}{F G:aD}{v:Value}(h:F.le G) (r:jK k F v):jK k G v:=r
theorem jK.one {k:Nat}{F:aD}{v:Value}(r:jK k F v):v.oneCell'=true:=by
 rcases r with⟨_,rfl⟩ | ⟨m,_,rfl⟩
 ·rfl
 ·cases m<;>rfl
theorem Bd {F:aD}:jK 0 F .nilIface:=.inl ⟨rfl,rfl⟩
def IX:Nat->Option Nat
 | 0=>none
 | 1=>some 0
 | m+2=>some (m / pE % pE)
theorem Ms {F:aD}{k n:Nat}{v:Value}(h:jK k F v) (e:IX k=some n):∃a c,v=.slice a n c:=by
 rcases h with⟨rfl,_⟩ | ⟨m,rfl,rfl⟩
 ·cases e
 ·cases m with
  | zero=>injection e with e;subst e;exact⟨none,0,rfl⟩
  | succ m=>injection e with e;subst e;exact⟨_,_,rfl⟩
def sM (F:aD):Prop:=True
theorem sM.mono {F G:aD}(h:F.le G) (g:sM F):sM G:=g
def wD (g:Nat):Option Nat:=none
theorem IY {F:aD}{g k:Nat}(h:sM F) (e:wD g=some k):∃v t a,F g=some (.cells #[v] t a)/\jK k F v:=by cases e
def wE (k:Nat) (n:Int):Option (Int×Bool):=none
theorem IZ {F:aD}{k:Nat}{v:Value}{n r:Int}{b:Bool}(h:jK k F v) (e:wE k n=some (r,b)) :
  ∃m es a,v=.map (some m)/\F m=some (.map es a)/\es.isEmpty=false /\
   ∃o,Instr.findNow (.int .i64) (.int .i64 n) es.toList 0=some o/\((b=true/\∃i,o=some (i,.int .i64 r))\/(b=false/\r=0/\o=none)):=by cases e
theorem CD {k:Nat}{n r:Int}{b:Bool}(e:wE k n=some (r,b)):(Lit.int .i64 r).wf=true:=by cases e
def Et (k:Nat):Option Bool:=match k with | 0=>some true | _=>none
theorem I0 {F:aD}{k:Nat}{v:Value}{b:Bool}(h:jK k F v) (e:Et k=some b):(b=true->v=.nilIface)/\(b=false->∃t u,v=.iface t u):=by
 unfold Et at e;split at e
 case h_2=>cases e
 injection e with e;subst e
 refine⟨fun _=>?_,fun e=>by cases e⟩;rcases h with h | ⟨m,h,_⟩
 ·exact h.2
 ·cases h
def Mt:Bool:=false
def Hg:List (TypeId×String):=[(102,"leasehold/snapshot.num"),(102,"leasehold/snapshot.size"),(86,"leasehold/snapshot.num"),(86,"leasehold/snapshot.size"),(123,"leasehold/snapshot.num"),(123,"leasehold/snapshot.size")]
inductive SV where
 | v (x:Value)
 | own (k off:Nat)
 | el (a:Option Addr) (j:Nat)
 deriving Inhabited
inductive Own where
 | box (g:Nat) (t:TypeId) (cs:List Value)
 | row (v:Value) (t:TypeId) (sz n:Nat) (xs:List Value)
def Own.blk:Own->Option Nat
 | .box g _ _=>some g
 | .row v _ _ _ _=>v.ownBlock
abbrev Loc:=List (Nat×Own)
def Loc.get:Loc->Nat->Option Own
 | [],_=>none
 | (j,o)::l,k=>match Nat.beq j k with | true=>some o | false=>Loc.get l k
def Loc.set:Loc->Nat->Own->Loc
 | [],k,o=>[(k,o)]
 | (j,p)::l,k,o=>match Nat.beq j k with
  | true=>(k,o)::l
  | false=>match Nat.ble j k with
   | true=>(j,p)::Loc.set l k o
   | false=>(k,o)::(j,p)::l
def Loc.del:Loc->Nat->Loc
 | [],_=>[]
 | (j,o)::l,k=>match Nat.beq j k with | true=>Loc.del l k | false=>(j,o)::Loc.del l k
abbrev Env:=Nat->SV
def put (d:Option Nat) (v:SV) (ρ:Env):Env :=
 match d with
 | some d=>fun j=>match Nat.beq j d with | true=>v | false=>ρ j
 | none=>ρ
def conc (L:Loc):SV->Value
 | .v x=>x
 | .own k off=>match L.get k with | some (.box g _ _)=>.pointer (some ⟨g,off,none⟩) | _=>undef
 | .el a j=>match a with | some ad=>.pointer (some (ad.add j)) | none=>undef
def gO:Value->Nat->MapEntry
 | .agg ⟨[k,v]⟩,i=>{key:=k,val:=v,born:=i}
 | v,i=>{key:=v,val:=v,born:=i}
def ju:Value->Nat
 | .int _ n=>n.toNat
 | _=>0
def bf:List Value->Nat->List MapEntry
 | [],_=>[]
 | v::l,i=>gO v i::bf l (i+1)
def iC:List Value->Obj
 | .tuple ⟨[.map (some m),.int .i64 n]⟩::a=>.mapIter (some m) n.toNat (a.map ju).toArray n.toNat
 | es=>.map (bf es 0).toArray es.length
def lT:TypeId->List Value->Obj
 | 0,cs=>iC cs
 | t+1,cs=>.cells cs.toArray (t+1) (0,0)
theorem ij {t:TypeId}(h:t≠0) (cs:List Value):lT t cs=.cells cs.toArray t (0,0):=by
 cases t with
 | zero=>exact o4 rfl h
 | succ t=>rfl
def Own.ok (w:World):Own->Prop
 | .box g t cs=>w.heap[g]?=some (lT t cs)
 | .row v t sz n xs=>w.ownsRow 0 t sz v n xs
structure St (F:aD) (L:Loc) (w:World):Prop where
 frz:∀b o,F b=some o->w.heap[b]?=some o
 own:∀k o,L.get k=some o->o.ok w
 off:∀k o g,L.get k=some o->o.blk=some g->F g=none
 sep:∀k k' o o' g,L.get k=some o->L.get k'=some o'->o.blk=some g->o'.blk=some g->k=k'
 glob:sM F
def Loc.owns (L:Loc) (b:Nat):Prop:=∃k o,L.get k=some o/\o.blk=some b
structure Step (F:aD) (L:Loc) (w:World) (F':aD) (L':Loc) (w':World):Prop where
 le:F.le F'
 os:w'.os=w.os
 tape:w'.tape=w.tape
 output:w'.output=w.output
 size:w.heap.size<=w'.heap.size
 same:∀b,b<w.heap.size->¬L.owns b->w'.heap[b]?=w.heap[b]?
 frz:∀b,F' b≠none->F b≠none\/L.owns b\/w.heap.size<=b
 own:∀b,L'.owns b->L.owns b\/w.heap.size<=b
def pF (a:Nat×Nat) (i:Nat):Prop:=¬(a.1<=i/\i<a.2)
theorem tN (i:Nat):pF (0,0) i:=fun h=>by cases h.2
def bU (F:aD) (a:Option Addr) (j:Nat) (cs:List Value):Prop :=
 ∃b c t d,a=some b/\F b.block=some (.cells c t d)/\b.spot=none/\∀(i:Nat) (v:Value),cs[i]?=some v->c[b.off+j+i]?=some v/\pF d (b.off+j+i)
def kV:Nat->List Own->Loc
 | _,[]=>[]
 | k,o::l=>(k,o)::kV (k+1) l
def inp (l:List Own):Loc:=kV 1000 l
structure CallsA (P:Program) (f:FuncId) (args:Array Value) (F:aD) (Lin:List Own) (R:aD->List Own->Value->Prop):Prop where
 ent:∃fn,P.funcs[f]?=some fn/\fn.body.isSome=true/\(fn.name == "runtime.NumGoroutine")=false
 mono:∀F G L v,F.le G->R F L v->R G L v
 run:∀w,St F (inp Lin) w->Calls P f args w fun e w'=>∃v F' Lo,e=.returned v/\St F' (inp Lo) w'/\Step F (inp Lin) w F' (inp Lo) w'/\R F' Lo v
def Em (v:Value) (b:List PanicEntry):Prop:=∃a,b={v,recovered:=false}::a/\∀e∈a,e.goexit=false
theorem Em.one (v:Value):Em v [{v,recovered:=false}]:=⟨[],rfl,fun e h=>by cases h⟩
structure uZ (P:Program) (f:FuncId) (args:Array Value) (F:aD) (Lin:List Own) (R:aD->List Own->Value->Prop) (Pp:Value->Prop):Prop where
 ent:∃fn,P.funcs[f]?=some fn/\fn.body.isSome=true/\(fn.name == "runtime.NumGoroutine")=false
 mono:∀F G L v,F.le G->R F L v->R G L v
 run:∀w,St F (inp Lin) w->Calls P f args w fun e w'=>(∃v F' Lo,e=.returned v/\St F' (inp Lo) w'/\Step F (inp Lin) w F' (inp Lo) w'/\R F' Lo v) \/
  ∃v ch F' Lo,e=.panicked ch/\Em v ch/\St F' (inp Lo) w'/\Step F (inp Lin) w F' (inp Lo) w'/\Lo.length=Lin.length/\(∀(i:Nat) g t cs,Lin[i]?=some (.box g t cs)->∃cs',Lo[i]?=some (.box g t cs'))/\Pp v
theorem CallsA.toX {P:Program}{f:FuncId}{args:Array Value}{F:aD}{Lin:List Own}{R:aD->List Own->Value->Prop}{Pp:Value->Prop}(h:CallsA P f args F Lin R):uZ P f args F Lin R Pp :=
 ⟨h.ent,h.mono,fun w a=>(h.run w a).mono fun _ _ k=>.inl k⟩
structure wF (P:Program) (f:FuncId) (args:Array Value) (F:aD) (Lin:List Own) (R:aD->List Own->Value->Prop) (Pp:aD->List Own->Value->Prop):Prop where
 ent:∃fn,P.funcs[f]?=some fn/\fn.body.isSome=true/\(fn.name == "runtime.NumGoroutine")=false
 mono:∀F G L v,F.le G->R F L v->R G L v
 run:∀w,St F (inp Lin) w->Calls P f args w fun e w'=>(∃v F' Lo,e=.returned v/\St F' (inp Lo) w'/\Step F (inp Lin) w F' (inp Lo) w'/\R F' Lo v) \/
  ∃v ch F' Lo,e=.panicked ch/\Em v ch/\St F' (inp Lo) w'/\Step F (inp Lin) w F' (inp Lo) w'/\Lo.length=Lin.length/\(∀(i:Nat) g t cs,Lin[i]?=some (.box g t cs)->∃cs',Lo[i]?=some (.box g t cs'))/\Pp F' Lo v
theorem uZ.toS {P:Program}{f:FuncId}{args:Array Value}{F:aD}{Lin:List Own}{R:aD->List Own->Value->Prop}{Pp:Value->Prop}(h:uZ P f args F Lin R Pp):wF P f args F Lin R (fun _ _=>Pp):=⟨h.ent,h.mono,h.run⟩
inductive X where
 | t (n:Nat)
 | c (v:Value)
 | fn (f:Nat)
 | mt (nm:String) (n:Nat)
 deriving Inhabited
def Tf (nm:String):SV->SV
 | .v x=>.v (.func (.method nm) #[x] #[])
 | .own _ _=>.v undef
 | .el _ _=>.v undef
def ev (ρ:Env):X->SV
 | .t n=>ρ n
 | .c v=>.v v
 | .fn f=>.v (.func (.func f) #[] #[])
 | .mt nm n=>Tf nm (ρ n)
def oI (P:Program) (t:TypeId) (nm:String):Option FuncId :=
 match P.info? t with
 | some i=>match i.methods.find? (·.name == nm) with
  | some m=>match m.path.toList,m.func with
   | [],some (f,a)=>match P.underlying t,a with
    | some (.pointer _),true=>some f
    | some (.pointer _),false=>none
    | some _,false=>some f
    | _,_=>none
   | _,_=>none
  | none=>none
 | none=>none
def PE:List (TypeId×String)->TypeId->String->Bool
 | [],_,_=>false
 | (t,nm)::l,b,a=>match Nat.beq t b,decide (nm=a) with | true,true=>true | _,_=>PE l b a
def PF (P:Program):Bool:=Hg.all fun x=>(oI P x.1 x.2).isSome
def mq (P:Program):SV->Option (Nat×List Value×List Value)
 | .v (.func (.func f) fi ca)=>some (f,fi.toList,ca.toList)
 | .v (.func (.method nm) fi ca)=>match fi.toList with
  | [.iface t u]=>match oI P t nm with
   | some f=>some (f,[u],[])
   | none=>none
  | _=>none
 | _=>none
def zW (P:Program) (f:SV) (args:List Value):Option (Nat×List Value) :=
 match f,args with
 | .v (.func (.methodOf t nm) ⟨[]⟩ _),.iface b u::a=>match P.underlying t with
  | some (.interface _)=>match oI P b nm with
   | some f=>some (f,u::a)
   | none=>none
  | _=>none
 | _,_=>none
def val (L:Loc) (ρ:Env) (x:X):Value:=conc L (ev ρ x)
inductive eH where
 | mov (x:X)
 | pick (c a b:X)
 | box (t:TypeId) (x:X)
 | boxF (t:TypeId) (x:X)
 | alloc (t:TypeId) (zs:List Value)
 | mkF (e:TypeId) (n sz:Nat) (xs:List X)
 | mkR (e:TypeId) (n sz:Nat) (xs:List X)
 | build (zs:List Value) (ps:List (Nat×Nat×X))
 | load (agg:Bool) (n:Nat) (x:X)
 | loadD (agg:Bool) (n:Nat) (x:X)
 | store (n:Nat) (a x:X)
 | nilck (x:X)
 | bin (op:BinOp) (x y:X)
 | eqB (neg:Bool) (x y:X)
 | eqP (neg:Bool) (x y:X)
 | eqS (neg:Bool) (x y:X)
 | eqF (neg:Bool) (x y:X)
 | eqN (neg:Bool) (x:X)
 | tas (t:TypeId) (z:Value) (x:X)
 | eqA (neg:Bool) (ks:List Bool) (x y:X)
 | un (op:UnOp) (x:X)
 | conv (k:IntKind) (x:X)
 | b2s (x:X)
 | s2b (e:TypeId) (x:X)
 | mkfn (f:Nat) (first cap:List X)
 | makeS (e:TypeId) (sz bytes:Nat) (zs:List Value) (l c:X)
 | slc (sz:Nat) (x:X) (lo hi:Option X)
 | slcS (x:X) (lo hi:Option X)
 | fieldA (off:Nat) (x:X)
 | fieldV (agg:Bool) (off n:Nat) (x:X)
 | idxA (sz:Nat) (x i:X)
 | idxS (x i:X)
 | extr (x:X) (i:Nat)
 | call (f:Nat) (args:List X)
 | callV (f:X) (args:List X)
 | callD (f:Nat) (args:List X)
 | boxD (t:TypeId) (x:X)
 | allocD (t:TypeId) (zs:List Value)
 | mkFD (e:TypeId) (n sz:Nat) (xs:List X)
 | callVD (f:X) (args:List X)
 | callO (f:Nat) (args:List X)
 | callVO (f:X) (args:List X)
 | len (x:X)
 | lenS (x:X)
 | capa (x:X)
 | mm (mx:Bool) (args:List X)
 | app (e:TypeId) (sz bytes:Nat) (zs:List Value) (s x:X)
 | appD (e:TypeId) (sz bytes:Nat) (zs:List Value) (s x:X)
 | storeD (n:Nat) (a x:X)
 | appX (e:TypeId) (sz bytes:Nat) (zs:List Value) (s x:X)
 | appS (e:TypeId) (s x:X)
 | appZ (e:TypeId) (bytes:Nat) (k:IntKind) (s x:X)
 | copy (e:TypeId) (sz:Nat) (d s:X)
 | mkif (t:TypeId) (x:X)
 | b2sD (x:X)
 | b2sR (x:X)
 | makeSD (e sz n:Nat) (zs:List Value)
 | makeSV (e sz b:Nat) (zs:List Value) (x:X)
 | loadK (key:Nat) (agg:Bool) (n:Nat) (x:X)
 | storeK (key n:Nat) (a x:X)
 | copyX (e:TypeId) (sz:Nat) (d s:X)
 | storeX (n:Nat) (a x:X)
 | pan (x:X)
 | gload (g:Nat)
 | look (x i:X)
 | mkmv (nm:String) (x:X)
 | loadF (agg:Bool) (n:Nat) (x:X)
 | loadR (agg:Bool) (n:Nat) (x:X)
 | mkmap
 | mlook (str ok:Bool) (z:Value) (x i:X)
 | mupd (str:Bool) (x i v:X)
 | mlen (x:X)
 | mrange (x:X)
 | mnext (x:X)
 | mentry (x:X)
 | dead
 deriving Inhabited
structure YN where
 dst:Option Nat
 op:eH
 guard:Option (Nat×Bool)
 deriving Inhabited
abbrev cQ:=aD->Loc->Env->Prop
def aP (cs:List Value) (off:Nat) (vs:List Value):List Value:=cs.take off++vs++cs.drop (off+vs.length)
structure Fit (k:IntKind) (n:Int) (K:Int->Prop):Prop where
 out:K (k.wrap n)
structure mr (n:Int) (K:Prop):Prop where
 ne:n≠0
 out:K
structure Mu (i:Int) (n:Int) (K:Prop):Prop where
 lo:0<=i
 hi:i<n
 out:K
structure FG (a:Option Addr) (i:Int) (n:Int) (K:Prop):Prop where
 ne:a≠none
 lo:0<=i
 hi:i<n
 out:K
structure jM (F:aD) (L:Loc) (a:Option Addr) (j n:Nat) (K:List Value->Prop):Prop where
 out:∃cs,cs.length=n/\(bU F a j cs\/(∃k v t sz m xs ad c,L.get k=some (.row v t sz m xs)/\a=some ad/\v=.slice (some ad) m c/\∀(i:Nat) (u:Value),cs[i]?=some u->xs[j+i]?=some u)\/n=0\/∃k g t bs o,L.get k=some (.box g t bs)/\t≠0/\a=some ⟨g,o,none⟩/\∀(i:Nat) (u:Value),cs[i]?=some u->bs[o+j+i]?=some u)/\K cs
structure Tg (F:aD) (g:Nat) (K:Value->Prop):Prop where
 out:∃v t fr,F g=some (.cells #[v] t fr)/\K v
structure iR (F:aD) (a:Option Addr) (j n:Nat) (K:List Value->Prop):Prop where
 out:∃cs,cs.length=n/\(bU F a j cs\/n=0)/\K cs
structure Be (L:Loc) (a:Option Addr) (j:Nat) (cs:List Value) (K:Loc->Prop):Prop where
 out:∃k v t sz m xs ad c,L.get k=some (.row v t sz m xs)/\a=some ad/\v=.slice (some ad) m c/\j+cs.length<=xs.length/\(∀u∈cs,u.oneCell'=true) /\
  K (L.set k (.row v t sz m (aP xs j cs)))
structure tO (F:aD) (L:Loc) (a:Option Addr) (j:Nat) (cs:List Value) (K:Loc->Prop):Prop where
 out:Be L a j cs K\/(bU F a j cs/\(∀u∈cs,u.oneCell'=true)/\K L)
def Loc.sub (L:Loc):List Nat->Option (List Own)
 | []=>some []
 | k::ks=>match L.get k,Loc.sub L ks with
  | some o,some l=>some (o::l)
  | _,_=>none
def Loc.aaf (L:Loc):List Nat->Loc
 | []=>L
 | k::ks=>Loc.aaf (L.del k) ks
def Loc.puts (L:Loc):List Nat->List Own->Loc
 | k::ks,o::l=>Loc.puts (L.set k o) ks l
 | _,_=>L
structure dz (P:Program) (f:Nat) (args:List Value) (F:aD) (L:Loc) (K:aD->Loc->Value->Prop):Prop where
 out:∃(ks ko:List Nat) (Lin:List Own) (R:aD->List Own->Value->Prop),L.sub ks=some Lin/\ks.Nodup/\ko.Nodup/\(∀k,k∈ko->k∈ks\/L.get k=none)/\CallsA P f args.toArray F Lin R /\
  ∀v F' Lo,F.le F'->R F' Lo v->ko.length=Lo.length /\
   (∀k g t cs,k∈ks->L.get k=some (.box g t cs)->∃cs',Loc.get ((L.aaf ks).puts ko Lo) k=some (.box g t cs')) /\
   K F' ((L.aaf ks).puts ko Lo) v
def Real (F:aD) (L:Loc):Prop:=∃w,St F L w
inductive eB (P:Program) (f:Nat) (args:List Value) (F:aD) (L:Loc) (d:Option Nat) (K:aD->Loc->Value->Prop):Prop
 | frz (R:aD->List Own->Value->Prop) (h:CallsA P f args.toArray F [] R) (k:∀v F' Lo,F.le F'->R F' Lo v->Lo=[]/\(Real F' L->K F' L v))
 | own (R:aD->List Own->Value->Prop) (k:Nat) (h:CallsA P f args.toArray F [] R) (hd:d=some k) (hk:L.get k=none)
   (kk:∀v F' Lo,F.le F'->R F' Lo v->∃o,Lo=[o]/\(Real F' (L.set k o)->K F' (L.set k o) v))
 | row (R:aD->List Own->Value->Prop) (kr:Nat) (rv:Value) (t:TypeId) (sz n:Nat) (xs:List Value) (h:CallsA P f args.toArray F [.row rv t sz n xs] R) (hk:L.get kr=some (.row rv t sz n xs))
   (kk:∀v F' Lo,F.le F'->R F' Lo v->Lo=[]/\(Real F' (L.set kr (.row (.slice none 0 0) t sz 0 []))->K F' (L.set kr (.row (.slice none 0 0) t sz 0 [])) v))
 | lent (R:aD->Value->Prop) (kr:Nat) (rv:Value) (t:TypeId) (sz n:Nat) (xs:List Value) (h:CallsA P f args.toArray F [.row rv t sz n xs] (fun F' Lo v=>Lo=[.row rv t sz n xs]/\R F' v)) (hk:L.get kr=some (.row rv t sz n xs))
   (kk:∀v F',F.le F'->R F' v->Real F' L->K F' L v)
structure FH (F:aD) (L:Loc) (e:TypeId) (sz bytes:Nat) (s x:Value) (K:Loc->Value->Prop):Prop where
 out:∃(kd:Nat) (n:Nat) (xs:List Value) (m:Nat) (news:List Value),
  (L.get kd=some (.row s e sz n xs)\/(L.get kd=none/\n=0/\xs=[]/\s=.slice none 0 0)\/(L.get kd=none/\∃ad,s=.slice (some ad) n n/\0<m/\xs.length=n*sz/\(bU F (some ad) 0 xs\/(n=0/\xs=[])))) /\
  (∃a c,x=.slice a m c/\news.length=m*sz/\(bU F a 0 news\/(m=0/\news=[]) \/
    ∃k v t sz' m' ys ad c',L.get k=some (.row v t sz' m' ys)/\a=some ad/\v=.slice (some ad) m' c'/\∀(i:Nat) (u:Value),news[i]?=some u->ys[i]?=some u)) /\
  (∀u∈news,u.oneCell'=true)/\n+m<=maxLen/\(n+m)*bytes<=140737488355328 /\
  ∀v,(∃a c,v=.slice a (n+m) c/\(a=none->n+m=0))->K (L.set kd (.row v e sz (n+m) (xs++news))) v
structure qx (F:aD) (L:Loc) (d:Option Nat) (e:TypeId) (sz bytes:Nat) (s x:Value) (K:Loc->Value->Prop):Prop where
 out:∃(kd:Nat) (n:Nat) (xs:List Value) (m:Nat) (news:List Value),
  (L.get kd=some (.row s e sz n xs)\/(d=some kd/\L.get kd=none/\n=0/\xs=[]/\s=.slice none 0 0) \/
   (d=some kd/\L.get kd=none/\∃ad,s=.slice (some ad) n n/\0<m/\xs.length=n*sz/\(bU F (some ad) 0 xs\/(n=0/\xs=[])))) /\
  (∃a c,x=.slice a m c/\news.length=m*sz/\(bU F a 0 news\/(m=0/\news=[]))) /\
  (∀u∈news,u.oneCell'=true)/\n+m<=maxLen/\(n+m)*bytes<=140737488355328 /\
  ∀v,(∃a c,v=.slice a (n+m) c/\(a=none->n+m=0))->Real F (L.set kd (.row v e sz (n+m) (xs++news)))->K (L.set kd (.row v e sz (n+m) (xs++news))) v
structure QM (L:Loc) (e:TypeId) (s:Value) (t:ByteArray) (K:Loc->Value->Prop):Prop where
 out:∃(kd:Nat) (n:Nat) (xs:List Value),
  (L.get kd=some (.row s e 1 n xs)\/(L.get kd=none/\n=0/\xs=[]/\s=.slice none 0 0)) /\
  n+t.size<=maxLen/\(n+t.size)<=140737488355328 /\
  ∀v,(∃a c,v=.slice a (n+t.size) c/\(a=none->n+t.size=0))->K (L.set kd (.row v e 1 (n+t.size) (xs++t.data.toList.map fun b=>Value.int .u8 b.toNat))) v
structure I3 (L:Loc) (e:TypeId) (bytes:Nat) (ki:IntKind) (s:Value) (m:Nat) (K:Loc->Value->Prop):Prop where
 out:∃(kd:Nat) (n:Nat) (xs:List Value),
  (L.get kd=some (.row s e 1 n xs)\/(L.get kd=none/\n=0/\xs=[]/\s=.slice none 0 0)) /\
  n+m<=maxLen/\(n+m)*bytes<=140737488355328 /\
  ∀v,(∃a c,v=.slice a (n+m) c/\(a=none->n+m=0))->K (L.set kd (.row v e 1 (n+m) (xs++List.replicate m (.int ki 0)))) v
structure Bf (F:aD) (L:Loc) (e:TypeId) (sz:Nat) (d x:Value) (K:Loc->Nat->Prop):Prop where
 out:(∃(k n:Nat) (v:Value) (nr:Nat) (xs:List Value) (ad:Addr) (cr cd j m:Nat) (a:Option Addr) (c:Nat) (news:List Value),
  L.get k=some (.row v e sz nr xs)/\v=.slice (some ad) nr cr/\d=.slice (some (ad.add (j*sz))) n cd/\j+n<=nr /\
  x=.slice a m c/\news.length=(min m n)*sz/\(bU F a 0 news\/(min m n=0/\news=[]))/\(∀u∈news,u.oneCell'=true) /\
  K (L.set k (.row v e sz nr (aP xs (j*sz) news))) (min m n)) \/
  ∃(da:Option Addr) (n cd:Nat) (a:Option Addr) (m c:Nat),d=.slice da n cd/\x=.slice a m c/\min m n=0/\K L 0
structure Mv (L:Loc) (e:TypeId) (d:Value) (t:ByteArray) (K:Loc->Nat->Prop):Prop where
 out:∃(k n:Nat) (v:Value) (nr:Nat) (xs:List Value) (ad:Addr) (cr cd j:Nat),
  L.get k=some (.row v e 1 nr xs)/\v=.slice (some ad) nr cr/\d=.slice (some (ad.add j)) n cd/\j+n<=nr /\
  K (L.set k (.row v e 1 nr (aP xs j ((t.data.toList.take n).map fun b=>Value.int .u8 b.toNat)))) (min t.size n)
structure Bg (cs:List Value) (K:List UInt8->Prop):Prop where
 out:∃bs:List UInt8,cs=bs.map (fun b=>Value.int .u8 b.toNat)/\K bs
structure Vq (L:Loc) (a:Option Addr) (n:Nat) (K:List UInt8->Prop):Prop where
 out:∃k t c,∃bs:List UInt8,L.get k=some (.row (.slice a n c) t 1 n (bs.map (fun b=>Value.int .u8 b.toNat)))/\bs.length=n/\(a=none->n=0)/\K bs
def nO:List Value->Bool
 | .tuple _::_=>false
 | _=>true
def fS:Bool->Value->Value->Option Bool
 | false,.int .i64 a,.int .i64 b=>some (decide (a=b))
 | true,.string a,.string b=>some (decide (a.data.toList=b.data.toList))
 | _,_,_=>none
def mT (str:Bool) (key:Value):List Value->Nat->Option (Option (Nat×Value))
 | [],_=>some none
 | .agg ⟨[k,v]⟩::l,i=>match fS str key k with
  | some true=>some (some (i,v))
  | some false=>mT str key l (i+1)
  | none=>none
 | _::_,_=>none
def xj (str:Bool) (key val:Value):List Value->Option (List Value)
 | []=>some [.agg #[key,val]]
 | .agg ⟨[k,v]⟩::l=>match fS str key k with
  | some true=>some (.agg #[key,val]::l)
  | some false=>match xj str key val l with | some l'=>some (.agg #[k,v]::l') | none=>none
  | none=>none
 | _::_=>none
structure CF (L:Loc) (g:Nat) (K:Nat->List Value->Prop):Prop where
 out:∃k cs,L.get k=some (.box g 0 cs)/\nO cs=true/\K k cs
structure FI (str:Bool) (cs:List Value) (key:Value) (ok:Bool) (z:Value) (K:Value->Prop):Prop where
 out:(∃i v,mT str key cs 0=some (some (i,v))/\K (match ok with | true=>.tuple #[v,.bool true] | false=>v))\/(mT str key cs 0=some none/\K (match ok with | true=>.tuple #[z,.bool false] | false=>z))
structure QN (str:Bool) (cs:List Value) (key val:Value) (K:List Value->Prop):Prop where
 isKey:fS str key key=some true
 out:∃cs',xj str key val cs=some cs'/\K cs'
structure QO (L:Loc) (k gi g n:Nat) (seen:List Value) (K:Loc->Value->Prop):Prop where
 out:∃km cs,L.get km=some (.box g 0 cs)/\nO cs=true/\cs.length=n/\(∀j e,cs[j]?=some e->j∉seen.map ju->K (L.set k (.box gi 0 (.tuple #[.map (some g),.int .i64 n]::(seen++[.int .i64 j])))) (.tuple #[.bool true,(gO e j).key,(gO e j).val])) /\
  ((∀j,j<n->j∈seen.map ju)->K L (.tuple #[.bool false]))
structure Mw (L:Loc) (g n:Nat) (seen:List Value) (K:Value->Prop):Prop where
 out:∃km cs j e,L.get km=some (.box g 0 cs)/\nO cs=true/\cs.length=n/\seen.getLast?=some (.int .i64 (.ofNat j))/\cs[j]?=some e/\K (.tuple #[(gO e j).key,(gO e j).val])
structure QR (F:aD) (mv:Value) (n:Int) (K:Int->Bool->Prop):Prop where
 out:∃k r b,jK k F mv/\wE k n=some (r,b)/\K r b
structure u4 (n c:Int) (bytes:Nat) (K:Nat->Prop):Prop where
 lo:0<=n
 le:n<=c
 hi:c.toNat*bytes<=140737488355328
 max:c.toNat<=maxLen
 out:K n.toNat
structure nP (l h:Int) (c:Nat) (K:Nat->Nat->Prop):Prop where
 lo:0<=l
 le:l<=h
 hi:h<=c
 out:K l.toNat h.toNat
abbrev xk:Bool->Prop->Prop->Prop
 | true,A,_=>A
 | false,_,B=>B
def aK:Value->List Value
 | .agg cs=>cs.toList
 | v=>[v]
def bn (L:Loc) (ρ:Env):List X->List Value
 | []=>[]
 | x::xs=>val L ρ x::bn L ρ xs
def cellsOf (L:Loc) (ρ:Env):List X->List Value
 | []=>[]
 | x::xs=>aK (val L ρ x)++cellsOf L ρ xs
def gL (agg:Bool) (cs:List Value):Value :=
 match agg,cs with
 | true,cs=>.agg cs.toArray
 | false,[v]=>v
 | false,_=>undef
def fH:List Value->Nat->Bool
 | [],0=>true
 | _::l,n+1=>fH l n
 | _,_=>false
def jg (t:TypeId) (l:List Value) (n:Nat):Bool:=match Nat.beq t 0 with | true=>false | false=>fH l n
def fI (L:Loc) (ρ:Env) (sz:Nat):List X->Bool
 | []=>true
 | x::xs=>match fH (aK (val L ρ x)) sz with | true=>fI L ρ sz xs | false=>false
def jz:List Value->Bool
 | []=>true
 | v::l=>match v.oneCell' with | true=>jz l | false=>false
def n9:Bool->Bool->Bool
 | true,b=>!b
 | false,b=>b
def tP (a b:ByteArray):Bool:=decide (a.data.toList=b.data.toList)
def PG (a b:ByteArray):Bool:=Op.bytesLess a.data.toList b.data.toList
def built (L:Loc) (ρ:Env):List Value->List (Nat×Nat×X)->Option (List Value)
 | zs,[]=>some zs
 | zs,(off,n,x)::ps=>match fH (aK (val L ρ x)) n with
  | true=>built L ρ (aP zs off (aK (val L ρ x))) ps
  | false=>none
def PI (mx:Bool):Int->List SV->Option Int
 | a,[]=>some a
 | a,.v (.int _ b)::l=>PI mx (match mx with | true=>if b>a then b else a | false=>if b<a then b else a) l
 | _,_=>none
def gh (a:Option Addr) (c l h sz:Nat):Value:=.slice (if c=l then a else a.map (·.add (l*sz))) (h-l) (c-l)
def jI (ρ:Env) (d:Int):Option X->Option Int
 | none=>some d
 | some x=>match ev ρ x with | .v (.int _ i)=>some i | _=>none
def mU:Value->Nat
 | .int _ m=>m.toNat
 | _=>0
def tQ (b:Nat):Value->Bool
 | .int _ m=>Nat.ble (m.toNat*b) 140737488355328&&Nat.ble m.toNat 9223372036854775807&&decide (0<=m)
 | _=>false
theorem CG {b:Nat}{v:Value}(h:tQ b v=true):∃k m,v=.int k m/\0<=m/\mU v=m.toNat/\m.toNat*b<=140737488355328/\m.toNat<=maxLen:=by
 cases v<;>simp only[tQ] at h<;>try (cases h;done)
 rename_i k m;simp only[xo,abo] at h;exact⟨k,m,rfl,h.2,rfl,aa1 h.1.1,aa1 h.1.2⟩
theorem Hh {b:Nat}{v:Value}(h:tQ b v=true):mU v<=maxLen:=by
 obtain⟨k,m,rfl,_,e,_,a⟩:=CG h;rw[e];exact a
def binI (op:BinOp) (k:IntKind) (a b:Int) (K:Value->Prop):Prop :=
 match op with
 | .add=>Fit k (a+b) fun n=>K (.int k n)
 | .sub=>Fit k (a-b) fun n=>K (.int k n)
 | .mul=>Fit k (a*b) fun n=>K (.int k n)
 | .quo=>mr b (Fit k (a.tdiv b) fun n=>K (.int k n))
 | .rem=>mr b (K (.int k (a.tmod b)))
 | .and=>K (.int k (k.wrap (BitVec.ofInt k.bits a &&& BitVec.ofInt k.bits b).toNat))
 | .or=>K (.int k (k.wrap (BitVec.ofInt k.bits a ||| BitVec.ofInt k.bits b).toNat))
 | .xor=>K (.int k (k.wrap (BitVec.ofInt k.bits a ^^^ BitVec.ofInt k.bits b).toNat))
 | .andNot=>K (.int k (k.wrap (BitVec.ofInt k.bits a &&& ~~~ BitVec.ofInt k.bits b).toNat))
 | .eql=>K (.bool (decide (a=b)))
 | .neq=>K (.bool (!decide (a=b)))
 | .lss=>K (.bool (decide (a<b)))
 | .leq=>K (.bool (decide (a<=b)))
 | .gtr=>K (.bool (decide (b<a)))
 | .geq=>K (.bool (decide (b<=a)))
 | _=>False
def shI (op:BinOp) (k:IntKind) (a b:Int) (K:Value->Prop):Prop :=
 match op with
 | .shl=>0<=b/\Fit k (a*2 ^ (min b.toNat k.bits)) fun n=>K (.int k n)
 | .shr=>0<=b/\K (.int k (a.fdiv (2 ^ (min b.toNat k.bits))))
 | _=>False
def binS (op:BinOp) (a b:ByteArray) (K:Value->Prop):Prop :=
 match op with
 | .add=>((a.size+b.size:Nat):Int)<=IntKind.i64.max/\K (.string (a++b))
 | .eql=>K (.bool (tP a b))
 | .neq=>K (.bool (!tP a b))
 | .lss=>K (.bool (PG a b))
 | .geq=>K (.bool (!PG a b))
 | _=>False
def qy:IntKind->IntKind->Bool
 | .i64,.i64=>true | .u8,.u8=>true | .u64,.u64=>true | .i32,.i32=>true | .u16,.u16=>true | .u32,.u32=>true | .i8,.i8=>true | .i16,.i16=>true
 | _,_=>false
def I4:BinOp->Bool
 | .shl | .shr=>true
 | _=>false
def jh:List Bool->List Value->List Value->Bool->Option Bool
 | [],[],[],c=>some c
 | true::ks,.int k a::l,.int e b::d,c=>match qy k e with | true=>jh ks l d (c&&decide (a=b)) | false=>none
 | false::ks,.bool a::l,.bool b::d,c=>jh ks l d (c&&decide (a=b))
 | _,_,_,_=>none
def aL (o:eH) (F:aD) (L:Loc) (ρ:Env) (V:SV->Prop):Prop :=
 match o with
 | .mov x=>V (ev ρ x)
 | .pick c a b=>match ev ρ c with
  | .v (.bool true)=>V (ev ρ a)
  | .v (.bool false)=>V (ev ρ b)
  | _=>False
 | .build zs ps=>match built L ρ zs ps with
  | some cs=>V (.v (.agg cs.toArray))
  | none=>False
 | .load agg n x=>match ev ρ x with
  | .own k off=>match L.get k with
   | some (.box _ t cs)=>match jg t ((cs.drop off).take n) n with
    | true=>V (.v (gL agg ((cs.drop off).take n)))
    | false=>False
   | _=>False
  | .el a j=>jM F L a j n fun cs=>V (.v (gL agg cs))
  | .v (.pointer (some a))=>jM F L (some a) 0 n fun cs=>V (.v (gL agg cs))
  | _=>False
 | .loadR agg n x=>match ev ρ x with
  | .own k off=>match L.get k with
   | some (.box _ t cs)=>match jg t ((cs.drop off).take n) n with
    | true=>V (.v (gL agg ((cs.drop off).take n)))
    | false=>False
   | _=>False
  | .el a j=>jM F L a j n fun cs=>V (.v (gL agg cs))
  | .v (.pointer (some a))=>jM F L (some a) 0 n fun cs=>V (.v (gL agg cs))
  | _=>False
 | .nilck x=>match ev ρ x with
  | .own k off=>V (.own k off)
  | .el a j=>a≠none/\V (.el a j)
  | .v (.pointer (some a))=>V (.v (.pointer (some a)))
  | .v (.func (.func f) fi ca)=>V (.v (.func (.func f) fi ca))
  | .v (.func (.method nm) fi ca)=>match fi.toList with
   | [.iface t u]=>PE Hg t nm=true/\V (.v (.func (.method nm) fi ca))
   | _=>False
  | _=>False
 | .mkmv nm x=>match ev ρ x with
  | .v v=>V (.v (.func (.method nm) #[v] #[]))
  | _=>False
 | .bin op x y=>match ev ρ x,ev ρ y with
  | .v (.int k a),.v (.int p b)=>match I4 op with
   | true=>shI op k a b fun v=>V (.v v)
   | false=>match qy k p with
    | true=>binI op k a b fun v=>V (.v v)
    | false=>False
  | .v (.string a),.v (.string b)=>binS op a b fun v=>V (.v v)
  | _,_=>False
 | .eqB neg x y=>match ev ρ x,ev ρ y with
  | .v (.bool a),.v (.bool b)=>V (.v (.bool (n9 neg (decide (a=b)))))
  | _,_=>False
 | .eqP neg x y=>match ev ρ x,ev ρ y with
  | .own _ _,.v (.pointer none)=>V (.v (.bool (n9 neg false)))
  | .el (some _) _,.v (.pointer none)=>V (.v (.bool (n9 neg false)))
  | .v (.pointer a),.v (.pointer none)=>V (.v (.bool (n9 neg a.isNone)))
  | _,_=>False
 | .eqS neg x y=>match ev ρ x,ev ρ y with
  | .v (.slice a _ _),.v (.slice none _ _)=>V (.v (.bool (n9 neg a.isNone)))
  | _,_=>False
 | .eqF neg x y=>match ev ρ x,ev ρ y with
  | .v .nilFunc,.v .nilFunc=>V (.v (.bool (n9 neg true)))
  | .v (.func _ _ _),.v .nilFunc=>V (.v (.bool (n9 neg false)))
  | _,_=>False
 | .eqN neg x=>match ev ρ x with
  | .v .nilIface=>V (.v (.bool (n9 neg true)))
  | .v (.iface _ _)=>V (.v (.bool (n9 neg false)))
  | _=>False
 | .tas t z x=>match ev ρ x with
  | .v .nilIface=>V (.v (.tuple #[z,.bool false]))
  | .v (.iface e u)=>match Nat.beq e t with
   | true=>V (.v (.tuple #[u,.bool true]))
   | false=>V (.v (.tuple #[z,.bool false]))
  | _=>False
 | .eqA neg ks x y=>match ev ρ x,ev ρ y with
  | .v (.agg cs),.v (.agg ds)=>match jh ks cs.toList ds.toList true with
   | some b=>V (.v (.bool (n9 neg b)))
   | none=>False
  | _,_=>False
 | .un op x=>match op,ev ρ x with
  | .not,.v (.bool b)=>V (.v (.bool (!b)))
  | .neg,.v (.int k n)=>Fit k (0-n) fun m=>V (.v (.int k m))
  | .xor,.v (.int k n)=>V (.v (.int k (k.wrap (BitVec.ofInt k.bits (if k.signed then -1 else k.max) ^^^ BitVec.ofInt k.bits n).toNat)))
  | _,_=>False
 | .conv k x=>match ev ρ x with
  | .v (.int _ n)=>Fit k n fun m=>V (.v (.int k m))
  | _=>False
 | .b2s x=>match ev ρ x with
  | .v (.slice a n _)=>jM F L a 0 n fun cs=>Bg cs fun bs=>V (.v (.string ⟨bs.toArray⟩))
  | _=>False
 | .mkfn f fi ca=>V (.v (.func (.func f) (bn L ρ fi).toArray (bn L ρ ca).toArray))
 | .slc sz x lo hi=>match ev ρ x with
  | .v (.slice a n c)=>match jI ρ 0 lo,jI ρ n hi with
   | some l,some h=>nP l h c fun l h=>V (.v (gh a c l h sz))
   | _,_=>False
  | _=>False
 | .slcS x lo hi=>match ev ρ x with
  | .v (.string s)=>match jI ρ 0 lo,jI ρ s.size hi with
   | some l,some h=>nP l h s.size fun l h=>V (.v (.string (s.extract l h)))
   | _,_=>False
  | _=>False
 | .fieldA off x=>match ev ρ x with
  | .own k o=>V (.own k (o+off))
  | .el a j=>V (.el a (j+off))
  | .v (.pointer (some a))=>V (.el (some a) off)
  | _=>False
 | .fieldV agg off n x=>match ev ρ x with
  | .v (.agg cs)=>match fH ((cs.toList.drop off).take n) n with
   | true=>V (.v (gL agg ((cs.toList.drop off).take n)))
   | false=>False
  | _=>False
 | .idxA sz x i=>match ev ρ x,ev ρ i with
  | .v (.slice a n _),.v (.int _ i)=>FG a i n (V (.el a (i.toNat*sz)))
  | _,_=>False
 | .idxS x i=>match ev ρ x,ev ρ i with
  | .v (.string s),.v (.int _ i)=>Mu i s.size (V (.v (.int .u8 ((s.data.toList.getD i.toNat 0).toNat))))
  | _,_=>False
 | .extr x i=>match ev ρ x with
  | .v (.tuple vs)=>match vs.toList[i]? with
   | some v=>V (.v v)
   | none=>False
  | _=>False
 | .len x=>match ev ρ x with
  | .v (.slice _ n _)=>V (.v (.int .i64 n))
  | _=>False
 | .lenS x=>match ev ρ x with
  | .v (.string s)=>V (.v (.int .i64 s.size))
  | _=>False
 | .capa x=>match ev ρ x with
  | .v (.slice _ _ c)=>V (.v (.int .i64 c))
  | _=>False
 | .mm mx args=>match args.map (ev ρ) with
  | .v (.int k a)::l=>match PI mx a l with
   | some m=>V (.v (.int k m))
   | none=>False
  | _=>False
 | .loadD agg n x=>match ev ρ x with
  | .own k off=>match L.get k with
   | some (.box _ t cs)=>match jg t ((cs.drop off).take n) n with
    | true=>V (.v (gL agg ((cs.drop off).take n)))
    | false=>False
   | _=>False
  | .el a j=>iR F a j n fun cs=>V (.v (gL agg cs))
  | .v (.pointer (some a))=>iR F (some a) 0 n fun cs=>V (.v (gL agg cs))
  | _=>False
 | .gload g=>Tg F g fun v=>V (.v v)
 | .loadF agg n x=>match ev ρ x with
  | .el a j=>iR F a j n fun cs=>V (.v (gL agg cs))
  | .v (.pointer (some a))=>iR F (some a) 0 n fun cs=>V (.v (gL agg cs))
  | _=>False
 | .mkif t x=>match ev ρ x with
  | .v v=>V (.v (.iface t v))
  | .el (some d) j=>V (.v (.iface t (.pointer (some (d.add j)))))
  | .own k off=>match L.get k with
   | some (.box g _ _)=>V (.v (.iface t (.pointer (some ⟨g,off,none⟩))))
   | _=>False
  | _=>False
 | .b2sD x=>match ev ρ x with
  | .v (.slice a n _)=>iR F a 0 n fun cs=>Bg cs fun bs=>V (.v (.string ⟨bs.toArray⟩))
  | _=>False
 | .b2sR x=>match ev ρ x with
  | .v (.slice a n _)=>Vq L a n fun bs=>V (.v (.string ⟨bs.toArray⟩))
  | _=>False
 | .mlook str ok z x i=>match ev ρ x with
  | .v (.map (some g))=>CF L g fun _ cs=>FI str cs (val L ρ i) ok z fun v=>V (.v v)
  | _=>False
 | .mlen x=>match ev ρ x with
  | .v (.map (some g))=>CF L g fun _ cs=>V (.v (.int .i64 cs.length))
  | _=>False
 | .loadK key agg n x=>match ev ρ x with
  | .own k off=>match Nat.beq k key with
   | true=>match L.get k with
    | some (.box _ t cs)=>match jg t ((cs.drop off).take n) n with
     | true=>V (.v (gL agg ((cs.drop off).take n)))
     | false=>False
    | _=>False
   | false=>False
  | _=>False
 | _=>False
def evalOp (P:Program) (o:eH) (d:Option Nat) (F:aD) (L:Loc) (ρ:Env) (K:cQ):Prop :=
 match o with
 | .mov x=>aL (.mov x) F L ρ fun v=>K F L (put d v ρ)
 | .pick c a b=>aL (.pick c a b) F L ρ fun v=>K F L (put d v ρ)
 | .box t x=>match d with
  | some k=>match L.get k with
   | none=>∀g,K F (L.set k (.box g t (aK (val L ρ x)))) (put d (.own k 0) ρ)
   | some _=>False
  | none=>False
 | .boxF t x=>∀g F',F.le F'->F' g=some (.cells (aK (val L ρ x)).toArray t (0,0))->K F' L (put d (.v (.pointer (some ⟨g,0,none⟩))) ρ)
 | .alloc t zs=>match d with
  | some k=>match L.get k with
   | none=>∀g,K F (L.set k (.box g t zs)) (put d (.own k 0) ρ)
   | some _=>False
  | none=>False
 | .mkF e n sz xs=>match fI L ρ sz xs with
  | true=>∀g F',F.le F'->F' g=some (.cells (cellsOf L ρ xs).toArray e (0,0))->K F' L (put d (.v (.slice (some ⟨g,0,none⟩) n n)) ρ)
  | false=>False
 | .mkR e n sz xs=>match fI L ρ sz xs,d with
  | true,some k=>match L.get k with
   | none=>∀g,K F (L.set k (.row (.slice (some ⟨g,0,none⟩) n n) e sz n (cellsOf L ρ xs))) (put d (.v (.slice (some ⟨g,0,none⟩) n n)) ρ)
   | some _=>False
  | _,_=>False
 | .build zs ps=>aL (.build zs ps) F L ρ fun v=>K F L (put d v ρ)
 | .load agg n x=>aL (.load agg n x) F L ρ fun v=>K F L (put d v ρ)
 | .store n a x=>match fH (aK (val L ρ x)) n,jz (aK (val L ρ x)),ev ρ a with
  | true,true,.own k off=>match L.get k with
   | some (.box g t cs)=>match jg t ((cs.drop off).take n) n with
    | true=>K F (L.set k (.box g t (aP cs off (aK (val L ρ x))))) (put d (.v undef) ρ)
    | false=>False
   | _=>False
  | true,true,.el q j=>tO F L q j (aK (val L ρ x)) fun L'=>K F L' (put d (.v undef) ρ)
  | true,true,.v (.pointer (some q))=>tO F L (some q) 0 (aK (val L ρ x)) fun L'=>K F L' (put d (.v undef) ρ)
  | _,_,_=>False
 | .nilck x=>aL (.nilck x) F L ρ fun v=>K F L (put d v ρ)
 | .mkmv nm x=>aL (.mkmv nm x) F L ρ fun v=>K F L (put d v ρ)
 | .mkif t x=>aL (.mkif t x) F L ρ fun v=>K F L (put d v ρ)
 | .pan _=>False
 | .dead=>False
 | .bin op x y=>aL (.bin op x y) F L ρ fun v=>K F L (put d v ρ)
 | .eqB neg x y=>aL (.eqB neg x y) F L ρ fun v=>K F L (put d v ρ)
 | .eqP neg x y=>aL (.eqP neg x y) F L ρ fun v=>K F L (put d v ρ)
 | .eqS neg x y=>aL (.eqS neg x y) F L ρ fun v=>K F L (put d v ρ)
 | .eqF neg x y=>aL (.eqF neg x y) F L ρ fun v=>K F L (put d v ρ)
 | .eqN neg x=>aL (.eqN neg x) F L ρ fun v=>K F L (put d v ρ)
 | .tas t z x=>aL (.tas t z x) F L ρ fun v=>K F L (put d v ρ)
 | .eqA neg ks x y=>aL (.eqA neg ks x y) F L ρ fun v=>K F L (put d v ρ)
 | .un op x=>aL (.un op x) F L ρ fun v=>K F L (put d v ρ)
 | .conv k x=>aL (.conv k x) F L ρ fun v=>K F L (put d v ρ)
 | .b2s x=>aL (.b2s x) F L ρ fun v=>K F L (put d v ρ)
 | .s2b _ x=>match ev ρ x with
  | .v (.string s)=>∀g c F',F.le F'->bU F' (some ⟨g,0,none⟩) 0 (s.data.toList.map fun b=>Value.int .u8 b.toNat)->s.size<=c->K F' L (put d (.v (.slice (some ⟨g,0,none⟩) s.size c)) ρ)
  | _=>False
 | .mkfn f fi ca=>aL (.mkfn f fi ca) F L ρ fun v=>K F L (put d v ρ)
 | .makeS e sz bytes zs l c=>match ev ρ l,ev ρ c,d with
  | .v (.int _ n),.v (.int _ m),some k=>match L.get k with
   | none=>u4 n m bytes fun n=>∀g,K F (L.set k (.row (.slice (some ⟨g,0,none⟩) n m.toNat) e sz n (List.replicate n zs).flatten)) (put d (.v (.slice (some ⟨g,0,none⟩) n m.toNat)) ρ)
   | some _=>False
  | _,_,_=>False
 | .slc sz x lo hi=>aL (.slc sz x lo hi) F L ρ fun v=>K F L (put d v ρ)
 | .slcS x lo hi=>aL (.slcS x lo hi) F L ρ fun v=>K F L (put d v ρ)
 | .fieldA off x=>aL (.fieldA off x) F L ρ fun v=>K F L (put d v ρ)
 | .fieldV agg off n x=>aL (.fieldV agg off n x) F L ρ fun v=>K F L (put d v ρ)
 | .idxA sz x i=>aL (.idxA sz x i) F L ρ fun v=>K F L (put d v ρ)
 | .idxS x i=>aL (.idxS x i) F L ρ fun v=>K F L (put d v ρ)
 | .extr x i=>aL (.extr x i) F L ρ fun v=>K F L (put d v ρ)
 | .call f args=>dz P f (bn L ρ args) F L fun F' L' v=>K F' L' (put d (.v v) ρ)
 | .callV f args=>match mq P (ev ρ f) with
  | some (f,fi,ca)=>dz P f (fi++bn L ρ args++ca) F L fun F' L' v=>K F' L' (put d (.v v) ρ)
  | none=>match zW P (ev ρ f) (bn L ρ args) with
   | some (f,args)=>dz P f args F L fun F' L' v=>K F' L' (put d (.v v) ρ)
   | none=>False
 | .gload g=>aL (.gload g) F L ρ fun v=>K F L (put d v ρ)
 | .look x i=>match ev ρ x,ev ρ i with
  | .v mv,.v (.int .i64 n)=>QR F mv n fun r b=>K F L (put d (.v (.tuple #[.int .i64 r,.bool b])) ρ)
  | _,_=>False
 | .mkmap=>match d with
  | some k=>match L.get k with
   | none=>∀g,K F (L.set k (.box g 0 [])) (put d (.v (.map (some g))) ρ)
   | some _=>False
  | none=>False
 | .mlook str ok z x i=>aL (.mlook str ok z x i) F L ρ fun v=>K F L (put d v ρ)
 | .mlen x=>aL (.mlen x) F L ρ fun v=>K F L (put d v ρ)
 | .mupd str x i v=>match ev ρ x with
  | .v (.map (some g))=>CF L g fun k cs=>QN str cs (val L ρ i) (val L ρ v) fun cs'=>K F (L.set k (.box g 0 cs')) (put d (.v undef) ρ)
  | _=>False
 | .mrange x=>match ev ρ x,d with
  | .v (.map (some g)),some k=>match L.get k with
   | none=>CF L g fun _ cs=>∀w,K F (L.set k (.box w 0 [.tuple #[.map (some g),.int .i64 cs.length]])) (put d (.own k 0) ρ)
   | some _=>False
  | _,_=>False
 | .mnext x=>match ev ρ x with
  | .own k 0=>match L.get k with
   | some (.box w 0 (.tuple ⟨[.map (some g),.int .i64 (.ofNat n)]⟩::h))=>QO L k w g n h fun L' v=>K F L' (put d (.v v) ρ)
   | _=>False
  | _=>False
 | .mentry x=>match ev ρ x with
  | .own k 0=>match L.get k with
   | some (.box w 0 (.tuple ⟨[.map (some g),.int .i64 (.ofNat n)]⟩::h))=>Mw L g n h fun v=>K F L (put d (.v v) ρ)
   | _=>False
  | _=>False
 | .len x=>aL (.len x) F L ρ fun v=>K F L (put d v ρ)
 | .lenS x=>aL (.lenS x) F L ρ fun v=>K F L (put d v ρ)
 | .capa x=>aL (.capa x) F L ρ fun v=>K F L (put d v ρ)
 | .mm mx args=>aL (.mm mx args) F L ρ fun v=>K F L (put d v ρ)
 | .app e sz bytes _ s x=>match ev ρ s,ev ρ x with
  | .v sv,.v p=>FH F L e sz bytes sv p fun L1 v=>K F L1 (put d (.v v) ρ)
  | _,_=>False
 | .appX e sz bytes _ s x=>match ev ρ s,ev ρ x with
  | .v sv,.v p=>FH F L e sz bytes sv p fun L1 v=>Real F L1->K F L1 (put d (.v v) ρ)
  | _,_=>False
 | .appD e sz bytes _ s x=>match ev ρ s,ev ρ x with
  | .v sv,.v p=>qx F L d e sz bytes sv p fun L1 v=>K F L1 (put d (.v v) ρ)
  | _,_=>False
 | .appS e s x=>match ev ρ s,ev ρ x with
  | .v sv,.v (.string t)=>QM L e sv t fun L1 v=>K F L1 (put d (.v v) ρ)
  | _,_=>False
 | .appZ e bytes ki s x=>match ev ρ s,ev ρ x with
  | .v sv,.v (.int _ i)=>match i with
   | .ofNat m=>I3 L e bytes ki sv m fun L1 v=>K F L1 (put d (.v v) ρ)
   | .negSucc _=>False
  | _,_=>False
 | .copy e sz dd x=>match ev ρ dd,ev ρ x with
  | .v u,.v (.string t)=>Mv L e u t fun L1 n=>K F L1 (put d (.v (.int .i64 n)) ρ)
  | .v u,.v p=>Bf F L e sz u p fun L1 n=>K F L1 (put d (.v (.int .i64 n)) ρ)
  | _,_=>False
 | .storeD n a x=>match fH (aK (val L ρ x)) n,jz (aK (val L ρ x)),ev ρ a with
  | true,true,.own k off=>match L.get k with
   | some (.box g t cs)=>match jg t ((cs.drop off).take n) n with
    | true=>K F (L.set k (.box g t (aP cs off (aK (val L ρ x))))) (put d (.v undef) ρ)
    | false=>False
   | _=>False
  | _,_,_=>False
 | .storeK key n a x=>match fH (aK (val L ρ x)) n,jz (aK (val L ρ x)),ev ρ a with
  | true,true,.own k off=>match Nat.beq k key with
   | true=>match L.get k with
    | some (.box g t cs)=>match jg t ((cs.drop off).take n) n with
     | true=>K F (L.set k (.box g t (aP cs off (aK (val L ρ x))))) (put d (.v undef) ρ)
     | false=>False
    | _=>False
   | false=>False
  | _,_,_=>False
 | .loadD agg n x=>aL (.loadD agg n x) F L ρ fun v=>K F L (put d v ρ)
 | .loadF agg n x=>aL (.loadF agg n x) F L ρ fun v=>K F L (put d v ρ)
 | .loadR agg n x=>aL (.loadR agg n x) F L ρ fun v=>K F L (put d v ρ)
 | .loadK key agg n x=>aL (.loadK key agg n x) F L ρ fun v=>K F L (put d v ρ)
 | .b2sD x=>aL (.b2sD x) F L ρ fun v=>K F L (put d v ρ)
 | .b2sR x=>aL (.b2sR x) F L ρ fun v=>K F L (put d v ρ)
 | .makeSD e sz n zs=>match d with
  | some k=>match L.get k,fH zs sz,Nat.ble n 9223372036854775807 with
   | none,true,true=>∀g,Real F (L.set k (.row (.slice (some ⟨g,0,none⟩) n n) e sz n (List.replicate n zs).flatten))->K F (L.set k (.row (.slice (some ⟨g,0,none⟩) n n) e sz n (List.replicate n zs).flatten)) (put d (.v (.slice (some ⟨g,0,none⟩) n n)) ρ)
   | _,_,_=>False
  | none=>False
 | .makeSV e sz b zs x=>match d with
  | some k=>match L.get k,fH zs sz,tQ b (val L ρ x) with
   | none,true,true=>∀g,Real F (L.set k (.row (.slice (some ⟨g,0,none⟩) (mU (val L ρ x)) (mU (val L ρ x))) e sz (mU (val L ρ x)) (List.replicate (mU (val L ρ x)) zs).flatten))->K F (L.set k (.row (.slice (some ⟨g,0,none⟩) (mU (val L ρ x)) (mU (val L ρ x))) e sz (mU (val L ρ x)) (List.replicate (mU (val L ρ x)) zs).flatten)) (put d (.v (.slice (some ⟨g,0,none⟩) (mU (val L ρ x)) (mU (val L ρ x)))) ρ)
   | _,_,_=>False
  | none=>False
 | .copyX e sz dd x=>match ev ρ dd,ev ρ x with
  | .v u,.v p=>Bf F L e sz u p fun L1 n=>Real F L1->K F L1 (put d (.v (.int .i64 n)) ρ)
  | _,_=>False
 | .storeX n a x=>match fH (aK (val L ρ x)) n,jz (aK (val L ρ x)),ev ρ a with
  | true,true,.own k off=>match L.get k with
   | some (.box g t cs)=>match jg t ((cs.drop off).take n) n with
    | true=>Real F (L.set k (.box g t (aP cs off (aK (val L ρ x)))))->K F (L.set k (.box g t (aP cs off (aK (val L ρ x))))) (put d (.v undef) ρ)
    | false=>False
   | _=>False
  | true,true,.el q j=>Be L q j (aK (val L ρ x)) fun L'=>Real F L'->K F L' (put d (.v undef) ρ)
  | true,true,.v (.pointer (some q))=>Be L (some q) 0 (aK (val L ρ x)) fun L'=>Real F L'->K F L' (put d (.v undef) ρ)
  | _,_,_=>False
 | .boxD t x=>match d with
  | some k=>match L.get k with
   | none=>∀g,Real F (L.set k (.box g t (aK (val L ρ x))))->K F (L.set k (.box g t (aK (val L ρ x)))) (put d (.own k 0) ρ)
   | some _=>False
  | none=>False
 | .allocD t zs=>match d with
  | some k=>match L.get k with
   | none=>∀g,Real F (L.set k (.box g t zs))->K F (L.set k (.box g t zs)) (put d (.own k 0) ρ)
   | some _=>False
  | none=>False
 | .mkFD e n sz xs=>match fI L ρ sz xs with
  | true=>∀g F',F.le F'->F' g=some (.cells (cellsOf L ρ xs).toArray e (0,0))->Real F' L->K F' L (put d (.v (.slice (some ⟨g,0,none⟩) n n)) ρ)
  | false=>False
 | .callD f args=>eB P f (bn L ρ args) F L d fun F' L' v=>K F' L' (put d (.v v) ρ)
 | .callVD f args=>match mq P (ev ρ f) with
  | some (f,fi,ca)=>eB P f (fi++bn L ρ args++ca) F L d fun F' L' v=>K F' L' (put d (.v v) ρ)
  | none=>False
 | .callO f args=>dz P f (bn L ρ args) F L fun F' L' v=>Real F' L'->K F' L' (put d (.v v) ρ)
 | .callVO f args=>match mq P (ev ρ f) with
  | some (f,fi,ca)=>dz P f (fi++bn L ρ args++ca) F L fun F' L' v=>Real F' L'->K F' L' (put d (.v v) ρ)
  | none=>False
def I5 (F:aD) (v:Value) (sz n:Nat) (xs:List Value):Prop :=
 (v=.slice none 0 0/\n=0/\xs=[])\/∃a c,v=.slice (some a) n c/\bU F (some a) 0 xs/\n<=c
structure PJ (F:aD) (L:Loc) (k:Nat) (K:aD->Loc->Prop):Prop where
 out:∃v t sz n xs,L.get k=some (.row v t sz n xs)/\∀F',F.le F'->I5 F' v sz n xs->K F' (L.del k)
inductive aA where
 | op (dst:Option Nat) (o:eH) (guard:Option (Nat×Bool))
 | frz (k:Nat)
 | pc (dst:Option Nat) (o:eH) (guard:Option (Nat×Bool))
 deriving Inhabited
def xq (k g:Nat) (ρ:Env):Env:=fun j=>match ρ j with
 | .own b off=>match Nat.beq b k with | true=>.v (.pointer (some ⟨g,off,none⟩)) | false=>.own b off
 | .v x=>.v x
 | .el a i=>.el a i
def aY (P:Program):List aA->aD->Loc->Env->cQ->Prop
 | [],F,L,ρ,K=>K F L ρ
 | .op d o none::a,F,L,ρ,K=>evalOp P o d F L ρ fun F' L' ρ'=>aY P a F' L' ρ' K
 | .op d o (some (s,c))::a,F,L,ρ,K=>match ρ s with
  | .v (.bool b)=>xk b
    (match c with
     | true=>evalOp P o d F L (put (some s) (.v (.bool true)) ρ) fun F' L' ρ'=>aY P a F' L' ρ' K
     | false=>aY P a F L (put d (.v undef) (put (some s) (.v (.bool true)) ρ)) K)
    (match c with
     | false=>evalOp P o d F L (put (some s) (.v (.bool false)) ρ) fun F' L' ρ'=>aY P a F' L' ρ' K
     | true=>aY P a F L (put d (.v undef) (put (some s) (.v (.bool false)) ρ)) K)
  | .v (.tuple _)=>aY P a F L (put d (.v undef) ρ) K
  | _=>False
 | .frz k::a,F,L,ρ,K=>match L.get k with
  | some (.box g t cs)=>∀F',F.le F'->F' g=some (lT t cs)->aY P a F' (L.del k) (xq k g ρ) K
  | _=>PJ F L k fun F' L'=>aY P a F' L' ρ K
 | .pc _ _ _::_,_,_,_,_=>False
inductive aJ where
 | skip
 | reg (ops:List aA)
 | regD (ops:List aA)
 | regX (ops:List aA)
 | seq (a b:aJ)
 | cond (c:X) (a b:aJ)
 | block (id:Nat) (c:aJ)
 | loop (asg:List Nat) (c:aJ)
 | exit (id:Nat)
 | ret
 deriving Inhabited
def fW:List Nat->Nat->Bool
 | [],_=>false
 | j::l,k=>match Nat.beq j k with | true=>true | false=>fW l k
def Loc.keeps:Loc->Loc->Prop
 | [],_=>True
 | (k,.box g t _)::l,L'=>(∃cs,L'.get k=some (.box g t cs))/\Loc.keeps l L'
 | (_,.row ..)::l,L'=>Loc.keeps l L'
structure CH (F:aD) (L:Loc) (v:Value) (R:aD->List Own->Value->Prop):Prop where
 out:∃ko Lo,L.sub ko=some Lo/\ko.Nodup/\R F Lo v
abbrev RV:=Nat×Option (Bool×Nat)
def lU (L:Loc) (ρ:Env):List RV->(List Value->Prop)->Prop
 | [],K=>K []
 | (t,none)::l,K=>lU L ρ l fun vs=>K (conc L (ρ t)::vs)
 | (t,some (agg,n))::l,K=>match ρ t with
  | .own k off=>match L.get k with
   | some (.box _ ty cs)=>match jg ty ((cs.drop off).take n) n with
    | true=>lU L ρ l fun vs=>K (gL agg ((cs.drop off).take n)::vs)
    | false=>False
   | _=>False
  | _=>False
def gX:List Value->Value
 | [v]=>v
 | l=>.tuple l.toArray
def tT:Nat->List SV->Env
 | _,[]=>fun _=>.v undef
 | k,v::l=>put (some k) v (tT (k+1) l)
def Loc.gives (L:Loc):Loc->Prop
 | []=>True
 | (k,o)::l=>(L.get k=some o\/(L.get k=none/\∃t sz,o=.row (.slice none 0 0) t sz 0 []))/\Loc.gives L l
def ig (asg:List Nat) (a:Nat->Value) (ρ:Env):Env:=fun j=>match fW asg j with | true=>.v (a j) | false=>ρ j
def puts:List Nat->List SV->Env->Env
 | k::ks,v::vs,ρ=>put (some k) v (puts ks vs ρ)
 | _,_,ρ=>ρ
def holds:List Nat->List SV->Env->Prop
 | k::ks,v::vs,ρ=>ρ k=v/\holds ks vs ρ
 | _,_,_=>True
structure QS (body:aD->Loc->Env->cQ->Prop) (asg:List Nat) (F:aD) (L:Loc) (ρ:Env):Prop where
 out:∃(σ:Type) (x0:σ) (Inv:σ->aD->Prop) (ls:List Nat) (lv:σ->List Value) (Lf:σ->Loc) (μ:σ->Nat),
  Inv x0 F/\holds ls ((lv x0).map .v) ρ/\L.gives (Lf x0)/\(∀x,L.keeps (Lf x)) /\
  ∀x F' jk,F.le F'->Inv x F'->body F' (Lf x) (puts ls ((lv x).map .v) (ig asg jk ρ)) fun F'' L'' ρ'' =>
   ∃x',Inv x' F''/\holds ls ((lv x').map .v) ρ''/\L''.gives (Lf x')/\μ x'<μ x
def kJ (P:Program):aJ->(Nat->cQ)->cQ->cQ->cQ
 | .skip,_,_,N,F,L,ρ=>N F L ρ
 | .reg d,_,_,N,F,L,ρ=>aY P d F L ρ N
 | .regD d,_,_,N,F,L,ρ=>aY P d F L ρ N
 | .regX _,_,_,_,_,_,_=>False
 | .seq a b,E,R,N,F,L,ρ=>kJ P a E R (fun F L ρ=>kJ P b E R N F L ρ) F L ρ
 | .cond c a b,E,R,N,F,L,ρ=>match ev ρ c with
  | .v (.bool t)=>xk t (kJ P a E R N F L ρ) (kJ P b E R N F L ρ)
  | _=>False
 | .block id c,E,R,N,F,L,ρ=>kJ P c (fun j=>match Nat.beq j id with | true=>N | false=>E j) R N F L ρ
 | .loop asg c,E,R,_,F,L,ρ=>QS (fun F L ρ K=>kJ P c E R K F L ρ) asg F L ρ
 | .exit id,E,_,_,F,L,ρ=>E id F L ρ
 | .ret,_,R,_,F,L,ρ=>R F L ρ
theorem fJ {a b:Nat}(h:Nat.beq a b=false):a≠b:=by intro e;subst e;simp at h
theorem Loc.aac (L:Loc) (k:Nat) (o:Own) (j:Nat):(L.set k o).get j=if j=k then some o else L.get j:=by
 induction L with
 | nil =>
  simp only[Loc.set,Loc.get];cases h:Nat.beq k j with
  | true=>have:=vv h;simp[this]
  | false=>have:=fJ h;simp;omega
 | cons p l b =>
  obtain⟨i,q⟩:=p;simp only[Loc.set];cases h:Nat.beq i k with
  | true =>
   have e:=vv h;subst e;simp only[Loc.get];cases a:Nat.beq i j with
   | true=>have:=vv a;simp[this]
   | false=>have:=fJ a;simp;omega
  | false =>
   have c:=fJ h;simp only[];cases d:Nat.ble i k with
   | true =>
    simp only[Loc.get];cases a:Nat.beq i j with
    | true=>have:=vv a;simp;omega
    | false=>simpa using b
   | false =>
    simp only[Loc.get];cases a:Nat.beq k j with
    | true=>have:=vv a;simp[this]
    | false =>
     have:=fJ a;simp only[];rw[o6 (by omega)]
theorem Loc.aai (L:Loc) (k j:Nat):(L.del k).get j=if j=k then none else L.get j:=by
 induction L with
 | nil=>simp[Loc.del,Loc.get]
 | cons p l c =>
  obtain⟨i,q⟩:=p;simp only[Loc.del];cases h:Nat.beq i k with
  | true =>
   have e:=vv h;subst e;simp only[Loc.get,c]
   by_cases b:j=i
   ·simp[b]
   ·have:Nat.beq i j=false:=by cases a:Nat.beq i j with | true=>exact o4 (vv a).symm b | false=>rfl
    simp[b,this]
  | false =>
   have d:=fJ h;simp only[Loc.get];cases a:Nat.beq i j with
   | true=>have:=vv a;simp;omega
   | false=>simpa using c
def Loc.part (L L':Loc):Prop:=∀k o,L'.get k=some o->L.get k=some o
theorem St.part {F:aD}{L L':Loc}{w:World}(h:St F L w) (a:L.part L'):St F L' w :=
 ⟨h.frz,fun k o e=>h.own k o (a k o e),fun k o g e=>h.off k o g (a k o e),fun k b o o' g e c=>h.sep k b o o' g (a k o e) (a b o' c),h.glob⟩
theorem Own.aaq {w:World}{o:Own}(h:o.ok w) {g:Nat}(a:o.blk=some g):g<w.heap.size:=by
 cases o with
 | box b t cs =>
  simp only[Own.blk,vz] at a;subst a;exact(Array.getElem?_eq_some_iff.1 h).1
 | row v t sz n xs=>exact(World.ownsRow.lt h g a).2
theorem Own.aav {w w':World}{o:Own}(h:o.ok w) (c:∀g,o.blk=some g->w'.heap[g]?=w.heap[g]?):o.ok w':=by
 cases o with
 | box g t cs=>exact(c g rfl).trans h
 | row v t sz n xs =>
  obtain⟨e,a⟩:=h;refine⟨e,?_⟩;rcases a with a | ⟨g,cap,b,rfl,hb,d,r⟩
  ·exact .inl a
  ·exact .inr ⟨g,cap,b,rfl,hb,(c g rfl).trans d,r⟩
theorem St.aaw {F:aD}{L:Loc}{w:World}(h:St F L w) {b:Nat}(hb:F b≠none):b<w.heap.size:=by
 cases e:F b with
 | none=>exact o4 e hb
 | some o=>exact(Array.getElem?_eq_some_iff.1 (h.frz b o e)).1
theorem St.aaB {F:aD}{L:Loc}{w:World}(h:St F L w) {b:Nat}(hb:L.owns b):b<w.heap.size:=by
 obtain⟨k,o,e,a⟩:=hb;exact Own.aaq (h.own k o e) a
theorem St.keep {F:aD}{L:Loc}{w w':World}(h:St F L w) (a:∀b,b<w.heap.size->w'.heap[b]?=w.heap[b]?):St F L w':=by
 refine⟨fun b o e=>?_,fun k o e=>?_,h.off,h.sep,h.glob⟩
 ·have:=h.frz b o e;rw[a b (Array.getElem?_eq_some_iff.1 this).1];exact this
 ·exact Own.aav (h.own k o e) fun g c=>a g (Own.aaq (h.own k o e) c)
theorem St.drew {F:aD}{L:Loc}{w:World}(h:St F L w):St F L w.drew:=h.keep fun _ _=>rfl
theorem St.put {F:aD}{L:Loc}{w:World}(h:St F L w) {k:Nat}{o:Own}(x:L.get k=none) (v:o.ok w)
  (n:∀g,o.blk=some g->F g=none/\¬L.owns g):St F (L.set k o) w:=by
 have a:∀j p,(L.set k o).get j=some p->(j=k/\p=o)\/(j≠k/\L.get j=some p):=by
  intro j p e;rw[Loc.aac] at e;split at e
  ·rename_i d;exact .inl ⟨d,by injection e with e;exact e.symm⟩
  ·rename_i d;exact .inr ⟨d,e⟩
 refine⟨h.frz,fun j p e=>?_,fun j p g e c=>?_,fun j l p m g e t c b=>?_,h.glob⟩
 ·rcases a j p e with⟨_,rfl⟩ | ⟨_,e⟩
  ·exact v
  ·exact h.own j p e
 ·rcases a j p e with⟨_,rfl⟩ | ⟨_,e⟩
  ·exact(n g c).1
  ·exact h.off j p g e c
 ·rcases a j p e with⟨d,u⟩ | ⟨_,s⟩<;>rcases a l m t with⟨f,q⟩ | ⟨_,r⟩
  ·exact d.trans f.symm
  ·subst u;exact o4 ⟨l,m,r,b⟩ (n g c).2
  ·subst q;exact o4 ⟨j,p,s,c⟩ (n g b).2
  ·exact h.sep j l p m g s r c b
theorem St.turn {F:aD}{L:Loc}{w w':World}(h:St F L w) {k:Nat}{o o':Own}(n:L.get k=some o) (ho:o'.ok w')
  (v:∀b,b<w.heap.size->o.blk≠some b->w'.heap[b]?=w.heap[b]?) (hb:∀g,o'.blk=some g->o.blk=some g\/w.heap.size<=g):St F (L.set k o') w':=by
 have c:∀j p,(L.set k o').get j=some p->(j=k/\p=o')\/(j≠k/\L.get j=some p):=by
  intro j p e;rw[Loc.aac] at e;split at e
  ·rename_i l;exact .inl ⟨l,by injection e with e;exact e.symm⟩
  ·rename_i l;exact .inr ⟨l,e⟩
 refine⟨fun b p e=>?_,fun j p e=>?_,fun j p g e d=>?_,fun j q p r g e y d f=>?_,h.glob⟩
 ·have:=h.frz b p e;rw[v b (Array.getElem?_eq_some_iff.1 this).1 (fun hb=>by have:=h.off k o b n hb;rw[this] at e;cases e)];exact this
 ·rcases c j p e with⟨_,rfl⟩ | ⟨l,e⟩
  ·exact ho
  ·exact Own.aav (h.own j p e) fun g d=>v g (Own.aaq (h.own j p e) d) fun a=>l (h.sep j k p o g e n d a)
 ·rcases c j p e with⟨_,rfl⟩ | ⟨_,e⟩
  ·rcases hb g d with a | x
   ·exact h.off k o g n a
   ·cases hF:F g with
    | none=>rfl
    | some _=>have:=h.aaw (b:=g) (by rw[hF];simp);omega
  ·exact h.off j p g e d
 ·rcases c j p e with⟨l,z⟩ | ⟨l,t⟩<;>rcases c q r y with⟨m,u⟩ | ⟨m,s⟩
  ·exact l.trans m.symm
  ·subst z;rcases hb g d with a | x
   ·exact o4 (h.sep q k r o g s n f a) m
   ·have:=Own.aaq (h.own q r s) f;omega
  ·subst u;rcases hb g f with a | x
   ·exact o4 (h.sep j k p o g t n d a) l
   ·have:=Own.aaq (h.own j p t) d;omega
  ·exact h.sep j q p r g t s d f
theorem St.freeze {F:aD}{L:Loc}{w:World}(h:St F L w) {g:Nat}{o:Obj}(c:w.heap[g]?=some o) (d:¬L.owns g) :
  St (fun b=>if b=g then some o else F b) L w:=by
 refine⟨fun b p e=>?_,h.own,fun k p b e hb=>?_,h.sep,sM.mono ?_ h.glob⟩
 ·split at e
  ·rename_i a;subst a;injection e with e;subst e;exact c
  ·exact h.frz b p e
 ·split
  ·rename_i a;subst a;exact o4 ⟨k,p,e,hb⟩ d
  ·exact h.off k p b e hb
 ·intro b p e;simp only[];split
  ·rename_i a;subst a;rw[<-h.frz b p e,c]
  ·exact e
theorem aD.aas {F:aD}{w:World}{L:Loc}(h:St F L w) {g:Nat}{o:Obj}(c:w.heap[g]?=some o):F.le (fun b=>if b=g then some o else F b):=by
 intro b p e;simp only[];split
 ·rename_i a;subst a;rw[<-h.frz b p e,c]
 ·exact e
theorem Step.refl (F:aD) (L:Loc) (w:World):Step F L w F L w :=
 ⟨aD.le_refl F,rfl,rfl,rfl,aa7 _,fun _ _ _=>rfl,fun _ h=>.inl h,fun _ h=>.inl h⟩
theorem Step.trans {F F' F'':aD}{L L' L'':Loc}{w w' c:World}(h:Step F L w F' L' w') (k:Step F' L' w' F'' L'' c):Step F L w F'' L'' c:=by
 refine⟨aD.le_trans h.le k.le,k.os.trans h.os,k.tape.trans h.tape,k.output.trans h.output,abz h.size k.size,fun b hb e=>?_,fun b hb=>?_,fun b hb=>?_⟩
 ·rw[k.same b (abO hb h.size) (fun d=>by rcases h.own b d with d | d;exact e d;omega)];exact h.same b hb e
 ·rcases k.frz b hb with a | a | a
  ·exact h.frz b a
  ·exact .inr (h.own b a)
  ·exact .inr (.inr (abz h.size a))
 ·rcases k.own b hb with a | a
  ·exact h.own b a
  ·exact .inr (abz h.size a)
theorem Step.mk' {F F':aD}{L L':Loc}{w w':World}(le:F.le F') (a:w.grownBy w' none) (frz:∀b,F' b≠none->F b≠none\/L.owns b\/w.heap.size<=b)
  (own:∀b,L'.owns b->L.owns b\/w.heap.size<=b):Step F L w F' L' w' :=
 ⟨le,a.os,a.tape,a.output,a.size,fun b hb _=>a.block b hb (by simp),frz,own⟩
theorem Loc.aal {L:Loc}{k:Nat}{o:Own}{b:Nat}(h:(L.set k o).owns b):o.blk=some b\/L.owns b:=by
 obtain⟨j,p,e,hb⟩:=h;rw[Loc.aac] at e;split at e
 ·injection e with e;subst e;exact .inl hb
 ·exact .inr ⟨j,p,e,hb⟩
theorem Loc.aat {L:Loc}{k b:Nat}(h:(L.del k).owns b):L.owns b:=by
 obtain⟨j,p,e,hb⟩:=h;rw[Loc.aai] at e;split at e
 ·cases e
 ·exact⟨j,p,e,hb⟩
theorem Loc.aaA (L:Loc) (k:Nat):L.part (L.del k):=by
 intro j o e;rw[Loc.aai] at e;split at e
 ·cases e
 ·exact e
theorem bU.mono {F G:aD}(h:F.le G) {a:Option Addr}{j:Nat}{cs:List Value}(c:bU F a j cs):bU G a j cs:=by
 obtain⟨k,b,t,d,e,l,f,m⟩:=c;exact⟨k,b,t,d,e,h _ _ l,f,m⟩
theorem ck {b o n:Nat}:(⟨b,o,none⟩:Addr).add n=⟨b,o+n,none⟩:=by
 unfold Addr.add;split<;>simp_all
theorem bU.cell {F:aD}{L:Loc}{w:World}(h:St F L w) {a:Option Addr}{j:Nat}{cs:List Value}(c:bU F a j cs) :
  ∃d,a=some d/\d.spot=none/\∀i v,cs[i]?=some v->w.cell? (d.add (j+i))=some v:=by
 obtain⟨d,k,t,p,e,n,f,m⟩:=c;refine⟨d,e,f,fun i v l=>?_⟩;obtain⟨b,o,q⟩:=d;simp only at f;subst f;rw[ck];have:=h.frz b _ n;simp only[World.cell?,this];simpa[Nat.add_assoc] using(m i v l).1
def br:Operand->Option X
 | .tmp t=>some (.t t)
 | .const v=>some (.c v)
 | .func f=>some (.fn f)
 | .global _=>none
def gM:List Operand->Option (List X)
 | []=>some []
 | o::l=>match br o,gM l with
  | some x,some xs=>some (x::xs)
  | _,_=>none
def qz:Option Operand->Option (Option X)
 | none=>some none
 | some o=>match br o with | some x=>some (some x) | none=>none
def dH:TypeDesc->Bool
 | .struct _ | .array _ _=>true
 | _=>false
def S9 (i:TypeInfo):Option (List Value):=match i.zero with | some z=>some z.cells.toList | none=>none
def oJ (P:Program) (fs:Array Field):List (Nat×Operand)->Option (List (Nat×Nat×X))
 | []=>some []
 | (i,o)::l=>match fs[i]?,br o,oJ P fs l with
  | some f,some x,some ps=>match P.info? f.type with
   | some j=>some ((f.offset,j.size,x)::ps)
   | none=>none
  | _,_,_=>none
def zX:Operand->Option eH
 | .global g=>match wD g with | some _=>some (.gload g) | none=>none
 | _=>none
def pG (P:Program):List Field->Nat->Option (List Bool)
 | [],_=>some []
 | f::fs,k=>match Nat.beq f.offset k,decide (f.name="_"),P.underlying f.type with
  | true,false,some (.int _)=>match pG P fs (k+1) with | some ks=>some (true::ks) | none=>none
  | true,false,some .bool=>match pG P fs (k+1) with | some ks=>some (false::ks) | none=>none
  | _,_,_=>none
def xu:X->Bool
 | .c .nilIface=>true
 | _=>false
def iD (P:Program) (own:Bool) (o:Op):Option eH :=
 match o with
 | .move x | .assign x=>match br x with | some x=>some (.mov x) | none=>none
 | .pick c a b=>match br c,br a,br b with | some c,some a,some b=>some (.pick c a b) | _,_,_=>none
 | .box t x=>match br x,decide (t=0) with | some x,false=>some (match own with | true=>.boxF t x | false=>.box t x) | _,_=>none
 | .alloc t=>match P.info? t,decide (t=0) with
  | some i,false=>match S9 i with | some z=>some (.alloc t z) | none=>none
  | _,_=>none
 | .buildSlice t n ps=>match P.underlying t,gM (ps.toList.map (·.2)) with
  | some (.slice e),some xs=>match P.info? e with
   | some i=>match decide (ps.toList.map (·.1)=List.range n),decide (n*i.size<=2 ^ 24/\n<=2 ^ 24),i.zero with
    | true,true,some _=>some (match own with | true=>.mkR e n i.size xs | false=>.mkF e n i.size xs)
    | _,_,_=>none
   | none=>none
  | _,_=>none
 | .build t ps=>match P.underlying t,P.info? t with
  | some (.struct fs),some i=>match S9 i,oJ P fs ps.toList with
   | some z,some l=>match fs.toList.all (fun f=>(P.info? f.type).isSome),l.all (fun p=>Nat.ble (p.1+p.2.1) z.length) with
    | true,true=>some (.build z l)
    | _,_=>none
   | _,_=>none
  | _,_=>none
 | .lookup t x i ok=>match Mt with
  | true=>match P.underlying t,br x,br i,ok with
   | some (.map key e),some x,some i,true=>match P.underlying key,P.info? e with
    | some (.int .i64),some j=>match j.zero with
     | some (.int .i64 0)=>some (.look x i)
     | _=>none
    | _,_=>none
   | _,_,_,_=>none
  | false=>match P.underlying t,br x,br i with
   | some (.map key e),some x,some i=>match P.underlying key,P.info? e with
    | some (.int .i64),some j=>match j.zero with
     | some z=>some (.mlook false ok z x i)
     | none=>none
    | some .string,some j=>match j.zero with
     | some z=>some (.mlook true ok z x i)
     | none=>none
    | _,_=>none
   | _,_,_=>none
 | .makeMap _ none=>some .mkmap
 | .mapUpdate t x i v | .insert t x i v=>match P.underlying t,br x,br i,br v with
  | some (.map key _),some x,some i,some v=>match P.underlying key with
   | some (.int .i64)=>some (.mupd false x i v)
   | some .string=>some (.mupd true x i v)
   | _=>none
  | _,_,_,_=>none
 | .range t x=>match P.underlying t,br x with
  | some (.map _ _),some x=>some (.mrange x)
  | _,_=>none
 | .next x false=>match br x with | some x=>some (.mnext x) | none=>none
 | .entry x=>match br x with | some x=>some (.mentry x) | none=>none
 | .load t a=>match P.underlying t,P.info? t,br a with
  | some d,some i,some x=>some (match dH d with | true=>.load true i.size x | false=>.load false 1 x)
  | some (.map _ _),some _,none=>zX a
  | some (.interface _),some _,none=>match zX a with | some s=>some s | none=>some .dead
  | some _,some _,none=>some .dead
  | _,_,_=>none
 | .store t a x=>match P.info? t,br a,br x with
  | some i,some a,some x=>some (.store i.size a x)
  | _,_,_=>none
 | .nilCheck x=>match br x,PF P with | some x,true=>some (.nilck x) | _,_=>none
 | .binOp op t x y _=>match P.underlying t,br x,br y with
  | some d,some x,some y=>match d,op with
   | .bool,.eql=>some (.eqB false x y)
   | .bool,.neq=>some (.eqB true x y)
   | .pointer _,.eql=>some (.eqP false x y)
   | .pointer _,.neq=>some (.eqP true x y)
   | .slice _,.eql=>some (.eqS false x y)
   | .slice _,.neq=>some (.eqS true x y)
   | .func ..,.eql=>some (.eqF false x y)
   | .func ..,.neq=>some (.eqF true x y)
   | .interface _,.eql=>match xu y with | true=>some (.eqN false x) | false=>none
   | .interface _,.neq=>match xu y with | true=>some (.eqN true x) | false=>none
   | .struct fs,.eql=>match pG P fs.toList 0,P.stoodInHeld t,P.eqGuardType P.depth t with | some ks,false,false=>some (.eqA false ks x y) | _,_,_=>none
   | .struct fs,.neq=>match pG P fs.toList 0,P.stoodInHeld t,P.eqGuardType P.depth t with | some ks,false,false=>some (.eqA true ks x y) | _,_,_=>none
   | .int _,_ | .string,_=>some (.bin op x y)
   | _,_=>none
  | _,_,_=>none
 | .unOp op _ x=>match br x with | some x=>some (.un op x) | none=>none
 | .convert s t x=>match P.underlying s,P.underlying t,br x with
  | some (.int _),some (.int k),some x=>some (.conv k x)
  | some (.slice e),some .string,some x=>match P.underlying e with
   | some (.int .u8)=>some (.b2s x)
   | _=>none
  | some .string,some (.slice e),some x=>match P.underlying e with
   | some (.int .u8)=>some (.s2b e x)
   | _=>none
  | _,_,_=>none
 | .makeFunc (.func f) fi ca=>match gM fi.toList,gM ca.toList with
  | some fi,some ca=>some (.mkfn f fi ca)
  | _,_=>none
 | .makeFunc (.method nm) fi ca=>match gM fi.toList,ca.toList with
  | some [x],[]=>some (.mkmv nm x)
  | _,_=>none
 | .makeFunc (.methodOf t nm) fi ca=>match fi.toList,ca.toList with
  | [],[]=>some (.mov (.c (.func (.methodOf t nm) #[] #[])))
  | _,_=>none
 | .makeSlice t l c=>match P.underlying t,br l,br c with
  | some (.slice e),some l,some c=>match P.info? e with
   | some i=>match i.zero with
    | some z=>match decide (z.cells.size=i.size),decide (0<i.size) with
     | true,true=>some (.makeS e i.size i.bytes z.cells.toList l c)
     | _,_=>none
    | none=>none
   | none=>none
  | _,_,_=>none
 | .slice t x lo hi none=>match P.underlying t,br x,qz lo,qz hi with
  | some (.slice e),some x,some lo,some hi=>match P.info? e with
   | some i=>some (.slc i.size x lo hi)
   | none=>none
  | some .string,some x,some lo,some hi=>some (.slcS x lo hi)
  | _,_,_,_=>none
 | .fieldAddr t x f=>match P.underlying t,br x with
  | some (.struct fs),some x=>match fs[f]? with
   | some f=>match P.info? f.type with
    | some i=>match decide (i.size=0) with | true=>none | false=>some (.fieldA f.offset x)
    | none=>none
   | none=>none
  | _,_=>none
 | .field t x f=>match P.underlying t,br x with
  | some (.struct fs),some x=>match fs[f]? with
   | some f=>match P.underlying f.type,P.info? f.type with
    | some d,some i=>match dH d with
     | true=>some (.fieldV true f.offset i.size x)
     | false=>some (.fieldV false f.offset 1 x)
    | _,_=>none
   | none=>none
  | _,_=>none
 | .indexAddr t x i=>match P.underlying t,br x,br i with
  | some (.slice e),some x,some i=>match P.info? e with
   | some j=>some (.idxA j.size x i)
   | none=>none
  | _,_,_=>none
 | .index t x i=>match P.underlying t,br x,br i with
  | some .string,some x,some i=>some (.idxS x i)
  | _,_,_=>none
 | .makeInterface t x=>match P.underlying t,br x with
  | some (.interface _),_=>none
  | some _,some x=>some (.mkif t x)
  | _,_=>none
 | .typeAssert x _ t true=>match P.underlying t,P.info? t,br x with
  | some (.interface _),_,_=>none
  | some _,some i,some x=>match i.zero with | some z=>some (.tas t z x) | none=>none
  | _,_,_=>none
 | .panic x=>match br x with | some x=>some (.pan x) | none=>none
 | .extract x i=>match br x with | some x=>some (.extr x i) | none=>none
 | .call c=>match gM c.args.toList with
  | none=>none
  | some args=>match c.callee with
   | .value (.func f)=>match P.funcs[f]? with
    | some fn=>match fn.name == "runtime.NumGoroutine",fn.body.isSome with
     | false,true=>some (.call f args)
     | _,_=>none
    | none=>none
   | .value f=>match br f with | some x=>some (.callV x args) | none=>none
   | .invoke (.tmp n) nm=>some (.callV (.mt nm n) args)
   | .invoke _ _=>none
   | .builtin b=>match b,args,c.argTypes.toList with
    | .len,[x],[t]=>match P.underlying t with
     | some (.slice _)=>some (.len x)
     | some .string=>some (.lenS x)
     | some (.map _ _)=>some (.mlen x)
     | _=>none
    | .cap,[x],[t]=>match P.underlying t with
     | some (.slice _)=>some (.capa x)
     | _=>none
    | .max,args,_=>some (.mm true args)
    | .min,args,_=>some (.mm false args)
    | .append,[s,x],[t,t']=>match P.underlying t,P.underlying t' with
     | some (.slice e),some (.slice _)=>match P.info? e with
      | some i=>match i.zero with
       | some z=>match decide (t=t'),decide (z.cells.size=i.size),decide (0<i.size) with
        | true,true,true=>some (.app e i.size i.bytes z.cells.toList s x)
        | _,_,_=>none
       | none=>none
      | none=>none
     | some (.slice e),some .string=>match P.info? e with
      | some i=>match i.zero with
       | some (.int .u8 z)=>match decide (z=0),decide (i.size=1),decide (i.bytes=1) with
        | true,true,true=>some (.appS e s x)
        | _,_,_=>none
       | _=>none
      | none=>none
     | some (.slice e),some (.int _)=>match P.info? e with
      | some i=>match i.zero with
       | some (.int kz z)=>match decide (z=0),decide (i.size=1) with
        | true,true=>some (.appZ e i.bytes kz s x)
        | _,_=>none
       | _=>none
      | none=>none
     | _,_=>none
    | .copy,[s,x],[t,t']=>match P.underlying t,P.underlying t' with
     | some (.slice e),some (.slice _)=>match P.info? e with
      | some i=>match decide (t=t'),decide (i.size=1) with
       | true,true=>some (.copy e i.size s x)
       | _,_=>none
      | none=>none
     | some (.slice e),some .string=>match P.info? e with
      | some i=>match decide (i.size=1) with
       | true=>some (.copy e i.size s x)
       | _=>none
      | none=>none
     | _,_=>none
    | _,_,_=>none
 | _=>none
structure aH (L:Loc) (ρ:Env) (a:Act):Prop where
 eq:∀t,a.tmps.getD t undef=conc L (ρ t)
 own:∀t k off,ρ t=.own k off->∃g ty cs,L.get k=some (.box g ty cs)
 el:∀t ad j,ρ t=.el ad j->ad≠none
theorem aI {y:Operand}{x:X}(h:br y=some x) {L:Loc}{ρ:Env}{a:Act}(b:aH L ρ a):a.eval y=val L ρ x:=by
 cases y<;>simp only[br,vz,reduceCtorEq] at h<;>subst h
 ·exact b.eq _
 ·rfl
 ·rfl
theorem oK {y:Operand}{x:X}(h:br y=some x) {L:Loc}{ρ:Env}{a:Act}(b:aH L ρ a) {k off:Nat}(e:ev ρ x=.own k off):∃g ty cs,L.get k=some (.box g ty cs):=by
 cases y<;>simp only[br,vz,reduceCtorEq] at h<;>subst h
 ·exact b.own _ _ _ e
 ·cases e
 ·cases e
theorem rI {y:Operand}{x:X}(h:br y=some x) {L:Loc}{ρ:Env}{a:Act}(c:aH L ρ a) {b:Option Addr}{j:Nat}(e:ev ρ x=.el b j):b≠none:=by
 cases y<;>simp only[br,vz,reduceCtorEq] at h<;>subst h
 ·exact c.el _ _ _ e
 ·cases e
 ·cases e
theorem fK:∀{ys:List Operand}{xs:List X},gM ys=some xs->∀{L:Loc}{ρ:Env}{a:Act},aH L ρ a->ys.map a.eval=bn L ρ xs:=by
 intro ys
 induction ys with
 | nil=>intro xs h L ρ a b;simp only[gM,vz] at h;subst h;rfl
 | cons y ys c =>
  intro xs h L ρ a b;simp only[gM] at h;split at h
  ·rename_i x d e f;injection h with h
   subst h;simp only[aaS,bn,aI e b,c f b]
  ·cases h
def bg (F:aD) (L:Loc) (w:World) (a:Act) (K:cQ) (b:Act) (w':World):Prop :=
 ∃F' L' ρ',St F' L' w'/\aH L' ρ' b/\b.tmps.size=a.tmps.size/\b.defers=a.defers/\Step F L w F' L' w'/\K F' L' ρ'
theorem I6 (a:Act) (d:Option Nat) (v:Value) (b:∀k,d=some k->k<a.tmps.size) (t:Nat) :
  (a.put d v).tmps.getD t undef=match d with | some k=>if t=k then v else a.tmps.getD t undef | none=>a.tmps.getD t undef:=by
 cases d with
 | none=>rfl
 | some k =>
  have:=b k rfl;simp only[Act.put,abf,Array.getElem?_setIfInBounds]
  by_cases h:t=k
  ·subst h;simp[this]
  ·rw[o6 (by omega),o6 h]
theorem put_eq (d:Option Nat) (x:SV) (ρ:Env) (t:Nat):put d x ρ t=match d with | some k=>if t=k then x else ρ t | none=>ρ t:=by
 cases d with
 | none=>rfl
 | some k =>
  simp only[put];cases h:Nat.beq t k with
  | true=>have:=vv h;simp[this]
  | false=>have:=fJ h;simp[this]
theorem aH.put {L L':Loc}{ρ:Env}{a:Act}(h:aH L ρ a) {d:Option Nat}{v:Value}{x:SV}(s:∀k,d=some k->k<a.tmps.size)
  (p:conc L' x=v) (q:∀k off,x=.own k off->∃g ty cs,L'.get k=some (.box g ty cs)) (r:∀f j,x=.el f j->f≠none)
  (n:∀k g ty cs,L.get k=some (.box g ty cs)->∃cs',L'.get k=some (.box g ty cs')):aH L' (put d x ρ) (a.put d v):=by
 have l:∀t,a.tmps.getD t undef=conc L' (ρ t):=by
  intro t;rw[h.eq t];cases e:ρ t with
  | v x=>rfl
  | el a j=>rfl
  | own k off =>
   obtain⟨g,ty,cs,m⟩:=h.own t k off e;obtain⟨cs',c⟩:=n k g ty cs m;simp only[conc,m,c]
 refine⟨fun t=>?_,fun t k off e=>?_,fun t f j e=>?_⟩
 ·rw[I6 a d v s,put_eq];cases d with
  | none=>exact l t
  | some k =>
   simp only[];split
   ·exact p.symm
   ·exact l t
 ·rw[put_eq] at e;have b:∀k off,ρ t=.own k off->∃g ty cs,L'.get k=some (.box g ty cs):=by
   intro k off e;obtain⟨g,ty,cs,m⟩:=h.own t k off e;obtain⟨cs',c⟩:=n k g ty cs m;exact⟨g,ty,cs',c⟩
  cases d with
  | none=>exact b k off e
  | some u =>
   simp only[] at e;split at e
   ·exact q k off e
   ·exact b k off e
 ·rw[put_eq] at e;cases d with
  | none=>exact h.el t f j e
  | some u =>
   simp only[] at e;split at e
   ·exact r f j e
   ·exact h.el t f j e
theorem lg (a:Act) (d:Option Nat) (v:Value):(a.put d v).tmps.size=a.tmps.size:=by cases d<;>simp[Act.put]
theorem gY (a:Act) (d:Option Nat) (v:Value):(a.put d v).defers=a.defers:=by cases d<;>rfl
section
variable {P:Program}{F:aD}{L:Loc}{ρ:Env}{a:Act}{w:World}{K:cQ}{o:Oper}{Q:Exit->Act->World->Prop}
theorem bL (d:St F L w) (p:aH L ρ a) (m:∀k,o.dst=some k->k<a.tmps.size) {v:Value}{x:SV}
  (n:(execOp a.eval o).run P w=.ok (.value v) w) (f:conc L x=v) (h:∀k off,x=.own k off->∃g ty cs,L.get k=some (.box g ty cs)) (c:∀b j,x=.el b j->b≠none)
  (l:K F L (put o.dst x ρ)):o.wp P a w (bg F L w a K) Q:=by
 unfold Oper.wp;rw[n];exact⟨F,L,_,d,p.put m f h c (fun k g ty cs e=>⟨cs,e⟩),lg _ _ _,gY _ _ _,Step.refl _ _ _,l⟩
theorem gu (m:aH L ρ a) (q:∀k,o.dst=some k->k<a.tmps.size) {v:Value}{x:SV}{w':World}{F':aD}{L':Loc}
  (e:(execOp a.eval o).run P w=.ok (.value v) w') (d:St F' L' w') (b:Step F L w F' L' w') (f:conc L' x=v) (h:∀k off,x=.own k off->∃g ty cs,L'.get k=some (.box g ty cs)) (p:∀c j,x=.el c j->c≠none)
  (n:∀k g ty cs,L.get k=some (.box g ty cs)->∃cs',L'.get k=some (.box g ty cs')) (l:K F' L' (put o.dst x ρ)):o.wp P a w (bg F L w a K) Q:=by
 unfold Oper.wp;rw[e];exact⟨F',L',_,d,m.put q f h p n,lg _ _ _,gY _ _ _,b,l⟩
theorem tU (j:aH L ρ a) (f:∀k,o.dst=some k->k<a.tmps.size) {w':World}{F':aD}{L':Loc}
  (h:(execOp a.eval o).run P w=.ok .skip w') (c:St F' L' w') (b:Step F L w F' L' w')
  (l:∀k g ty cs,L.get k=some (.box g ty cs)->∃cs',L'.get k=some (.box g ty cs')) (d:K F' L' (put o.dst (.v undef) ρ)):o.wp P a w (bg F L w a K) Q:=by
 unfold Oper.wp;rw[h];exact⟨F',L',_,c,j.put f rfl (fun _ _ e=>by cases e) (fun _ _ e=>by cases e) l,lg _ _ _,gY _ _ _,b,d⟩
end
section
variable {P:Program}{F:aD}{L:Loc}{ρ:Env}{a:Act}{w:World}{K:cQ}{o:Oper}{Q:Exit->Act->World->Prop}
theorem bS {v:Value}{L:Loc}:∀k off,SV.v v=.own k off->∃g ty cs,L.get k=some (.box g ty cs):=fun _ _ e=>by cases e
theorem dG {v:Value}:∀b j,SV.v v=.el b j->b≠none:=fun _ _ e=>by cases e
theorem rJ (L:Loc):∀k g ty cs,L.get k=some (.box g ty cs)->∃cs',L.get k=some (.box g ty cs'):=fun k g ty cs e=>⟨cs,e⟩
theorem bH {x:X}{v:Value}{L:Loc}{ρ:Env}(h:ev ρ x=.v v):val L ρ x=v:=by simp only[val,h,conc]
theorem I7 {y:Operand}{x:X}(f:St F L w) (c:aH L ρ a) (l:∀k,o.dst=some k->k<a.tmps.size)
  (b:o.op=.move y\/o.op=.assign y) (d:br y=some x) (h:evalOp P (.mov x) o.dst F L ρ K):o.wp P a w (bg F L w a K) Q:=by
 refine bL f c l (v:=a.eval y) (x:=ev ρ x) ?_ (aI d c).symm (fun k off e=>oK d c e) (fun m j e=>rI d c e) h;rcases b with b | b<;>simp only[execOp,b]<;>rfl
theorem Mx {c y z:Operand}{t n f:X}(q:St F L w) (b:aH L ρ a) (s:∀k,o.dst=some k->k<a.tmps.size)
  (r:o.op=.pick c y z) (hc:br c=some t) (m:br y=some n) (l:br z=some f) (d:evalOp P (.pick t n f) o.dst F L ρ K):o.wp P a w (bg F L w a K) Q:=by
 have p:=aI hc b;simp only[evalOp,aL] at d;split at d
 ·rename_i h;refine bL q b s (v:=a.eval y) (x:=ev ρ n) ?_ (aI m b).symm (fun k off e=>oK m b e) (fun u j e=>rI m b e) d;simp only[execOp,r,p,val,h,conc];simp[asBool]
 ·rename_i h;refine bL q b s (v:=a.eval z) (x:=ev ρ f) ?_ (aI l b).symm (fun k off e=>oK l b e) (fun u j e=>rI l b e) d;simp only[execOp,r,p,val,h,conc];simp[asBool]
 ·exact d.elim
theorem gP (w:World) (o:Obj):(w.alloc o).heap[w.heap.size]?=some o:=heap_alloc_new w o
theorem qA {F:aD}{L:Loc}{w:World}(c:St F L w):F w.heap.size=none/\¬L.owns w.heap.size:=by
 refine⟨?_,fun h=>?_⟩
 ·cases h:F w.heap.size with
  | none=>rfl
  | some _=>have:=c.aaw (b:=w.heap.size) (by rw[h];simp);omega
 ·have:=c.aaB h;omega
theorem St.alloc (c:St F L w) (o:Obj):St F L (w.alloc o):=c.keep fun b hb=>Below.heap_alloc w o b hb
theorem mV (m:St F L w) {k:Nat}(n:L.get k=none) {ob:Obj}{e:Own}(hb:e.blk=some w.heap.size) (l:e.ok (w.alloc ob)) :
  St F (L.set k e) (w.alloc ob)/\Step F L w F (L.set k e) (w.alloc ob) /\
   (∀j g ty xs,L.get j=some (.box g ty xs)->∃cs',(L.set k e).get j=some (.box g ty cs')):=by
 obtain⟨r,p⟩:=qA m;refine⟨(m.alloc _).put n l fun g c=>?_,?_,fun j g ty xs f=>?_⟩
 ·rw[hb] at c;injection c with c;subst c;exact⟨r,p⟩
 ·refine Step.mk' (aD.le_refl F) (World.grownBy_alloc w _ none) (fun b hb=>.inl hb) fun b q=>?_;rcases Loc.aal q with h | h
  ·rw[hb] at h;injection h with h;exact .inr (by omega)
  ·exact .inl h
 ·rw[Loc.aac];split
  ·rename_i d;subst d;rw[n] at f;cases f
  ·exact⟨xs,f⟩
theorem kK (c:St F L w) {k:Nat}(d:L.get k=none) {cs:Array Value}{t:TypeId}{e:Own}(hb:e.blk=some w.heap.size) (b:e.ok (w.alloc (.cells cs t))) :
  St F (L.set k e) (w.alloc (.cells cs t))/\Step F L w F (L.set k e) (w.alloc (.cells cs t)) /\
   (∀j g ty xs,L.get j=some (.box g ty xs)->∃cs',(L.set k e).get j=some (.box g ty cs')):=mV c d hb b
theorem QT {y:Operand}{x:X}{t:TypeId}(j:St F L w) (h:aH L ρ a) (s:∀k,o.dst=some k->k<a.tmps.size)
  (n:o.op=.box t y) (p:br y=some x) (d:t≠0) (c:evalOp P (.box t x) o.dst F L ρ K):o.wp P a w (bg F L w a K) Q:=by
 simp only[evalOp,aL] at c;split at c
 case h_2=>exact c.elim
 rename_i _ k f;split at c
 case h_2=>exact c.elim
 rename_i _ q;have c:=c w.heap.size;have b:(Value.cells (a.eval y)).toList=aK (val L ρ x):=by
  rw[aI p h];cases val L ρ x<;>rfl
 obtain⟨r,l,m⟩:=kK j q (cs:=(a.eval y).cells) (t:=t) (e:=.box w.heap.size t (aK (val L ρ x))) rfl
  (by show _=_;rw[gP,ij d,<-b])
 refine gu h s (v:=.pointer (some ⟨w.heap.size,0,none⟩)) (x:=.own k 0) ?_ r l ?_ ?_ (fun _ _ e=>by cases e) m c
 ·simp[execOp,n,Instr.box,newVar,newRow]
 ·simp only[conc,Loc.aac,aa9]
 ·rintro u off e;injection e with e1 e2
  subst e1;exact⟨_,_,_,by rw[Loc.aac,eu rfl]⟩
theorem I8 {t:TypeId}{i:TypeInfo}{zs:List Value}(j:St F L w) (p:aH L ρ a) (s:∀k,o.dst=some k->k<a.tmps.size)
  (n:o.op=.alloc t) (hi:P.info? t=some i) (c:S9 i=some zs) (d:t≠0) (b:evalOp P (.alloc t zs) o.dst F L ρ K):o.wp P a w (bg F L w a K) Q:=by
 simp only[evalOp,aL] at b;split at b
 case h_2=>exact b.elim
 rename_i _ k h;split at b
 case h_2=>exact b.elim
 rename_i _ q;have b:=b w.heap.size;unfold S9 at c;split at c
 case h_2=>cases c
 rename_i z f;injection c with c
 obtain⟨r,l,m⟩:=kK j q (cs:=z.cells) (t:=t) (e:=.box w.heap.size t zs) rfl
  (by show _=_;rw[gP,ij d,<-c])
 refine gu p s (v:=.pointer (some ⟨w.heap.size,0,none⟩)) (x:=.own k 0) ?_ r l ?_ ?_ (fun _ _ e=>by cases e) m b
 ·simp[execOp,n,Instr.alloc,zeroValue,typeInfo,hi,f,newVar,newRow]
 ·simp only[conc,Loc.aac,aa9]
 ·rintro u off e;injection e with e1 e2
  subst e1;exact⟨_,_,_,by rw[Loc.aac,eu rfl]⟩
theorem wG {t:TypeId}{l:List Value}{n:Nat}(h:jg t l n=true):t≠0:=by
 rintro rfl;simp[jg] at h
theorem Bh {t:TypeId}{l:List Value}{n:Nat}(h:jg t l n=true):fH l n=true:=by
 unfold jg at h;split at h
 ·cases h
 ·exact h
theorem fU {t:TypeId}{l:List Value}{n:Nat}(h:t≠0) (b:fH l n=true):jg t l n=true:=by
 unfold jg;split
 ·rename_i e;exact o4 (vv e) h
 ·exact b
theorem iS:∀{l:List Value}{n:Nat},fH l n=true->l.length=n
 | [],0,_=>rfl
 | _::l,n+1,h=>by simp only[fH] at h;simp[iS h]
 | [],_+1,h=>by simp[fH] at h
 | _::_,0,h=>by simp[fH] at h
theorem iE {cs vs:List Value}{off:Nat}(h:off+vs.length<=cs.length) (n:Nat) :
  (aP cs off vs)[n]?=if n<off then cs[n]? else if n<off+vs.length then vs[n-off]? else cs[n]?:=by
 unfold aP;have c:(cs.take off).length=off:=by simp;omega
 by_cases b:n<off
 ·rw[eu b,aaR,aaW (by omega),List.getElem?_take_of_lt b]
 ·rw[o6 b]
  by_cases d:n<off+vs.length
  ·rw[eu d,aaR,aa2 (by omega),aaW (by omega),c]
  ·rw[o6 d,aaR,aa2 (by omega),aa2 (by omega),c,abj];congr 1;omega
theorem My (vs:List Value):∀(off j:Nat) (cells:Array Value),off+j+vs.length<=cells.size ->
  ((vs.zipIdx j).foldl (fun cs (c,j)=>cs.setIfInBounds (off+j) c) cells).toList=aP cells.toList (off+j) vs:=by
 induction vs with
 | nil=>intro off j cells h;simp[aP]
 | cons v vs e =>
  intro off j cells h;simp only[List.zipIdx_cons,List.foldl_cons,aaV] at h ⊢;have:=e off (j+1) (cells.setIfInBounds (off+j) v) (by simp;omega);rw[this];apply abp;intro n;rw[iE (by simp;omega),iE (by simp;omega)];simp only[Array.toList_setIfInBounds,aaV]
  by_cases f:n=off+j
  ·subst f;rw[eu (by omega),o6 (by omega),eu (by omega),List.getElem?_set_self (by simp;omega)];simp
  ·by_cases b:n<off+j
   ·rw[eu (by omega),eu b,abK (by omega)]
   ·by_cases d:n<off+(j+1)+vs.length
    ·rw[o6 (by omega),eu d,o6 b,eu (by omega),show n-(off+j)=(n-(off+(j+1)))+1 by omega,abx]
    ·rw[o6 (by omega),o6 d,o6 b,o6 (by omega),abK (by omega)]
theorem CI (vs:Array Value) (off:Nat) (cells:Array Value) (h:off+vs.size<=cells.size) :
  (vs.zipIdx.foldl (fun cs (x:Value×Nat)=>cs.setIfInBounds (off+x.2) x.1) cells).toList=aP cells.toList off vs.toList:=by
 have:=My vs.toList off 0 cells (by simpa using h);rw[Nat.add_zero] at this;rw[<-this];congr 1;rw[<-Array.foldl_toList,Array.toList_zipIdx]
theorem fE (cs:List Value) (off:Nat) (vs:List Value) (h:off+vs.length<=cs.length):(aP cs off vs).length=cs.length:=by
 simp[aP];omega
theorem oL (v:Value):aK v=v.cells.toList:=by cases v<;>rfl
theorem Eu (sz n:Nat):∀(vs:List Value) (k:Nat) (cells:Array Value),cells.size=n*sz->k+vs.length=n->(∀v∈vs,v.cells.size=sz) ->
  ∃out,Instr.fill (fun i=>some (i*sz,sz)) cells ((List.range' k vs.length).zip vs)=some out /\
   out.toList=cells.toList.take (k*sz)++(vs.map (fun v=>v.cells.toList)).flatten:=by
 intro vs
 induction vs with
 | nil =>
  intro k cells h d e;refine⟨cells,by simp[Instr.fill],?_⟩;simp at d ⊢;subst d;rw[abv (by simp;omega)]
 | cons v vs l =>
  intro k cells h d e;have f:=e v (by simp);have r:k*sz+sz<=n*sz:=by
   rw[<-Nat.succ_mul];exact Nat.mul_le_mul_right _ (by simp at d;omega)
  simp only[aaV,List.range'_succ,List.zip_cons_cons,Instr.fill];rw[o6 (by simp[f];omega)];have b:=CI v.cells (k*sz) cells (by omega);have c:(v.cells.zipIdx.foldl (fun cs (x:Value×Nat)=>cs.setIfInBounds (k*sz+x.2) x.1) cells).size=n*sz:=by
   rw[<-Array.length_toList,b,fE _ _ _ (by simp;omega)];simpa using h
  obtain⟨out,p,q⟩:=l (k+1) _ c (by simp at d;omega) (fun u m=>e u (by simp[m]));refine⟨out,p,?_⟩;rw[q,b];simp only[aP,aaS,List.flatten_cons,<-aaR];congr 1;rw[Nat.succ_mul];have j:v.cells.toList.length=sz:=by simpa using f
  apply abp;intro i
  by_cases s:i<k*sz
  ·rw[List.getElem?_take_of_lt (by omega),aaR,aaW (by simp;omega),aaW (by simp;omega)]
  ·by_cases t:i<k*sz+sz
   ·rw[List.getElem?_take_of_lt (by omega),aaR,aa2 (by simp;omega),aaW (by simp;omega),aa2 (by simp;omega)]
   ·rw[aaY (by simp;omega),aaY (by simp;omega)]
end
section
variable {P:Program}{F:aD}{L:Loc}{ρ:Env}{a:Act}{w:World}{K:cQ}{o:Oper}{Q:Exit->Act->World->Prop}
theorem xw (L:Loc) (ρ:Env):∀xs:List X,cellsOf L ρ xs=((bn L ρ xs).map fun v=>v.cells.toList).flatten
 | []=>rfl
 | x::xs=>by simp only[cellsOf,bn,aaS,List.flatten_cons,xw L ρ xs,oL]
theorem zY {L:Loc}{ρ:Env}{sz:Nat}:∀{xs:List X},fI L ρ sz xs=true->∀v∈bn L ρ xs,v.cells.size=sz
 | [],_,v,b=>by cases b
 | x::xs,h,v,b=>by
  simp only[fI] at h;split at h
  ·rename_i c;simp only[bn,xC] at b;rcases b with rfl | b
   ·have:=iS c;rw[oL] at this;simpa using this
   ·exact zY h v b
  ·cases h
theorem mA (L:Loc) (ρ:Env):∀xs:List X,(bn L ρ xs).length=xs.length
 | []=>rfl
 | _::xs=>by simp[bn,mA L ρ xs]
theorem qB {L:Loc}{ρ:Env}{sz:Nat}:∀{xs:List X},fI L ρ sz xs=true->(cellsOf L ρ xs).length=xs.length*sz
 | [],_=>by simp[cellsOf]
 | x::xs,h=>by
  simp only[fI] at h;split at h
  ·rename_i b;have:=iS b;simp only[cellsOf,yo,this,qB h,aaV,Nat.succ_mul];omega
  ·cases h
theorem Ev {ps:List (Nat×Operand)}{f:Operand->Value}{n:Nat}(h:ps.map (·.1)=List.range n) :
  ps.map (fun p=>(p.1,f p.2))=(List.range' 0 ps.length).zip ((ps.map (·.2)).map f):=by
 have b:ps.length=n:=by have:=j3 List.length h;simpa using this
 rw[b,<-List.range_eq_range',<-h]
 clear h b
 induction ps with
 | nil=>rfl
 | cons p ps c=>simp[c]
theorem qC {t e n:Nat}{ps:Array (Nat×Operand)}{i:TypeInfo}{z:Value}{xs:List X}(ht:P.underlying t=some (.slice e)) (hi:P.info? e=some i) (v:i.zero=some z)
  (hx:gM (ps.toList.map (·.2))=some xs) (q:ps.toList.map (·.1)=List.range n) (hb:n*i.size<=2 ^ 24) (y:fI L ρ i.size xs=true) (he:aH L ρ a) :
  (Instr.buildSlice t n (ps.map fun(j,x)=>(j,a.eval x))).run P w=.ok (.slice (some ⟨w.heap.size,0,none⟩) n n) (w.alloc (.cells (cellsOf L ρ xs).toArray e))/\xs.length=n:=by
 have l:=fK hx he;have d:xs.length=n:=by
  have k:=j3 List.length l;have m:=j3 List.length q;simp only[aa3,mA,List.length_range] at k m;omega
 have r:ps.toList.length=n:=by have:=j3 List.length q;simpa using this
 have b:(ps.map fun(x:Nat×Operand)=>(x.1,a.eval x.2)).toList=(List.range' 0 (bn L ρ xs).length).zip (bn L ρ xs):=by
  rw[Array.toList_map,Ev q,l,mA,d,r]
 have h:=fun(cells:Array Value) (hc:cells.size=n*i.size)=>Eu i.size n (bn L ρ xs) 0 cells hc (by rw[mA];omega) (zY y);refine⟨?_,d⟩;have s:∀zero:Array Value,((Array.range (n*i.size)).map (zero[· % zero.size]!)).size=n*i.size:=fun _=>by simp
 obtain⟨out,k,m⟩:=h ((Array.range (n*i.size)).map ((if n*i.size=0 then #[] else z.cells)[· % (if n*i.size=0 then #[] else z.cells).size]!)) (s _);have c:out=(cellsOf L ρ xs).toArray:=by
  apply Array.ext';rw[m,xw];simp
 have p:¬(n*i.size>2 ^ 24):=by omega
 unfold Instr.buildSlice;simp only[Sem.run_bind,run_underlying ht,Result.andThen_ok,sizeOf,typeInfo,hi,run_program,Sem.run_pure,o6 p,zeroValue,v]
 by_cases u:n*i.size=0
 ·simp only[u,aa9] at k ⊢
  try simp only[Sem.run_pure,Result.andThen_ok]
  rw[b];have f:=k;simp only[f,c,newRow,Sem.run_bind,run_newObj,Result.andThen_ok,Sem.run_pure];rfl
 ·simp only[u,abn] at k ⊢;simp only[Sem.run_bind,hi,v,run_program,Sem.run_pure,Result.andThen_ok];rw[b];have f:=k;simp only[f,c,newRow,Sem.run_bind,run_newObj,Result.andThen_ok,Sem.run_pure];rfl
theorem Mz {t:TypeId}{y:Operand}{x:X}(f:St F L w) (n:aH L ρ a) (r:∀k,o.dst=some k->k<a.tmps.size)
  (p:o.op=.box t y) (q:br y=some x) (m:evalOp P (.boxF t x) o.dst F L ρ K):o.wp P a w (bg F L w a K) Q:=by
 simp only[evalOp] at m;have c:(a.eval y).cells=(aK (val L ρ x)).toArray:=by
  apply Array.ext';rw[aI q n];cases val L ρ x<;>rfl
 have d:=gP w (.cells (aK (val L ρ x)).toArray t);obtain⟨s,l⟩:=qA f;have j:=(f.alloc (.cells (aK (val L ρ x)).toArray t)).freeze d l;have e:=aD.aas (f.alloc (.cells (aK (val L ρ x)).toArray t)) d;refine gu n r (v:=.pointer (some ⟨w.heap.size,0,none⟩)) (x:=.v (.pointer (some ⟨w.heap.size,0,none⟩))) ?_ j (Step.mk' e (World.grownBy_alloc w _ none) ?_ fun b h=>.inl h) rfl bS dG (rJ L) (m w.heap.size _ e (by simp))
 ·simp[execOp,p,Instr.box,newVar,newRow,c]
 ·intro b hb
  by_cases h:b=w.heap.size
  ·exact .inr (.inr (by omega))
  ·simp only[o6 h] at hb;exact .inl hb
theorem QU {t e n:Nat}{ps:Array (Nat×Operand)}{i:TypeInfo}{z:Value}{xs:List X}(l:St F L w) (q:aH L ρ a) (hd:∀k,o.dst=some k->k<a.tmps.size)
  (ho:o.op=.buildSlice t n ps) (ht:P.underlying t=some (.slice e)) (hi:P.info? e=some i) (y:i.zero=some z)
  (hx:gM (ps.toList.map (·.2))=some xs) (u:ps.toList.map (·.1)=List.range n) (hb:n*i.size<=2 ^ 24) (j:evalOp P (.mkF e n i.size xs) o.dst F L ρ K):o.wp P a w (bg F L w a K) Q:=by
 simp only[evalOp,aL] at j;split at j
 case h_2=>exact j.elim
 rename_i s;obtain⟨f,r⟩:=qC (w:=w) ht hi y hx u hb s q;have c:=gP w (.cells (cellsOf L ρ xs).toArray e);obtain⟨hf,p⟩:=qA l;have m:=(l.alloc (.cells (cellsOf L ρ xs).toArray e)).freeze c p;have d:=aD.aas (l.alloc (.cells (cellsOf L ρ xs).toArray e)) c;refine gu q hd (v:=.slice (some ⟨w.heap.size,0,none⟩) n n) (x:=.v (.slice (some ⟨w.heap.size,0,none⟩) n n)) ?_ m (Step.mk' d (World.grownBy_alloc w _ none) ?_ fun b h=>.inl h) rfl bS dG (rJ L) (j w.heap.size _ d (by simp))
 ·simp only[execOp,ho,Sem.run_bind,f,Result.andThen_ok,Sem.run_pure]
 ·intro b hb
  by_cases h:b=w.heap.size
  ·exact .inr (.inr (by omega))
  ·simp only[o6 h] at hb;exact .inl hb
theorem mB (w:World) (cs:List Value) (e:TypeId) (n sz:Nat) (c:n<=maxLen) (b:cs.length=n*sz) :
  (w.alloc (.cells cs.toArray e)).ownsRow 0 e sz (.slice (some ⟨w.heap.size,0,none⟩) n n) n cs :=
 ⟨b,.inr ⟨w.heap.size,n,cs.toArray,rfl,abk _,gP w _,aa7 _,c,by simpa using b,by simp[<-b]⟩⟩
theorem QV {t e n:Nat}{ps:Array (Nat×Operand)}{i:TypeInfo}{z:Value}{xs:List X}(m:St F L w) (l:aH L ρ a) (hd:∀k,o.dst=some k->k<a.tmps.size)
  (u:o.op=.buildSlice t n ps) (ht:P.underlying t=some (.slice e)) (hi:P.info? e=some i) (s:i.zero=some z)
  (y:gM (ps.toList.map (·.2))=some xs) (q:ps.toList.map (·.1)=List.range n) (hb:n*i.size<=2 ^ 24) (hn:n<=2 ^ 24) (b:evalOp P (.mkR e n i.size xs) o.dst F L ρ K):o.wp P a w (bg F L w a K) Q:=by
 simp only[evalOp,aL] at b;split at b
 case h_2=>exact b.elim
 rename_i _ _ k j h;split at b
 case h_2=>exact b.elim
 rename_i _ hk;obtain⟨f,d⟩:=qC (w:=w) ht hi s y q hb j l;have c:=mB w (cellsOf L ρ xs) e n i.size (by simp only[maxLen];omega) (by rw[qB j,d]);obtain⟨h1,p,r⟩:=kK m hk (cs:=(cellsOf L ρ xs).toArray) (t:=e) (e:=.row (.slice (some ⟨w.heap.size,0,none⟩) n n) e i.size n (cellsOf L ρ xs)) rfl c;refine gu l hd (v:=.slice (some ⟨w.heap.size,0,none⟩) n n) (x:=.v (.slice (some ⟨w.heap.size,0,none⟩) n n)) ?_ h1 p rfl bS dG r (b w.heap.size);simp only[execOp,u,Sem.run_bind,f,Result.andThen_ok,Sem.run_pure]
def placeOf (P:Program) (f:Field):Nat×Nat:=(f.offset,P.cellsOf f.type)
def xH (f:Field):Sem (Nat×Nat):=do pure (f.offset,<-sizeOf f.type)
theorem zo {fs:Array Field}:∀{ps:List (Nat×Operand)}{l:List (Nat×Nat×X)},oJ P fs ps=some l->∀{cells:Array Value}{cs:List Value}(r:Array (Nat×Nat)),aH L ρ a ->
  (∀(j:Nat) (f:Field) (i:TypeInfo),fs[j]?=some f->P.info? f.type=some i->r[j]?=some (f.offset,i.size)) ->
  built L ρ cells.toList l=some cs->(∀off n x,(off,n,x)∈l->off+n<=cells.size) ->
  ∃out,Instr.fill (r[·]?) cells (ps.map fun p=>(p.1,a.eval p.2))=some out/\out.toList=cs:=by
 intro ps
 induction ps with
 | nil =>
  intro l h cells cs r t k hb e;simp only[oJ,vz] at h;subst h;simp only[built,vz] at hb;exact⟨cells,rfl,hb⟩
 | cons p ps ih =>
  intro l h cells cs r t k hb e;obtain⟨j,y⟩:=p;simp only[oJ] at h;split at h
  case h_2=>cases h
  rename_i f x l' hf hx u;split at h
  case h_2=>cases h
  rename_i i hi;injection h with h
  subst h;simp only[built] at hb;split at hb
  case h_2=>cases hb
  rename_i b;have b:=iS b;have q:=e f.offset i.size x (by simp);have m:=aI hx t;simp only[aaS,Instr.fill,k j f i hf hi];have s:(a.eval y).cells.size=i.size:=by rw[m];rw[oL] at b;simpa using b
  rw[o6 (by simp[s];omega)];have c:=CI (a.eval y).cells f.offset cells (by omega);have d:(a.eval y).cells.toList=aK (val L ρ x):=by rw[m,oL]
  rw[d] at c;refine ih u r t k (cs:=cs) ?_ ?_
  ·rw[c];exact hb
  ·intro off n z v;rw[<-Array.length_toList,c,fE _ _ _ (by rw[b];simpa using q)];simpa using e off n z (by simp[v])
theorem wm (P:Program) (w:World):∀(fs:List Field),(∀f:Field,f∈fs->(P.info? f.type).isSome=true) ->
  (fs.mapM xH).run P w=.ok (fs.map (placeOf P)) w:=by
 intro fs
 induction fs with
 | nil=>intro _;simp
 | cons f fs b =>
  intro h;have c:=h f (by simp);obtain⟨i,hi⟩:=Option.isSome_iff_exists.1 c;simp only[List.mapM_cons,xH,Sem.run_bind,sizeOf,typeInfo,run_program,Result.andThen_ok,hi,Sem.run_pure];rw[b (fun g d=>h g (by simp[d]))];simp[placeOf,Program.cellsOf,hi]
theorem I9 {t:Nat}{ps:Array (Nat×Operand)}{fs:Array Field}{i:TypeInfo}{zs:List Value}{l:List (Nat×Nat×X)}(hs:St F L w) (he:aH L ρ a) (hd:∀k,o.dst=some k->k<a.tmps.size)
  (ho:o.op=.build t ps) (ht:P.underlying t=some (.struct fs)) (hi:P.info? t=some i) (b:S9 i=some zs) (hl:oJ P fs ps.toList=some l) (c:∀f:Field,f∈fs.toList->(P.info? f.type).isSome=true)
  (m:∀off n x,(off,n,x)∈l->off+n<=zs.length) (h:evalOp P (.build zs l) o.dst F L ρ K):o.wp P a w (bg F L w a K) Q:=by
 simp only[evalOp,aL] at h;split at h
 case h_2=>exact h.elim
 rename_i cs y;unfold S9 at b;split at b
 case h_2=>cases b
 rename_i z r;injection b with b
 have s:∀(j:Nat) (f:Field) (i:TypeInfo),fs[j]?=some f->P.info? f.type=some i->(fs.map (placeOf P))[j]?=some (f.offset,i.size):=by
  intro j f i u q;simp[u,placeOf,Program.cellsOf,q]
 obtain⟨out,u,q⟩:=zo (a:=a) (cells:=z.cells) (cs:=cs) hl _ he s (by rw[b];exact y) (by intro off n x hm;have:=m off n x hm;rw[<-b] at this;simpa using this);have e:out=cs.toArray:=by apply Array.ext';simpa using q
 have d:(fs.mapM xH).run P w=.ok (fs.map (placeOf P)) w:=by
  rw[Array.mapM_eq_mapM_toList,Sem.run_map,wm P w _ c];simp only[Result.andThen_ok];congr 1;exact Array.ext' (by simp)
 refine bL hs he hd (v:=.agg cs.toArray) (x:=.v (.agg cs.toArray)) ?_ rfl bS dG h;simp only[execOp,ho,Instr.build,Sem.run_bind,zeroValue,typeInfo,run_program,Result.andThen_ok,hi,Sem.run_pure,r,run_underlying ht];rw[show(fs.mapM fun(f:Field)=>(do pure (f.offset,<-sizeOf f.type):Sem (Nat×Nat))).run P w=.ok (fs.map (placeOf P)) w from d];simp only[Result.andThen_ok];rw[show(ps.map fun(x:Nat×Operand)=>(x.1,a.eval x.2)).toList=ps.toList.map (fun p=>(p.1,a.eval p.2)) by simp,u,e];simp
theorem u5 {t:Nat}{d:TypeDesc}(b:P.underlying t=some d):(isAgg t).run P w=.ok (dH d) w:=by
 unfold isAgg;simp only[Sem.run_bind,run_underlying b,Result.andThen_ok];cases d<;>rfl
theorem pH {t:Nat}{d:TypeDesc}{i:TypeInfo}(k:P.underlying t=some d) (hi:P.info? t=some i) {c:Addr}{cs:List Value}{n:Nat}
  (h:∀j v,cs[j]?=some v->w.cell? (c.add j)=some v) (b:cs.length=n) (e:n=match dH d with | true=>i.size | false=>1) :
  (Instr.loadAt t (.pointer (some c))).run P w=.ok (gL (dH d) cs) w:=by
 simp only[Instr.loadAt,Instr.sureAddr,Sem.run_bind,Sem.run_pure,Result.andThen_ok,loadVar,u5 k];cases f:dH d with
 | true =>
  simp only[f] at e;simp only[aa9,Sem.run_bind,sizeOf,typeInfo,run_program,Result.andThen_ok,hi,Sem.run_pure];rw[<-e,<-b,run_loadCells_list w c cs h];rfl
 | false =>
  simp only[f] at e;subst e
  match cs,b with
  | [v],_ =>
   have:=h 0 v (by simp);rw[show c.add 0=c by simp[Addr.add]] at this;simp[run_load,this,gL]
theorem nQ {g:Nat}{t:TypeId}{cs:List Value}(b:t≠0) (h:Own.ok w (.box g t cs)) (n:Nat):w.cell? ⟨g,n,none⟩=cs[n]?:=by
 simp only[Own.ok,ij b] at h;simp[World.cell?,h]
theorem MA {t:Nat}{y:Operand}{x:X}{d:TypeDesc}{i:TypeInfo}{n:Nat}(hs:St F L w) (he:aH L ρ a) (hd:∀k,o.dst=some k->k<a.tmps.size)
  (ho:o.op=.load t y) (ht:P.underlying t=some d) (hi:P.info? t=some i) (hx:br y=some x) (hn:n=match dH d with | true=>i.size | false=>1)
  (q:evalOp P (.load (dH d) n x) o.dst F L ρ K):o.wp P a w (bg F L w a K) Q:=by
 have ec:=aI hx he;have s:∀(p:Option Addr) (j:Nat),p≠none->(jM F L p j n fun cs=>K F L (put o.dst (.v (gL (dH d) cs)) ρ))->a.eval y=conc L (.el p j)->o.wp P a w (bg F L w a K) Q:=by
  rintro p j av ⟨cs,aa,hc,q⟩ hy;cases p with
  | none=>exact o4 rfl av
  | some p =>
   have f:∀i v,cs[i]?=some v->w.cell? ((p.add j).add i)=some v:=by
    rcases hc with hc | ⟨k,v,t',sz,m,xs,az,c,hk,r,e2,hc⟩ | ay | ⟨k,g,t',bs,o',hk,ab,r,hc⟩
    ·obtain⟨az,e,an,aE⟩:=hc.cell hs;injection e with e
     subst e;intro i v hv;obtain⟨b,o',sp⟩:=p;simp only at an;subst an;rw[ck,ck,Nat.add_assoc,<-ck];exact aE i v hv
    ·injection r with r
     subst r;have z:=hs.own k _ hk;simp only[Own.ok] at z;subst e2;intro i u hu;have hb:=hc i u hu;have h0:=World.ownsRow.cells z (g:=p.block) rfl (j+i) u hb;rcases z.2 with⟨e,_⟩ | ⟨g,cap,bk,e,_⟩
     ·cases e
     ·injection e with r e2 e3
      injection r with r
      subst r;rw[ck,ck];rw[ck] at h0;simpa[Nat.add_assoc] using h0
    ·intro i v hv;rw[ay] at aa;have:cs=[]:=abg aa;subst this;simp at hv
    ·injection r with r
     subst r;intro i u hu;rw[ck,ck,nQ ab (hs.own k _ hk)];exact hc i u hu
   refine bL hs he hd (v:=gL (dH d) cs) (x:=.v (gL (dH d) cs)) ?_ rfl bS dG q;simp only[execOp,ho,hy,conc,Sem.run_bind,pH ht hi f aa hn,Result.andThen_ok,Sem.run_pure]
 simp only[evalOp,aL] at q;split at q
 ·rename_i k off l;split at q
  case h_2=>exact q.elim
  rename_i g ty cs hk;split at q
  case h_2=>exact q.elim
  rename_i hl;have ab:=wG hl;have hl:=iS (Bh hl);have am:=hs.own k _ hk;have f:∀j v,((cs.drop off).take n)[j]?=some v->w.cell? ((⟨g,off,none⟩:Addr).add j)=some v:=by
   intro j v hv;rw[ck,nQ ab am];have hj:j<n:=by
    have:=w7.1 hv;obtain⟨h,_⟩:=this;omega
   rw[List.getElem?_take_of_lt hj,abj] at hv;exact hv
  refine bL hs he hd (v:=gL (dH d) ((cs.drop off).take n)) (x:=.v (gL (dH d) ((cs.drop off).take n))) ?_ rfl bS dG q;have hy:a.eval y=.pointer (some ⟨g,off,none⟩):=by rw[ec];simp only[val,l,conc,hk]
  simp only[execOp,ho,hy,Sem.run_bind,pH ht hi f hl hn,Result.andThen_ok,Sem.run_pure]
 ·rename_i p j l;exact s p j (rI hx he l) q (by rw[ec];simp only[val,l])
 ·rename_i p l;refine s (some p) 0 (by simp) q ?_;rw[ec];simp only[val,l,conc];simp[Addr.add]
 ·exact q.elim
end
section
variable {P:Program}{F:aD}{L:Loc}{ρ:Env}{a:Act}{w:World}{K:cQ}{o:Oper}{Q:Exit->Act->World->Prop}
theorem zZ {k b:IntKind}(h:qy k b=true):k=b:=by cases k<;>cases b<;>first | rfl | cases h
theorem sN {op:BinOp}{t:TypeId}{x y:Operand}{u v:Value}(h:∀c,u≠.agg c) (b:u≠.nilIface):(eqGuard op t x y u v).run P w=.ok () w:=by
 have key:(eqGuard op t x y u v).run P w=.ok () w\/True:=.inr trivial;unfold eqGuard;cases op<;>simp only[Bool.not_true,Bool.not_false,aa9,aaX,abn]<;>first
  | rfl
  | (cases u<;>first | rfl | exact o4 rfl (h _) | exact o4 rfl b)
theorem toList_data (s:ByteArray):s.toList=s.data.toList:=ByteArray.toList_eq s
theorem wH (x y:List UInt8):(x == y)=decide (x=y):=by rw[Bool.eq_iff_iff];simp
theorem QW {t t':TypeId}{op:BinOp}{y z:Operand}{p z':X}(hs:St F L w) (he:aH L ρ a) (hd:∀k,o.dst=some k->k<a.tmps.size)
  (ho:o.op=.binOp op t y z t') (hy:br y=some p) (hz:br z=some z') (d:evalOp P (.bin op p z') o.dst F L ρ K):o.wp P a w (bg F L w a K) Q:=by
 have ey:=aI hy he;have ez:=aI hz he;have fin:∀v,(binOp op t (val L ρ p) (val L ρ z')).run P w=.ok v w->(∀c,val L ρ p≠.agg c)->val L ρ p≠.nilIface->K F L (put o.dst (.v v) ρ)->o.wp P a w (bg F L w a K) Q:=by
  intro v hr r h2 d;refine bL hs he hd (v:=v) (x:=.v v) ?_ rfl bS dG d;simp only[execOp,ho,ey,ez,Sem.run_bind,sN r h2,Result.andThen_ok,hr,Sem.run_pure]
 simp only[evalOp,aL] at d;split at d
 ·rename_i k n k' m j h;have b:=bH (L:=L) j;have e:=bH (L:=L) h;split at d
  ·rename_i l;have q:op=.shl\/op=.shr:=by cases op<;>simp_all [I4]
   have r:(binOp op t (.int k n) (.int k' m)).run P w=(Op.shift op k n k' m).run P w:=by rcases q with rfl | rfl<;>rfl
   rcases q with rfl | rfl
   ·obtain⟨hm,⟨d⟩⟩:=d;refine fin _ ?_ (by rw[b];simp) (by rw[b];simp) d;rw[b,e,r];simp[Op.shift,show¬m<0 by omega]
   ·obtain⟨hm,d⟩:=d;refine fin _ ?_ (by rw[b];simp) (by rw[b];simp) d;rw[b,e,r];simp[Op.shift,show¬m<0 by omega]
  ·rename_i l;split at d
   case h_2=>exact d.elim
   rename_i hk;have hk:=zZ hk;subst hk;cases op<;>simp only[binI] at d<;>first | (cases l;done) | skip
   ·obtain⟨d⟩:=d;exact fin _ (by rw[b,e];simp[binOp,Op.intArith]) (by rw[b];simp) (by rw[b];simp) d
   ·obtain⟨d⟩:=d;exact fin _ (by rw[b,e];simp[binOp,Op.intArith]) (by rw[b];simp) (by rw[b];simp) d
   ·obtain⟨d⟩:=d;exact fin _ (by rw[b,e];simp[binOp,Op.intArith]) (by rw[b];simp) (by rw[b];simp) d
   ·obtain⟨f,⟨d⟩⟩:=d;exact fin _ (by rw[b,e];simp[binOp,Op.intDiv,f]) (by rw[b];simp) (by rw[b];simp) d
   ·obtain⟨f,d⟩:=d;exact fin _ (by rw[b,e];simp[binOp,Op.intDiv,f]) (by rw[b];simp) (by rw[b];simp) d
   ·exact fin _ (by rw[b,e];simp[binOp,Op.intBits]) (by rw[b];simp) (by rw[b];simp) d
   ·exact fin _ (by rw[b,e];simp[binOp,Op.intBits]) (by rw[b];simp) (by rw[b];simp) d
   ·exact fin _ (by rw[b,e];simp[binOp,Op.intBits]) (by rw[b];simp) (by rw[b];simp) d
   ·exact fin _ (by rw[b,e];simp[binOp,Op.intBits]) (by rw[b];simp) (by rw[b];simp) d
   ·exact fin _ (by rw[b,e];simp[binOp,Op.intCmp];rfl) (by rw[b];simp) (by rw[b];simp) d
   ·exact fin _ (by rw[b,e];simp[binOp,Op.intCmp,bne];rfl) (by rw[b];simp) (by rw[b];simp) d
   ·exact fin _ (by rw[b,e];simp[binOp,Op.intCmp]) (by rw[b];simp) (by rw[b];simp) d
   ·exact fin _ (by rw[b,e];simp[binOp,Op.intCmp]) (by rw[b];simp) (by rw[b];simp) d
   ·exact fin _ (by rw[b,e];simp[binOp,Op.intCmp]) (by rw[b];simp) (by rw[b];simp) d
   ·exact fin _ (by rw[b,e];simp[binOp,Op.intCmp]) (by rw[b];simp) (by rw[b];simp) d
 ·rename_i s u j h;have b:=bH (L:=L) j;have e:=bH (L:=L) h;cases op<;>simp only[binS] at d<;>first | exact d.elim | skip
  ·obtain⟨aw,d⟩:=d;refine fin _ ?_ (by rw[b];simp) (by rw[b];simp) d;rw[b,e];have:¬(((s.size+u.size:Nat):Int)>IntKind.i64.max):=by omega
   simp only[binOp,Op.stringOp,o6 this];rfl
  ·exact fin _ (by rw[b,e];simp only[binOp,Op.stringOp,toList_data,wH];rfl) (by rw[b];simp) (by rw[b];simp) d
  ·exact fin _ (by rw[b,e];simp only[binOp,Op.stringOp,toList_data,wH];rfl) (by rw[b];simp) (by rw[b];simp) d
  ·exact fin _ (by rw[b,e];simp only[binOp,Op.stringOp,toList_data,wH];rfl) (by rw[b];simp) (by rw[b];simp) d
  ·exact fin _ (by rw[b,e];simp only[binOp,Op.stringOp,toList_data,wH];rfl) (by rw[b];simp) (by rw[b];simp) d
 ·exact d.elim
theorem Ja {t t':TypeId}{neg:Bool}{y z:Operand}{q j:X}(hs:St F L w) (f:aH L ρ a) (hd:∀k,o.dst=some k->k<a.tmps.size)
  (n:o.op=.binOp (if neg then .neq else .eql) t y z t') (u:P.underlying t=some .bool) (hy:br y=some q) (hz:br z=some j) (d:evalOp P (.eqB neg q j) o.dst F L ρ K):o.wp P a w (bg F L w a K) Q:=by
 have s:=aI hy f;have r:=aI hz f;simp only[evalOp,aL] at d;split at d
 case h_2=>exact d.elim
 rename_i b c h e;have m:=bH (L:=L) h;have p:=bH (L:=L) e;refine bL hs f hd (v:=.bool (n9 neg (decide (b=c)))) (x:=.v (.bool (n9 neg (decide (b=c))))) ?_ rfl bS dG d;have l:∀op:BinOp,(eqGuard op t y z (.bool b) (.bool c)).run P w=.ok () w:=fun op=>sN (by simp) (by simp);have hb:(b == c)=decide (b=c):=by cases b<;>cases c<;>rfl
 cases neg
 ·simp only[execOp,n,s,r,m,p,Sem.run_bind,l,Result.andThen_ok];have:=run_eql_bool (P:=P) w t b c u;rw[hb] at this;simp[this,n9]
 ·simp only[execOp,n,s,r,m,p,Sem.run_bind,l,Result.andThen_ok];have:=run_neq_bool (P:=P) w t b c u;rw[hb] at this;simp[this,n9]
theorem Ew {t e:TypeId}(h:P.underlying t=some (.pointer e)) (p:Option Addr):(Op.equal t (.pointer p) (.pointer none)).run P w=.ok p.isNone w:=by
 have key:∀d:Nat,(Op.equalIn (d+1) t (.pointer p) (.pointer none)).run P w=.ok p.isNone w:=fun d=>by
  cases p<;>simp[Op.equalIn,run_underlying h]
 exact key 9999
theorem QX {t e:TypeId}(h:P.underlying t=some (.slice e)) (p:Option Addr) (n c n' b:Nat):(Op.equal t (.slice p n c) (.slice none n' b)).run P w=.ok p.isNone w:=by
 have key:∀d:Nat,(Op.equalIn (d+1) t (.slice p n c) (.slice none n' b)).run P w=.ok p.isNone w:=fun d=>by
  cases p<;>simp[Op.equalIn,run_underlying h]
 exact key 9999
theorem QY {t:TypeId}{ps b:Array TypeId}{v:Bool}(h:P.underlying t=some (.func ps b v)):(Op.equal t .nilFunc .nilFunc).run P w=.ok true w:=by
 have key:∀d:Nat,(Op.equalIn (d+1) t .nilFunc .nilFunc).run P w=.ok true w:=fun d=>by
  simp[Op.equalIn,run_underlying h]
 exact key 9999
theorem QZ {t:TypeId}{ps b:Array TypeId}{v:Bool}{f:Fn}{x y:Array Value}(h:P.underlying t=some (.func ps b v)):(Op.equal t (.func f x y) .nilFunc).run P w=.ok false w:=by
 have key:∀d:Nat,(Op.equalIn (d+1) t (.func f x y) .nilFunc).run P w=.ok false w:=fun d=>by
  simp[Op.equalIn,run_underlying h]
 exact key 9999
theorem sO {t t':TypeId}{neg:Bool}{y z:Operand}{y' h:X}(hs:St F L w) (d:aH L ρ a) (hd:∀k,o.dst=some k->k<a.tmps.size)
  (r:o.op=.binOp (if neg then .neq else .eql) t y z t') (hy:br y=some y') (hz:br z=some h)
  (u v:Value) (b:Bool) (q:val L ρ y'=u) (hv:val L ρ h=v) (h1:∀c,u≠.agg c) (h2:u≠.nilIface) (l:∀k n,u≠.int k n) (f:∀s,u≠.string s) (h5:∀k n,u≠.float k n) (e:∀k n m,u≠.complex k n m)
  (j:(Op.equal t u v).run P w=.ok b w) (hK:K F L (put o.dst (.v (.bool (n9 neg b))) ρ)):o.wp P a w (bg F L w a K) Q:=by
 have ey:=aI hy d;have ez:=aI hz d;refine bL hs d hd (v:=.bool (n9 neg b)) (x:=.v (.bool (n9 neg b))) ?_ rfl bS dG hK;have p:∀op:BinOp,(eqGuard op t y z u v).run P w=.ok () w:=fun op=>sN h1 h2;cases neg
 ·simp only[execOp,r,ey,ez,q,hv,Sem.run_bind,p,Result.andThen_ok];have:binOp .eql t u v=(do pure (.bool (<-Op.equal t u v)):Sem Value):=by
   cases u<;>first | rfl | exact o4 rfl (l _ _) | exact o4 rfl (f _) | exact o4 rfl (h5 _ _) | exact o4 rfl (e _ _ _)
  simp[this,j,n9]
 ·simp only[execOp,r,ey,ez,q,hv,Sem.run_bind,p,Result.andThen_ok];have:binOp .neq t u v=(do pure (.bool (!(<-Op.equal t u v))):Sem Value):=by
   cases u<;>first | rfl | exact o4 rfl (l _ _) | exact o4 rfl (f _) | exact o4 rfl (h5 _ _) | exact o4 rfl (e _ _ _)
  simp[this,j,n9]
theorem Jb {t t' e:TypeId}{neg:Bool}{y z:Operand}{u s:X}(l:St F L w) (h:aH L ρ a) (r:∀k,o.dst=some k->k<a.tmps.size)
  (n:o.op=.binOp (if neg then .neq else .eql) t y z t') (q:P.underlying t=some (.pointer e)) (f:br y=some u) (m:br z=some s) (d:evalOp P (.eqP neg u s) o.dst F L ρ K):o.wp P a w (bg F L w a K) Q:=by
 simp only[evalOp,aL] at d;split at d
 ·rename_i k off b c;obtain⟨g,ty,cs,x⟩:=oK f h b;exact sO l h r n f m (.pointer (some ⟨g,off,none⟩)) (.pointer none) false (by simp only[val,b,conc,x]) (bH c) (by simp) (by simp) (by simp) (by simp) (by simp) (by simp) (Ew q _) d
 ·rename_i v j b c;exact sO l h r n f m (.pointer (some (v.add j))) (.pointer none) false (by simp only[val,b,conc]) (bH c) (by simp) (by simp) (by simp) (by simp) (by simp) (by simp) (Ew q _) d
 ·rename_i p b c;exact sO l h r n f m (.pointer p) (.pointer none) p.isNone (bH b) (bH c) (by simp) (by simp) (by simp) (by simp) (by simp) (by simp) (Ew q _) d
 ·exact d.elim
theorem Jc {t x e:TypeId}{neg:Bool}{y z:Operand}{j h:X}(l:St F L w) (s:aH L ρ a) (v:∀k,o.dst=some k->k<a.tmps.size)
  (r:o.op=.binOp (if neg then .neq else .eql) t y z x) (u:P.underlying t=some (.slice e)) (q:br y=some j) (m:br z=some h) (b:evalOp P (.eqS neg j h) o.dst F L ρ K):o.wp P a w (bg F L w a K) Q:=by
 simp only[evalOp,aL] at b;split at b
 ·rename_i p n c n' c' f d;exact sO l s v r q m (.slice p n c) (.slice none n' c') p.isNone (bH f) (bH d) (by simp) (by simp) (by simp) (by simp) (by simp) (by simp) (QX u _ _ _ _ _) b
 ·exact b.elim
theorem Jd {t v:TypeId}{ps s:Array TypeId}{u neg:Bool}{y z:Operand}{n h:X}(e:St F L w) (p:aH L ρ a) (r:∀k,o.dst=some k->k<a.tmps.size)
  (m:o.op=.binOp (if neg then .neq else .eql) t y z v) (q:P.underlying t=some (.func ps s u)) (l:br y=some n) (j:br z=some h) (d:evalOp P (.eqF neg n h) o.dst F L ρ K):o.wp P a w (bg F L w a K) Q:=by
 simp only[evalOp,aL] at d;split at d
 ·rename_i c b;exact sO e p r m l j .nilFunc .nilFunc true (bH c) (bH b) (by simp) (by simp) (by simp) (by simp) (by simp) (by simp) (QY q) d
 ·rename_i f x y c b;exact sO e p r m l j (.func f x y) .nilFunc false (bH c) (bH b) (by simp) (by simp) (by simp) (by simp) (by simp) (by simp) (QZ q) d
 ·exact d.elim
theorem Hj {z:Operand}{b:X}(h:br z=some b) (k:xu b=true):z=.const .nilIface:=by
 unfold xu at k;split at k
 ·cases z with
  | const v=>simp only[br,vz,X.c.injEq] at h;rw[h]
  | tmp n=>cases h
  | func f=>cases h
  | global g=>cases h
 ·cases k
theorem Q0 {t:TypeId}{b:Array (String×TypeId)}(h:P.underlying t=some (.interface b)):(Op.equal t .nilIface .nilIface).run P w=.ok true w:=by
 have key:∀d:Nat,(Op.equalIn (d+1) t .nilIface .nilIface).run P w=.ok true w:=fun d=>by
  simp[Op.equalIn,run_underlying h]
 exact key 9999
theorem Q5 {t ty:TypeId}{b:Array (String×TypeId)}{u:Value}(h:P.underlying t=some (.interface b)):(Op.equal t (.iface ty u) .nilIface).run P w=.ok false w:=by
 have key:∀d:Nat,(Op.equalIn (d+1) t (.iface ty u) .nilIface).run P w=.ok false w:=fun d=>by
  simp[Op.equalIn,run_underlying h]
 exact key 9999
theorem Je {t t':TypeId}{ms:Array (String×TypeId)}{neg:Bool}{y z:Operand}{j f:X}(m:St F L w) (l:aH L ρ a) (hd:∀k,o.dst=some k->k<a.tmps.size)
  (h:o.op=.binOp (if neg then .neq else .eql) t y z t') (ht:P.underlying t=some (.interface ms)) (r:br y=some j) (d:br z=some f) (hn:xu f=true) (c:evalOp P (.eqN neg j) o.dst F L ρ K):o.wp P a w (bg F L w a K) Q:=by
 have ey:=aI r l;obtain rfl:=Hj d hn;simp only[evalOp,aL] at c;split at c
 ·rename_i b;have q:val L ρ j=.nilIface:=bH b;refine bL m l hd (v:=.bool (n9 neg true)) (x:=.v (.bool (n9 neg true))) ?_ rfl bS dG c;have p:∀op:BinOp,(eqGuard op t y (.const .nilIface) .nilIface .nilIface).run P w=.ok () w:=fun op=>by
   cases op<;>simp[eqGuard]
  have s:a.eval (.const .nilIface)=.nilIface:=rfl;have n:=Q0 (P:=P) (w:=w) ht;cases neg
  ·simp only[execOp,h,ey,s,q,Sem.run_bind,p,Result.andThen_ok];have:binOp .eql t .nilIface .nilIface=(do pure (.bool (<-Op.equal t .nilIface .nilIface)):Sem Value):=rfl;simp[this,n,n9]
  ·simp only[execOp,h,ey,s,q,Sem.run_bind,p,Result.andThen_ok];have:binOp .neq t .nilIface .nilIface=(do pure (.bool (!(<-Op.equal t .nilIface .nilIface))):Sem Value):=rfl;simp[this,n,n9]
 ·rename_i ty u b;have e:val L ρ f=.nilIface:=by
   simp only[br,vz] at d;rw[<-d];rfl
  exact sO m l hd h r d (.iface ty u) .nilIface false (bH b) e (by simp) (by simp) (by simp) (by simp) (by simp) (by simp) (Q5 ht) c
 ·exact c.elim
theorem CJ {l c:List Value}{b r:Bool}(h:jh [] l c b=some r):l=[]/\c=[]/\r=b:=by
 cases l with
 | cons v l=>simp[jh] at h
 | nil =>
  cases c with
  | cons v l=>simp[jh] at h
  | nil=>simp only[jh,vz] at h;exact⟨rfl,rfl,h.symm⟩
theorem z5 {ks:List Bool}{l c:List Value}{d r:Bool}(h:jh (true::ks) l c d=some r):∃k a f b e,l=.int k a::f/\c=.int k b::e/\jh ks f e (d&&decide (a=b))=some r:=by
 cases l with
 | nil=>simp[jh] at h
 | cons v l =>
  cases c with
  | nil=>cases v<;>simp[jh] at h
  | cons j c =>
   cases v<;>cases j<;>try (simp[jh] at h;done)
   rename_i k a n b;simp only[jh] at h;split at h
   ·rename_i m;have:=zZ m;subst this;exact⟨k,a,l,b,c,rfl,rfl,h⟩
   ·cases h
theorem xI {ks:List Bool}{l c:List Value}{d r:Bool}(h:jh (false::ks) l c d=some r):∃a f b e,l=.bool a::f/\c=.bool b::e/\jh ks f e (d&&decide (a=b))=some r:=by
 cases l with
 | nil=>simp[jh] at h
 | cons v l =>
  cases c with
  | nil=>cases v<;>simp[jh] at h
  | cons j c =>
   cases v<;>cases j<;>try (simp[jh] at h;done)
   rename_i a b;simp only[jh] at h;exact⟨a,l,b,c,rfl,rfl,h⟩
theorem CK (k:IntKind):qy k k=true:=by cases k<;>rfl
theorem Jf:∀{ks:List Bool}{l f:List Value}{d r:Bool},jh ks l f d=some r->∃e,(∀c,jh ks l f c=some (c&&e))/\r=(d&&e):=by
 intro ks
 induction ks with
 | nil =>
  intro l f d r h;obtain⟨rfl,rfl,rfl⟩:=CJ h;exact⟨true,fun c=>by simp[jh],by simp⟩
 | cons k ks p =>
  intro l f d r h;cases k with
  | true =>
   obtain⟨k,a,q,b,s,rfl,rfl,m⟩:=z5 h;obtain⟨e,n,j⟩:=p m;exact⟨decide (a=b)&&e,fun c=>by simp only[jh,CK,n,Bool.and_assoc],by rw[j,Bool.and_assoc]⟩
  | false =>
   obtain⟨a,q,b,s,rfl,rfl,m⟩:=xI h;obtain⟨e,n,j⟩:=p m;exact⟨decide (a=b)&&e,fun c=>by simp only[jh,n,Bool.and_assoc],by rw[j,Bool.and_assoc]⟩
theorem xJ {t:TypeId}{d:TypeDesc}(b:P.underlying t=some d) (c:dH d=false) {cs:Array Value}{off:Nat}{v:Value}(h:cs[off]?=some v):(part t cs off).run P w=.ok v w:=by
 simp only[part,Sem.run_bind,u5 b,Result.andThen_ok,c,aaX,abn,h,Sem.run_pure]
theorem tV {d:Nat}{xs ys:Array Value}:∀{fs:List Field}{k:Nat}{ks:List Bool}{b:Bool},pG P fs k=some ks->jh ks (xs.toList.drop k) (ys.toList.drop k) true=some b->(Op.eqFields (d+1) xs ys fs).run P w=.ok b w
 | [],k,ks,b,h,he=>by
  simp only[pG,vz] at h;subst h;obtain⟨_,_,rfl⟩:=CJ he;simp[Op.eqFields]
 | f::fs,k,ks,b,h,he=>by
  have hcons:∀{zs:Array Value}{v:Value}{l:List Value},zs.toList.drop k=v::l->zs[k]?=some v/\zs.toList.drop (k+1)=l:=by
   intro zs v l e;refine⟨?_,?_⟩
   ·have:=j3 (fun q=>q[0]?) e;simp only[abj,Nat.add_zero,aa0] at this;simpa using this
   ·rw[<-List.drop_drop,e];rfl
  have fin:∀{u v:Value}{l l':List Value}{ks':List Bool}{r:Bool}{dd:TypeDesc},P.underlying f.type=some dd->dH dd=false->f.offset=k->f.name≠"_"->xs.toList.drop k=u::l->ys.toList.drop k=v::l'->(Op.equalIn (d+1) f.type u v).run P w=.ok r w ->
    pG P fs (k+1)=some ks'->jh ks' l l' r=some b->(Op.eqFields (d+1) xs ys (f::fs)).run P w=.ok b w:=by
   intro u v l l' ks' r dd hu hag ho hnm e1 e2 heq hfl hev;obtain⟨a1,a2⟩:=hcons e1;obtain⟨b1,b2⟩:=hcons e2;simp only[Op.eqFields];rw[eu hnm];simp only[Sem.run_bind,ho,xJ hu hag a1,xJ hu hag b1,Result.andThen_ok,heq];obtain⟨r0,q1,q2⟩:=Jf hev;cases r with
   | false =>
    simp only[abJ] at q2;subst q2;simp
   | true =>
    simp only[abG] at q2;subst q2;simp only[Bool.not_true,aaX,abn];exact tV hfl (by rw[a2,b2];simpa using q1 true)
  simp only[pG] at h;split at h
  ·rename_i ki hoff hnm hu;split at h
   case h_2=>cases h
   rename_i ks' hks;injection h with h
   subst h;have hoff:=vv hoff;have hnm:=abt hnm;obtain⟨k1,x,l1,y,l2,e1,e2,he⟩:=z5 he;exact fin hu rfl hoff hnm e1 e2 (run_equalIn_int w d f.type k1 _ x y hu) hks (by rw[show(x == y)=decide (x=y) from rfl];simpa using he)
  ·rename_i hoff hnm hu;split at h
   case h_2=>cases h
   rename_i ks' hks;injection h with h
   subst h;have hoff:=vv hoff;have hnm:=abt hnm;obtain⟨x,l1,y,l2,e1,e2,he⟩:=xI he;have hb:(x == y)=decide (x=y):=by cases x<;>cases y<;>rfl
   exact fin hu rfl hoff hnm e1 e2 (run_equalIn_bool' w d f.type x y hu) hks (by rw[hb];simpa using he)
  ·cases h
theorem Jg {t t':TypeId}{fs:Array Field}{neg:Bool}{ks:List Bool}{y z:Operand}{s m:X}(hs:St F L w) (j:aH L ρ a) (hd:∀k,o.dst=some k->k<a.tmps.size)
  (q:o.op=.binOp (if neg then .neq else .eql) t y z t') (ht:P.underlying t=some (.struct fs)) (hk:pG P fs.toList 0=some ks) (hp:P.stoodInHeld t=false) (n:P.eqGuardType P.depth t=false) (hy:br y=some s) (hz:br z=some m)
  (c:evalOp P (.eqA neg ks s m) o.dst F L ρ K):o.wp P a w (bg F L w a K) Q:=by
 have ey:=aI hy j;have u:=aI hz j;simp only[evalOp,aL] at c;split at c
 case h_2=>exact c.elim
 rename_i cs ds l h;split at c
 case h_2=>exact c.elim
 rename_i b hb;have p:=bH (L:=L) l;have r:=bH (L:=L) h;have f:P.fieldsOf t=fs:=by simp only[Program.fieldsOf,ht]
 have e:(Op.equalIn 10000 t (.agg cs) (.agg ds)).run P w=.ok b w:=by
  rw[show(10000:Nat)=9999+1 from rfl,run_equalIn_agg w 9999 t cs ds (by rw[f];exact ht) hp,f];exact tV (d:=9998) hk (by simpa using hb)
 refine bL hs j hd (v:=.bool (n9 neg b)) (x:=.v (.bool (n9 neg b))) ?_ rfl bS dG c;cases neg
 ·simp only[execOp,q,ey,u,p,r,Sem.run_bind,run_eqGuard_agg w _ t y z cs ds n,Result.andThen_ok];simp[run_eql_struct,e,n9]
 ·simp only[execOp,q,ey,u,p,r,Sem.run_bind,run_eqGuard_agg w _ t y z cs ds n,Result.andThen_ok];simp[run_neq_struct,e,n9]
end
section
variable {P:Program}{F:aD}{L:Loc}{ρ:Env}{a:Act}{w:World}{K:cQ}{o:Oper}{Q:Exit->Act->World->Prop}
theorem Ti {t:TypeId}{op:UnOp}{y:Operand}{m:X}(h:St F L w) (e:aH L ρ a) (l:∀k,o.dst=some k->k<a.tmps.size)
  (j:o.op=.unOp op t y) (p:br y=some m) (d:evalOp P (.un op m) o.dst F L ρ K):o.wp P a w (bg F L w a K) Q:=by
 have f:=aI p e;simp only[evalOp,aL] at d;split at d
 ·rename_i b c;refine bL h e l (v:=.bool (!b)) (x:=.v (.bool (!b))) ?_ rfl bS dG d;simp[execOp,j,f,bH c,Op.unary]
 ·rename_i k n c;obtain⟨d⟩:=d;refine bL h e l (v:=.int k (k.wrap (0-n))) (x:=.v (.int k (k.wrap (0-n)))) ?_ rfl bS dG d;simp[execOp,j,f,bH c,Op.unary,Op.intArith]
 ·rename_i k n c;refine bL h e l ?_ rfl bS dG d;simp[execOp,j,f,bH c,Op.unary,Op.intBits];rfl
 ·exact d.elim
theorem MB {s t:TypeId}{k m:IntKind}{y:Operand}{d:X}(h:St F L w) (e:aH L ρ a) (q:∀k,o.dst=some k->k<a.tmps.size)
  (p:o.op=.convert s t y) (l:P.underlying s=some (.int m)) (r:P.underlying t=some (.int k)) (j:br y=some d) (b:evalOp P (.conv k d) o.dst F L ρ K):o.wp P a w (bg F L w a K) Q:=by
 have f:=aI j e;simp only[evalOp,aL] at b;split at b
 ·rename_i u n c;obtain⟨b⟩:=b;refine bL h e q (v:=.int k (k.wrap n)) (x:=.v (.int k (k.wrap n))) ?_ rfl bS dG b;simp[execOp,p,f,bH c,convert,run_underlying l,run_underlying r,Conv.intToInt]
 ·exact b.elim
theorem Hl (bs:List UInt8):∀s:ByteArray,((bs.map fun b=>(b.toNat:Int)).foldl (fun r n=>r.push (UInt8.ofNat n.toNat)) s).data.toList=s.data.toList++bs:=by
 induction bs with
 | nil=>intro s;simp
 | cons b bs c =>
  intro s;simp only[aaS,List.foldl_cons];rw[c];simp[ByteArray.push]
theorem Q6 {s t e:TypeId}{y:Operand}{y':X}(hs:St F L w) (he:aH L ρ a) (hd:∀k,o.dst=some k->k<a.tmps.size)
  (ho:o.op=.convert s t y) (h1:P.underlying s=some (.slice e)) (h2:P.underlying t=some .string) (h3:P.underlying e=some (.int .u8)) (hy:br y=some y') (hK:evalOp P (.b2s y') o.dst F L ρ K):o.wp P a w (bg F L w a K) Q:=by
 have ey:=aI hy he;simp only[evalOp,aL] at hK;split at hK
 case h_2=>exact hK.elim
 rename_i q n c an;obtain⟨cs,f,p,⟨bs,rfl,hK⟩⟩:=hK;refine bL hs he hd (v:=.string ⟨bs.toArray⟩) (x:=.v (.string ⟨bs.toArray⟩)) ?_ rfl bS dG hK;simp only[execOp,ho,ey,bH an,Sem.run_bind,run_convert_bytes_string w s t e q n c h1 h3 h2];cases q with
 | none =>
  rcases p with p | ⟨_,_,_,_,_,_,_,_,_,e,_⟩ | aa | ⟨_,_,_,_,_,_,_,e,_⟩
  ·obtain⟨_,e,_⟩:=p.cell hs;cases e
  ·cases e
  ·rw[aa] at f;have:bs=[]:=abg (by simpa using f);subst this;simp[Conv.bytesToString];rfl
  ·cases e
 | some q =>
  have ab:∀i v,(bs.map fun b=>Value.int .u8 b.toNat)[i]?=some v->w.cell? (q.add i)=some v:=by
   rcases p with p | ⟨k,v,t',sz,m,xs,ap,c',hk,h,e2,p⟩ | aa | ⟨k,g,t',bx,o',hk,al,h,p⟩
   ·obtain⟨ap,e,ba,ar⟩:=p.cell hs;injection e with e
    subst e;intro i v hv;have:=ar i v hv
    rwa [Nat.zero_add] at this
   ·injection h with h
    subst h;have l:=hs.own k _ hk;simp only[Own.ok] at l;subst e2;intro i u hu;have hb:=p i u hu;rw[Nat.zero_add] at hb;have h0:=World.ownsRow.cells l (g:=q.block) rfl i u hb;rcases l.2 with⟨e,_⟩ | ⟨g,cap,bd,e,_⟩
    ·cases e
    ·injection e with h e2 e3
     injection h with h
     subst h;exact h0
   ·intro i v hv;rw[aa] at f;have:bs=[]:=abg (by simpa using f);subst this;simp at hv
   ·injection h with h
    subst h;intro i u hu;rw[ck,nQ al (hs.own k _ hk)];have:=p i u hu
    rwa [Nat.add_zero] at this
  have j:=run_loadCells_list (P:=P) w q _ ab;rw[f] at j;have hb:=run_bytesToString (P:=P) w q n c (bs.map fun b=>(b.toNat:Int)) (by rw[j];simp);rw[hb];simp only[Result.andThen_ok,Sem.run_pure];congr 3;have:=Hl bs ByteArray.empty;generalize(bs.map fun b=>(b.toNat:Int)).foldl (fun r n=>r.push (UInt8.ofNat n.toNat)) ByteArray.empty=z at this ⊢;obtain⟨d⟩:=z;congr 1;apply Array.ext';simpa using this
theorem MC {f:FuncId}{fi ca:Array Operand}{c b:List X}(e:St F L w) (d:aH L ρ a) (p:∀k,o.dst=some k->k<a.tmps.size)
  (l:o.op=.makeFunc (.func f) fi ca) (j:gM fi.toList=some c) (q:gM ca.toList=some b) (m:evalOp P (.mkfn f c b) o.dst F L ρ K):o.wp P a w (bg F L w a K) Q:=by
 have n:fi.map a.eval=(bn L ρ c).toArray:=by apply Array.ext';simpa using fK j d
 have h:ca.map a.eval=(bn L ρ b).toArray:=by apply Array.ext';simpa using fK q d
 refine bL e d p ?_ rfl bS dG m;simp[execOp,l,Instr.makeFunc,n,h];rfl
theorem MD {i:Nat}{y:Operand}{d:X}(h:St F L w) (e:aH L ρ a) (n:∀k,o.dst=some k->k<a.tmps.size)
  (m:o.op=.extract y i) (j:br y=some d) (b:evalOp P (.extr d i) o.dst F L ρ K):o.wp P a w (bg F L w a K) Q:=by
 have f:=aI j e;simp only[evalOp,aL] at b;split at b
 case h_2=>exact b.elim
 rename_i vs c;split at b
 case h_2=>exact b.elim
 rename_i v l;refine bL h e n (v:=v) (x:=.v v) ?_ rfl bS dG b;have:vs[i]?=some v:=by simpa using l
 simp[execOp,m,f,bH c,Instr.extract,this]
theorem Ho {t f:Nat}{y:Operand}{s:X}{fs:Array Field}{b:Field}{d:TypeDesc}{i:TypeInfo}{n:Nat}(z:St F L w) (u:aH L ρ a) (hd:∀k,o.dst=some k->k<a.tmps.size)
  (ho:o.op=.field t y f) (ht:P.underlying t=some (.struct fs)) (hf:fs[f]?=some b) (q:P.underlying b.type=some d) (hi:P.info? b.type=some i) (hy:br y=some s)
  (j:n=match dH d with | true=>i.size | false=>1) (c:evalOp P (.fieldV (dH d) b.offset n s) o.dst F L ρ K):o.wp P a w (bg F L w a K) Q:=by
 have ey:=aI hy u;simp only[evalOp,aL] at c;split at c
 case h_2=>exact c.elim
 rename_i cs m;split at c
 case h_2=>exact c.elim
 rename_i p;have p:=iS p;refine bL z u hd (v:=gL (dH d) ((cs.toList.drop b.offset).take n)) (x:=.v (gL (dH d) ((cs.toList.drop b.offset).take n))) ?_ rfl bS dG c;simp only[execOp,ho,ey,bH m,Instr.field,Sem.run_bind,run_underlying ht,Result.andThen_ok,hf,asAgg,Sem.run_pure,part,u5 q];cases e:dH d with
 | true =>
  simp only[e] at j;simp only[aa9,Sem.run_bind,sizeOf,typeInfo,run_program,Result.andThen_ok,hi,Sem.run_pure];subst j;have l:cs.extract b.offset (b.offset+i.size)=((cs.toList.drop b.offset).take i.size).toArray:=by
   apply Array.ext';rw[Array.toList_extract];simp[List.extract_eq_take_drop]
  simp[gL,l]
 | false =>
  simp only[e] at j;subst j;have:∃v,cs[b.offset]?=some v/\(cs.toList.drop b.offset).take 1=[v]:=by
   match h:cs.toList.drop b.offset,p with
   | v::r,_ =>
    refine⟨v,?_,by simp⟩;have:=j3 (·[0]?) h;simpa using this
  obtain⟨v,h1,h2⟩:=this;simp[h1,h2,gL]
theorem Hp {t f:Nat}{y:Operand}{s:X}{fs:Array Field}{h:Field}{i:TypeInfo}(p:St F L w) (m:aH L ρ a) (z:∀k,o.dst=some k->k<a.tmps.size)
  (ho:o.op=.fieldAddr t y f) (ht:P.underlying t=some (.struct fs)) (hf:fs[f]?=some h) (hi:P.info? h.type=some i) (l:i.size≠0) (r:br y=some s)
  (n:evalOp P (.fieldA h.offset s) o.dst F L ρ K):o.wp P a w (bg F L w a K) Q:=by
 have ey:=aI r m;have run:∀d:Addr,val L ρ s=.pointer (some d)->(execOp a.eval o).run P w=.ok (.value (.pointer (some (d.add h.offset)))) w:=by
  intro d hv;simp[execOp,ho,ey,hv,Instr.fieldAt,run_underlying ht,hf,Instr.sureAddr,fieldPlace,sizeOf,typeInfo,hi,l]
 simp only[evalOp,aL] at n;split at n
 ·rename_i k off c;obtain⟨g,ty,cs,q⟩:=oK r m c;refine bL p m z (v:=.pointer (some ⟨g,off+h.offset,none⟩)) (x:=.own k (off+h.offset)) ?_ (by simp only[conc,q]) (fun k' ab e=>by injection e with e1 e2;subst e1;exact⟨g,ty,cs,q⟩) (fun _ _ e=>by cases e) n;rw[run ⟨g,off,none⟩ (by simp only[val,c,conc,q]),ck]
 ·rename_i d j c;have l:=rI r m c;cases d with
  | none=>exact o4 rfl l
  | some d =>
   refine bL p m z (v:=.pointer (some (d.add (j+h.offset)))) (x:=.el (some d) (j+h.offset)) ?_ rfl (fun _ _ e=>by cases e) (fun u j' e=>by injection e with e1 e2;subst e1;simp) n;rw[run (d.add j) (by simp only[val,c,conc])];congr 4;obtain⟨b,o',sp⟩:=d;unfold Addr.add
   by_cases h1:j=0<;>by_cases h2:h.offset=0<;>simp[h1,h2,Nat.add_assoc]
 ·rename_i d c;refine bL p m z (v:=.pointer (some (d.add h.offset))) (x:=.el (some d) h.offset) ?_ rfl (fun _ _ e=>by cases e) (fun u j' e=>by injection e with e1 e2;subst e1;simp) n;rw[run d (bH c)]
 ·exact n.elim
theorem ME {t e:TypeId}{y z:Operand}{q p:X}{i:TypeInfo}(r:St F L w) (m:aH L ρ a) (hd:∀k,o.dst=some k->k<a.tmps.size)
  (ho:o.op=.indexAddr t y z) (ht:P.underlying t=some (.slice e)) (hi:P.info? e=some i) (hy:br y=some q) (hz:br z=some p)
  (b:evalOp P (.idxA i.size q p) o.dst F L ρ K):o.wp P a w (bg F L w a K) Q:=by
 have ey:=aI hy m;have ez:=aI hz m;simp only[evalOp,aL] at b;split at b
 case h_2=>exact b.elim
 rename_i d n c k j l h;obtain⟨f,h1,s,b⟩:=b;cases d with
 | none=>exact o4 rfl f
 | some d =>
  refine bL r m hd (v:=.pointer (some (d.add (j.toNat*i.size)))) (x:=.el (some d) (j.toNat*i.size)) ?_ rfl (fun _ _ e=>by cases e) (fun al j' e=>by injection e with u e2;subst u;simp) b;simp[execOp,ho,ey,ez,bH l,bH h,Instr.indexAt,asIntOf,run_underlying ht,h1,s,sizeOf,typeInfo,hi]
theorem MF {t:TypeId}{y z:Operand}{m l:X}(n:St F L w) (f:aH L ρ a) (hd:∀k,o.dst=some k->k<a.tmps.size)
  (u:o.op=.index t y z) (ht:P.underlying t=some .string) (r:br y=some m) (q:br z=some l)
  (b:evalOp P (.idxS m l) o.dst F L ρ K):o.wp P a w (bg F L w a K) Q:=by
 have ey:=aI r f;have ez:=aI q f;simp only[evalOp,aL] at b;split at b
 case h_2=>exact b.elim
 rename_i s k j h e;obtain⟨h1,h2,b⟩:=b;refine bL n f hd (v:=.int .u8 ((s.data.toList.getD j.toNat 0).toNat)) (x:=.v (.int .u8 ((s.data.toList.getD j.toNat 0).toNat))) ?_ rfl bS dG b;have d:j.toNat<s.size:=by omega
 have c:s[j.toNat]?=some (s.data.toList.getD j.toNat 0):=by
  have p:j.toNat<s.data.toList.length:=by simpa using d
  rw[getElem?_pos s j.toNat d,List.getD_eq_getElem?_getD,v7 p];simp;rfl
 simp[execOp,u,ey,ez,bH h,bH e,Instr.index,asIntOf,run_underlying ht,h1,c]
theorem Q7 {t e:TypeId}{y:Operand}{j:X}{c:Call}(l:St F L w) (h:aH L ρ a) (z:∀k,o.dst=some k->k<a.tmps.size)
  (q:o.op=.call c) (r:c.callee=.builtin .len) (m:c.args=#[y]) (d:c.argTypes=#[t]) (u:P.underlying t=some (.slice e)) (p:br y=some j)
  (b:evalOp P (.len j) o.dst F L ρ K):o.wp P a w (bg F L w a K) Q:=by
 have s:=aI p h;simp only[evalOp,aL] at b;split at b
 ·rename_i ad n cp f;refine bL l h z (v:=.int .i64 n) (x:=.v (.int .i64 n)) ?_ rfl bS dG b;simp[execOp,q,resolve,r,m,d,invoke,builtin,Builtin.len_,s,bH f,run_underlying u,goInt]
 ·exact b.elim
theorem MG {t:TypeId}{y:Operand}{f:X}{c:Call}(l:St F L w) (h:aH L ρ a) (q:∀k,o.dst=some k->k<a.tmps.size)
  (p:o.op=.call c) (r:c.callee=.builtin .len) (u:c.args=#[y]) (d:c.argTypes=#[t]) (m:P.underlying t=some .string) (n:br y=some f)
  (b:evalOp P (.lenS f) o.dst F L ρ K):o.wp P a w (bg F L w a K) Q:=by
 have j:=aI n h;simp only[evalOp,aL] at b;split at b
 ·rename_i s e;refine bL l h q (v:=.int .i64 s.size) (x:=.v (.int .i64 s.size)) ?_ rfl bS dG b;simp[execOp,p,resolve,r,u,d,invoke,builtin,Builtin.len_,j,bH e,run_underlying m,goInt]
 ·exact b.elim
theorem MH {t e:TypeId}{y:Operand}{j:X}{c:Call}(m:St F L w) (h:aH L ρ a) (hd:∀k,o.dst=some k->k<a.tmps.size)
  (r:o.op=.call c) (s:c.callee=.builtin .cap) (p:c.args=#[y]) (d:c.argTypes=#[t]) (z:P.underlying t=some (.slice e)) (q:br y=some j)
  (b:evalOp P (.capa j) o.dst F L ρ K):o.wp P a w (bg F L w a K) Q:=by
 have u:=aI q h;simp only[evalOp,aL] at b;split at b
 ·rename_i ad n l f;refine bL m h hd (v:=.int .i64 l) (x:=.v (.int .i64 l)) ?_ rfl bS dG b;simp[execOp,r,resolve,s,p,d,invoke,builtin,Builtin.cap_,u,bH f,run_underlying z,goInt]
 ·exact b.elim
theorem Jh {L:Loc}{ρ:Env}:∀{xs:List X},bn L ρ xs=(xs.map (ev ρ)).map (conc L)
 | []=>rfl
 | _::xs=>by simp[bn,val,Jh (xs:=xs)]
theorem Q8 (mx:Bool) (k:IntKind):∀(l:List SV) (d m:Int),PI mx d l=some m ->
  ((l.map (conc L)).foldlM (if mx then Builtin.max2 else Builtin.min2) (.int k d)).run P w=.ok (.int k m) w:=by
 intro l
 induction l with
 | nil=>intro d m h;simp only[PI,vz] at h;subst h;rfl
 | cons x l e =>
  intro d m h;unfold PI at h;split at h
  ·rename_i c;cases c
  ·rename_i j b f c;injection c with h1 h2
   subst h1 h2;have:=e _ _ h;cases mx
   ·simp only[aaS,List.foldlM_cons,conc,Sem.run_bind];simp only[aaX,abn] at this ⊢;simp only[Builtin.min2,Sem.run_pure,Result.andThen_ok];exact this
   ·simp only[aaS,List.foldlM_cons,conc,Sem.run_bind];simp only[aa9] at this ⊢;simp only[Builtin.max2,Sem.run_pure,Result.andThen_ok];exact this
  ·cases h
theorem PK {mx:Bool}{c:Call}{xs:List X}(p:St F L w) (j:aH L ρ a) (s:∀k,o.dst=some k->k<a.tmps.size)
  (h:o.op=.call c) (e:c.callee=.builtin (if mx then .max else .min)) (t:gM c.args.toList=some xs)
  (d:evalOp P (.mm mx xs) o.dst F L ρ K):o.wp P a w (bg F L w a K) Q:=by
 have b:=fK t j;rw[Jh] at b;simp only[evalOp,aL] at d;split at d
 case h_2=>exact d.elim
 rename_i k q l n;split at d
 case h_2=>exact d.elim
 rename_i m r;rw[n] at b;have f:=Q8 (P:=P) (L:=L) (w:=w) mx k l q m r;refine bL p j s (v:=.int k m) (x:=.v (.int k m)) ?_ rfl bS dG d;cases mx
 ·simp only[aaX,abn] at e f;simp only[execOp,h,resolve,e,invoke,builtin,Builtin.min_,Sem.run_bind,Sem.run_pure,Result.andThen_ok,Array.toList_map,b,aaS,conc,f]
 ·simp only[aa9] at e f;simp only[execOp,h,resolve,e,invoke,builtin,Builtin.max_,Sem.run_bind,Sem.run_pure,Result.andThen_ok,Array.toList_map,b,aaS,conc,f]
theorem MI {t:TypeId}{d:TypeDesc}{y:Operand}{r:X}(h:St F L w) (f:aH L ρ a) (p:∀k,o.dst=some k->k<a.tmps.size)
  (l:o.op=.makeInterface t y) (n:P.underlying t=some d) (e:∀s,d≠.interface s) (z:br y=some r) (c:evalOp P (.mkif t r) o.dst F L ρ K):o.wp P a w (bg F L w a K) Q:=by
 have m:=aI z f;simp only[evalOp,aL] at c;split at c
 ·rename_i v b;refine bL h f p (v:=.iface t v) (x:=.v (.iface t v)) ?_ rfl bS dG c;simp only[execOp,l,m,bH b,Instr.makeInterface];simp only[Sem.run_bind,Sem.run_map,run_underlying n,Result.andThen_ok];cases d<;>first | exact o4 rfl (e _) | simp
 ·rename_i q j b;refine bL h f p (v:=.iface t (.pointer (some (q.add j)))) (x:=.v (.iface t (.pointer (some (q.add j))))) ?_ rfl bS dG c;simp only[execOp,l,m,val,b,conc,Instr.makeInterface];simp only[Sem.run_bind,Sem.run_map,run_underlying n,Result.andThen_ok];cases d<;>first | exact o4 rfl (e _) | simp
 ·rename_i k off b;split at c
  case h_2=>exact c.elim
  rename_i g t' cs u;refine bL h f p (v:=.iface t (.pointer (some ⟨g,off,none⟩))) (x:=.v (.iface t (.pointer (some ⟨g,off,none⟩)))) ?_ rfl bS dG c;simp only[execOp,l,m,val,b,conc,u,Instr.makeInterface];simp only[Sem.run_bind,Sem.run_map,run_underlying n,Result.andThen_ok];cases d<;>first | exact o4 rfl (e _) | simp
 ·exact c.elim
theorem Q9 {t xt:TypeId}{d:TypeDesc}{i:TypeInfo}{z:Value}{y:Operand}{r:X}(j:St F L w) (h:aH L ρ a) (p:∀k,o.dst=some k->k<a.tmps.size)
  (l:o.op=.typeAssert y xt t true) (n:P.underlying t=some d) (f:∀s,d≠.interface s) (hi:P.info? t=some i) (q:i.zero=some z) (hy:br y=some r) (c:evalOp P (.tas t z r) o.dst F L ρ K):o.wp P a w (bg F L w a K) Q:=by
 have m:=aI hy h;simp only[evalOp,aL] at c;split at c
 ·rename_i b;refine bL j h p (v:=.tuple #[z,.bool false]) (x:=.v (.tuple #[z,.bool false])) ?_ rfl bS dG c;simp only[execOp,l,m,bH b,Instr.typeAssert];simp only[Sem.run_bind,Sem.run_map,run_underlying n,Result.andThen_ok];cases d<;>first | exact o4 rfl (f _) | simp[zeroValue,typeInfo,hi,q]
 ·rename_i t' u b;split at c
  ·rename_i hb;have hb:=vv hb;refine bL j h p (v:=.tuple #[u,.bool true]) (x:=.v (.tuple #[u,.bool true])) ?_ rfl bS dG c;simp only[execOp,l,m,bH b,Instr.typeAssert];simp only[Sem.run_bind,Sem.run_map,run_underlying n,Result.andThen_ok];cases d<;>first | exact o4 rfl (f _) | simp[hb]
  ·rename_i hb;have hb:t'≠t:=fun e=>by rw[e,Nat.beq_refl] at hb;cases hb
   refine bL j h p (v:=.tuple #[z,.bool false]) (x:=.v (.tuple #[z,.bool false])) ?_ rfl bS dG c;simp only[execOp,l,m,bH b,Instr.typeAssert];simp only[Sem.run_bind,Sem.run_map,run_underlying n,Result.andThen_ok];cases d<;>first | exact o4 rfl (f _) | simp[zeroValue,typeInfo,hi,q,hb]
 ·exact c.elim
theorem FJ:∀{l:List (TypeId×String)}{t:TypeId}{nm:String},PE l t nm=true->(t,nm)∈l
 | [],_,_,h=>by cases h
 | (t,nm)::l,e,d,h=>by
  simp only[PE] at h;split at h
  ·rename_i b c;rw[<-vv b,<-aa4 c];exact List.mem_cons_self ..
  ·exact aa8 _ (FJ h)
theorem z6 {t:TypeId}{nm:String}{f:FuncId}(h:oI P t nm=some f):∃i m b d,P.info? t=some i/\i.methods.find? (·.name == nm)=some m/\m.path.toList=[]/\m.func=some (f,b)/\P.underlying t=some d /\
  ((∃e,d=.pointer e/\b=true)\/((∀e,d≠.pointer e)/\b=false)):=by
 simp only[oI] at h;split at h
 case h_2=>cases h
 rename_i i hi;split at h
 case h_2=>cases h
 rename_i m k;split at h
 case h_2=>cases h
 rename_i q b n l;split at h
 ·rename_i e j;injection h with h;subst h
  exact⟨i,m,_,_,hi,k,n,l,j,.inl ⟨_,rfl,rfl⟩⟩
 ·cases h
 ·rename_i d c j;injection h with h;subst h
  exact⟨i,m,_,_,hi,k,n,l,j,.inr ⟨fun e p=>c e p,rfl⟩⟩
 ·cases h
theorem z7 (P:Program):∃n,P.types.size+Made.depth=n+1:=⟨P.types.size+99,by simp[Made.depth]⟩
theorem Hq {t:TypeId}{nm:String}{f:FuncId}(h:oI P t nm=some f) (v:Value) (w:World):(method (P.types.size+Made.depth) t v nm).run P w=.ok (f,v) w:=by
 obtain⟨i,m,r,d,p,j,l,c,q,b⟩:=z6 h;obtain⟨n,k⟩:=z7 P;rw[k];simp only[method,Sem.run_bind,typeInfo,run_program,Result.andThen_ok,p,Sem.run_pure,j,l,follow,c,receiverAt,run_underlying q];rcases b with⟨e,rfl,rfl⟩ | ⟨b,rfl⟩
 ·simp only[Place.get,Sem.run_pure,Result.andThen_ok]
 ·cases d<;>first | exact o4 rfl (b _) | simp only[Place.get,Sem.run_pure,Result.andThen_ok]
theorem Hr {t:TypeId}{nm:String}{f:FuncId}(h:oI P t nm=some f) (v:Value) (w:World):(nilAhead (P.types.size+Made.depth) t v nm).run P w=.ok (some false) w:=by
 obtain⟨i,m,r,d,p,j,l,c,q,b⟩:=z6 h;obtain⟨n,k⟩:=z7 P;rw[k];simp only[nilAhead,Sem.run_bind,typeInfo,run_program,Result.andThen_ok,p,Sem.run_pure,j,l,followBlind,c];rcases b with⟨e,rfl,rfl⟩ | ⟨b,rfl⟩
 ·rfl
 ·simp only[Sem.run_bind,run_underlying q,Result.andThen_ok];cases d<;>first | exact o4 rfl (b _) | rfl
theorem MJ {nm:String}{fi ca:Array Operand}{c:X}(f:St F L w) (e:aH L ρ a) (p:∀k,o.dst=some k->k<a.tmps.size)
  (m:o.op=.makeFunc (.method nm) fi ca) (j:gM fi.toList=some [c]) (n:ca.toList=[]) (b:evalOp P (.mkmv nm c) o.dst F L ρ K):o.wp P a w (bg F L w a K) Q:=by
 have d:fi.map a.eval=(bn L ρ [c]).toArray:=by apply Array.ext';simpa using fK j e
 have h:ca=#[]:=by apply Array.ext';exact n
 simp only[evalOp,aL] at b;split at b
 case h_2=>exact b.elim
 rename_i v l;refine bL f e p (v:=.func (.method nm) #[v] #[]) (x:=.v (.func (.method nm) #[v] #[])) ?_ rfl bS dG b;simp only[bn,bH l] at d;simp[execOp,m,Instr.makeFunc,d,h]
theorem MK {t:TypeId}{nm:String}{fi ca:Array Operand}(b:St F L w) (n:aH L ρ a) (l:∀k,o.dst=some k->k<a.tmps.size)
  (e:o.op=.makeFunc (.methodOf t nm) fi ca) (f:fi.toList=[]) (h:ca.toList=[]) (m:evalOp P (.mov (.c (.func (.methodOf t nm) #[] #[]))) o.dst F L ρ K):o.wp P a w (bg F L w a K) Q:=by
 have j:fi=#[]:=by apply Array.ext';exact f
 have d:ca=#[]:=by apply Array.ext';exact h
 refine bL b n l (v:=.func (.methodOf t nm) #[] #[]) (x:=.v (.func (.methodOf t nm) #[] #[])) ?_ rfl bS dG m;simp[execOp,e,Instr.makeFunc,j,d]
theorem CM {t:TypeId}{g k:Nat}{d:TypeDesc}{i:TypeInfo}(h:St F L w) (r:aH L ρ a) (z:∀k,o.dst=some k->k<a.tmps.size)
  (q:o.op=.load t (.global g)) (s:P.underlying t=some d) (hi:P.info? t=some i) (c:dH d=false) (hg:wD g=some k) (e:evalOp P (.gload g) o.dst F L ρ K):o.wp P a w (bg F L w a K) Q:=by
 simp only[evalOp,aL] at e;obtain⟨v,ty,fr,y,e⟩:=e;have m:=h.frz _ _ y;refine bL h r z (v:=v) (x:=.v v) ?_ rfl bS dG e;have p:a.eval (.global g)=.pointer (some ⟨g,0,none⟩):=rfl;have b:∀(j:Nat) (u:Value),[v][j]?=some u->w.cell? ((⟨g,0,none⟩:Addr).add j)=some u:=by
  intro j u f;cases j with
  | zero =>
   simp only[aa0,vz] at f;subst f;rw[ck];simp[World.cell?,m]
  | succ j=>simp at f
 have l:=pH s hi b (n:=1) rfl (by rw[c]);rw[c] at l;simp only[execOp,q,p,Sem.run_bind,l,Result.andThen_ok,Sem.run_pure,gL]
theorem ML {t key e:TypeId}{y z:Operand}{u s:X}{j:TypeInfo}(q:St F L w) (p:aH L ρ a) (hd:∀k,o.dst=some k->k<a.tmps.size)
  (ho:o.op=.lookup t y z true) (ht:P.underlying t=some (.map key e)) (hk:P.underlying key=some (.int .i64)) (hi:P.info? e=some j) (hz:j.zero=some (.int .i64 0)) (hy:br y=some u) (d:br z=some s) (c:evalOp P (.look u s) o.dst F L ρ K):o.wp P a w (bg F L w a K) Q:=by
 have ey:=aI hy p;have ez:=aI d p;simp only[evalOp] at c;split at c
 case h_2=>exact c.elim
 rename_i mv n hm hn;obtain⟨k,r,b,h1,h2,c⟩:=c;obtain⟨m,es,cl,rfl,h3,h4,o',h5,h6⟩:=IZ h1 h2;have hh:=q.frz _ _ h3;refine bL q p hd (v:=.tuple #[.int .i64 r,.bool b]) (x:=.v (.tuple #[.int .i64 r,.bool b])) ?_ rfl bS dG c;have h:(getObj m).run P w=.ok (.map es cl) w:=by simp[getObj,Sem.run,hh]
 have l:(Instr.checkKey es.isEmpty 10000 key (.int .i64 n)).run P w=.ok () w:=by
  rw[show(10000:Nat)=9999+1 from rfl,Instr.checkKey];simp only[Sem.run_bind,run_underlying hk,Result.andThen_ok,Sem.run_pure]
 have f:(Instr.findKey key (.int .i64 n) es.toList).run P w=.ok o' w:=by
  simp only[Instr.findKey,Sem.run_bind,run_underlying hk,Result.andThen_ok,h5,Sem.run_pure]
 simp only[execOp,ho,ey,ez,bH hm,bH hn,Instr.lookup,Sem.run_bind,run_underlying ht,Result.andThen_ok,h,Sem.run_pure,l,f];rcases h6 with⟨rfl,i,rfl⟩ | ⟨rfl,rfl,rfl⟩
 ·simp only[Sem.run_bind,Sem.run_pure,Result.andThen_ok,aa9]
 ·simp only[Sem.run_bind,zeroValue,typeInfo,run_program,Result.andThen_ok,hi,hz,Sem.run_pure,aa9]
theorem Ji {y:Operand}{y':X}(l:St F L w) (h:aH L ρ a) (r:∀k,o.dst=some k->k<a.tmps.size)
  (m:o.op=.nilCheck y) (hy:br y=some y') (q:PF P=true) (c:evalOp P (.nilck y') o.dst F L ρ K):o.wp P a w (bg F L w a K) Q:=by
 have p:=aI hy h;simp only[evalOp,aL] at c;split at c
 ·rename_i k off b;obtain⟨g,ty,cs,z⟩:=oK hy h b;refine bL l h r (v:=.pointer (some ⟨g,off,none⟩)) (x:=.own k off) ?_ (by simp only[conc,z]) (fun k' ab e=>by injection e with e1 e2;subst e1;exact⟨g,ty,cs,z⟩) (fun _ _ e=>by cases e) c;simp[execOp,m,p,val,b,conc,z]
 ·rename_i d j b;obtain⟨s,c⟩:=c;cases d with
  | none=>exact o4 rfl s
  | some d =>
   refine bL l h r (v:=.pointer (some (d.add j))) (x:=.el (some d) j) ?_ rfl (fun _ _ e=>by cases e) (fun ao j' e=>by injection e with e1 e2;subst e1;simp) c;simp[execOp,m,p,val,b,conc]
 ·rename_i d b;refine bL l h r (v:=.pointer (some d)) (x:=.v (.pointer (some d))) ?_ rfl bS dG c;simp[execOp,m,p,bH b]
 ·rename_i f fi ca b;refine bL l h r (v:=.func (.func f) fi ca) (x:=.v (.func (.func f) fi ca)) ?_ rfl bS dG c;simp[execOp,m,p,bH b]
 ·rename_i nm fi ca b;split at c
  case h_2=>exact c.elim
  rename_i t u aa;obtain⟨hm,c⟩:=c;have h1:=aaZ.1 q _ (FJ hm);obtain⟨f,hf⟩:=Option.isSome_iff_exists.1 h1;have n:fi[0]?=some (.iface t u):=by rw[<-Array.getElem?_toList,aa];rfl
  refine bL l h r (v:=.func (.method nm) fi ca) (x:=.v (.func (.method nm) fi ca)) ?_ rfl bS dG c;have hn:=Hr (P:=P) hf u w;simp only[execOp,m,p,bH b,n,Sem.run_bind,run_program,Result.andThen_ok,Sem.run_pure,hn];rfl
 ·exact c.elim
theorem CN:∀{l:List Value},jz l=true->∀u∈l,u.oneCell'=true
 | [],_,u,b=>by cases b
 | v::l,h,u,b=>by
  simp only[jz] at h;split at h
  ·rename_i c;rcases xC.1 b with rfl | b
   ·exact c
   ·exact CN h u b
  ·cases h
theorem CO {t:TypeId}{i:TypeInfo}(hi:P.info? t=some i) {g off:Nat}{v:Value}{b:Array Value}{ty:TypeId}(h:w.heap[g]?=some (.cells b ty (0,0)))
  (e:v.cells.size=i.size) (d:off+v.cells.size<=b.size) (f:∀u∈v.cells.toList,u.oneCell'=true) :
  (Instr.storeAt t (.pointer (some ⟨g,off,none⟩)) v).run P w=.ok () (w.setRow g (aP b.toList off v.cells.toList).toArray):=by
 have c:=run_storeCells_at P g off ty v.cells.toList 0 b w h (by simpa using d) f;simp only[Nat.add_zero] at c;simp only[Instr.storeAt,Instr.sureAddr,storeVar,Sem.run_bind,Sem.run_pure,Result.andThen_ok,sizeOf,typeInfo,run_program,hi];rw[o6 (by omega)];rw[c];rfl
theorem sP {c:Type}(b:Array c) (i:Nat) (v:c) (h:b[i]?=some v):b.setIfInBounds i v=b:=by
 apply Array.ext_getElem?;intro j;rw[Array.getElem?_setIfInBounds];split
 ·rename_i e;subst e;split
  ·exact h.symm
  ·rename_i d;rw[Array.getElem?_eq_none (by omega)]
 ·rfl
theorem mg (g o:Nat) (t:TypeId) (d:Nat×Nat) (b:Array Value) (w:World) (f:w.heap[g]?=some (.cells b t d)):∀(vs:List Value) (i:Nat),(∀(n:Nat) (v:Value),vs[n]?=some v->b[o+i+n]?=some v/\pF d (o+i+n))->(∀v∈vs,v.oneCell'=true) ->
  (storeCells ⟨g,o,none⟩ vs i).run P w=.ok () w
 | [],i,_,_=>rfl
 | v::j,i,p,q=>by
  have e:(⟨g,o,none⟩:Addr).add i=⟨g,o+i,none⟩:=by unfold Addr.add;split<;>simp_all
  obtain⟨k,m⟩:=p 0 v (by simp);simp only[Nat.add_zero] at k m;have c:w.cell? ⟨g,o+i,none⟩=some v:=by simp[World.cell?,f,k]
  have h:w.frozen? ⟨g,o+i,none⟩=false:=by
   obtain⟨lo,y⟩:=d;simp only[World.frozen?,f,Bool.and_eq_false_iff,decide_eq_false_iff_not];simp only[pF] at m;omega
  have l:(store ((⟨g,o,none⟩:Addr).add i) v).run P w=.ok () w:=by
   rw[e,run_store P w _ v _ (q v (by simp)),c];simp only[h,setCell_eq_setRow w g (o+i) b t d v f,sP b _ v k,setRow_self w g b t d f];simp
  have s:=mg g o t d b w f j (i+1) (fun n u r=>by
   have:=p (n+1) u (by simpa using r)
   rwa [show o+i+(n+1)=o+(i+1)+n by omega] at this) (fun x z=>q x (by simp[z]))
  simp only[storeCells,Sem.run_bind,l,Result.andThen_ok,s]
theorem oM {t:TypeId}{i:TypeInfo}(hi:P.info? t=some i) {g off:Nat}{v:Value}{b:Array Value}{ty:TypeId}{d:Nat×Nat}(j:w.heap[g]?=some (.cells b ty d))
  (e:v.cells.size=i.size) (h:∀(n:Nat) (u:Value),v.cells.toList[n]?=some u->b[off+n]?=some u/\pF d (off+n)) (f:∀u∈v.cells.toList,u.oneCell'=true) :
  (Instr.storeAt t (.pointer (some ⟨g,off,none⟩)) v).run P w=.ok () w:=by
 have c:=mg (P:=P) g off ty d b w j v.cells.toList 0 (by simpa using h) f;simp only[Instr.storeAt,Instr.sureAddr,storeVar,Sem.run_bind,Sem.run_pure,Result.andThen_ok,sizeOf,typeInfo,run_program,hi];rw[o6 (by omega)];rw[c]
theorem mC (w:World) (g:Nat) (cs:Array Value):w.grownBy (w.setRow g cs) (some g) :=
 ⟨rfl,rfl,rfl,by simp[World.setRow],fun k _ b=>setRow_other w g k cs (fun e=>b (by rw[e]))⟩
theorem Jj {t:TypeId}{y z:Operand}{y' z':X}{i:TypeInfo}(hs:St F L w) (he:aH L ρ a) (hd:∀k,o.dst=some k->k<a.tmps.size)
  (ho:o.op=.store t y z) (hi:P.info? t=some i) (hy:br y=some y') (hz:br z=some z')
  (l:evalOp P (.store i.size y' z') o.dst F L ρ K):o.wp P a w (bg F L w a K) Q:=by
 have ey:=aI hy he;have ez:=aI hz he;have am:aK (val L ρ z')=(a.eval z).cells.toList:=by rw[ez,oL]
 have turn:∀(k:Nat) (g:Nat) (oo o':Own) (f:Array Value) (ty:TypeId) (off:Nat),L.get k=some oo->oo.blk=some g->o'.blk=some g->w.heap[g]?=some (.cells f ty (0,0)) ->
   (a.eval z).cells.size=i.size->off+(a.eval z).cells.size<=f.size->(∀u∈(a.eval z).cells.toList,u.oneCell'=true)->a.eval y=.pointer (some ⟨g,off,none⟩) ->
   o'.ok (w.setRow g (aP f.toList off (a.eval z).cells.toList).toArray)->(∀g' ty' cs',oo=.box g' ty' cs'->∃an,o'=.box g' ty' an) ->
   K F (L.set k o') (put o.dst (.v undef) ρ)->o.wp P a w (bg F L w a K) Q:=by
  intro k g oo o' f ty off s hb bc hg bl d h1 aa ca q l;have ab:=mC w g (aP f.toList off (a.eval z).cells.toList).toArray;have cb:St F (L.set k o') (w.setRow g (aP f.toList off (a.eval z).cells.toList).toArray) :=
   hs.turn s ca (fun b aw be=>ab.block b aw (fun e=>be (by rw[hb,e]))) (fun g' ar=>.inl (by rw[hb];rw[bc] at ar;exact ar))
  refine tU he hd (w':=w.setRow g (aP f.toList off (a.eval z).cells.toList).toArray) ?_ cb ?_ ?_ l
  ·simp[execOp,ho,aa,CO hi hg bl d h1]
  ·refine⟨aD.le_refl F,rfl,rfl,rfl,ab.size,fun b aw hn=>ab.block b aw (fun e=>hn ⟨k,oo,s,by rw[hb,e]⟩),fun b h=>.inl h,fun b h=>?_⟩;rcases Loc.aal h with h | h
   ·rw[bc] at h;exact .inl ⟨k,oo,s,by rw[hb];exact h⟩
   ·exact .inl h
  ·intro j g' ty' cs' e;rw[Loc.aac];split
   ·rename_i hj;subst hj;rw[s] at e;injection e with e
    obtain⟨an,h⟩:=q g' ty' cs' e;exact⟨an,by rw[h]⟩
   ·exact⟨cs',e⟩
 have r:∀(ad:Option Addr) (j:Nat),ad≠none->a.eval y=conc L (.el ad j)->fH (aK (val L ρ z')) i.size=true->jz (aK (val L ρ z'))=true ->
   (tO F L ad j (aK (val L ρ z')) fun L'=>K F L' (put o.dst (.v undef) ρ))->o.wp P a w (bg F L w a K) Q:=by
  rintro ad j be aa p h1 ⟨⟨k,v,ty,sz,m,xs,bj,c,s,rfl,rfl,d,al,l⟩ | ⟨⟨bj,co,ty,fz,rfl,hb,ap,hc⟩,al,l⟩⟩
  case inr =>
   have p:=iS p;rw[am] at p al hc;obtain⟨g,off,sp⟩:=bj;simp only at ap;subst ap;have hr:=oM (P:=P) hi (off:=off+j) (v:=a.eval z) (hs.frz g _ hb) (by simpa using p) hc al;refine tU he hd (w':=w) ?_ hs ?_ (fun j g' ty' cs' e=>⟨cs',e⟩) l
   ·simp only[conc,ck] at aa;simp[execOp,ho,aa,hr]
   ·exact⟨aD.le_refl F,rfl,rfl,rfl,aa7 _,fun b _ _=>rfl,fun b h=>.inl h,fun b h=>.inl h⟩
  have p:=iS p;rw[am] at p al d l;have ax:(a.eval z).cells.size=i.size:=by simpa using p
  have ac:=hs.own k _ s;simp only[Own.ok] at ac;obtain⟨hx,ac⟩:=ac;rcases ac with⟨e,_⟩ | ⟨g,cap,f,e,bx,hg,bk,cd,av,ag⟩
  ·cases e
  ·injection e with e1 e2 e3
   injection e1 with e1
   subst e1 e3;have ct:m*sz<=f.size:=by rw[av];exact Nat.mul_le_mul_right _ bk
   rw[<-ag] at d;have ay:j+(a.eval z).cells.size<=m*sz:=by simp at d;omega
   refine turn k g _ (.row (.slice (some ⟨g,0,none⟩) m c) ty sz m (aP xs j (a.eval z).cells.toList)) f ty j s rfl rfl hg ax (by omega) al (by rw[aa];simp only[conc];rw[ck];simp) ?_ (fun g' ty' cs' e=>by cases e) l;refine⟨?_,.inr ⟨g,c,_,rfl,bx,setRow_heap w g f _ ty _ hg,bk,cd,?_,?_⟩⟩
   ·rw[fE _ _ _ (by rw[hx];simpa using ay)];exact hx
   ·have:(aP f.toList j (a.eval z).cells.toList).length=f.size:=by rw[fE _ _ _ (by simp;omega)];simp
    simp[this,av]
   ·rw[List.toList_toArray,<-ag];apply abp;intro n;have bt:j+(a.eval z).cells.toList.length<=f.toList.length:=by simp;omega
    rw[iE (by simp;omega)]
    by_cases hn:n<m*sz
    ·rw[List.getElem?_take_of_lt hn,iE bt,List.getElem?_take_of_lt hn]
    ·rw[aaY (by simp;omega)];have h1:¬n<j:=by omega
     have h2:¬n<j+(a.eval z).cells.toList.length:=by simp;omega
     rw[o6 h1,o6 h2,aaY (by simp;omega)]
 simp only[evalOp,aL] at l;split at l
 ·rename_i p h1 x;rename_i k off;have p:=iS p;have h1:=CN h1;rw[am] at p h1;split at l
  case h_2=>exact l.elim
  rename_i g ty cs s;split at l
  case h_2=>exact l.elim
  rename_i d;have bi:=wG d;have d:=iS (Bh d);have q:w.heap[g]?=some (.cells cs.toArray ty (0,0)):=by rw[<-ij bi];exact hs.own k _ s
  by_cases h0:i.size=0
  ·have hz:(a.eval z).cells.toList=[]:=abg (by rw[p,h0]);have ap:aP cs off []=cs:=by simp[aP]
   rw[am,hz,ap] at l;have hr:=oM (P:=P) hi (off:=off) (v:=a.eval z) q (by simpa using p) (by rw[hz];intro n u hu;simp at hu) (by rw[hz];intro u hu;cases hu);have aa:a.eval y=.pointer (some ⟨g,off,none⟩):=by rw[ey];simp only[val,x,conc,s]
   refine tU he hd (w':=w) ?_ (hs.turn s (o':=.box g ty cs) (hs.own k _ s) (fun _ _ _=>rfl) (fun g' ar=>.inl ar)) ?_ (fun j g' ty' cs' e=>?_) l
   ·simp[execOp,ho,aa,hr]
   ·refine⟨aD.le_refl F,rfl,rfl,rfl,aa7 _,fun b _ _=>rfl,fun b h=>.inl h,fun b h=>?_⟩;rcases Loc.aal h with h | h
    ·exact .inl ⟨k,_,s,h⟩
    ·exact .inl h
   ·rw[Loc.aac];split
    ·rename_i hj;subst hj;rw[s] at e;injection e with e
     injection e with q1 q2 q3
     subst q1 q2;exact⟨_,rfl⟩
    ·exact⟨cs',e⟩
  have bu:off+i.size<=cs.length:=by simp at d;omega
  rw[am] at l;have ax:(a.eval z).cells.size=i.size:=by simpa using p
  refine turn k g _ (.box g ty (aP cs off (a.eval z).cells.toList)) cs.toArray ty off s rfl rfl q ax (by simp;omega) h1 (by rw[ey];simp only[val,x,conc,s]) ?_ (fun g' ty' cs' e=>by injection e with e1 e2 e3;subst e1 e2;exact⟨_,rfl⟩) l;show _=_;rw[ij bi];exact setRow_heap w g cs.toArray _ ty _ q
 ·rename_i p h1 x;exact r _ _ (rI hy he x) (by rw[ey];simp only[val,x]) p h1 l
 ·rename_i p h1 x;rename_i ad;refine r (some ad) 0 (by simp) (by rw[ey];simp only[val,x,conc];simp[Addr.add]) p h1 l
 ·exact l.elim
end
def En (k:IntKind) (n:Nat):List Value:=List.replicate n (.int k 0)
theorem mW {k:IntKind}{n:Nat}:(En k n).length=n:=by simp[En]
theorem MN {k:IntKind}{n:Nat}:∀u∈En k n,u.oneCell'=true:=by
 intro u a;obtain rfl:=List.eq_of_mem_replicate a;rfl
theorem pI {k:IntKind}{n:Nat}:Builtin.zeroCells (Value.int k 0).cells n=(En k n).toArray:=by
 apply Array.ext';have h:(Value.int k 0).cells=#[.int k 0]:=rfl;rw[h];simp only[Builtin.zeroCells,En,List.size_toArray,aaV,abb,Nat.zero_add,Nat.mul_one,Nat.mod_one];apply List.ext_getElem
 ·simp
 ·intro i a b;simp
section
variable {P:Program}(w:World)
theorem qt (t s ty e:TypeId) (i:TypeInfo) (k h kn:IntKind) (v:P.underlying t=some (.slice e)) (l:P.underlying s=some (.int kn)) (hi:P.info? e=some i) (hz:i.zero=some (.int h 0)) (j:i.size=1)
  (g a c:Nat) (b:Array Value) (hg:w.heap[g]?=some (.cells b e (0,0))) (n:Nat) (z:(n:Int)<=9223372036854775807) (ae:n*i.bytes<=281474976710656)
  (f:a+n<=c) (p:a+n<=b.size) :
  (Builtin.append_ #[t,s] ty #[.slice (some ⟨g,0,none⟩) a c,.int k n]).run P w =
   .ok (.slice (some ⟨g,0,none⟩) (a+n) c) (w.setRow g (b.toList.take a++En h n++b.toList.drop (a+n)).toArray):=by
 have x:IntKind.i64.wrap (n:Int)=n:=by rw[IntKind.wrap_i64];omega
 have o:¬((n:Int)<0):=by omega
 have m:¬(281474976710656<(n:Int)*(i.bytes:Int)):=by
  rw[<-Int.natCast_mul];omega
 have d:=run_storeCells_at P g a e (En h n) 0 b w hg (by simpa[mW] using p) (MN);simp only[Nat.add_zero,mW] at d
 by_cases u:n=0
 ·subst u;have y:En h 0=[]:=rfl;have q:IntKind.i64.wrap 0=0:=by decide
  have r:a<=c:=by omega
  rw[y] at d ⊢;simp[Builtin.append_,run_underlying v,run_underlying l,sizeOf,typeInfo,hi,j,asInt,asIntOf,q,r,Addr.add_lit];have h2:w.setRow g b=w.setRow g (b.toList.take a++[]++b.toList.drop a).toArray:=by simp
  simp at d;rw[d];rfl
 ·have hl:(En h n)=(Builtin.zeroCells (Value.int h 0).cells n).toList:=by rw[pI]
  rw[hl] at d ⊢;simp[Builtin.append_,run_underlying v,run_underlying l,sizeOf,typeInfo,hi,j,asInt,asIntOf,x,o,m,u,f,Addr.add_lit,zeroValue,hz,d]
theorem run_append_grow_zeros (t x ty e:TypeId) (i:TypeInfo) (k m kn:IntKind) (ht:P.underlying t=some (.slice e)) (r:P.underlying x=some (.int kn)) (hi:P.info? e=some i) (hz:i.zero=some (.int m 0)) (h:i.size=1)
  (b:Addr) (a c:Nat) (d:List Value) (u:d.length=a*i.size) (holds:∀j v,d[j]?=some v->w.cell? (b.add j)=some v) (n:Nat) (am:a<=c)
  (hg:c<a+n) (ab:((a+n:Nat):Int)<=9223372036854775807) (al:n*i.bytes<=281474976710656) (y:Builtin.nextslicecap (a+n) c*i.bytes<=281474976710656) :
  (Builtin.append_ #[t,x] ty #[.slice (some b) a c,.int k n]).run P w =
   .ok (.slice (some ⟨w.heap.size,0,none⟩) (a+n) (grownCap w (a+n) c e))
    (w.drew.alloc (.cells (d.toArray++(En m n).toArray++Builtin.zeroCells (Value.int m 0).cells (grownCap w (a+n) c e-(a+n))) e)):=by
 have z:IntKind.i64.wrap (n:Int)=n:=by rw[IntKind.wrap_i64];omega
 have q:¬((n:Int)<0):=by omega
 have o:¬(281474976710656<(n:Int)*(i.bytes:Int)):=by
  rw[<-Int.natCast_mul];omega
 have hn:¬(a+n<=c):=by omega
 have s:n≠0:=by omega
 have l:¬(9223372036854775807<((a:Int)+(n:Int))):=by omega
 have f:¬(281474976710656<Builtin.nextslicecap (a+n) c*i.bytes):=by omega
 have p:=run_firstCells_some (P:=P) w.drew i.size a b a c d u (by simpa using holds);have hl:(En m n).toArray=(Builtin.zeroCells (Value.int m 0).cells n):=by rw[pI]
 rw[hl];rw[h] at p;simp[Builtin.append_,run_underlying ht,run_underlying r,sizeOf,typeInfo,zeroValue,hi,hz,h,asInt,asIntOf,z,q,o,s,hn,l,f,Question.forced,p,newRow,grownCap]
theorem qD (b:Nat) (t tn ty e:TypeId) (i:TypeInfo) (k h kn:IntKind) (ht:P.underlying t=some (.slice e)) (s:P.underlying tn=some (.int kn)) (hi:P.info? e=some i) (hz:i.zero=some (.int h 0)) (q:i.size=1)
  (v:Value) (n:Nat) (xs:List Value) (l:w.ownsRow b e 1 v n xs) (m:Nat)
  (ad:n+m<=maxLen) (c:(n+m)*i.bytes<=140737488355328) (y:b<=w.heap.size) :
  ∃v' w',(Builtin.append_ #[t,tn] ty #[v,.int k m]).run P w=.ok v' w'/\w'.ownsRow b e 1 v' (n+m) (xs++En h m)/\w.grownBy w' v.ownBlock /\
   (v'.ownBlock=v.ownBlock\/v'.ownBlock=some w.heap.size):=by
 have al:n+m<=9223372036854775807:=by simp only[maxLen] at ad;omega
 have r:xs.length=n:=by simpa using l.1
 have bc:m*i.bytes<=140737488355328:=abz (Nat.mul_le_mul_right _ (by omega)) c;have d:(xs++En h m).length=(n+m)*1:=by rw[yo,r,mW,Nat.mul_one]
 have p:∀(a:Nat),a<n+m->∀(row:Option Nat),
   (w.drew.alloc (.cells (xs.toArray++(En h m).toArray++Builtin.zeroCells (Value.int h 0).cells (grownCap w (n+m) a e-(n+m))) e)).ownsRow b e 1
    (.slice (some ⟨w.heap.size,0,none⟩) (n+m) (grownCap w (n+m) a e)) (n+m) (xs++En h m) /\
   w.grownBy (w.drew.alloc (.cells (xs.toArray++(En h m).toArray++Builtin.zeroCells (Value.int h 0).cells (grownCap w (n+m) a e-(n+m))) e)) row:=by
  intro a ho row;have ax:=grownCap_ge w (n+m) a e;have z:grownCap w (n+m) a e<=maxLen:=grownCap_le_maxLen w (n+m) a e ad;refine⟨⟨d,.inr ⟨w.heap.size,_,_,rfl,y,heap_alloc_new w.drew _,ax,z,?_,?_⟩⟩,⟨rfl,rfl,rfl,by simp,fun k hk _=>by first | exact heap_alloc_old w.drew _ k hk | exact heap_alloc_old w.drew _ hk⟩⟩
  ·have ar:(Value.int h 0).cells.size=1:=rfl;simp only[Array.size_append,List.size_toArray,size_zeroCells,ar,r,mW];omega
  ·simp only[Array.toList_append,aaR];rw[<-aaR,<-d];exact List.take_left
 rcases l.2 with⟨rfl,rfl⟩ | ⟨g,cap,x,rfl,aw,hg,av,z,ay,aa⟩
 ·have hx:xs=[]:=abg r;subst hx
  by_cases hm:m=0
  ·subst hm;refine⟨.slice none 0 0,w,?_,World.ownsRow_nil w b e 1,⟨rfl,rfl,rfl,aa7 _,fun _ _ _=>rfl⟩,.inl rfl⟩;have hw:IntKind.i64.wrap 0=0:=by decide
   simp[Builtin.append_,run_underlying ht,run_underlying s,sizeOf,typeInfo,hi,q,asInt,asIntOf,hw]
  ·have hr:=Lib.run_append_nil_zeros (P:=P) w t tn ty e i (.int h 0) k kn ht s hi hz m (by omega) (by omega) (by omega) (by omega);have f:=p 0 (by omega) (Value.ownBlock (.slice none 0 0));simp only[Nat.zero_add,aa5,Array.empty_append] at f ⊢;rw[pI (n:=m)] at hr;exact⟨_,_,hr,f.1,f.2,.inr rfl⟩
 ·by_cases o:n+m<=cap
  ·have aE:x.size=cap:=by simpa using ay
   have hr:=qt (P:=P) w t tn ty e i k h kn ht s hi hz q g n cap x hg m (by omega) (by omega) o (by omega);refine⟨_,_,hr,⟨d,.inr ⟨g,cap,_,rfl,aw,setRow_heap w g x _ e _ hg,o,z,?_,?_⟩⟩,⟨rfl,rfl,rfl,by simp,fun k _ hk=>setRow_other w g k _ (fun e=>hk (by simp[Value.ownBlock,e]))⟩,.inl rfl⟩
   ·simp only[List.size_toArray,yo,aa6,abA,Array.length_toList,mW];omega
   ·have ao:x.toList.take n=xs:=by simpa using aa
    rw[ao,<-d];exact List.take_left
  ·have holds:∀j u,xs[j]?=some u->w.cell? ((⟨g,0,none⟩:Addr).add j)=some u:=l.cells (g:=g) rfl;have hr:=run_append_grow_zeros (P:=P) w t tn ty e i k h kn ht s hi hz q ⟨g,0,none⟩ n cap xs (by rw[q];simpa using r) holds m av (by omega) (by omega) (by omega) (growslice_fits (by omega) c);have f:=p cap (by omega) (Value.ownBlock (.slice (some ⟨g,0,none⟩) n cap));exact⟨_,_,hr,f.1,f.2,.inr rfl⟩
end
section
variable {P:Program}{F:aD}{L:Loc}{ρ:Env}{a:Act}{w:World}{K:cQ}{o:Oper}{Q:Exit->Act->World->Prop}
theorem z8 {b:Option Operand}{c:Option X}(h:qz b=some c) (l:aH L ρ a) {d i:Int}(hi:jI ρ d c=some i) :
  (b=none/\i=d)\/∃y k,b=some y/\a.eval y=.int k i:=by
 cases b with
 | none=>simp only[qz,vz] at h;subst h;simp only[jI,vz] at hi;exact .inl ⟨rfl,hi.symm⟩
 | some y =>
  simp only[qz] at h;split at h
  case h_2=>cases h
  rename_i x e;injection h with h
  subst h;simp only[jI] at hi;split at hi
  case h_2=>cases hi
  rename_i k j f;injection hi with hi
  subst hi;exact .inr ⟨y,k,rfl,by rw[aI e l,bH f]⟩
theorem jN {k:IntKind}{i:Int}{y:Nat}{code:BoundsCode}(b:0<=i) (c:i<=y):(Instr.sliceBound (.int k i) y code).run P w=.ok i.toNat w:=by
 simp[Instr.sliceBound,asIntOf,b,c]
theorem qk {b:Bool}{n c:Nat}{lo hi:Option Operand}{d e:Option X}{l h:Int}(v:qz lo=some d) (s:qz hi=some e) (j:aH L ρ a)
  (el:jI ρ 0 d=some l) (u:jI ρ n e=some h) (q:0<=l) (t:l<=h) (f:h<=c) :
  (Instr.sliceBounds b n c (lo.map a.eval) (hi.map a.eval) none).run P w=.ok (l.toNat,h.toNat,c) w:=by
 unfold Instr.sliceBounds;rcases z8 v j el with⟨rfl,rfl⟩ | ⟨y,k,rfl,p⟩<;>rcases z8 s j u with⟨rfl,rfl⟩ | ⟨z,x,rfl,m⟩
 ·simp
 ·simp[m,jN (P:=P) (w:=w) (show 0<=h by omega) f]
 ·simp[p,jN (P:=P) (w:=w) q t]
 ·have r:l<=(h.toNat:Nat):=by omega
  simp[p,m,jN (P:=P) (w:=w) (show 0<=h by omega) f,jN (P:=P) (w:=w) q r]
theorem Ra {t e:TypeId}{y:Operand}{lo up:Option Operand}{r:X}{f j:Option X}{i:TypeInfo}(s:St F L w) (p:aH L ρ a) (hd:∀k,o.dst=some k->k<a.tmps.size)
  (ho:o.op=.slice t y lo up none) (ht:P.underlying t=some (.slice e)) (hi:P.info? e=some i) (hy:br y=some r) (hl:qz lo=some f) (z:qz up=some j)
  (d:evalOp P (.slc i.size r f j) o.dst F L ρ K):o.wp P a w (bg F L w a K) Q:=by
 have ey:=aI hy p;simp only[evalOp,aL] at d;split at d
 case h_2=>exact d.elim
 rename_i q n c m;split at d
 case h_2=>exact d.elim
 rename_i l h el eh;obtain⟨h1,u,h3,d⟩:=d;refine bL s p hd (v:=gh q c l.toNat h.toNat i.size) (x:=.v (gh q c l.toNat h.toNat i.size)) ?_ rfl bS dG d;have hb:=qk (P:=P) (w:=w) (b:=true) hl z p el eh h1 u h3;simp[execOp,ho,ey,bH m,Instr.sliceAt,Instr.slice,run_underlying ht,hb,sizeOf,typeInfo,hi,gh]
theorem MO {t:TypeId}{y:Operand}{lo up:Option Operand}{m:X}{d e:Option X}(n:St F L w) (f:aH L ρ a) (hd:∀k,o.dst=some k->k<a.tmps.size)
  (ho:o.op=.slice t y lo up none) (ht:P.underlying t=some .string) (z:br y=some m) (hl:qz lo=some d) (q:qz up=some e)
  (c:evalOp P (.slcS m d e) o.dst F L ρ K):o.wp P a w (bg F L w a K) Q:=by
 have ey:=aI z f;simp only[evalOp,aL] at c;split at c
 case h_2=>exact c.elim
 rename_i s j;split at c
 case h_2=>exact c.elim
 rename_i l h el r;obtain⟨h1,p,u,c⟩:=c;refine bL n f hd (v:=.string (s.extract l.toNat h.toNat)) (x:=.v (.string (s.extract l.toNat h.toNat))) ?_ rfl bS dG c;have hb:=qk (P:=P) (w:=w) (b:=false) hl q f el r h1 p u;simp[execOp,ho,ey,bH j,Instr.sliceAt,Instr.slice,run_underlying ht,hb]
theorem xK (z:Array Value) (n:Nat) (q:0<z.size):(madeCells z (n*z.size)).toList=(List.replicate n z.toList).flatten:=by
 induction n with
 | zero=>simp[madeCells]
 | succ n d =>
  rw[List.replicate_succ',List.flatten_append,<-d];apply abp;intro j;have e:(madeCells z (n*z.size)).toList.length=n*z.size:=by simp[madeCells]
  have b:∀m j,j<m->(madeCells z m).toList[j]?=some (z[j % z.size]!):=by
   intro m j l;simp[madeCells,l]
  have p:(n+1)*z.size=n*z.size+z.size:=Nat.succ_mul _ _
  by_cases f:j<n*z.size
  ·rw[aaW (by omega),b _ _ (by omega),b _ _ f]
  ·rw[aa2 (by omega),e]
   by_cases h:j<(n+1)*z.size
   ·rw[b _ _ h];have c:j-n*z.size<z.size:=by omega
    have k:j % z.size=j-n*z.size:=by
     have:j=(j-n*z.size)+z.size*n:=by rw[Nat.mul_comm z.size n];omega
     rw[this,Nat.add_mul_mod_self_left,Nat.mod_eq_of_lt c,Nat.mul_comm z.size n];omega
    simp[c,k]
   ·rw[aaY (by simp[madeCells];omega),aaY (by simp;omega)]
theorem Jk {t e:TypeId}{y z:Operand}{y' z':X}{i:TypeInfo}{b:Value}(hs:St F L w) (he:aH L ρ a) (hd:∀k,o.dst=some k->k<a.tmps.size)
  (ho:o.op=.makeSlice t y z) (ht:P.underlying t=some (.slice e)) (hi:P.info? e=some i) (aa:i.zero=some b) (s:b.cells.size=i.size) (an:0<i.size) (hy:br y=some y') (hz:br z=some z')
  (d:evalOp P (.makeS e i.size i.bytes b.cells.toList y' z') o.dst F L ρ K):o.wp P a w (bg F L w a K) Q:=by
 have ey:=aI hy he;have ez:=aI hz he;simp only[evalOp,aL] at d;split at d
 case h_2=>exact d.elim
 rename_i k1 n k2 m k ag ad am;split at d
 case h_2=>exact d.elim
 rename_i _ hk;obtain⟨h0,p,hb,l,d⟩:=d;have d:=d w.heap.size;obtain⟨r,rfl⟩:=Int.eq_ofNat_of_zero_le h0;obtain⟨q,rfl⟩:=Int.eq_ofNat_of_zero_le (Int.le_trans h0 p);simp only[abN] at hb l d;have ab:r<=q:=by omega
 have j:(i.bytes:Int)*(q:Int)<=281474976710656:=by
  have h:((i.bytes*q:Nat):Int)<=281474976710656:=by rw[Nat.mul_comm];omega
  rwa [Int.natCast_mul] at h
 have ac:(q:Int)<=9223372036854775807:=by
  have h:=l;simp[maxLen] at h;omega
 have hr:=run_make (P:=P) w t e i b ht hi aa k1 k2 r q (by omega) p j ac;simp only[abN] at hr;have c:=xK b.cells q (by omega);rw[s] at c;have f:∀m:Nat,(List.replicate m b.cells.toList).flatten.length=m*i.size:=by
  intro m;simp[s]
 have al:(List.replicate r b.cells.toList).flatten=(List.replicate q b.cells.toList).flatten.take (r*i.size):=by
  have e1:q=r+(q-r):=by omega
  conv=>rhs;rw[e1]
  rw[<-List.replicate_append_replicate,List.flatten_append,List.take_append_of_le_length (by rw[f];exact aa7 _),abv (by rw[f];exact aa7 _)]
 have u:(w.alloc (.cells (madeCells b.cells (q*i.size)) e)).ownsRow 0 e i.size (.slice (some ⟨w.heap.size,0,none⟩) r q) r (List.replicate r b.cells.toList).flatten:=by
  refine⟨f r,.inr ⟨w.heap.size,q,madeCells b.cells (q*i.size),rfl,abk _,gP w _,ab,l,size_madeCells _ _,?_⟩⟩;rw[al,<-c]
 obtain⟨h1,h2,h3⟩:=kK hs hk (cs:=madeCells b.cells (q*i.size)) (t:=e) (e:=.row (.slice (some ⟨w.heap.size,0,none⟩) r q) e i.size r (List.replicate r b.cells.toList).flatten) rfl u;refine gu he hd (v:=.slice (some ⟨w.heap.size,0,none⟩) r q) (x:=.v (.slice (some ⟨w.heap.size,0,none⟩) r q)) ?_ h1 h2 rfl bS dG h3 d;simp only[execOp,ho,ey,ez,bH ag,bH ad,Sem.run_bind,hr,Result.andThen_ok,Sem.run_pure]
theorem xL (u:St F L w) {k:Nat}{e:TypeId}{sz n n':Nat}{s v:Value}{xs f:List Value}{w':World}
  (m:L.get k=some (.row s e sz n xs)\/(L.get k=none/\s=.slice none 0 0)) (p:w'.ownsRow 0 e sz v n' f) (d:w.grownBy w' s.ownBlock)
  (r:v.ownBlock=s.ownBlock\/v.ownBlock=some w.heap.size) :
  St F (L.set k (.row v e sz n' f)) w'/\Step F L w F (L.set k (.row v e sz n' f)) w'/\(∀j g ty cs,L.get j=some (.box g ty cs)->∃cs',(L.set k (.row v e sz n' f)).get j=some (.box g ty cs')):=by
 have l:∀j g ty cs,L.get j=some (.box g ty cs)->∃cs',(L.set k (.row v e sz n' f)).get j=some (.box g ty cs'):=by
  intro j g ty cs ej;rw[Loc.aac];split
  ·rename_i hj;subst hj;rcases m with h | ⟨h,_⟩<;>rw[h] at ej<;>cases ej
  ·exact⟨cs,ej⟩
 rcases m with t | ⟨t,rfl⟩
 ·refine⟨u.turn t p (fun b hb x=>d.block b hb (fun e=>x (by simpa[Own.blk] using e.symm))) (fun g c=>?_),⟨aD.le_refl F,d.os,d.tape,d.output,d.size,fun b hb hn=>d.block b hb (fun e=>hn ⟨k,_,t,e.symm⟩),fun b h=>.inl h,fun b h=>?_⟩,l⟩
  ·rcases r with h | h
   ·exact .inl (by simp only[Own.blk] at c ⊢;rw[<-h];exact c)
   ·simp only[Own.blk] at c;rw[h] at c;injection c with c;exact .inr (by omega)
  ·rcases Loc.aal h with h | h
   ·simp only[Own.blk] at h;rcases r with q | q
    ·exact .inl ⟨k,_,t,by simp only[Own.blk];rw[<-q];exact h⟩
    ·rw[q] at h;injection h with h;exact .inr (by omega)
   ·exact .inl h
 ·have z:∀g,v.ownBlock=some g->w.heap.size<=g:=by
   intro g h;rcases r with q | q
   ·rw[q] at h;cases h
   ·rw[q] at h;injection h with h;omega
  have y:St F L w':=u.keep fun b hb=>d.block b hb (by simp[Value.ownBlock]);refine⟨y.put t p fun g c=>⟨?_,fun ho=>?_⟩,⟨aD.le_refl F,d.os,d.tape,d.output,d.size,fun b hb hn=>d.block b hb (by simp[Value.ownBlock]),fun b h=>.inl h,fun b h=>?_⟩,l⟩
  ·cases hF:F g with
   | none=>rfl
   | some _=>have h1:=u.aaw (b:=g) (by rw[hF];simp);have h2:=z g c;omega
  ·have h1:=u.aaB ho;have h2:=z g c;omega
  ·rcases Loc.aal h with h | h
   ·exact .inr (z b h)
   ·exact .inl h
theorem tW {e:TypeId}{sz n:Nat}{v:Value}{xs:List Value}(h:w.ownsRow 0 e sz v n xs):∃a c,v=.slice a n c/\(a=none->n=0):=by
 rcases h.2 with⟨rfl,rfl⟩ | ⟨g,cap,b,rfl,_⟩
 ·exact⟨none,0,rfl,fun _=>rfl⟩
 ·exact⟨_,cap,rfl,fun e=>(by cases e)⟩
theorem sQ {t ty e:TypeId}{i:TypeInfo}(j:P.underlying t=some (.slice e)) (hi:P.info? e=some i) {s:Value}{n:Nat}{xs:List Value}(b:w.ownsRow 0 e i.size s n xs) (d:Option Addr) (c:Nat) :
  ∃w',(Builtin.append_ #[t,t] ty #[s,.slice d 0 c]).run P w=.ok s w'/\w'=w:=by
 refine⟨w,?_,rfl⟩;have h:(Builtin.firstCells i.size 0 (.slice d 0 c)).run P w=.ok #[] w:=by
  cases d<;>simp[Builtin.firstCells,loadCells,loadCellsFrom]
 rcases b.2 with⟨rfl,rfl⟩ | ⟨g,cap,k,rfl,_,_,f,_⟩
 ·simp[Builtin.append_,run_underlying j,sizeOf,typeInfo,hi,Builtin.lenOf,h]
 ·simp[Builtin.append_,run_underlying j,sizeOf,typeInfo,hi,Builtin.lenOf,h,f,storeCells]
theorem Rb {t e:TypeId}{y z:Operand}{y' z':X}{i:TypeInfo}{zv:Value}{c:Call}(hs:St F L w) (he:aH L ρ a) (hd:∀k,o.dst=some k->k<a.tmps.size)
  (ho:o.op=.call c) (hc:c.callee=.builtin .append) (ha:c.args=#[y,z]) (bk:c.argTypes=#[t,t]) (ht:P.underlying t=some (.slice e)) (hi:P.info? e=some i) (bv:i.zero=some zv) (bi:zv.cells.size=i.size) (av:0<i.size)
  (hy:br y=some y') (hz:br z=some z') (hK:evalOp P (.app e i.size i.bytes zv.cells.toList y' z') o.dst F L ρ K):o.wp P a w (bg F L w a K) Q:=by
 have ey:=aI hy he;have ez:=aI hz he;simp only[evalOp,aL] at hK;split at hK
 case h_2=>exact hK.elim
 rename_i s x bl bz;obtain⟨kd,n,xs,m,news,ba,⟨ad,cx,rfl,ag,ax⟩,h1,bx,bm,hK⟩:=hK;have ar:m≠0->∃d,ad=some d/\∀j u,news[j]?=some u->w.cell? (d.add j)=some u:=by
  intro hm;rcases ax with p | ⟨an,_⟩ | ⟨k,v,ty,cX,m',ys,d,c',hk,rfl,rfl,p⟩
  ·obtain⟨d,q,bj,ac⟩:=p.cell hs;refine⟨d,q,fun j u hu=>?_⟩;have:=ac j u hu
   rwa [Nat.zero_add] at this
  ·exact o4 an hm
  ·refine⟨d,rfl,fun j u hu=>?_⟩;have r:=hs.own k _ hk;simp only[Own.ok] at r;have h0:=World.ownsRow.cells r (g:=d.block) rfl j u (p j u hu);rcases r.2 with⟨q,_⟩ | ⟨g,cap,ap,q,_⟩
   ·cases q
   ·injection q with e1 e2 e3
    injection e1 with e1
    subst e1;exact h0
 have aE:(L.get kd=some (.row s e i.size n xs)\/(L.get kd=none/\n=0/\xs=[]/\s=.slice none 0 0))\/(L.get kd=none/\∃ad,s=.slice (some ad) n n/\0<m/\xs.length=n*i.size/\(bU F (some ad) 0 xs\/(n=0/\xs=[]))):=by
  rcases ba with h | h | h
  ·exact .inl (.inl h)
  ·exact .inl (.inr h)
  ·exact .inr h
 rcases aE with aw | ⟨bt,ca,rfl,an,cw,cM⟩
 case inr =>
  obtain⟨d,rfl,l⟩:=ar (by omega);have ct:∀j u,xs[j]?=some u->w.cell? (ca.add j)=some u:=by
   intro j u hu;rcases cM with p | ⟨_,rfl⟩
   ·obtain⟨dC,q,bj,ac⟩:=p.cell hs;injection q with q
    subst q;have:=ac j u hu
    rwa [Nat.zero_add] at this
   ·simp at hu
  obtain⟨v,w',r,f,hg⟩:=run_append_arg_grows (P:=P) w t o.type e i zv i.size i.bytes ht hi bv rfl rfl bi av ca n n xs cw ct d m cx news ag l (by omega) bx bm;have aa:w'.ownsRow 0 e i.size v (n+m) (xs++news):=by
   refine⟨f.1,?_⟩;rcases f.2 with h | ⟨g,cap,ap,e1,e2,e3⟩
   ·exact .inl h
   ·exact .inr ⟨g,cap,ap,e1,abk _,e3⟩
  have bd:v.ownBlock=none\/(∃g,v.ownBlock=some g/\w.heap.size<=g):=by
   rcases f.2 with⟨h,_⟩ | ⟨g,cap,ap,e1,e2,e3⟩
   ·rw[h];exact .inl rfl
   ·rw[e1];exact .inr ⟨g,rfl,e2⟩
  have hv:∀g,v.ownBlock=some g->w.heap.size<=g:=by
   intro g h;rcases bd with h' | ⟨g',h',h2⟩
   ·rw[h'] at h;cases h
   ·rw[h'] at h;injection h with h;omega
  have cl:St F L w':=hs.keep fun b hb=>hg.block b hb (by simp);have cy:St F (L.set kd (.row v e i.size (n+m) (xs++news))) w':=cl.put bt aa fun g bo=>⟨by
   cases hF:F g with
   | none=>rfl
   | some _=>have h1:=hs.aaw (b:=g) (by rw[hF];simp);have h2:=hv g bo;omega,fun ho=>by have h1:=hs.aaB ho;have h2:=hv g bo;omega⟩
  have be:Step F L w F (L.set kd (.row v e i.size (n+m) (xs++news))) w':=⟨aD.le_refl F,hg.os,hg.tape,hg.output,hg.size,fun b hb hn=>hg.block b hb (by simp),fun b h=>.inl h,fun b h=>by
   rcases Loc.aal h with h | h
   ·exact .inr (hv b h)
   ·exact .inl h⟩
  have bp:∀j g ty cs,L.get j=some (.box g ty cs)->∃cs',(L.set kd (.row v e i.size (n+m) (xs++news))).get j=some (.box g ty cs'):=by
   intro j g ty cs ej;rw[Loc.aac,o6 (by rintro rfl;rw[bt] at ej;cases ej)];exact⟨cs,ej⟩
  refine gu he hd (v:=v) (x:=.v v) ?_ cy be rfl bS dG bp (hK v (tW aa));simp[execOp,ho,resolve,hc,ha,bk,invoke,builtin,ey,ez,bH bl,bH bz,r]
 have ae:w.ownsRow 0 e i.size s n xs:=by
  rcases aw with h | ⟨_,rfl,rfl,rfl⟩
  ·exact hs.own kd _ h
  ·exact World.ownsRow_nil w 0 e i.size
 have az:L.get kd=some (.row s e i.size n xs)\/(L.get kd=none/\s=.slice none 0 0):=by
  rcases aw with h | ⟨h,_,_,h'⟩
  ·exact .inl h
  ·exact .inr ⟨h,h'⟩
 have fin:∀(v:Value) (w':World),(Builtin.append_ #[t,t] o.type #[s,.slice ad m cx]).run P w=.ok v w'->w'.ownsRow 0 e i.size v (n+m) (xs++news)->w.grownBy w' s.ownBlock->(v.ownBlock=s.ownBlock\/v.ownBlock=some w.heap.size)->o.wp P a w (bg F L w a K) Q:=by
  intro v w' r f hg bd;obtain⟨g1,g2,g3⟩:=xL hs az f hg bd;refine gu he hd (v:=v) (x:=.v v) ?_ g1 g2 rfl bS dG g3 (hK v (tW f));simp[execOp,ho,resolve,hc,ha,bk,invoke,builtin,ey,ez,bH bl,bH bz,r]
 by_cases hm:m=0
 ·subst hm;have hn:news=[]:=abg (by simpa using ag);subst hn;obtain⟨w',r,rfl⟩:=sQ (P:=P) (ty:=o.type) ht hi ae ad cx;exact fin s w' r (by simpa using ae) (World.grownBy.refl _ _) (.inl rfl)
 ·have l:∃d,ad=some d/\∀j u,news[j]?=some u->w.cell? (d.add j)=some u:=by
   rcases ax with p | ⟨an,_⟩ | ⟨k,v,ty,cX,m',ys,d,c',hk,rfl,rfl,p⟩
   ·obtain⟨d,q,bj,ac⟩:=p.cell hs;refine⟨d,q,fun j u hu=>?_⟩;have:=ac j u hu
    rwa [Nat.zero_add] at this
   ·exact o4 an hm
   ·refine⟨d,rfl,fun j u hu=>?_⟩;have r:=hs.own k _ hk;simp only[Own.ok] at r;have h0:=World.ownsRow.cells r (g:=d.block) rfl j u (p j u hu);rcases r.2 with⟨q,_⟩ | ⟨g,cap,ap,q,_⟩
    ·cases q
    ·injection q with e1 e2 e3
     injection e1 with e1
     subst e1;exact h0
  obtain⟨d,rfl,l⟩:=l;obtain⟨v,w',r,h2,h3,_,h5⟩:=run_append_own_at (P:=P) w 0 t o.type e i zv i.size i.bytes ht hi bv rfl rfl bi av s n xs ae d m cx news ag l h1 bx bm (abk _);exact fin v w' r h2 h3 h5
theorem MP {t t' e:TypeId}{y z:Operand}{y' z':X}{i:TypeInfo}{c:Call}(hs:St F L w) (he:aH L ρ a) (hd:∀k,o.dst=some k->k<a.tmps.size)
  (ho:o.op=.call c) (hc:c.callee=.builtin .append) (ha:c.args=#[y,z]) (ar:c.argTypes=#[t,t']) (ht:P.underlying t=some (.slice e)) (l:P.underlying t'=some .string) (hi:P.info? e=some i) (p:i.zero=some (.int .u8 0)) (ac:i.size=1) (ad:i.bytes=1)
  (hy:br y=some y') (hz:br z=some z') (hK:evalOp P (.appS e y' z') o.dst F L ρ K):o.wp P a w (bg F L w a K) Q:=by
 have ey:=aI hy he;have ez:=aI hz he;simp only[evalOp,aL] at hK;split at hK
 case h_2=>exact hK.elim
 rename_i s x av ao;obtain⟨kd,n,xs,m,r,az,hK⟩:=hK;have b:w.ownsRow 0 e 1 s n xs:=by
  rcases m with h | ⟨_,rfl,rfl,rfl⟩
  ·exact hs.own kd _ h
  ·exact World.ownsRow_nil w 0 e 1
 have q:L.get kd=some (.row s e 1 n xs)\/(L.get kd=none/\s=.slice none 0 0):=by
  rcases m with h | ⟨h,_,_,h'⟩
  ·exact .inl h
  ·exact .inr ⟨h,h'⟩
 obtain⟨v,w',d,h2,h3,h4⟩:=Lib.run_append_own_string (P:=P) w 0 t t' o.type e i ht l hi p ac ad s n xs b x r az (abk _);have ax:v.ownBlock=s.ownBlock\/v.ownBlock=some w.heap.size:=by
  rcases b.2 with⟨rfl,rfl⟩ | ⟨g,cap,al,rfl,_,hg,bu,bl,aE,an⟩
  ·have ay:xs=[]:=abg (by simpa using b.1);subst ay
   by_cases hm:x.size=0
   ·exact .inl (by rw[(h4.2 ⟨rfl,hm⟩)])
   ·have ab:=r;simp only[maxLen] at ab;have f:=run_append_nil_string (P:=P) w t t' o.type e i (.int .u8 0) ht l hi p x (by omega) (by omega) (by rw[ad];omega);rw[f] at d;injection d with d _
    subst d;exact .inr rfl
  ·by_cases aa:n+x.size<=cap
   ·have bd:al.size=cap:=by simpa using aE
    have f:=Lib.run_append_room_string (P:=P) w t t' o.type e i ht l hi ac g n cap al hg x aa (by omega);rw[f] at d;injection d with d _
    subst d;exact .inl rfl
   ·have holds:∀j u,xs[j]?=some u->w.cell? ((⟨g,0,none⟩:Addr).add j)=some u:=b.cells (g:=g) rfl;have ab:=r;simp only[maxLen] at ab;have f:=Lib.run_append_grow_string (P:=P) w t t' o.type e i (.int .u8 0) ht l hi p ⟨g,0,none⟩ n cap xs (by rw[ac];simpa using b.1) holds x (by omega) (by omega) (by rw[ad];exact growslice_fits (by omega) (by omega));rw[f] at d;injection d with d _
    subst d;exact .inr rfl
 obtain⟨g1,g2,g3⟩:=xL hs q h2 h3 ax;refine gu he hd (v:=v) (x:=.v v) ?_ g1 g2 rfl bS dG g3 (hK v (tW h2));simp[execOp,ho,resolve,hc,ha,ar,invoke,builtin,ey,ez,bH av,bH ao,d]
theorem MQ {t p e:TypeId}{kn kz:IntKind}{y z:Operand}{y' z':X}{i:TypeInfo}{c:Call}(hs:St F L w) (he:aH L ρ a) (hd:∀k,o.dst=some k->k<a.tmps.size)
  (ho:o.op=.call c) (hc:c.callee=.builtin .append) (ha:c.args=#[y,z]) (ad:c.argTypes=#[t,p]) (ht:P.underlying t=some (.slice e)) (u:P.underlying p=some (.int kn)) (hi:P.info? e=some i) (q:i.zero=some (.int kz 0)) (am:i.size=1)
  (hy:br y=some y') (hz:br z=some z') (d:evalOp P (.appZ e i.bytes kz y' z') o.dst F L ρ K):o.wp P a w (bg F L w a K) Q:=by
 have ey:=aI hy he;have ez:=aI hz he;simp only[evalOp,aL] at d;split at d
 case h_2=>exact d.elim
 rename_i s kx x ae aa;split at d
 case h_2=>exact d.elim
 rename_i m;obtain⟨kd,n,xs,b,r,an,d⟩:=d;have l:w.ownsRow 0 e 1 s n xs:=by
  rcases b with h | ⟨_,rfl,rfl,rfl⟩
  ·exact hs.own kd _ h
  ·exact World.ownsRow_nil w 0 e 1
 have f:L.get kd=some (.row s e 1 n xs)\/(L.get kd=none/\s=.slice none 0 0):=by
  rcases b with h | ⟨h,_,_,h'⟩
  ·exact .inl h
  ·exact .inr ⟨h,h'⟩
 obtain⟨v,w',hr,h2,h3,al⟩:=qD (P:=P) w 0 t p o.type e i kx kz kn ht u hi q am s n xs l m r an (abk _);obtain⟨g1,g2,g3⟩:=xL hs f h2 h3 al;have j:(Builtin.append_ #[t,p] o.type #[s,.int kx (Int.ofNat m)]).run P w=.ok v w':=hr;refine gu he hd (v:=v) (x:=.v v) ?_ g1 g2 rfl bS dG g3 (d v (tW h2));simp at j;simp[execOp,ho,resolve,hc,ha,ad,invoke,builtin,ey,ez,bH ae,bH aa,j]
end
section
variable {P:Program}{F:aD}{L:Loc}{ρ:Env}{a:Act}{w:World}{K:cQ}{o:Oper}{Q:Exit->Act->World->Prop}
theorem vP:∀(l:List Own) (k j:Nat),Loc.get (kV k l) j=if k<=j then l[j-k]? else none
 | [],k,j=>by simp[kV,Loc.get]
 | o::l,k,j=>by
  simp only[kV,Loc.get];cases h:Nat.beq k j with
  | true=>have:=vv h;subst this;simp
  | false =>
   have c:=fJ h;simp only[vP l (k+1) j]
   by_cases b:k<=j
   ·rw[eu (by omega),eu b,show j-k=(j-(k+1))+1 by omega,abx]
   ·rw[o6 (by omega),o6 b]
theorem aX (l:List Own) (j:Nat):Loc.get (inp l) j=if 1000<=j then l[j-1000]? else none:=vP l 1000 j
theorem eM:∀{L:Loc}{ks:List Nat}{l:List Own},L.sub ks=some l->l.length=ks.length/\∀(i:Nat) (k:Nat),ks[i]?=some k->L.get k=l[i]?
 | L,[],l,h=>by simp only[Loc.sub,vz] at h;subst h;simp
 | L,k::ks,l,h=>by
  simp only[Loc.sub] at h;split at h
  case h_2=>cases h
  rename_i o j b e;injection h with h
  subst h;obtain⟨d,c⟩:=eM e;refine⟨by simp[d],fun i f hi=>?_⟩;cases i with
  | zero=>simp at hi;subst hi;simpa using b
  | succ i=>simp at hi;simpa using c i f hi
theorem fL:∀(ks:List Nat) (L:Loc) (j:Nat),(L.aaf ks).get j=if j∈ks then none else L.get j
 | [],L,j=>by simp[Loc.aaf]
 | k::ks,L,j=>by
  simp only[Loc.aaf,fL ks,Loc.aai,xC]
  by_cases b:j=k<;>by_cases c:j∈ks<;>simp[b,c]
theorem dA:∀(ko:List Nat) (l:List Own) (L:Loc) (j:Nat),ko.Nodup->ko.length=l.length ->
  ((L.puts ko l).get j=L.get j/\j∉ko)\/∃i,ko[i]?=some j/\(L.puts ko l).get j=l[i]?/\i<l.length
 | [],l,L,j,_,h=>by
  refine .inl ⟨?_,by simp⟩;cases l<;>rfl
 | k::ko,[],L,j,_,h=>by simp at h
 | k::ko,o::l,L,j,e,h=>by
  simp only[aaV,Nat.add_right_cancel_iff] at h;rw[List.nodup_cons] at e;simp only[Loc.puts];rcases dA ko l (L.set k o) j e.2 h with⟨b,d⟩ | ⟨i,b,d,f⟩
  ·rw[Loc.aac] at b
   by_cases c:j=k
   ·subst c;rw[eu rfl] at b;exact .inr ⟨0,by simp,by simpa using b,by simp⟩
   ·rw[o6 c] at b;exact .inl ⟨b,by simp[c,d]⟩
  ·exact .inr ⟨i+1,by simpa using b,by simpa using d,by simp;omega⟩
theorem z9 {l:List Nat}(h:l.Nodup) {i j:Nat}{k:Nat}(hi:l[i]?=some k) (b:l[j]?=some k):i=j:=by
 induction l generalizing i j with
 | nil=>simp at hi
 | cons x l c =>
  rw[List.nodup_cons] at h;cases i with
  | zero =>
   cases j with
   | zero=>rfl
   | succ j =>
    simp at hi b;subst hi;exact o4 (aaQ b) h.1
  | succ i =>
   cases j with
   | zero =>
    simp at hi b;subst b;exact o4 (aaQ hi) h.1
   | succ j =>
    simp at hi b;rw[c h.2 hi b]
theorem St.handed (b:St F L w) {ks:List Nat}{l:List Own}(c:L.sub ks=some l) (u:ks.Nodup):St F (inp l) w:=by
 obtain⟨hl,x⟩:=eM c;have key:∀j p,Loc.get (inp l) j=some p->∃k,1000<=j/\ks[j-1000]?=some k/\L.get k=some p:=by
  intro j p e;rw[aX] at e;split at e
  case isFalse=>cases e
  rename_i r;have aa:j-1000<l.length:=(w7.1 e).1;have q:ks[j-1000]?=some (ks[j-1000]'(by omega)):=v7 (by omega);exact⟨_,r,q,by rw[x _ _ q];exact e⟩
 refine⟨b.frz,fun j p e=>?_,fun j p g e hb=>?_,fun j z p n g e s hb m=>?_,b.glob⟩
 ·obtain⟨k,_,_,h⟩:=key j p e;exact b.own k p h
 ·obtain⟨k,_,_,h⟩:=key j p e;exact b.off k p g h hb
 ·obtain⟨k,r,t,v⟩:=key j p e;obtain⟨k',y,d,f⟩:=key z n s;have:=b.sep k k' p n g v f hb m;subst this;have:=z9 u t d;omega
theorem jA (x:St F L w) {ks ko:List Nat}{l lo:List Own}(ad:L.sub ks=some l) (hn:ks.Nodup) (y:ko.Nodup) (aw:∀k,k∈ko->k∈ks\/L.get k=none)
  {F':aD}{w':World}(t:St F' (inp lo) w') (m:Step F (inp l) w F' (inp lo) w') (ag:ko.length=lo.length) :
  St F' ((L.aaf ks).puts ko lo) w'/\Step F L w F' ((L.aaf ks).puts ko lo) w':=by
 obtain⟨hl,hg⟩:=eM ad;have n:∀b,(inp l).owns b->∃k o,k∈ks/\L.get k=some o/\o.blk=some b:=by
  rintro b ⟨j,p,e,hb⟩;rw[aX] at e;split at e
  case isFalse=>cases e
  have az:j-1000<l.length:=(w7.1 e).1;have hk:ks[j-1000]?=some (ks[j-1000]'(by omega)):=v7 (by omega);exact⟨_,p,aaQ hk,by rw[hg _ _ hk];exact e,hb⟩
 have f:∀k p b,k∉ks->L.get k=some p->p.blk=some b->¬(inp l).owns b:=by
  intro k p b hk e hb ho;obtain⟨z,o,ao,e',d⟩:=n b ho;exact hk (by rw[x.sep k z p o b e e' hb d];exact ao)
 have get:∀k p,((L.aaf ks).puts ko lo).get k=some p->(k∉ks/\k∉ko/\L.get k=some p)\/∃i,ko[i]?=some k/\Loc.get (inp lo) (1000+i)=some p:=by
  intro k p e;rcases dA ko lo (L.aaf ks) k y ag with⟨q,c⟩ | ⟨i,q,c,v⟩
  ·rw[q,fL] at e;split at e
   ·cases e
   ·rename_i v;exact .inl ⟨v,c,e⟩
  ·rw[c] at e;exact .inr ⟨i,q,by rw[aX,eu (by omega),show 1000+i-1000=i by omega];exact e⟩
 refine⟨⟨t.frz,fun k p e=>?_,fun k p b e hb=>?_,fun k z p u b e e' hb d=>?_,t.glob⟩,⟨m.le,m.os,m.tape,m.output,m.size,fun b hb y=>?_,fun b hb=>?_,fun b hb=>?_⟩⟩
 ·rcases get k p e with⟨q,_,c⟩ | ⟨i,_,c⟩
  ·exact Own.aav (x.own k p c) fun g aa=>m.same g (Own.aaq (x.own k p c) aa) (f k p g q c aa)
  ·exact t.own _ p c
 ·rcases get k p e with⟨q,_,c⟩ | ⟨i,_,c⟩
  ·cases hF:F' b with
   | none=>rfl
   | some _ =>
    rcases m.frz b (by rw[hF];simp) with v | v | v
    ·exact o4 (x.off k p b c hb) v
    ·exact o4 v (f k p b q c hb)
    ·have:=Own.aaq (x.own k p c) hb;omega
  ·exact t.off _ p b c hb
 ·have r:∀k p i u,k∉ks->L.get k=some p->Loc.get (inp lo) (1000+i)=some u->p.blk=some b->u.blk=some b->False:=by
   intro k p i u q c v h4 h5;rcases m.own b ⟨_,u,v,h5⟩ with h6 | h6
   ·exact f k p b q c h4 h6
   ·have:=Own.aaq (x.own k p c) h4;omega
  rcases get k p e with⟨q,_,c⟩ | ⟨i,hi,c⟩<;>rcases get z u e' with⟨am,_,s⟩ | ⟨i',ae,s⟩
  ·exact x.sep k z p u b c s hb d
  ·exact(r k p i' u q c s hb d).elim
  ·exact(r z u i p am s c d hb).elim
  ·have:=t.sep _ _ p u b c s hb d;have:i=i':=by omega
   subst this;rw[hi] at ae;injection ae
 ·refine m.same b hb fun ho=>?_;obtain⟨k,o,_,e,d⟩:=n b ho;exact y ⟨k,o,e,d⟩
 ·rcases m.frz b hb with h | h | h
  ·exact .inl h
  ·obtain⟨k,o,_,e,d⟩:=n b h;exact .inr (.inl ⟨k,o,e,d⟩)
  ·exact .inr (.inr h)
 ·obtain⟨k,p,e,d⟩:=hb;rcases get k p e with⟨q,_,c⟩ | ⟨i,_,c⟩
  ·exact .inl ⟨k,p,c,d⟩
  ·rcases m.own b ⟨_,p,c,d⟩ with h | h
   ·obtain⟨z,o,_,e',ab⟩:=n b h;exact .inl ⟨z,o,e',ab⟩
   ·exact .inr h
theorem wJ {f:Nat}{args:List Value}(hs:St F L w) (he:aH L ρ a) (hd:∀k,o.dst=some k->k<a.tmps.size)
  (hrun:(∃fn,P.funcs[f]?=some fn/\fn.body.isSome=true/\(fn.name == "runtime.NumGoroutine")=false)->(execOp a.eval o).run P w=.ok (.enter f args.toArray) w)
  (hK:dz P f args F L fun F' L' v=>K F' L' (put o.dst (.v v) ρ)):o.wp P a w (bg F L w a K) Q:=by
 obtain⟨ks,ko,l,R,hsub,hn,hno,hko,hc,hK⟩:=hK;unfold Oper.wp;rw[hrun hc.ent];rw[Oper.upon_enter];refine(hc.run w (hs.handed hsub hn)).mono ?_;rintro e w' ⟨v,F',lo,rfl,hs',hst,hR⟩;obtain⟨hlen,hbox,hK⟩:=hK v F' lo hst.le hR;obtain⟨h1,h2⟩:=jA hs hsub hn hno hko hs' hst hlen;refine⟨F',_,_,h1,he.put hd (x:=.v v) rfl bS dG ?_,lg _ _ _,gY _ _ _,h2,hK⟩;intro k g ty cs e
 by_cases hk:k∈ks
 ·exact hbox k g ty cs hk e
 ·rcases dA ko lo (L.aaf ks) k hno hlen with⟨h1,h2⟩ | ⟨i,h1,h2,h3⟩
  ·rw[h1,fL,o6 hk];exact⟨cs,e⟩
  ·rcases hko k (aaQ h1) with h | h
   ·exact o4 h hk
   ·rw[h] at e;cases e
theorem jO {f:Nat}{args:Array Value}(h:∃fn,P.funcs[f]?=some fn/\fn.body.isSome=true/\(fn.name == "runtime.NumGoroutine")=false):(callFunc f args).run P w=.ok (.enter f args) w:=by
 obtain⟨fn,h1,h2,h3⟩:=h;have h4:fn.body≠none:=by intro hb;rw[hb] at h2;cases h2
 have h5:fn.name≠"runtime.NumGoroutine":=by simpa using h3
 simp[callFunc,h1,h4,h5]
theorem MR {f:Nat}{args:List X}{c:Call}(j:St F L w) (h:aH L ρ a) (n:∀k,o.dst=some k->k<a.tmps.size)
  (l:o.op=.call c) (p:c.callee=.value (.func f)) (q:gM c.args.toList=some args) (m:evalOp P (.call f args) o.dst F L ρ K):o.wp P a w (bg F L w a K) Q:=by
 refine wJ j h n (fun d=>?_) m;have e:=fK q h;have b:c.args.map a.eval=(bn L ρ args).toArray:=by apply Array.ext';simpa using e
 simp[execOp,l,resolve,p,Deferred.ofValue,Act.eval,invoke,b,jO d]
theorem jP {t:TypeId}{nm:String}{u:Value}{f:Nat}{args:Array Value}(hf:oI P t nm=some f) (h:∃fn,P.funcs[f]?=some fn/\fn.body.isSome=true/\(fn.name == "runtime.NumGoroutine")=false) :
  (callMethod (.iface t u) nm args).run P w=.ok (.enter f (#[u]++args)) w:=by
 have:=Hq (P:=P) hf u w;simp only[callMethod,Sem.run_bind,run_program,Result.andThen_ok,this];exact jO h
theorem CP {V:SV}{v:Value}{args:List Value}{f:Nat}{fi ca:List Value}(hf:mq P V=some (f,fi,ca)) (hv:∀x,V=.v x->v=x) (h:∃fn,P.funcs[f]?=some fn/\fn.body.isSome=true/\(fn.name == "runtime.NumGoroutine")=false) :
  (do let d <-Deferred.ofValue v args.toArray;invoke d.target d.args:Sem Next).run P w=.ok (.enter f (fi++args++ca).toArray) w:=by
 unfold mq at hf;split at hf
 ·rename_i f' fi' ca';injection hf with hf
  injection hf with e1 e2
  injection e2 with e2 e3
  subst e1 e2 e3;rw[hv _ rfl];have hall:fi'++(args.toArray++ca')=(fi'.toList++args++ca'.toList).toArray:=by apply Array.ext';simp
  simp[Deferred.ofValue,invoke];rw[jO h];simp
 ·rename_i nm fi' ca';split at hf
  case h_2=>cases hf
  rename_i t u hfi;split at hf
  case h_2=>cases hf
  rename_i f' hm;injection hf with hf
  injection hf with e1 e2
  injection e2 with e2 e3
  subst e1 e2 e3;have hfi':fi'=#[.iface t u]:=by apply Array.ext';exact hfi
  rw[hv _ rfl,hfi'];have hx:(#[Value.iface t u]++args.toArray).extract 1 (#[Value.iface t u]++args.toArray).size=args.toArray:=by apply Array.ext';simp
  have h0:(#[Value.iface t u]++args.toArray)[0]?=some (.iface t u):=by simp
  have:=jP (w:=w) (u:=u) (args:=args.toArray) hm h;simp only[Deferred.ofValue,Sem.run_bind,Sem.run_pure,Result.andThen_ok,invoke,h0,hx,this];simp
 ·cases hf
theorem Jl {y:Operand}{z:X}{args:List X}{c:Call}(hs:St F L w) (p:aH L ρ a) (hd:∀k,o.dst=some k->k<a.tmps.size)
  (ho:o.op=.call c) (hc:c.callee=.value y) (hy:br y=some z) (ha:gM c.args.toList=some args) (n:evalOp P (.callV z args) o.dst F L ρ K):o.wp P a w (bg F L w a K) Q:=by
 have ey:=aI hy p;have q:=fK ha p;have j:c.args.map a.eval=(bn L ρ args).toArray:=by apply Array.ext';simpa using q
 have m:∀x,ev ρ z=.v x->a.eval y=x:=fun x e=>by rw[ey,bH e]
 simp only[evalOp] at n;split at n
 ·rename_i f fi ca d;refine wJ hs p hd (fun h=>?_) n;have:=CP (w:=w) (args:=bn L ρ args) d m h;simp only[execOp,ho,resolve,hc,j];exact this
 ·split at n
  case h_2=>exact n.elim
  rename_i f r d;unfold zW at d;split at d
  case h_2=>cases d
  rename_i t nm ca t' u l aa b;split at d
  case h_2=>cases d
  rename_i ms hu;split at d
  case h_2=>cases d
  rename_i f' hm;injection d with d
  injection d with e1 e2
  subst e1 e2;refine wJ hs p hd (fun h=>?_) n;have h0:(#[]++(bn L ρ args).toArray)[0]?=some (.iface t' u):=by rw[b];simp
  have hx:(#[]++(bn L ρ args).toArray).extract 1 (#[]++(bn L ρ args).toArray).size=l.toArray:=by rw[b];apply Array.ext';simp
  have:=jP (w:=w) (u:=u) (args:=l.toArray) hm h;simp only[execOp,ho,resolve,hc,j,m _ aa,Deferred.ofValue,Sem.run_bind,Sem.run_pure,Result.andThen_ok,invoke];have s:((⟨[]⟩:Array Value)++(bn L ρ args).toArray)[0]?=some (.iface t' u):=h0;simp only[s,Sem.run_bind,run_underlying hu,Result.andThen_ok];have ab:((⟨[]⟩:Array Value)++(bn L ρ args).toArray).extract 1 ((⟨[]⟩:Array Value)++(bn L ρ args).toArray).size=l.toArray:=hx;simp only[ab,this];simp
theorem Rc {n:Nat}{nm:String}{args:List X}{c:Call}(hs:St F L w) (y:aH L ρ a) (hd:∀k,o.dst=some k->k<a.tmps.size)
  (ho:o.op=.call c) (hc:c.callee=.invoke (.tmp n) nm) (ha:gM c.args.toList=some args) (l:evalOp P (.callV (.mt nm n) args) o.dst F L ρ K):o.wp P a w (bg F L w a K) Q:=by
 have p:=fK ha y;have e:c.args.map a.eval=(bn L ρ args).toArray:=by apply Array.ext';simpa using p
 simp only[evalOp,ev] at l;split at l
 ·rename_i f fi ca d;refine wJ hs y hd (fun h=>?_) l;cases m:ρ n with
  | own k off=>rw[m] at d;cases d
  | el b j=>rw[m] at d;cases d
  | v x =>
   rw[m] at d;have hx:a.eval (.tmp n)=x:=by
    have:=y.eq n;rw[m] at this;exact this
   simp only[Tf,mq] at d;split at d
   case h_2=>cases d
   rename_i t u z;split at d
   case h_2=>cases d
   rename_i f' hm;injection d with d
   injection d with e1 e2
   injection e2 with e2 e3
   subst e1 e2 e3;have s:x=.iface t u:=by simpa using z
   subst s;have r:(#[Value.iface t u]++(bn L ρ args).toArray).extract 1 (#[Value.iface t u]++(bn L ρ args).toArray).size=(bn L ρ args).toArray:=by apply Array.ext';simp
   have h0:(#[Value.iface t u]++(bn L ρ args).toArray)[0]?=some (.iface t u):=by simp
   have:=jP (w:=w) (u:=u) (args:=(bn L ρ args).toArray) hm h;simp only[execOp,ho,resolve,hc,e,hx,Sem.run_bind,Sem.run_pure,Result.andThen_ok,invoke,h0,r,this];simp
 ·split at l
  case h_2=>exact l.elim
  rename_i f q d;exfalso
  revert d
  cases ρ n<;>simp[Tf,zW,undef]
theorem Rf {s t e:TypeId}{y:Operand}{y':X}(hs:St F L w) (he:aH L ρ a) (hd:∀k,o.dst=some k->k<a.tmps.size)
  (ho:o.op=.convert s t y) (j:P.underlying s=some .string) (h2:P.underlying t=some (.slice e)) (h3:P.underlying e=some (.int .u8)) (hy:br y=some y') (r:evalOp P (.s2b e y') o.dst F L ρ K):o.wp P a w (bg F L w a K) Q:=by
 have ey:=aI hy he;simp only[evalOp,aL] at r;split at r
 case h_2=>exact r.elim
 rename_i str ab
 let cap:=(Question.appendCap str.size 0 e).cut (w.tape w.drawn (.appendCap str.size 0 e))
 have l:str.size<=cap:=by simp only[cap,Question.cut];omega
 let cells:Array Value:=(str.data.map fun b=>Value.int .u8 b.toNat)++Array.replicate (cap-str.size) (.int .u8 0)
 have ac:cells.size=cap:=by simp only[cells,Array.size_append,Array.size_map,Array.size_replicate];have:str.data.size=str.size:=rfl;omega
 let f:=w.drew.alloc (.cells cells e)
 let c:=f.freeze {block:=w.heap.size,off:=cap} 1
 have m:(execOp a.eval o).run P w=.ok (.value (.slice (some ⟨w.heap.size,0,none⟩) str.size cap)) c:=by
  have u:f.shape? w.heap.size=some (e,cap):=by
   have:f.heap[w.heap.size]?=some (.cells cells e):=gP w.drew _;simp only[World.shape?,this,ac]
  simp[execOp,ho,ey,bH ab,convert,run_underlying j,run_underlying h2,run_underlying h3,Conv.stringToBytes,Question.forced,newRow,markStringish];rw[show(w.drew.alloc (.cells ((str.data.map fun b=>Value.int .u8 b.toNat)++Array.replicate ((Question.appendCap str.size 0 e).cut (w.tape w.drawn (.appendCap str.size 0 e))-str.size) (.int .u8 0)) e)).shape? w.heap.size=some (e,cap) from u];simp;exact⟨rfl,rfl⟩
 have q:∀b,b<w.heap.size->c.heap[b]?=w.heap[b]?:=by
  intro b hb;have j:f.heap[b]?=w.heap[b]?:=Below.heap_alloc w.drew _ b hb;simp only[c,World.freeze];simp only[Nat.one_ne_zero,abn,Array.getElem?_modify];rw[o6 (by omega)];exact j
 have d:c.heap[w.heap.size]?=some (.cells cells e (cap,cap+1)):=by
  have j:f.heap[w.heap.size]?=some (.cells cells e (0,0)):=gP w.drew _;simp only[c,World.freeze,Nat.one_ne_zero,abn,Array.getElem?_modify,aa9,j];simp
 have n:St F L c:=hs.keep q;obtain⟨hf,z⟩:=qA hs;have aa:=n.freeze d z;have p:=aD.aas n d;refine gu he hd (x:=.v (.slice (some ⟨w.heap.size,0,none⟩) str.size cap)) m aa ⟨p,?_,?_,?_,?_,fun b hb _=>q b hb,?_,fun b h=>.inl h⟩ rfl bS dG (rJ L) (r w.heap.size cap _ p ?_ l)
 ·simp only[c,World.freeze,Nat.one_ne_zero,abn];rfl
 ·simp only[c,World.freeze,Nat.one_ne_zero,abn];rfl
 ·simp only[c,World.freeze,Nat.one_ne_zero,abn];rfl
 ·simp only[c,World.freeze,Nat.one_ne_zero,abn,Array.size_modify];have:f.heap.size=w.heap.size+1:=by simp[f]
  omega
 ·intro b hb
  by_cases h:b=w.heap.size
  ·exact .inr (.inr (by omega))
  ·simp only[o6 h] at hb;exact .inl hb
 ·refine⟨_,cells,e,_,rfl,eu rfl,rfl,fun i v hv=>?_⟩;have hi:i<str.data.size:=by
   have:=(w7.1 hv).1;simpa using this
  simp only[cells,Nat.zero_add];rw[Array.getElem?_append_left (by simpa using hi)];refine⟨by simpa using hv,fun h=>?_⟩;have j:cap<=i:=by simpa using h.1
  have h2:str.size=str.data.size:=rfl;omega
theorem Bj (w:World) (l n ty elem:TypeId) (g o c f:Nat) (s:ByteArray) (d:Array Value) (t:TypeId)
  (q:P.underlying l=some (.slice elem)) (k:(P.info? elem).map (·.size)=some 1)
  (p:w.heap[g]?=some (.cells d t (0,0))) (j:o+min s.size c<=d.size) :
  (Builtin.copy_ #[l,n] ty #[.slice (some ⟨g,o,none⟩) c f,.string s]).run P w =
   .ok (goInt (min s.size c:Nat)) (w.setRow g (aP d.toList o ((s.data.toList.take c).map fun b=>Value.int .u8 b.toNat)).toArray):=by
 have u:((s.data.toList.take c).map fun b=>Value.int .u8 b.toNat).length=min s.size c:=by
  rw[aa3,aa6,Nat.min_comm,Array.length_toList];rfl
 have h:=run_storeCells_at P g o t ((s.data.toList.take c).map fun b=>Value.int .u8 b.toNat) 0 d w p (by rw[u];simpa using j) (fun v r=>by
  obtain⟨b,_,rfl⟩:=abh.1 r;rfl)
 rw[Nat.add_zero] at h;have x:List.take (s.size.min c) (List.map (fun b=>Value.int IntKind.u8 b.toNat) s.data.toList)=(s.data.toList.take c).map fun b=>Value.int .u8 b.toNat:=by
  have m:s.size=s.data.toList.length:=by simp
  rw[<-List.map_take,m];congr 1;rw[show Nat.min s.data.toList.length c=min s.data.toList.length c from rfl,Nat.min_comm,<-List.take_take,List.take_length]
 generalize(s.data.toList.take c).map (fun b=>Value.int .u8 b.toNat)=news at *;cases e:P.info? elem with
 | none=>simp[e] at k
 | some i =>
  have hi:i.size=1:=by simpa[e] using k
  simp[Builtin.copy_,run_underlying q,Builtin.lenOf,Builtin.firstCells,sizeOf,typeInfo,e,hi,x,h,aP]
theorem FK {t t' e:TypeId}{y z:Operand}{y' z':X}{i:TypeInfo}{c:Call}(hs:St F L w) (he:aH L ρ a) (hd:∀k,o.dst=some k->k<a.tmps.size)
  (ho:o.op=.call c) (hc:c.callee=.builtin .copy) (ha:c.args=#[y,z]) (bj:c.argTypes=#[t,t']) (ht:P.underlying t=some (.slice e)) (hi:P.info? e=some i) (bo:i.size=1)
  (hy:br y=some y') (hz:br z=some z') (hK:evalOp P (.copy e i.size y' z') o.dst F L ρ K):o.wp P a w (bg F L w a K) Q:=by
 have ey:=aI hy he;have ez:=aI hz he;rw[bo] at hK;simp only[evalOp] at hK;split at hK
 case h_3=>exact hK.elim
 case h_1 =>
  rename_i dv str an bc;obtain⟨k,n,v,s,xs,ad,cr,cd,j,hk,rfl,rfl,db,hK⟩:=hK;have aw:(P.info? e).map (·.size)=some 1:=by rw[hi];simp[bo]
  have l:=hs.own k _ hk;simp only[Own.ok] at l;obtain⟨hx,l⟩:=l;rcases l with⟨e',_⟩ | ⟨g,cap,d,e',bl,hg,bx,bv,aa,p⟩
  ·cases e'
  injection e' with e1 e2 e3
  injection e1 with e1
  subst e1 e3;simp only[Nat.mul_one] at hx aa p;have hl:((str.data.toList.take n).map fun b=>Value.int .u8 b.toNat).length=min str.size n:=by
   rw[aa3,aa6,Nat.min_comm,Array.length_toList];rfl
  generalize bu:(str.data.toList.take n).map (fun b=>Value.int .u8 b.toNat)=news at hl hK;have ag:j+news.length<=s:=by rw[hl];omega
  have r:j+news.length<=d.size:=by omega
  have f:=mC w g (aP d.toList j news).toArray;have al:∀(ay:List Value) i' g' ty' cs',L.get i'=some (.box g' ty' cs')->∃az,(L.set k (.row (.slice (some ⟨g,0,none⟩) s cr) e 1 s ay)).get i'=some (.box g' ty' az):=by
   intro ay i' g' ty' cs' ej;rw[Loc.aac,o6 (by rintro rfl;rw[hk] at ej;cases ej)];exact⟨cs',ej⟩
  have ar:Own.ok (w.setRow g (aP d.toList j news).toArray) (.row (.slice (some ⟨g,0,none⟩) s cr) e 1 s (aP xs j news)):=by
   refine⟨?_,.inr ⟨g,cr,_,rfl,bl,setRow_heap w g d _ e _ hg,bx,bv,?_,?_⟩⟩
   ·rw[fE _ _ _ (by rw[hx];exact ag),hx,Nat.mul_one]
   ·have:(aP d.toList j news).length=d.size:=by rw[fE _ _ _ (by simpa using r)];simp
    simp[this,aa]
   ·rw[Nat.mul_one,List.toList_toArray,<-p];apply abp;intro q;have bi:j+news.length<=d.toList.length:=by simpa using r
    rw[iE (by rw[aa6];simp;omega)]
    by_cases hn:q<s
    ·rw[List.getElem?_take_of_lt hn,iE bi,List.getElem?_take_of_lt hn]
    ·rw[aaY (by simp;omega)];have h1:¬q<j:=by omega
     have h2:¬q<j+news.length:=by omega
     rw[o6 h1,o6 h2,aaY (by simp;omega)]
  have av:St F (L.set k (.row (.slice (some ⟨g,0,none⟩) s cr) e 1 s (aP xs j news))) (w.setRow g (aP d.toList j news).toArray) :=
   hs.turn hk ar (fun b ae bm=>f.block b ae (fun e=>bm (by rw[e];rfl))) (fun g' ao=>.inl ao)
  refine gu he hd (v:=.int .i64 (min str.size n:Nat)) (x:=.v (.int .i64 (min str.size n:Nat))) ?_ av ?_ rfl bS dG (al _) hK
  ·have cf:(⟨g,0,none⟩:Addr).add j=⟨g,j,none⟩:=by rw[ck,Nat.zero_add]
   have:=Bj (P:=P) w t t' o.type e g j n cd str d e ht aw hg (by rw[<-hl];exact r);rw[bu] at this;rw[cf] at an;simp[execOp,ho,resolve,hc,ha,bj,invoke,builtin,ey,ez,bH an,bH bc,this,goInt]
  ·refine⟨aD.le_refl F,rfl,rfl,rfl,f.size,fun b ae hn=>f.block b ae (fun e=>hn ⟨k,_,hk,by rw[e];rfl⟩),fun b h=>.inl h,fun b h=>?_⟩;rcases Loc.aal h with h | h
   ·exact .inl ⟨k,_,hk,h⟩
   ·exact .inl h
 rename_i dv xv _ an bc;have aw:(P.info? e).map (·.size)=some 1:=by rw[hi];simp[bo]
 obtain⟨⟨k,n,v,s,xs,ad,cr,cd,j,m,ax,cx,news,hk,rfl,rfl,db,rfl,ab,cl,h1,hK⟩ | ⟨da,n,cd,ax,m,cx,rfl,rfl,h0,hK⟩⟩:=hK
 rotate_left
 ·have ba:∀v:Value,(execOp a.eval o).run P w=(do pure (.value (<-Builtin.copy_ #[t,t'] o.type #[.slice da n cd,.slice ax m cx])):Sem Next).run P w:=by
   intro v;simp[execOp,ho,resolve,hc,ha,bj,invoke,builtin,ey,ez,bH an,bH bc]
  refine bL hs he hd (v:=.int .i64 0) (x:=.v (.int .i64 0)) ?_ rfl bS dG hK;rw[ba undef];have:=run_copy_none (P:=P) w t t' o.type e da ax n cd m cx ht aw h0;simp[this,goInt]
 rw[Nat.mul_one] at ab;have l:=hs.own k _ hk;simp only[Own.ok] at l;obtain⟨hx,l⟩:=l;rcases l with⟨e',_⟩ | ⟨g,cap,d,e',bl,hg,bx,bv,aa,p⟩
 ·cases e'
 injection e' with e1 e2 e3
 injection e1 with e1
 subst e1 e3;simp only[Nat.mul_one] at hx aa p hK an;have al:∀(ay:List Value) i' g' ty' cs',L.get i'=some (.box g' ty' cs')->∃az,(L.set k (.row (.slice (some ⟨g,0,none⟩) s cr) e 1 s ay)).get i'=some (.box g' ty' az):=by
  intro ay i' g' ty' cs' ej;rw[Loc.aac,o6 (by rintro rfl;rw[hk] at ej;cases ej)];exact⟨cs',ej⟩
 have ba:∀v:Value,(execOp a.eval o).run P w=(do pure (.value (<-Builtin.copy_ #[t,t'] o.type #[.slice (some ((⟨g,0,none⟩:Addr).add j)) n cd,.slice ax m cx])):Sem Next).run P w:=by
  intro v;simp[execOp,ho,resolve,hc,ha,bj,invoke,builtin,ey,ez,bH an,bH bc]
 by_cases h0:min m n=0
 ·have:news=[]:=abg (by rw[ab,h0]);subst this;have ci:aP xs j []=xs:=by simp[aP]
  rw[ci,h0] at hK;have ar:Own.ok w (.row (.slice (some ⟨g,0,none⟩) s cr) e 1 s xs):=by
   have:=hs.own k _ hk;exact this
  have av:St F (L.set k (.row (.slice (some ⟨g,0,none⟩) s cr) e 1 s xs)) w:=hs.turn hk ar (fun _ _ _=>rfl) (fun g' ao=>.inl ao);refine gu he hd (v:=.int .i64 0) (x:=.v (.int .i64 0)) ?_ av ?_ rfl bS dG (al xs) hK
  ·rw[ba undef];have:=run_copy_none (P:=P) w t t' o.type e (some ((⟨g,0,none⟩:Addr).add j)) ax n cd m cx ht aw h0;simp[this,goInt]
  ·refine⟨aD.le_refl F,rfl,rfl,rfl,aa7 _,fun _ _ _=>rfl,fun b h=>.inl h,fun b h=>?_⟩;rcases Loc.aal h with h | h
   ·exact .inl ⟨k,_,hk,h⟩
   ·exact .inl h
 ·have hF:bU F ax 0 news:=cl.resolve_right fun h=>h0 h.1;obtain⟨ch,rfl,_,cY⟩:=hF.cell hs;have bd:∀j v,news[j]?=some v->w.cell? (ch.add j)=some v:=fun j' u hu=>by
   have:=cY j' u hu
   rwa [Nat.zero_add] at this
  have ag:j+news.length<=s:=by rw[ab];omega
  have r:j+news.length<=d.size:=by omega
  have f:=mC w g (aP d.toList j news).toArray;have ar:Own.ok (w.setRow g (aP d.toList j news).toArray) (.row (.slice (some ⟨g,0,none⟩) s cr) e 1 s (aP xs j news)):=by
   refine⟨?_,.inr ⟨g,cr,_,rfl,bl,setRow_heap w g d _ e _ hg,bx,bv,?_,?_⟩⟩
   ·rw[fE _ _ _ (by rw[hx];exact ag),hx,Nat.mul_one]
   ·have:(aP d.toList j news).length=d.size:=by rw[fE _ _ _ (by simpa using r)];simp
    simp[this,aa]
   ·rw[Nat.mul_one,List.toList_toArray,<-p];apply abp;intro q;have bi:j+news.length<=d.toList.length:=by simpa using r
    rw[iE (by rw[aa6];simp;omega)]
    by_cases hn:q<s
    ·rw[List.getElem?_take_of_lt hn,iE bi,List.getElem?_take_of_lt hn]
    ·rw[aaY (by simp;omega)];have h1:¬q<j:=by omega
     have h2:¬q<j+news.length:=by omega
     rw[o6 h1,o6 h2,aaY (by simp;omega)]
  have av:St F (L.set k (.row (.slice (some ⟨g,0,none⟩) s cr) e 1 s (aP xs j news))) (w.setRow g (aP d.toList j news).toArray) :=
   hs.turn hk ar (fun b ae bm=>f.block b ae (fun e=>bm (by rw[e];rfl))) (fun g' ao=>.inl ao)
  refine gu he hd (v:=.int .i64 (min m n:Nat)) (x:=.v (.int .i64 (min m n:Nat))) ?_ av ?_ rfl bS dG (al _) hK
  ·rw[ba undef,ck,Nat.zero_add];have:=run_copy_row P w t t' o.type e g j n cd ch m cx d e news ht aw hg ab bd r h1;have cw:(d.toList.take j++news++d.toList.drop (j+news.length)).toArray=(aP d.toList j news).toArray:=rfl;rw[cw] at this;simp[this,goInt,ab]
  ·refine⟨aD.le_refl F,rfl,rfl,rfl,f.size,fun b ae hn=>f.block b ae (fun e=>hn ⟨k,_,hk,by rw[e];rfl⟩),fun b h=>.inl h,fun b h=>?_⟩;rcases Loc.aal h with h | h
   ·exact .inl ⟨k,_,hk,h⟩
   ·exact .inl h
end
open Go.ChangeMaps (setBlock)
theorem Aa {cs:List Value}(h:nO cs=true):iC cs=.map (bf cs 0).toArray cs.length:=by
 unfold iC;split
 ·simp[nO] at h
 ·rfl
theorem vQ:∀{cs:List Value}{i:Nat},(bf cs i).length=cs.length
 | [],_=>rfl
 | c::cs,i=>by simp[bf,vQ (cs:=cs)]
theorem mX:∀(v:Value) (i:Nat),(gO v i).born=i:=by
 intro v i;unfold gO;split<;>rfl
theorem qE:∀{cs:List Value}{i j:Nat},(bf cs i)[j]?=(cs[j]?).map fun v=>gO v (i+j)
 | [],_,_=>by simp[bf]
 | c::cs,i,0=>by simp[bf]
 | c::cs,i,j+1=>by
  simp only[bf,abx,qE (cs:=cs)];rw[show i+1+j=i+(j+1) by omega]
def kindOf:Bool->TypeDesc
 | false=>.int .i64
 | true=>.string
theorem FL (s t:ByteArray):(s == t)=decide (s.data.toList=t.data.toList):=by
 have:(s == t)=(s.data == t.data):=rfl;rw[this,Bool.eq_iff_iff];simp[Array.toList_inj]
theorem xM {str:Bool}{a b:Value}{r:Bool}(h:fS str a b=some r):Instr.sameNow (kindOf str) a b=some r:=by
 unfold fS at h;split at h
 ·injection h with h;subst h;simp[kindOf,Instr.sameNow,beq_dec']
 ·injection h with h
  subst h;rename_i s t;simp only[kindOf,Instr.sameNow,FL]
 ·cases h
where beq_dec':∀{a b:Int},(a == b)=decide (a=b):=by intro a b;rw[Bool.eq_iff_iff];simp
theorem MS {str:Bool}{a b:Value}(h:fS str a b=some true):a=b:=by
 unfold fS at h;split at h
 ·simp only[vz,abo] at h;rw[h]
 ·simp only[vz,abo] at h;rename_i s t;cases s;cases t;simp only[Value.string.injEq,ByteArray.mk.injEq];exact Array.ext' h
 ·cases h
theorem MT {str:Bool}{a b:Value}{r:Bool}(h:fS str a b=some r):∀n,Instr.sameBits n a a=true:=by
 intro n;unfold fS at h;split at h
 ·cases n<;>simp[Instr.sameBits]
 ·cases n<;>simp[Instr.sameBits,FL]
 ·cases h
theorem oN {str:Bool}{key:Value}:∀{cs:List Value}{i:Nat}{o:Option (Nat×Value)},mT str key cs i=some o->Instr.findNow (kindOf str) key (bf cs i) i=some o
 | [],i,o,h=>by simp only[mT] at h;simpa[bf,Instr.findNow] using h
 | c::cs,i,o,h=>by
  unfold mT at h;split at h
  ·rename_i b;cases b
  ·rename_i k v l j b;injection b with e1 e2
   subst e1 e2;simp only[bf,gO,Instr.findNow];split at h
   ·rename_i d;rw[xM d];exact h
   ·rename_i d;rw[xM d];exact oN h
   ·cases h
  ·cases h
theorem Ab {str:Bool}{key val:Value}(f:fS str key key=some true):∀{cs cs':List Value}{i:Nat},xj str key val cs=some cs' ->
  (∃j v,mT str key cs i=some (some (i+j,v))/\j<cs.length/\((bf cs i)[j]?.map (·.key))=some key/\bf cs' i=(bf cs i).modify j (fun e=>{e with key:=key,val:=val})/\cs'.length=cs.length) \/
  (mT str key cs i=some none/\cs'=cs++[.agg #[key,val]])
 | [],cs',i,h=>by
  simp only[xj,vz] at h;subst h;exact .inr ⟨rfl,rfl⟩
 | c::cs,cs',i,h=>by
  unfold xj at h;split at h
  ·rename_i b;cases b
  ·rename_i k v l b;injection b with e1 e2
   subst e1 e2;split at h
   ·rename_i d;injection h with h
    subst h;refine .inl ⟨0,v,by simp only[mT,d,Nat.add_zero],by simp,?_,?_,rfl⟩
    ·simp[bf,gO,(MS d).symm]
    ·simp[bf,gO]
   ·rename_i d;split at h
    case h_2=>cases h
    rename_i t r;injection h with h
    subst h;rcases Ab f (i:=i+1) r with⟨j,u,m,n,q,p,s⟩ | ⟨m,n⟩
    ·refine .inl ⟨j+1,u,?_,by simp;omega,by simpa[bf] using q,by simp[bf,p],by simp[s]⟩;simp only[mT,d];rw[m,show i+1+j=i+(j+1) by omega]
    ·refine .inr ⟨?_,by rw[n];rfl⟩;simp only[mT,d];exact m
   ·cases h
  ·cases h
theorem Ey {str:Bool}{key val:Value}{cs cs':List Value}(h:xj str key val cs=some cs'):nO cs'=true:=by
 unfold xj at h;split at h
 ·injection h with h;subst h;rfl
 ·split at h
  ·injection h with h;subst h;rfl
  ·split at h
   ·injection h with h;subst h;rfl
   ·cases h
  ·cases h
 ·cases h
section
variable {P:Program}{F:aD}{L:Loc}{ρ:Env}{a:Act}{w:World}{K:cQ}{o:Oper}{Q:Exit->Act->World->Prop}
theorem u6 (b:St F L w) {k g:Nat}{cs:List Value}(d:L.get k=some (.box g 0 cs)) (c:nO cs=true):w.heap[g]?=some (.map (bf cs 0).toArray cs.length):=by
 have h:=b.own k _ d;simp only[Own.ok,lT] at h;rw[Aa c] at h;exact h
theorem MU {str:Bool}{key:TypeId}{kv:Value}(b:P.underlying key=some (kindOf str)) (c:fS str kv kv=some true) (e:Bool):(Instr.checkKey e 10000 key kv).run P w=.ok () w:=by
 rw[show(10000:Nat)=9999+1 from rfl,Instr.checkKey];simp only[Sem.run_bind,run_underlying b,Result.andThen_ok];cases str<;>simp[kindOf,Sem.run_pure]
theorem Ez {str:Bool}{key:TypeId}{kv:Value}(b:P.underlying key=some (kindOf str)) (e:Bool):(Instr.checkKey e 10000 key kv).run P w=.ok () w:=by
 rw[show(10000:Nat)=9999+1 from rfl,Instr.checkKey];simp only[Sem.run_bind,run_underlying b,Result.andThen_ok];cases str<;>simp[kindOf,Sem.run_pure]
theorem tX {str:Bool}{key:TypeId}{kv:Value}{es:List MapEntry}{o:Option (Nat×Value)}(b:P.underlying key=some (kindOf str)) (h:Instr.findNow (kindOf str) kv es 0=some o):(Instr.findKey key kv es).run P w=.ok o w:=by
 simp only[Instr.findKey,Sem.run_bind,run_underlying b,Result.andThen_ok,h,Sem.run_pure]
theorem Jm {t:TypeId}(d:St F L w) (p:aH L ρ a) (j:∀k,o.dst=some k->k<a.tmps.size) (h:o.op=.makeMap t none)
  (b:evalOp P .mkmap o.dst F L ρ K):o.wp P a w (bg F L w a K) Q:=by
 simp only[evalOp] at b;split at b
 case h_2=>exact b.elim
 rename_i _ k c;split at b
 case h_2=>exact b.elim
 rename_i _ n;have b:=b w.heap.size;obtain⟨f,l,m⟩:=mV d n (ob:=.map #[] 0) (e:=.box w.heap.size 0 []) rfl (by show _=_;rw[gP];rfl);refine gu p j (v:=.map (some w.heap.size)) (x:=.v (.map (some w.heap.size))) ?_ f l rfl bS dG m b;simp[execOp,h,run_makeMap]
theorem CQ {str ok:Bool}{t key e:TypeId}{y z:Operand}{y' p:X}{j:TypeInfo}{zv:Value}(l:St F L w) (h:aH L ρ a) (hd:∀k,o.dst=some k->k<a.tmps.size)
  (x:o.op=.lookup t y z ok) (ht:P.underlying t=some (.map key e)) (b:P.underlying key=some (kindOf str)) (hi:P.info? e=some j) (hz:j.zero=some zv) (hy:br y=some y') (n:br z=some p)
  (c:evalOp P (.mlook str ok zv y' p) o.dst F L ρ K):o.wp P a w (bg F L w a K) Q:=by
 have ey:=aI hy h;have ez:=aI n h;simp only[evalOp,aL] at c;split at c
 case h_2=>exact c.elim
 rename_i g u;obtain⟨k,cs,hk,q,c⟩:=c;have hg:=u6 l hk q;have d:(getObj g).run P w=.ok (.map (bf cs 0).toArray cs.length) w:=by simp[getObj,Sem.run,hg]
 have f:=Ez (w:=w) (kv:=val L ρ p) b (bf cs 0).toArray.isEmpty;rcases c.out with⟨i,v,s,m⟩ | ⟨s,m⟩
 ·have r:=tX (P:=P) (w:=w) b (oN s);refine bL l h hd ?_ rfl bS dG m;simp only[execOp,x,ey,ez,bH u,Instr.lookup,Sem.run_bind,run_underlying ht,Result.andThen_ok,d,Sem.run_pure,f,r];cases ok<;>simp[Sem.run_pure,conc]
 ·have r:=tX (P:=P) (w:=w) b (oN s);refine bL l h hd ?_ rfl bS dG m;simp only[execOp,x,ey,ez,bH u,Instr.lookup,Sem.run_bind,run_underlying ht,Result.andThen_ok,d,Sem.run_pure,f,r];cases ok<;>simp[Sem.run_pure,zeroValue,typeInfo,run_program,hi,hz,conc]
theorem MV {t key e:TypeId}{y:Operand}{l:X}{c:Call}(j:St F L w) (m:aH L ρ a) (hd:∀k,o.dst=some k->k<a.tmps.size)
  (s:o.op=.call c) (u:c.callee=.builtin .len) (q:c.args=#[y]) (h:c.argTypes=#[t]) (ht:P.underlying t=some (.map key e)) (r:br y=some l)
  (b:evalOp P (.mlen l) o.dst F L ρ K):o.wp P a w (bg F L w a K) Q:=by
 have ey:=aI r m;simp only[evalOp,aL] at b;split at b
 case h_2=>exact b.elim
 rename_i g n;obtain⟨k,cs,z,f,b⟩:=b;have p:=u6 j z f;have d:(getObj g).run P w=.ok (.map (bf cs 0).toArray cs.length) w:=by simp[getObj,Sem.run,p]
 refine bL j m hd (v:=.int .i64 cs.length) (x:=.v (.int .i64 cs.length)) ?_ rfl bS dG b;simp[execOp,s,resolve,u,q,h,invoke,builtin,Builtin.len_,ey,bH n,run_underlying ht,goInt,d,vQ]
theorem FM (r:St F L w) {k g:Nat}{cs cs':List Value}(d:L.get k=some (.box g 0 cs)):St F (L.set k (.box g 0 cs')) (setBlock w g (iC cs'))/\Step F L w F (L.set k (.box g 0 cs')) (setBlock w g (iC cs')) /\
  (∀j f ty xs,L.get j=some (.box f ty xs)->∃n,(L.set k (.box g 0 cs')).get j=some (.box f ty n)):=by
 have p:g<w.heap.size:=Own.aaq (r.own k _ d) rfl;have c:∀b,b≠g->(setBlock w g (iC cs')).heap[b]?=w.heap[b]?:=fun b hb=>by
  show(w.heap.setIfInBounds g (iC cs'))[b]?=_;rw[Array.getElem?_setIfInBounds,o6 (fun e=>hb e.symm)]
 have q:w.heap.size<=(setBlock w g (iC cs')).heap.size:=by show _<=(w.heap.setIfInBounds g (iC cs')).size;simp
 refine⟨r.turn d ?_ (fun b hb m=>c b fun e=>m (by rw[e];rfl)) (fun f l=>.inl l),⟨aD.le_refl F,rfl,rfl,rfl,q,fun b hb s=>c b fun e=>s ⟨k,_,d,by rw[e];rfl⟩,fun b h=>.inl h,fun b h=>?_⟩,fun j f ty xs e=>?_⟩
 ·show(w.heap.setIfInBounds g (iC cs'))[g]?=_;rw[Array.getElem?_setIfInBounds,eu rfl,eu p];rfl
 ·rcases Loc.aal h with h | h
  ·exact .inl ⟨k,_,d,h⟩
  ·exact .inl h
 ·rw[Loc.aac];split
  ·rename_i t;subst t;rw[d] at e;injection e with e
   injection e with e1 e2 e3
   subst e1 e2;exact⟨_,rfl⟩
  ·exact⟨xs,e⟩
theorem zp {str:Bool}{t key e:TypeId}{g:Nat}{kv p:Value}{cs cs':List Value}(x:P.underlying t=some (.map key e)) (d:P.underlying key=some (kindOf str))
  (u:w.heap[g]?=some (.map (bf cs 0).toArray cs.length)) (b:fS str kv kv=some true) (h:xj str kv p cs=some cs') :
  (Instr.mapUpdate t (.map (some g)) kv p).run P w=.ok () (setBlock w g (iC cs')):=by
 have f:(getObj g).run P w=.ok (.map (bf cs 0).toArray cs.length) w:=by simp[getObj,Sem.run,u]
 have m:∀o',(setObj g o').run P w=.ok () (setBlock w g o'):=fun o'=>by simp[setObj,Sem.run,u,setBlock]
 have k:=MU (P:=P) (w:=w) (str:=str) (kv:=kv) d b false;rw[Aa (Ey h)];rcases Ab b (i:=0) h with⟨j,v,r,s,h3,y,h5⟩ | ⟨r,s⟩
 ·have q:=tX (P:=P) (w:=w) d (oN r);have n:(((bf cs 0).toArray[0+j]?).map (·.key)).getD kv=kv:=by
   rw[Nat.zero_add];simp only[List.getElem?_toArray];rw[h3];rfl
  simp only[Instr.mapUpdate,Sem.run_bind,run_underlying x,Result.andThen_ok,f,k,q,n,Instr.keyThatStays,MT b,aa9,Sem.run_pure,m];rw[y,h5,Nat.zero_add];congr 3;apply Array.ext';simp
 ·have q:=tX (P:=P) (w:=w) d (oN r);simp only[Instr.mapUpdate,Sem.run_bind,run_underlying x,Result.andThen_ok,f,k,q,m];subst s;congr 3
  ·apply Array.ext';have:∀(l:List Value) (i:Nat),bf (l++[.agg #[kv,p]]) i=bf l i++[{key:=kv,val:=p,born:=i+l.length}]:=by
    intro l
    induction l with
    | nil=>intro i;simp[bf,gO]
    | cons c l z=>intro i;simp only[aaT,bf,z,aaV];rw[show i+1+l.length=i+(l.length+1) by omega]
   simp[this]
  ·simp
theorem wK {str:Bool}{t key e:TypeId}{y z u:Operand}{q n p:X}(m:St F L w) (f:aH L ρ a) (hd:∀k,o.dst=some k->k<a.tmps.size)
  (d:o.op=.mapUpdate t y z u\/o.op=.insert t y z u) (ht:P.underlying t=some (.map key e)) (h:P.underlying key=some (kindOf str)) (hy:br y=some q) (hz:br z=some n) (hu:br u=some p)
  (b:evalOp P (.mupd str q n p) o.dst F L ρ K):o.wp P a w (bg F L w a K) Q:=by
 have ey:=aI hy f;have ez:=aI hz f;have x:=aI hu f;simp only[evalOp] at b;split at b
 case h_2=>exact b.elim
 rename_i g s;obtain⟨k,cs,r,j,b⟩:=b;obtain⟨l,cs',c,b⟩:=b;have hg:=u6 m r j;obtain⟨h1,v,h3⟩:=FM m r (cs':=cs');refine tU f hd (w':=setBlock w g (iC cs')) ?_ h1 v h3 b;have hr:=zp (w:=w) ht h hg l c;rcases d with d | d<;>simp[execOp,d,ey,ez,x,bH s,hr]
theorem Hs {t key e:TypeId}{y:Operand}{l:X}(j:St F L w) (m:aH L ρ a) (hd:∀k,o.dst=some k->k<a.tmps.size)
  (u:o.op=.range t y) (ht:P.underlying t=some (.map key e)) (s:br y=some l) (b:evalOp P (.mrange l) o.dst F L ρ K):o.wp P a w (bg F L w a K) Q:=by
 have ey:=aI s m;simp only[evalOp] at b;split at b
 case h_2=>exact b.elim
 rename_i _ g k n h;split at b
 case h_2=>exact b.elim
 rename_i _ z;obtain⟨km,cs,c,f,b⟩:=b;have r:=u6 j c f;have d:(getObj g).run P w=.ok (.map (bf cs 0).toArray cs.length) w:=by simp[getObj,Sem.run,r]
 have b:=b w.heap.size;obtain⟨h1,p,q⟩:=mV j z (ob:=.mapIter (some g) cs.length #[] cs.length) (e:=.box w.heap.size 0 [.tuple #[.map (some g),.int .i64 cs.length]]) rfl (by show _=_;rw[gP];simp[lT,iC]);refine gu m hd (v:=.pointer (some ⟨w.heap.size,0,none⟩)) (x:=.own k 0) ?_ h1 p ?_ ?_ (fun _ _ e=>by cases e) q b
 ·simp[execOp,u,Instr.range,ey,bH n,run_underlying ht,d]
 ·simp only[conc,Loc.aac,aa9]
 ·rintro k' off e;injection e with e1 e2
  subst e1;exact⟨_,_,_,by rw[Loc.aac,eu rfl]⟩
theorem Jo {y:Operand}{y':X}(s:St F L w) (he:aH L ρ a) (hd:∀k,o.dst=some k->k<a.tmps.size)
  (ho:o.op=.next y false) (hy:br y=some y') (r:evalOp P (.mnext y') o.dst F L ρ K):o.wp P a w (bg F L w a K) Q:=by
 have ey:=aI hy he;simp only[evalOp] at r;split at r
 case h_2=>exact r.elim
 rename_i k hm;split at r
 case h_2=>exact r.elim
 rename_i gi g n b hk;obtain⟨km,cs,al,ar,ad,q,t⟩:=r.out;have hg:=u6 s al ar;have av:w.heap[gi]?=some (.mapIter (some g) n (b.map ju).toArray n):=by
  have h:=s.own k _ hk;simp only[Own.ok,lT,iC] at h;exact h
 have ac:a.eval y=.pointer (some ⟨gi,0,none⟩):=by rw[ey];simp only[val,hm,conc,hk]
 have u:∀x∈(bf cs 0).toArray.toList,x.born<n:=by
  intro x hx;simp only[List.toList_toArray] at hx;obtain⟨j,d⟩:=abd.1 hx;rw[qE] at d;cases m:cs[j]? with
  | none=>rw[m] at d;cases d
  | some v =>
   rw[m] at d;simp only[abE,vz] at d;rw[<-d,mX];have:=(w7.1 m).1;omega
 rcases run_next_at (P:=P) w o.type gi g n n (b.map ju).toArray (bf cs 0).toArray cs.length av hg u (aa7 _) with⟨h0,f⟩ | ⟨e,l,w1,aa,f⟩
 ·refine bL s he hd (v:=.tuple #[.bool false]) (x:=.v (.tuple #[.bool false])) ?_ rfl bS dG (t fun j d=>?_)
  ·simp only[execOp,ho,ac,Sem.run_bind,f,Result.andThen_ok,Sem.run_pure]
  ·have m:∃v,cs[j]?=some v:=⟨cs[j]'(by omega),v7 (by omega)⟩;obtain⟨v,m⟩:=m;have an:(bf cs 0)[j]?=some (gO v (0+j)):=by rw[qE,m];rfl
   have p:gO v (0+j)∈bf cs 0:=aaQ an;apply Classical.byContradiction;intro c;have h1:gO v (0+j)∈(leftOf (bf cs 0).toArray (b.map ju).toArray).toList:=by
    unfold leftOf;simp only[Array.toList_filter,List.mem_filter,p,true_and];rw[mX];simpa using c
   have h2:(leftOf (bf cs 0).toArray (b.map ju).toArray)=#[]:=Array.eq_empty_of_size_eq_zero h0;rw[h2] at h1;cases h1
 ·unfold leftOf at l;simp only[Array.toList_filter,List.mem_filter] at l;obtain⟨p,c⟩:=l;obtain⟨j,d⟩:=abd.1 p;rw[qE] at d;cases m:cs[j]? with
  | none=>rw[m] at d;cases d
  | some v =>
   rw[m] at d;simp only[abE,vz,Nat.zero_add] at d;subst d;rw[mX] at f c;have ay:j∉b.map ju:=by simpa using c
   have ag:=q j v m ay;have am:St F L w1:=by rcases aa with rfl | rfl;exact s;exact s.drew
   obtain⟨h1,h2,h3⟩:=FM am hk (cs':=.tuple #[.map (some g),.int .i64 n]::(b++[.int .i64 j]));have ap:Step F L w F L w1:=by
    rcases aa with rfl | rfl
    ·exact Step.refl _ _ _
    ·exact⟨aD.le_refl F,rfl,rfl,rfl,aa7 _,fun _ _ _=>rfl,fun _ h=>.inl h,fun _ h=>.inl h⟩
   have z:iC (.tuple #[.map (some g),.int .i64 n]::(b++[.int .i64 j]))=.mapIter (some g) n ((b.map ju).toArray.push j) cs.length:=by
    simp[iC,ju,ad]
   rw[z] at h1 h2;refine gu he hd (v:=.tuple #[.bool true,(gO v j).key,(gO v j).val]) (x:=.v (.tuple #[.bool true,(gO v j).key,(gO v j).val])) ?_ h1 (ap.trans h2) rfl bS dG h3 ag;simp only[execOp,ho,ac,Sem.run_bind,f,Result.andThen_ok,Sem.run_pure]
theorem Ht {y:Operand}{y':X}(hs:St F L w) (he:aH L ρ a) (hd:∀k,o.dst=some k->k<a.tmps.size)
  (ho:o.op=.entry y) (hy:br y=some y') (p:evalOp P (.mentry y') o.dst F L ρ K):o.wp P a w (bg F L w a K) Q:=by
 have ey:=aI hy he;simp only[evalOp] at p;split at p
 case h_2=>exact p.elim
 rename_i k hm;split at p
 case h_2=>exact p.elim
 rename_i gi g n d hk;obtain⟨km,cs,j,e,ab,ag,u,b,hj,ac⟩:=p.out;have hg:=u6 hs ab ag;have t:w.heap[gi]?=some (.mapIter (some g) n (d.map ju).toArray n):=by
  have h:=hs.own k _ hk;simp only[Own.ok,lT,iC] at h;exact h
 have al:a.eval y=.pointer (some ⟨gi,0,none⟩):=by rw[ey];simp only[val,hm,conc,hk]
 have f:∃l,d=l++[.int .i64 (.ofNat j)]:=by
  have r:d≠[]:=by rintro rfl;simp at b
  refine⟨d.dropLast,?_⟩;rw[List.getLast?_eq_some_getLast r] at b;injection b with b
  rw[<-b];exact(List.dropLast_concat_getLast r).symm
 obtain⟨l,rfl⟩:=f;have q:(bf cs 0)[j]?=some (gO e j):=by rw[qE,hj];simp
 have m:(gO e j).born=j:=mX e j;have ad:((bf cs 0).toArray.toList.map (·.born)).Nodup:=by
  have:∀(cs:List Value) (i:Nat),(bf cs i).map (·.born)=List.range' i cs.length:=by
   intro cs
   induction cs with
   | nil=>intro i;rfl
   | cons c cs ih=>intro i;simp[bf,mX,ih,List.range'_succ]
  simp only[List.toList_toArray,this];exact List.nodup_range' ..
 have s:((l++[Value.int .i64 (.ofNat j)]).map ju).toArray=(l.map ju).toArray.push (gO e j).born:=by
  rw[m];simp[ju]
 rw[s,<-u] at t;have z:=run_entry_at (P:=P) w gi g cs.length (l.map ju).toArray (bf cs 0).toArray cs.length (gO e j) t hg (by simpa using aaQ q) ad;refine bL hs he hd (v:=.tuple #[(gO e j).key,(gO e j).val]) (x:=.v (.tuple #[(gO e j).key,(gO e j).val])) ?_ rfl bS dG ac;simp only[execOp,ho,al,Sem.run_bind,z,Result.andThen_ok,Sem.run_pure]
end
section
variable {P:Program}{F:aD}{L:Loc}{ρ:Env}{a:Act}{w:World}{K:cQ}{o:Oper}{Q:Exit->Act->World->Prop}
theorem EA {zs:List Value}{l:List (Nat×Nat×X)}(h:(l.all fun p=>Nat.ble (p.1+p.2.1) zs.length)=true):∀off n x,(off,n,x)∈l->off+n<=zs.length:=by
 intro off n x b;have:=aaZ.1 h _ b;exact aa1 this
set_option maxHeartbeats 1000000 in
theorem fo {own:Bool}{s:eH}(hs:St F L w) (he:aH L ρ a) (hd:∀k,o.dst=some k->k<a.tmps.size) (j:iD P own o.op=some s)
  (q:evalOp P s o.dst F L ρ K):o.wp P a w (bg F L w a K) Q:=by
 cases ho:o.op<;>rw[ho] at j<;>simp only[iD] at j<;>try (cases j;done)
 case move y =>
  split at j
  case h_2=>cases j
  rename_i x hx;injection j with j;subst j
  exact I7 hs he hd (.inl ho) hx q
 case assign y =>
  split at j
  case h_2=>cases j
  rename_i x hx;injection j with j;subst j
  exact I7 hs he hd (.inr ho) hx q
 case pick c y z =>
  split at j
  case h_2=>cases j
  rename_i l m p;injection j with j;subst j
  exact Mx hs he hd ho l m p q
 case box t y =>
  split at j
  case h_2=>cases j
  rename_i l ap;have ap:=abt ap;injection j with j
  cases own
  ·subst j;exact QT hs he hd ho l ap q
  ·subst j;exact Mz hs he hd ho l q
 case alloc t =>
  split at j
  case h_2=>cases j
  rename_i l ap;have ap:=abt ap;split at j
  case h_2=>cases j
  rename_i m;injection j with j;subst j
  exact I8 hs he hd ho l m ap q
 case buildSlice t n ps =>
  split at j
  case h_2=>cases j
  rename_i l m;split at j
  case h_2=>cases j
  rename_i p;split at j
  case h_2=>cases j
  rename_i h4 h5 h6;have h4:=aa4 h4;have h5:=aa4 h5;injection j with j
  cases own
  ·subst j;exact QU hs he hd ho l p h6 m h4 h5.1 q
  ·subst j;exact QV hs he hd ho l p h6 m h4 h5.1 h5.2 q
 case build t ps =>
  split at j
  case h_2=>cases j
  rename_i l m;split at j
  case h_2=>cases j
  rename_i p h4;split at j
  case h_2=>cases j
  rename_i h5 h6;injection j with j;subst j
  exact I9 hs he hd ho l m p h4 (fun f hf=>aaZ.1 h5 f hf) (EA h6) q
 case load t y =>
  split at j
  ·rename_i d i x l m p;injection j with j
   refine MA (d:=d) (i:=i) (n:=match dH d with | true=>i.size | false=>1) hs he hd ho l m p rfl ?_;cases az:dH d<;>simp only[az] at j ⊢<;>subst j<;>exact q
  ·rename_i l m p;cases y with
   | global g =>
    simp only[zX] at j;split at j
    ·rename_i h4;injection j with j;subst j
     exact CM hs he hd ho l m rfl h4 q
    ·cases j
   | tmp n=>cases j
   | const v=>cases j
   | func f=>cases j
  ·rename_i l m p;split at j
   case h_2=>injection j with j;subst j;exact False.elim q
   rename_i h4;injection j with j;subst j
   cases y with
   | global g =>
    simp only[zX] at h4;split at h4
    ·rename_i h5;injection h4 with h4;subst h4
     exact CM hs he hd ho l m rfl h5 q
    ·cases h4
   | tmp n=>cases h4
   | const v=>cases h4
   | func f=>cases h4
  ·injection j with j;subst j
   exact False.elim q
  ·cases j
 case lookup t y z ok =>
  split at j
  ·split at j
   case h_2=>cases j
   rename_i l m p;split at j
   case h_2=>cases j
   rename_i h4 h5;split at j
   case h_2=>cases j
   rename_i h6;injection j with j;subst j
   exact ML hs he hd ho l h4 h5 h6 m p q
  ·split at j
   case h_2=>cases j
   rename_i l m p;split at j
   case h_3=>cases j
   ·rename_i h4 h5;split at j
    case h_2=>cases j
    rename_i h6;injection j with j;subst j
    exact CQ (str:=false) hs he hd ho l h4 h5 h6 m p q
   ·rename_i h4 h5;split at j
    case h_2=>cases j
    rename_i h6;injection j with j;subst j
    exact CQ (str:=true) hs he hd ho l h4 h5 h6 m p q
 case makeMap t r =>
  cases r with
  | none =>
   simp only[iD,vz] at j;subst j;exact Jm hs he hd ho q
  | some r=>simp only[iD] at j;cases j
 case mapUpdate t y z u =>
  split at j
  case h_2=>cases j
  rename_i l m p h4;split at j
  case h_3=>cases j
  ·rename_i h5;injection j with j;subst j
   exact wK (str:=false) hs he hd (.inl ho) l h5 m p h4 q
  ·rename_i h5;injection j with j;subst j
   exact wK (str:=true) hs he hd (.inl ho) l h5 m p h4 q
 case insert t y z u =>
  split at j
  case h_2=>cases j
  rename_i l m p h4;split at j
  case h_3=>cases j
  ·rename_i h5;injection j with j;subst j
   exact wK (str:=false) hs he hd (.inr ho) l h5 m p h4 q
  ·rename_i h5;injection j with j;subst j
   exact wK (str:=true) hs he hd (.inr ho) l h5 m p h4 q
 case range t y =>
  split at j
  case h_2=>cases j
  rename_i l m;injection j with j;subst j
  exact Hs hs he hd ho l m q
 case entry y =>
  split at j
  case h_2=>cases j
  rename_i l;injection j with j;subst j
  exact Ht hs he hd ho l q
 case next y b =>
  cases b with
  | true=>simp only[iD] at j;cases j
  | false =>
   simp only[iD] at j;split at j
   case h_2=>cases j
   rename_i l;injection j with j;subst j
   exact Jo hs he hd ho l q
 case store t y z =>
  split at j
  case h_2=>cases j
  rename_i l m p;injection j with j;subst j
  exact Jj hs he hd ho l m p q
 case makeInterface t y =>
  split at j
  ·cases j
  ·rename_i d x l m p;injection j with j;subst j
   exact MI hs he hd ho m l p q
  ·cases j
 case typeAssert y xt t ok =>
  cases ok with
  | false=>cases j
  | true =>
   simp only[] at j;split at j
   ·cases j
   ·rename_i d i x h4 l m p;split at j
    case h_2=>cases j
    rename_i h5;injection j with j;subst j
    exact Q9 hs he hd ho l h4 m h5 p q
   ·cases j
 case panic y =>
  split at j
  case h_2=>cases j
  injection j with j;subst j
  exact q.elim
 case nilCheck y =>
  split at j
  case h_2=>cases j
  rename_i l m;injection j with j;subst j
  exact Ji hs he hd ho l m q
 case binOp op t y z t' =>
  split at j
  case h_2=>cases j
  rename_i d x1 x2 l m p;split at j<;>first
   | (cases j;done)
   | (injection j with j;subst j;first
     | exact Ja (neg:=false) hs he hd ho l m p q
     | exact Ja (neg:=true) hs he hd ho l m p q
     | exact Jb (neg:=false) hs he hd ho l m p q
     | exact Jb (neg:=true) hs he hd ho l m p q
     | exact Jc (neg:=false) hs he hd ho l m p q
     | exact Jc (neg:=true) hs he hd ho l m p q
     | exact Jd (neg:=false) hs he hd ho l m p q
     | exact Jd (neg:=true) hs he hd ho l m p q
     | exact QW hs he hd ho m p q)
   | (split at j
      case h_2=>cases j
      rename_i k1 k2 k3;injection j with j;subst j
      first
       | exact Jg (neg:=false) hs he hd ho l k1 k2 k3 m p q
       | exact Jg (neg:=true) hs he hd ho l k1 k2 k3 m p q)
   | (split at j
      case h_2=>cases j
      rename_i k1;injection j with j;subst j
      first
       | exact Je (neg:=false) hs he hd ho l m p k1 q
       | exact Je (neg:=true) hs he hd ho l m p k1 q)
 case unOp op t y =>
  split at j
  case h_2=>cases j
  rename_i l;injection j with j;subst j
  exact Ti hs he hd ho l q
 case convert s t y =>
  split at j
  case h_4=>cases j
  ·rename_i l m p;injection j with j;subst j
   exact MB hs he hd ho l m p q
  ·rename_i l m p;split at j
   case h_2=>cases j
   rename_i h4;injection j with j;subst j
   exact Q6 hs he hd ho l m h4 p q
  ·rename_i l m p;split at j
   case h_2=>cases j
   rename_i h4;injection j with j;subst j
   exact Rf hs he hd ho l m h4 p q
 case makeFunc fn fi ca =>
  cases fn<;>simp only[] at j<;>try (cases j;done)
  ·split at j
   case h_2=>cases j
   rename_i l m;injection j with j;subst j
   exact MC hs he hd ho l m q
  ·split at j
   case h_2=>cases j
   rename_i l m;injection j with j;subst j
   exact MJ hs he hd ho l m q
  ·split at j
   case h_2=>cases j
   rename_i l m;injection j with j;subst j
   exact MK hs he hd ho l m q
 case makeSlice t y z =>
  split at j
  case h_2=>cases j
  rename_i l m p;split at j
  case h_2=>cases j
  rename_i h4;split at j
  case h_2=>cases j
  rename_i h5;split at j
  case h_2=>cases j
  rename_i h6 h7;injection j with j;subst j
  exact Jk hs he hd ho l h4 h5 (aa4 h6) (aa4 h7) m p q
 case slice t y lo up mx =>
  cases mx<;>simp only[] at j<;>try (cases j;done)
  split at j
  case h_3=>cases j
  ·rename_i l m p h4;split at j
   case h_2=>cases j
   rename_i h5;injection j with j;subst j
   exact Ra hs he hd ho l h5 m p h4 q
  ·rename_i l m p h4;injection j with j;subst j
   exact MO hs he hd ho l m p h4 q
 case fieldAddr t y f =>
  split at j
  case h_2=>cases j
  rename_i l m;split at j
  case h_2=>cases j
  rename_i p;split at j
  case h_2=>cases j
  rename_i h4;split at j
  case h_1=>cases j
  rename_i h5;injection j with j;subst j
  exact Hp hs he hd ho l p h4 (abt h5) m q
 case field t y f =>
  split at j
  case h_2=>cases j
  rename_i l m;split at j
  case h_2=>cases j
  rename_i p;split at j
  case h_2=>cases j
  rename_i d i h4 h5;refine Ho (n:=match dH d with | true=>i.size | false=>1) hs he hd ho l p h4 h5 m rfl ?_;cases az:dH d<;>simp only[az] at j ⊢<;>injection j with j<;>subst j<;>exact q
 case indexAddr t y z =>
  split at j
  case h_2=>cases j
  rename_i l m p;split at j
  case h_2=>cases j
  rename_i h4;injection j with j;subst j
  exact ME hs he hd ho l h4 m p q
 case index t y z =>
  split at j
  case h_2=>cases j
  rename_i l m p;injection j with j;subst j
  exact MF hs he hd ho l m p q
 case extract y i =>
  split at j
  case h_2=>cases j
  rename_i l;injection j with j;subst j
  exact MD hs he hd ho l q
 case call c =>
  split at j
  case h_1=>cases j
  rename_i args al;split at j
  ·rename_i f hc;split at j
   case h_2=>cases j
   split at j
   case h_2=>cases j
   injection j with j;subst j
   exact MR hs he hd ho hc al q
  ·rename_i y hc;split at j
   case h_2=>cases j
   rename_i l;injection j with j;subst j
   exact Jl hs he hd ho hc l al q
  ·rename_i n nm hc;injection j with j;subst j
   exact Rc hs he hd ho hc al q
  ·cases j
  ·rename_i b hc;have one:∀{x:X},args=[x]->∃y,c.args=#[y]/\br y=some x:=by
    intro x e;subst e
    match aE:c.args.toList,al with
    | [],h=>simp[gM] at h
    | [y],h =>
     refine⟨y,by apply Array.ext';simpa using aE,?_⟩;simp only[gM] at h;split at h
     case h_2=>cases h
     rename_i l m;injection h with h
     injection h with h _
     rw[l,h]
    | y::z::r,h =>
     simp only[gM] at h;split at h
     case h_2=>cases h
     rename_i l m;injection h with h
     injection h with _ h
     subst h;split at m
     ·injection m with m;cases m
     ·cases m
   have be:∀{x x':X},args=[x,x']->∃y y',c.args=#[y,y']/\br y=some x/\br y'=some x':=by
    intro x x' e;subst e
    match aE:c.args.toList,al with
    | [],h=>simp[gM] at h
    | [y],h =>
     simp only[gM] at h;split at h
     case h_2=>cases h
     rename_i l m;injection m with m
     injection h with h
     injection h with _ h
     rw[h] at m;cases m
    | [y,y'],h =>
     refine⟨y,y',by apply Array.ext';simpa using aE,?_⟩;simp only[gM] at h;split at h
     case h_2=>cases h
     rename_i l m;injection h with h
     injection h with h h'
     split at m
     case h_2=>cases m
     rename_i p h4;injection m with m
     rw[<-m] at h';injection h' with h' _
     exact⟨by rw[l,h],by rw[p,h']⟩
    | y::z::u::r,h =>
     simp only[gM] at h;split at h
     case h_2=>cases h
     rename_i l m;injection h with h
     injection h with _ h
     subst h;split at m
     case h_2=>cases m
     rename_i p h4;injection m with m
     injection m with _ m
     subst m;split at h4
     ·injection h4 with h4;cases h4
     ·cases h4
   have ay:∀{t:TypeId},c.argTypes.toList=[t]->c.argTypes=#[t]:=fun e=>by apply Array.ext';simpa using e
   have ax:∀{t t':TypeId},c.argTypes.toList=[t,t']->c.argTypes=#[t,t']:=fun e=>by apply Array.ext';simpa using e
   split at j
   ·rename_i x t am;obtain⟨y,ha,hy⟩:=one rfl;split at j
    ·rename_i l;injection j with j;subst j
     exact Q7 hs he hd ho hc ha (ay am) l hy q
    ·rename_i l;injection j with j;subst j
     exact MG hs he hd ho hc ha (ay am) l hy q
    ·rename_i l;injection j with j;subst j
     exact MV hs he hd ho hc ha (ay am) l hy q
    ·cases j
   ·rename_i x t am;obtain⟨y,ha,hy⟩:=one rfl;split at j
    ·rename_i l;injection j with j;subst j
     exact MH hs he hd ho hc ha (ay am) l hy q
    ·cases j
   ·injection j with j;subst j
    exact PK (mx:=true) hs he hd ho hc al q
   ·injection j with j;subst j
    exact PK (mx:=false) hs he hd ho hc al q
   ·rename_i x x' t t' am;obtain⟨y,y',ha,hy,ar⟩:=be rfl;split at j
    ·rename_i l m;split at j
     case h_2=>cases j
     rename_i p;split at j
     case h_2=>cases j
     rename_i h4;split at j
     case h_2=>cases j
     rename_i h5 h6 h7;have h5:=aa4 h5;subst h5;injection j with j;subst j
     exact Rb hs he hd ho hc ha (ax am) l p h4 (aa4 h6) (aa4 h7) hy ar q
    ·rename_i l m;split at j
     case h_2=>cases j
     rename_i p;split at j
     case h_2=>cases j
     rename_i h4;split at j
     case h_2=>cases j
     rename_i h5 h6 h7;have h5:=aa4 h5;subst h5;injection j with j;subst j
     exact MP hs he hd ho hc ha (ax am) l m p h4 (aa4 h6) (aa4 h7) hy ar q
    ·rename_i l m;split at j
     case h_2=>cases j
     rename_i p;split at j
     case h_2=>cases j
     rename_i h4;split at j
     case h_2=>cases j
     rename_i h5 h6;have h5:=aa4 h5;subst h5;injection j with j;subst j
     exact MQ hs he hd ho hc ha (ax am) l m p h4 (aa4 h6) hy ar q
    ·cases j
   ·rename_i x x' t t' am;obtain⟨y,y',ha,hy,ar⟩:=be rfl;split at j
    ·rename_i l m;split at j
     case h_2=>cases j
     rename_i p;split at j
     case h_2=>cases j
     rename_i h5 h6;injection j with j;subst j
     exact FK hs he hd ho hc ha (ax am) l p (aa4 h6) hy ar q
    ·rename_i l m;split at j
     case h_2=>cases j
     rename_i p;split at j
     case h_2=>cases j
     rename_i h6;injection j with j;subst j
     exact FK hs he hd ho hc ha (ax am) l p (aa4 h6) hy ar q
    ·cases j
   ·cases j
end
structure cK where
 n:Nat
 own:List Nat:=[]
 frz:List (Nat×Nat×List Nat):=[]
 ord:List (Nat×List Nat×List (List Nat)):=[]
 co:List Nat:=[]
 pan:List (Nat×Nat):=[]
 bx:List Nat:=[]
 fl:List Nat:=[]
 px:List Nat:=[]
 bk:List (Nat×Nat):=[]
def vR:List (Nat×Nat)->Nat->Nat->Bool
 | [],_,_=>false
 | (r,i)::l,c,b=>match Nat.beq r c&&Nat.beq i b with | true=>true | false=>vR l c b
def oe (b:Bool) (d:Option Nat) (s:eH) (g:Option (Nat×Bool)):aA:=match b with | true=>.pc d s g | false=>.op d s g
def cK.owned (A:cK):Option Nat->Bool
 | some d=>fW A.own d
 | none=>false
def cK.isO (A:cK):Option Nat->Bool
 | some d=>fW A.co d
 | none=>fW A.co 999999
def cK.isX (A:cK):Option Nat->Bool
 | some d=>fW A.px d
 | none=>fW A.px 999999
def Jp:List (Nat×Nat×List Nat)->Nat->Nat->List Nat
 | [],_,_=>[]
 | (r,i,ks)::l,c,b=>match Nat.beq r c&&Nat.beq i b with | true=>ks | false=>Jp l c b
def Jq:List (Nat×List Nat×List (List Nat))->Nat->Option (List Nat×List (List Nat))
 | [],_=>none
 | (r,is)::l,b=>match Nat.beq r b with | true=>some is | false=>Jq l b
def tY (l:List (Nat×List Nat×List (List Nat))) (r:Nat):List Nat:=match Jq l r with | some (is,_)=>is | none=>[]
def iF (c:Array Oper):Option (Nat×Bool)->Option (Option (Nat×Bool))
 | none=>some none
 | some (j,b)=>match(c[j]?).bind (·.dst) with
  | some d=>some (some (d,b))
  | none=>none
def PL (n:Nat):Option Nat->Bool
 | none=>true
 | some d=>Nat.blt d n
def qF (P:Program) (A:cK) (r:Nat) (b:Array Oper):List Nat->Option (List aA)
 | []=>some []
 | i::is=>match b[i]? with
  | none=>none
  | some o=>match iF b o.guard,iD P (A.owned o.dst) o.op,PL A.n o.dst,qF P A r b is with
   | some g,some s,true,some c=>some ((Jp A.frz r i).map .frz++oe (vR A.pan r i) o.dst s g::c)
   | _,_,_,_=>none
section
variable {P:Program}{F:aD}{L:Loc}{ρ:Env}{a:Act}{w:World}{K:cQ}{Q:Exit->Act->World->Prop}
def eS (n:Nat) (F:aD) (L:Loc) (w:World) (a:Act) (asg:List Nat) (K:cQ) (b:Act) (w':World):Prop :=
 ∃F' L' ρ',St F' L' w'/\aH L' ρ' b/\b.tmps.size=n/\b.defers=a.defers/\Step F L w F' L' w'/\(∀j,j∉asg->b.tmps.getD j undef=a.tmps.getD j undef)/\K F' L' ρ'
theorem oO {k:Nat}{KK:aD->Loc->Prop}(z:St F L w) (he:aH L ρ a) (h:PJ F L k KK):∃F' L',St F' L' w/\aH L' ρ a/\Step F L w F' L' w/\KK F' L':=by
 obtain⟨v,t,sz,n,xs,hk,hK⟩:=h;have d:=z.own k _ hk;simp only[Own.ok] at d;have m:=z.part (Loc.aaA L k);have o:aH (L.del k) ρ a:=by
  have hb:∀j g ty cs,L.get j=some (.box g ty cs)->(L.del k).get j=some (.box g ty cs):=by
   intro j g ty cs e;rw[Loc.aai];split
   ·rename_i hj;subst hj;rw[hk] at e;cases e
   ·exact e
  refine⟨fun j=>?_,fun j s off e=>?_,he.el⟩
  ·rw[he.eq j];cases e:ρ j with
   | v x=>rfl
   | el x y=>rfl
   | own s off =>
    obtain⟨g,ty,cs,c⟩:=he.own j s off e;simp only[conc,c,hb s g ty cs c]
  ·obtain⟨g,ty,cs,c⟩:=he.own j s off e;exact⟨g,ty,cs,hb s g ty cs c⟩
 have ad:∀g,v.ownBlock=some g->¬(L.del k).owns g:=by
  rintro g c ⟨j,p,e,hb⟩;rw[Loc.aai] at e;split at e
  ·cases e
  ·rename_i hj;exact hj (z.sep j k p _ g e hk hb c)
 obtain⟨hx,l⟩:=d;rcases l with⟨rfl,rfl⟩ | ⟨g,cap,ag,rfl,an,c,ae,ao,ar,f⟩
 ·refine⟨F,L.del k,m,o,⟨aD.le_refl F,rfl,rfl,rfl,aa7 _,fun _ _ _=>rfl,fun b h=>.inl h,fun b h=>.inl (Loc.aat h)⟩,hK F (aD.le_refl F) (.inl ⟨rfl,rfl,abg (by simpa using hx)⟩)⟩
 ·have r:=aD.aas z c;refine⟨_,L.del k,m.freeze c (ad g rfl),o,⟨r,rfl,rfl,rfl,aa7 _,fun _ _ _=>rfl,fun b h=>?_,fun b h=>.inl (Loc.aat h)⟩,hK _ r (.inr ⟨⟨g,0,none⟩,cap,rfl,⟨_,ag,t,(0,0),rfl,eu rfl,rfl,fun i u hu=>?_⟩,ae⟩)⟩
  ·by_cases q:b=g
   ·subst q;exact .inr (.inl ⟨k,_,hk,rfl⟩)
   ·simp only[o6 q] at h;exact .inl h
  ·rw[<-f,abm] at hu;split at hu
   ·exact⟨by simpa using hu,tN _⟩
   ·cases hu
theorem sS {k g:Nat}{t:TypeId}{cs:List Value}(m:St F L w) (z:aH L ρ a) (n:L.get k=some (.box g t cs)) :
  ∃F',F.le F'/\F' g=some (lT t cs)/\St F' (L.del k) w/\aH (L.del k) (xq k g ρ) a/\Step F L w F' (L.del k) w:=by
 have u:=m.own k _ n;simp only[Own.ok] at u;have r:=m.part (Loc.aaA L k);have l:=aD.aas m u;have s:¬(L.del k).owns g:=by
  rintro⟨j,p,e,hb⟩;rw[Loc.aai] at e;split at e
  ·cases e
  ·rename_i hj;exact hj (m.sep j k p _ g e n hb rfl)
 refine⟨_,l,eu rfl,r.freeze u s,⟨fun j=>?_,fun j k' off e=>?_,fun j ad i e=>?_⟩,⟨l,rfl,rfl,rfl,aa7 _,fun _ _ _=>rfl,fun b h=>?_,fun b h=>.inl (Loc.aat h)⟩⟩
 ·rw[z.eq j];simp only[xq];cases e:ρ j with
  | v x=>rfl
  | el x y=>rfl
  | own k' off =>
   simp only[];cases hb:Nat.beq k' k with
   | true =>
    have:=vv hb;subst this;simp only[conc,n]
   | false =>
    have c:k'≠k:=fun e=>by rw[e] at hb;simp at hb
    simp only[conc];rw[Loc.aai,o6 c]
 ·simp only[xq] at e;split at e
  ·rename_i q d o;cases hb:Nat.beq q k with
   | true=>rw[hb] at e;cases e
   | false =>
    rw[hb] at e;injection e with e3 e4
    subst e3;have c:q≠k:=fun e=>by rw[e] at hb;simp at hb
    rw[Loc.aai,o6 c];exact z.own j q d o
  ·cases e
  ·cases e
 ·simp only[xq] at e;split at e
  ·split at e<;>cases e
  ·cases e
  ·rename_i a2 i2 o;injection e with h1 h2
   subst h1;exact z.el j _ _ o
 ·by_cases f:b=g
  ·subst f;exact .inr (.inl ⟨k,_,n,rfl⟩)
  ·simp only[o6 f] at h;exact .inl h
theorem rK {s:Nat}{b:Bool}(h:a.tmps.getD s undef=.bool b):a.tmps[s]?=some (.bool b):=by
 rw[abf] at h;cases e:a.tmps[s]? with
 | none=>rw[e] at h;simp[undef] at h
 | some v=>rw[e] at h;simp at h;rw[h]
theorem lm {ρ:Env}{s:Nat}{v:Value}(h:ρ s=.v v):put (some s) (.v v) ρ=ρ:=by
 funext t
 rw[put_eq];simp only[];split
 ·rename_i b;subst b;exact h.symm
 ·rfl
def dstsOf (b:Array Oper):List Nat->List Nat
 | []=>[]
 | i::is=>match(b[i]?).bind (·.dst) with | some d=>d::dstsOf b is | none=>dstsOf b is
theorem kM {d:Option Nat}{v:Value}{j:Nat}(h:d≠some j):(a.put d v).tmps.getD j undef=a.tmps.getD j undef:=by
 cases d with
 | none=>rfl
 | some k =>
  simp only[Act.put,abf,Array.getElem?_setIfInBounds];rw[o6 (by intro e;exact h (by rw[e]))]
theorem qG {o:Oper}{asg:List Nat}{KK:Act->World->Prop}(b:o.wp P a w KK Q) :
  o.wp P a w (fun f w'=>KK f w'/\∀j,o.dst≠some j->f.tmps.getD j undef=a.tmps.getD j undef) Q:=by
 unfold Oper.wp at b ⊢;generalize(execOp a.eval o).run P w=r at b ⊢;cases r with
 | ok k w' =>
  cases k<;>simp only[Oper.upon] at b ⊢<;>first
   | exact⟨b,fun j h=>kM h⟩
   | exact Calls.mono b (fun e d c=>by cases e<;>first | exact⟨c,fun j h=>kM h⟩ | exact c)
   | exact Rows.mono b (fun v d c=>⟨c,fun j h=>kM h⟩)
 | halt x w'=>cases x<;>simp only[Oper.upon] at b ⊢<;>exact b
theorem u7 {c:Code}(I:Nat->Act->World->Prop) (y:∃n,I n a w)
  (r:∀n a w,I n a w->c.wp P (Exit.then (fun s w'=>∃m,m<n/\I m s w') Q) a w):(Code.loop c).wp P Q a w:=by
 intro b k cs;have key:∀n a w,I n a w->∃e s w',Q e s w'/\Arrives P (lone (b.at a (.code c::.inLoop c::k)) cs w) b k cs e s w':=by
  intro n
  induction n using Nat.strongRecOn with
  | _ n ih =>
   intro a w z;obtain⟨e,f,h,o,d⟩:=r n a w z b (.inLoop c::k) cs;cases e with
   | normal =>
    obtain⟨m,aa,q⟩:=o;obtain⟨t,v,u,p,j⟩:=ih m aa f h q;exact⟨t,v,u,p,.of_steps (Steps.trans d (.one step_inLoop)) j⟩
   | exit id=>exact⟨_,f,h,o,.pass (x:=.inLoop c) rfl (fun _ _=>.inl (by simp)) d⟩
   | goto l=>exact⟨_,f,h,o,.pass (x:=.inLoop c) rfl (fun _ _=>.inl (by simp)) d⟩
   | ret=>exact⟨_,f,h,o,.pass (x:=.inLoop c) rfl (fun _ _=>.inl (by simp)) d⟩
   | panic ch=>exact⟨_,f,h,o,.pass (x:=.inLoop c) rfl (fun _ _=>.inl (by simp)) d⟩
   | outgrown=>exact⟨_,f,h,o,.pass (x:=.inLoop c) rfl (fun _ _=>.inl (by simp)) d⟩
 obtain⟨n,z⟩:=y;obtain⟨e,s,w',o,d⟩:=key n a w z;exact⟨e,s,w',o,.of_steps (.one step_loop) d⟩
theorem mO:∀{L L':Loc},L.keeps L'->∀{k g t cs},L.get k=some (.box g t cs)->∃cs',L'.get k=some (.box g t cs')
 | [],L',_,k,g,t,cs,e=>by cases e
 | (j,.box c d cs')::l,L',h,k,g,t,cs,e=>by
  simp only[Loc.keeps] at h;simp only[Loc.get] at e;split at e
  ·rename_i b;have:=vv b;subst this;injection e with e
   injection e with e1 e2 e3
   subst e1 e2;exact h.1
  ·exact mO h.2 e
 | (j,.row ..)::l,L',h,k,g,t,cs,e=>by
  simp only[Loc.keeps] at h;simp only[Loc.get] at e;split at e
  ·cases e
  ·exact mO h e
theorem mP {L:Loc}:∀{L':Loc},L.gives L'->∀{k o},L'.get k=some o->L.get k=some o\/(L.get k=none/\∃t sz,o=.row (.slice none 0 0) t sz 0 [])
 | [],_,k,o,e=>by cases e
 | (j,p)::l,h,k,o,e=>by
  simp only[Loc.gives] at h;simp only[Loc.get] at e;split at e
  ·rename_i b;have:=vv b;subst this;injection e with e
   subst e;exact h.1
  ·exact mP h.2 e
theorem St.gives {L':Loc}(b:St F L w) (h:L.gives L'):St F L' w:=by
 refine⟨b.frz,fun k o e=>?_,fun k o g e hb=>?_,fun k m o o' g e j hb c=>?_,b.glob⟩
 ·rcases mP h e with d | ⟨_,t,sz,rfl⟩
  ·exact b.own k o d
  ·exact World.ownsRow_nil w 0 t sz
 ·rcases mP h e with d | ⟨_,t,sz,rfl⟩
  ·exact b.off k o g d hb
  ·cases hb
 ·rcases mP h e with d | ⟨_,t,sz,rfl⟩<;>rcases mP h j with f | ⟨_,n,l,rfl⟩
  ·exact b.sep k m o o' g d f hb c
  ·cases c
  ·cases hb
  ·cases hb
theorem sU {L':Loc}(h:L.gives L'):Step F L w F L' w :=
 ⟨aD.le_refl F,rfl,rfl,rfl,aa7 _,fun _ _ _=>rfl,fun b h=>.inl h,fun b ⟨k,o,e,hb⟩=>by
  rcases mP h e with c | ⟨_,t,sz,rfl⟩
  ·exact .inl ⟨k,o,c,hb⟩
  ·cases hb⟩
theorem cS:∀{l:List Nat}{k:Nat},fW l k=true↔k∈l
 | [],k=>by simp[fW]
 | j::l,k=>by
  simp only[fW];split
  ·rename_i h;have:=vv h;subst this;simp
  ·rename_i h;have:=fJ h;rw[cS];simp only[xC];constructor
   ·exact .inr
   ·rintro(h | h)
    ·exact o4 h.symm this
    ·exact h
theorem jQ:∀(b:List Nat) (vs:List Value) (ρ:Env) (j:Nat),(puts b (vs.map .v) ρ j=ρ j)\/∃v,puts b (vs.map .v) ρ j=.v v
 | [],vs,ρ,j=>.inl rfl
 | k::b,[],ρ,j=>.inl rfl
 | k::b,v::vs,ρ,j=>by
  simp only[aaS,puts,put_eq];split
  ·exact .inr ⟨v,rfl⟩
  ·exact jQ b vs ρ j
theorem sV {L:Loc}:∀(c:List Nat) (vs:List Value) (ρ b:Env) {a:Act},(∀t,a.tmps.getD t undef=conc L (ρ t))->holds c (vs.map .v) ρ->∀j,(∃v,puts c (vs.map .v) b j=.v v/\a.tmps.getD j undef=v)\/puts c (vs.map .v) b j=b j
 | [],vs,ρ,b,a,d,h,j=>.inr rfl
 | k::c,[],ρ,b,a,d,h,j=>.inr rfl
 | k::c,v::vs,ρ,b,a,d,h,j=>by
  simp only[aaS,holds] at h;simp only[aaS,puts,put_eq];split
  ·rename_i e;subst e;exact .inl ⟨v,rfl,by rw[d,h.1];rfl⟩
  ·exact sV c vs ρ b d h.2 j
end
end Go.Fr
