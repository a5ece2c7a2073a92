/- Part of the proofs of the statements of this seat. -/
import Derived.Orders
import Derived.Below
import Derived.Laws.OwnMore
import Derived.Maps.AppendAt
import Derived.WalkKit
import Derived.KernelRfl
import Derived.Lib.AppendStr
import Derived.Laws.BytesString
import Derived.Laws.StructEq
import Derived.Lib.AppendZeros
import Derived.ArgAppend
import Derived.Laws.CopyRow
import Derived.Laws.IdiomCopy
import Derived.Carry
import Derived.Maps.RangeRun
set_option maxRecDepth 10000
set_option linter.unusedVariables false
set_option linter.unusedSimpArgs false
namespace Go.Fr
open Go Go.RowKit
abbrev j3:=@congrArg
abbrev o6:=@if_pos
abbrev vv:=@absurd
abbrev vz:=@if_neg
abbrev xo:=@Nat.eq_of_beq_eq_true
abbrev yo:=@Option.some.injEq
abbrev aag:=@List.getElem?_eq_getElem
abbrev aah:=@List.mem_append
abbrev aai:=@List.getElem?_eq_some_iff
abbrev aaj:=@Bool.and_eq_true
abbrev aak:=@List.length_append
abbrev aal:=@List.mem_cons
abbrev aam:=@List.mem_of_getElem?
abbrev aan:=@List.append_assoc
abbrev aao:=@List.map_cons
abbrev aap:=@List.getElem?_append_left
abbrev aaq:=@Bool.false_eq_true
abbrev aar:=@List.getElem?_eq_none
abbrev aas:=@List.all_eq_true
abbrev aat:=@List.getElem?_cons_zero
abbrev aau:=@List.length_cons
abbrev aav:=@Nat.le_of_ble_eq_true
abbrev aaw:=@List.getElem?_append_right
abbrev aax:=@List.length_map
abbrev aay:=@List.cons_append
abbrev aaz:=@of_decide_eq_true
abbrev aaA:=@List.append_nil
abbrev aaB:=@Nat.le_refl
abbrev aaC:=@List.length_take
abbrev aaD:=@if_true
abbrev aaE:=@List.mem_iff_getElem?
abbrev aaF:=@Array.getD_eq_getD_getElem?
abbrev aaG:=@List.eq_nil_of_length_eq_zero
abbrev aaH:=@List.mem_cons_of_mem
abbrev aaI:=@Int.le_refl
abbrev aaJ:=@List.mem_map
abbrev aaK:=@Nat.zero_le
abbrev aaL:=@List.getElem?_drop
abbrev aaM:=@Bool.or_eq_true
abbrev aaN:=@List.getElem?_take
abbrev aaO:=@if_false
abbrev aaP:=@List.nil_append
abbrev aaQ:=@List.length_nil
abbrev aaR:=@List.ext_getElem?
abbrev aaS:=@Bool.and_false
abbrev aaT:=@List.getElem?_map
abbrev aaU:=@decide_eq_true_eq
abbrev aaV:=@of_decide_eq_false
abbrev aaW:=@List.mem_singleton
abbrev aaX:=@List.length_replicate
abbrev aaY:=@List.getElem?_cons_succ
abbrev aaZ:=@List.take_of_length_le
abbrev aa0:=@Bool.false_ne_true
abbrev aa1:=@Nat.le_trans
abbrev aa2:=@List.length_drop
abbrev aa3:=@List.replicate_succ
abbrev aa4:=@List.getElem?_eq_none_iff
abbrev aa5:=@Option.map_some
abbrev aa6:=@List.map_map
abbrev aa7:=@List.drop_eq_getElem_cons
abbrev aa8:=@Bool.true_and
abbrev aa9:=@List.map_congr_left
abbrev abb:=@List.map_nil
abbrev abd:=@Bool.false_and
abbrev abe:=@List.getElem?_set_ne
abbrev abf:=@Bool.and_true
abbrev abh:=@Nat.lt_succ_self
abbrev aD:=Nat->Option Obj
def aD.le (F G:aD):Prop:=∀b o,F b=some o->G b=some o
theorem aD.le_refl (F:aD):F.le F:=fun _ _ h=>h
theorem aD.le_trans {F G H:aD}(h:F.le G) (k:G.le H):F.le H:=fun b o e=>k b o (h b o e)
def oO:Nat:=2 ^ 64
def Oz:Nat->Value
 | 0=>.slice none 0 0
 | m+1=>.slice (some ⟨m / (oO*oO),0,none⟩) (m / oO % oO) (m % oO)
def jK (k:Nat) (F:aD) (v:Value):Prop:=(k=0/\v=.nilIface)\/∃m,k=m+1/\v=Oz m
theorem jK.mono {k:Nat}{F G:aD}{v:Value}(h:F.le G) (r:jK k F v):jK k G v:=r
theorem jK.one {k:Nat}{F:aD}{v:Value}(r:jK k F v):v.oneCell'=true:=by
 rcases r with⟨_,rfl⟩ | ⟨m,_,rfl⟩
 ·rfl
 ·cases m<;>rfl
theorem Ag {F:aD}:jK 0 F .nilIface:=.inl ⟨rfl,rfl⟩
def G8:Nat->Option Nat
 | 0=>none
 | 1=>some 0
 | m+2=>some (m / oO % oO)
theorem KI {F:aD}{k n:Nat}{v:Value}(h:jK k F v) (e:G8 k=some n):∃a c,v=.slice a n c:=by
 rcases h with⟨rfl,_⟩ | ⟨m,rfl,rfl⟩
 ·cases e
 ·cases m with
  | zero=>injection e with e;subst e;exact⟨none,0,rfl⟩
  | succ m=>injection e with e;subst e;exact⟨_,_,rfl⟩
def si (F:aD):Prop:=True
theorem si.mono {F G:aD}(h:F.le G) (g:si F):si G:=g
def vQ (g:Nat):Option Nat:=none
theorem G9 {F:aD}{g k:Nat}(h:si F) (e:vQ g=some k):∃v t a,F g=some (.cells #[v] t a)/\jK k F v:=by cases e
def vR (k:Nat) (n:Int):Option (Int×Bool):=none
theorem He {F:aD}{k:Nat}{v:Value}{n r:Int}{b:Bool}(h:jK k F v) (e:vR k n=some (r,b)) :
  ∃m es a,v=.map (some m)/\F m=some (.map es a)/\es.isEmpty=false /\
   ∃o,Instr.findNow (.int .i64) (.int .i64 n) es.toList 0=some o/\((b=true/\∃i,o=some (i,.int .i64 r))\/(b=false/\r=0/\o=none)):=by cases e
theorem BA {k:Nat}{n r:Int}{b:Bool}(e:vR k n=some (r,b)):(Lit.int .i64 r).wf=true:=by cases e
def Dp (k:Nat):Option Bool:=match k with | 0=>some true | _=>none
theorem Hf {F:aD}{k:Nat}{v:Value}{b:Bool}(h:jK k F v) (e:Dp k=some b):(b=true->v=.nilIface)/\(b=false->∃t u,v=.iface t u):=by
 unfold Dp at e;split at e
 case h_2=>cases e
 injection e with e;subst e
 refine⟨fun _=>?_,fun e=>by cases e⟩;rcases h with h | ⟨m,h,_⟩
 ·exact h.2
 ·cases h
def KJ:Bool:=false
def FN:List (TypeId×String):=[(102,"leasehold/snapshot.num"),(102,"leasehold/snapshot.size"),(86,"leasehold/snapshot.num"),(86,"leasehold/snapshot.size"),(123,"leasehold/snapshot.num"),(123,"leasehold/snapshot.size")]
inductive SV where
 | v (x:Value)
 | own (k off:Nat)
 | el (a:Option Addr) (j:Nat)
 deriving Inhabited
inductive Own where
 | box (g:Nat) (t:TypeId) (cs:List Value)
 | row (v:Value) (t:TypeId) (sz n:Nat) (xs:List Value)
def Own.blk:Own->Option Nat
 | .box g _ _=>some g
 | .row v _ _ _ _=>v.ownBlock
abbrev Loc:=List (Nat×Own)
def Loc.get:Loc->Nat->Option Own
 | [],_=>none
 | (j,o)::l,k=>match Nat.beq j k with | true=>some o | false=>Loc.get l k
def Loc.set:Loc->Nat->Own->Loc
 | [],k,o=>[(k,o)]
 | (j,p)::l,k,o=>match Nat.beq j k with
  | true=>(k,o)::l
  | false=>match Nat.ble j k with
   | true=>(j,p)::Loc.set l k o
   | false=>(k,o)::(j,p)::l
def Loc.del:Loc->Nat->Loc
 | [],_=>[]
 | (j,o)::l,k=>match Nat.beq j k with | true=>Loc.del l k | false=>(j,o)::Loc.del l k
abbrev Env:=Nat->SV
def put (d:Option Nat) (v:SV) (ρ:Env):Env :=
 match d with
 | some d=>fun j=>match Nat.beq j d with | true=>v | false=>ρ j
 | none=>ρ
def conc (L:Loc):SV->Value
 | .v x=>x
 | .own k off=>match L.get k with | some (.box g _ _)=>.pointer (some ⟨g,off,none⟩) | _=>undef
 | .el a j=>match a with | some ad=>.pointer (some (ad.add j)) | none=>undef
def gR:Value->Nat->MapEntry
 | .agg ⟨[k,v]⟩,i=>{key:=k,val:=v,born:=i}
 | v,i=>{key:=v,val:=v,born:=i}
def jw:Value->Nat
 | .int _ n=>n.toNat
 | _=>0
def bg:List Value->Nat->List MapEntry
 | [],_=>[]
 | v::l,i=>gR v i::bg l (i+1)
def iH:List Value->Obj
 | .tuple ⟨[.map (some m),.int .i64 n]⟩::a=>.mapIter (some m) n.toNat (a.map jw).toArray n.toNat
 | es=>.map (bg es 0).toArray es.length
def lQ:TypeId->List Value->Obj
 | 0,cs=>iH cs
 | t+1,cs=>.cells cs.toArray (t+1) (0,0)
theorem iz {t:TypeId}(h:t≠0) (cs:List Value):lQ t cs=.cells cs.toArray t (0,0):=by
 cases t with
 | zero=>exact vv rfl h
 | succ t=>rfl
def Own.ok (w:World):Own->Prop
 | .box g t cs=>w.heap[g]?=some (lQ t cs)
 | .row v t sz n xs=>w.ownsRow 0 t sz v n xs
structure St (F:aD) (L:Loc) (w:World):Prop where
 frz:∀b o,F b=some o->w.heap[b]?=some o
 own:∀k o,L.get k=some o->o.ok w
 off:∀k o g,L.get k=some o->o.blk=some g->F g=none
 sep:∀k k' o o' g,L.get k=some o->L.get k'=some o'->o.blk=some g->o'.blk=some g->k=k'
 glob:si F
def Loc.owns (L:Loc) (b:Nat):Prop:=∃k o,L.get k=some o/\o.blk=some b
structure Step (F:aD) (L:Loc) (w:World) (F':aD) (L':Loc) (w':World):Prop where
 le:F.le F'
 os:w'.os=w.os
 tape:w'.tape=w.tape
 output:w'.output=w.output
 size:w.heap.size<=w'.heap.size
 same:∀b,b<w.heap.size->¬L.owns b->w'.heap[b]?=w.heap[b]?
 frz:∀b,F' b≠none->F b≠none\/L.owns b\/w.heap.size<=b
 own:∀b,L'.owns b->L.owns b\/w.heap.size<=b
def oP (a:Nat×Nat) (i:Nat):Prop:=¬(a.1<=i/\i<a.2)
theorem tj (i:Nat):oP (0,0) i:=fun h=>by cases h.2
def bV (F:aD) (a:Option Addr) (j:Nat) (cs:List Value):Prop :=
 ∃b c t d,a=some b/\F b.block=some (.cells c t d)/\b.spot=none/\∀(i:Nat) (v:Value),cs[i]?=some v->c[b.off+j+i]?=some v/\oP d (b.off+j+i)
def kV:Nat->List Own->Loc
 | _,[]=>[]
 | k,o::l=>(k,o)::kV (k+1) l
def inp (l:List Own):Loc:=kV 1000 l
structure CallsA (P:Program) (f:FuncId) (args:Array Value) (F:aD) (Lin:List Own) (R:aD->List Own->Value->Prop):Prop where
 ent:∃fn,P.funcs[f]?=some fn/\fn.body.isSome=true/\(fn.name == "runtime.NumGoroutine")=false
 mono:∀F G L v,F.le G->R F L v->R G L v
 run:∀w,St F (inp Lin) w->Calls P f args w fun e w'=>∃v F' Lo,e=.returned v/\St F' (inp Lo) w'/\Step F (inp Lin) w F' (inp Lo) w'/\R F' Lo v
def Dj (v:Value) (b:List PanicEntry):Prop:=∃a,b={v,recovered:=false}::a/\∀e∈a,e.goexit=false
theorem Dj.one (v:Value):Dj v [{v,recovered:=false}]:=⟨[],rfl,fun e h=>by cases h⟩
structure uq (P:Program) (f:FuncId) (args:Array Value) (F:aD) (Lin:List Own) (R:aD->List Own->Value->Prop) (Pp:Value->Prop):Prop where
 ent:∃fn,P.funcs[f]?=some fn/\fn.body.isSome=true/\(fn.name == "runtime.NumGoroutine")=false
 mono:∀F G L v,F.le G->R F L v->R G L v
 run:∀w,St F (inp Lin) w->Calls P f args w fun e w'=>(∃v F' Lo,e=.returned v/\St F' (inp Lo) w'/\Step F (inp Lin) w F' (inp Lo) w'/\R F' Lo v) \/
  ∃v ch F' Lo,e=.panicked ch/\Dj v ch/\St F' (inp Lo) w'/\Step F (inp Lin) w F' (inp Lo) w'/\Lo.length=Lin.length/\(∀(i:Nat) g t cs,Lin[i]?=some (.box g t cs)->∃cs',Lo[i]?=some (.box g t cs'))/\Pp v
theorem CallsA.toX {P:Program}{f:FuncId}{args:Array Value}{F:aD}{Lin:List Own}{R:aD->List Own->Value->Prop}{Pp:Value->Prop}(h:CallsA P f args F Lin R):uq P f args F Lin R Pp :=
 ⟨h.ent,h.mono,fun w a=>(h.run w a).mono fun _ _ k=>.inl k⟩
structure vS (P:Program) (f:FuncId) (args:Array Value) (F:aD) (Lin:List Own) (R:aD->List Own->Value->Prop) (Pp:aD->List Own->Value->Prop):Prop where
 ent:∃fn,P.funcs[f]?=some fn/\fn.body.isSome=true/\(fn.name == "runtime.NumGoroutine")=false
 mono:∀F G L v,F.le G->R F L v->R G L v
 run:∀w,St F (inp Lin) w->Calls P f args w fun e w'=>(∃v F' Lo,e=.returned v/\St F' (inp Lo) w'/\Step F (inp Lin) w F' (inp Lo) w'/\R F' Lo v) \/
  ∃v ch F' Lo,e=.panicked ch/\Dj v ch/\St F' (inp Lo) w'/\Step F (inp Lin) w F' (inp Lo) w'/\Lo.length=Lin.length/\(∀(i:Nat) g t cs,Lin[i]?=some (.box g t cs)->∃cs',Lo[i]?=some (.box g t cs'))/\Pp F' Lo v
theorem uq.toS {P:Program}{f:FuncId}{args:Array Value}{F:aD}{Lin:List Own}{R:aD->List Own->Value->Prop}{Pp:Value->Prop}(h:uq P f args F Lin R Pp):vS P f args F Lin R (fun _ _=>Pp):=⟨h.ent,h.mono,h.run⟩
inductive X where
 | t (n:Nat)
 | c (v:Value)
 | fn (f:Nat)
 | mt (nm:String) (n:Nat)
 deriving Inhabited
def QT (nm:String):SV->SV
 | .v x=>.v (.func (.method nm) #[x] #[])
 | .own _ _=>.v undef
 | .el _ _=>.v undef
def ev (ρ:Env):X->SV
 | .t n=>ρ n
 | .c v=>.v v
 | .fn f=>.v (.func (.func f) #[] #[])
 | .mt nm n=>QT nm (ρ n)
def n9 (P:Program) (t:TypeId) (nm:String):Option FuncId :=
 match P.info? t with
 | some i=>match i.methods.find? (·.name == nm) with
  | some m=>match m.path.toList,m.func with
   | [],some (f,a)=>match P.underlying t,a with
    | some (.pointer _),true=>some f
    | some (.pointer _),false=>none
    | some _,false=>some f
    | _,_=>none
   | _,_=>none
  | none=>none
 | none=>none
def Nv:List (TypeId×String)->TypeId->String->Bool
 | [],_,_=>false
 | (t,nm)::l,b,a=>match Nat.beq t b,decide (nm=a) with | true,true=>true | _,_=>Nv l b a
def Nw (P:Program):Bool:=FN.all fun x=>(n9 P x.1 x.2).isSome
def lZ (P:Program):SV->Option (Nat×List Value×List Value)
 | .v (.func (.func f) fi ca)=>some (f,fi.toList,ca.toList)
 | .v (.func (.method nm) fi ca)=>match fi.toList with
  | [.iface t u]=>match n9 P t nm with
   | some f=>some (f,[u],[])
   | none=>none
  | _=>none
 | _=>none
def za (P:Program) (f:SV) (args:List Value):Option (Nat×List Value) :=
 match f,args with
 | .v (.func (.methodOf t nm) ⟨[]⟩ _),.iface b u::a=>match P.underlying t with
  | some (.interface _)=>match n9 P b nm with
   | some f=>some (f,u::a)
   | none=>none
  | _=>none
 | _,_=>none
def val (L:Loc) (ρ:Env) (x:X):Value:=conc L (ev ρ x)
inductive eP where
 | mov (x:X)
 | pick (c a b:X)
 | box (t:TypeId) (x:X)
 | boxF (t:TypeId) (x:X)
 | alloc (t:TypeId) (zs:List Value)
 | mkF (e:TypeId) (n sz:Nat) (xs:List X)
 | mkR (e:TypeId) (n sz:Nat) (xs:List X)
 | build (zs:List Value) (ps:List (Nat×Nat×X))
 | load (agg:Bool) (n:Nat) (x:X)
 | loadD (agg:Bool) (n:Nat) (x:X)
 | store (n:Nat) (a x:X)
 | nilck (x:X)
 | bin (op:BinOp) (x y:X)
 | eqB (neg:Bool) (x y:X)
 | eqP (neg:Bool) (x y:X)
 | eqS (neg:Bool) (x y:X)
 | eqF (neg:Bool) (x y:X)
 | eqN (neg:Bool) (x:X)
 | tas (t:TypeId) (z:Value) (x:X)
 | eqA (neg:Bool) (ks:List Bool) (x y:X)
 | un (op:UnOp) (x:X)
 | conv (k:IntKind) (x:X)
 | b2s (x:X)
 | s2b (e:TypeId) (x:X)
 | mkfn (f:Nat) (first cap:List X)
 | makeS (e:TypeId) (sz bytes:Nat) (zs:List Value) (l c:X)
 | slc (sz:Nat) (x:X) (lo hi:Option X)
 | slcS (x:X) (lo hi:Option X)
 | fieldA (off:Nat) (x:X)
 | fieldV (agg:Bool) (off n:Nat) (x:X)
 | idxA (sz:Nat) (x i:X)
 | idxS (x i:X)
 | extr (x:X) (i:Nat)
 | call (f:Nat) (args:List X)
 | callV (f:X) (args:List X)
 | callD (f:Nat) (args:List X)
 | boxD (t:TypeId) (x:X)
 | allocD (t:TypeId) (zs:List Value)
 | mkFD (e:TypeId) (n sz:Nat) (xs:List X)
 | callVD (f:X) (args:List X)
 | callO (f:Nat) (args:List X)
 | callVO (f:X) (args:List X)
 | len (x:X)
 | lenS (x:X)
 | capa (x:X)
 | mm (mx:Bool) (args:List X)
 | app (e:TypeId) (sz bytes:Nat) (zs:List Value) (s x:X)
 | appD (e:TypeId) (sz bytes:Nat) (zs:List Value) (s x:X)
 | storeD (n:Nat) (a x:X)
 | appX (e:TypeId) (sz bytes:Nat) (zs:List Value) (s x:X)
 | appS (e:TypeId) (s x:X)
 | appZ (e:TypeId) (bytes:Nat) (k:IntKind) (s x:X)
 | copy (e:TypeId) (sz:Nat) (d s:X)
 | mkif (t:TypeId) (x:X)
 | b2sD (x:X)
 | b2sR (x:X)
 | makeSD (e sz n:Nat) (zs:List Value)
 | makeSV (e sz b:Nat) (zs:List Value) (x:X)
 | loadK (key:Nat) (agg:Bool) (n:Nat) (x:X)
 | storeK (key n:Nat) (a x:X)
 | copyX (e:TypeId) (sz:Nat) (d s:X)
 | storeX (n:Nat) (a x:X)
 | pan (x:X)
 | gload (g:Nat)
 | look (x i:X)
 | mkmv (nm:String) (x:X)
 | loadF (agg:Bool) (n:Nat) (x:X)
 | loadR (agg:Bool) (n:Nat) (x:X)
 | mkmap
 | mlook (str ok:Bool) (z:Value) (x i:X)
 | mupd (str:Bool) (x i v:X)
 | mlen (x:X)
 | mrange (x:X)
 | mnext (x:X)
 | mentry (x:X)
 | dead
 deriving Inhabited
structure WX where
 dst:Option Nat
 op:eP
 guard:Option (Nat×Bool)
 deriving Inhabited
abbrev cS:=aD->Loc->Env->Prop
def aP (cs:List Value) (off:Nat) (vs:List Value):List Value:=cs.take off++vs++cs.drop (off+vs.length)
structure Fit (k:IntKind) (n:Int) (K:Int->Prop):Prop where
 out:K (k.wrap n)
structure nP (n:Int) (K:Prop):Prop where
 ne:n≠0
 out:K
structure OA (i:Int) (n:Int) (K:Prop):Prop where
 lo:0<=i
 hi:i<n
 out:K
structure Es (a:Option Addr) (i:Int) (n:Int) (K:Prop):Prop where
 ne:a≠none
 lo:0<=i
 hi:i<n
 out:K
structure jM (F:aD) (L:Loc) (a:Option Addr) (j n:Nat) (K:List Value->Prop):Prop where
 out:∃cs,cs.length=n/\(bV F a j cs\/(∃k v t sz m xs ad c,L.get k=some (.row v t sz m xs)/\a=some ad/\v=.slice (some ad) m c/\∀(i:Nat) (u:Value),cs[i]?=some u->xs[j+i]?=some u)\/n=0\/∃k g t bs o,L.get k=some (.box g t bs)/\t≠0/\a=some ⟨g,o,none⟩/\∀(i:Nat) (u:Value),cs[i]?=some u->bs[o+j+i]?=some u)/\K cs
structure QU (F:aD) (g:Nat) (K:Value->Prop):Prop where
 out:∃v t fr,F g=some (.cells #[v] t fr)/\K v
structure iS (F:aD) (a:Option Addr) (j n:Nat) (K:List Value->Prop):Prop where
 out:∃cs,cs.length=n/\(bV F a j cs\/n=0)/\K cs
structure Ah (L:Loc) (a:Option Addr) (j:Nat) (cs:List Value) (K:Loc->Prop):Prop where
 out:∃k v t sz m xs ad c,L.get k=some (.row v t sz m xs)/\a=some ad/\v=.slice (some ad) m c/\j+cs.length<=xs.length/\(∀u∈cs,u.oneCell'=true) /\
  K (L.set k (.row v t sz m (aP xs j cs)))
structure tq (F:aD) (L:Loc) (a:Option Addr) (j:Nat) (cs:List Value) (K:Loc->Prop):Prop where
 out:Ah L a j cs K\/(bV F a j cs/\(∀u∈cs,u.oneCell'=true)/\K L)
def Loc.sub (L:Loc):List Nat->Option (List Own)
 | []=>some []
 | k::ks=>match L.get k,Loc.sub L ks with
  | some o,some l=>some (o::l)
  | _,_=>none
def Loc.ZB (L:Loc):List Nat->Loc
 | []=>L
 | k::ks=>Loc.ZB (L.del k) ks
def Loc.puts (L:Loc):List Nat->List Own->Loc
 | k::ks,o::l=>Loc.puts (L.set k o) ks l
 | _,_=>L
structure dH (P:Program) (f:Nat) (args:List Value) (F:aD) (L:Loc) (K:aD->Loc->Value->Prop):Prop where
 out:∃(ks ko:List Nat) (Lin:List Own) (R:aD->List Own->Value->Prop),L.sub ks=some Lin/\ks.Nodup/\ko.Nodup/\(∀k,k∈ko->k∈ks\/L.get k=none)/\CallsA P f args.toArray F Lin R /\
  ∀v F' Lo,F.le F'->R F' Lo v->ko.length=Lo.length /\
   (∀k g t cs,k∈ks->L.get k=some (.box g t cs)->∃cs',Loc.get ((L.ZB ks).puts ko Lo) k=some (.box g t cs')) /\
   K F' ((L.ZB ks).puts ko Lo) v
def Real (F:aD) (L:Loc):Prop:=∃w,St F L w
inductive eI (P:Program) (f:Nat) (args:List Value) (F:aD) (L:Loc) (d:Option Nat) (K:aD->Loc->Value->Prop):Prop
 | frz (R:aD->List Own->Value->Prop) (h:CallsA P f args.toArray F [] R) (k:∀v F' Lo,F.le F'->R F' Lo v->Lo=[]/\(Real F' L->K F' L v))
 | own (R:aD->List Own->Value->Prop) (k:Nat) (h:CallsA P f args.toArray F [] R) (hd:d=some k) (hk:L.get k=none)
   (kk:∀v F' Lo,F.le F'->R F' Lo v->∃o,Lo=[o]/\(Real F' (L.set k o)->K F' (L.set k o) v))
 | row (R:aD->List Own->Value->Prop) (kr:Nat) (rv:Value) (t:TypeId) (sz n:Nat) (xs:List Value) (h:CallsA P f args.toArray F [.row rv t sz n xs] R) (hk:L.get kr=some (.row rv t sz n xs))
   (kk:∀v F' Lo,F.le F'->R F' Lo v->Lo=[]/\(Real F' (L.set kr (.row (.slice none 0 0) t sz 0 []))->K F' (L.set kr (.row (.slice none 0 0) t sz 0 [])) v))
 | lent (R:aD->Value->Prop) (kr:Nat) (rv:Value) (t:TypeId) (sz n:Nat) (xs:List Value) (h:CallsA P f args.toArray F [.row rv t sz n xs] (fun F' Lo v=>Lo=[.row rv t sz n xs]/\R F' v)) (hk:L.get kr=some (.row rv t sz n xs))
   (kk:∀v F',F.le F'->R F' v->Real F' L->K F' L v)
structure Et (F:aD) (L:Loc) (e:TypeId) (sz bytes:Nat) (s x:Value) (K:Loc->Value->Prop):Prop where
 out:∃(kd:Nat) (n:Nat) (xs:List Value) (m:Nat) (news:List Value),
  (L.get kd=some (.row s e sz n xs)\/(L.get kd=none/\n=0/\xs=[]/\s=.slice none 0 0)\/(L.get kd=none/\∃ad,s=.slice (some ad) n n/\0<m/\xs.length=n*sz/\(bV F (some ad) 0 xs\/(n=0/\xs=[])))) /\
  (∃a c,x=.slice a m c/\news.length=m*sz/\(bV F a 0 news\/(m=0/\news=[]) \/
    ∃k v t sz' m' ys ad c',L.get k=some (.row v t sz' m' ys)/\a=some ad/\v=.slice (some ad) m' c'/\∀(i:Nat) (u:Value),news[i]?=some u->ys[i]?=some u)) /\
  (∀u∈news,u.oneCell'=true)/\n+m<=maxLen/\(n+m)*bytes<=140737488355328 /\
  ∀v,(∃a c,v=.slice a (n+m) c/\(a=none->n+m=0))->K (L.set kd (.row v e sz (n+m) (xs++news))) v
structure qe (F:aD) (L:Loc) (d:Option Nat) (e:TypeId) (sz bytes:Nat) (s x:Value) (K:Loc->Value->Prop):Prop where
 out:∃(kd:Nat) (n:Nat) (xs:List Value) (m:Nat) (news:List Value),
  (L.get kd=some (.row s e sz n xs)\/(d=some kd/\L.get kd=none/\n=0/\xs=[]/\s=.slice none 0 0) \/
   (d=some kd/\L.get kd=none/\∃ad,s=.slice (some ad) n n/\0<m/\xs.length=n*sz/\(bV F (some ad) 0 xs\/(n=0/\xs=[])))) /\
  (∃a c,x=.slice a m c/\news.length=m*sz/\(bV F a 0 news\/(m=0/\news=[]))) /\
  (∀u∈news,u.oneCell'=true)/\n+m<=maxLen/\(n+m)*bytes<=140737488355328 /\
  ∀v,(∃a c,v=.slice a (n+m) c/\(a=none->n+m=0))->Real F (L.set kd (.row v e sz (n+m) (xs++news)))->K (L.set kd (.row v e sz (n+m) (xs++news))) v
structure OB (L:Loc) (e:TypeId) (s:Value) (t:ByteArray) (K:Loc->Value->Prop):Prop where
 out:∃(kd:Nat) (n:Nat) (xs:List Value),
  (L.get kd=some (.row s e 1 n xs)\/(L.get kd=none/\n=0/\xs=[]/\s=.slice none 0 0)) /\
  n+t.size<=maxLen/\(n+t.size)<=140737488355328 /\
  ∀v,(∃a c,v=.slice a (n+t.size) c/\(a=none->n+t.size=0))->K (L.set kd (.row v e 1 (n+t.size) (xs++t.data.toList.map fun b=>Value.int .u8 b.toNat))) v
structure Hg (L:Loc) (e:TypeId) (bytes:Nat) (ki:IntKind) (s:Value) (m:Nat) (K:Loc->Value->Prop):Prop where
 out:∃(kd:Nat) (n:Nat) (xs:List Value),
  (L.get kd=some (.row s e 1 n xs)\/(L.get kd=none/\n=0/\xs=[]/\s=.slice none 0 0)) /\
  n+m<=maxLen/\(n+m)*bytes<=140737488355328 /\
  ∀v,(∃a c,v=.slice a (n+m) c/\(a=none->n+m=0))->K (L.set kd (.row v e 1 (n+m) (xs++List.replicate m (.int ki 0)))) v
structure Ai (F:aD) (L:Loc) (e:TypeId) (sz:Nat) (d x:Value) (K:Loc->Nat->Prop):Prop where
 out:(∃(k n:Nat) (v:Value) (nr:Nat) (xs:List Value) (ad:Addr) (cr cd j m:Nat) (a:Option Addr) (c:Nat) (news:List Value),
  L.get k=some (.row v e sz nr xs)/\v=.slice (some ad) nr cr/\d=.slice (some (ad.add (j*sz))) n cd/\j+n<=nr /\
  x=.slice a m c/\news.length=(min m n)*sz/\(bV F a 0 news\/(min m n=0/\news=[]))/\(∀u∈news,u.oneCell'=true) /\
  K (L.set k (.row v e sz nr (aP xs (j*sz) news))) (min m n)) \/
  ∃(da:Option Addr) (n cd:Nat) (a:Option Addr) (m c:Nat),d=.slice da n cd/\x=.slice a m c/\min m n=0/\K L 0
structure KL (L:Loc) (e:TypeId) (d:Value) (t:ByteArray) (K:Loc->Nat->Prop):Prop where
 out:∃(k n:Nat) (v:Value) (nr:Nat) (xs:List Value) (ad:Addr) (cr cd j:Nat),
  L.get k=some (.row v e 1 nr xs)/\v=.slice (some ad) nr cr/\d=.slice (some (ad.add j)) n cd/\j+n<=nr /\
  K (L.set k (.row v e 1 nr (aP xs j ((t.data.toList.take n).map fun b=>Value.int .u8 b.toNat)))) (min t.size n)
structure Aj (cs:List Value) (K:List UInt8->Prop):Prop where
 out:∃bs:List UInt8,cs=bs.map (fun b=>Value.int .u8 b.toNat)/\K bs
structure SZ (L:Loc) (a:Option Addr) (n:Nat) (K:List UInt8->Prop):Prop where
 out:∃k t c,∃bs:List UInt8,L.get k=some (.row (.slice a n c) t 1 n (bs.map (fun b=>Value.int .u8 b.toNat)))/\bs.length=n/\(a=none->n=0)/\K bs
def nC:List Value->Bool
 | .tuple _::_=>false
 | _=>true
def fZ:Bool->Value->Value->Option Bool
 | false,.int .i64 a,.int .i64 b=>some (decide (a=b))
 | true,.string a,.string b=>some (decide (a.data.toList=b.data.toList))
 | _,_,_=>none
def mN (str:Bool) (key:Value):List Value->Nat->Option (Option (Nat×Value))
 | [],_=>some none
 | .agg ⟨[k,v]⟩::l,i=>match fZ str key k with
  | some true=>some (some (i,v))
  | some false=>mN str key l (i+1)
  | none=>none
 | _::_,_=>none
def wC (str:Bool) (key val:Value):List Value->Option (List Value)
 | []=>some [.agg #[key,val]]
 | .agg ⟨[k,v]⟩::l=>match fZ str key k with
  | some true=>some (.agg #[key,val]::l)
  | some false=>match wC str key val l with | some l'=>some (.agg #[k,v]::l') | none=>none
  | none=>none
 | _::_=>none
structure BB (L:Loc) (g:Nat) (K:Nat->List Value->Prop):Prop where
 out:∃k cs,L.get k=some (.box g 0 cs)/\nC cs=true/\K k cs
structure Eu (str:Bool) (cs:List Value) (key:Value) (ok:Bool) (z:Value) (K:Value->Prop):Prop where
 out:(∃i v,mN str key cs 0=some (some (i,v))/\K (match ok with | true=>.tuple #[v,.bool true] | false=>v))\/(mN str key cs 0=some none/\K (match ok with | true=>.tuple #[z,.bool false] | false=>z))
structure OC (str:Bool) (cs:List Value) (key val:Value) (K:List Value->Prop):Prop where
 isKey:fZ str key key=some true
 out:∃cs',wC str key val cs=some cs'/\K cs'
structure OD (L:Loc) (k gi g n:Nat) (seen:List Value) (K:Loc->Value->Prop):Prop where
 out:∃km cs,L.get km=some (.box g 0 cs)/\nC cs=true/\cs.length=n/\(∀j e,cs[j]?=some e->j∉seen.map jw->K (L.set k (.box gi 0 (.tuple #[.map (some g),.int .i64 n]::(seen++[.int .i64 j])))) (.tuple #[.bool true,(gR e j).key,(gR e j).val])) /\
  ((∀j,j<n->j∈seen.map jw)->K L (.tuple #[.bool false]))
structure KM (L:Loc) (g n:Nat) (seen:List Value) (K:Value->Prop):Prop where
 out:∃km cs j e,L.get km=some (.box g 0 cs)/\nC cs=true/\cs.length=n/\seen.getLast?=some (.int .i64 (.ofNat j))/\cs[j]?=some e/\K (.tuple #[(gR e j).key,(gR e j).val])
structure OE (F:aD) (mv:Value) (n:Int) (K:Int->Bool->Prop):Prop where
 out:∃k r b,jK k F mv/\vR k n=some (r,b)/\K r b
structure ur (n c:Int) (bytes:Nat) (K:Nat->Prop):Prop where
 lo:0<=n
 le:n<=c
 hi:c.toNat*bytes<=140737488355328
 max:c.toNat<=maxLen
 out:K n.toNat
structure nD (l h:Int) (c:Nat) (K:Nat->Nat->Prop):Prop where
 lo:0<=l
 le:l<=h
 hi:h<=c
 out:K l.toNat h.toNat
abbrev wD:Bool->Prop->Prop->Prop
 | true,A,_=>A
 | false,_,B=>B
def aJ:Value->List Value
 | .agg cs=>cs.toList
 | v=>[v]
def bq (L:Loc) (ρ:Env):List X->List Value
 | []=>[]
 | x::xs=>val L ρ x::bq L ρ xs
def cellsOf (L:Loc) (ρ:Env):List X->List Value
 | []=>[]
 | x::xs=>aJ (val L ρ x)++cellsOf L ρ xs
def gO (agg:Bool) (cs:List Value):Value :=
 match agg,cs with
 | true,cs=>.agg cs.toArray
 | false,[v]=>v
 | false,_=>undef
def fM:List Value->Nat->Bool
 | [],0=>true
 | _::l,n+1=>fM l n
 | _,_=>false
def jg (t:TypeId) (l:List Value) (n:Nat):Bool:=match Nat.beq t 0 with | true=>false | false=>fM l n
def fN (L:Loc) (ρ:Env) (sz:Nat):List X->Bool
 | []=>true
 | x::xs=>match fM (aJ (val L ρ x)) sz with | true=>fN L ρ sz xs | false=>false
def jA:List Value->Bool
 | []=>true
 | v::l=>match v.oneCell' with | true=>jA l | false=>false
def lm:Bool->Bool->Bool
 | true,b=>!b
 | false,b=>b
def rO (a b:ByteArray):Bool:=decide (a.data.toList=b.data.toList)
def Nx (a b:ByteArray):Bool:=Op.bytesLess a.data.toList b.data.toList
def built (L:Loc) (ρ:Env):List Value->List (Nat×Nat×X)->Option (List Value)
 | zs,[]=>some zs
 | zs,(off,n,x)::ps=>match fM (aJ (val L ρ x)) n with
  | true=>built L ρ (aP zs off (aJ (val L ρ x))) ps
  | false=>none
def Ny (mx:Bool):Int->List SV->Option Int
 | a,[]=>some a
 | a,.v (.int _ b)::l=>Ny mx (match mx with | true=>if b>a then b else a | false=>if b<a then b else a) l
 | _,_=>none
def gj (a:Option Addr) (c l h sz:Nat):Value:=.slice (if c=l then a else a.map (·.add (l*sz))) (h-l) (c-l)
def jI (ρ:Env) (d:Int):Option X->Option Int
 | none=>some d
 | some x=>match ev ρ x with | .v (.int _ i)=>some i | _=>none
def mO:Value->Nat
 | .int _ m=>m.toNat
 | _=>0
def tu (b:Nat):Value->Bool
 | .int _ m=>Nat.ble (m.toNat*b) 140737488355328&&Nat.ble m.toNat 9223372036854775807&&decide (0<=m)
 | _=>false
theorem BD {b:Nat}{v:Value}(h:tu b v=true):∃k m,v=.int k m/\0<=m/\mO v=m.toNat/\m.toNat*b<=140737488355328/\m.toNat<=maxLen:=by
 cases v<;>simp only[tu] at h<;>try (cases h;done)
 rename_i k m;simp only[aaj,aaU] at h;exact⟨k,m,rfl,h.2,rfl,aav h.1.1,aav h.1.2⟩
theorem FO {b:Nat}{v:Value}(h:tu b v=true):mO v<=maxLen:=by
 obtain⟨k,m,rfl,_,e,_,a⟩:=BD h;rw[e];exact a
def binI (op:BinOp) (k:IntKind) (a b:Int) (K:Value->Prop):Prop :=
 match op with
 | .add=>Fit k (a+b) fun n=>K (.int k n)
 | .sub=>Fit k (a-b) fun n=>K (.int k n)
 | .mul=>Fit k (a*b) fun n=>K (.int k n)
 | .quo=>nP b (Fit k (a.tdiv b) fun n=>K (.int k n))
 | .rem=>nP b (K (.int k (a.tmod b)))
 | .and=>K (.int k (k.wrap (BitVec.ofInt k.bits a &&& BitVec.ofInt k.bits b).toNat))
 | .or=>K (.int k (k.wrap (BitVec.ofInt k.bits a ||| BitVec.ofInt k.bits b).toNat))
 | .xor=>K (.int k (k.wrap (BitVec.ofInt k.bits a ^^^ BitVec.ofInt k.bits b).toNat))
 | .andNot=>K (.int k (k.wrap (BitVec.ofInt k.bits a &&& ~~~ BitVec.ofInt k.bits b).toNat))
 | .eql=>K (.bool (decide (a=b)))
 | .neq=>K (.bool (!decide (a=b)))
 | .lss=>K (.bool (decide (a<b)))
 | .leq=>K (.bool (decide (a<=b)))
 | .gtr=>K (.bool (decide (b<a)))
 | .geq=>K (.bool (decide (b<=a)))
 | _=>False
def shI (op:BinOp) (k:IntKind) (a b:Int) (K:Value->Prop):Prop :=
 match op with
 | .shl=>0<=b/\Fit k (a*2 ^ (min b.toNat k.bits)) fun n=>K (.int k n)
 | .shr=>0<=b/\K (.int k (a.fdiv (2 ^ (min b.toNat k.bits))))
 | _=>False
def binS (op:BinOp) (a b:ByteArray) (K:Value->Prop):Prop :=
 match op with
 | .add=>((a.size+b.size:Nat):Int)<=IntKind.i64.max/\K (.string (a++b))
 | .eql=>K (.bool (rO a b))
 | .neq=>K (.bool (!rO a b))
 | .lss=>K (.bool (Nx a b))
 | .geq=>K (.bool (!Nx a b))
 | _=>False
def qf:IntKind->IntKind->Bool
 | .i64,.i64=>true | .u8,.u8=>true | .u64,.u64=>true | .i32,.i32=>true | .u16,.u16=>true | .u32,.u32=>true | .i8,.i8=>true | .i16,.i16=>true
 | _,_=>false
def Hh:BinOp->Bool
 | .shl | .shr=>true
 | _=>false
def jh:List Bool->List Value->List Value->Bool->Option Bool
 | [],[],[],c=>some c
 | true::ks,.int k a::l,.int e b::d,c=>match qf k e with | true=>jh ks l d (c&&decide (a=b)) | false=>none
 | false::ks,.bool a::l,.bool b::d,c=>jh ks l d (c&&decide (a=b))
 | _,_,_,_=>none
def aL (o:eP) (F:aD) (L:Loc) (ρ:Env) (V:SV->Prop):Prop :=
 match o with
 | .mov x=>V (ev ρ x)
 | .pick c a b=>match ev ρ c with
  | .v (.bool true)=>V (ev ρ a)
  | .v (.bool false)=>V (ev ρ b)
  | _=>False
 | .build zs ps=>match built L ρ zs ps with
  | some cs=>V (.v (.agg cs.toArray))
  | none=>False
 | .load agg n x=>match ev ρ x with
  | .own k off=>match L.get k with
   | some (.box _ t cs)=>match jg t ((cs.drop off).take n) n with
    | true=>V (.v (gO agg ((cs.drop off).take n)))
    | false=>False
   | _=>False
  | .el a j=>jM F L a j n fun cs=>V (.v (gO agg cs))
  | .v (.pointer (some a))=>jM F L (some a) 0 n fun cs=>V (.v (gO agg cs))
  | _=>False
 | .loadR agg n x=>match ev ρ x with
  | .own k off=>match L.get k with
   | some (.box _ t cs)=>match jg t ((cs.drop off).take n) n with
    | true=>V (.v (gO agg ((cs.drop off).take n)))
    | false=>False
   | _=>False
  | .el a j=>jM F L a j n fun cs=>V (.v (gO agg cs))
  | .v (.pointer (some a))=>jM F L (some a) 0 n fun cs=>V (.v (gO agg cs))
  | _=>False
 | .nilck x=>match ev ρ x with
  | .own k off=>V (.own k off)
  | .el a j=>a≠none/\V (.el a j)
  | .v (.pointer (some a))=>V (.v (.pointer (some a)))
  | .v (.func (.func f) fi ca)=>V (.v (.func (.func f) fi ca))
  | .v (.func (.method nm) fi ca)=>match fi.toList with
   | [.iface t u]=>Nv FN t nm=true/\V (.v (.func (.method nm) fi ca))
   | _=>False
  | _=>False
 | .mkmv nm x=>match ev ρ x with
  | .v v=>V (.v (.func (.method nm) #[v] #[]))
  | _=>False
 | .bin op x y=>match ev ρ x,ev ρ y with
  | .v (.int k a),.v (.int p b)=>match Hh op with
   | true=>shI op k a b fun v=>V (.v v)
   | false=>match qf k p with
    | true=>binI op k a b fun v=>V (.v v)
    | false=>False
  | .v (.string a),.v (.string b)=>binS op a b fun v=>V (.v v)
  | _,_=>False
 | .eqB neg x y=>match ev ρ x,ev ρ y with
  | .v (.bool a),.v (.bool b)=>V (.v (.bool (lm neg (decide (a=b)))))
  | _,_=>False
 | .eqP neg x y=>match ev ρ x,ev ρ y with
  | .own _ _,.v (.pointer none)=>V (.v (.bool (lm neg false)))
  | .el (some _) _,.v (.pointer none)=>V (.v (.bool (lm neg false)))
  | .v (.pointer a),.v (.pointer none)=>V (.v (.bool (lm neg a.isNone)))
  | _,_=>False
 | .eqS neg x y=>match ev ρ x,ev ρ y with
  | .v (.slice a _ _),.v (.slice none _ _)=>V (.v (.bool (lm neg a.isNone)))
  | _,_=>False
 | .eqF neg x y=>match ev ρ x,ev ρ y with
  | .v .nilFunc,.v .nilFunc=>V (.v (.bool (lm neg true)))
  | .v (.func _ _ _),.v .nilFunc=>V (.v (.bool (lm neg false)))
  | _,_=>False
 | .eqN neg x=>match ev ρ x with
  | .v .nilIface=>V (.v (.bool (lm neg true)))
  | .v (.iface _ _)=>V (.v (.bool (lm neg false)))
  | _=>False
 | .tas t z x=>match ev ρ x with
  | .v .nilIface=>V (.v (.tuple #[z,.bool false]))
  | .v (.iface d u)=>match Nat.beq d t with
   | true=>V (.v (.tuple #[u,.bool true]))
   | false=>V (.v (.tuple #[z,.bool false]))
  | _=>False
 | .eqA neg ks x y=>match ev ρ x,ev ρ y with
  | .v (.agg cs),.v (.agg ds)=>match jh ks cs.toList ds.toList true with
   | some b=>V (.v (.bool (lm neg b)))
   | none=>False
  | _,_=>False
 | .un op x=>match op,ev ρ x with
  | .not,.v (.bool b)=>V (.v (.bool (!b)))
  | .neg,.v (.int k n)=>Fit k (0-n) fun m=>V (.v (.int k m))
  | .xor,.v (.int k n)=>V (.v (.int k (k.wrap (BitVec.ofInt k.bits (if k.signed then -1 else k.max) ^^^ BitVec.ofInt k.bits n).toNat)))
  | _,_=>False
 | .conv k x=>match ev ρ x with
  | .v (.int _ n)=>Fit k n fun m=>V (.v (.int k m))
  | _=>False
 | .b2s x=>match ev ρ x with
  | .v (.slice a n _)=>jM F L a 0 n fun cs=>Aj cs fun bs=>V (.v (.string ⟨bs.toArray⟩))
  | _=>False
 | .mkfn f fi ca=>V (.v (.func (.func f) (bq L ρ fi).toArray (bq L ρ ca).toArray))
 | .slc sz x lo hi=>match ev ρ x with
  | .v (.slice a n c)=>match jI ρ 0 lo,jI ρ n hi with
   | some l,some h=>nD l h c fun l h=>V (.v (gj a c l h sz))
   | _,_=>False
  | _=>False
 | .slcS x lo hi=>match ev ρ x with
  | .v (.string s)=>match jI ρ 0 lo,jI ρ s.size hi with
   | some l,some h=>nD l h s.size fun l h=>V (.v (.string (s.extract l h)))
   | _,_=>False
  | _=>False
 | .fieldA off x=>match ev ρ x with
  | .own k o=>V (.own k (o+off))
  | .el a j=>V (.el a (j+off))
  | .v (.pointer (some a))=>V (.el (some a) off)
  | _=>False
 | .fieldV agg off n x=>match ev ρ x with
  | .v (.agg cs)=>match fM ((cs.toList.drop off).take n) n with
   | true=>V (.v (gO agg ((cs.toList.drop off).take n)))
   | false=>False
  | _=>False
 | .idxA sz x i=>match ev ρ x,ev ρ i with
  | .v (.slice a n _),.v (.int _ i)=>Es a i n (V (.el a (i.toNat*sz)))
  | _,_=>False
 | .idxS x i=>match ev ρ x,ev ρ i with
  | .v (.string s),.v (.int _ i)=>OA i s.size (V (.v (.int .u8 ((s.data.toList.getD i.toNat 0).toNat))))
  | _,_=>False
 | .extr x i=>match ev ρ x with
  | .v (.tuple vs)=>match vs.toList[i]? with
   | some v=>V (.v v)
   | none=>False
  | _=>False
 | .len x=>match ev ρ x with
  | .v (.slice _ n _)=>V (.v (.int .i64 n))
  | _=>False
 | .lenS x=>match ev ρ x with
  | .v (.string s)=>V (.v (.int .i64 s.size))
  | _=>False
 | .capa x=>match ev ρ x with
  | .v (.slice _ _ c)=>V (.v (.int .i64 c))
  | _=>False
 | .mm mx args=>match args.map (ev ρ) with
  | .v (.int k a)::l=>match Ny mx a l with
   | some m=>V (.v (.int k m))
   | none=>False
  | _=>False
 | .loadD agg n x=>match ev ρ x with
  | .own k off=>match L.get k with
   | some (.box _ t cs)=>match jg t ((cs.drop off).take n) n with
    | true=>V (.v (gO agg ((cs.drop off).take n)))
    | false=>False
   | _=>False
  | .el a j=>iS F a j n fun cs=>V (.v (gO agg cs))
  | .v (.pointer (some a))=>iS F (some a) 0 n fun cs=>V (.v (gO agg cs))
  | _=>False
 | .gload g=>QU F g fun v=>V (.v v)
 | .loadF agg n x=>match ev ρ x with
  | .el a j=>iS F a j n fun cs=>V (.v (gO agg cs))
  | .v (.pointer (some a))=>iS F (some a) 0 n fun cs=>V (.v (gO agg cs))
  | _=>False
 | .mkif t x=>match ev ρ x with
  | .v v=>V (.v (.iface t v))
  | .el (some e) j=>V (.v (.iface t (.pointer (some (e.add j)))))
  | .own k off=>match L.get k with
   | some (.box g _ _)=>V (.v (.iface t (.pointer (some ⟨g,off,none⟩))))
   | _=>False
  | _=>False
 | .b2sD x=>match ev ρ x with
  | .v (.slice a n _)=>iS F a 0 n fun cs=>Aj cs fun bs=>V (.v (.string ⟨bs.toArray⟩))
  | _=>False
 | .b2sR x=>match ev ρ x with
  | .v (.slice a n _)=>SZ L a n fun bs=>V (.v (.string ⟨bs.toArray⟩))
  | _=>False
 | .mlook str ok z x i=>match ev ρ x with
  | .v (.map (some g))=>BB L g fun _ cs=>Eu str cs (val L ρ i) ok z fun v=>V (.v v)
  | _=>False
 | .mlen x=>match ev ρ x with
  | .v (.map (some g))=>BB L g fun _ cs=>V (.v (.int .i64 cs.length))
  | _=>False
 | .loadK key agg n x=>match ev ρ x with
  | .own k off=>match Nat.beq k key with
   | true=>match L.get k with
    | some (.box _ t cs)=>match jg t ((cs.drop off).take n) n with
     | true=>V (.v (gO agg ((cs.drop off).take n)))
     | false=>False
    | _=>False
   | false=>False
  | _=>False
 | _=>False
def evalOp (P:Program) (o:eP) (d:Option Nat) (F:aD) (L:Loc) (ρ:Env) (K:cS):Prop :=
 match o with
 | .mov x=>aL (.mov x) F L ρ fun v=>K F L (put d v ρ)
 | .pick c a b=>aL (.pick c a b) F L ρ fun v=>K F L (put d v ρ)
 | .box t x=>match d with
  | some k=>match L.get k with
   | none=>∀g,K F (L.set k (.box g t (aJ (val L ρ x)))) (put d (.own k 0) ρ)
   | some _=>False
  | none=>False
 | .boxF t x=>∀g F',F.le F'->F' g=some (.cells (aJ (val L ρ x)).toArray t (0,0))->K F' L (put d (.v (.pointer (some ⟨g,0,none⟩))) ρ)
 | .alloc t zs=>match d with
  | some k=>match L.get k with
   | none=>∀g,K F (L.set k (.box g t zs)) (put d (.own k 0) ρ)
   | some _=>False
  | none=>False
 | .mkF e n sz xs=>match fN L ρ sz xs with
  | true=>∀g F',F.le F'->F' g=some (.cells (cellsOf L ρ xs).toArray e (0,0))->K F' L (put d (.v (.slice (some ⟨g,0,none⟩) n n)) ρ)
  | false=>False
 | .mkR e n sz xs=>match fN L ρ sz xs,d with
  | true,some k=>match L.get k with
   | none=>∀g,K F (L.set k (.row (.slice (some ⟨g,0,none⟩) n n) e sz n (cellsOf L ρ xs))) (put d (.v (.slice (some ⟨g,0,none⟩) n n)) ρ)
   | some _=>False
  | _,_=>False
 | .build zs ps=>aL (.build zs ps) F L ρ fun v=>K F L (put d v ρ)
 | .load agg n x=>aL (.load agg n x) F L ρ fun v=>K F L (put d v ρ)
 | .store n a x=>match fM (aJ (val L ρ x)) n,jA (aJ (val L ρ x)),ev ρ a with
  | true,true,.own k off=>match L.get k with
   | some (.box g t cs)=>match jg t ((cs.drop off).take n) n with
    | true=>K F (L.set k (.box g t (aP cs off (aJ (val L ρ x))))) (put d (.v undef) ρ)
    | false=>False
   | _=>False
  | true,true,.el q j=>tq F L q j (aJ (val L ρ x)) fun L'=>K F L' (put d (.v undef) ρ)
  | true,true,.v (.pointer (some q))=>tq F L (some q) 0 (aJ (val L ρ x)) fun L'=>K F L' (put d (.v undef) ρ)
  | _,_,_=>False
 | .nilck x=>aL (.nilck x) F L ρ fun v=>K F L (put d v ρ)
 | .mkmv nm x=>aL (.mkmv nm x) F L ρ fun v=>K F L (put d v ρ)
 | .mkif t x=>aL (.mkif t x) F L ρ fun v=>K F L (put d v ρ)
 | .pan _=>False
 | .dead=>False
 | .bin op x y=>aL (.bin op x y) F L ρ fun v=>K F L (put d v ρ)
 | .eqB neg x y=>aL (.eqB neg x y) F L ρ fun v=>K F L (put d v ρ)
 | .eqP neg x y=>aL (.eqP neg x y) F L ρ fun v=>K F L (put d v ρ)
 | .eqS neg x y=>aL (.eqS neg x y) F L ρ fun v=>K F L (put d v ρ)
 | .eqF neg x y=>aL (.eqF neg x y) F L ρ fun v=>K F L (put d v ρ)
 | .eqN neg x=>aL (.eqN neg x) F L ρ fun v=>K F L (put d v ρ)
 | .tas t z x=>aL (.tas t z x) F L ρ fun v=>K F L (put d v ρ)
 | .eqA neg ks x y=>aL (.eqA neg ks x y) F L ρ fun v=>K F L (put d v ρ)
 | .un op x=>aL (.un op x) F L ρ fun v=>K F L (put d v ρ)
 | .conv k x=>aL (.conv k x) F L ρ fun v=>K F L (put d v ρ)
 | .b2s x=>aL (.b2s x) F L ρ fun v=>K F L (put d v ρ)
 | .s2b _ x=>match ev ρ x with
  | .v (.string s)=>∀g c F',F.le F'->bV F' (some ⟨g,0,none⟩) 0 (s.data.toList.map fun b=>Value.int .u8 b.toNat)->s.size<=c->K F' L (put d (.v (.slice (some ⟨g,0,none⟩) s.size c)) ρ)
  | _=>False
 | .mkfn f fi ca=>aL (.mkfn f fi ca) F L ρ fun v=>K F L (put d v ρ)
 | .makeS e sz bytes zs l c=>match ev ρ l,ev ρ c,d with
  | .v (.int _ n),.v (.int _ m),some k=>match L.get k with
   | none=>ur n m bytes fun n=>∀g,K F (L.set k (.row (.slice (some ⟨g,0,none⟩) n m.toNat) e sz n (List.replicate n zs).flatten)) (put d (.v (.slice (some ⟨g,0,none⟩) n m.toNat)) ρ)
   | some _=>False
  | _,_,_=>False
 | .slc sz x lo hi=>aL (.slc sz x lo hi) F L ρ fun v=>K F L (put d v ρ)
 | .slcS x lo hi=>aL (.slcS x lo hi) F L ρ fun v=>K F L (put d v ρ)
 | .fieldA off x=>aL (.fieldA off x) F L ρ fun v=>K F L (put d v ρ)
 | .fieldV agg off n x=>aL (.fieldV agg off n x) F L ρ fun v=>K F L (put d v ρ)
 | .idxA sz x i=>aL (.idxA sz x i) F L ρ fun v=>K F L (put d v ρ)
 | .idxS x i=>aL (.idxS x i) F L ρ fun v=>K F L (put d v ρ)
 | .extr x i=>aL (.extr x i) F L ρ fun v=>K F L (put d v ρ)
 | .call f args=>dH P f (bq L ρ args) F L fun F' L' v=>K F' L' (put d (.v v) ρ)
 | .callV f args=>match lZ P (ev ρ f) with
  | some (f,fi,ca)=>dH P f (fi++bq L ρ args++ca) F L fun F' L' v=>K F' L' (put d (.v v) ρ)
  | none=>match za P (ev ρ f) (bq L ρ args) with
   | some (f,args)=>dH P f args F L fun F' L' v=>K F' L' (put d (.v v) ρ)
   | none=>False
 | .gload g=>aL (.gload g) F L ρ fun v=>K F L (put d v ρ)
 | .look x i=>match ev ρ x,ev ρ i with
  | .v mv,.v (.int .i64 n)=>OE F mv n fun r b=>K F L (put d (.v (.tuple #[.int .i64 r,.bool b])) ρ)
  | _,_=>False
 | .mkmap=>match d with
  | some k=>match L.get k with
   | none=>∀g,K F (L.set k (.box g 0 [])) (put d (.v (.map (some g))) ρ)
   | some _=>False
  | none=>False
 | .mlook str ok z x i=>aL (.mlook str ok z x i) F L ρ fun v=>K F L (put d v ρ)
 | .mlen x=>aL (.mlen x) F L ρ fun v=>K F L (put d v ρ)
 | .mupd str x i v=>match ev ρ x with
  | .v (.map (some g))=>BB L g fun k cs=>OC str cs (val L ρ i) (val L ρ v) fun cs'=>K F (L.set k (.box g 0 cs')) (put d (.v undef) ρ)
  | _=>False
 | .mrange x=>match ev ρ x,d with
  | .v (.map (some g)),some k=>match L.get k with
   | none=>BB L g fun _ cs=>∀w,K F (L.set k (.box w 0 [.tuple #[.map (some g),.int .i64 cs.length]])) (put d (.own k 0) ρ)
   | some _=>False
  | _,_=>False
 | .mnext x=>match ev ρ x with
  | .own k 0=>match L.get k with
   | some (.box w 0 (.tuple ⟨[.map (some g),.int .i64 (.ofNat n)]⟩::h))=>OD L k w g n h fun L' v=>K F L' (put d (.v v) ρ)
   | _=>False
  | _=>False
 | .mentry x=>match ev ρ x with
  | .own k 0=>match L.get k with
   | some (.box w 0 (.tuple ⟨[.map (some g),.int .i64 (.ofNat n)]⟩::h))=>KM L g n h fun v=>K F L (put d (.v v) ρ)
   | _=>False
  | _=>False
 | .len x=>aL (.len x) F L ρ fun v=>K F L (put d v ρ)
 | .lenS x=>aL (.lenS x) F L ρ fun v=>K F L (put d v ρ)
 | .capa x=>aL (.capa x) F L ρ fun v=>K F L (put d v ρ)
 | .mm mx args=>aL (.mm mx args) F L ρ fun v=>K F L (put d v ρ)
 | .app e sz bytes _ s x=>match ev ρ s,ev ρ x with
  | .v sv,.v p=>Et F L e sz bytes sv p fun L1 v=>K F L1 (put d (.v v) ρ)
  | _,_=>False
 | .appX e sz bytes _ s x=>match ev ρ s,ev ρ x with
  | .v sv,.v p=>Et F L e sz bytes sv p fun L1 v=>Real F L1->K F L1 (put d (.v v) ρ)
  | _,_=>False
 | .appD e sz bytes _ s x=>match ev ρ s,ev ρ x with
  | .v sv,.v p=>qe F L d e sz bytes sv p fun L1 v=>K F L1 (put d (.v v) ρ)
  | _,_=>False
 | .appS e s x=>match ev ρ s,ev ρ x with
  | .v sv,.v (.string t)=>OB L e sv t fun L1 v=>K F L1 (put d (.v v) ρ)
  | _,_=>False
 | .appZ e bytes ki s x=>match ev ρ s,ev ρ x with
  | .v sv,.v (.int _ i)=>match i with
   | .ofNat m=>Hg L e bytes ki sv m fun L1 v=>K F L1 (put d (.v v) ρ)
   | .negSucc _=>False
  | _,_=>False
 | .copy e sz dd x=>match ev ρ dd,ev ρ x with
  | .v u,.v (.string t)=>KL L e u t fun L1 n=>K F L1 (put d (.v (.int .i64 n)) ρ)
  | .v u,.v p=>Ai F L e sz u p fun L1 n=>K F L1 (put d (.v (.int .i64 n)) ρ)
  | _,_=>False
 | .storeD n a x=>match fM (aJ (val L ρ x)) n,jA (aJ (val L ρ x)),ev ρ a with
  | true,true,.own k off=>match L.get k with
   | some (.box g t cs)=>match jg t ((cs.drop off).take n) n with
    | true=>K F (L.set k (.box g t (aP cs off (aJ (val L ρ x))))) (put d (.v undef) ρ)
    | false=>False
   | _=>False
  | _,_,_=>False
 | .storeK key n a x=>match fM (aJ (val L ρ x)) n,jA (aJ (val L ρ x)),ev ρ a with
  | true,true,.own k off=>match Nat.beq k key with
   | true=>match L.get k with
    | some (.box g t cs)=>match jg t ((cs.drop off).take n) n with
     | true=>K F (L.set k (.box g t (aP cs off (aJ (val L ρ x))))) (put d (.v undef) ρ)
     | false=>False
    | _=>False
   | false=>False
  | _,_,_=>False
 | .loadD agg n x=>aL (.loadD agg n x) F L ρ fun v=>K F L (put d v ρ)
 | .loadF agg n x=>aL (.loadF agg n x) F L ρ fun v=>K F L (put d v ρ)
 | .loadR agg n x=>aL (.loadR agg n x) F L ρ fun v=>K F L (put d v ρ)
 | .loadK key agg n x=>aL (.loadK key agg n x) F L ρ fun v=>K F L (put d v ρ)
 | .b2sD x=>aL (.b2sD x) F L ρ fun v=>K F L (put d v ρ)
 | .b2sR x=>aL (.b2sR x) F L ρ fun v=>K F L (put d v ρ)
 | .makeSD e sz n zs=>match d with
  | some k=>match L.get k,fM zs sz,Nat.ble n 9223372036854775807 with
   | none,true,true=>∀g,Real F (L.set k (.row (.slice (some ⟨g,0,none⟩) n n) e sz n (List.replicate n zs).flatten))->K F (L.set k (.row (.slice (some ⟨g,0,none⟩) n n) e sz n (List.replicate n zs).flatten)) (put d (.v (.slice (some ⟨g,0,none⟩) n n)) ρ)
   | _,_,_=>False
  | none=>False
 | .makeSV e sz b zs x=>match d with
  | some k=>match L.get k,fM zs sz,tu b (val L ρ x) with
   | none,true,true=>∀g,Real F (L.set k (.row (.slice (some ⟨g,0,none⟩) (mO (val L ρ x)) (mO (val L ρ x))) e sz (mO (val L ρ x)) (List.replicate (mO (val L ρ x)) zs).flatten))->K F (L.set k (.row (.slice (some ⟨g,0,none⟩) (mO (val L ρ x)) (mO (val L ρ x))) e sz (mO (val L ρ x)) (List.replicate (mO (val L ρ x)) zs).flatten)) (put d (.v (.slice (some ⟨g,0,none⟩) (mO (val L ρ x)) (mO (val L ρ x)))) ρ)
   | _,_,_=>False
  | none=>False
 | .copyX e sz dd x=>match ev ρ dd,ev ρ x with
  | .v u,.v p=>Ai F L e sz u p fun L1 n=>Real F L1->K F L1 (put d (.v (.int .i64 n)) ρ)
  | _,_=>False
 | .storeX n a x=>match fM (aJ (val L ρ x)) n,jA (aJ (val L ρ x)),ev ρ a with
  | true,true,.own k off=>match L.get k with
   | some (.box g t cs)=>match jg t ((cs.drop off).take n) n with
    | true=>Real F (L.set k (.box g t (aP cs off (aJ (val L ρ x)))))->K F (L.set k (.box g t (aP cs off (aJ (val L ρ x))))) (put d (.v undef) ρ)
    | false=>False
   | _=>False
  | true,true,.el q j=>Ah L q j (aJ (val L ρ x)) fun L'=>Real F L'->K F L' (put d (.v undef) ρ)
  | true,true,.v (.pointer (some q))=>Ah L (some q) 0 (aJ (val L ρ x)) fun L'=>Real F L'->K F L' (put d (.v undef) ρ)
  | _,_,_=>False
 | .boxD t x=>match d with
  | some k=>match L.get k with
   | none=>∀g,Real F (L.set k (.box g t (aJ (val L ρ x))))->K F (L.set k (.box g t (aJ (val L ρ x)))) (put d (.own k 0) ρ)
   | some _=>False
  | none=>False
 | .allocD t zs=>match d with
  | some k=>match L.get k with
   | none=>∀g,Real F (L.set k (.box g t zs))->K F (L.set k (.box g t zs)) (put d (.own k 0) ρ)
   | some _=>False
  | none=>False
 | .mkFD e n sz xs=>match fN L ρ sz xs with
  | true=>∀g F',F.le F'->F' g=some (.cells (cellsOf L ρ xs).toArray e (0,0))->Real F' L->K F' L (put d (.v (.slice (some ⟨g,0,none⟩) n n)) ρ)
  | false=>False
 | .callD f args=>eI P f (bq L ρ args) F L d fun F' L' v=>K F' L' (put d (.v v) ρ)
 | .callVD f args=>match lZ P (ev ρ f) with
  | some (f,fi,ca)=>eI P f (fi++bq L ρ args++ca) F L d fun F' L' v=>K F' L' (put d (.v v) ρ)
  | none=>False
 | .callO f args=>dH P f (bq L ρ args) F L fun F' L' v=>Real F' L'->K F' L' (put d (.v v) ρ)
 | .callVO f args=>match lZ P (ev ρ f) with
  | some (f,fi,ca)=>dH P f (fi++bq L ρ args++ca) F L fun F' L' v=>Real F' L'->K F' L' (put d (.v v) ρ)
  | none=>False
def Hj (F:aD) (v:Value) (sz n:Nat) (xs:List Value):Prop :=
 (v=.slice none 0 0/\n=0/\xs=[])\/∃a c,v=.slice (some a) n c/\bV F (some a) 0 xs/\n<=c
structure Nz (F:aD) (L:Loc) (k:Nat) (K:aD->Loc->Prop):Prop where
 out:∃v t sz n xs,L.get k=some (.row v t sz n xs)/\∀F',F.le F'->Hj F' v sz n xs->K F' (L.del k)
inductive aA where
 | op (dst:Option Nat) (o:eP) (guard:Option (Nat×Bool))
 | frz (k:Nat)
 | pc (dst:Option Nat) (o:eP) (guard:Option (Nat×Bool))
 deriving Inhabited
def wE (k g:Nat) (ρ:Env):Env:=fun j=>match ρ j with
 | .own b off=>match Nat.beq b k with | true=>.v (.pointer (some ⟨g,off,none⟩)) | false=>.own b off
 | .v x=>.v x
 | .el a i=>.el a i
def aY (P:Program):List aA->aD->Loc->Env->cS->Prop
 | [],F,L,ρ,K=>K F L ρ
 | .op d o none::a,F,L,ρ,K=>evalOp P o d F L ρ fun F' L' ρ'=>aY P a F' L' ρ' K
 | .op d o (some (s,c))::a,F,L,ρ,K=>match ρ s with
  | .v (.bool b)=>wD b
    (match c with
     | true=>evalOp P o d F L (put (some s) (.v (.bool true)) ρ) fun F' L' ρ'=>aY P a F' L' ρ' K
     | false=>aY P a F L (put d (.v undef) (put (some s) (.v (.bool true)) ρ)) K)
    (match c with
     | false=>evalOp P o d F L (put (some s) (.v (.bool false)) ρ) fun F' L' ρ'=>aY P a F' L' ρ' K
     | true=>aY P a F L (put d (.v undef) (put (some s) (.v (.bool false)) ρ)) K)
  | .v (.tuple _)=>aY P a F L (put d (.v undef) ρ) K
  | _=>False
 | .frz k::a,F,L,ρ,K=>match L.get k with
  | some (.box g t cs)=>∀F',F.le F'->F' g=some (lQ t cs)->aY P a F' (L.del k) (wE k g ρ) K
  | _=>Nz F L k fun F' L'=>aY P a F' L' ρ K
 | .pc _ _ _::_,_,_,_,_=>False
inductive aH where
 | skip
 | reg (ops:List aA)
 | regD (ops:List aA)
 | regX (ops:List aA)
 | seq (a b:aH)
 | cond (c:X) (a b:aH)
 | block (id:Nat) (c:aH)
 | loop (asg:List Nat) (c:aH)
 | exit (id:Nat)
 | ret
 deriving Inhabited
def ga:List Nat->Nat->Bool
 | [],_=>false
 | j::l,k=>match Nat.beq j k with | true=>true | false=>ga l k
def Loc.keeps:Loc->Loc->Prop
 | [],_=>True
 | (k,.box g t _)::l,L'=>(∃cs,L'.get k=some (.box g t cs))/\Loc.keeps l L'
 | (_,.row ..)::l,L'=>Loc.keeps l L'
structure BF (F:aD) (L:Loc) (v:Value) (R:aD->List Own->Value->Prop):Prop where
 out:∃ko Lo,L.sub ko=some Lo/\ko.Nodup/\R F Lo v
abbrev RV:=Nat×Option (Bool×Nat)
def lR (L:Loc) (ρ:Env):List RV->(List Value->Prop)->Prop
 | [],K=>K []
 | (t,none)::l,K=>lR L ρ l fun vs=>K (conc L (ρ t)::vs)
 | (t,some (agg,n))::l,K=>match ρ t with
  | .own k off=>match L.get k with
   | some (.box _ ty cs)=>match jg ty ((cs.drop off).take n) n with
    | true=>lR L ρ l fun vs=>K (gO agg ((cs.drop off).take n)::vs)
    | false=>False
   | _=>False
  | _=>False
def ia:List Value->Value
 | [v]=>v
 | l=>.tuple l.toArray
def tv:Nat->List SV->Env
 | _,[]=>fun _=>.v undef
 | k,v::l=>put (some k) v (tv (k+1) l)
def Loc.gives (L:Loc):Loc->Prop
 | []=>True
 | (k,o)::l=>(L.get k=some o\/(L.get k=none/\∃t sz,o=.row (.slice none 0 0) t sz 0 []))/\Loc.gives L l
def iy (asg:List Nat) (a:Nat->Value) (ρ:Env):Env:=fun j=>match ga asg j with | true=>.v (a j) | false=>ρ j
def puts:List Nat->List SV->Env->Env
 | k::ks,v::vs,ρ=>put (some k) v (puts ks vs ρ)
 | _,_,ρ=>ρ
def holds:List Nat->List SV->Env->Prop
 | k::ks,v::vs,ρ=>ρ k=v/\holds ks vs ρ
 | _,_,_=>True
structure OG (body:aD->Loc->Env->cS->Prop) (asg:List Nat) (F:aD) (L:Loc) (ρ:Env):Prop where
 out:∃(σ:Type) (x0:σ) (Inv:σ->aD->Prop) (ls:List Nat) (lv:σ->List Value) (Lf:σ->Loc) (μ:σ->Nat),
  Inv x0 F/\holds ls ((lv x0).map .v) ρ/\L.gives (Lf x0)/\(∀x,L.keeps (Lf x)) /\
  ∀x F' jk,F.le F'->Inv x F'->body F' (Lf x) (puts ls ((lv x).map .v) (iy asg jk ρ)) fun F'' L'' ρ'' =>
   ∃x',Inv x' F''/\holds ls ((lv x').map .v) ρ''/\L''.gives (Lf x')/\μ x'<μ x
def kG (P:Program):aH->(Nat->cS)->cS->cS->cS
 | .skip,_,_,N,F,L,ρ=>N F L ρ
 | .reg d,_,_,N,F,L,ρ=>aY P d F L ρ N
 | .regD d,_,_,N,F,L,ρ=>aY P d F L ρ N
 | .regX _,_,_,_,_,_,_=>False
 | .seq a b,E,R,N,F,L,ρ=>kG P a E R (fun F L ρ=>kG P b E R N F L ρ) F L ρ
 | .cond c a b,E,R,N,F,L,ρ=>match ev ρ c with
  | .v (.bool t)=>wD t (kG P a E R N F L ρ) (kG P b E R N F L ρ)
  | _=>False
 | .block id c,E,R,N,F,L,ρ=>kG P c (fun j=>match Nat.beq j id with | true=>N | false=>E j) R N F L ρ
 | .loop asg c,E,R,_,F,L,ρ=>OG (fun F L ρ K=>kG P c E R K F L ρ) asg F L ρ
 | .exit id,E,_,_,F,L,ρ=>E id F L ρ
 | .ret,_,R,_,F,L,ρ=>R F L ρ
theorem fP {a b:Nat}(h:Nat.beq a b=false):a≠b:=by intro e;subst e;simp at h
theorem Loc.Zz (L:Loc) (k:Nat) (o:Own) (j:Nat):(L.set k o).get j=if j=k then some o else L.get j:=by
 induction L with
 | nil =>
  simp only[Loc.set,Loc.get];cases h:Nat.beq k j with
  | true=>have:=xo h;simp[this]
  | false=>have:=fP h;simp;omega
 | cons p l b =>
  obtain⟨i,q⟩:=p;simp only[Loc.set];cases h:Nat.beq i k with
  | true =>
   have e:=xo h;subst e;simp only[Loc.get];cases a:Nat.beq i j with
   | true=>have:=xo a;simp[this]
   | false=>have:=fP a;simp;omega
  | false =>
   have c:=fP h;simp only[];cases d:Nat.ble i k with
   | true =>
    simp only[Loc.get];cases a:Nat.beq i j with
    | true=>have:=xo a;simp;omega
    | false=>simpa using b
   | false =>
    simp only[Loc.get];cases a:Nat.beq k j with
    | true=>have:=xo a;simp[this]
    | false =>
     have:=fP a;simp only[];rw[vz (by omega)]
theorem Loc.ZE (L:Loc) (k j:Nat):(L.del k).get j=if j=k then none else L.get j:=by
 induction L with
 | nil=>simp[Loc.del,Loc.get]
 | cons p l c =>
  obtain⟨i,q⟩:=p;simp only[Loc.del];cases h:Nat.beq i k with
  | true =>
   have e:=xo h;subst e;simp only[Loc.get,c]
   by_cases b:j=i
   ·simp[b]
   ·have:Nat.beq i j=false:=by cases a:Nat.beq i j with | true=>exact vv (xo a).symm b | false=>rfl
    simp[b,this]
  | false =>
   have d:=fP h;simp only[Loc.get];cases a:Nat.beq i j with
   | true=>have:=xo a;simp;omega
   | false=>simpa using c
def Loc.part (L L':Loc):Prop:=∀k o,L'.get k=some o->L.get k=some o
theorem St.part {F:aD}{L L':Loc}{w:World}(h:St F L w) (a:L.part L'):St F L' w :=
 ⟨h.frz,fun k o e=>h.own k o (a k o e),fun k o g e=>h.off k o g (a k o e),fun k b o o' g e c=>h.sep k b o o' g (a k o e) (a b o' c),h.glob⟩
theorem Own.ZN {w:World}{o:Own}(h:o.ok w) {g:Nat}(a:o.blk=some g):g<w.heap.size:=by
 cases o with
 | box b t cs =>
  simp only[Own.blk,yo] at a;subst a;exact(Array.getElem?_eq_some_iff.1 h).1
 | row v t sz n xs=>exact(World.ownsRow.lt h g a).2
theorem Own.ZS {w w':World}{o:Own}(h:o.ok w) (c:∀g,o.blk=some g->w'.heap[g]?=w.heap[g]?):o.ok w':=by
 cases o with
 | box g t cs=>exact(c g rfl).trans h
 | row v t sz n xs =>
  obtain⟨e,b⟩:=h;refine⟨e,?_⟩;rcases b with b | ⟨g,cap,a,rfl,hb,d,r⟩
  ·exact .inl b
  ·exact .inr ⟨g,cap,a,rfl,hb,(c g rfl).trans d,r⟩
theorem St.ZT {F:aD}{L:Loc}{w:World}(h:St F L w) {b:Nat}(hb:F b≠none):b<w.heap.size:=by
 cases e:F b with
 | none=>exact vv e hb
 | some o=>exact(Array.getElem?_eq_some_iff.1 (h.frz b o e)).1
theorem St.ZY {F:aD}{L:Loc}{w:World}(h:St F L w) {b:Nat}(hb:L.owns b):b<w.heap.size:=by
 obtain⟨k,o,e,a⟩:=hb;exact Own.ZN (h.own k o e) a
theorem St.keep {F:aD}{L:Loc}{w w':World}(h:St F L w) (a:∀b,b<w.heap.size->w'.heap[b]?=w.heap[b]?):St F L w':=by
 refine⟨fun b o e=>?_,fun k o e=>?_,h.off,h.sep,h.glob⟩
 ·have:=h.frz b o e;rw[a b (Array.getElem?_eq_some_iff.1 this).1];exact this
 ·exact Own.ZS (h.own k o e) fun g c=>a g (Own.ZN (h.own k o e) c)
theorem St.drew {F:aD}{L:Loc}{w:World}(h:St F L w):St F L w.drew:=h.keep fun _ _=>rfl
theorem St.put {F:aD}{L:Loc}{w:World}(h:St F L w) {k:Nat}{o:Own}(x:L.get k=none) (t:o.ok w)
  (q:∀g,o.blk=some g->F g=none/\¬L.owns g):St F (L.set k o) w:=by
 have a:∀j p,(L.set k o).get j=some p->(j=k/\p=o)\/(j≠k/\L.get j=some p):=by
  intro j p e;rw[Loc.Zz] at e;split at e
  ·rename_i d;exact .inl ⟨d,by injection e with e;exact e.symm⟩
  ·rename_i d;exact .inr ⟨d,e⟩
 refine⟨h.frz,fun j p e=>?_,fun j p g e c=>?_,fun j n p f g e v c b=>?_,h.glob⟩
 ·rcases a j p e with⟨_,rfl⟩ | ⟨_,e⟩
  ·exact t
  ·exact h.own j p e
 ·rcases a j p e with⟨_,rfl⟩ | ⟨_,e⟩
  ·exact(q g c).1
  ·exact h.off j p g e c
 ·rcases a j p e with⟨d,u⟩ | ⟨_,s⟩<;>rcases a n f v with⟨m,l⟩ | ⟨_,r⟩
  ·exact d.trans m.symm
  ·subst u;exact vv ⟨n,f,r,b⟩ (q g c).2
  ·subst l;exact vv ⟨j,p,s,c⟩ (q g b).2
  ·exact h.sep j n p f g s r c b
theorem St.turn {F:aD}{L:Loc}{w w':World}(h:St F L w) {k:Nat}{o o':Own}(n:L.get k=some o) (y:o'.ok w')
  (x:∀b,b<w.heap.size->o.blk≠some b->w'.heap[b]?=w.heap[b]?) (hb:∀g,o'.blk=some g->o.blk=some g\/w.heap.size<=g):St F (L.set k o') w':=by
 have c:∀j p,(L.set k o').get j=some p->(j=k/\p=o')\/(j≠k/\L.get j=some p):=by
  intro j p e;rw[Loc.Zz] at e;split at e
  ·rename_i l;exact .inl ⟨l,by injection e with e;exact e.symm⟩
  ·rename_i l;exact .inr ⟨l,e⟩
 refine⟨fun b p e=>?_,fun j p e=>?_,fun j p g e d=>?_,fun j r p q g e e' d f=>?_,h.glob⟩
 ·have:=h.frz b p e;rw[x b (Array.getElem?_eq_some_iff.1 this).1 (fun hb=>by have:=h.off k o b n hb;rw[this] at e;cases e)];exact this
 ·rcases c j p e with⟨_,rfl⟩ | ⟨l,e⟩
  ·exact y
  ·exact Own.ZS (h.own j p e) fun g d=>x g (Own.ZN (h.own j p e) d) fun a=>l (h.sep j k p o g e n d a)
 ·rcases c j p e with⟨_,rfl⟩ | ⟨_,e⟩
  ·rcases hb g d with a | v
   ·exact h.off k o g n a
   ·cases hF:F g with
    | none=>rfl
    | some _=>have:=h.ZT (b:=g) (by rw[hF];simp);omega
  ·exact h.off j p g e d
 ·rcases c j p e with⟨l,z⟩ | ⟨l,u⟩<;>rcases c r q e' with⟨m,s⟩ | ⟨m,t⟩
  ·exact l.trans m.symm
  ·subst z;rcases hb g d with a | v
   ·exact vv (h.sep r k q o g t n f a) m
   ·have:=Own.ZN (h.own r q t) f;omega
  ·subst s;rcases hb g f with a | v
   ·exact vv (h.sep j k p o g u n d a) l
   ·have:=Own.ZN (h.own j p u) d;omega
  ·exact h.sep j r p q g u t d f
theorem St.freeze {F:aD}{L:Loc}{w:World}(h:St F L w) {g:Nat}{o:Obj}(c:w.heap[g]?=some o) (d:¬L.owns g) :
  St (fun b=>if b=g then some o else F b) L w:=by
 refine⟨fun b p e=>?_,h.own,fun k p b e hb=>?_,h.sep,si.mono ?_ h.glob⟩
 ·split at e
  ·rename_i a;subst a;injection e with e;subst e;exact c
  ·exact h.frz b p e
 ·split
  ·rename_i a;subst a;exact vv ⟨k,p,e,hb⟩ d
  ·exact h.off k p b e hb
 ·intro b p e;simp only[];split
  ·rename_i a;subst a;rw[<-h.frz b p e,c]
  ·exact e
theorem aD.ZO {F:aD}{w:World}{L:Loc}(h:St F L w) {g:Nat}{o:Obj}(c:w.heap[g]?=some o):F.le (fun b=>if b=g then some o else F b):=by
 intro b p e;simp only[];split
 ·rename_i a;subst a;rw[<-h.frz b p e,c]
 ·exact e
theorem Step.refl (F:aD) (L:Loc) (w:World):Step F L w F L w :=
 ⟨aD.le_refl F,rfl,rfl,rfl,aaB _,fun _ _ _=>rfl,fun _ h=>.inl h,fun _ h=>.inl h⟩
theorem Step.trans {F F' F'':aD}{L L' L'':Loc}{w w' c:World}(h:Step F L w F' L' w') (k:Step F' L' w' F'' L'' c):Step F L w F'' L'' c:=by
 refine⟨aD.le_trans h.le k.le,k.os.trans h.os,k.tape.trans h.tape,k.output.trans h.output,aa1 h.size k.size,fun b hb e=>?_,fun b hb=>?_,fun b hb=>?_⟩
 ·rw[k.same b (Nat.lt_of_lt_of_le hb h.size) (fun d=>by rcases h.own b d with d | d;exact e d;omega)];exact h.same b hb e
 ·rcases k.frz b hb with a | a | a
  ·exact h.frz b a
  ·exact .inr (h.own b a)
  ·exact .inr (.inr (aa1 h.size a))
 ·rcases k.own b hb with a | a
  ·exact h.own b a
  ·exact .inr (aa1 h.size a)
theorem Step.mk' {F F':aD}{L L':Loc}{w w':World}(le:F.le F') (a:w.grownBy w' none) (frz:∀b,F' b≠none->F b≠none\/L.owns b\/w.heap.size<=b)
  (own:∀b,L'.owns b->L.owns b\/w.heap.size<=b):Step F L w F' L' w' :=
 ⟨le,a.os,a.tape,a.output,a.size,fun b hb _=>a.block b hb (by simp),frz,own⟩
theorem Loc.ZI {L:Loc}{k:Nat}{o:Own}{b:Nat}(h:(L.set k o).owns b):o.blk=some b\/L.owns b:=by
 obtain⟨j,p,e,hb⟩:=h;rw[Loc.Zz] at e;split at e
 ·injection e with e;subst e;exact .inl hb
 ·exact .inr ⟨j,p,e,hb⟩
theorem Loc.ZP {L:Loc}{k b:Nat}(h:(L.del k).owns b):L.owns b:=by
 obtain⟨j,p,e,hb⟩:=h;rw[Loc.ZE] at e;split at e
 ·cases e
 ·exact⟨j,p,e,hb⟩
theorem Loc.ZX (L:Loc) (k:Nat):L.part (L.del k):=by
 intro j o e;rw[Loc.ZE] at e;split at e
 ·cases e
 ·exact e
theorem bV.mono {F G:aD}(h:F.le G) {a:Option Addr}{j:Nat}{cs:List Value}(c:bV F a j cs):bV G a j cs:=by
 obtain⟨l,b,t,f,e,k,d,m⟩:=c;exact⟨l,b,t,f,e,h _ _ k,d,m⟩
theorem cm {b o n:Nat}:(⟨b,o,none⟩:Addr).add n=⟨b,o+n,none⟩:=by
 unfold Addr.add;split<;>simp_all
theorem bV.cell {F:aD}{L:Loc}{w:World}(h:St F L w) {a:Option Addr}{j:Nat}{cs:List Value}(c:bV F a j cs) :
  ∃d,a=some d/\d.spot=none/\∀i v,cs[i]?=some v->w.cell? (d.add (j+i))=some v:=by
 obtain⟨d,n,t,p,e,m,f,l⟩:=c;refine⟨d,e,f,fun i v k=>?_⟩;obtain⟨b,o,q⟩:=d;simp only at f;subst f;rw[cm];have:=h.frz b _ m;simp only[World.cell?,this];simpa[Nat.add_assoc] using(l i v k).1
def bw:Operand->Option X
 | .tmp t=>some (.t t)
 | .const v=>some (.c v)
 | .func f=>some (.fn f)
 | .global _=>none
def gP:List Operand->Option (List X)
 | []=>some []
 | o::l=>match bw o,gP l with
  | some x,some xs=>some (x::xs)
  | _,_=>none
def qg:Option Operand->Option (Option X)
 | none=>some none
 | some o=>match bw o with | some x=>some (some x) | none=>none
def dM:TypeDesc->Bool
 | .struct _ | .array _ _=>true
 | _=>false
def QF (i:TypeInfo):Option (List Value):=match i.zero with | some z=>some z.cells.toList | none=>none
def oe (P:Program) (fs:Array Field):List (Nat×Operand)->Option (List (Nat×Nat×X))
 | []=>some []
 | (i,o)::l=>match fs[i]?,bw o,oe P fs l with
  | some f,some x,some ps=>match P.info? f.type with
   | some j=>some ((f.offset,j.size,x)::ps)
   | none=>none
  | _,_,_=>none
def zb:Operand->Option eP
 | .global g=>match vQ g with | some _=>some (.gload g) | none=>none
 | _=>none
def oQ (P:Program):List Field->Nat->Option (List Bool)
 | [],_=>some []
 | f::fs,k=>match Nat.beq f.offset k,decide (f.name="_"),P.underlying f.type with
  | true,false,some (.int _)=>match oQ P fs (k+1) with | some ks=>some (true::ks) | none=>none
  | true,false,some .bool=>match oQ P fs (k+1) with | some ks=>some (false::ks) | none=>none
  | _,_,_=>none
def wF:X->Bool
 | .c .nilIface=>true
 | _=>false
def iI (P:Program) (own:Bool) (o:Op):Option eP :=
 match o with
 | .move x | .assign x=>match bw x with | some x=>some (.mov x) | none=>none
 | .pick c a b=>match bw c,bw a,bw b with | some c,some a,some b=>some (.pick c a b) | _,_,_=>none
 | .box t x=>match bw x,decide (t=0) with | some x,false=>some (match own with | true=>.boxF t x | false=>.box t x) | _,_=>none
 | .alloc t=>match P.info? t,decide (t=0) with
  | some i,false=>match QF i with | some z=>some (.alloc t z) | none=>none
  | _,_=>none
 | .buildSlice t n ps=>match P.underlying t,gP (ps.toList.map (·.2)) with
  | some (.slice e),some xs=>match P.info? e with
   | some i=>match decide (ps.toList.map (·.1)=List.range n),decide (n*i.size<=2 ^ 24/\n<=2 ^ 24),i.zero with
    | true,true,some _=>some (match own with | true=>.mkR e n i.size xs | false=>.mkF e n i.size xs)
    | _,_,_=>none
   | none=>none
  | _,_=>none
 | .build t ps=>match P.underlying t,P.info? t with
  | some (.struct fs),some i=>match QF i,oe P fs ps.toList with
   | some z,some l=>match fs.toList.all (fun f=>(P.info? f.type).isSome),l.all (fun p=>Nat.ble (p.1+p.2.1) z.length) with
    | true,true=>some (.build z l)
    | _,_=>none
   | _,_=>none
  | _,_=>none
 | .lookup t x i ok=>match KJ with
  | true=>match P.underlying t,bw x,bw i,ok with
   | some (.map key e),some x,some i,true=>match P.underlying key,P.info? e with
    | some (.int .i64),some j=>match j.zero with
     | some (.int .i64 0)=>some (.look x i)
     | _=>none
    | _,_=>none
   | _,_,_,_=>none
  | false=>match P.underlying t,bw x,bw i with
   | some (.map key e),some x,some i=>match P.underlying key,P.info? e with
    | some (.int .i64),some j=>match j.zero with
     | some z=>some (.mlook false ok z x i)
     | none=>none
    | some .string,some j=>match j.zero with
     | some z=>some (.mlook true ok z x i)
     | none=>none
    | _,_=>none
   | _,_,_=>none
 | .makeMap _ none=>some .mkmap
 | .mapUpdate t x i v | .insert t x i v=>match P.underlying t,bw x,bw i,bw v with
  | some (.map key _),some x,some i,some v=>match P.underlying key with
   | some (.int .i64)=>some (.mupd false x i v)
   | some .string=>some (.mupd true x i v)
   | _=>none
  | _,_,_,_=>none
 | .range t x=>match P.underlying t,bw x with
  | some (.map _ _),some x=>some (.mrange x)
  | _,_=>none
 | .next x false=>match bw x with | some x=>some (.mnext x) | none=>none
 | .entry x=>match bw x with | some x=>some (.mentry x) | none=>none
 | .load t a=>match P.underlying t,P.info? t,bw a with
  | some d,some i,some x=>some (match dM d with | true=>.load true i.size x | false=>.load false 1 x)
  | some (.map _ _),some _,none=>zb a
  | some (.interface _),some _,none=>match zb a with | some s=>some s | none=>some .dead
  | some _,some _,none=>some .dead
  | _,_,_=>none
 | .store t a x=>match P.info? t,bw a,bw x with
  | some i,some a,some x=>some (.store i.size a x)
  | _,_,_=>none
 | .nilCheck x=>match bw x,Nw P with | some x,true=>some (.nilck x) | _,_=>none
 | .binOp op t x y _=>match P.underlying t,bw x,bw y with
  | some d,some x,some y=>match d,op with
   | .bool,.eql=>some (.eqB false x y)
   | .bool,.neq=>some (.eqB true x y)
   | .pointer _,.eql=>some (.eqP false x y)
   | .pointer _,.neq=>some (.eqP true x y)
   | .slice _,.eql=>some (.eqS false x y)
   | .slice _,.neq=>some (.eqS true x y)
   | .func ..,.eql=>some (.eqF false x y)
   | .func ..,.neq=>some (.eqF true x y)
   | .interface _,.eql=>match wF y with | true=>some (.eqN false x) | false=>none
   | .interface _,.neq=>match wF y with | true=>some (.eqN true x) | false=>none
   | .struct fs,.eql=>match oQ P fs.toList 0,P.stoodInHeld t,P.eqGuardType P.depth t with | some ks,false,false=>some (.eqA false ks x y) | _,_,_=>none
   | .struct fs,.neq=>match oQ P fs.toList 0,P.stoodInHeld t,P.eqGuardType P.depth t with | some ks,false,false=>some (.eqA true ks x y) | _,_,_=>none
   | .int _,_ | .string,_=>some (.bin op x y)
   | _,_=>none
  | _,_,_=>none
 | .unOp op _ x=>match bw x with | some x=>some (.un op x) | none=>none
 | .convert s t x=>match P.underlying s,P.underlying t,bw x with
  | some (.int _),some (.int k),some x=>some (.conv k x)
  | some (.slice e),some .string,some x=>match P.underlying e with
   | some (.int .u8)=>some (.b2s x)
   | _=>none
  | some .string,some (.slice e),some x=>match P.underlying e with
   | some (.int .u8)=>some (.s2b e x)
   | _=>none
  | _,_,_=>none
 | .makeFunc (.func f) fi ca=>match gP fi.toList,gP ca.toList with
  | some fi,some ca=>some (.mkfn f fi ca)
  | _,_=>none
 | .makeFunc (.method nm) fi ca=>match gP fi.toList,ca.toList with
  | some [x],[]=>some (.mkmv nm x)
  | _,_=>none
 | .makeFunc (.methodOf t nm) fi ca=>match fi.toList,ca.toList with
  | [],[]=>some (.mov (.c (.func (.methodOf t nm) #[] #[])))
  | _,_=>none
 | .makeSlice t l c=>match P.underlying t,bw l,bw c with
  | some (.slice e),some l,some c=>match P.info? e with
   | some i=>match i.zero with
    | some z=>match decide (z.cells.size=i.size),decide (0<i.size) with
     | true,true=>some (.makeS e i.size i.bytes z.cells.toList l c)
     | _,_=>none
    | none=>none
   | none=>none
  | _,_,_=>none
 | .slice t x lo hi none=>match P.underlying t,bw x,qg lo,qg hi with
  | some (.slice e),some x,some lo,some hi=>match P.info? e with
   | some i=>some (.slc i.size x lo hi)
   | none=>none
  | some .string,some x,some lo,some hi=>some (.slcS x lo hi)
  | _,_,_,_=>none
 | .fieldAddr t x f=>match P.underlying t,bw x with
  | some (.struct fs),some x=>match fs[f]? with
   | some f=>match P.info? f.type with
    | some i=>match decide (i.size=0) with | true=>none | false=>some (.fieldA f.offset x)
    | none=>none
   | none=>none
  | _,_=>none
 | .field t x f=>match P.underlying t,bw x with
  | some (.struct fs),some x=>match fs[f]? with
   | some f=>match P.underlying f.type,P.info? f.type with
    | some d,some i=>match dM d with
     | true=>some (.fieldV true f.offset i.size x)
     | false=>some (.fieldV false f.offset 1 x)
    | _,_=>none
   | none=>none
  | _,_=>none
 | .indexAddr t x i=>match P.underlying t,bw x,bw i with
  | some (.slice e),some x,some i=>match P.info? e with
   | some j=>some (.idxA j.size x i)
   | none=>none
  | _,_,_=>none
 | .index t x i=>match P.underlying t,bw x,bw i with
  | some .string,some x,some i=>some (.idxS x i)
  | _,_,_=>none
 | .makeInterface t x=>match P.underlying t,bw x with
  | some (.interface _),_=>none
  | some _,some x=>some (.mkif t x)
  | _,_=>none
 | .typeAssert x _ t true=>match P.underlying t,P.info? t,bw x with
  | some (.interface _),_,_=>none
  | some _,some i,some x=>match i.zero with | some z=>some (.tas t z x) | none=>none
  | _,_,_=>none
 | .panic x=>match bw x with | some x=>some (.pan x) | none=>none
 | .extract x i=>match bw x with | some x=>some (.extr x i) | none=>none
 | .call c=>match gP c.args.toList with
  | none=>none
  | some args=>match c.callee with
   | .value (.func f)=>match P.funcs[f]? with
    | some fn=>match fn.name == "runtime.NumGoroutine",fn.body.isSome with
     | false,true=>some (.call f args)
     | _,_=>none
    | none=>none
   | .value f=>match bw f with | some x=>some (.callV x args) | none=>none
   | .invoke (.tmp n) nm=>some (.callV (.mt nm n) args)
   | .invoke _ _=>none
   | .builtin b=>match b,args,c.argTypes.toList with
    | .len,[x],[t]=>match P.underlying t with
     | some (.slice _)=>some (.len x)
     | some .string=>some (.lenS x)
     | some (.map _ _)=>some (.mlen x)
     | _=>none
    | .cap,[x],[t]=>match P.underlying t with
     | some (.slice _)=>some (.capa x)
     | _=>none
    | .max,args,_=>some (.mm true args)
    | .min,args,_=>some (.mm false args)
    | .append,[s,x],[t,t']=>match P.underlying t,P.underlying t' with
     | some (.slice e),some (.slice _)=>match P.info? e with
      | some i=>match i.zero with
       | some z=>match decide (t=t'),decide (z.cells.size=i.size),decide (0<i.size) with
        | true,true,true=>some (.app e i.size i.bytes z.cells.toList s x)
        | _,_,_=>none
       | none=>none
      | none=>none
     | some (.slice e),some .string=>match P.info? e with
      | some i=>match i.zero with
       | some (.int .u8 z)=>match decide (z=0),decide (i.size=1),decide (i.bytes=1) with
        | true,true,true=>some (.appS e s x)
        | _,_,_=>none
       | _=>none
      | none=>none
     | some (.slice e),some (.int _)=>match P.info? e with
      | some i=>match i.zero with
       | some (.int kz z)=>match decide (z=0),decide (i.size=1) with
        | true,true=>some (.appZ e i.bytes kz s x)
        | _,_=>none
       | _=>none
      | none=>none
     | _,_=>none
    | .copy,[s,x],[t,t']=>match P.underlying t,P.underlying t' with
     | some (.slice e),some (.slice _)=>match P.info? e with
      | some i=>match decide (t=t'),decide (i.size=1) with
       | true,true=>some (.copy e i.size s x)
       | _,_=>none
      | none=>none
     | some (.slice e),some .string=>match P.info? e with
      | some i=>match decide (i.size=1) with
       | true=>some (.copy e i.size s x)
       | _=>none
      | none=>none
     | _,_=>none
    | _,_,_=>none
 | _=>none
structure aG (L:Loc) (ρ:Env) (a:Act):Prop where
 eq:∀t,a.tmps.getD t undef=conc L (ρ t)
 own:∀t k off,ρ t=.own k off->∃g ty cs,L.get k=some (.box g ty cs)
 el:∀t ad j,ρ t=.el ad j->ad≠none
theorem aI {y:Operand}{x:X}(h:bw y=some x) {L:Loc}{ρ:Env}{a:Act}(b:aG L ρ a):a.eval y=val L ρ x:=by
 cases y<;>simp only[bw,yo,reduceCtorEq] at h<;>subst h
 ·exact b.eq _
 ·rfl
 ·rfl
theorem og {y:Operand}{x:X}(h:bw y=some x) {L:Loc}{ρ:Env}{a:Act}(b:aG L ρ a) {k off:Nat}(e:ev ρ x=.own k off):∃g ty cs,L.get k=some (.box g ty cs):=by
 cases y<;>simp only[bw,yo,reduceCtorEq] at h<;>subst h
 ·exact b.own _ _ _ e
 ·cases e
 ·cases e
theorem q9 {y:Operand}{x:X}(h:bw y=some x) {L:Loc}{ρ:Env}{a:Act}(c:aG L ρ a) {b:Option Addr}{j:Nat}(e:ev ρ x=.el b j):b≠none:=by
 cases y<;>simp only[bw,yo,reduceCtorEq] at h<;>subst h
 ·exact c.el _ _ _ e
 ·cases e
 ·cases e
theorem fQ:∀{ys:List Operand}{xs:List X},gP ys=some xs->∀{L:Loc}{ρ:Env}{a:Act},aG L ρ a->ys.map a.eval=bq L ρ xs:=by
 intro ys
 induction ys with
 | nil=>intro xs h L ρ a b;simp only[gP,yo] at h;subst h;rfl
 | cons y ys e =>
  intro xs h L ρ a b;simp only[gP] at h;split at h
  ·rename_i x c f d;injection h with h
   subst h;simp only[aao,bq,aI f b,e d b]
  ·cases h
def bh (F:aD) (L:Loc) (w:World) (a:Act) (K:cS) (b:Act) (w':World):Prop :=
 ∃F' L' ρ',St F' L' w'/\aG L' ρ' b/\b.tmps.size=a.tmps.size/\b.defers=a.defers/\Step F L w F' L' w'/\K F' L' ρ'
theorem Hl (a:Act) (d:Option Nat) (v:Value) (b:∀k,d=some k->k<a.tmps.size) (t:Nat) :
  (a.put d v).tmps.getD t undef=match d with | some k=>if t=k then v else a.tmps.getD t undef | none=>a.tmps.getD t undef:=by
 cases d with
 | none=>rfl
 | some k =>
  have:=b k rfl;simp only[Act.put,aaF,Array.getElem?_setIfInBounds]
  by_cases h:t=k
  ·subst h;simp[this]
  ·rw[vz (by omega),vz h]
theorem put_eq (d:Option Nat) (x:SV) (ρ:Env) (t:Nat):put d x ρ t=match d with | some k=>if t=k then x else ρ t | none=>ρ t:=by
 cases d with
 | none=>rfl
 | some k =>
  simp only[put];cases h:Nat.beq t k with
  | true=>have:=xo h;simp[this]
  | false=>have:=fP h;simp[this]
theorem aG.put {L L':Loc}{ρ:Env}{a:Act}(h:aG L ρ a) {d:Option Nat}{v:Value}{x:SV}(r:∀k,d=some k->k<a.tmps.size)
  (q:conc L' x=v) (p:∀k off,x=.own k off->∃g ty cs,L'.get k=some (.box g ty cs)) (u:∀f j,x=.el f j->f≠none)
  (n:∀k g ty cs,L.get k=some (.box g ty cs)->∃cs',L'.get k=some (.box g ty cs')):aG L' (put d x ρ) (a.put d v):=by
 have l:∀t,a.tmps.getD t undef=conc L' (ρ t):=by
  intro t;rw[h.eq t];cases e:ρ t with
  | v x=>rfl
  | el a j=>rfl
  | own k off =>
   obtain⟨g,ty,cs,m⟩:=h.own t k off e;obtain⟨cs',c⟩:=n k g ty cs m;simp only[conc,m,c]
 refine⟨fun t=>?_,fun t k off e=>?_,fun t f j e=>?_⟩
 ·rw[Hl a d v r,put_eq];cases d with
  | none=>exact l t
  | some k =>
   simp only[];split
   ·exact q.symm
   ·exact l t
 ·rw[put_eq] at e;have b:∀k off,ρ t=.own k off->∃g ty cs,L'.get k=some (.box g ty cs):=by
   intro k off e;obtain⟨g,ty,cs,m⟩:=h.own t k off e;obtain⟨cs',c⟩:=n k g ty cs m;exact⟨g,ty,cs',c⟩
  cases d with
  | none=>exact b k off e
  | some s =>
   simp only[] at e;split at e
   ·exact p k off e
   ·exact b k off e
 ·rw[put_eq] at e;cases d with
  | none=>exact h.el t f j e
  | some s =>
   simp only[] at e;split at e
   ·exact u f j e
   ·exact h.el t f j e
theorem lp (a:Act) (d:Option Nat) (v:Value):(a.put d v).tmps.size=a.tmps.size:=by cases d<;>simp[Act.put]
theorem ic (a:Act) (d:Option Nat) (v:Value):(a.put d v).defers=a.defers:=by cases d<;>rfl
section
variable {P:Program}{F:aD}{L:Loc}{ρ:Env}{a:Act}{w:World}{K:cS}{o:Oper}{Q:Exit->Act->World->Prop}
theorem bK (c:St F L w) (n:aG L ρ a) (f:∀k,o.dst=some k->k<a.tmps.size) {v:Value}{x:SV}
  (p:(execOp a.eval o).run P w=.ok (.value v) w) (h:conc L x=v) (d:∀k off,x=.own k off->∃g ty cs,L.get k=some (.box g ty cs)) (l:∀b j,x=.el b j->b≠none)
  (m:K F L (put o.dst x ρ)):o.wp P a w (bh F L w a K) Q:=by
 unfold Oper.wp;rw[p];exact⟨F,L,_,c,n.put f h d l (fun k g ty cs e=>⟨cs,e⟩),lp _ _ _,ic _ _ _,Step.refl _ _ _,m⟩
theorem gB (h:aG L ρ a) (m:∀k,o.dst=some k->k<a.tmps.size) {v:Value}{x:SV}{w':World}{F':aD}{L':Loc}
  (n:(execOp a.eval o).run P w=.ok (.value v) w') (l:St F' L' w') (b:Step F L w F' L' w') (e:conc L' x=v) (d:∀k off,x=.own k off->∃g ty cs,L'.get k=some (.box g ty cs)) (p:∀c j,x=.el c j->c≠none)
  (q:∀k g ty cs,L.get k=some (.box g ty cs)->∃cs',L'.get k=some (.box g ty cs')) (f:K F' L' (put o.dst x ρ)):o.wp P a w (bh F L w a K) Q:=by
 unfold Oper.wp;rw[n];exact⟨F',L',_,l,h.put m e d p q,lp _ _ _,ic _ _ _,b,f⟩
theorem tw (j:aG L ρ a) (d:∀k,o.dst=some k->k<a.tmps.size) {w':World}{F':aD}{L':Loc}
  (h:(execOp a.eval o).run P w=.ok .skip w') (c:St F' L' w') (b:Step F L w F' L' w')
  (l:∀k g ty cs,L.get k=some (.box g ty cs)->∃cs',L'.get k=some (.box g ty cs')) (f:K F' L' (put o.dst (.v undef) ρ)):o.wp P a w (bh F L w a K) Q:=by
 unfold Oper.wp;rw[h];exact⟨F',L',_,c,j.put d rfl (fun _ _ e=>by cases e) (fun _ _ e=>by cases e) l,lp _ _ _,ic _ _ _,b,f⟩
end
section
variable {P:Program}{F:aD}{L:Loc}{ρ:Env}{a:Act}{w:World}{K:cS}{o:Oper}{Q:Exit->Act->World->Prop}
theorem bT {v:Value}{L:Loc}:∀k off,SV.v v=.own k off->∃g ty cs,L.get k=some (.box g ty cs):=fun _ _ e=>by cases e
theorem dK {v:Value}:∀b j,SV.v v=.el b j->b≠none:=fun _ _ e=>by cases e
theorem rf (L:Loc):∀k g ty cs,L.get k=some (.box g ty cs)->∃cs',L.get k=some (.box g ty cs'):=fun k g ty cs e=>⟨cs,e⟩
theorem bH {x:X}{v:Value}{L:Loc}{ρ:Env}(h:ev ρ x=.v v):val L ρ x=v:=by simp only[val,h,conc]
theorem Ho {y:Operand}{x:X}(f:St F L w) (c:aG L ρ a) (h:∀k,o.dst=some k->k<a.tmps.size)
  (b:o.op=.move y\/o.op=.assign y) (d:bw y=some x) (l:evalOp P (.mov x) o.dst F L ρ K):o.wp P a w (bh F L w a K) Q:=by
 refine bK f c h (v:=a.eval y) (x:=ev ρ x) ?_ (aI d c).symm (fun k off e=>og d c e) (fun m j e=>q9 d c e) l;rcases b with b | b<;>simp only[execOp,b]<;>rfl
theorem KN {c y z:Operand}{q n l:X}(r:St F L w) (b:aG L ρ a) (t:∀k,o.dst=some k->k<a.tmps.size)
  (p:o.op=.pick c y z) (hc:bw c=some q) (m:bw y=some n) (f:bw z=some l) (d:evalOp P (.pick q n l) o.dst F L ρ K):o.wp P a w (bh F L w a K) Q:=by
 have s:=aI hc b;simp only[evalOp,aL] at d;split at d
 ·rename_i h;refine bK r b t (v:=a.eval y) (x:=ev ρ n) ?_ (aI m b).symm (fun k off e=>og m b e) (fun u j e=>q9 m b e) d;simp only[execOp,p,s,val,h,conc];simp[asBool]
 ·rename_i h;refine bK r b t (v:=a.eval z) (x:=ev ρ l) ?_ (aI f b).symm (fun k off e=>og f b e) (fun u j e=>q9 f b e) d;simp only[execOp,p,s,val,h,conc];simp[asBool]
 ·exact d.elim
theorem gS (w:World) (o:Obj):(w.alloc o).heap[w.heap.size]?=some o:=heap_alloc_new w o
theorem qh {F:aD}{L:Loc}{w:World}(c:St F L w):F w.heap.size=none/\¬L.owns w.heap.size:=by
 refine⟨?_,fun h=>?_⟩
 ·cases h:F w.heap.size with
  | none=>rfl
  | some _=>have:=c.ZT (b:=w.heap.size) (by rw[h];simp);omega
 ·have:=c.ZY h;omega
theorem St.alloc (c:St F L w) (o:Obj):St F L (w.alloc o):=c.keep fun b hb=>Below.heap_alloc w o b hb
theorem mP (m:St F L w) {k:Nat}(n:L.get k=none) {ob:Obj}{e:Own}(hb:e.blk=some w.heap.size) (l:e.ok (w.alloc ob)) :
  St F (L.set k e) (w.alloc ob)/\Step F L w F (L.set k e) (w.alloc ob) /\
   (∀j g ty xs,L.get j=some (.box g ty xs)->∃cs',(L.set k e).get j=some (.box g ty cs')):=by
 obtain⟨q,r⟩:=qh m;refine⟨(m.alloc _).put n l fun g c=>?_,?_,fun j g ty xs f=>?_⟩
 ·rw[hb] at c;injection c with c;subst c;exact⟨q,r⟩
 ·refine Step.mk' (aD.le_refl F) (World.grownBy_alloc w _ none) (fun b hb=>.inl hb) fun b p=>?_;rcases Loc.ZI p with h | h
  ·rw[hb] at h;injection h with h;exact .inr (by omega)
  ·exact .inl h
 ·rw[Loc.Zz];split
  ·rename_i d;subst d;rw[n] at f;cases f
  ·exact⟨xs,f⟩
theorem kI (c:St F L w) {k:Nat}(d:L.get k=none) {cs:Array Value}{t:TypeId}{e:Own}(hb:e.blk=some w.heap.size) (b:e.ok (w.alloc (.cells cs t))) :
  St F (L.set k e) (w.alloc (.cells cs t))/\Step F L w F (L.set k e) (w.alloc (.cells cs t)) /\
   (∀j g ty xs,L.get j=some (.box g ty xs)->∃cs',(L.set k e).get j=some (.box g ty cs')):=mP c d hb b
theorem OH {y:Operand}{x:X}{t:TypeId}(l:St F L w) (f:aG L ρ a) (m:∀k,o.dst=some k->k<a.tmps.size)
  (j:o.op=.box t y) (q:bw y=some x) (d:t≠0) (c:evalOp P (.box t x) o.dst F L ρ K):o.wp P a w (bh F L w a K) Q:=by
 simp only[evalOp,aL] at c;split at c
 case h_2=>exact c.elim
 rename_i _ k h;split at c
 case h_2=>exact c.elim
 rename_i _ s;have c:=c w.heap.size;have b:(Value.cells (a.eval y)).toList=aJ (val L ρ x):=by
  rw[aI q f];cases val L ρ x<;>rfl
 obtain⟨n,p,r⟩:=kI l s (cs:=(a.eval y).cells) (t:=t) (e:=.box w.heap.size t (aJ (val L ρ x))) rfl
  (by show _=_;rw[gS,iz d,<-b])
 refine gB f m (v:=.pointer (some ⟨w.heap.size,0,none⟩)) (x:=.own k 0) ?_ n p ?_ ?_ (fun _ _ e=>by cases e) r c
 ·simp[execOp,j,Instr.box,newVar,newRow]
 ·simp only[conc,Loc.Zz,aaD]
 ·rintro u off e;injection e with e1 e2
  subst e1;exact⟨_,_,_,by rw[Loc.Zz,o6 rfl]⟩
theorem Hp {t:TypeId}{i:TypeInfo}{zs:List Value}(m:St F L w) (l:aG L ρ a) (n:∀k,o.dst=some k->k<a.tmps.size)
  (j:o.op=.alloc t) (hi:P.info? t=some i) (c:QF i=some zs) (f:t≠0) (b:evalOp P (.alloc t zs) o.dst F L ρ K):o.wp P a w (bh F L w a K) Q:=by
 simp only[evalOp,aL] at b;split at b
 case h_2=>exact b.elim
 rename_i _ k h;split at b
 case h_2=>exact b.elim
 rename_i _ s;have b:=b w.heap.size;unfold QF at c;split at c
 case h_2=>cases c
 rename_i z d;injection c with c
 obtain⟨p,q,r⟩:=kI m s (cs:=z.cells) (t:=t) (e:=.box w.heap.size t zs) rfl
  (by show _=_;rw[gS,iz f,<-c])
 refine gB l n (v:=.pointer (some ⟨w.heap.size,0,none⟩)) (x:=.own k 0) ?_ p q ?_ ?_ (fun _ _ e=>by cases e) r b
 ·simp[execOp,j,Instr.alloc,zeroValue,typeInfo,hi,d,newVar,newRow]
 ·simp only[conc,Loc.Zz,aaD]
 ·rintro u off e;injection e with e1 e2
  subst e1;exact⟨_,_,_,by rw[Loc.Zz,o6 rfl]⟩
theorem vT {t:TypeId}{l:List Value}{n:Nat}(h:jg t l n=true):t≠0:=by
 rintro rfl;simp[jg] at h
theorem Ak {t:TypeId}{l:List Value}{n:Nat}(h:jg t l n=true):fM l n=true:=by
 unfold jg at h;split at h
 ·cases h
 ·exact h
theorem f8 {t:TypeId}{l:List Value}{n:Nat}(h:t≠0) (b:fM l n=true):jg t l n=true:=by
 unfold jg;split
 ·rename_i e;exact vv (xo e) h
 ·exact b
theorem iT:∀{l:List Value}{n:Nat},fM l n=true->l.length=n
 | [],0,_=>rfl
 | _::l,n+1,h=>by simp only[fM] at h;simp[iT h]
 | [],_+1,h=>by simp[fM] at h
 | _::_,0,h=>by simp[fM] at h
theorem iJ {cs vs:List Value}{off:Nat}(h:off+vs.length<=cs.length) (n:Nat) :
  (aP cs off vs)[n]?=if n<off then cs[n]? else if n<off+vs.length then vs[n-off]? else cs[n]?:=by
 unfold aP;have c:(cs.take off).length=off:=by simp;omega
 by_cases b:n<off
 ·rw[o6 b,aan,aap (by omega),List.getElem?_take_of_lt b]
 ·rw[vz b]
  by_cases d:n<off+vs.length
  ·rw[o6 d,aan,aaw (by omega),aap (by omega),c]
  ·rw[vz d,aan,aaw (by omega),aaw (by omega),c,aaL];congr 1;omega
theorem KO (vs:List Value):∀(off j:Nat) (cells:Array Value),off+j+vs.length<=cells.size ->
  ((vs.zipIdx j).foldl (fun cs (c,j)=>cs.setIfInBounds (off+j) c) cells).toList=aP cells.toList (off+j) vs:=by
 induction vs with
 | nil=>intro off j cells h;simp[aP]
 | cons v vs f =>
  intro off j cells h;simp only[List.zipIdx_cons,List.foldl_cons,aau] at h ⊢;have:=f off (j+1) (cells.setIfInBounds (off+j) v) (by simp;omega);rw[this];apply aaR;intro n;rw[iJ (by simp;omega),iJ (by simp;omega)];simp only[Array.toList_setIfInBounds,aau]
  by_cases e:n=off+j
  ·subst e;rw[o6 (by omega),vz (by omega),o6 (by omega),List.getElem?_set_self (by simp;omega)];simp
  ·by_cases b:n<off+j
   ·rw[o6 (by omega),o6 b,abe (by omega)]
   ·by_cases d:n<off+(j+1)+vs.length
    ·rw[vz (by omega),o6 d,vz b,o6 (by omega),show n-(off+j)=(n-(off+(j+1)))+1 by omega,aaY]
    ·rw[vz (by omega),vz d,vz b,vz (by omega),abe (by omega)]
theorem BG (vs:Array Value) (off:Nat) (cells:Array Value) (h:off+vs.size<=cells.size) :
  (vs.zipIdx.foldl (fun cs (x:Value×Nat)=>cs.setIfInBounds (off+x.2) x.1) cells).toList=aP cells.toList off vs.toList:=by
 have:=KO vs.toList off 0 cells (by simpa using h);rw[Nat.add_zero] at this;rw[<-this];congr 1;rw[<-Array.foldl_toList,Array.toList_zipIdx]
theorem fJ (cs:List Value) (off:Nat) (vs:List Value) (h:off+vs.length<=cs.length):(aP cs off vs).length=cs.length:=by
 simp[aP];omega
theorem oh (v:Value):aJ v=v.cells.toList:=by cases v<;>rfl
theorem Dq (sz n:Nat):∀(vs:List Value) (k:Nat) (cells:Array Value),cells.size=n*sz->k+vs.length=n->(∀v∈vs,v.cells.size=sz) ->
  ∃out,Instr.fill (fun i=>some (i*sz,sz)) cells ((List.range' k vs.length).zip vs)=some out /\
   out.toList=cells.toList.take (k*sz)++(vs.map (fun v=>v.cells.toList)).flatten:=by
 intro vs
 induction vs with
 | nil =>
  intro k cells h d e;refine⟨cells,by simp[Instr.fill],?_⟩;simp at d ⊢;subst d;rw[aaZ (by simp;omega)]
 | cons v vs p =>
  intro k cells h d e;have f:=e v (by simp);have m:k*sz+sz<=n*sz:=by
   rw[<-Nat.succ_mul];exact Nat.mul_le_mul_right _ (by simp at d;omega)
  simp only[aau,List.range'_succ,List.zip_cons_cons,Instr.fill];rw[vz (by simp[f];omega)];have b:=BG v.cells (k*sz) cells (by omega);have c:(v.cells.zipIdx.foldl (fun cs (x:Value×Nat)=>cs.setIfInBounds (k*sz+x.2) x.1) cells).size=n*sz:=by
   rw[<-Array.length_toList,b,fJ _ _ _ (by simp;omega)];simpa using h
  obtain⟨out,j,q⟩:=p (k+1) _ c (by simp at d;omega) (fun u l=>e u (by simp[l]));refine⟨out,j,?_⟩;rw[q,b];simp only[aP,aao,List.flatten_cons,<-aan];congr 1;rw[Nat.succ_mul];have r:v.cells.toList.length=sz:=by simpa using f
  apply aaR;intro i
  by_cases t:i<k*sz
  ·rw[List.getElem?_take_of_lt (by omega),aan,aap (by simp;omega),aap (by simp;omega)]
  ·by_cases s:i<k*sz+sz
   ·rw[List.getElem?_take_of_lt (by omega),aan,aaw (by simp;omega),aap (by simp;omega),aaw (by simp;omega)]
   ·rw[aar (by simp;omega),aar (by simp;omega)]
end
section
variable {P:Program}{F:aD}{L:Loc}{ρ:Env}{a:Act}{w:World}{K:cS}{o:Oper}{Q:Exit->Act->World->Prop}
theorem wG (L:Loc) (ρ:Env):∀xs:List X,cellsOf L ρ xs=((bq L ρ xs).map fun v=>v.cells.toList).flatten
 | []=>rfl
 | x::xs=>by simp only[cellsOf,bq,aao,List.flatten_cons,wG L ρ xs,oh]
theorem ze {L:Loc}{ρ:Env}{sz:Nat}:∀{xs:List X},fN L ρ sz xs=true->∀v∈bq L ρ xs,v.cells.size=sz
 | [],_,v,b=>by cases b
 | x::xs,h,v,b=>by
  simp only[fN] at h;split at h
  ·rename_i c;simp only[bq,aal] at b;rcases b with rfl | b
   ·have:=iT c;rw[oh] at this;simpa using this
   ·exact ze h v b
  ·cases h
theorem l9 (L:Loc) (ρ:Env):∀xs:List X,(bq L ρ xs).length=xs.length
 | []=>rfl
 | _::xs=>by simp[bq,l9 L ρ xs]
theorem qi {L:Loc}{ρ:Env}{sz:Nat}:∀{xs:List X},fN L ρ sz xs=true->(cellsOf L ρ xs).length=xs.length*sz
 | [],_=>by simp[cellsOf]
 | x::xs,h=>by
  simp only[fN] at h;split at h
  ·rename_i b;have:=iT b;simp only[cellsOf,aak,this,qi h,aau,Nat.succ_mul];omega
  ·cases h
theorem Dr {ps:List (Nat×Operand)}{f:Operand->Value}{n:Nat}(h:ps.map (·.1)=List.range n) :
  ps.map (fun p=>(p.1,f p.2))=(List.range' 0 ps.length).zip ((ps.map (·.2)).map f):=by
 have b:ps.length=n:=by have:=j3 List.length h;simpa using this
 rw[b,<-List.range_eq_range',<-h]
 clear h b
 induction ps with
 | nil=>rfl
 | cons p ps c=>simp[c]
theorem qj {t e n:Nat}{ps:Array (Nat×Operand)}{i:TypeInfo}{z:Value}{xs:List X}(ht:P.underlying t=some (.slice e)) (hi:P.info? e=some i) (v:i.zero=some z)
  (hx:gP (ps.toList.map (·.2))=some xs) (r:ps.toList.map (·.1)=List.range n) (hb:n*i.size<=2 ^ 24) (hp:fN L ρ i.size xs=true) (y:aG L ρ a) :
  (Instr.buildSlice t n (ps.map fun(j,x)=>(j,a.eval x))).run P w=.ok (.slice (some ⟨w.heap.size,0,none⟩) n n) (w.alloc (.cells (cellsOf L ρ xs).toArray e))/\xs.length=n:=by
 have l:=fQ hx y;have c:xs.length=n:=by
  have k:=j3 List.length l;have s:=j3 List.length r;simp only[aax,l9,List.length_range] at k s;omega
 have m:ps.toList.length=n:=by have:=j3 List.length r;simpa using this
 have b:(ps.map fun(x:Nat×Operand)=>(x.1,a.eval x.2)).toList=(List.range' 0 (bq L ρ xs).length).zip (bq L ρ xs):=by
  rw[Array.toList_map,Dr r,l,l9,c,m]
 have f:=fun(cells:Array Value) (hc:cells.size=n*i.size)=>Dq i.size n (bq L ρ xs) 0 cells hc (by rw[l9];omega) (ze hp);refine⟨?_,c⟩;have p:∀zero:Array Value,((Array.range (n*i.size)).map (zero[· % zero.size]!)).size=n*i.size:=fun _=>by simp
 obtain⟨out,k,s⟩:=f ((Array.range (n*i.size)).map ((if n*i.size=0 then #[] else z.cells)[· % (if n*i.size=0 then #[] else z.cells).size]!)) (p _);have d:out=(cellsOf L ρ xs).toArray:=by
  apply Array.ext';rw[s,wG];simp
 have q:¬(n*i.size>2 ^ 24):=by omega
 unfold Instr.buildSlice;simp only[Sem.run_bind,run_underlying ht,Result.andThen_ok,sizeOf,typeInfo,hi,run_program,Sem.run_pure,vz q,zeroValue,v]
 by_cases u:n*i.size=0
 ·simp only[u,aaD] at k ⊢
  try simp only[Sem.run_pure,Result.andThen_ok]
  rw[b];have h:=k;simp only[h,d,newRow,Sem.run_bind,run_newObj,Result.andThen_ok,Sem.run_pure];rfl
 ·simp only[u,aaO] at k ⊢;simp only[Sem.run_bind,hi,v,run_program,Sem.run_pure,Result.andThen_ok];rw[b];have h:=k;simp only[h,d,newRow,Sem.run_bind,run_newObj,Result.andThen_ok,Sem.run_pure];rfl
theorem KP {t:TypeId}{y:Operand}{x:X}(f:St F L w) (n:aG L ρ a) (q:∀k,o.dst=some k->k<a.tmps.size)
  (p:o.op=.box t y) (r:bw y=some x) (m:evalOp P (.boxF t x) o.dst F L ρ K):o.wp P a w (bh F L w a K) Q:=by
 simp only[evalOp] at m;have c:(a.eval y).cells=(aJ (val L ρ x)).toArray:=by
  apply Array.ext';rw[aI r n];cases val L ρ x<;>rfl
 have d:=gS w (.cells (aJ (val L ρ x)).toArray t);obtain⟨s,l⟩:=qh f;have j:=(f.alloc (.cells (aJ (val L ρ x)).toArray t)).freeze d l;have e:=aD.ZO (f.alloc (.cells (aJ (val L ρ x)).toArray t)) d;refine gB n q (v:=.pointer (some ⟨w.heap.size,0,none⟩)) (x:=.v (.pointer (some ⟨w.heap.size,0,none⟩))) ?_ j (Step.mk' e (World.grownBy_alloc w _ none) ?_ fun b h=>.inl h) rfl bT dK (rf L) (m w.heap.size _ e (by simp))
 ·simp[execOp,p,Instr.box,newVar,newRow,c]
 ·intro b hb
  by_cases h:b=w.heap.size
  ·exact .inr (.inr (by omega))
  ·simp only[vz h] at hb;exact .inl hb
theorem OI {t e n:Nat}{ps:Array (Nat×Operand)}{i:TypeInfo}{z:Value}{xs:List X}(l:St F L w) (r:aG L ρ a) (u:∀k,o.dst=some k->k<a.tmps.size)
  (s:o.op=.buildSlice t n ps) (ht:P.underlying t=some (.slice e)) (hi:P.info? e=some i) (y:i.zero=some z)
  (hx:gP (ps.toList.map (·.2))=some xs) (hr:ps.toList.map (·.1)=List.range n) (hb:n*i.size<=2 ^ 24) (j:evalOp P (.mkF e n i.size xs) o.dst F L ρ K):o.wp P a w (bh F L w a K) Q:=by
 simp only[evalOp,aL] at j;split at j
 case h_2=>exact j.elim
 rename_i hp;obtain⟨d,q⟩:=qj (w:=w) ht hi y hx hr hb hp r;have c:=gS w (.cells (cellsOf L ρ xs).toArray e);obtain⟨hf,p⟩:=qh l;have m:=(l.alloc (.cells (cellsOf L ρ xs).toArray e)).freeze c p;have f:=aD.ZO (l.alloc (.cells (cellsOf L ρ xs).toArray e)) c;refine gB r u (v:=.slice (some ⟨w.heap.size,0,none⟩) n n) (x:=.v (.slice (some ⟨w.heap.size,0,none⟩) n n)) ?_ m (Step.mk' f (World.grownBy_alloc w _ none) ?_ fun b h=>.inl h) rfl bT dK (rf L) (j w.heap.size _ f (by simp))
 ·simp only[execOp,s,Sem.run_bind,d,Result.andThen_ok,Sem.run_pure]
 ·intro b hb
  by_cases h:b=w.heap.size
  ·exact .inr (.inr (by omega))
  ·simp only[vz h] at hb;exact .inl hb
theorem mg (w:World) (cs:List Value) (e:TypeId) (n sz:Nat) (c:n<=maxLen) (b:cs.length=n*sz) :
  (w.alloc (.cells cs.toArray e)).ownsRow 0 e sz (.slice (some ⟨w.heap.size,0,none⟩) n n) n cs :=
 ⟨b,.inr ⟨w.heap.size,n,cs.toArray,rfl,aaK _,gS w _,aaB _,c,by simpa using b,by simp[<-b]⟩⟩
theorem OJ {t e n:Nat}{ps:Array (Nat×Operand)}{i:TypeInfo}{z:Value}{xs:List X}(p:St F L w) (h:aG L ρ a) (q:∀k,o.dst=some k->k<a.tmps.size)
  (m:o.op=.buildSlice t n ps) (u:P.underlying t=some (.slice e)) (hi:P.info? e=some i) (r:i.zero=some z)
  (hx:gP (ps.toList.map (·.2))=some xs) (y:ps.toList.map (·.1)=List.range n) (hb:n*i.size<=2 ^ 24) (hn:n<=2 ^ 24) (b:evalOp P (.mkR e n i.size xs) o.dst F L ρ K):o.wp P a w (bh F L w a K) Q:=by
 simp only[evalOp,aL] at b;split at b
 case h_2=>exact b.elim
 rename_i _ _ k l j;split at b
 case h_2=>exact b.elim
 rename_i _ hk;obtain⟨d,c⟩:=qj (w:=w) u hi r hx y hb l h;have f:=mg w (cellsOf L ρ xs) e n i.size (by simp only[maxLen];omega) (by rw[qi l,c]);obtain⟨s,h2,h3⟩:=kI p hk (cs:=(cellsOf L ρ xs).toArray) (t:=e) (e:=.row (.slice (some ⟨w.heap.size,0,none⟩) n n) e i.size n (cellsOf L ρ xs)) rfl f;refine gB h q (v:=.slice (some ⟨w.heap.size,0,none⟩) n n) (x:=.v (.slice (some ⟨w.heap.size,0,none⟩) n n)) ?_ s h2 rfl bT dK h3 (b w.heap.size);simp only[execOp,m,Sem.run_bind,d,Result.andThen_ok,Sem.run_pure]
def placeOf (P:Program) (f:Field):Nat×Nat:=(f.offset,P.cellsOf f.type)
def wH (f:Field):Sem (Nat×Nat):=do pure (f.offset,<-sizeOf f.type)
theorem yH {fs:Array Field}:∀{ps:List (Nat×Operand)}{l:List (Nat×Nat×X)},oe P fs ps=some l->∀{cells:Array Value}{cs:List Value}(m:Array (Nat×Nat)),aG L ρ a ->
  (∀(j:Nat) (f:Field) (i:TypeInfo),fs[j]?=some f->P.info? f.type=some i->m[j]?=some (f.offset,i.size)) ->
  built L ρ cells.toList l=some cs->(∀off n x,(off,n,x)∈l->off+n<=cells.size) ->
  ∃out,Instr.fill (m[·]?) cells (ps.map fun p=>(p.1,a.eval p.2))=some out/\out.toList=cs:=by
 intro ps
 induction ps with
 | nil =>
  intro l h cells cs m s e hb k;simp only[oe,yo] at h;subst h;simp only[built,yo] at hb;exact⟨cells,rfl,hb⟩
 | cons p ps v =>
  intro l h cells cs m s e hb k;obtain⟨j,y⟩:=p;simp only[oe] at h;split at h
  case h_2=>cases h
  rename_i f x l' hf hx u;split at h
  case h_2=>cases h
  rename_i i hi;injection h with h
  subst h;simp only[built] at hb;split at hb
  case h_2=>cases hb
  rename_i b;have b:=iT b;have r:=k f.offset i.size x (by simp);have q:=aI hx s;simp only[aao,Instr.fill,e j f i hf hi];have t:(a.eval y).cells.size=i.size:=by rw[q];rw[oh] at b;simpa using b
  rw[vz (by simp[t];omega)];have c:=BG (a.eval y).cells f.offset cells (by omega);have d:(a.eval y).cells.toList=aJ (val L ρ x):=by rw[q,oh]
  rw[d] at c;refine v u m s e (cs:=cs) ?_ ?_
  ·rw[c];exact hb
  ·intro off n z hm;rw[<-Array.length_toList,c,fJ _ _ _ (by rw[b];simpa using r)];simpa using k off n z (by simp[hm])
theorem vG (P:Program) (w:World):∀(fs:List Field),(∀f:Field,f∈fs->(P.info? f.type).isSome=true) ->
  (fs.mapM wH).run P w=.ok (fs.map (placeOf P)) w:=by
 intro fs
 induction fs with
 | nil=>intro _;simp
 | cons f fs c =>
  intro h;have d:=h f (by simp);obtain⟨i,hi⟩:=Option.isSome_iff_exists.1 d;simp only[List.mapM_cons,wH,Sem.run_bind,sizeOf,typeInfo,run_program,Result.andThen_ok,hi,Sem.run_pure];rw[c (fun g b=>h g (by simp[b]))];simp[placeOf,Program.cellsOf,hi]
theorem Hq {t:Nat}{ps:Array (Nat×Operand)}{fs:Array Field}{i:TypeInfo}{zs:List Value}{l:List (Nat×Nat×X)}(hs:St F L w) (he:aG L ρ a) (hd:∀k,o.dst=some k->k<a.tmps.size)
  (ho:o.op=.build t ps) (ht:P.underlying t=some (.struct fs)) (hi:P.info? t=some i) (b:QF i=some zs) (hl:oe P fs ps.toList=some l) (c:∀f:Field,f∈fs.toList->(P.info? f.type).isSome=true)
  (y:∀off n x,(off,n,x)∈l->off+n<=zs.length) (h:evalOp P (.build zs l) o.dst F L ρ K):o.wp P a w (bh F L w a K) Q:=by
 simp only[evalOp,aL] at h;split at h
 case h_2=>exact h.elim
 rename_i cs q;unfold QF at b;split at b
 case h_2=>cases b
 rename_i z u;injection b with b
 have m:∀(j:Nat) (f:Field) (i:TypeInfo),fs[j]?=some f->P.info? f.type=some i->(fs.map (placeOf P))[j]?=some (f.offset,i.size):=by
  intro j f i r s;simp[r,placeOf,Program.cellsOf,s]
 obtain⟨out,r,s⟩:=yH (a:=a) (cells:=z.cells) (cs:=cs) hl _ he m (by rw[b];exact q) (by intro off n x hm;have:=y off n x hm;rw[<-b] at this;simpa using this);have d:out=cs.toArray:=by apply Array.ext';simpa using s
 have e:(fs.mapM wH).run P w=.ok (fs.map (placeOf P)) w:=by
  rw[Array.mapM_eq_mapM_toList,Sem.run_map,vG P w _ c];simp only[Result.andThen_ok];congr 1;exact Array.ext' (by simp)
 refine bK hs he hd (v:=.agg cs.toArray) (x:=.v (.agg cs.toArray)) ?_ rfl bT dK h;simp only[execOp,ho,Instr.build,Sem.run_bind,zeroValue,typeInfo,run_program,Result.andThen_ok,hi,Sem.run_pure,u,run_underlying ht];rw[show(fs.mapM fun(f:Field)=>(do pure (f.offset,<-sizeOf f.type):Sem (Nat×Nat))).run P w=.ok (fs.map (placeOf P)) w from e];simp only[Result.andThen_ok];rw[show(ps.map fun(x:Nat×Operand)=>(x.1,a.eval x.2)).toList=ps.toList.map (fun p=>(p.1,a.eval p.2)) by simp,r,d];simp
theorem uw {t:Nat}{d:TypeDesc}(b:P.underlying t=some d):(isAgg t).run P w=.ok (dM d) w:=by
 unfold isAgg;simp only[Sem.run_bind,run_underlying b,Result.andThen_ok];cases d<;>rfl
theorem oS {t:Nat}{d:TypeDesc}{i:TypeInfo}(k:P.underlying t=some d) (hi:P.info? t=some i) {c:Addr}{cs:List Value}{n:Nat}
  (h:∀j v,cs[j]?=some v->w.cell? (c.add j)=some v) (b:cs.length=n) (e:n=match dM d with | true=>i.size | false=>1) :
  (Instr.loadAt t (.pointer (some c))).run P w=.ok (gO (dM d) cs) w:=by
 simp only[Instr.loadAt,Instr.sureAddr,Sem.run_bind,Sem.run_pure,Result.andThen_ok,loadVar,uw k];cases f:dM d with
 | true =>
  simp only[f] at e;simp only[aaD,Sem.run_bind,sizeOf,typeInfo,run_program,Result.andThen_ok,hi,Sem.run_pure];rw[<-e,<-b,run_loadCells_list w c cs h];rfl
 | false =>
  simp only[f] at e;subst e
  match cs,b with
  | [v],_ =>
   have:=h 0 v (by simp);rw[show c.add 0=c by simp[Addr.add]] at this;simp[run_load,this,gO]
theorem nE {g:Nat}{t:TypeId}{cs:List Value}(b:t≠0) (h:Own.ok w (.box g t cs)) (n:Nat):w.cell? ⟨g,n,none⟩=cs[n]?:=by
 simp only[Own.ok,iz b] at h;simp[World.cell?,h]
theorem KQ {t:Nat}{y:Operand}{x:X}{d:TypeDesc}{i:TypeInfo}{n:Nat}(hs:St F L w) (he:aG L ρ a) (hd:∀k,o.dst=some k->k<a.tmps.size)
  (ho:o.op=.load t y) (ht:P.underlying t=some d) (hi:P.info? t=some i) (hx:bw y=some x) (hn:n=match dM d with | true=>i.size | false=>1)
  (q:evalOp P (.load (dM d) n x) o.dst F L ρ K):o.wp P a w (bh F L w a K) Q:=by
 have ec:=aI hx he;have aa:∀(p:Option Addr) (j:Nat),p≠none->(jM F L p j n fun cs=>K F L (put o.dst (.v (gO (dM d) cs)) ρ))->a.eval y=conc L (.el p j)->o.wp P a w (bh F L w a K) Q:=by
  rintro p j ar ⟨cs,r,hc,q⟩ hy;cases p with
  | none=>exact vv rfl ar
  | some p =>
   have f:∀i v,cs[i]?=some v->w.cell? ((p.add j).add i)=some v:=by
    rcases hc with hc | ⟨k,v,t',sz,m,xs,aE,c,hk,z,e2,hc⟩ | aw | ⟨k,g,t',bs,o',hk,ae,z,hc⟩
    ·obtain⟨aE,e,am,av⟩:=hc.cell hs;injection e with e
     subst e;intro i v hv;obtain⟨b,o',sp⟩:=p;simp only at am;subst am;rw[cm,cm,Nat.add_assoc,<-cm];exact av i v hv
    ·injection z with z
     subst z;have s:=hs.own k _ hk;simp only[Own.ok] at s;subst e2;intro i u hu;have hb:=hc i u hu;have h0:=World.ownsRow.cells s (g:=p.block) rfl (j+i) u hb;rcases s.2 with⟨e,_⟩ | ⟨g,cap,bk,e,_⟩
     ·cases e
     ·injection e with z e2 e3
      injection z with z
      subst z;rw[cm,cm];rw[cm] at h0;simpa[Nat.add_assoc] using h0
    ·intro i v hv;rw[aw] at r;have:cs=[]:=aaG r;subst this;simp at hv
    ·injection z with z
     subst z;intro i u hu;rw[cm,cm,nE ae (hs.own k _ hk)];exact hc i u hu
   refine bK hs he hd (v:=gO (dM d) cs) (x:=.v (gO (dM d) cs)) ?_ rfl bT dK q;simp only[execOp,ho,hy,conc,Sem.run_bind,oS ht hi f r hn,Result.andThen_ok,Sem.run_pure]
 simp only[evalOp,aL] at q;split at q
 ·rename_i k off l;split at q
  case h_2=>exact q.elim
  rename_i g ty cs hk;split at q
  case h_2=>exact q.elim
  rename_i hl;have ae:=vT hl;have hl:=iT (Ak hl);have an:=hs.own k _ hk;have f:∀j v,((cs.drop off).take n)[j]?=some v->w.cell? ((⟨g,off,none⟩:Addr).add j)=some v:=by
   intro j v hv;rw[cm,nE ae an];have hj:j<n:=by
    have:=aai.1 hv;obtain⟨h,_⟩:=this;omega
   rw[List.getElem?_take_of_lt hj,aaL] at hv;exact hv
  refine bK hs he hd (v:=gO (dM d) ((cs.drop off).take n)) (x:=.v (gO (dM d) ((cs.drop off).take n))) ?_ rfl bT dK q;have hy:a.eval y=.pointer (some ⟨g,off,none⟩):=by rw[ec];simp only[val,l,conc,hk]
  simp only[execOp,ho,hy,Sem.run_bind,oS ht hi f hl hn,Result.andThen_ok,Sem.run_pure]
 ·rename_i p j l;exact aa p j (q9 hx he l) q (by rw[ec];simp only[val,l])
 ·rename_i p l;refine aa (some p) 0 (by simp) q ?_;rw[ec];simp only[val,l,conc];simp[Addr.add]
 ·exact q.elim
end
section
variable {P:Program}{F:aD}{L:Loc}{ρ:Env}{a:Act}{w:World}{K:cS}{o:Oper}{Q:Exit->Act->World->Prop}
theorem zf {k b:IntKind}(h:qf k b=true):k=b:=by cases k<;>cases b<;>first | rfl | cases h
theorem sj {op:BinOp}{t:TypeId}{x y:Operand}{u v:Value}(h:∀c,u≠.agg c) (b:u≠.nilIface):(eqGuard op t x y u v).run P w=.ok () w:=by
 have key:(eqGuard op t x y u v).run P w=.ok () w\/True:=.inr trivial;unfold eqGuard;cases op<;>simp only[Bool.not_true,Bool.not_false,aaD,aaq,aaO]<;>first
  | rfl
  | (cases u<;>first | rfl | exact vv rfl (h _) | exact vv rfl b)
theorem toList_data (s:ByteArray):s.toList=s.data.toList:=ByteArray.toList_eq s
theorem vU (x y:List UInt8):(x == y)=decide (x=y):=by rw[Bool.eq_iff_iff];simp
theorem OL {t t':TypeId}{op:BinOp}{y z:Operand}{q z':X}(hs:St F L w) (he:aG L ρ a) (hd:∀k,o.dst=some k->k<a.tmps.size)
  (ho:o.op=.binOp op t y z t') (hy:bw y=some q) (hz:bw z=some z') (d:evalOp P (.bin op q z') o.dst F L ρ K):o.wp P a w (bh F L w a K) Q:=by
 have ey:=aI hy he;have ez:=aI hz he;have fin:∀v,(binOp op t (val L ρ q) (val L ρ z')).run P w=.ok v w->(∀c,val L ρ q≠.agg c)->val L ρ q≠.nilIface->K F L (put o.dst (.v v) ρ)->o.wp P a w (bh F L w a K) Q:=by
  intro v hr r h2 d;refine bK hs he hd (v:=v) (x:=.v v) ?_ rfl bT dK d;simp only[execOp,ho,ey,ez,Sem.run_bind,sj r h2,Result.andThen_ok,hr,Sem.run_pure]
 simp only[evalOp,aL] at d;split at d
 ·rename_i k n k' m h j;have b:=bH (L:=L) h;have e:=bH (L:=L) j;split at d
  ·rename_i p;have l:op=.shl\/op=.shr:=by cases op<;>simp_all [Hh]
   have r:(binOp op t (.int k n) (.int k' m)).run P w=(Op.shift op k n k' m).run P w:=by rcases l with rfl | rfl<;>rfl
   rcases l with rfl | rfl
   ·obtain⟨hm,⟨d⟩⟩:=d;refine fin _ ?_ (by rw[b];simp) (by rw[b];simp) d;rw[b,e,r];simp[Op.shift,show¬m<0 by omega]
   ·obtain⟨hm,d⟩:=d;refine fin _ ?_ (by rw[b];simp) (by rw[b];simp) d;rw[b,e,r];simp[Op.shift,show¬m<0 by omega]
  ·rename_i p;split at d
   case h_2=>exact d.elim
   rename_i hk;have hk:=zf hk;subst hk;cases op<;>simp only[binI] at d<;>first | (cases p;done) | skip
   ·obtain⟨d⟩:=d;exact fin _ (by rw[b,e];simp[binOp,Op.intArith]) (by rw[b];simp) (by rw[b];simp) d
   ·obtain⟨d⟩:=d;exact fin _ (by rw[b,e];simp[binOp,Op.intArith]) (by rw[b];simp) (by rw[b];simp) d
   ·obtain⟨d⟩:=d;exact fin _ (by rw[b,e];simp[binOp,Op.intArith]) (by rw[b];simp) (by rw[b];simp) d
   ·obtain⟨f,⟨d⟩⟩:=d;exact fin _ (by rw[b,e];simp[binOp,Op.intDiv,f]) (by rw[b];simp) (by rw[b];simp) d
   ·obtain⟨f,d⟩:=d;exact fin _ (by rw[b,e];simp[binOp,Op.intDiv,f]) (by rw[b];simp) (by rw[b];simp) d
   ·exact fin _ (by rw[b,e];simp[binOp,Op.intBits]) (by rw[b];simp) (by rw[b];simp) d
   ·exact fin _ (by rw[b,e];simp[binOp,Op.intBits]) (by rw[b];simp) (by rw[b];simp) d
   ·exact fin _ (by rw[b,e];simp[binOp,Op.intBits]) (by rw[b];simp) (by rw[b];simp) d
   ·exact fin _ (by rw[b,e];simp[binOp,Op.intBits]) (by rw[b];simp) (by rw[b];simp) d
   ·exact fin _ (by rw[b,e];simp[binOp,Op.intCmp];rfl) (by rw[b];simp) (by rw[b];simp) d
   ·exact fin _ (by rw[b,e];simp[binOp,Op.intCmp,bne];rfl) (by rw[b];simp) (by rw[b];simp) d
   ·exact fin _ (by rw[b,e];simp[binOp,Op.intCmp]) (by rw[b];simp) (by rw[b];simp) d
   ·exact fin _ (by rw[b,e];simp[binOp,Op.intCmp]) (by rw[b];simp) (by rw[b];simp) d
   ·exact fin _ (by rw[b,e];simp[binOp,Op.intCmp]) (by rw[b];simp) (by rw[b];simp) d
   ·exact fin _ (by rw[b,e];simp[binOp,Op.intCmp]) (by rw[b];simp) (by rw[b];simp) d
 ·rename_i s u h j;have b:=bH (L:=L) h;have e:=bH (L:=L) j;cases op<;>simp only[binS] at d<;>first | exact d.elim | skip
  ·obtain⟨an,d⟩:=d;refine fin _ ?_ (by rw[b];simp) (by rw[b];simp) d;rw[b,e];have:¬(((s.size+u.size:Nat):Int)>IntKind.i64.max):=by omega
   simp only[binOp,Op.stringOp,vz this];rfl
  ·exact fin _ (by rw[b,e];simp only[binOp,Op.stringOp,toList_data,vU];rfl) (by rw[b];simp) (by rw[b];simp) d
  ·exact fin _ (by rw[b,e];simp only[binOp,Op.stringOp,toList_data,vU];rfl) (by rw[b];simp) (by rw[b];simp) d
  ·exact fin _ (by rw[b,e];simp only[binOp,Op.stringOp,toList_data,vU];rfl) (by rw[b];simp) (by rw[b];simp) d
  ·exact fin _ (by rw[b,e];simp only[binOp,Op.stringOp,toList_data,vU];rfl) (by rw[b];simp) (by rw[b];simp) d
 ·exact d.elim
theorem Hr {t t':TypeId}{neg:Bool}{y z:Operand}{r q:X}(hs:St F L w) (e:aG L ρ a) (hd:∀k,o.dst=some k->k<a.tmps.size)
  (j:o.op=.binOp (if neg then .neq else .eql) t y z t') (p:P.underlying t=some .bool) (hy:bw y=some r) (hz:bw z=some q) (d:evalOp P (.eqB neg r q) o.dst F L ρ K):o.wp P a w (bh F L w a K) Q:=by
 have s:=aI hy e;have n:=aI hz e;simp only[evalOp,aL] at d;split at d
 case h_2=>exact d.elim
 rename_i b c f h;have u:=bH (L:=L) f;have m:=bH (L:=L) h;refine bK hs e hd (v:=.bool (lm neg (decide (b=c)))) (x:=.v (.bool (lm neg (decide (b=c))))) ?_ rfl bT dK d;have l:∀op:BinOp,(eqGuard op t y z (.bool b) (.bool c)).run P w=.ok () w:=fun op=>sj (by simp) (by simp);have hb:(b == c)=decide (b=c):=by cases b<;>cases c<;>rfl
 cases neg
 ·simp only[execOp,j,s,n,u,m,Sem.run_bind,l,Result.andThen_ok];have:=run_eql_bool (P:=P) w t b c p;rw[hb] at this;simp[this,lm]
 ·simp only[execOp,j,s,n,u,m,Sem.run_bind,l,Result.andThen_ok];have:=run_neq_bool (P:=P) w t b c p;rw[hb] at this;simp[this,lm]
theorem Dt {t e:TypeId}(h:P.underlying t=some (.pointer e)) (p:Option Addr):(Op.equal t (.pointer p) (.pointer none)).run P w=.ok p.isNone w:=by
 have key:∀d:Nat,(Op.equalIn (d+1) t (.pointer p) (.pointer none)).run P w=.ok p.isNone w:=fun d=>by
  cases p<;>simp[Op.equalIn,run_underlying h]
 exact key 9999
theorem OM {t e:TypeId}(h:P.underlying t=some (.slice e)) (p:Option Addr) (n c n' b:Nat):(Op.equal t (.slice p n c) (.slice none n' b)).run P w=.ok p.isNone w:=by
 have key:∀d:Nat,(Op.equalIn (d+1) t (.slice p n c) (.slice none n' b)).run P w=.ok p.isNone w:=fun d=>by
  cases p<;>simp[Op.equalIn,run_underlying h]
 exact key 9999
theorem OO {t:TypeId}{ps b:Array TypeId}{v:Bool}(h:P.underlying t=some (.func ps b v)):(Op.equal t .nilFunc .nilFunc).run P w=.ok true w:=by
 have key:∀d:Nat,(Op.equalIn (d+1) t .nilFunc .nilFunc).run P w=.ok true w:=fun d=>by
  simp[Op.equalIn,run_underlying h]
 exact key 9999
theorem OP {t:TypeId}{ps b:Array TypeId}{v:Bool}{f:Fn}{x y:Array Value}(h:P.underlying t=some (.func ps b v)):(Op.equal t (.func f x y) .nilFunc).run P w=.ok false w:=by
 have key:∀d:Nat,(Op.equalIn (d+1) t (.func f x y) .nilFunc).run P w=.ok false w:=fun d=>by
  simp[Op.equalIn,run_underlying h]
 exact key 9999
theorem sn {t t':TypeId}{neg:Bool}{y z:Operand}{y' r:X}(hs:St F L w) (d:aG L ρ a) (hd:∀k,o.dst=some k->k<a.tmps.size)
  (e:o.op=.binOp (if neg then .neq else .eql) t y z t') (hy:bw y=some y') (hz:bw z=some r)
  (u v:Value) (b:Bool) (p:val L ρ y'=u) (f:val L ρ r=v) (h1:∀c,u≠.agg c) (h2:u≠.nilIface) (h3:∀k n,u≠.int k n) (j:∀s,u≠.string s) (l:∀k n,u≠.float k n) (h6:∀k n m,u≠.complex k n m)
  (hr:(Op.equal t u v).run P w=.ok b w) (hK:K F L (put o.dst (.v (.bool (lm neg b))) ρ)):o.wp P a w (bh F L w a K) Q:=by
 have ey:=aI hy d;have q:=aI hz d;refine bK hs d hd (v:=.bool (lm neg b)) (x:=.v (.bool (lm neg b))) ?_ rfl bT dK hK;have h:∀op:BinOp,(eqGuard op t y z u v).run P w=.ok () w:=fun op=>sj h1 h2;cases neg
 ·simp only[execOp,e,ey,q,p,f,Sem.run_bind,h,Result.andThen_ok];have:binOp .eql t u v=(do pure (.bool (<-Op.equal t u v)):Sem Value):=by
   cases u<;>first | rfl | exact vv rfl (h3 _ _) | exact vv rfl (j _) | exact vv rfl (l _ _) | exact vv rfl (h6 _ _ _)
  simp[this,hr,lm]
 ·simp only[execOp,e,ey,q,p,f,Sem.run_bind,h,Result.andThen_ok];have:binOp .neq t u v=(do pure (.bool (!(<-Op.equal t u v))):Sem Value):=by
   cases u<;>first | rfl | exact vv rfl (h3 _ _) | exact vv rfl (j _) | exact vv rfl (l _ _) | exact vv rfl (h6 _ _ _)
  simp[this,hr,lm]
theorem Hs {t x e:TypeId}{neg:Bool}{y z:Operand}{u s:X}(m:St F L w) (f:aG L ρ a) (n:∀k,o.dst=some k->k<a.tmps.size)
  (l:o.op=.binOp (if neg then .neq else .eql) t y z x) (r:P.underlying t=some (.pointer e)) (h:bw y=some u) (q:bw z=some s) (d:evalOp P (.eqP neg u s) o.dst F L ρ K):o.wp P a w (bh F L w a K) Q:=by
 simp only[evalOp,aL] at d;split at d
 ·rename_i k off b c;obtain⟨g,ty,cs,v⟩:=og h f b;exact sn m f n l h q (.pointer (some ⟨g,off,none⟩)) (.pointer none) false (by simp only[val,b,conc,v]) (bH c) (by simp) (by simp) (by simp) (by simp) (by simp) (by simp) (Dt r _) d
 ·rename_i ad j b c;exact sn m f n l h q (.pointer (some (ad.add j))) (.pointer none) false (by simp only[val,b,conc]) (bH c) (by simp) (by simp) (by simp) (by simp) (by simp) (by simp) (Dt r _) d
 ·rename_i p b c;exact sn m f n l h q (.pointer p) (.pointer none) p.isNone (bH b) (bH c) (by simp) (by simp) (by simp) (by simp) (by simp) (by simp) (Dt r _) d
 ·exact d.elim
theorem Ht {t v e:TypeId}{neg:Bool}{y z:Operand}{j h:X}(r:St F L w) (q:aG L ρ a) (s:∀k,o.dst=some k->k<a.tmps.size)
  (l:o.op=.binOp (if neg then .neq else .eql) t y z v) (x:P.underlying t=some (.slice e)) (hy:bw y=some j) (u:bw z=some h) (b:evalOp P (.eqS neg j h) o.dst F L ρ K):o.wp P a w (bh F L w a K) Q:=by
 simp only[evalOp,aL] at b;split at b
 ·rename_i p n c n' m d f;exact sn r q s l hy u (.slice p n c) (.slice none n' m) p.isNone (bH d) (bH f) (by simp) (by simp) (by simp) (by simp) (by simp) (by simp) (OM x _ _ _ _ _) b
 ·exact b.elim
theorem Hu {t u:TypeId}{ps v:Array TypeId}{s neg:Bool}{y z:Operand}{r p:X}(j:St F L w) (h:aG L ρ a) (l:∀k,o.dst=some k->k<a.tmps.size)
  (e:o.op=.binOp (if neg then .neq else .eql) t y z u) (n:P.underlying t=some (.func ps v s)) (q:bw y=some r) (m:bw z=some p) (d:evalOp P (.eqF neg r p) o.dst F L ρ K):o.wp P a w (bh F L w a K) Q:=by
 simp only[evalOp,aL] at d;split at d
 ·rename_i b c;exact sn j h l e q m .nilFunc .nilFunc true (bH b) (bH c) (by simp) (by simp) (by simp) (by simp) (by simp) (by simp) (OO n) d
 ·rename_i f x y b c;exact sn j h l e q m (.func f x y) .nilFunc false (bH b) (bH c) (by simp) (by simp) (by simp) (by simp) (by simp) (by simp) (OP n) d
 ·exact d.elim
theorem FP {z:Operand}{b:X}(h:bw z=some b) (k:wF b=true):z=.const .nilIface:=by
 unfold wF at k;split at k
 ·cases z with
  | const v=>simp only[bw,yo,X.c.injEq] at h;rw[h]
  | tmp n=>cases h
  | func f=>cases h
  | global g=>cases h
 ·cases k
theorem OQ {t:TypeId}{b:Array (String×TypeId)}(h:P.underlying t=some (.interface b)):(Op.equal t .nilIface .nilIface).run P w=.ok true w:=by
 have key:∀d:Nat,(Op.equalIn (d+1) t .nilIface .nilIface).run P w=.ok true w:=fun d=>by
  simp[Op.equalIn,run_underlying h]
 exact key 9999
theorem OT {t ty:TypeId}{b:Array (String×TypeId)}{u:Value}(h:P.underlying t=some (.interface b)):(Op.equal t (.iface ty u) .nilIface).run P w=.ok false w:=by
 have key:∀d:Nat,(Op.equalIn (d+1) t (.iface ty u) .nilIface).run P w=.ok false w:=fun d=>by
  simp[Op.equalIn,run_underlying h]
 exact key 9999
theorem Hv {t t':TypeId}{ms:Array (String×TypeId)}{neg:Bool}{y z:Operand}{l h:X}(n:St F L w) (f:aG L ρ a) (q:∀k,o.dst=some k->k<a.tmps.size)
  (e:o.op=.binOp (if neg then .neq else .eql) t y z t') (s:P.underlying t=some (.interface ms)) (hy:bw y=some l) (d:bw z=some h) (hn:wF h=true) (c:evalOp P (.eqN neg l) o.dst F L ρ K):o.wp P a w (bh F L w a K) Q:=by
 have ey:=aI hy f;obtain rfl:=FP d hn;simp only[evalOp,aL] at c;split at c
 ·rename_i b;have p:val L ρ l=.nilIface:=bH b;refine bK n f q (v:=.bool (lm neg true)) (x:=.v (.bool (lm neg true))) ?_ rfl bT dK c;have m:∀op:BinOp,(eqGuard op t y (.const .nilIface) .nilIface .nilIface).run P w=.ok () w:=fun op=>by
   cases op<;>simp[eqGuard]
  have r:a.eval (.const .nilIface)=.nilIface:=rfl;have hr:=OQ (P:=P) (w:=w) s;cases neg
  ·simp only[execOp,e,ey,r,p,Sem.run_bind,m,Result.andThen_ok];have:binOp .eql t .nilIface .nilIface=(do pure (.bool (<-Op.equal t .nilIface .nilIface)):Sem Value):=rfl;simp[this,hr,lm]
  ·simp only[execOp,e,ey,r,p,Sem.run_bind,m,Result.andThen_ok];have:binOp .neq t .nilIface .nilIface=(do pure (.bool (!(<-Op.equal t .nilIface .nilIface))):Sem Value):=rfl;simp[this,hr,lm]
 ·rename_i ty u b;have j:val L ρ h=.nilIface:=by
   simp only[bw,yo] at d;rw[<-d];rfl
  exact sn n f q e hy d (.iface ty u) .nilIface false (bH b) j (by simp) (by simp) (by simp) (by simp) (by simp) (by simp) (OT s) c
 ·exact c.elim
theorem BH {l c:List Value}{b r:Bool}(h:jh [] l c b=some r):l=[]/\c=[]/\r=b:=by
 cases l with
 | cons v l=>simp[jh] at h
 | nil =>
  cases c with
  | cons v l=>simp[jh] at h
  | nil=>simp only[jh,yo] at h;exact⟨rfl,rfl,h.symm⟩
theorem zh {ks:List Bool}{l c:List Value}{d r:Bool}(h:jh (true::ks) l c d=some r):∃k a e b f,l=.int k a::e/\c=.int k b::f/\jh ks e f (d&&decide (a=b))=some r:=by
 cases l with
 | nil=>simp[jh] at h
 | cons v l =>
  cases c with
  | nil=>cases v<;>simp[jh] at h
  | cons j c =>
   cases v<;>cases j<;>try (simp[jh] at h;done)
   rename_i k a n b;simp only[jh] at h;split at h
   ·rename_i m;have:=zf m;subst this;exact⟨k,a,l,b,c,rfl,rfl,h⟩
   ·cases h
theorem wI {ks:List Bool}{l c:List Value}{d r:Bool}(h:jh (false::ks) l c d=some r):∃a e b f,l=.bool a::e/\c=.bool b::f/\jh ks e f (d&&decide (a=b))=some r:=by
 cases l with
 | nil=>simp[jh] at h
 | cons v l =>
  cases c with
  | nil=>cases v<;>simp[jh] at h
  | cons j c =>
   cases v<;>cases j<;>try (simp[jh] at h;done)
   rename_i a b;simp only[jh] at h;exact⟨a,l,b,c,rfl,rfl,h⟩
theorem BI (k:IntKind):qf k k=true:=by cases k<;>rfl
theorem Hw:∀{ks:List Bool}{l f:List Value}{d r:Bool},jh ks l f d=some r->∃e,(∀c,jh ks l f c=some (c&&e))/\r=(d&&e):=by
 intro ks
 induction ks with
 | nil =>
  intro l f d r h;obtain⟨rfl,rfl,rfl⟩:=BH h;exact⟨true,fun c=>by simp[jh],by simp⟩
 | cons k ks p =>
  intro l f d r h;cases k with
  | true =>
   obtain⟨k,a,q,b,s,rfl,rfl,j⟩:=zh h;obtain⟨e,m,n⟩:=p j;exact⟨decide (a=b)&&e,fun c=>by simp only[jh,BI,m,Bool.and_assoc],by rw[n,Bool.and_assoc]⟩
  | false =>
   obtain⟨a,q,b,s,rfl,rfl,j⟩:=wI h;obtain⟨e,m,n⟩:=p j;exact⟨decide (a=b)&&e,fun c=>by simp only[jh,m,Bool.and_assoc],by rw[n,Bool.and_assoc]⟩
theorem wJ {t:TypeId}{d:TypeDesc}(c:P.underlying t=some d) (b:dM d=false) {cs:Array Value}{off:Nat}{v:Value}(h:cs[off]?=some v):(part t cs off).run P w=.ok v w:=by
 simp only[part,Sem.run_bind,uw c,Result.andThen_ok,b,aaq,aaO,h,Sem.run_pure]
theorem tC {d:Nat}{xs ys:Array Value}:∀{fs:List Field}{k:Nat}{ks:List Bool}{b:Bool},oQ P fs k=some ks->jh ks (xs.toList.drop k) (ys.toList.drop k) true=some b->(Op.eqFields (d+1) xs ys fs).run P w=.ok b w
 | [],k,ks,b,h,he=>by
  simp only[oQ,yo] at h;subst h;obtain⟨_,_,rfl⟩:=BH he;simp[Op.eqFields]
 | f::fs,k,ks,b,h,he=>by
  have hcons:∀{zs:Array Value}{v:Value}{l:List Value},zs.toList.drop k=v::l->zs[k]?=some v/\zs.toList.drop (k+1)=l:=by
   intro zs v l e;refine⟨?_,?_⟩
   ·have:=j3 (fun q=>q[0]?) e;simp only[aaL,Nat.add_zero,aat] at this;simpa using this
   ·rw[<-List.drop_drop,e];rfl
  have fin:∀{u v:Value}{l l':List Value}{ks':List Bool}{r:Bool}{dd:TypeDesc},P.underlying f.type=some dd->dM dd=false->f.offset=k->f.name≠"_"->xs.toList.drop k=u::l->ys.toList.drop k=v::l'->(Op.equalIn (d+1) f.type u v).run P w=.ok r w ->
    oQ P fs (k+1)=some ks'->jh ks' l l' r=some b->(Op.eqFields (d+1) xs ys (f::fs)).run P w=.ok b w:=by
   intro u v l l' ks' r dd hu hag ho hnm e1 e2 heq hfl hev;obtain⟨a1,a2⟩:=hcons e1;obtain⟨b1,b2⟩:=hcons e2;simp only[Op.eqFields];rw[o6 hnm];simp only[Sem.run_bind,ho,wJ hu hag a1,wJ hu hag b1,Result.andThen_ok,heq];obtain⟨r0,q1,q2⟩:=Hw hev;cases r with
   | false =>
    simp only[abd] at q2;subst q2;simp
   | true =>
    simp only[aa8] at q2;subst q2;simp only[Bool.not_true,aaq,aaO];exact tC hfl (by rw[a2,b2];simpa using q1 true)
  simp only[oQ] at h;split at h
  ·rename_i ki hoff hnm hu;split at h
   case h_2=>cases h
   rename_i ks' hks;injection h with h
   subst h;have hoff:=xo hoff;have hnm:=aaV hnm;obtain⟨k1,x,l1,y,l2,e1,e2,he⟩:=zh he;exact fin hu rfl hoff hnm e1 e2 (run_equalIn_int w d f.type k1 _ x y hu) hks (by rw[show(x == y)=decide (x=y) from rfl];simpa using he)
  ·rename_i hoff hnm hu;split at h
   case h_2=>cases h
   rename_i ks' hks;injection h with h
   subst h;have hoff:=xo hoff;have hnm:=aaV hnm;obtain⟨x,l1,y,l2,e1,e2,he⟩:=wI he;have hb:(x == y)=decide (x=y):=by cases x<;>cases y<;>rfl
   exact fin hu rfl hoff hnm e1 e2 (run_equalIn_bool' w d f.type x y hu) hks (by rw[hb];simpa using he)
  ·cases h
theorem Hy {t t':TypeId}{fs:Array Field}{neg:Bool}{ks:List Bool}{y z:Operand}{u s:X}(hs:St F L w) (h:aG L ρ a) (hd:∀k,o.dst=some k->k<a.tmps.size)
  (m:o.op=.binOp (if neg then .neq else .eql) t y z t') (r:P.underlying t=some (.struct fs)) (hk:oQ P fs.toList 0=some ks) (hp:P.stoodInHeld t=false) (n:P.eqGuardType P.depth t=false) (hy:bw y=some u) (hz:bw z=some s)
  (c:evalOp P (.eqA neg ks u s) o.dst F L ρ K):o.wp P a w (bh F L w a K) Q:=by
 have ey:=aI hy h;have q:=aI hz h;simp only[evalOp,aL] at c;split at c
 case h_2=>exact c.elim
 rename_i cs ds j l;split at c
 case h_2=>exact c.elim
 rename_i b hb;have vy:=bH (L:=L) j;have p:=bH (L:=L) l;have f:P.fieldsOf t=fs:=by simp only[Program.fieldsOf,r]
 have e:(Op.equalIn 10000 t (.agg cs) (.agg ds)).run P w=.ok b w:=by
  rw[show(10000:Nat)=9999+1 from rfl,run_equalIn_agg w 9999 t cs ds (by rw[f];exact r) hp,f];exact tC (d:=9998) hk (by simpa using hb)
 refine bK hs h hd (v:=.bool (lm neg b)) (x:=.v (.bool (lm neg b))) ?_ rfl bT dK c;cases neg
 ·simp only[execOp,m,ey,q,vy,p,Sem.run_bind,run_eqGuard_agg w _ t y z cs ds n,Result.andThen_ok];simp[run_eql_struct,e,lm]
 ·simp only[execOp,m,ey,q,vy,p,Sem.run_bind,run_eqGuard_agg w _ t y z cs ds n,Result.andThen_ok];simp[run_neq_struct,e,lm]
end
section
variable {P:Program}{F:aD}{L:Loc}{ρ:Env}{a:Act}{w:World}{K:cS}{o:Oper}{Q:Exit->Act->World->Prop}
theorem QV {t:TypeId}{op:UnOp}{y:Operand}{m:X}(f:St F L w) (e:aG L ρ a) (j:∀k,o.dst=some k->k<a.tmps.size)
  (h:o.op=.unOp op t y) (p:bw y=some m) (d:evalOp P (.un op m) o.dst F L ρ K):o.wp P a w (bh F L w a K) Q:=by
 have l:=aI p e;simp only[evalOp,aL] at d;split at d
 ·rename_i b c;refine bK f e j (v:=.bool (!b)) (x:=.v (.bool (!b))) ?_ rfl bT dK d;simp[execOp,h,l,bH c,Op.unary]
 ·rename_i k n c;obtain⟨d⟩:=d;refine bK f e j (v:=.int k (k.wrap (0-n))) (x:=.v (.int k (k.wrap (0-n)))) ?_ rfl bT dK d;simp[execOp,h,l,bH c,Op.unary,Op.intArith]
 ·rename_i k n c;refine bK f e j ?_ rfl bT dK d;simp[execOp,h,l,bH c,Op.unary,Op.intBits];rfl
 ·exact d.elim
theorem KR {s t:TypeId}{k f:IntKind}{y:Operand}{d:X}(h:St F L w) (e:aG L ρ a) (l:∀k,o.dst=some k->k<a.tmps.size)
  (j:o.op=.convert s t y) (r:P.underlying s=some (.int f)) (m:P.underlying t=some (.int k)) (q:bw y=some d) (b:evalOp P (.conv k d) o.dst F L ρ K):o.wp P a w (bh F L w a K) Q:=by
 have p:=aI q e;simp only[evalOp,aL] at b;split at b
 ·rename_i u n c;obtain⟨b⟩:=b;refine bK h e l (v:=.int k (k.wrap n)) (x:=.v (.int k (k.wrap n))) ?_ rfl bT dK b;simp[execOp,j,p,bH c,convert,run_underlying r,run_underlying m,Conv.intToInt]
 ·exact b.elim
theorem FQ (bs:List UInt8):∀s:ByteArray,((bs.map fun b=>(b.toNat:Int)).foldl (fun r n=>r.push (UInt8.ofNat n.toNat)) s).data.toList=s.data.toList++bs:=by
 induction bs with
 | nil=>intro s;simp
 | cons b bs c =>
  intro s;simp only[aao,List.foldl_cons];rw[c];simp[ByteArray.push]
theorem OU {s t e:TypeId}{y:Operand}{y':X}(hs:St F L w) (he:aG L ρ a) (hd:∀k,o.dst=some k->k<a.tmps.size)
  (ho:o.op=.convert s t y) (h1:P.underlying s=some (.slice e)) (h2:P.underlying t=some .string) (h3:P.underlying e=some (.int .u8)) (hy:bw y=some y') (hK:evalOp P (.b2s y') o.dst F L ρ K):o.wp P a w (bh F L w a K) Q:=by
 have ey:=aI hy he;simp only[evalOp,aL] at hK;split at hK
 case h_2=>exact hK.elim
 rename_i ad n c an;obtain⟨cs,f,p,⟨bs,rfl,hK⟩⟩:=hK;refine bK hs he hd (v:=.string ⟨bs.toArray⟩) (x:=.v (.string ⟨bs.toArray⟩)) ?_ rfl bT dK hK;simp only[execOp,ho,ey,bH an,Sem.run_bind,run_convert_bytes_string w s t e ad n c h1 h3 h2];cases ad with
 | none =>
  rcases p with p | ⟨_,_,_,_,_,_,_,_,_,e,_⟩ | q | ⟨_,_,_,_,_,_,_,e,_⟩
  ·obtain⟨_,e,_⟩:=p.cell hs;cases e
  ·cases e
  ·rw[q] at f;have:bs=[]:=aaG (by simpa using f);subst this;simp[Conv.bytesToString];rfl
  ·cases e
 | some ad =>
  have ab:∀i v,(bs.map fun b=>Value.int .u8 b.toNat)[i]?=some v->w.cell? (ad.add i)=some v:=by
   rcases p with p | ⟨k,v,t',sz,m,xs,ap,c',hk,l,e2,p⟩ | q | ⟨k,g,t',bx,o',hk,ao,l,p⟩
   ·obtain⟨ap,e,bc,al⟩:=p.cell hs;injection e with e
    subst e;intro i v hv;have:=al i v hv
    rwa [Nat.zero_add] at this
   ·injection l with l
    subst l;have j:=hs.own k _ hk;simp only[Own.ok] at j;subst e2;intro i u hu;have hb:=p i u hu;rw[Nat.zero_add] at hb;have h0:=World.ownsRow.cells j (g:=ad.block) rfl i u hb;rcases j.2 with⟨e,_⟩ | ⟨g,cap,aE,e,_⟩
    ·cases e
    ·injection e with l e2 e3
     injection l with l
     subst l;exact h0
   ·intro i v hv;rw[q] at f;have:bs=[]:=aaG (by simpa using f);subst this;simp at hv
   ·injection l with l
    subst l;intro i u hu;rw[cm,nE ao (hs.own k _ hk)];have:=p i u hu
    rwa [Nat.add_zero] at this
  have h:=run_loadCells_list (P:=P) w ad _ ab;rw[f] at h;have hb:=run_bytesToString (P:=P) w ad n c (bs.map fun b=>(b.toNat:Int)) (by rw[h];simp);rw[hb];simp only[Result.andThen_ok,Sem.run_pure];congr 3;have:=FQ bs ByteArray.empty;generalize(bs.map fun b=>(b.toNat:Int)).foldl (fun r n=>r.push (UInt8.ofNat n.toNat)) ByteArray.empty=z at this ⊢;obtain⟨d⟩:=z;congr 1;apply Array.ext';simpa using this
theorem KS {f:FuncId}{fi ca:Array Operand}{b c:List X}(e:St F L w) (d:aG L ρ a) (l:∀k,o.dst=some k->k<a.tmps.size)
  (h:o.op=.makeFunc (.func f) fi ca) (p:gP fi.toList=some b) (n:gP ca.toList=some c) (m:evalOp P (.mkfn f b c) o.dst F L ρ K):o.wp P a w (bh F L w a K) Q:=by
 have j:fi.map a.eval=(bq L ρ b).toArray:=by apply Array.ext';simpa using fQ p d
 have q:ca.map a.eval=(bq L ρ c).toArray:=by apply Array.ext';simpa using fQ n d
 refine bK e d l ?_ rfl bT dK m;simp[execOp,h,Instr.makeFunc,j,q];rfl
theorem KT {i:Nat}{y:Operand}{d:X}(f:St F L w) (e:aG L ρ a) (j:∀k,o.dst=some k->k<a.tmps.size)
  (h:o.op=.extract y i) (n:bw y=some d) (b:evalOp P (.extr d i) o.dst F L ρ K):o.wp P a w (bh F L w a K) Q:=by
 have m:=aI n e;simp only[evalOp,aL] at b;split at b
 case h_2=>exact b.elim
 rename_i vs c;split at b
 case h_2=>exact b.elim
 rename_i v l;refine bK f e j (v:=v) (x:=.v v) ?_ rfl bT dK b;have:vs[i]?=some v:=by simpa using l
 simp[execOp,h,m,bH c,Instr.extract,this]
theorem FR {t f:Nat}{y:Operand}{u:X}{fs:Array Field}{b:Field}{d:TypeDesc}{i:TypeInfo}{n:Nat}(hs:St F L w) (s:aG L ρ a) (hd:∀k,o.dst=some k->k<a.tmps.size)
  (z:o.op=.field t y f) (ht:P.underlying t=some (.struct fs)) (hf:fs[f]?=some b) (m:P.underlying b.type=some d) (hi:P.info? b.type=some i) (hy:bw y=some u)
  (j:n=match dM d with | true=>i.size | false=>1) (c:evalOp P (.fieldV (dM d) b.offset n u) o.dst F L ρ K):o.wp P a w (bh F L w a K) Q:=by
 have ey:=aI hy s;simp only[evalOp,aL] at c;split at c
 case h_2=>exact c.elim
 rename_i cs l;split at c
 case h_2=>exact c.elim
 rename_i p;have p:=iT p;refine bK hs s hd (v:=gO (dM d) ((cs.toList.drop b.offset).take n)) (x:=.v (gO (dM d) ((cs.toList.drop b.offset).take n))) ?_ rfl bT dK c;simp only[execOp,z,ey,bH l,Instr.field,Sem.run_bind,run_underlying ht,Result.andThen_ok,hf,asAgg,Sem.run_pure,part,uw m];cases e:dM d with
 | true =>
  simp only[e] at j;simp only[aaD,Sem.run_bind,sizeOf,typeInfo,run_program,Result.andThen_ok,hi,Sem.run_pure];subst j;have q:cs.extract b.offset (b.offset+i.size)=((cs.toList.drop b.offset).take i.size).toArray:=by
   apply Array.ext';rw[Array.toList_extract];simp[List.extract_eq_take_drop]
  simp[gO,q]
 | false =>
  simp only[e] at j;subst j;have:∃v,cs[b.offset]?=some v/\(cs.toList.drop b.offset).take 1=[v]:=by
   match h:cs.toList.drop b.offset,p with
   | v::r,_ =>
    refine⟨v,?_,by simp⟩;have:=j3 (·[0]?) h;simpa using this
  obtain⟨v,h1,h2⟩:=this;simp[h1,h2,gO]
theorem FT {t f:Nat}{y:Operand}{u:X}{fs:Array Field}{h:Field}{i:TypeInfo}(q:St F L w) (n:aG L ρ a) (r:∀k,o.dst=some k->k<a.tmps.size)
  (ho:o.op=.fieldAddr t y f) (ht:P.underlying t=some (.struct fs)) (hf:fs[f]?=some h) (hi:P.info? h.type=some i) (l:i.size≠0) (s:bw y=some u)
  (m:evalOp P (.fieldA h.offset u) o.dst F L ρ K):o.wp P a w (bh F L w a K) Q:=by
 have ey:=aI s n;have run:∀d:Addr,val L ρ u=.pointer (some d)->(execOp a.eval o).run P w=.ok (.value (.pointer (some (d.add h.offset)))) w:=by
  intro d hv;simp[execOp,ho,ey,hv,Instr.fieldAt,run_underlying ht,hf,Instr.sureAddr,fieldPlace,sizeOf,typeInfo,hi,l]
 simp only[evalOp,aL] at m;split at m
 ·rename_i k off c;obtain⟨g,ty,cs,p⟩:=og s n c;refine bK q n r (v:=.pointer (some ⟨g,off+h.offset,none⟩)) (x:=.own k (off+h.offset)) ?_ (by simp only[conc,p]) (fun k' aa e=>by injection e with e1 e2;subst e1;exact⟨g,ty,cs,p⟩) (fun _ _ e=>by cases e) m;rw[run ⟨g,off,none⟩ (by simp only[val,c,conc,p]),cm]
 ·rename_i d j c;have l:=q9 s n c;cases d with
  | none=>exact vv rfl l
  | some d =>
   refine bK q n r (v:=.pointer (some (d.add (j+h.offset)))) (x:=.el (some d) (j+h.offset)) ?_ rfl (fun _ _ e=>by cases e) (fun z j' e=>by injection e with e1 e2;subst e1;simp) m;rw[run (d.add j) (by simp only[val,c,conc])];congr 4;obtain⟨b,o',sp⟩:=d;unfold Addr.add
   by_cases h1:j=0<;>by_cases h2:h.offset=0<;>simp[h1,h2,Nat.add_assoc]
 ·rename_i d c;refine bK q n r (v:=.pointer (some (d.add h.offset))) (x:=.el (some d) h.offset) ?_ rfl (fun _ _ e=>by cases e) (fun z j' e=>by injection e with e1 e2;subst e1;simp) m;rw[run d (bH c)]
 ·exact m.elim
theorem KU {t e:TypeId}{y z:Operand}{q p:X}{i:TypeInfo}(s:St F L w) (f:aG L ρ a) (u:∀k,o.dst=some k->k<a.tmps.size)
  (r:o.op=.indexAddr t y z) (ht:P.underlying t=some (.slice e)) (hi:P.info? e=some i) (hy:bw y=some q) (hz:bw z=some p)
  (b:evalOp P (.idxA i.size q p) o.dst F L ρ K):o.wp P a w (bh F L w a K) Q:=by
 have ey:=aI hy f;have ez:=aI hz f;simp only[evalOp,aL] at b;split at b
 case h_2=>exact b.elim
 rename_i d n c k j l m;obtain⟨h,h1,h2,b⟩:=b;cases d with
 | none=>exact vv rfl h
 | some d =>
  refine bK s f u (v:=.pointer (some (d.add (j.toNat*i.size)))) (x:=.el (some d) (j.toNat*i.size)) ?_ rfl (fun _ _ e=>by cases e) (fun an j' e=>by injection e with e1 e2;subst e1;simp) b;simp[execOp,r,ey,ez,bH l,bH m,Instr.indexAt,asIntOf,run_underlying ht,h1,h2,sizeOf,typeInfo,hi]
theorem KV {t:TypeId}{y z:Operand}{m l:X}(p:St F L w) (e:aG L ρ a) (q:∀k,o.dst=some k->k<a.tmps.size)
  (n:o.op=.index t y z) (ht:P.underlying t=some .string) (hy:bw y=some m) (r:bw z=some l)
  (b:evalOp P (.idxS m l) o.dst F L ρ K):o.wp P a w (bh F L w a K) Q:=by
 have ey:=aI hy e;have u:=aI r e;simp only[evalOp,aL] at b;split at b
 case h_2=>exact b.elim
 rename_i s k j f h;obtain⟨h1,h2,b⟩:=b;refine bK p e q (v:=.int .u8 ((s.data.toList.getD j.toNat 0).toNat)) (x:=.v (.int .u8 ((s.data.toList.getD j.toNat 0).toNat))) ?_ rfl bT dK b;have c:j.toNat<s.size:=by omega
 have d:s[j.toNat]?=some (s.data.toList.getD j.toNat 0):=by
  have h3:j.toNat<s.data.toList.length:=by simpa using c
  rw[getElem?_pos s j.toNat c,List.getD_eq_getElem?_getD,aag h3];simp;rfl
 simp[execOp,n,ey,u,bH f,bH h,Instr.index,asIntOf,run_underlying ht,h1,d]
theorem OV {t e:TypeId}{y:Operand}{j:X}{c:Call}(m:St F L w) (h:aG L ρ a) (p:∀k,o.dst=some k->k<a.tmps.size)
  (l:o.op=.call c) (q:c.callee=.builtin .len) (s:c.args=#[y]) (f:c.argTypes=#[t]) (r:P.underlying t=some (.slice e)) (u:bw y=some j)
  (b:evalOp P (.len j) o.dst F L ρ K):o.wp P a w (bh F L w a K) Q:=by
 have z:=aI u h;simp only[evalOp,aL] at b;split at b
 ·rename_i ad n cp d;refine bK m h p (v:=.int .i64 n) (x:=.v (.int .i64 n)) ?_ rfl bT dK b;simp[execOp,l,resolve,q,s,f,invoke,builtin,Builtin.len_,z,bH d,run_underlying r,goInt]
 ·exact b.elim
theorem KW {t:TypeId}{y:Operand}{f:X}{c:Call}(j:St F L w) (h:aG L ρ a) (m:∀k,o.dst=some k->k<a.tmps.size)
  (l:o.op=.call c) (p:c.callee=.builtin .len) (q:c.args=#[y]) (e:c.argTypes=#[t]) (n:P.underlying t=some .string) (u:bw y=some f)
  (b:evalOp P (.lenS f) o.dst F L ρ K):o.wp P a w (bh F L w a K) Q:=by
 have r:=aI u h;simp only[evalOp,aL] at b;split at b
 ·rename_i s d;refine bK j h m (v:=.int .i64 s.size) (x:=.v (.int .i64 s.size)) ?_ rfl bT dK b;simp[execOp,l,resolve,p,q,e,invoke,builtin,Builtin.len_,r,bH d,run_underlying n,goInt]
 ·exact b.elim
theorem KX {t e:TypeId}{y:Operand}{l:X}{c:Call}(p:St F L w) (h:aG L ρ a) (q:∀k,o.dst=some k->k<a.tmps.size)
  (m:o.op=.call c) (r:c.callee=.builtin .cap) (u:c.args=#[y]) (f:c.argTypes=#[t]) (s:P.underlying t=some (.slice e)) (z:bw y=some l)
  (b:evalOp P (.capa l) o.dst F L ρ K):o.wp P a w (bh F L w a K) Q:=by
 have ey:=aI z h;simp only[evalOp,aL] at b;split at b
 ·rename_i ad n j d;refine bK p h q (v:=.int .i64 j) (x:=.v (.int .i64 j)) ?_ rfl bT dK b;simp[execOp,m,resolve,r,u,f,invoke,builtin,Builtin.cap_,ey,bH d,run_underlying s,goInt]
 ·exact b.elim
theorem Hz {L:Loc}{ρ:Env}:∀{xs:List X},bq L ρ xs=(xs.map (ev ρ)).map (conc L)
 | []=>rfl
 | _::xs=>by simp[bq,val,Hz (xs:=xs)]
theorem OW (mx:Bool) (k:IntKind):∀(l:List SV) (d m:Int),Ny mx d l=some m ->
  ((l.map (conc L)).foldlM (if mx then Builtin.max2 else Builtin.min2) (.int k d)).run P w=.ok (.int k m) w:=by
 intro l
 induction l with
 | nil=>intro d m h;simp only[Ny,yo] at h;subst h;rfl
 | cons x l e =>
  intro d m h;unfold Ny at h;split at h
  ·rename_i c;cases c
  ·rename_i f b j c;injection c with h1 h2
   subst h1 h2;have:=e _ _ h;cases mx
   ·simp only[aao,List.foldlM_cons,conc,Sem.run_bind];simp only[aaq,aaO] at this ⊢;simp only[Builtin.min2,Sem.run_pure,Result.andThen_ok];exact this
   ·simp only[aao,List.foldlM_cons,conc,Sem.run_bind];simp only[aaD] at this ⊢;simp only[Builtin.max2,Sem.run_pure,Result.andThen_ok];exact this
  ·cases h
theorem NA {mx:Bool}{c:Call}{xs:List X}(p:St F L w) (j:aG L ρ a) (q:∀k,o.dst=some k->k<a.tmps.size)
  (h:o.op=.call c) (f:c.callee=.builtin (if mx then .max else .min)) (t:gP c.args.toList=some xs)
  (d:evalOp P (.mm mx xs) o.dst F L ρ K):o.wp P a w (bh F L w a K) Q:=by
 have b:=fQ t j;rw[Hz] at b;simp only[evalOp,aL] at d;split at d
 case h_2=>exact d.elim
 rename_i k n l r;split at d
 case h_2=>exact d.elim
 rename_i m s;rw[r] at b;have e:=OW (P:=P) (L:=L) (w:=w) mx k l n m s;refine bK p j q (v:=.int k m) (x:=.v (.int k m)) ?_ rfl bT dK d;cases mx
 ·simp only[aaq,aaO] at f e;simp only[execOp,h,resolve,f,invoke,builtin,Builtin.min_,Sem.run_bind,Sem.run_pure,Result.andThen_ok,Array.toList_map,b,aao,conc,e]
 ·simp only[aaD] at f e;simp only[execOp,h,resolve,f,invoke,builtin,Builtin.max_,Sem.run_bind,Sem.run_pure,Result.andThen_ok,Array.toList_map,b,aao,conc,e]
theorem KY {t:TypeId}{d:TypeDesc}{y:Operand}{r:X}(l:St F L w) (f:aG L ρ a) (m:∀k,o.dst=some k->k<a.tmps.size)
  (h:o.op=.makeInterface t y) (n:P.underlying t=some d) (e:∀u,d≠.interface u) (z:bw y=some r) (c:evalOp P (.mkif t r) o.dst F L ρ K):o.wp P a w (bh F L w a K) Q:=by
 have p:=aI z f;simp only[evalOp,aL] at c;split at c
 ·rename_i v b;refine bK l f m (v:=.iface t v) (x:=.v (.iface t v)) ?_ rfl bT dK c;simp only[execOp,h,p,bH b,Instr.makeInterface];simp only[Sem.run_bind,Sem.run_map,run_underlying n,Result.andThen_ok];cases d<;>first | exact vv rfl (e _) | simp
 ·rename_i q j b;refine bK l f m (v:=.iface t (.pointer (some (q.add j)))) (x:=.v (.iface t (.pointer (some (q.add j))))) ?_ rfl bT dK c;simp only[execOp,h,p,val,b,conc,Instr.makeInterface];simp only[Sem.run_bind,Sem.run_map,run_underlying n,Result.andThen_ok];cases d<;>first | exact vv rfl (e _) | simp
 ·rename_i k off b;split at c
  case h_2=>exact c.elim
  rename_i g t' cs s;refine bK l f m (v:=.iface t (.pointer (some ⟨g,off,none⟩))) (x:=.v (.iface t (.pointer (some ⟨g,off,none⟩)))) ?_ rfl bT dK c;simp only[execOp,h,p,val,b,conc,s,Instr.makeInterface];simp only[Sem.run_bind,Sem.run_map,run_underlying n,Result.andThen_ok];cases d<;>first | exact vv rfl (e _) | simp
 ·exact c.elim
theorem OX {t xt:TypeId}{d:TypeDesc}{i:TypeInfo}{z:Value}{y:Operand}{r:X}(l:St F L w) (h:aG L ρ a) (m:∀k,o.dst=some k->k<a.tmps.size)
  (j:o.op=.typeAssert y xt t true) (n:P.underlying t=some d) (f:∀s,d≠.interface s) (hi:P.info? t=some i) (q:i.zero=some z) (hy:bw y=some r) (c:evalOp P (.tas t z r) o.dst F L ρ K):o.wp P a w (bh F L w a K) Q:=by
 have p:=aI hy h;simp only[evalOp,aL] at c;split at c
 ·rename_i b;refine bK l h m (v:=.tuple #[z,.bool false]) (x:=.v (.tuple #[z,.bool false])) ?_ rfl bT dK c;simp only[execOp,j,p,bH b,Instr.typeAssert];simp only[Sem.run_bind,Sem.run_map,run_underlying n,Result.andThen_ok];cases d<;>first | exact vv rfl (f _) | simp[zeroValue,typeInfo,hi,q]
 ·rename_i t' u b;split at c
  ·rename_i hb;have hb:=xo hb;refine bK l h m (v:=.tuple #[u,.bool true]) (x:=.v (.tuple #[u,.bool true])) ?_ rfl bT dK c;simp only[execOp,j,p,bH b,Instr.typeAssert];simp only[Sem.run_bind,Sem.run_map,run_underlying n,Result.andThen_ok];cases d<;>first | exact vv rfl (f _) | simp[hb]
  ·rename_i hb;have hb:t'≠t:=fun e=>by rw[e,Nat.beq_refl] at hb;cases hb
   refine bK l h m (v:=.tuple #[z,.bool false]) (x:=.v (.tuple #[z,.bool false])) ?_ rfl bT dK c;simp only[execOp,j,p,bH b,Instr.typeAssert];simp only[Sem.run_bind,Sem.run_map,run_underlying n,Result.andThen_ok];cases d<;>first | exact vv rfl (f _) | simp[zeroValue,typeInfo,hi,q,hb]
 ·exact c.elim
theorem Ev:∀{l:List (TypeId×String)}{t:TypeId}{nm:String},Nv l t nm=true->(t,nm)∈l
 | [],_,_,h=>by cases h
 | (t,nm)::l,e,b,h=>by
  simp only[Nv] at h;split at h
  ·rename_i d c;rw[<-xo d,<-aaz c];exact List.mem_cons_self ..
  ·exact aaH _ (Ev h)
theorem zi {t:TypeId}{nm:String}{f:FuncId}(h:n9 P t nm=some f):∃i m b d,P.info? t=some i/\i.methods.find? (·.name == nm)=some m/\m.path.toList=[]/\m.func=some (f,b)/\P.underlying t=some d /\
  ((∃e,d=.pointer e/\b=true)\/((∀e,d≠.pointer e)/\b=false)):=by
 simp only[n9] at h;split at h
 case h_2=>cases h
 rename_i i hi;split at h
 case h_2=>cases h
 rename_i m k;split at h
 case h_2=>cases h
 rename_i q b n l;split at h
 ·rename_i e c;injection h with h;subst h
  exact⟨i,m,_,_,hi,k,n,l,c,.inl ⟨_,rfl,rfl⟩⟩
 ·cases h
 ·rename_i d j c;injection h with h;subst h
  exact⟨i,m,_,_,hi,k,n,l,c,.inr ⟨fun e p=>j e p,rfl⟩⟩
 ·cases h
theorem zj (P:Program):∃n,P.types.size+Made.depth=n+1:=⟨P.types.size+99,by simp[Made.depth]⟩
theorem FU {t:TypeId}{nm:String}{f:FuncId}(h:n9 P t nm=some f) (v:Value) (w:World):(method (P.types.size+Made.depth) t v nm).run P w=.ok (f,v) w:=by
 obtain⟨i,m,r,d,l,p,q,c,k,b⟩:=zi h;obtain⟨n,j⟩:=zj P;rw[j];simp only[method,Sem.run_bind,typeInfo,run_program,Result.andThen_ok,l,Sem.run_pure,p,q,follow,c,receiverAt,run_underlying k];rcases b with⟨e,rfl,rfl⟩ | ⟨b,rfl⟩
 ·simp only[Place.get,Sem.run_pure,Result.andThen_ok]
 ·cases d<;>first | exact vv rfl (b _) | simp only[Place.get,Sem.run_pure,Result.andThen_ok]
theorem FV {t:TypeId}{nm:String}{f:FuncId}(h:n9 P t nm=some f) (v:Value) (w:World):(nilAhead (P.types.size+Made.depth) t v nm).run P w=.ok (some false) w:=by
 obtain⟨i,m,r,d,l,p,q,c,k,b⟩:=zi h;obtain⟨n,j⟩:=zj P;rw[j];simp only[nilAhead,Sem.run_bind,typeInfo,run_program,Result.andThen_ok,l,Sem.run_pure,p,q,followBlind,c];rcases b with⟨e,rfl,rfl⟩ | ⟨b,rfl⟩
 ·rfl
 ·simp only[Sem.run_bind,run_underlying k,Result.andThen_ok];cases d<;>first | exact vv rfl (b _) | rfl
theorem KZ {nm:String}{fi ca:Array Operand}{c:X}(f:St F L w) (e:aG L ρ a) (j:∀k,o.dst=some k->k<a.tmps.size)
  (h:o.op=.makeFunc (.method nm) fi ca) (n:gP fi.toList=some [c]) (m:ca.toList=[]) (b:evalOp P (.mkmv nm c) o.dst F L ρ K):o.wp P a w (bh F L w a K) Q:=by
 have d:fi.map a.eval=(bq L ρ [c]).toArray:=by apply Array.ext';simpa using fQ n e
 have p:ca=#[]:=by apply Array.ext';exact m
 simp only[evalOp,aL] at b;split at b
 case h_2=>exact b.elim
 rename_i v l;refine bK f e j (v:=.func (.method nm) #[v] #[]) (x:=.v (.func (.method nm) #[v] #[])) ?_ rfl bT dK b;simp only[bq,bH l] at d;simp[execOp,h,Instr.makeFunc,d,p]
theorem K0 {t:TypeId}{nm:String}{fi ca:Array Operand}(b:St F L w) (j:aG L ρ a) (f:∀k,o.dst=some k->k<a.tmps.size)
  (d:o.op=.makeFunc (.methodOf t nm) fi ca) (m:fi.toList=[]) (l:ca.toList=[]) (h:evalOp P (.mov (.c (.func (.methodOf t nm) #[] #[]))) o.dst F L ρ K):o.wp P a w (bh F L w a K) Q:=by
 have e:fi=#[]:=by apply Array.ext';exact m
 have n:ca=#[]:=by apply Array.ext';exact l
 refine bK b j f (v:=.func (.methodOf t nm) #[] #[]) (x:=.v (.func (.methodOf t nm) #[] #[])) ?_ rfl bT dK h;simp[execOp,d,Instr.makeFunc,e,n]
theorem BJ {t:TypeId}{g k:Nat}{d:TypeDesc}{i:TypeInfo}(h:St F L w) (p:aG L ρ a) (q:∀k,o.dst=some k->k<a.tmps.size)
  (m:o.op=.load t (.global g)) (r:P.underlying t=some d) (hi:P.info? t=some i) (c:dM d=false) (hg:vQ g=some k) (e:evalOp P (.gload g) o.dst F L ρ K):o.wp P a w (bh F L w a K) Q:=by
 simp only[evalOp,aL] at e;obtain⟨v,ty,fr,z,e⟩:=e;have s:=h.frz _ _ z;refine bK h p q (v:=v) (x:=.v v) ?_ rfl bT dK e;have y:a.eval (.global g)=.pointer (some ⟨g,0,none⟩):=rfl;have b:∀(j:Nat) (u:Value),[v][j]?=some u->w.cell? ((⟨g,0,none⟩:Addr).add j)=some u:=by
  intro j u f;cases j with
  | zero =>
   simp only[aat,yo] at f;subst f;rw[cm];simp[World.cell?,s]
  | succ j=>simp at f
 have l:=oS r hi b (n:=1) rfl (by rw[c]);rw[c] at l;simp only[execOp,m,y,Sem.run_bind,l,Result.andThen_ok,Sem.run_pure,gO]
theorem K1 {t key e:TypeId}{y z:Operand}{u s:X}{j:TypeInfo}(q:St F L w) (f:aG L ρ a) (hd:∀k,o.dst=some k->k<a.tmps.size)
  (ho:o.op=.lookup t y z true) (ht:P.underlying t=some (.map key e)) (hk:P.underlying key=some (.int .i64)) (hi:P.info? e=some j) (hz:j.zero=some (.int .i64 0)) (hy:bw y=some u) (l:bw z=some s) (c:evalOp P (.look u s) o.dst F L ρ K):o.wp P a w (bh F L w a K) Q:=by
 have ey:=aI hy f;have ez:=aI l f;simp only[evalOp] at c;split at c
 case h_2=>exact c.elim
 rename_i mv n hm hn;obtain⟨k,r,b,h1,h2,c⟩:=c;obtain⟨m,es,cl,rfl,h3,h4,o',h5,h6⟩:=He h1 h2;have hh:=q.frz _ _ h3;refine bK q f hd (v:=.tuple #[.int .i64 r,.bool b]) (x:=.v (.tuple #[.int .i64 r,.bool b])) ?_ rfl bT dK c;have d:(getObj m).run P w=.ok (.map es cl) w:=by simp[getObj,Sem.run,hh]
 have h:(Instr.checkKey es.isEmpty 10000 key (.int .i64 n)).run P w=.ok () w:=by
  rw[show(10000:Nat)=9999+1 from rfl,Instr.checkKey];simp only[Sem.run_bind,run_underlying hk,Result.andThen_ok,Sem.run_pure]
 have p:(Instr.findKey key (.int .i64 n) es.toList).run P w=.ok o' w:=by
  simp only[Instr.findKey,Sem.run_bind,run_underlying hk,Result.andThen_ok,h5,Sem.run_pure]
 simp only[execOp,ho,ey,ez,bH hm,bH hn,Instr.lookup,Sem.run_bind,run_underlying ht,Result.andThen_ok,d,Sem.run_pure,h,p];rcases h6 with⟨rfl,i,rfl⟩ | ⟨rfl,rfl,rfl⟩
 ·simp only[Sem.run_bind,Sem.run_pure,Result.andThen_ok,aaD]
 ·simp only[Sem.run_bind,zeroValue,typeInfo,run_program,Result.andThen_ok,hi,hz,Sem.run_pure,aaD]
theorem HA {y:Operand}{y':X}(m:St F L w) (d:aG L ρ a) (n:∀k,o.dst=some k->k<a.tmps.size)
  (l:o.op=.nilCheck y) (hy:bw y=some y') (q:Nw P=true) (c:evalOp P (.nilck y') o.dst F L ρ K):o.wp P a w (bh F L w a K) Q:=by
 have r:=aI hy d;simp only[evalOp,aL] at c;split at c
 ·rename_i k off b;obtain⟨g,ty,cs,s⟩:=og hy d b;refine bK m d n (v:=.pointer (some ⟨g,off,none⟩)) (x:=.own k off) ?_ (by simp only[conc,s]) (fun k' ab e=>by injection e with e1 e2;subst e1;exact⟨g,ty,cs,s⟩) (fun _ _ e=>by cases e) c;simp[execOp,l,r,val,b,conc,s]
 ·rename_i h j b;obtain⟨z,c⟩:=c;cases h with
  | none=>exact vv rfl z
  | some h =>
   refine bK m d n (v:=.pointer (some (h.add j))) (x:=.el (some h) j) ?_ rfl (fun _ _ e=>by cases e) (fun ap j' e=>by injection e with e1 e2;subst e1;simp) c;simp[execOp,l,r,val,b,conc]
 ·rename_i h b;refine bK m d n (v:=.pointer (some h)) (x:=.v (.pointer (some h))) ?_ rfl bT dK c;simp[execOp,l,r,bH b]
 ·rename_i f fi ca b;refine bK m d n (v:=.func (.func f) fi ca) (x:=.v (.func (.func f) fi ca)) ?_ rfl bT dK c;simp[execOp,l,r,bH b]
 ·rename_i nm fi ca b;split at c
  case h_2=>exact c.elim
  rename_i t u aa;obtain⟨hm,c⟩:=c;have h1:=aas.1 q _ (Ev hm);obtain⟨f,hf⟩:=Option.isSome_iff_exists.1 h1;have p:fi[0]?=some (.iface t u):=by rw[<-Array.getElem?_toList,aa];rfl
  refine bK m d n (v:=.func (.method nm) fi ca) (x:=.v (.func (.method nm) fi ca)) ?_ rfl bT dK c;have hn:=FV (P:=P) hf u w;simp only[execOp,l,r,bH b,p,Sem.run_bind,run_program,Result.andThen_ok,Sem.run_pure,hn];rfl
 ·exact c.elim
theorem BK:∀{l:List Value},jA l=true->∀u∈l,u.oneCell'=true
 | [],_,u,b=>by cases b
 | v::l,h,u,b=>by
  simp only[jA] at h;split at h
  ·rename_i c;rcases aal.1 b with rfl | b
   ·exact c
   ·exact BK h u b
  ·cases h
theorem BL {t:TypeId}{i:TypeInfo}(hi:P.info? t=some i) {g off:Nat}{v:Value}{b:Array Value}{ty:TypeId}(f:w.heap[g]?=some (.cells b ty (0,0)))
  (e:v.cells.size=i.size) (d:off+v.cells.size<=b.size) (h:∀u∈v.cells.toList,u.oneCell'=true) :
  (Instr.storeAt t (.pointer (some ⟨g,off,none⟩)) v).run P w=.ok () (w.setRow g (aP b.toList off v.cells.toList).toArray):=by
 have c:=run_storeCells_at P g off ty v.cells.toList 0 b w f (by simpa using d) h;simp only[Nat.add_zero] at c;simp only[Instr.storeAt,Instr.sureAddr,storeVar,Sem.run_bind,Sem.run_pure,Result.andThen_ok,sizeOf,typeInfo,run_program,hi];rw[vz (by omega)];rw[c];rfl
theorem su {c:Type}(b:Array c) (i:Nat) (v:c) (h:b[i]?=some v):b.setIfInBounds i v=b:=by
 apply Array.ext_getElem?;intro j;rw[Array.getElem?_setIfInBounds];split
 ·rename_i e;subst e;split
  ·exact h.symm
  ·rename_i d;rw[Array.getElem?_eq_none (by omega)]
 ·rfl
theorem lX (g o:Nat) (t:TypeId) (d:Nat×Nat) (b:Array Value) (w:World) (e:w.heap[g]?=some (.cells b t d)):∀(vs:List Value) (i:Nat),(∀(n:Nat) (v:Value),vs[n]?=some v->b[o+i+n]?=some v/\oP d (o+i+n))->(∀v∈vs,v.oneCell'=true) ->
  (storeCells ⟨g,o,none⟩ vs i).run P w=.ok () w
 | [],i,_,_=>rfl
 | v::f,i,m,p=>by
  have j:(⟨g,o,none⟩:Addr).add i=⟨g,o+i,none⟩:=by unfold Addr.add;split<;>simp_all
  obtain⟨l,q⟩:=m 0 v (by simp);simp only[Nat.add_zero] at l q;have c:w.cell? ⟨g,o+i,none⟩=some v:=by simp[World.cell?,e,l]
  have h:w.frozen? ⟨g,o+i,none⟩=false:=by
   obtain⟨lo,r⟩:=d;simp only[World.frozen?,e,Bool.and_eq_false_iff,decide_eq_false_iff_not];simp only[oP] at q;omega
  have k:(store ((⟨g,o,none⟩:Addr).add i) v).run P w=.ok () w:=by
   rw[j,run_store P w _ v _ (p v (by simp)),c];simp only[h,setCell_eq_setRow w g (o+i) b t d v e,su b _ v l,setRow_self w g b t d e];simp
  have y:=lX g o t d b w e f (i+1) (fun n u s=>by
   have:=m (n+1) u (by simpa using s)
   rwa [show o+i+(n+1)=o+(i+1)+n by omega] at this) (fun x z=>p x (by simp[z]))
  simp only[storeCells,Sem.run_bind,k,Result.andThen_ok,y]
theorem ol {t:TypeId}{i:TypeInfo}(hi:P.info? t=some i) {g off:Nat}{v:Value}{b:Array Value}{ty:TypeId}{d:Nat×Nat}(h:w.heap[g]?=some (.cells b ty d))
  (e:v.cells.size=i.size) (f:∀(n:Nat) (u:Value),v.cells.toList[n]?=some u->b[off+n]?=some u/\oP d (off+n)) (j:∀u∈v.cells.toList,u.oneCell'=true) :
  (Instr.storeAt t (.pointer (some ⟨g,off,none⟩)) v).run P w=.ok () w:=by
 have c:=lX (P:=P) g off ty d b w h v.cells.toList 0 (by simpa using f) j;simp only[Instr.storeAt,Instr.sureAddr,storeVar,Sem.run_bind,Sem.run_pure,Result.andThen_ok,sizeOf,typeInfo,run_program,hi];rw[vz (by omega)];rw[c]
theorem mh (w:World) (g:Nat) (cs:Array Value):w.grownBy (w.setRow g cs) (some g) :=
 ⟨rfl,rfl,rfl,by simp[World.setRow],fun k _ b=>setRow_other w g k cs (fun e=>b (by rw[e]))⟩
theorem HB {t:TypeId}{y z:Operand}{y' z':X}{i:TypeInfo}(hs:St F L w) (he:aG L ρ a) (hd:∀k,o.dst=some k->k<a.tmps.size)
  (ho:o.op=.store t y z) (hi:P.info? t=some i) (hy:bw y=some y') (hz:bw z=some z')
  (l:evalOp P (.store i.size y' z') o.dst F L ρ K):o.wp P a w (bh F L w a K) Q:=by
 have ey:=aI hy he;have ez:=aI hz he;have al:aJ (val L ρ z')=(a.eval z).cells.toList:=by rw[ez,oh]
 have turn:∀(k:Nat) (g:Nat) (oo o':Own) (f:Array Value) (ty:TypeId) (off:Nat),L.get k=some oo->oo.blk=some g->o'.blk=some g->w.heap[g]?=some (.cells f ty (0,0)) ->
   (a.eval z).cells.size=i.size->off+(a.eval z).cells.size<=f.size->(∀u∈(a.eval z).cells.toList,u.oneCell'=true)->a.eval y=.pointer (some ⟨g,off,none⟩) ->
   o'.ok (w.setRow g (aP f.toList off (a.eval z).cells.toList).toArray)->(∀g' ty' cs',oo=.box g' ty' cs'->∃ag,o'=.box g' ty' ag) ->
   K F (L.set k o') (put o.dst (.v undef) ρ)->o.wp P a w (bh F L w a K) Q:=by
  intro k g oo o' f ty off s hb bl hg bi d h1 aa bv r l;have ab:=mh w g (aP f.toList off (a.eval z).cells.toList).toArray;have bt:St F (L.set k o') (w.setRow g (aP f.toList off (a.eval z).cells.toList).toArray) :=
   hs.turn s bv (fun b ay bc=>ab.block b ay (fun e=>bc (by rw[hb,e]))) (fun g' ap=>.inl (by rw[hb];rw[bl] at ap;exact ap))
  refine tw he hd (w':=w.setRow g (aP f.toList off (a.eval z).cells.toList).toArray) ?_ bt ?_ ?_ l
  ·simp[execOp,ho,aa,BL hi hg bi d h1]
  ·refine⟨aD.le_refl F,rfl,rfl,rfl,ab.size,fun b ay hn=>ab.block b ay (fun e=>hn ⟨k,oo,s,by rw[hb,e]⟩),fun b h=>.inl h,fun b h=>?_⟩;rcases Loc.ZI h with h | h
   ·rw[bl] at h;exact .inl ⟨k,oo,s,by rw[hb];exact h⟩
   ·exact .inl h
  ·intro j g' ty' cs' e;rw[Loc.Zz];split
   ·rename_i hj;subst hj;rw[s] at e;injection e with e
    obtain⟨ag,h⟩:=r g' ty' cs' e;exact⟨ag,by rw[h]⟩
   ·exact⟨cs',e⟩
 have q:∀(ad:Option Addr) (j:Nat),ad≠none->a.eval y=conc L (.el ad j)->fM (aJ (val L ρ z')) i.size=true->jA (aJ (val L ρ z'))=true ->
   (tq F L ad j (aJ (val L ρ z')) fun L'=>K F L' (put o.dst (.v undef) ρ))->o.wp P a w (bh F L w a K) Q:=by
  rintro ad j bc aa p h1 ⟨⟨k,v,ty,sz,m,xs,be,c,s,rfl,rfl,d,an,l⟩ | ⟨⟨be,cx,ty,fz,rfl,hb,ar,hc⟩,an,l⟩⟩
  case inr =>
   have p:=iT p;rw[al] at p an hc;obtain⟨g,off,sp⟩:=be;simp only at ar;subst ar;have hr:=ol (P:=P) hi (off:=off+j) (v:=a.eval z) (hs.frz g _ hb) (by simpa using p) hc an;refine tw he hd (w':=w) ?_ hs ?_ (fun j g' ty' cs' e=>⟨cs',e⟩) l
   ·simp only[conc,cm] at aa;simp[execOp,ho,aa,hr]
   ·exact⟨aD.le_refl F,rfl,rfl,rfl,aaB _,fun b _ _=>rfl,fun b h=>.inl h,fun b h=>.inl h⟩
  have p:=iT p;rw[al] at p an d l;have ax:(a.eval z).cells.size=i.size:=by simpa using p
  have ac:=hs.own k _ s;simp only[Own.ok] at ac;obtain⟨hx,ac⟩:=ac;rcases ac with⟨e,_⟩ | ⟨g,cap,f,e,bx,hg,bd,cb,av,am⟩
  ·cases e
  ·injection e with e1 e2 e3
   injection e1 with e1
   subst e1 e3;have co:m*sz<=f.size:=by rw[av];exact Nat.mul_le_mul_right _ bd
   rw[<-am] at d;have aw:j+(a.eval z).cells.size<=m*sz:=by simp at d;omega
   refine turn k g _ (.row (.slice (some ⟨g,0,none⟩) m c) ty sz m (aP xs j (a.eval z).cells.toList)) f ty j s rfl rfl hg ax (by omega) an (by rw[aa];simp only[conc];rw[cm];simp) ?_ (fun g' ty' cs' e=>by cases e) l;refine⟨?_,.inr ⟨g,c,_,rfl,bx,setRow_heap w g f _ ty _ hg,bd,cb,?_,?_⟩⟩
   ·rw[fJ _ _ _ (by rw[hx];simpa using aw)];exact hx
   ·have:(aP f.toList j (a.eval z).cells.toList).length=f.size:=by rw[fJ _ _ _ (by simp;omega)];simp
    simp[this,av]
   ·rw[List.toList_toArray,<-am];apply aaR;intro n;have bu:j+(a.eval z).cells.toList.length<=f.toList.length:=by simp;omega
    rw[iJ (by simp;omega)]
    by_cases hn:n<m*sz
    ·rw[List.getElem?_take_of_lt hn,iJ bu,List.getElem?_take_of_lt hn]
    ·rw[aar (by simp;omega)];have h1:¬n<j:=by omega
     have h2:¬n<j+(a.eval z).cells.toList.length:=by simp;omega
     rw[vz h1,vz h2,aar (by simp;omega)]
 simp only[evalOp,aL] at l;split at l
 ·rename_i p h1 x;rename_i k off;have p:=iT p;have h1:=BK h1;rw[al] at p h1;split at l
  case h_2=>exact l.elim
  rename_i g ty cs s;split at l
  case h_2=>exact l.elim
  rename_i d;have bk:=vT d;have d:=iT (Ak d);have r:w.heap[g]?=some (.cells cs.toArray ty (0,0)):=by rw[<-iz bk];exact hs.own k _ s
  by_cases h0:i.size=0
  ·have hz:(a.eval z).cells.toList=[]:=aaG (by rw[p,h0]);have ar:aP cs off []=cs:=by simp[aP]
   rw[al,hz,ar] at l;have hr:=ol (P:=P) hi (off:=off) (v:=a.eval z) r (by simpa using p) (by rw[hz];intro n u hu;simp at hu) (by rw[hz];intro u hu;cases hu);have aa:a.eval y=.pointer (some ⟨g,off,none⟩):=by rw[ey];simp only[val,x,conc,s]
   refine tw he hd (w':=w) ?_ (hs.turn s (o':=.box g ty cs) (hs.own k _ s) (fun _ _ _=>rfl) (fun g' ap=>.inl ap)) ?_ (fun j g' ty' cs' e=>?_) l
   ·simp[execOp,ho,aa,hr]
   ·refine⟨aD.le_refl F,rfl,rfl,rfl,aaB _,fun b _ _=>rfl,fun b h=>.inl h,fun b h=>?_⟩;rcases Loc.ZI h with h | h
    ·exact .inl ⟨k,_,s,h⟩
    ·exact .inl h
   ·rw[Loc.Zz];split
    ·rename_i hj;subst hj;rw[s] at e;injection e with e
     injection e with q1 q2 q3
     subst q1 q2;exact⟨_,rfl⟩
    ·exact⟨cs',e⟩
  have ce:off+i.size<=cs.length:=by simp at d;omega
  rw[al] at l;have ax:(a.eval z).cells.size=i.size:=by simpa using p
  refine turn k g _ (.box g ty (aP cs off (a.eval z).cells.toList)) cs.toArray ty off s rfl rfl r ax (by simp;omega) h1 (by rw[ey];simp only[val,x,conc,s]) ?_ (fun g' ty' cs' e=>by injection e with e1 e2 e3;subst e1 e2;exact⟨_,rfl⟩) l;show _=_;rw[iz bk];exact setRow_heap w g cs.toArray _ ty _ r
 ·rename_i p h1 x;exact q _ _ (q9 hy he x) (by rw[ey];simp only[val,x]) p h1 l
 ·rename_i p h1 x;rename_i ad;refine q (some ad) 0 (by simp) (by rw[ey];simp only[val,x,conc];simp[Addr.add]) p h1 l
 ·exact l.elim
end
def Dk (k:IntKind) (n:Nat):List Value:=List.replicate n (.int k 0)
theorem mQ {k:IntKind}{n:Nat}:(Dk k n).length=n:=by simp[Dk]
theorem K2 {k:IntKind}{n:Nat}:∀u∈Dk k n,u.oneCell'=true:=by
 intro u a;obtain rfl:=List.eq_of_mem_replicate a;rfl
theorem oU {k:IntKind}{n:Nat}:Builtin.zeroCells (Value.int k 0).cells n=(Dk k n).toArray:=by
 apply Array.ext';have h:(Value.int k 0).cells=#[.int k 0]:=rfl;rw[h];simp only[Builtin.zeroCells,Dk,List.size_toArray,aau,aaQ,Nat.zero_add,Nat.mul_one,Nat.mod_one];apply List.ext_getElem
 ·simp
 ·intro i b a;simp
section
variable {P:Program}(w:World)
theorem pV (t v ty e:TypeId) (i:TypeInfo) (k h kn:IntKind) (u:P.underlying t=some (.slice e)) (o:P.underlying v=some (.int kn)) (hi:P.info? e=some i) (hz:i.zero=some (.int h 0)) (l:i.size=1)
  (g a c:Nat) (b:Array Value) (x:w.heap[g]?=some (.cells b e (0,0))) (n:Nat) (ad:(n:Int)<=9223372036854775807) (y:n*i.bytes<=281474976710656)
  (f:a+n<=c) (j:a+n<=b.size) :
  (Builtin.append_ #[t,v] ty #[.slice (some ⟨g,0,none⟩) a c,.int k n]).run P w =
   .ok (.slice (some ⟨g,0,none⟩) (a+n) c) (w.setRow g (b.toList.take a++Dk h n++b.toList.drop (a+n)).toArray):=by
 have z:IntKind.i64.wrap (n:Int)=n:=by rw[IntKind.wrap_i64];omega
 have m:¬((n:Int)<0):=by omega
 have p:¬(281474976710656<(n:Int)*(i.bytes:Int)):=by
  rw[<-Int.natCast_mul];omega
 have d:=run_storeCells_at P g a e (Dk h n) 0 b w x (by simpa[mQ] using j) (K2);simp only[Nat.add_zero,mQ] at d
 by_cases s:n=0
 ·subst s;have h0:Dk h 0=[]:=rfl;have q:IntKind.i64.wrap 0=0:=by decide
  have r:a<=c:=by omega
  rw[h0] at d ⊢;simp[Builtin.append_,run_underlying u,run_underlying o,sizeOf,typeInfo,hi,l,asInt,asIntOf,q,r,Addr.add_lit];have h2:w.setRow g b=w.setRow g (b.toList.take a++[]++b.toList.drop a).toArray:=by simp
  simp at d;rw[d];rfl
 ·have hl:(Dk h n)=(Builtin.zeroCells (Value.int h 0).cells n).toList:=by rw[oU]
  rw[hl] at d ⊢;simp[Builtin.append_,run_underlying u,run_underlying o,sizeOf,typeInfo,hi,l,asInt,asIntOf,z,m,p,s,f,Addr.add_lit,zeroValue,hz,d]
theorem run_append_grow_zeros (t y ty e:TypeId) (i:TypeInfo) (k l kn:IntKind) (ht:P.underlying t=some (.slice e)) (s:P.underlying y=some (.int kn)) (hi:P.info? e=some i) (hz:i.zero=some (.int l 0)) (h:i.size=1)
  (b:Addr) (a c:Nat) (d:List Value) (u:d.length=a*i.size) (holds:∀j v,d[j]?=some v->w.cell? (b.add j)=some v) (n:Nat) (ae:a<=c)
  (hg:c<a+n) (al:((a+n:Nat):Int)<=9223372036854775807) (z:n*i.bytes<=281474976710656) (x:Builtin.nextslicecap (a+n) c*i.bytes<=281474976710656) :
  (Builtin.append_ #[t,y] ty #[.slice (some b) a c,.int k n]).run P w =
   .ok (.slice (some ⟨w.heap.size,0,none⟩) (a+n) (grownCap w (a+n) c e))
    (w.drew.alloc (.cells (d.toArray++(Dk l n).toArray++Builtin.zeroCells (Value.int l 0).cells (grownCap w (a+n) c e-(a+n))) e)):=by
 have hw:IntKind.i64.wrap (n:Int)=n:=by rw[IntKind.wrap_i64];omega
 have o:¬((n:Int)<0):=by omega
 have p:¬(281474976710656<(n:Int)*(i.bytes:Int)):=by
  rw[<-Int.natCast_mul];omega
 have hn:¬(a+n<=c):=by omega
 have r:n≠0:=by omega
 have f:¬(9223372036854775807<((a:Int)+(n:Int))):=by omega
 have m:¬(281474976710656<Builtin.nextslicecap (a+n) c*i.bytes):=by omega
 have q:=run_firstCells_some (P:=P) w.drew i.size a b a c d u (by simpa using holds);have hl:(Dk l n).toArray=(Builtin.zeroCells (Value.int l 0).cells n):=by rw[oU]
 rw[hl];rw[h] at q;simp[Builtin.append_,run_underlying ht,run_underlying s,sizeOf,typeInfo,zeroValue,hi,hz,h,asInt,asIntOf,hw,o,p,r,hn,f,m,Question.forced,q,newRow,grownCap]
theorem qk (a:Nat) (t tn ty e:TypeId) (i:TypeInfo) (k h kn:IntKind) (ht:P.underlying t=some (.slice e)) (s:P.underlying tn=some (.int kn)) (hi:P.info? e=some i) (hz:i.zero=some (.int h 0)) (r:i.size=1)
  (v:Value) (n:Nat) (xs:List Value) (p:w.ownsRow a e 1 v n xs) (m:Nat)
  (ac:n+m<=maxLen) (d:(n+m)*i.bytes<=140737488355328) (z:a<=w.heap.size) :
  ∃v' w',(Builtin.append_ #[t,tn] ty #[v,.int k m]).run P w=.ok v' w'/\w'.ownsRow a e 1 v' (n+m) (xs++Dk h m)/\w.grownBy w' v.ownBlock /\
   (v'.ownBlock=v.ownBlock\/v'.ownBlock=some w.heap.size):=by
 have ae:n+m<=9223372036854775807:=by simp only[maxLen] at ac;omega
 have x:xs.length=n:=by simpa using p.1
 have bb:m*i.bytes<=140737488355328:=aa1 (Nat.mul_le_mul_right _ (by omega)) d;have c:(xs++Dk h m).length=(n+m)*1:=by rw[aak,x,mQ,Nat.mul_one]
 have l:∀(b:Nat),b<n+m->∀(row:Option Nat),
   (w.drew.alloc (.cells (xs.toArray++(Dk h m).toArray++Builtin.zeroCells (Value.int h 0).cells (grownCap w (n+m) b e-(n+m))) e)).ownsRow a e 1
    (.slice (some ⟨w.heap.size,0,none⟩) (n+m) (grownCap w (n+m) b e)) (n+m) (xs++Dk h m) /\
   w.grownBy (w.drew.alloc (.cells (xs.toArray++(Dk h m).toArray++Builtin.zeroCells (Value.int h 0).cells (grownCap w (n+m) b e-(n+m))) e)) row:=by
  intro b ho row;have av:=grownCap_ge w (n+m) b e;have aa:grownCap w (n+m) b e<=maxLen:=grownCap_le_maxLen w (n+m) b e ac;refine⟨⟨c,.inr ⟨w.heap.size,_,_,rfl,z,heap_alloc_new w.drew _,av,aa,?_,?_⟩⟩,⟨rfl,rfl,rfl,by simp,fun k hk _=>by first | exact heap_alloc_old w.drew _ k hk | exact heap_alloc_old w.drew _ hk⟩⟩
  ·have aw:(Value.int h 0).cells.size=1:=rfl;simp only[Array.size_append,List.size_toArray,size_zeroCells,aw,x,mQ];omega
  ·simp only[Array.toList_append,aan];rw[<-aan,<-c];exact List.take_left
 rcases p.2 with⟨rfl,rfl⟩ | ⟨g,cap,q,rfl,ao,hg,ax,aa,ap,y⟩
 ·have hx:xs=[]:=aaG x;subst hx
  by_cases hm:m=0
  ·subst hm;refine⟨.slice none 0 0,w,?_,World.ownsRow_nil w a e 1,⟨rfl,rfl,rfl,aaB _,fun _ _ _=>rfl⟩,.inl rfl⟩;have hw:IntKind.i64.wrap 0=0:=by decide
   simp[Builtin.append_,run_underlying ht,run_underlying s,sizeOf,typeInfo,hi,r,asInt,asIntOf,hw]
  ·have hr:=Lib.run_append_nil_zeros (P:=P) w t tn ty e i (.int h 0) k kn ht s hi hz m (by omega) (by omega) (by omega) (by omega);have f:=l 0 (by omega) (Value.ownBlock (.slice none 0 0));simp only[Nat.zero_add,aaP,Array.empty_append] at f ⊢;rw[oU (n:=m)] at hr;exact⟨_,_,hr,f.1,f.2,.inr rfl⟩
 ·by_cases o:n+m<=cap
  ·have aE:q.size=cap:=by simpa using ap
   have hr:=pV (P:=P) w t tn ty e i k h kn ht s hi hz r g n cap q hg m (by omega) (by omega) o (by omega);refine⟨_,_,hr,⟨c,.inr ⟨g,cap,_,rfl,ao,setRow_heap w g q _ e _ hg,o,aa,?_,?_⟩⟩,⟨rfl,rfl,rfl,by simp,fun k _ hk=>setRow_other w g k _ (fun e=>hk (by simp[Value.ownBlock,e]))⟩,.inl rfl⟩
   ·simp only[List.size_toArray,aak,aaC,aa2,Array.length_toList,mQ];omega
   ·have ay:q.toList.take n=xs:=by simpa using y
    rw[ay,<-c];exact List.take_left
  ·have holds:∀j u,xs[j]?=some u->w.cell? ((⟨g,0,none⟩:Addr).add j)=some u:=p.cells (g:=g) rfl;have hr:=run_append_grow_zeros (P:=P) w t tn ty e i k h kn ht s hi hz r ⟨g,0,none⟩ n cap xs (by rw[r];simpa using x) holds m ax (by omega) (by omega) (by omega) (growslice_fits (by omega) d);have f:=l cap (by omega) (Value.ownBlock (.slice (some ⟨g,0,none⟩) n cap));exact⟨_,_,hr,f.1,f.2,.inr rfl⟩
end
section
variable {P:Program}{F:aD}{L:Loc}{ρ:Env}{a:Act}{w:World}{K:cS}{o:Oper}{Q:Exit->Act->World->Prop}
theorem zk {b:Option Operand}{c:Option X}(h:qg b=some c) (f:aG L ρ a) {d i:Int}(hi:jI ρ d c=some i) :
  (b=none/\i=d)\/∃y k,b=some y/\a.eval y=.int k i:=by
 cases b with
 | none=>simp only[qg,yo] at h;subst h;simp only[jI,yo] at hi;exact .inl ⟨rfl,hi.symm⟩
 | some y =>
  simp only[qg] at h;split at h
  case h_2=>cases h
  rename_i x e;injection h with h
  subst h;simp only[jI] at hi;split at hi
  case h_2=>cases hi
  rename_i k j l;injection hi with hi
  subst hi;exact .inr ⟨y,k,rfl,by rw[aI e f,bH l]⟩
theorem jN {k:IntKind}{i:Int}{y:Nat}{code:BoundsCode}(b:0<=i) (c:i<=y):(Instr.sliceBound (.int k i) y code).run P w=.ok i.toNat w:=by
 simp[Instr.sliceBound,asIntOf,b,c]
theorem pL {b:Bool}{n c:Nat}{lo hi:Option Operand}{d e:Option X}{l h:Int}(v:qg lo=some d) (u:qg hi=some e) (f:aG L ρ a)
  (el:jI ρ 0 d=some l) (s:jI ρ n e=some h) (m:0<=l) (t:l<=h) (p:h<=c) :
  (Instr.sliceBounds b n c (lo.map a.eval) (hi.map a.eval) none).run P w=.ok (l.toNat,h.toNat,c) w:=by
 unfold Instr.sliceBounds;rcases zk v f el with⟨rfl,rfl⟩ | ⟨y,k,rfl,q⟩<;>rcases zk u f s with⟨rfl,rfl⟩ | ⟨z,x,rfl,j⟩
 ·simp
 ·simp[j,jN (P:=P) (w:=w) (show 0<=h by omega) p]
 ·simp[q,jN (P:=P) (w:=w) m t]
 ·have r:l<=(h.toNat:Nat):=by omega
  simp[q,j,jN (P:=P) (w:=w) (show 0<=h by omega) p,jN (P:=P) (w:=w) m r]
theorem OY {t e:TypeId}{y:Operand}{lo up:Option Operand}{r:X}{f j:Option X}{i:TypeInfo}(z:St F L w) (m:aG L ρ a) (hd:∀k,o.dst=some k->k<a.tmps.size)
  (s:o.op=.slice t y lo up none) (ht:P.underlying t=some (.slice e)) (hi:P.info? e=some i) (hy:bw y=some r) (hl:qg lo=some f) (hh:qg up=some j)
  (d:evalOp P (.slc i.size r f j) o.dst F L ρ K):o.wp P a w (bh F L w a K) Q:=by
 have ey:=aI hy m;simp only[evalOp,aL] at d;split at d
 case h_2=>exact d.elim
 rename_i q n c p;split at d
 case h_2=>exact d.elim
 rename_i l h el u;obtain⟨h1,h2,h3,d⟩:=d;refine bK z m hd (v:=gj q c l.toNat h.toNat i.size) (x:=.v (gj q c l.toNat h.toNat i.size)) ?_ rfl bT dK d;have hb:=pL (P:=P) (w:=w) (b:=true) hl hh m el u h1 h2 h3;simp[execOp,s,ey,bH p,Instr.sliceAt,Instr.slice,run_underlying ht,hb,sizeOf,typeInfo,hi,gj]
theorem K3 {t:TypeId}{y:Operand}{lo up:Option Operand}{m:X}{d e:Option X}(q:St F L w) (f:aG L ρ a) (r:∀k,o.dst=some k->k<a.tmps.size)
  (n:o.op=.slice t y lo up none) (z:P.underlying t=some .string) (hy:bw y=some m) (hl:qg lo=some d) (hh:qg up=some e)
  (c:evalOp P (.slcS m d e) o.dst F L ρ K):o.wp P a w (bh F L w a K) Q:=by
 have ey:=aI hy f;simp only[evalOp,aL] at c;split at c
 case h_2=>exact c.elim
 rename_i s j;split at c
 case h_2=>exact c.elim
 rename_i l h el p;obtain⟨u,h2,h3,c⟩:=c;refine bK q f r (v:=.string (s.extract l.toNat h.toNat)) (x:=.v (.string (s.extract l.toNat h.toNat))) ?_ rfl bT dK c;have hb:=pL (P:=P) (w:=w) (b:=false) hl hh f el p u h2 h3;simp[execOp,n,ey,bH j,Instr.sliceAt,Instr.slice,run_underlying z,hb]
theorem wK (z:Array Value) (n:Nat) (q:0<z.size):(madeCells z (n*z.size)).toList=(List.replicate n z.toList).flatten:=by
 induction n with
 | zero=>simp[madeCells]
 | succ n f =>
  rw[List.replicate_succ',List.flatten_append,<-f];apply aaR;intro j;have d:(madeCells z (n*z.size)).toList.length=n*z.size:=by simp[madeCells]
  have b:∀m j,j<m->(madeCells z m).toList[j]?=some (z[j % z.size]!):=by
   intro m j h;simp[madeCells,h]
  have e:(n+1)*z.size=n*z.size+z.size:=Nat.succ_mul _ _
  by_cases p:j<n*z.size
  ·rw[aap (by omega),b _ _ (by omega),b _ _ p]
  ·rw[aaw (by omega),d]
   by_cases k:j<(n+1)*z.size
   ·rw[b _ _ k];have c:j-n*z.size<z.size:=by omega
    have l:j % z.size=j-n*z.size:=by
     have:j=(j-n*z.size)+z.size*n:=by rw[Nat.mul_comm z.size n];omega
     rw[this,Nat.add_mul_mod_self_left,Nat.mod_eq_of_lt c,Nat.mul_comm z.size n];omega
    simp[c,l]
   ·rw[aar (by simp[madeCells];omega),aar (by simp;omega)]
theorem HC {t e:TypeId}{y z:Operand}{y' z':X}{i:TypeInfo}{b:Value}(hs:St F L w) (he:aG L ρ a) (hd:∀k,o.dst=some k->k<a.tmps.size)
  (ho:o.op=.makeSlice t y z) (ht:P.underlying t=some (.slice e)) (hi:P.info? e=some i) (ac:i.zero=some b) (p:b.cells.size=i.size) (am:0<i.size) (hy:bw y=some y') (hz:bw z=some z')
  (c:evalOp P (.makeS e i.size i.bytes b.cells.toList y' z') o.dst F L ρ K):o.wp P a w (bh F L w a K) Q:=by
 have ey:=aI hy he;have ez:=aI hz he;simp only[evalOp,aL] at c;split at c
 case h_2=>exact c.elim
 rename_i k1 n k2 m k ad al ao;split at c
 case h_2=>exact c.elim
 rename_i _ hk;obtain⟨h0,u,hb,l,c⟩:=c;have c:=c w.heap.size;obtain⟨r,rfl⟩:=Int.eq_ofNat_of_zero_le h0;obtain⟨q,rfl⟩:=Int.eq_ofNat_of_zero_le (Int.le_trans h0 u);simp only[Int.toNat_natCast] at hb l c;have ae:r<=q:=by omega
 have j:(i.bytes:Int)*(q:Int)<=281474976710656:=by
  have h:((i.bytes*q:Nat):Int)<=281474976710656:=by rw[Nat.mul_comm];omega
  rwa [Int.natCast_mul] at h
 have ag:(q:Int)<=9223372036854775807:=by
  have h:=l;simp[maxLen] at h;omega
 have hr:=run_make (P:=P) w t e i b ht hi ac k1 k2 r q (by omega) u j ag;simp only[Int.toNat_natCast] at hr;have f:=wK b.cells q (by omega);rw[p] at f;have d:∀m:Nat,(List.replicate m b.cells.toList).flatten.length=m*i.size:=by
  intro m;simp[p]
 have ab:(List.replicate r b.cells.toList).flatten=(List.replicate q b.cells.toList).flatten.take (r*i.size):=by
  have e1:q=r+(q-r):=by omega
  conv=>rhs;rw[e1]
  rw[<-List.replicate_append_replicate,List.flatten_append,List.take_append_of_le_length (by rw[d];exact aaB _),aaZ (by rw[d];exact aaB _)]
 have s:(w.alloc (.cells (madeCells b.cells (q*i.size)) e)).ownsRow 0 e i.size (.slice (some ⟨w.heap.size,0,none⟩) r q) r (List.replicate r b.cells.toList).flatten:=by
  refine⟨d r,.inr ⟨w.heap.size,q,madeCells b.cells (q*i.size),rfl,aaK _,gS w _,ae,l,size_madeCells _ _,?_⟩⟩;rw[ab,<-f]
 obtain⟨h1,h2,h3⟩:=kI hs hk (cs:=madeCells b.cells (q*i.size)) (t:=e) (e:=.row (.slice (some ⟨w.heap.size,0,none⟩) r q) e i.size r (List.replicate r b.cells.toList).flatten) rfl s;refine gB he hd (v:=.slice (some ⟨w.heap.size,0,none⟩) r q) (x:=.v (.slice (some ⟨w.heap.size,0,none⟩) r q)) ?_ h1 h2 rfl bT dK h3 c;simp only[execOp,ho,ey,ez,bH ad,bH al,Sem.run_bind,hr,Result.andThen_ok,Sem.run_pure]
theorem wL (u:St F L w) {k:Nat}{e:TypeId}{sz n n':Nat}{s v:Value}{xs f:List Value}{w':World}
  (l:L.get k=some (.row s e sz n xs)\/(L.get k=none/\s=.slice none 0 0)) (m:w'.ownsRow 0 e sz v n' f) (d:w.grownBy w' s.ownBlock)
  (r:v.ownBlock=s.ownBlock\/v.ownBlock=some w.heap.size) :
  St F (L.set k (.row v e sz n' f)) w'/\Step F L w F (L.set k (.row v e sz n' f)) w'/\(∀j g ty cs,L.get j=some (.box g ty cs)->∃cs',(L.set k (.row v e sz n' f)).get j=some (.box g ty cs')):=by
 have p:∀j g ty cs,L.get j=some (.box g ty cs)->∃cs',(L.set k (.row v e sz n' f)).get j=some (.box g ty cs'):=by
  intro j g ty cs z;rw[Loc.Zz];split
  ·rename_i hj;subst hj;rcases l with h | ⟨h,_⟩<;>rw[h] at z<;>cases z
  ·exact⟨cs,z⟩
 rcases l with t | ⟨t,rfl⟩
 ·refine⟨u.turn t m (fun b hb y=>d.block b hb (fun e=>y (by simpa[Own.blk] using e.symm))) (fun g c=>?_),⟨aD.le_refl F,d.os,d.tape,d.output,d.size,fun b hb hn=>d.block b hb (fun e=>hn ⟨k,_,t,e.symm⟩),fun b h=>.inl h,fun b h=>?_⟩,p⟩
  ·rcases r with h | h
   ·exact .inl (by simp only[Own.blk] at c ⊢;rw[<-h];exact c)
   ·simp only[Own.blk] at c;rw[h] at c;injection c with c;exact .inr (by omega)
  ·rcases Loc.ZI h with h | h
   ·simp only[Own.blk] at h;rcases r with q | q
    ·exact .inl ⟨k,_,t,by simp only[Own.blk];rw[<-q];exact h⟩
    ·rw[q] at h;injection h with h;exact .inr (by omega)
   ·exact .inl h
 ·have x:∀g,v.ownBlock=some g->w.heap.size<=g:=by
   intro g h;rcases r with q | q
   ·rw[q] at h;cases h
   ·rw[q] at h;injection h with h;omega
  have aa:St F L w':=u.keep fun b hb=>d.block b hb (by simp[Value.ownBlock]);refine⟨aa.put t m fun g c=>⟨?_,fun ho=>?_⟩,⟨aD.le_refl F,d.os,d.tape,d.output,d.size,fun b hb hn=>d.block b hb (by simp[Value.ownBlock]),fun b h=>.inl h,fun b h=>?_⟩,p⟩
  ·cases hF:F g with
   | none=>rfl
   | some _=>have h1:=u.ZT (b:=g) (by rw[hF];simp);have h2:=x g c;omega
  ·have h1:=u.ZY ho;have h2:=x g c;omega
  ·rcases Loc.ZI h with h | h
   ·exact .inr (x b h)
   ·exact .inl h
theorem tD {e:TypeId}{sz n:Nat}{v:Value}{xs:List Value}(h:w.ownsRow 0 e sz v n xs):∃a c,v=.slice a n c/\(a=none->n=0):=by
 rcases h.2 with⟨rfl,rfl⟩ | ⟨g,cap,b,rfl,_⟩
 ·exact⟨none,0,rfl,fun _=>rfl⟩
 ·exact⟨_,cap,rfl,fun e=>(by cases e)⟩
theorem sw {t ty e:TypeId}{i:TypeInfo}(h:P.underlying t=some (.slice e)) (hi:P.info? e=some i) {s:Value}{n:Nat}{xs:List Value}(b:w.ownsRow 0 e i.size s n xs) (d:Option Addr) (c:Nat) :
  ∃w',(Builtin.append_ #[t,t] ty #[s,.slice d 0 c]).run P w=.ok s w'/\w'=w:=by
 refine⟨w,?_,rfl⟩;have j:(Builtin.firstCells i.size 0 (.slice d 0 c)).run P w=.ok #[] w:=by
  cases d<;>simp[Builtin.firstCells,loadCells,loadCellsFrom]
 rcases b.2 with⟨rfl,rfl⟩ | ⟨g,cap,k,rfl,_,_,f,_⟩
 ·simp[Builtin.append_,run_underlying h,sizeOf,typeInfo,hi,Builtin.lenOf,j]
 ·simp[Builtin.append_,run_underlying h,sizeOf,typeInfo,hi,Builtin.lenOf,j,f,storeCells]
theorem OZ {t e:TypeId}{y z:Operand}{y' z':X}{i:TypeInfo}{zv:Value}{c:Call}(hs:St F L w) (he:aG L ρ a) (hd:∀k,o.dst=some k->k<a.tmps.size)
  (ho:o.op=.call c) (hc:c.callee=.builtin .append) (ha:c.args=#[y,z]) (ca:c.argTypes=#[t,t]) (ht:P.underlying t=some (.slice e)) (hi:P.info? e=some i) (bv:i.zero=some zv) (bo:zv.cells.size=i.size) (ay:0<i.size)
  (hy:bw y=some y') (hz:bw z=some z') (hK:evalOp P (.app e i.size i.bytes zv.cells.toList y' z') o.dst F L ρ K):o.wp P a w (bh F L w a K) Q:=by
 have ey:=aI hy he;have ez:=aI hz he;simp only[evalOp,aL] at hK;split at hK
 case h_2=>exact hK.elim
 rename_i s x bk bz;obtain⟨kd,n,xs,m,news,ba,⟨ad,cx,rfl,ab,aw⟩,h1,bl,bi,hK⟩:=hK;have ao:m≠0->∃d,ad=some d/\∀j u,news[j]?=some u->w.cell? (d.add j)=some u:=by
  intro hm;rcases aw with p | ⟨ar,_⟩ | ⟨k,v,ty,cy,m',ys,d,c',hk,rfl,rfl,p⟩
  ·obtain⟨d,r,bu,ac⟩:=p.cell hs;refine⟨d,r,fun j u hu=>?_⟩;have:=ac j u hu
   rwa [Nat.zero_add] at this
  ·exact vv ar hm
  ·refine⟨d,rfl,fun j u hu=>?_⟩;have q:=hs.own k _ hk;simp only[Own.ok] at q;have h0:=World.ownsRow.cells q (g:=d.block) rfl j u (p j u hu);rcases q.2 with⟨r,_⟩ | ⟨g,cap,ap,r,_⟩
   ·cases r
   ·injection r with e1 e2 e3
    injection e1 with e1
    subst e1;exact h0
 have be:(L.get kd=some (.row s e i.size n xs)\/(L.get kd=none/\n=0/\xs=[]/\s=.slice none 0 0))\/(L.get kd=none/\∃ad,s=.slice (some ad) n n/\0<m/\xs.length=n*i.size/\(bV F (some ad) 0 xs\/(n=0/\xs=[]))):=by
  rcases ba with h | h | h
  ·exact .inl (.inl h)
  ·exact .inl (.inr h)
  ·exact .inr h
 rcases be with ax | ⟨bm,bs,rfl,ar,cr,db⟩
 case inr =>
  obtain⟨d,rfl,l⟩:=ao (by omega);have cp:∀j u,xs[j]?=some u->w.cell? (bs.add j)=some u:=by
   intro j u hu;rcases db with p | ⟨_,rfl⟩
   ·obtain⟨ds,r,bu,ac⟩:=p.cell hs;injection r with r
    subst r;have:=ac j u hu
    rwa [Nat.zero_add] at this
   ·simp at hu
  obtain⟨v,w',q,f,hg⟩:=run_append_arg_grows (P:=P) w t o.type e i zv i.size i.bytes ht hi bv rfl rfl bo ay bs n n xs cr cp d m cx news ab l (by omega) bl bi;have aa:w'.ownsRow 0 e i.size v (n+m) (xs++news):=by
   refine⟨f.1,?_⟩;rcases f.2 with h | ⟨g,cap,ap,e1,e2,e3⟩
   ·exact .inl h
   ·exact .inr ⟨g,cap,ap,e1,aaK _,e3⟩
  have bc:v.ownBlock=none\/(∃g,v.ownBlock=some g/\w.heap.size<=g):=by
   rcases f.2 with⟨h,_⟩ | ⟨g,cap,ap,e1,e2,e3⟩
   ·rw[h];exact .inl rfl
   ·rw[e1];exact .inr ⟨g,rfl,e2⟩
  have hv:∀g,v.ownBlock=some g->w.heap.size<=g:=by
   intro g h;rcases bc with h' | ⟨g',h',h2⟩
   ·rw[h'] at h;cases h
   ·rw[h'] at h;injection h with h;omega
  have cY:St F L w':=hs.keep fun b hb=>hg.block b hb (by simp);have cl:St F (L.set kd (.row v e i.size (n+m) (xs++news))) w':=cY.put bm aa fun g bj=>⟨by
   cases hF:F g with
   | none=>rfl
   | some _=>have h1:=hs.ZT (b:=g) (by rw[hF];simp);have h2:=hv g bj;omega,fun ho=>by have h1:=hs.ZY ho;have h2:=hv g bj;omega⟩
  have bd:Step F L w F (L.set kd (.row v e i.size (n+m) (xs++news))) w':=⟨aD.le_refl F,hg.os,hg.tape,hg.output,hg.size,fun b hb hn=>hg.block b hb (by simp),fun b h=>.inl h,fun b h=>by
   rcases Loc.ZI h with h | h
   ·exact .inr (hv b h)
   ·exact .inl h⟩
  have bx:∀j g ty cs,L.get j=some (.box g ty cs)->∃cs',(L.set kd (.row v e i.size (n+m) (xs++news))).get j=some (.box g ty cs'):=by
   intro j g ty cs ej;rw[Loc.Zz,vz (by rintro rfl;rw[bm] at ej;cases ej)];exact⟨cs,ej⟩
  refine gB he hd (v:=v) (x:=.v v) ?_ cl bd rfl bT dK bx (hK v (tD aa));simp[execOp,ho,resolve,hc,ha,ca,invoke,builtin,ey,ez,bH bk,bH bz,q]
 have ae:w.ownsRow 0 e i.size s n xs:=by
  rcases ax with h | ⟨_,rfl,rfl,rfl⟩
  ·exact hs.own kd _ h
  ·exact World.ownsRow_nil w 0 e i.size
 have az:L.get kd=some (.row s e i.size n xs)\/(L.get kd=none/\s=.slice none 0 0):=by
  rcases ax with h | ⟨h,_,_,h'⟩
  ·exact .inl h
  ·exact .inr ⟨h,h'⟩
 have fin:∀(v:Value) (w':World),(Builtin.append_ #[t,t] o.type #[s,.slice ad m cx]).run P w=.ok v w'->w'.ownsRow 0 e i.size v (n+m) (xs++news)->w.grownBy w' s.ownBlock->(v.ownBlock=s.ownBlock\/v.ownBlock=some w.heap.size)->o.wp P a w (bh F L w a K) Q:=by
  intro v w' q f hg bc;obtain⟨g1,g2,g3⟩:=wL hs az f hg bc;refine gB he hd (v:=v) (x:=.v v) ?_ g1 g2 rfl bT dK g3 (hK v (tD f));simp[execOp,ho,resolve,hc,ha,ca,invoke,builtin,ey,ez,bH bk,bH bz,q]
 by_cases hm:m=0
 ·subst hm;have hn:news=[]:=aaG (by simpa using ab);subst hn;obtain⟨w',q,rfl⟩:=sw (P:=P) (ty:=o.type) ht hi ae ad cx;exact fin s w' q (by simpa using ae) (World.grownBy.refl _ _) (.inl rfl)
 ·have l:∃d,ad=some d/\∀j u,news[j]?=some u->w.cell? (d.add j)=some u:=by
   rcases aw with p | ⟨ar,_⟩ | ⟨k,v,ty,cy,m',ys,d,c',hk,rfl,rfl,p⟩
   ·obtain⟨d,r,bu,ac⟩:=p.cell hs;refine⟨d,r,fun j u hu=>?_⟩;have:=ac j u hu
    rwa [Nat.zero_add] at this
   ·exact vv ar hm
   ·refine⟨d,rfl,fun j u hu=>?_⟩;have q:=hs.own k _ hk;simp only[Own.ok] at q;have h0:=World.ownsRow.cells q (g:=d.block) rfl j u (p j u hu);rcases q.2 with⟨r,_⟩ | ⟨g,cap,ap,r,_⟩
    ·cases r
    ·injection r with e1 e2 e3
     injection e1 with e1
     subst e1;exact h0
  obtain⟨d,rfl,l⟩:=l;obtain⟨v,w',q,h2,h3,_,h5⟩:=run_append_own_at (P:=P) w 0 t o.type e i zv i.size i.bytes ht hi bv rfl rfl bo ay s n xs ae d m cx news ab l h1 bl bi (aaK _);exact fin v w' q h2 h3 h5
theorem K4 {t t' e:TypeId}{y z:Operand}{y' z':X}{i:TypeInfo}{c:Call}(hs:St F L w) (he:aG L ρ a) (hd:∀k,o.dst=some k->k<a.tmps.size)
  (ho:o.op=.call c) (hc:c.callee=.builtin .append) (ha:c.args=#[y,z]) (aE:c.argTypes=#[t,t']) (ht:P.underlying t=some (.slice e)) (l:P.underlying t'=some .string) (hi:P.info? e=some i) (aa:i.zero=some (.int .u8 0)) (q:i.size=1) (r:i.bytes=1)
  (hy:bw y=some y') (hz:bw z=some z') (hK:evalOp P (.appS e y' z') o.dst F L ρ K):o.wp P a w (bh F L w a K) Q:=by
 have ey:=aI hy he;have ez:=aI hz he;simp only[evalOp,aL] at hK;split at hK
 case h_2=>exact hK.elim
 rename_i s x ax az;obtain⟨kd,n,xs,m,ac,ao,hK⟩:=hK;have b:w.ownsRow 0 e 1 s n xs:=by
  rcases m with h | ⟨_,rfl,rfl,rfl⟩
  ·exact hs.own kd _ h
  ·exact World.ownsRow_nil w 0 e 1
 have p:L.get kd=some (.row s e 1 n xs)\/(L.get kd=none/\s=.slice none 0 0):=by
  rcases m with h | ⟨h,_,_,h'⟩
  ·exact .inl h
  ·exact .inr ⟨h,h'⟩
 obtain⟨v,w',d,h2,h3,h4⟩:=Lib.run_append_own_string (P:=P) w 0 t t' o.type e i ht l hi aa q r s n xs b x ac ao (aaK _);have aw:v.ownBlock=s.ownBlock\/v.ownBlock=some w.heap.size:=by
  rcases b.2 with⟨rfl,rfl⟩ | ⟨g,cap,al,rfl,_,hg,cc,bz,ar,av⟩
  ·have ay:xs=[]:=aaG (by simpa using b.1);subst ay
   by_cases hm:x.size=0
   ·exact .inl (by rw[(h4.2 ⟨rfl,hm⟩)])
   ·have ad:=ac;simp only[maxLen] at ad;have f:=run_append_nil_string (P:=P) w t t' o.type e i (.int .u8 0) ht l hi aa x (by omega) (by omega) (by rw[r];omega);rw[f] at d;injection d with d _
    subst d;exact .inr rfl
  ·by_cases ab:n+x.size<=cap
   ·have bb:al.size=cap:=by simpa using ar
    have f:=Lib.run_append_room_string (P:=P) w t t' o.type e i ht l hi q g n cap al hg x ab (by omega);rw[f] at d;injection d with d _
    subst d;exact .inl rfl
   ·have holds:∀j u,xs[j]?=some u->w.cell? ((⟨g,0,none⟩:Addr).add j)=some u:=b.cells (g:=g) rfl;have ad:=ac;simp only[maxLen] at ad;have f:=Lib.run_append_grow_string (P:=P) w t t' o.type e i (.int .u8 0) ht l hi aa ⟨g,0,none⟩ n cap xs (by rw[q];simpa using b.1) holds x (by omega) (by omega) (by rw[r];exact growslice_fits (by omega) (by omega));rw[f] at d;injection d with d _
    subst d;exact .inr rfl
 obtain⟨g1,g2,g3⟩:=wL hs p h2 h3 aw;refine gB he hd (v:=v) (x:=.v v) ?_ g1 g2 rfl bT dK g3 (hK v (tD h2));simp[execOp,ho,resolve,hc,ha,aE,invoke,builtin,ey,ez,bH ax,bH az,d]
theorem K5 {t p e:TypeId}{kn kz:IntKind}{y z:Operand}{y' z':X}{i:TypeInfo}{c:Call}(hs:St F L w) (u:aG L ρ a) (hd:∀k,o.dst=some k->k<a.tmps.size)
  (ho:o.op=.call c) (hc:c.callee=.builtin .append) (ha:c.args=#[y,z]) (am:c.argTypes=#[t,p]) (ht:P.underlying t=some (.slice e)) (an:P.underlying p=some (.int kn)) (hi:P.info? e=some i) (ab:i.zero=some (.int kz 0)) (aa:i.size=1)
  (hy:bw y=some y') (hz:bw z=some z') (b:evalOp P (.appZ e i.bytes kz y' z') o.dst F L ρ K):o.wp P a w (bh F L w a K) Q:=by
 have ey:=aI hy u;have ez:=aI hz u;simp only[evalOp,aL] at b;split at b
 case h_2=>exact b.elim
 rename_i s kx x ad al;split at b
 case h_2=>exact b.elim
 rename_i m;obtain⟨q,n,xs,d,ag,r,b⟩:=b;have l:w.ownsRow 0 e 1 s n xs:=by
  rcases d with h | ⟨_,rfl,rfl,rfl⟩
  ·exact hs.own q _ h
  ·exact World.ownsRow_nil w 0 e 1
 have f:L.get q=some (.row s e 1 n xs)\/(L.get q=none/\s=.slice none 0 0):=by
  rcases d with h | ⟨h,_,_,h'⟩
  ·exact .inl h
  ·exact .inr ⟨h,h'⟩
 obtain⟨v,w',hr,h2,h3,ac⟩:=qk (P:=P) w 0 t p o.type e i kx kz kn ht an hi ab aa s n xs l m ag r (aaK _);obtain⟨g1,g2,g3⟩:=wL hs f h2 h3 ac;have j:(Builtin.append_ #[t,p] o.type #[s,.int kx (Int.ofNat m)]).run P w=.ok v w':=hr;refine gB u hd (v:=v) (x:=.v v) ?_ g1 g2 rfl bT dK g3 (b v (tD h2));simp at j;simp[execOp,ho,resolve,hc,ha,am,invoke,builtin,ey,ez,bH ad,bH al,j]
end
section
variable {P:Program}{F:aD}{L:Loc}{ρ:Env}{a:Act}{w:World}{K:cS}{o:Oper}{Q:Exit->Act->World->Prop}
theorem u6:∀(l:List Own) (k j:Nat),Loc.get (kV k l) j=if k<=j then l[j-k]? else none
 | [],k,j=>by simp[kV,Loc.get]
 | o::l,k,j=>by
  simp only[kV,Loc.get];cases h:Nat.beq k j with
  | true=>have:=xo h;subst this;simp
  | false =>
   have c:=fP h;simp only[u6 l (k+1) j]
   by_cases b:k<=j
   ·rw[o6 (by omega),o6 b,show j-k=(j-(k+1))+1 by omega,aaY]
   ·rw[vz (by omega),vz b]
theorem aW (l:List Own) (j:Nat):Loc.get (inp l) j=if 1000<=j then l[j-1000]? else none:=u6 l 1000 j
theorem eW:∀{L:Loc}{ks:List Nat}{l:List Own},L.sub ks=some l->l.length=ks.length/\∀(i:Nat) (k:Nat),ks[i]?=some k->L.get k=l[i]?
 | L,[],l,h=>by simp only[Loc.sub,yo] at h;subst h;simp
 | L,k::ks,l,h=>by
  simp only[Loc.sub] at h;split at h
  case h_2=>cases h
  rename_i o j e d;injection h with h
  subst h;obtain⟨c,f⟩:=eW d;refine⟨by simp[c],fun i b hi=>?_⟩;cases i with
  | zero=>simp at hi;subst hi;simpa using e
  | succ i=>simp at hi;simpa using f i b hi
theorem fR:∀(ks:List Nat) (L:Loc) (j:Nat),(L.ZB ks).get j=if j∈ks then none else L.get j
 | [],L,j=>by simp[Loc.ZB]
 | k::ks,L,j=>by
  simp only[Loc.ZB,fR ks,Loc.ZE,aal]
  by_cases c:j=k<;>by_cases b:j∈ks<;>simp[c,b]
theorem dI:∀(ko:List Nat) (l:List Own) (L:Loc) (j:Nat),ko.Nodup->ko.length=l.length ->
  ((L.puts ko l).get j=L.get j/\j∉ko)\/∃i,ko[i]?=some j/\(L.puts ko l).get j=l[i]?/\i<l.length
 | [],l,L,j,_,h=>by
  refine .inl ⟨?_,by simp⟩;cases l<;>rfl
 | k::ko,[],L,j,_,h=>by simp at h
 | k::ko,o::l,L,j,e,h=>by
  simp only[aau,Nat.add_right_cancel_iff] at h;rw[List.nodup_cons] at e;simp only[Loc.puts];rcases dI ko l (L.set k o) j e.2 h with⟨b,c⟩ | ⟨i,b,c,f⟩
  ·rw[Loc.Zz] at b
   by_cases d:j=k
   ·subst d;rw[o6 rfl] at b;exact .inr ⟨0,by simp,by simpa using b,by simp⟩
   ·rw[vz d] at b;exact .inl ⟨b,by simp[d,c]⟩
  ·exact .inr ⟨i+1,by simpa using b,by simpa using c,by simp;omega⟩
theorem zl {l:List Nat}(h:l.Nodup) {i j:Nat}{k:Nat}(hi:l[i]?=some k) (b:l[j]?=some k):i=j:=by
 induction l generalizing i j with
 | nil=>simp at hi
 | cons x l c =>
  rw[List.nodup_cons] at h;cases i with
  | zero =>
   cases j with
   | zero=>rfl
   | succ j =>
    simp at hi b;subst hi;exact vv (aam b) h.1
  | succ i =>
   cases j with
   | zero =>
    simp at hi b;subst b;exact vv (aam hi) h.1
   | succ j =>
    simp at hi b;rw[c h.2 hi b]
theorem St.handed (b:St F L w) {ks:List Nat}{l:List Own}(c:L.sub ks=some l) (t:ks.Nodup):St F (inp l) w:=by
 obtain⟨hl,s⟩:=eW c;have key:∀j p,Loc.get (inp l) j=some p->∃k,1000<=j/\ks[j-1000]?=some k/\L.get k=some p:=by
  intro j p e;rw[aW] at e;split at e
  case isFalse=>cases e
  rename_i q;have u:j-1000<l.length:=(aai.1 e).1;have r:ks[j-1000]?=some (ks[j-1000]'(by omega)):=aag (by omega);exact⟨_,q,r,by rw[s _ _ r];exact e⟩
 refine⟨b.frz,fun j p e=>?_,fun j p g e hb=>?_,fun j v p n g e e' hb m=>?_,b.glob⟩
 ·obtain⟨k,_,_,h⟩:=key j p e;exact b.own k p h
 ·obtain⟨k,_,_,h⟩:=key j p e;exact b.off k p g h hb
 ·obtain⟨k,q,y,h3⟩:=key j p e;obtain⟨x,z,d,f⟩:=key v n e';have:=b.sep k x p n g h3 f hb m;subst this;have:=zl t y d;omega
theorem jE (x:St F L w) {ks ko:List Nat}{l lo:List Own}(ae:L.sub ks=some l) (hn:ks.Nodup) (z:ko.Nodup) (az:∀k,k∈ko->k∈ks\/L.get k=none)
  {F':aD}{w':World}(t:St F' (inp lo) w') (m:Step F (inp l) w F' (inp lo) w') (aa:ko.length=lo.length) :
  St F' ((L.ZB ks).puts ko lo) w'/\Step F L w F' ((L.ZB ks).puts ko lo) w':=by
 obtain⟨hl,hg⟩:=eW ae;have n:∀b,(inp l).owns b->∃k o,k∈ks/\L.get k=some o/\o.blk=some b:=by
  rintro b ⟨j,p,e,hb⟩;rw[aW] at e;split at e
  case isFalse=>cases e
  have ay:j-1000<l.length:=(aai.1 e).1;have hk:ks[j-1000]?=some (ks[j-1000]'(by omega)):=aag (by omega);exact⟨_,p,aam hk,by rw[hg _ _ hk];exact e,hb⟩
 have f:∀k p b,k∉ks->L.get k=some p->p.blk=some b->¬(inp l).owns b:=by
  intro k p b hk e hb ho;obtain⟨y,o,an,e',d⟩:=n b ho;exact hk (by rw[x.sep k y p o b e e' hb d];exact an)
 have get:∀k p,((L.ZB ks).puts ko lo).get k=some p->(k∉ks/\k∉ko/\L.get k=some p)\/∃i,ko[i]?=some k/\Loc.get (inp lo) (1000+i)=some p:=by
  intro k p e;rcases dI ko lo (L.ZB ks) k z aa with⟨q,c⟩ | ⟨i,q,c,v⟩
  ·rw[q,fR] at e;split at e
   ·cases e
   ·rename_i v;exact .inl ⟨v,c,e⟩
  ·rw[c] at e;exact .inr ⟨i,q,by rw[aW,o6 (by omega),show 1000+i-1000=i by omega];exact e⟩
 refine⟨⟨t.frz,fun k p e=>?_,fun k p b e hb=>?_,fun k y p u b e e' hb d=>?_,t.glob⟩,⟨m.le,m.os,m.tape,m.output,m.size,fun b hb z=>?_,fun b hb=>?_,fun b hb=>?_⟩⟩
 ·rcases get k p e with⟨q,_,c⟩ | ⟨i,_,c⟩
  ·exact Own.ZS (x.own k p c) fun g ac=>m.same g (Own.ZN (x.own k p c) ac) (f k p g q c ac)
  ·exact t.own _ p c
 ·rcases get k p e with⟨q,_,c⟩ | ⟨i,_,c⟩
  ·cases hF:F' b with
   | none=>rfl
   | some _ =>
    rcases m.frz b (by rw[hF];simp) with v | v | v
    ·exact vv (x.off k p b c hb) v
    ·exact vv v (f k p b q c hb)
    ·have:=Own.ZN (x.own k p c) hb;omega
  ·exact t.off _ p b c hb
 ·have s:∀k p i u,k∉ks->L.get k=some p->Loc.get (inp lo) (1000+i)=some u->p.blk=some b->u.blk=some b->False:=by
   intro k p i u q c v h4 h5;rcases m.own b ⟨_,u,v,h5⟩ with h6 | h6
   ·exact f k p b q c h4 h6
   ·have:=Own.ZN (x.own k p c) h4;omega
  rcases get k p e with⟨q,_,c⟩ | ⟨i,hi,c⟩<;>rcases get y u e' with⟨ao,_,r⟩ | ⟨i',ab,r⟩
  ·exact x.sep k y p u b c r hb d
  ·exact(s k p i' u q c r hb d).elim
  ·exact(s y u i p ao r c d hb).elim
  ·have:=t.sep _ _ p u b c r hb d;have:i=i':=by omega
   subst this;rw[hi] at ab;injection ab
 ·refine m.same b hb fun ho=>?_;obtain⟨k,o,_,e,d⟩:=n b ho;exact z ⟨k,o,e,d⟩
 ·rcases m.frz b hb with h | h | h
  ·exact .inl h
  ·obtain⟨k,o,_,e,d⟩:=n b h;exact .inr (.inl ⟨k,o,e,d⟩)
  ·exact .inr (.inr h)
 ·obtain⟨k,p,e,d⟩:=hb;rcases get k p e with⟨q,_,c⟩ | ⟨i,_,c⟩
  ·exact .inl ⟨k,p,c,d⟩
  ·rcases m.own b ⟨_,p,c,d⟩ with h | h
   ·obtain⟨y,o,_,e',ad⟩:=n b h;exact .inl ⟨y,o,e',ad⟩
   ·exact .inr h
theorem vV {f:Nat}{args:List Value}(hs:St F L w) (he:aG L ρ a) (hd:∀k,o.dst=some k->k<a.tmps.size)
  (hrun:(∃fn,P.funcs[f]?=some fn/\fn.body.isSome=true/\(fn.name == "runtime.NumGoroutine")=false)->(execOp a.eval o).run P w=.ok (.enter f args.toArray) w)
  (hK:dH P f args F L fun F' L' v=>K F' L' (put o.dst (.v v) ρ)):o.wp P a w (bh F L w a K) Q:=by
 obtain⟨ks,ko,l,R,hsub,hn,hno,hko,hc,hK⟩:=hK;unfold Oper.wp;rw[hrun hc.ent];rw[Oper.upon_enter];refine(hc.run w (hs.handed hsub hn)).mono ?_;rintro e w' ⟨v,F',lo,rfl,hs',hst,hR⟩;obtain⟨hlen,hbox,hK⟩:=hK v F' lo hst.le hR;obtain⟨h1,h2⟩:=jE hs hsub hn hno hko hs' hst hlen;refine⟨F',_,_,h1,he.put hd (x:=.v v) rfl bT dK ?_,lp _ _ _,ic _ _ _,h2,hK⟩;intro k g ty cs e
 by_cases hk:k∈ks
 ·exact hbox k g ty cs hk e
 ·rcases dI ko lo (L.ZB ks) k hno hlen with⟨h1,h2⟩ | ⟨i,h1,h2,h3⟩
  ·rw[h1,fR,vz hk];exact⟨cs,e⟩
  ·rcases hko k (aam h1) with h | h
   ·exact vv h hk
   ·rw[h] at e;cases e
theorem jO {f:Nat}{args:Array Value}(h:∃fn,P.funcs[f]?=some fn/\fn.body.isSome=true/\(fn.name == "runtime.NumGoroutine")=false):(callFunc f args).run P w=.ok (.enter f args) w:=by
 obtain⟨fn,h1,h2,h3⟩:=h;have h4:fn.body≠none:=by intro hb;rw[hb] at h2;cases h2
 have h5:fn.name≠"runtime.NumGoroutine":=by simpa using h3
 simp[callFunc,h1,h4,h5]
theorem K6 {f:Nat}{args:List X}{c:Call}(j:St F L w) (h:aG L ρ a) (m:∀k,o.dst=some k->k<a.tmps.size)
  (l:o.op=.call c) (p:c.callee=.value (.func f)) (q:gP c.args.toList=some args) (n:evalOp P (.call f args) o.dst F L ρ K):o.wp P a w (bh F L w a K) Q:=by
 refine vV j h m (fun d=>?_) n;have e:=fQ q h;have b:c.args.map a.eval=(bq L ρ args).toArray:=by apply Array.ext';simpa using e
 simp[execOp,l,resolve,p,Deferred.ofValue,Act.eval,invoke,b,jO d]
theorem jP {t:TypeId}{nm:String}{u:Value}{f:Nat}{args:Array Value}(hf:n9 P t nm=some f) (h:∃fn,P.funcs[f]?=some fn/\fn.body.isSome=true/\(fn.name == "runtime.NumGoroutine")=false) :
  (callMethod (.iface t u) nm args).run P w=.ok (.enter f (#[u]++args)) w:=by
 have:=FU (P:=P) hf u w;simp only[callMethod,Sem.run_bind,run_program,Result.andThen_ok,this];exact jO h
theorem BM {V:SV}{v:Value}{args:List Value}{f:Nat}{fi ca:List Value}(hf:lZ P V=some (f,fi,ca)) (hv:∀x,V=.v x->v=x) (h:∃fn,P.funcs[f]?=some fn/\fn.body.isSome=true/\(fn.name == "runtime.NumGoroutine")=false) :
  (do let d <-Deferred.ofValue v args.toArray;invoke d.target d.args:Sem Next).run P w=.ok (.enter f (fi++args++ca).toArray) w:=by
 unfold lZ at hf;split at hf
 ·rename_i f' fi' ca';injection hf with hf
  injection hf with e1 e2
  injection e2 with e2 e3
  subst e1 e2 e3;rw[hv _ rfl];have hall:fi'++(args.toArray++ca')=(fi'.toList++args++ca'.toList).toArray:=by apply Array.ext';simp
  simp[Deferred.ofValue,invoke];rw[jO h];simp
 ·rename_i nm fi' ca';split at hf
  case h_2=>cases hf
  rename_i t u hfi;split at hf
  case h_2=>cases hf
  rename_i f' hm;injection hf with hf
  injection hf with e1 e2
  injection e2 with e2 e3
  subst e1 e2 e3;have hfi':fi'=#[.iface t u]:=by apply Array.ext';exact hfi
  rw[hv _ rfl,hfi'];have hx:(#[Value.iface t u]++args.toArray).extract 1 (#[Value.iface t u]++args.toArray).size=args.toArray:=by apply Array.ext';simp
  have h0:(#[Value.iface t u]++args.toArray)[0]?=some (.iface t u):=by simp
  have:=jP (w:=w) (u:=u) (args:=args.toArray) hm h;simp only[Deferred.ofValue,Sem.run_bind,Sem.run_pure,Result.andThen_ok,invoke,h0,hx,this];simp
 ·cases hf
theorem HE {y:Operand}{y':X}{args:List X}{c:Call}(hs:St F L w) (p:aG L ρ a) (hd:∀k,o.dst=some k->k<a.tmps.size)
  (ho:o.op=.call c) (hc:c.callee=.value y) (hy:bw y=some y') (ha:gP c.args.toList=some args) (n:evalOp P (.callV y' args) o.dst F L ρ K):o.wp P a w (bh F L w a K) Q:=by
 have ey:=aI hy p;have r:=fQ ha p;have j:c.args.map a.eval=(bq L ρ args).toArray:=by apply Array.ext';simpa using r
 have m:∀x,ev ρ y'=.v x->a.eval y=x:=fun x e=>by rw[ey,bH e]
 simp only[evalOp] at n;split at n
 ·rename_i f fi ca d;refine vV hs p hd (fun h=>?_) n;have:=BM (w:=w) (args:=bq L ρ args) d m h;simp only[execOp,ho,resolve,hc,j];exact this
 ·split at n
  case h_2=>exact n.elim
  rename_i f z d;unfold za at d;split at d
  case h_2=>cases d
  rename_i t nm ca t' u l s b;split at d
  case h_2=>cases d
  rename_i ms hu;split at d
  case h_2=>cases d
  rename_i f' hm;injection d with d
  injection d with e1 e2
  subst e1 e2;refine vV hs p hd (fun h=>?_) n;have h0:(#[]++(bq L ρ args).toArray)[0]?=some (.iface t' u):=by rw[b];simp
  have hx:(#[]++(bq L ρ args).toArray).extract 1 (#[]++(bq L ρ args).toArray).size=l.toArray:=by rw[b];apply Array.ext';simp
  have:=jP (w:=w) (u:=u) (args:=l.toArray) hm h;simp only[execOp,ho,resolve,hc,j,m _ s,Deferred.ofValue,Sem.run_bind,Sem.run_pure,Result.andThen_ok,invoke];have q:((⟨[]⟩:Array Value)++(bq L ρ args).toArray)[0]?=some (.iface t' u):=h0;simp only[q,Sem.run_bind,run_underlying hu,Result.andThen_ok];have aa:((⟨[]⟩:Array Value)++(bq L ρ args).toArray).extract 1 ((⟨[]⟩:Array Value)++(bq L ρ args).toArray).size=l.toArray:=hx;simp only[aa,this];simp
theorem O0 {n:Nat}{nm:String}{args:List X}{c:Call}(hs:St F L w) (p:aG L ρ a) (hd:∀k,o.dst=some k->k<a.tmps.size)
  (ho:o.op=.call c) (hc:c.callee=.invoke (.tmp n) nm) (ha:gP c.args.toList=some args) (l:evalOp P (.callV (.mt nm n) args) o.dst F L ρ K):o.wp P a w (bh F L w a K) Q:=by
 have q:=fQ ha p;have e:c.args.map a.eval=(bq L ρ args).toArray:=by apply Array.ext';simpa using q
 simp only[evalOp,ev] at l;split at l
 ·rename_i f fi ca d;refine vV hs p hd (fun h=>?_) l;cases m:ρ n with
  | own k off=>rw[m] at d;cases d
  | el b j=>rw[m] at d;cases d
  | v x =>
   rw[m] at d;have hx:a.eval (.tmp n)=x:=by
    have:=p.eq n;rw[m] at this;exact this
   simp only[QT,lZ] at d;split at d
   case h_2=>cases d
   rename_i t u r;split at d
   case h_2=>cases d
   rename_i f' hm;injection d with d
   injection d with e1 e2
   injection e2 with e2 e3
   subst e1 e2 e3;have z:x=.iface t u:=by simpa using r
   subst z;have y:(#[Value.iface t u]++(bq L ρ args).toArray).extract 1 (#[Value.iface t u]++(bq L ρ args).toArray).size=(bq L ρ args).toArray:=by apply Array.ext';simp
   have h0:(#[Value.iface t u]++(bq L ρ args).toArray)[0]?=some (.iface t u):=by simp
   have:=jP (w:=w) (u:=u) (args:=(bq L ρ args).toArray) hm h;simp only[execOp,ho,resolve,hc,e,hx,Sem.run_bind,Sem.run_pure,Result.andThen_ok,invoke,h0,y,this];simp
 ·split at l
  case h_2=>exact l.elim
  rename_i f s d;exfalso
  revert d
  cases ρ n<;>simp[QT,za,undef]
theorem O1 {s t e:TypeId}{y:Operand}{y':X}(hs:St F L w) (he:aG L ρ a) (hd:∀k,o.dst=some k->k<a.tmps.size)
  (ho:o.op=.convert s t y) (j:P.underlying s=some .string) (h2:P.underlying t=some (.slice e)) (h3:P.underlying e=some (.int .u8)) (hy:bw y=some y') (r:evalOp P (.s2b e y') o.dst F L ρ K):o.wp P a w (bh F L w a K) Q:=by
 have ey:=aI hy he;simp only[evalOp,aL] at r;split at r
 case h_2=>exact r.elim
 rename_i str aa
 let cap:=(Question.appendCap str.size 0 e).cut (w.tape w.drawn (.appendCap str.size 0 e))
 have n:str.size<=cap:=by simp only[cap,Question.cut];omega
 let cells:Array Value:=(str.data.map fun b=>Value.int .u8 b.toNat)++Array.replicate (cap-str.size) (.int .u8 0)
 have u:cells.size=cap:=by simp only[cells,Array.size_append,Array.size_map,Array.size_replicate];have:str.data.size=str.size:=rfl;omega
 let f:=w.drew.alloc (.cells cells e)
 let c:=f.freeze {block:=w.heap.size,off:=cap} 1
 have l:(execOp a.eval o).run P w=.ok (.value (.slice (some ⟨w.heap.size,0,none⟩) str.size cap)) c:=by
  have ab:f.shape? w.heap.size=some (e,cap):=by
   have:f.heap[w.heap.size]?=some (.cells cells e):=gS w.drew _;simp only[World.shape?,this,u]
  simp[execOp,ho,ey,bH aa,convert,run_underlying j,run_underlying h2,run_underlying h3,Conv.stringToBytes,Question.forced,newRow,markStringish];rw[show(w.drew.alloc (.cells ((str.data.map fun b=>Value.int .u8 b.toNat)++Array.replicate ((Question.appendCap str.size 0 e).cut (w.tape w.drawn (.appendCap str.size 0 e))-str.size) (.int .u8 0)) e)).shape? w.heap.size=some (e,cap) from ab];simp;exact⟨rfl,rfl⟩
 have q:∀b,b<w.heap.size->c.heap[b]?=w.heap[b]?:=by
  intro b hb;have j:f.heap[b]?=w.heap[b]?:=Below.heap_alloc w.drew _ b hb;simp only[c,World.freeze];simp only[Nat.one_ne_zero,aaO,Array.getElem?_modify];rw[vz (by omega)];exact j
 have d:c.heap[w.heap.size]?=some (.cells cells e (cap,cap+1)):=by
  have j:f.heap[w.heap.size]?=some (.cells cells e (0,0)):=gS w.drew _;simp only[c,World.freeze,Nat.one_ne_zero,aaO,Array.getElem?_modify,aaD,j];simp
 have p:St F L c:=hs.keep q;obtain⟨hf,ac⟩:=qh hs;have z:=p.freeze d ac;have m:=aD.ZO p d;refine gB he hd (x:=.v (.slice (some ⟨w.heap.size,0,none⟩) str.size cap)) l z ⟨m,?_,?_,?_,?_,fun b hb _=>q b hb,?_,fun b h=>.inl h⟩ rfl bT dK (rf L) (r w.heap.size cap _ m ?_ n)
 ·simp only[c,World.freeze,Nat.one_ne_zero,aaO];rfl
 ·simp only[c,World.freeze,Nat.one_ne_zero,aaO];rfl
 ·simp only[c,World.freeze,Nat.one_ne_zero,aaO];rfl
 ·simp only[c,World.freeze,Nat.one_ne_zero,aaO,Array.size_modify];have:f.heap.size=w.heap.size+1:=by simp[f]
  omega
 ·intro b hb
  by_cases h:b=w.heap.size
  ·exact .inr (.inr (by omega))
  ·simp only[vz h] at hb;exact .inl hb
 ·refine⟨_,cells,e,_,rfl,o6 rfl,rfl,fun i v hv=>?_⟩;have hi:i<str.data.size:=by
   have:=(aai.1 hv).1;simpa using this
  simp only[cells,Nat.zero_add];rw[Array.getElem?_append_left (by simpa using hi)];refine⟨by simpa using hv,fun h=>?_⟩;have j:cap<=i:=by simpa using h.1
  have h2:str.size=str.data.size:=rfl;omega
theorem Al (w:World) (l r ty elem:TypeId) (g o c j:Nat) (s:ByteArray) (d:Array Value) (t:TypeId)
  (q:P.underlying l=some (.slice elem)) (k:(P.info? elem).map (·.size)=some 1)
  (n:w.heap[g]?=some (.cells d t (0,0))) (f:o+min s.size c<=d.size) :
  (Builtin.copy_ #[l,r] ty #[.slice (some ⟨g,o,none⟩) c j,.string s]).run P w =
   .ok (goInt (min s.size c:Nat)) (w.setRow g (aP d.toList o ((s.data.toList.take c).map fun b=>Value.int .u8 b.toNat)).toArray):=by
 have u:((s.data.toList.take c).map fun b=>Value.int .u8 b.toNat).length=min s.size c:=by
  rw[aax,aaC,Nat.min_comm,Array.length_toList];rfl
 have h:=run_storeCells_at P g o t ((s.data.toList.take c).map fun b=>Value.int .u8 b.toNat) 0 d w n (by rw[u];simpa using f) (fun v m=>by
  obtain⟨b,_,rfl⟩:=aaJ.1 m;rfl)
 rw[Nat.add_zero] at h;have x:List.take (s.size.min c) (List.map (fun b=>Value.int IntKind.u8 b.toNat) s.data.toList)=(s.data.toList.take c).map fun b=>Value.int .u8 b.toNat:=by
  have p:s.size=s.data.toList.length:=by simp
  rw[<-List.map_take,p];congr 1;rw[show Nat.min s.data.toList.length c=min s.data.toList.length c from rfl,Nat.min_comm,<-List.take_take,List.take_length]
 generalize(s.data.toList.take c).map (fun b=>Value.int .u8 b.toNat)=news at *;cases e:P.info? elem with
 | none=>simp[e] at k
 | some i =>
  have hi:i.size=1:=by simpa[e] using k
  simp[Builtin.copy_,run_underlying q,Builtin.lenOf,Builtin.firstCells,sizeOf,typeInfo,e,hi,x,h,aP]
theorem Ew {t t' e:TypeId}{y z:Operand}{y' z':X}{i:TypeInfo}{c:Call}(hs:St F L w) (he:aG L ρ a) (hd:∀k,o.dst=some k->k<a.tmps.size)
  (ho:o.op=.call c) (hc:c.callee=.builtin .copy) (ha:c.args=#[y,z]) (bz:c.argTypes=#[t,t']) (ht:P.underlying t=some (.slice e)) (hi:P.info? e=some i) (bu:i.size=1)
  (hy:bw y=some y') (hz:bw z=some z') (hK:evalOp P (.copy e i.size y' z') o.dst F L ρ K):o.wp P a w (bh F L w a K) Q:=by
 have ey:=aI hy he;have ez:=aI hz he;rw[bu] at hK;simp only[evalOp] at hK;split at hK
 case h_3=>exact hK.elim
 case h_1 =>
  rename_i dv str an bd;obtain⟨k,n,v,s,xs,ad,cr,cd,j,hk,rfl,rfl,de,hK⟩:=hK;have az:(P.info? e).map (·.size)=some 1:=by rw[hi];simp[bu]
  have l:=hs.own k _ hk;simp only[Own.ok] at l;obtain⟨hx,l⟩:=l;rcases l with⟨e',_⟩ | ⟨g,cap,d,e',bo,hg,bl,bp,ab,p⟩
  ·cases e'
  injection e' with e1 e2 e3
  injection e1 with e1
  subst e1 e3;simp only[Nat.mul_one] at hx ab p;have hl:((str.data.toList.take n).map fun b=>Value.int .u8 b.toNat).length=min str.size n:=by
   rw[aax,aaC,Nat.min_comm,Array.length_toList];rfl
  generalize bv:(str.data.toList.take n).map (fun b=>Value.int .u8 b.toNat)=news at hl hK;have ae:j+news.length<=s:=by rw[hl];omega
  have r:j+news.length<=d.size:=by omega
  have f:=mh w g (aP d.toList j news).toArray;have am:∀(ap:List Value) i' g' ty' cs',L.get i'=some (.box g' ty' cs')->∃av,(L.set k (.row (.slice (some ⟨g,0,none⟩) s cr) e 1 s ap)).get i'=some (.box g' ty' av):=by
   intro ap i' g' ty' cs' ej;rw[Loc.Zz,vz (by rintro rfl;rw[hk] at ej;cases ej)];exact⟨cs',ej⟩
  have ay:Own.ok (w.setRow g (aP d.toList j news).toArray) (.row (.slice (some ⟨g,0,none⟩) s cr) e 1 s (aP xs j news)):=by
   refine⟨?_,.inr ⟨g,cr,_,rfl,bo,setRow_heap w g d _ e _ hg,bl,bp,?_,?_⟩⟩
   ·rw[fJ _ _ _ (by rw[hx];exact ae),hx,Nat.mul_one]
   ·have:(aP d.toList j news).length=d.size:=by rw[fJ _ _ _ (by simpa using r)];simp
    simp[this,ab]
   ·rw[Nat.mul_one,List.toList_toArray,<-p];apply aaR;intro q;have bm:j+news.length<=d.toList.length:=by simpa using r
    rw[iJ (by rw[aaC];simp;omega)]
    by_cases hn:q<s
    ·rw[List.getElem?_take_of_lt hn,iJ bm,List.getElem?_take_of_lt hn]
    ·rw[aar (by simp;omega)];have h1:¬q<j:=by omega
     have h2:¬q<j+news.length:=by omega
     rw[vz h1,vz h2,aar (by simp;omega)]
  have ar:St F (L.set k (.row (.slice (some ⟨g,0,none⟩) s cr) e 1 s (aP xs j news))) (w.setRow g (aP d.toList j news).toArray) :=
   hs.turn hk ay (fun b ag bi=>f.block b ag (fun e=>bi (by rw[e];rfl))) (fun g' ao=>.inl ao)
  refine gB he hd (v:=.int .i64 (min str.size n:Nat)) (x:=.v (.int .i64 (min str.size n:Nat))) ?_ ar ?_ rfl bT dK (am _) hK
  ·have co:(⟨g,0,none⟩:Addr).add j=⟨g,j,none⟩:=by rw[cm,Nat.zero_add]
   have:=Al (P:=P) w t t' o.type e g j n cd str d e ht az hg (by rw[<-hl];exact r);rw[bv] at this;rw[co] at an;simp[execOp,ho,resolve,hc,ha,bz,invoke,builtin,ey,ez,bH an,bH bd,this,goInt]
  ·refine⟨aD.le_refl F,rfl,rfl,rfl,f.size,fun b ag hn=>f.block b ag (fun e=>hn ⟨k,_,hk,by rw[e];rfl⟩),fun b h=>.inl h,fun b h=>?_⟩;rcases Loc.ZI h with h | h
   ·exact .inl ⟨k,_,hk,h⟩
   ·exact .inl h
 rename_i dv xv _ an bd;have az:(P.info? e).map (·.size)=some 1:=by rw[hi];simp[bu]
 obtain⟨⟨k,n,v,s,xs,ad,cr,cd,j,m,ax,cx,news,hk,rfl,rfl,de,rfl,aa,cl,h1,hK⟩ | ⟨da,n,cd,ax,m,cx,rfl,rfl,h0,hK⟩⟩:=hK
 rotate_left
 ·have bb:∀v:Value,(execOp a.eval o).run P w=(do pure (.value (<-Builtin.copy_ #[t,t'] o.type #[.slice da n cd,.slice ax m cx])):Sem Next).run P w:=by
   intro v;simp[execOp,ho,resolve,hc,ha,bz,invoke,builtin,ey,ez,bH an,bH bd]
  refine bK hs he hd (v:=.int .i64 0) (x:=.v (.int .i64 0)) ?_ rfl bT dK hK;rw[bb undef];have:=run_copy_none (P:=P) w t t' o.type e da ax n cd m cx ht az h0;simp[this,goInt]
 rw[Nat.mul_one] at aa;have l:=hs.own k _ hk;simp only[Own.ok] at l;obtain⟨hx,l⟩:=l;rcases l with⟨e',_⟩ | ⟨g,cap,d,e',bo,hg,bl,bp,ab,p⟩
 ·cases e'
 injection e' with e1 e2 e3
 injection e1 with e1
 subst e1 e3;simp only[Nat.mul_one] at hx ab p hK an;have am:∀(ap:List Value) i' g' ty' cs',L.get i'=some (.box g' ty' cs')->∃av,(L.set k (.row (.slice (some ⟨g,0,none⟩) s cr) e 1 s ap)).get i'=some (.box g' ty' av):=by
  intro ap i' g' ty' cs' ej;rw[Loc.Zz,vz (by rintro rfl;rw[hk] at ej;cases ej)];exact⟨cs',ej⟩
 have bb:∀v:Value,(execOp a.eval o).run P w=(do pure (.value (<-Builtin.copy_ #[t,t'] o.type #[.slice (some ((⟨g,0,none⟩:Addr).add j)) n cd,.slice ax m cx])):Sem Next).run P w:=by
  intro v;simp[execOp,ho,resolve,hc,ha,bz,invoke,builtin,ey,ez,bH an,bH bd]
 by_cases h0:min m n=0
 ·have:news=[]:=aaG (by rw[aa,h0]);subst this;have ci:aP xs j []=xs:=by simp[aP]
  rw[ci,h0] at hK;have ay:Own.ok w (.row (.slice (some ⟨g,0,none⟩) s cr) e 1 s xs):=by
   have:=hs.own k _ hk;exact this
  have ar:St F (L.set k (.row (.slice (some ⟨g,0,none⟩) s cr) e 1 s xs)) w:=hs.turn hk ay (fun _ _ _=>rfl) (fun g' ao=>.inl ao);refine gB he hd (v:=.int .i64 0) (x:=.v (.int .i64 0)) ?_ ar ?_ rfl bT dK (am xs) hK
  ·rw[bb undef];have:=run_copy_none (P:=P) w t t' o.type e (some ((⟨g,0,none⟩:Addr).add j)) ax n cd m cx ht az h0;simp[this,goInt]
  ·refine⟨aD.le_refl F,rfl,rfl,rfl,aaB _,fun _ _ _=>rfl,fun b h=>.inl h,fun b h=>?_⟩;rcases Loc.ZI h with h | h
   ·exact .inl ⟨k,_,hk,h⟩
   ·exact .inl h
 ·have hF:bV F ax 0 news:=cl.resolve_right fun h=>h0 h.1;obtain⟨cf,rfl,_,db⟩:=hF.cell hs;have ba:∀j v,news[j]?=some v->w.cell? (cf.add j)=some v:=fun j' u hu=>by
   have:=db j' u hu
   rwa [Nat.zero_add] at this
  have ae:j+news.length<=s:=by rw[aa];omega
  have r:j+news.length<=d.size:=by omega
  have f:=mh w g (aP d.toList j news).toArray;have ay:Own.ok (w.setRow g (aP d.toList j news).toArray) (.row (.slice (some ⟨g,0,none⟩) s cr) e 1 s (aP xs j news)):=by
   refine⟨?_,.inr ⟨g,cr,_,rfl,bo,setRow_heap w g d _ e _ hg,bl,bp,?_,?_⟩⟩
   ·rw[fJ _ _ _ (by rw[hx];exact ae),hx,Nat.mul_one]
   ·have:(aP d.toList j news).length=d.size:=by rw[fJ _ _ _ (by simpa using r)];simp
    simp[this,ab]
   ·rw[Nat.mul_one,List.toList_toArray,<-p];apply aaR;intro q;have bm:j+news.length<=d.toList.length:=by simpa using r
    rw[iJ (by rw[aaC];simp;omega)]
    by_cases hn:q<s
    ·rw[List.getElem?_take_of_lt hn,iJ bm,List.getElem?_take_of_lt hn]
    ·rw[aar (by simp;omega)];have h1:¬q<j:=by omega
     have h2:¬q<j+news.length:=by omega
     rw[vz h1,vz h2,aar (by simp;omega)]
  have ar:St F (L.set k (.row (.slice (some ⟨g,0,none⟩) s cr) e 1 s (aP xs j news))) (w.setRow g (aP d.toList j news).toArray) :=
   hs.turn hk ay (fun b ag bi=>f.block b ag (fun e=>bi (by rw[e];rfl))) (fun g' ao=>.inl ao)
  refine gB he hd (v:=.int .i64 (min m n:Nat)) (x:=.v (.int .i64 (min m n:Nat))) ?_ ar ?_ rfl bT dK (am _) hK
  ·rw[bb undef,cm,Nat.zero_add];have:=run_copy_row P w t t' o.type e g j n cd cf m cx d e news ht az hg aa ba r h1;have dd:(d.toList.take j++news++d.toList.drop (j+news.length)).toArray=(aP d.toList j news).toArray:=rfl;rw[dd] at this;simp[this,goInt,aa]
  ·refine⟨aD.le_refl F,rfl,rfl,rfl,f.size,fun b ag hn=>f.block b ag (fun e=>hn ⟨k,_,hk,by rw[e];rfl⟩),fun b h=>.inl h,fun b h=>?_⟩;rcases Loc.ZI h with h | h
   ·exact .inl ⟨k,_,hk,h⟩
   ·exact .inl h
end
open Go.ChangeMaps (setBlock)
theorem zm {cs:List Value}(h:nC cs=true):iH cs=.map (bg cs 0).toArray cs.length:=by
 unfold iH;split
 ·simp[nC] at h
 ·rfl
theorem u7:∀{cs:List Value}{i:Nat},(bg cs i).length=cs.length
 | [],_=>rfl
 | c::cs,i=>by simp[bg,u7 (cs:=cs)]
theorem mR:∀(v:Value) (i:Nat),(gR v i).born=i:=by
 intro v i;unfold gR;split<;>rfl
theorem ql:∀{cs:List Value}{i j:Nat},(bg cs i)[j]?=(cs[j]?).map fun v=>gR v (i+j)
 | [],_,_=>by simp[bg]
 | c::cs,i,0=>by simp[bg]
 | c::cs,i,j+1=>by
  simp only[bg,aaY,ql (cs:=cs)];rw[show i+1+j=i+(j+1) by omega]
def kindOf:Bool->TypeDesc
 | false=>.int .i64
 | true=>.string
theorem Ey (s t:ByteArray):(s == t)=decide (s.data.toList=t.data.toList):=by
 have:(s == t)=(s.data == t.data):=rfl;rw[this,Bool.eq_iff_iff];simp[Array.toList_inj]
theorem wM {str:Bool}{a b:Value}{r:Bool}(h:fZ str a b=some r):Instr.sameNow (kindOf str) a b=some r:=by
 unfold fZ at h;split at h
 ·injection h with h;subst h;simp[kindOf,Instr.sameNow,beq_dec']
 ·injection h with h
  subst h;rename_i s t;simp only[kindOf,Instr.sameNow,Ey]
 ·cases h
where beq_dec':∀{a b:Int},(a == b)=decide (a=b):=by intro a b;rw[Bool.eq_iff_iff];simp
theorem K7 {str:Bool}{a b:Value}(h:fZ str a b=some true):a=b:=by
 unfold fZ at h;split at h
 ·simp only[yo,aaU] at h;rw[h]
 ·simp only[yo,aaU] at h;rename_i s t;cases s;cases t;simp only[Value.string.injEq,ByteArray.mk.injEq];exact Array.ext' h
 ·cases h
theorem K8 {str:Bool}{a b:Value}{r:Bool}(h:fZ str a b=some r):∀n,Instr.sameBits n a a=true:=by
 intro n;unfold fZ at h;split at h
 ·cases n<;>simp[Instr.sameBits]
 ·cases n<;>simp[Instr.sameBits,Ey]
 ·cases h
theorem om {str:Bool}{key:Value}:∀{cs:List Value}{i:Nat}{o:Option (Nat×Value)},mN str key cs i=some o->Instr.findNow (kindOf str) key (bg cs i) i=some o
 | [],i,o,h=>by simp only[mN] at h;simpa[bg,Instr.findNow] using h
 | c::cs,i,o,h=>by
  unfold mN at h;split at h
  ·rename_i b;cases b
  ·rename_i k v l j b;injection b with e1 e2
   subst e1 e2;simp only[bg,gR,Instr.findNow];split at h
   ·rename_i d;rw[wM d];exact h
   ·rename_i d;rw[wM d];exact om h
   ·cases h
  ·cases h
theorem zn {str:Bool}{key val:Value}(m:fZ str key key=some true):∀{cs cs':List Value}{i:Nat},wC str key val cs=some cs' ->
  (∃j v,mN str key cs i=some (some (i+j,v))/\j<cs.length/\((bg cs i)[j]?.map (·.key))=some key/\bg cs' i=(bg cs i).modify j (fun e=>{e with key:=key,val:=val})/\cs'.length=cs.length) \/
  (mN str key cs i=some none/\cs'=cs++[.agg #[key,val]])
 | [],cs',i,h=>by
  simp only[wC,yo] at h;subst h;exact .inr ⟨rfl,rfl⟩
 | c::cs,cs',i,h=>by
  unfold wC at h;split at h
  ·rename_i b;cases b
  ·rename_i k v l b;injection b with e1 e2
   subst e1 e2;split at h
   ·rename_i d;injection h with h
    subst h;refine .inl ⟨0,v,by simp only[mN,d,Nat.add_zero],by simp,?_,?_,rfl⟩
    ·simp[bg,gR,(K7 d).symm]
    ·simp[bg,gR]
   ·rename_i d;split at h
    case h_2=>cases h
    rename_i t r;injection h with h
    subst h;rcases zn m (i:=i+1) r with⟨j,u,f,n,s,p,q⟩ | ⟨f,n⟩
    ·refine .inl ⟨j+1,u,?_,by simp;omega,by simpa[bg] using s,by simp[bg,p],by simp[q]⟩;simp only[mN,d];rw[f,show i+1+j=i+(j+1) by omega]
    ·refine .inr ⟨?_,by rw[n];rfl⟩;simp only[mN,d];exact f
   ·cases h
  ·cases h
theorem Du {str:Bool}{key val:Value}{cs cs':List Value}(h:wC str key val cs=some cs'):nC cs'=true:=by
 unfold wC at h;split at h
 ·injection h with h;subst h;rfl
 ·split at h
  ·injection h with h;subst h;rfl
  ·split at h
   ·injection h with h;subst h;rfl
   ·cases h
  ·cases h
 ·cases h
section
variable {P:Program}{F:aD}{L:Loc}{ρ:Env}{a:Act}{w:World}{K:cS}{o:Oper}{Q:Exit->Act->World->Prop}
theorem uy (b:St F L w) {k g:Nat}{cs:List Value}(d:L.get k=some (.box g 0 cs)) (c:nC cs=true):w.heap[g]?=some (.map (bg cs 0).toArray cs.length):=by
 have h:=b.own k _ d;simp only[Own.ok,lQ] at h;rw[zm c] at h;exact h
theorem K9 {str:Bool}{key:TypeId}{kv:Value}(b:P.underlying key=some (kindOf str)) (c:fZ str kv kv=some true) (e:Bool):(Instr.checkKey e 10000 key kv).run P w=.ok () w:=by
 rw[show(10000:Nat)=9999+1 from rfl,Instr.checkKey];simp only[Sem.run_bind,run_underlying b,Result.andThen_ok];cases str<;>simp[kindOf,Sem.run_pure]
theorem Dv {str:Bool}{key:TypeId}{kv:Value}(b:P.underlying key=some (kindOf str)) (e:Bool):(Instr.checkKey e 10000 key kv).run P w=.ok () w:=by
 rw[show(10000:Nat)=9999+1 from rfl,Instr.checkKey];simp only[Sem.run_bind,run_underlying b,Result.andThen_ok];cases str<;>simp[kindOf,Sem.run_pure]
theorem tE {str:Bool}{key:TypeId}{kv:Value}{es:List MapEntry}{o:Option (Nat×Value)}(b:P.underlying key=some (kindOf str)) (h:Instr.findNow (kindOf str) kv es 0=some o):(Instr.findKey key kv es).run P w=.ok o w:=by
 simp only[Instr.findKey,Sem.run_bind,run_underlying b,Result.andThen_ok,h,Sem.run_pure]
theorem HF {t:TypeId}(d:St F L w) (j:aG L ρ a) (h:∀k,o.dst=some k->k<a.tmps.size) (f:o.op=.makeMap t none)
  (b:evalOp P .mkmap o.dst F L ρ K):o.wp P a w (bh F L w a K) Q:=by
 simp only[evalOp] at b;split at b
 case h_2=>exact b.elim
 rename_i _ k c;split at b
 case h_2=>exact b.elim
 rename_i _ n;have b:=b w.heap.size;obtain⟨p,m,l⟩:=mP d n (ob:=.map #[] 0) (e:=.box w.heap.size 0 []) rfl (by show _=_;rw[gS];rfl);refine gB j h (v:=.map (some w.heap.size)) (x:=.v (.map (some w.heap.size))) ?_ p m rfl bT dK l b;simp[execOp,f,run_makeMap]
theorem BN {str ok:Bool}{t key e:TypeId}{y z:Operand}{y' p:X}{j:TypeInfo}{x:Value}(l:St F L w) (h:aG L ρ a) (hd:∀k,o.dst=some k->k<a.tmps.size)
  (u:o.op=.lookup t y z ok) (ht:P.underlying t=some (.map key e)) (b:P.underlying key=some (kindOf str)) (hi:P.info? e=some j) (hz:j.zero=some x) (hy:bw y=some y') (r:bw z=some p)
  (c:evalOp P (.mlook str ok x y' p) o.dst F L ρ K):o.wp P a w (bh F L w a K) Q:=by
 have ey:=aI hy h;have ez:=aI r h;simp only[evalOp,aL] at c;split at c
 case h_2=>exact c.elim
 rename_i g hm;obtain⟨k,cs,hk,m,c⟩:=c;have hg:=uy l hk m;have d:(getObj g).run P w=.ok (.map (bg cs 0).toArray cs.length) w:=by simp[getObj,Sem.run,hg]
 have f:=Dv (w:=w) (kv:=val L ρ p) b (bg cs 0).toArray.isEmpty;rcases c.out with⟨i,v,n,s⟩ | ⟨n,s⟩
 ·have q:=tE (P:=P) (w:=w) b (om n);refine bK l h hd ?_ rfl bT dK s;simp only[execOp,u,ey,ez,bH hm,Instr.lookup,Sem.run_bind,run_underlying ht,Result.andThen_ok,d,Sem.run_pure,f,q];cases ok<;>simp[Sem.run_pure,conc]
 ·have q:=tE (P:=P) (w:=w) b (om n);refine bK l h hd ?_ rfl bT dK s;simp only[execOp,u,ey,ez,bH hm,Instr.lookup,Sem.run_bind,run_underlying ht,Result.andThen_ok,d,Sem.run_pure,f,q];cases ok<;>simp[Sem.run_pure,zeroValue,typeInfo,run_program,hi,hz,conc]
theorem Lb {t key e:TypeId}{y:Operand}{m:X}{c:Call}(l:St F L w) (j:aG L ρ a) (q:∀k,o.dst=some k->k<a.tmps.size)
  (n:o.op=.call c) (r:c.callee=.builtin .len) (u:c.args=#[y]) (h:c.argTypes=#[t]) (s:P.underlying t=some (.map key e)) (z:bw y=some m)
  (b:evalOp P (.mlen m) o.dst F L ρ K):o.wp P a w (bh F L w a K) Q:=by
 have ey:=aI z j;simp only[evalOp,aL] at b;split at b
 case h_2=>exact b.elim
 rename_i g hm;obtain⟨k,cs,hk,f,b⟩:=b;have p:=uy l hk f;have d:(getObj g).run P w=.ok (.map (bg cs 0).toArray cs.length) w:=by simp[getObj,Sem.run,p]
 refine bK l j q (v:=.int .i64 cs.length) (x:=.v (.int .i64 cs.length)) ?_ rfl bT dK b;simp[execOp,n,resolve,r,u,h,invoke,builtin,Builtin.len_,ey,bH hm,run_underlying s,goInt,d,u7]
theorem Ez (r:St F L w) {k g:Nat}{cs cs':List Value}(d:L.get k=some (.box g 0 cs)):St F (L.set k (.box g 0 cs')) (setBlock w g (iH cs'))/\Step F L w F (L.set k (.box g 0 cs')) (setBlock w g (iH cs')) /\
  (∀j f ty xs,L.get j=some (.box f ty xs)->∃q,(L.set k (.box g 0 cs')).get j=some (.box f ty q)):=by
 have p:g<w.heap.size:=Own.ZN (r.own k _ d) rfl;have c:∀b,b≠g->(setBlock w g (iH cs')).heap[b]?=w.heap[b]?:=fun b hb=>by
  show(w.heap.setIfInBounds g (iH cs'))[b]?=_;rw[Array.getElem?_setIfInBounds,vz (fun e=>hb e.symm)]
 have l:w.heap.size<=(setBlock w g (iH cs')).heap.size:=by show _<=(w.heap.setIfInBounds g (iH cs')).size;simp
 refine⟨r.turn d ?_ (fun b hb n=>c b fun e=>n (by rw[e];rfl)) (fun f m=>.inl m),⟨aD.le_refl F,rfl,rfl,rfl,l,fun b hb s=>c b fun e=>s ⟨k,_,d,by rw[e];rfl⟩,fun b h=>.inl h,fun b h=>?_⟩,fun j f ty xs e=>?_⟩
 ·show(w.heap.setIfInBounds g (iH cs'))[g]?=_;rw[Array.getElem?_setIfInBounds,o6 rfl,o6 p];rfl
 ·rcases Loc.ZI h with h | h
  ·exact .inl ⟨k,_,d,h⟩
  ·exact .inl h
 ·rw[Loc.Zz];split
  ·rename_i t;subst t;rw[d] at e;injection e with e
   injection e with e1 e2 e3
   subst e1 e2;exact⟨_,rfl⟩
  ·exact⟨xs,e⟩
theorem yI {str:Bool}{t key e:TypeId}{g:Nat}{kv p:Value}{cs cs':List Value}(u:P.underlying t=some (.map key e)) (b:P.underlying key=some (kindOf str))
  (s:w.heap[g]?=some (.map (bg cs 0).toArray cs.length)) (d:fZ str kv kv=some true) (h:wC str kv p cs=some cs') :
  (Instr.mapUpdate t (.map (some g)) kv p).run P w=.ok () (setBlock w g (iH cs')):=by
 have f:(getObj g).run P w=.ok (.map (bg cs 0).toArray cs.length) w:=by simp[getObj,Sem.run,s]
 have k:∀o',(setObj g o').run P w=.ok () (setBlock w g o'):=fun o'=>by simp[setObj,Sem.run,s,setBlock]
 have m:=K9 (P:=P) (w:=w) (str:=str) (kv:=kv) b d false;rw[zm (Du h)];rcases zn d (i:=0) h with⟨j,v,q,x,h3,y,z⟩ | ⟨q,x⟩
 ·have r:=tE (P:=P) (w:=w) b (om q);have n:(((bg cs 0).toArray[0+j]?).map (·.key)).getD kv=kv:=by
   rw[Nat.zero_add];simp only[List.getElem?_toArray];rw[h3];rfl
  simp only[Instr.mapUpdate,Sem.run_bind,run_underlying u,Result.andThen_ok,f,m,r,n,Instr.keyThatStays,K8 d,aaD,Sem.run_pure,k];rw[y,z,Nat.zero_add];congr 3;apply Array.ext';simp
 ·have r:=tE (P:=P) (w:=w) b (om q);simp only[Instr.mapUpdate,Sem.run_bind,run_underlying u,Result.andThen_ok,f,m,r,k];subst x;congr 3
  ·apply Array.ext';have:∀(l:List Value) (i:Nat),bg (l++[.agg #[kv,p]]) i=bg l i++[{key:=kv,val:=p,born:=i+l.length}]:=by
    intro l
    induction l with
    | nil=>intro i;simp[bg,gR]
    | cons c l ih=>intro i;simp only[aay,bg,ih,aau];rw[show i+1+l.length=i+(l.length+1) by omega]
   simp[this]
  ·simp
theorem vW {str:Bool}{t key e:TypeId}{y z u:Operand}{q n r:X}(m:St F L w) (f:aG L ρ a) (x:∀k,o.dst=some k->k<a.tmps.size)
  (d:o.op=.mapUpdate t y z u\/o.op=.insert t y z u) (ht:P.underlying t=some (.map key e)) (h:P.underlying key=some (kindOf str)) (hy:bw y=some q) (hz:bw z=some n) (v:bw u=some r)
  (b:evalOp P (.mupd str q n r) o.dst F L ρ K):o.wp P a w (bh F L w a K) Q:=by
 have ey:=aI hy f;have ez:=aI hz f;have eu:=aI v f;simp only[evalOp] at b;split at b
 case h_2=>exact b.elim
 rename_i g hm;obtain⟨k,cs,p,j,b⟩:=b;obtain⟨l,cs',c,b⟩:=b;have s:=uy m p j;obtain⟨h1,h2,h3⟩:=Ez m p (cs':=cs');refine tw f x (w':=setBlock w g (iH cs')) ?_ h1 h2 h3 b;have hr:=yI (w:=w) ht h s l c;rcases d with d | d<;>simp[execOp,d,ey,ez,eu,bH hm,hr]
theorem FW {t key e:TypeId}{y:Operand}{m:X}(j:St F L w) (h:aG L ρ a) (q:∀k,o.dst=some k->k<a.tmps.size)
  (n:o.op=.range t y) (s:P.underlying t=some (.map key e)) (z:bw y=some m) (b:evalOp P (.mrange m) o.dst F L ρ K):o.wp P a w (bh F L w a K) Q:=by
 have ey:=aI z h;simp only[evalOp] at b;split at b
 case h_2=>exact b.elim
 rename_i _ g k hm l;split at b
 case h_2=>exact b.elim
 rename_i _ hk;obtain⟨km,cs,f,d,b⟩:=b;have p:=uy j f d;have c:(getObj g).run P w=.ok (.map (bg cs 0).toArray cs.length) w:=by simp[getObj,Sem.run,p]
 have b:=b w.heap.size;obtain⟨r,u,h3⟩:=mP j hk (ob:=.mapIter (some g) cs.length #[] cs.length) (e:=.box w.heap.size 0 [.tuple #[.map (some g),.int .i64 cs.length]]) rfl (by show _=_;rw[gS];simp[lQ,iH]);refine gB h q (v:=.pointer (some ⟨w.heap.size,0,none⟩)) (x:=.own k 0) ?_ r u ?_ ?_ (fun _ _ e=>by cases e) h3 b
 ·simp[execOp,n,Instr.range,ey,bH hm,run_underlying s,c]
 ·simp only[conc,Loc.Zz,aaD]
 ·rintro k' off e;injection e with e1 e2
  subst e1;exact⟨_,_,_,by rw[Loc.Zz,o6 rfl]⟩
theorem HG {y:Operand}{y':X}(z:St F L w) (he:aG L ρ a) (hd:∀k,o.dst=some k->k<a.tmps.size)
  (ho:o.op=.next y false) (hy:bw y=some y') (r:evalOp P (.mnext y') o.dst F L ρ K):o.wp P a w (bh F L w a K) Q:=by
 have ey:=aI hy he;simp only[evalOp] at r;split at r
 case h_2=>exact r.elim
 rename_i k hm;split at r
 case h_2=>exact r.elim
 rename_i gi g n b hk;obtain⟨km,cs,ax,ao,t,p,aa⟩:=r.out;have hg:=uy z ax ao;have aw:w.heap[gi]?=some (.mapIter (some g) n (b.map jw).toArray n):=by
  have h:=z.own k _ hk;simp only[Own.ok,lQ,iH] at h;exact h
 have ad:a.eval y=.pointer (some ⟨gi,0,none⟩):=by rw[ey];simp only[val,hm,conc,hk]
 have u:∀x∈(bg cs 0).toArray.toList,x.born<n:=by
  intro x hx;simp only[List.toList_toArray] at hx;obtain⟨j,d⟩:=aaE.1 hx;rw[ql] at d;cases m:cs[j]? with
  | none=>rw[m] at d;cases d
  | some v =>
   rw[m] at d;simp only[aa5,yo] at d;rw[<-d,mR];have:=(aai.1 m).1;omega
 rcases run_next_at (P:=P) w o.type gi g n n (b.map jw).toArray (bg cs 0).toArray cs.length aw hg u (aaB _) with⟨h0,c⟩ | ⟨e,l,w1,s,c⟩
 ·refine bK z he hd (v:=.tuple #[.bool false]) (x:=.v (.tuple #[.bool false])) ?_ rfl bT dK (aa fun j d=>?_)
  ·simp only[execOp,ho,ad,Sem.run_bind,c,Result.andThen_ok,Sem.run_pure]
  ·have m:∃v,cs[j]?=some v:=⟨cs[j]'(by omega),aag (by omega)⟩;obtain⟨v,m⟩:=m;have am:(bg cs 0)[j]?=some (gR v (0+j)):=by rw[ql,m];rfl
   have q:gR v (0+j)∈bg cs 0:=aam am;apply Classical.byContradiction;intro f;have h1:gR v (0+j)∈(leftOf (bg cs 0).toArray (b.map jw).toArray).toList:=by
    unfold leftOf;simp only[Array.toList_filter,List.mem_filter,q,true_and];rw[mR];simpa using f
   have h2:(leftOf (bg cs 0).toArray (b.map jw).toArray)=#[]:=Array.eq_empty_of_size_eq_zero h0;rw[h2] at h1;cases h1
 ·unfold leftOf at l;simp only[Array.toList_filter,List.mem_filter] at l;obtain⟨q,f⟩:=l;obtain⟨j,d⟩:=aaE.1 q;rw[ql] at d;cases m:cs[j]? with
  | none=>rw[m] at d;cases d
  | some v =>
   rw[m] at d;simp only[aa5,yo,Nat.zero_add] at d;subst d;rw[mR] at c f;have av:j∉b.map jw:=by simpa using f
   have an:=p j v m av;have ap:St F L w1:=by rcases s with rfl | rfl;exact z;exact z.drew
   obtain⟨h1,h2,h3⟩:=Ez ap hk (cs':=.tuple #[.map (some g),.int .i64 n]::(b++[.int .i64 j]));have ar:Step F L w F L w1:=by
    rcases s with rfl | rfl
    ·exact Step.refl _ _ _
    ·exact⟨aD.le_refl F,rfl,rfl,rfl,aaB _,fun _ _ _=>rfl,fun _ h=>.inl h,fun _ h=>.inl h⟩
   have ab:iH (.tuple #[.map (some g),.int .i64 n]::(b++[.int .i64 j]))=.mapIter (some g) n ((b.map jw).toArray.push j) cs.length:=by
    simp[iH,jw,t]
   rw[ab] at h1 h2;refine gB he hd (v:=.tuple #[.bool true,(gR v j).key,(gR v j).val]) (x:=.v (.tuple #[.bool true,(gR v j).key,(gR v j).val])) ?_ h1 (ar.trans h2) rfl bT dK h3 an;simp only[execOp,ho,ad,Sem.run_bind,c,Result.andThen_ok,Sem.run_pure]
theorem FX {y:Operand}{y':X}(hs:St F L w) (he:aG L ρ a) (hd:∀k,o.dst=some k->k<a.tmps.size)
  (ho:o.op=.entry y) (hy:bw y=some y') (p:evalOp P (.mentry y') o.dst F L ρ K):o.wp P a w (bh F L w a K) Q:=by
 have ey:=aI hy he;simp only[evalOp] at p;split at p
 case h_2=>exact p.elim
 rename_i k hm;split at p
 case h_2=>exact p.elim
 rename_i gi g n d hk;obtain⟨km,cs,j,e,al,ad,r,b,hj,ag⟩:=p.out;have hg:=uy hs al ad;have z:w.heap[gi]?=some (.mapIter (some g) n (d.map jw).toArray n):=by
  have h:=hs.own k _ hk;simp only[Own.ok,lQ,iH] at h;exact h
 have ae:a.eval y=.pointer (some ⟨gi,0,none⟩):=by rw[ey];simp only[val,hm,conc,hk]
 have m:∃l,d=l++[.int .i64 (.ofNat j)]:=by
  have t:d≠[]:=by rintro rfl;simp at b
  refine⟨d.dropLast,?_⟩;rw[List.getLast?_eq_some_getLast t] at b;injection b with b
  rw[<-b];exact(List.dropLast_concat_getLast t).symm
 obtain⟨l,rfl⟩:=m;have q:(bg cs 0)[j]?=some (gR e j):=by rw[ql,hj];simp
 have f:(gR e j).born=j:=mR e j;have ab:((bg cs 0).toArray.toList.map (·.born)).Nodup:=by
  have:∀(cs:List Value) (i:Nat),(bg cs i).map (·.born)=List.range' i cs.length:=by
   intro cs
   induction cs with
   | nil=>intro i;rfl
   | cons c cs ih=>intro i;simp[bg,mR,ih,List.range'_succ]
  simp only[List.toList_toArray,this];exact List.nodup_range' ..
 have u:((l++[Value.int .i64 (.ofNat j)]).map jw).toArray=(l.map jw).toArray.push (gR e j).born:=by
  rw[f];simp[jw]
 rw[u,<-r] at z;have s:=run_entry_at (P:=P) w gi g cs.length (l.map jw).toArray (bg cs 0).toArray cs.length (gR e j) z hg (by simpa using aam q) ab;refine bK hs he hd (v:=.tuple #[(gR e j).key,(gR e j).val]) (x:=.v (.tuple #[(gR e j).key,(gR e j).val])) ?_ rfl bT dK ag;simp only[execOp,ho,ae,Sem.run_bind,s,Result.andThen_ok,Sem.run_pure]
end
section
variable {P:Program}{F:aD}{L:Loc}{ρ:Env}{a:Act}{w:World}{K:cS}{o:Oper}{Q:Exit->Act->World->Prop}
theorem Dw {zs:List Value}{l:List (Nat×Nat×X)}(h:(l.all fun p=>Nat.ble (p.1+p.2.1) zs.length)=true):∀off n x,(off,n,x)∈l->off+n<=zs.length:=by
 intro off n x b;have:=aas.1 h _ b;exact aav this
set_option maxHeartbeats 1000000 in
theorem fB {own:Bool}{s:eP}(hs:St F L w) (he:aG L ρ a) (hd:∀k,o.dst=some k->k<a.tmps.size) (j:iI P own o.op=some s)
  (q:evalOp P s o.dst F L ρ K):o.wp P a w (bh F L w a K) Q:=by
 cases ho:o.op<;>rw[ho] at j<;>simp only[iI] at j<;>try (cases j;done)
 case move y =>
  split at j
  case h_2=>cases j
  rename_i x hx;injection j with j;subst j
  exact Ho hs he hd (.inl ho) hx q
 case assign y =>
  split at j
  case h_2=>cases j
  rename_i x hx;injection j with j;subst j
  exact Ho hs he hd (.inr ho) hx q
 case pick c y z =>
  split at j
  case h_2=>cases j
  rename_i l m p;injection j with j;subst j
  exact KN hs he hd ho l m p q
 case box t y =>
  split at j
  case h_2=>cases j
  rename_i l ap;have ap:=aaV ap;injection j with j
  cases own
  ·subst j;exact OH hs he hd ho l ap q
  ·subst j;exact KP hs he hd ho l q
 case alloc t =>
  split at j
  case h_2=>cases j
  rename_i l ap;have ap:=aaV ap;split at j
  case h_2=>cases j
  rename_i m;injection j with j;subst j
  exact Hp hs he hd ho l m ap q
 case buildSlice t n ps =>
  split at j
  case h_2=>cases j
  rename_i l m;split at j
  case h_2=>cases j
  rename_i p;split at j
  case h_2=>cases j
  rename_i h4 h5 h6;have h4:=aaz h4;have h5:=aaz h5;injection j with j
  cases own
  ·subst j;exact OI hs he hd ho l p h6 m h4 h5.1 q
  ·subst j;exact OJ hs he hd ho l p h6 m h4 h5.1 h5.2 q
 case build t ps =>
  split at j
  case h_2=>cases j
  rename_i l m;split at j
  case h_2=>cases j
  rename_i p h4;split at j
  case h_2=>cases j
  rename_i h5 h6;injection j with j;subst j
  exact Hq hs he hd ho l m p h4 (fun f hf=>aas.1 h5 f hf) (Dw h6) q
 case load t y =>
  split at j
  ·rename_i d i x l m p;injection j with j
   refine KQ (d:=d) (i:=i) (n:=match dM d with | true=>i.size | false=>1) hs he hd ho l m p rfl ?_;cases aE:dM d<;>simp only[aE] at j ⊢<;>subst j<;>exact q
  ·rename_i l m p;cases y with
   | global g =>
    simp only[zb] at j;split at j
    ·rename_i h4;injection j with j;subst j
     exact BJ hs he hd ho l m rfl h4 q
    ·cases j
   | tmp n=>cases j
   | const v=>cases j
   | func f=>cases j
  ·rename_i l m p;split at j
   case h_2=>injection j with j;subst j;exact False.elim q
   rename_i h4;injection j with j;subst j
   cases y with
   | global g =>
    simp only[zb] at h4;split at h4
    ·rename_i h5;injection h4 with h4;subst h4
     exact BJ hs he hd ho l m rfl h5 q
    ·cases h4
   | tmp n=>cases h4
   | const v=>cases h4
   | func f=>cases h4
  ·injection j with j;subst j
   exact False.elim q
  ·cases j
 case lookup t y z ok =>
  split at j
  ·split at j
   case h_2=>cases j
   rename_i l m p;split at j
   case h_2=>cases j
   rename_i h4 h5;split at j
   case h_2=>cases j
   rename_i h6;injection j with j;subst j
   exact K1 hs he hd ho l h4 h5 h6 m p q
  ·split at j
   case h_2=>cases j
   rename_i l m p;split at j
   case h_3=>cases j
   ·rename_i h4 h5;split at j
    case h_2=>cases j
    rename_i h6;injection j with j;subst j
    exact BN (str:=false) hs he hd ho l h4 h5 h6 m p q
   ·rename_i h4 h5;split at j
    case h_2=>cases j
    rename_i h6;injection j with j;subst j
    exact BN (str:=true) hs he hd ho l h4 h5 h6 m p q
 case makeMap t r =>
  cases r with
  | none =>
   simp only[iI,yo] at j;subst j;exact HF hs he hd ho q
  | some r=>simp only[iI] at j;cases j
 case mapUpdate t y z u =>
  split at j
  case h_2=>cases j
  rename_i l m p h4;split at j
  case h_3=>cases j
  ·rename_i h5;injection j with j;subst j
   exact vW (str:=false) hs he hd (.inl ho) l h5 m p h4 q
  ·rename_i h5;injection j with j;subst j
   exact vW (str:=true) hs he hd (.inl ho) l h5 m p h4 q
 case insert t y z u =>
  split at j
  case h_2=>cases j
  rename_i l m p h4;split at j
  case h_3=>cases j
  ·rename_i h5;injection j with j;subst j
   exact vW (str:=false) hs he hd (.inr ho) l h5 m p h4 q
  ·rename_i h5;injection j with j;subst j
   exact vW (str:=true) hs he hd (.inr ho) l h5 m p h4 q
 case range t y =>
  split at j
  case h_2=>cases j
  rename_i l m;injection j with j;subst j
  exact FW hs he hd ho l m q
 case entry y =>
  split at j
  case h_2=>cases j
  rename_i l;injection j with j;subst j
  exact FX hs he hd ho l q
 case next y b =>
  cases b with
  | true=>simp only[iI] at j;cases j
  | false =>
   simp only[iI] at j;split at j
   case h_2=>cases j
   rename_i l;injection j with j;subst j
   exact HG hs he hd ho l q
 case store t y z =>
  split at j
  case h_2=>cases j
  rename_i l m p;injection j with j;subst j
  exact HB hs he hd ho l m p q
 case makeInterface t y =>
  split at j
  ·cases j
  ·rename_i d x l m p;injection j with j;subst j
   exact KY hs he hd ho m l p q
  ·cases j
 case typeAssert y xt t ok =>
  cases ok with
  | false=>cases j
  | true =>
   simp only[] at j;split at j
   ·cases j
   ·rename_i d i x h4 l m p;split at j
    case h_2=>cases j
    rename_i h5;injection j with j;subst j
    exact OX hs he hd ho l h4 m h5 p q
   ·cases j
 case panic y =>
  split at j
  case h_2=>cases j
  injection j with j;subst j
  exact q.elim
 case nilCheck y =>
  split at j
  case h_2=>cases j
  rename_i l m;injection j with j;subst j
  exact HA hs he hd ho l m q
 case binOp op t y z t' =>
  split at j
  case h_2=>cases j
  rename_i d x1 x2 l m p;split at j<;>first
   | (cases j;done)
   | (injection j with j;subst j;first
     | exact Hr (neg:=false) hs he hd ho l m p q
     | exact Hr (neg:=true) hs he hd ho l m p q
     | exact Hs (neg:=false) hs he hd ho l m p q
     | exact Hs (neg:=true) hs he hd ho l m p q
     | exact Ht (neg:=false) hs he hd ho l m p q
     | exact Ht (neg:=true) hs he hd ho l m p q
     | exact Hu (neg:=false) hs he hd ho l m p q
     | exact Hu (neg:=true) hs he hd ho l m p q
     | exact OL hs he hd ho m p q)
   | (split at j
      case h_2=>cases j
      rename_i k1 k2 k3;injection j with j;subst j
      first
       | exact Hy (neg:=false) hs he hd ho l k1 k2 k3 m p q
       | exact Hy (neg:=true) hs he hd ho l k1 k2 k3 m p q)
   | (split at j
      case h_2=>cases j
      rename_i k1;injection j with j;subst j
      first
       | exact Hv (neg:=false) hs he hd ho l m p k1 q
       | exact Hv (neg:=true) hs he hd ho l m p k1 q)
 case unOp op t y =>
  split at j
  case h_2=>cases j
  rename_i l;injection j with j;subst j
  exact QV hs he hd ho l q
 case convert s t y =>
  split at j
  case h_4=>cases j
  ·rename_i l m p;injection j with j;subst j
   exact KR hs he hd ho l m p q
  ·rename_i l m p;split at j
   case h_2=>cases j
   rename_i h4;injection j with j;subst j
   exact OU hs he hd ho l m h4 p q
  ·rename_i l m p;split at j
   case h_2=>cases j
   rename_i h4;injection j with j;subst j
   exact O1 hs he hd ho l m h4 p q
 case makeFunc fn fi ca =>
  cases fn<;>simp only[] at j<;>try (cases j;done)
  ·split at j
   case h_2=>cases j
   rename_i l m;injection j with j;subst j
   exact KS hs he hd ho l m q
  ·split at j
   case h_2=>cases j
   rename_i l m;injection j with j;subst j
   exact KZ hs he hd ho l m q
  ·split at j
   case h_2=>cases j
   rename_i l m;injection j with j;subst j
   exact K0 hs he hd ho l m q
 case makeSlice t y z =>
  split at j
  case h_2=>cases j
  rename_i l m p;split at j
  case h_2=>cases j
  rename_i h4;split at j
  case h_2=>cases j
  rename_i h5;split at j
  case h_2=>cases j
  rename_i h6 h7;injection j with j;subst j
  exact HC hs he hd ho l h4 h5 (aaz h6) (aaz h7) m p q
 case slice t y lo up mx =>
  cases mx<;>simp only[] at j<;>try (cases j;done)
  split at j
  case h_3=>cases j
  ·rename_i l m p h4;split at j
   case h_2=>cases j
   rename_i h5;injection j with j;subst j
   exact OY hs he hd ho l h5 m p h4 q
  ·rename_i l m p h4;injection j with j;subst j
   exact K3 hs he hd ho l m p h4 q
 case fieldAddr t y f =>
  split at j
  case h_2=>cases j
  rename_i l m;split at j
  case h_2=>cases j
  rename_i p;split at j
  case h_2=>cases j
  rename_i h4;split at j
  case h_1=>cases j
  rename_i h5;injection j with j;subst j
  exact FT hs he hd ho l p h4 (aaV h5) m q
 case field t y f =>
  split at j
  case h_2=>cases j
  rename_i l m;split at j
  case h_2=>cases j
  rename_i p;split at j
  case h_2=>cases j
  rename_i d i h4 h5;refine FR (n:=match dM d with | true=>i.size | false=>1) hs he hd ho l p h4 h5 m rfl ?_;cases aE:dM d<;>simp only[aE] at j ⊢<;>injection j with j<;>subst j<;>exact q
 case indexAddr t y z =>
  split at j
  case h_2=>cases j
  rename_i l m p;split at j
  case h_2=>cases j
  rename_i h4;injection j with j;subst j
  exact KU hs he hd ho l h4 m p q
 case index t y z =>
  split at j
  case h_2=>cases j
  rename_i l m p;injection j with j;subst j
  exact KV hs he hd ho l m p q
 case extract y i =>
  split at j
  case h_2=>cases j
  rename_i l;injection j with j;subst j
  exact KT hs he hd ho l q
 case call c =>
  split at j
  case h_1=>cases j
  rename_i args al;split at j
  ·rename_i f hc;split at j
   case h_2=>cases j
   split at j
   case h_2=>cases j
   injection j with j;subst j
   exact K6 hs he hd ho hc al q
  ·rename_i y hc;split at j
   case h_2=>cases j
   rename_i l;injection j with j;subst j
   exact HE hs he hd ho hc l al q
  ·rename_i n nm hc;injection j with j;subst j
   exact O0 hs he hd ho hc al q
  ·cases j
  ·rename_i b hc;have one:∀{x:X},args=[x]->∃y,c.args=#[y]/\bw y=some x:=by
    intro x e;subst e
    match az:c.args.toList,al with
    | [],h=>simp[gP] at h
    | [y],h =>
     refine⟨y,by apply Array.ext';simpa using az,?_⟩;simp only[gP] at h;split at h
     case h_2=>cases h
     rename_i l m;injection h with h
     injection h with h _
     rw[l,h]
    | y::z::r,h =>
     simp only[gP] at h;split at h
     case h_2=>cases h
     rename_i l m;injection h with h
     injection h with _ h
     subst h;split at m
     ·injection m with m;cases m
     ·cases m
   have bb:∀{x x':X},args=[x,x']->∃y y',c.args=#[y,y']/\bw y=some x/\bw y'=some x':=by
    intro x x' e;subst e
    match az:c.args.toList,al with
    | [],h=>simp[gP] at h
    | [y],h =>
     simp only[gP] at h;split at h
     case h_2=>cases h
     rename_i l m;injection m with m
     injection h with h
     injection h with _ h
     rw[h] at m;cases m
    | [y,y'],h =>
     refine⟨y,y',by apply Array.ext';simpa using az,?_⟩;simp only[gP] at h;split at h
     case h_2=>cases h
     rename_i l m;injection h with h
     injection h with h h'
     split at m
     case h_2=>cases m
     rename_i p h4;injection m with m
     rw[<-m] at h';injection h' with h' _
     exact⟨by rw[l,h],by rw[p,h']⟩
    | y::z::u::r,h =>
     simp only[gP] at h;split at h
     case h_2=>cases h
     rename_i l m;injection h with h
     injection h with _ h
     subst h;split at m
     case h_2=>cases m
     rename_i p h4;injection m with m
     injection m with _ m
     subst m;split at h4
     ·injection h4 with h4;cases h4
     ·cases h4
   have ay:∀{t:TypeId},c.argTypes.toList=[t]->c.argTypes=#[t]:=fun e=>by apply Array.ext';simpa using e
   have ax:∀{t t':TypeId},c.argTypes.toList=[t,t']->c.argTypes=#[t,t']:=fun e=>by apply Array.ext';simpa using e
   split at j
   ·rename_i x t am;obtain⟨y,ha,hy⟩:=one rfl;split at j
    ·rename_i l;injection j with j;subst j
     exact OV hs he hd ho hc ha (ay am) l hy q
    ·rename_i l;injection j with j;subst j
     exact KW hs he hd ho hc ha (ay am) l hy q
    ·rename_i l;injection j with j;subst j
     exact Lb hs he hd ho hc ha (ay am) l hy q
    ·cases j
   ·rename_i x t am;obtain⟨y,ha,hy⟩:=one rfl;split at j
    ·rename_i l;injection j with j;subst j
     exact KX hs he hd ho hc ha (ay am) l hy q
    ·cases j
   ·injection j with j;subst j
    exact NA (mx:=true) hs he hd ho hc al q
   ·injection j with j;subst j
    exact NA (mx:=false) hs he hd ho hc al q
   ·rename_i x x' t t' am;obtain⟨y,y',ha,hy,ar⟩:=bb rfl;split at j
    ·rename_i l m;split at j
     case h_2=>cases j
     rename_i p;split at j
     case h_2=>cases j
     rename_i h4;split at j
     case h_2=>cases j
     rename_i h5 h6 h7;have h5:=aaz h5;subst h5;injection j with j;subst j
     exact OZ hs he hd ho hc ha (ax am) l p h4 (aaz h6) (aaz h7) hy ar q
    ·rename_i l m;split at j
     case h_2=>cases j
     rename_i p;split at j
     case h_2=>cases j
     rename_i h4;split at j
     case h_2=>cases j
     rename_i h5 h6 h7;have h5:=aaz h5;subst h5;injection j with j;subst j
     exact K4 hs he hd ho hc ha (ax am) l m p h4 (aaz h6) (aaz h7) hy ar q
    ·rename_i l m;split at j
     case h_2=>cases j
     rename_i p;split at j
     case h_2=>cases j
     rename_i h4;split at j
     case h_2=>cases j
     rename_i h5 h6;have h5:=aaz h5;subst h5;injection j with j;subst j
     exact K5 hs he hd ho hc ha (ax am) l m p h4 (aaz h6) hy ar q
    ·cases j
   ·rename_i x x' t t' am;obtain⟨y,y',ha,hy,ar⟩:=bb rfl;split at j
    ·rename_i l m;split at j
     case h_2=>cases j
     rename_i p;split at j
     case h_2=>cases j
     rename_i h5 h6;injection j with j;subst j
     exact Ew hs he hd ho hc ha (ax am) l p (aaz h6) hy ar q
    ·rename_i l m;split at j
     case h_2=>cases j
     rename_i p;split at j
     case h_2=>cases j
     rename_i h6;injection j with j;subst j
     exact Ew hs he hd ho hc ha (ax am) l p (aaz h6) hy ar q
    ·cases j
   ·cases j
end
structure cH where
 n:Nat
 own:List Nat:=[]
 frz:List (Nat×Nat×List Nat):=[]
 ord:List (Nat×List Nat×List (List Nat)):=[]
 co:List Nat:=[]
 pan:List (Nat×Nat):=[]
 bx:List Nat:=[]
 fl:List Nat:=[]
 px:List Nat:=[]
 bk:List (Nat×Nat):=[]
def u9:List (Nat×Nat)->Nat->Nat->Bool
 | [],_,_=>false
 | (r,i)::l,b,c=>match Nat.beq r b&&Nat.beq i c with | true=>true | false=>u9 l b c
def nQ (b:Bool) (d:Option Nat) (s:eP) (g:Option (Nat×Bool)):aA:=match b with | true=>.pc d s g | false=>.op d s g
def cH.owned (A:cH):Option Nat->Bool
 | some d=>ga A.own d
 | none=>false
def cH.isO (A:cH):Option Nat->Bool
 | some d=>ga A.co d
 | none=>ga A.co 999999
def cH.isX (A:cH):Option Nat->Bool
 | some d=>ga A.px d
 | none=>ga A.px 999999
def HI:List (Nat×Nat×List Nat)->Nat->Nat->List Nat
 | [],_,_=>[]
 | (r,i,ks)::l,b,c=>match Nat.beq r b&&Nat.beq i c with | true=>ks | false=>HI l b c
def HJ:List (Nat×List Nat×List (List Nat))->Nat->Option (List Nat×List (List Nat))
 | [],_=>none
 | (r,is)::l,b=>match Nat.beq r b with | true=>some is | false=>HJ l b
def tF (l:List (Nat×List Nat×List (List Nat))) (r:Nat):List Nat:=match HJ l r with | some (is,_)=>is | none=>[]
def iK (c:Array Oper):Option (Nat×Bool)->Option (Option (Nat×Bool))
 | none=>some none
 | some (j,b)=>match(c[j]?).bind (·.dst) with
  | some d=>some (some (d,b))
  | none=>none
def NC (n:Nat):Option Nat->Bool
 | none=>true
 | some d=>Nat.blt d n
def qm (P:Program) (A:cH) (r:Nat) (b:Array Oper):List Nat->Option (List aA)
 | []=>some []
 | i::is=>match b[i]? with
  | none=>none
  | some o=>match iK b o.guard,iI P (A.owned o.dst) o.op,NC A.n o.dst,qm P A r b is with
   | some g,some s,true,some c=>some ((HI A.frz r i).map .frz++nQ (u9 A.pan r i) o.dst s g::c)
   | _,_,_,_=>none
section
variable {P:Program}{F:aD}{L:Loc}{ρ:Env}{a:Act}{w:World}{K:cS}{Q:Exit->Act->World->Prop}
def eY (n:Nat) (F:aD) (L:Loc) (w:World) (a:Act) (asg:List Nat) (K:cS) (b:Act) (w':World):Prop :=
 ∃F' L' ρ',St F' L' w'/\aG L' ρ' b/\b.tmps.size=n/\b.defers=a.defers/\Step F L w F' L' w'/\(∀j,j∉asg->b.tmps.getD j undef=a.tmps.getD j undef)/\K F' L' ρ'
theorem oq {k:Nat}{KK:aD->Loc->Prop}(hs:St F L w) (z:aG L ρ a) (h:Nz F L k KK):∃F' L',St F' L' w/\aG L' ρ a/\Step F L w F' L' w/\KK F' L':=by
 obtain⟨v,t,sz,n,xs,hk,hK⟩:=h;have d:=hs.own k _ hk;simp only[Own.ok] at d;have s:=hs.part (Loc.ZX L k);have m:aG (L.del k) ρ a:=by
  have hb:∀j g ty cs,L.get j=some (.box g ty cs)->(L.del k).get j=some (.box g ty cs):=by
   intro j g ty cs e;rw[Loc.ZE];split
   ·rename_i hj;subst hj;rw[hk] at e;cases e
   ·exact e
  refine⟨fun j=>?_,fun j r off e=>?_,z.el⟩
  ·rw[z.eq j];cases e:ρ j with
   | v x=>rfl
   | el x y=>rfl
   | own r off =>
    obtain⟨g,ty,cs,c⟩:=z.own j r off e;simp only[conc,c,hb r g ty cs c]
  ·obtain⟨g,ty,cs,c⟩:=z.own j r off e;exact⟨g,ty,cs,hb r g ty cs c⟩
 have ae:∀g,v.ownBlock=some g->¬(L.del k).owns g:=by
  rintro g c ⟨j,p,e,hb⟩;rw[Loc.ZE] at e;split at e
  ·cases e
  ·rename_i hj;exact hj (hs.sep j k p _ g e hk hb c)
 obtain⟨hx,f⟩:=d;rcases f with⟨rfl,rfl⟩ | ⟨g,cap,ad,rfl,ar,c,ag,ao,an,l⟩
 ·refine⟨F,L.del k,s,m,⟨aD.le_refl F,rfl,rfl,rfl,aaB _,fun _ _ _=>rfl,fun b h=>.inl h,fun b h=>.inl (Loc.ZP h)⟩,hK F (aD.le_refl F) (.inl ⟨rfl,rfl,aaG (by simpa using hx)⟩)⟩
 ·have q:=aD.ZO hs c;refine⟨_,L.del k,s.freeze c (ae g rfl),m,⟨q,rfl,rfl,rfl,aaB _,fun _ _ _=>rfl,fun b h=>?_,fun b h=>.inl (Loc.ZP h)⟩,hK _ q (.inr ⟨⟨g,0,none⟩,cap,rfl,⟨_,ad,t,(0,0),rfl,o6 rfl,rfl,fun i u hu=>?_⟩,ag⟩)⟩
  ·by_cases o:b=g
   ·subst o;exact .inr (.inl ⟨k,_,hk,rfl⟩)
   ·simp only[vz o] at h;exact .inl h
  ·rw[<-l,aaN] at hu;split at hu
   ·exact⟨by simpa using hu,tj _⟩
   ·cases hu
theorem sA {k g:Nat}{t:TypeId}{cs:List Value}(m:St F L w) (o:aG L ρ a) (n:L.get k=some (.box g t cs)) :
  ∃F',F.le F'/\F' g=some (lQ t cs)/\St F' (L.del k) w/\aG (L.del k) (wE k g ρ) a/\Step F L w F' (L.del k) w:=by
 have q:=m.own k _ n;simp only[Own.ok] at q;have u:=m.part (Loc.ZX L k);have l:=aD.ZO m q;have z:¬(L.del k).owns g:=by
  rintro⟨j,p,e,hb⟩;rw[Loc.ZE] at e;split at e
  ·cases e
  ·rename_i hj;exact hj (m.sep j k p _ g e n hb rfl)
 refine⟨_,l,o6 rfl,u.freeze q z,⟨fun j=>?_,fun j s off e=>?_,fun j ad i e=>?_⟩,⟨l,rfl,rfl,rfl,aaB _,fun _ _ _=>rfl,fun b h=>?_,fun b h=>.inl (Loc.ZP h)⟩⟩
 ·rw[o.eq j];simp only[wE];cases e:ρ j with
  | v x=>rfl
  | el x y=>rfl
  | own s off =>
   simp only[];cases hb:Nat.beq s k with
   | true =>
    have:=xo hb;subst this;simp only[conc,n]
   | false =>
    have c:s≠k:=fun e=>by rw[e] at hb;simp at hb
    simp only[conc];rw[Loc.ZE,vz c]
 ·simp only[wE] at e;split at e
  ·rename_i k2 f r;cases hb:Nat.beq k2 k with
   | true=>rw[hb] at e;cases e
   | false =>
    rw[hb] at e;injection e with e3 e4
    subst e3;have c:k2≠k:=fun e=>by rw[e] at hb;simp at hb
    rw[Loc.ZE,vz c];exact o.own j k2 f r
  ·cases e
  ·cases e
 ·simp only[wE] at e;split at e
  ·split at e<;>cases e
  ·cases e
  ·rename_i a2 i2 r;injection e with h1 h2
   subst h1;exact o.el j _ _ r
 ·by_cases d:b=g
  ·subst d;exact .inr (.inl ⟨k,_,n,rfl⟩)
  ·simp only[vz d] at h;exact .inl h
theorem ri {s:Nat}{b:Bool}(h:a.tmps.getD s undef=.bool b):a.tmps[s]?=some (.bool b):=by
 rw[aaF] at h;cases e:a.tmps[s]? with
 | none=>rw[e] at h;simp[undef] at h
 | some v=>rw[e] at h;simp at h;rw[h]
theorem lq {ρ:Env}{s:Nat}{v:Value}(h:ρ s=.v v):put (some s) (.v v) ρ=ρ:=by
 funext t
 rw[put_eq];simp only[];split
 ·rename_i b;subst b;exact h.symm
 ·rfl
def dstsOf (b:Array Oper):List Nat->List Nat
 | []=>[]
 | i::is=>match(b[i]?).bind (·.dst) with | some d=>d::dstsOf b is | none=>dstsOf b is
theorem kJ {d:Option Nat}{v:Value}{j:Nat}(h:d≠some j):(a.put d v).tmps.getD j undef=a.tmps.getD j undef:=by
 cases d with
 | none=>rfl
 | some k =>
  simp only[Act.put,aaF,Array.getElem?_setIfInBounds];rw[vz (by intro e;exact h (by rw[e]))]
theorem qo {o:Oper}{asg:List Nat}{KK:Act->World->Prop}(b:o.wp P a w KK Q) :
  o.wp P a w (fun f w'=>KK f w'/\∀j,o.dst≠some j->f.tmps.getD j undef=a.tmps.getD j undef) Q:=by
 unfold Oper.wp at b ⊢;generalize(execOp a.eval o).run P w=r at b ⊢;cases r with
 | ok k w' =>
  cases k<;>simp only[Oper.upon] at b ⊢<;>first
   | exact⟨b,fun j h=>kJ h⟩
   | exact Calls.mono b (fun e d c=>by cases e<;>first | exact⟨c,fun j h=>kJ h⟩ | exact c)
   | exact Rows.mono b (fun v d c=>⟨c,fun j h=>kJ h⟩)
 | halt x w'=>cases x<;>simp only[Oper.upon] at b ⊢<;>exact b
theorem uz {c:Code}(I:Nat->Act->World->Prop) (t:∃n,I n a w)
  (q:∀n a w,I n a w->c.wp P (Exit.then (fun s w'=>∃m,m<n/\I m s w') Q) a w):(Code.loop c).wp P Q a w:=by
 intro b k cs;have key:∀n a w,I n a w->∃e s w',Q e s w'/\Arrives P (lone (b.at a (.code c::.inLoop c::k)) cs w) b k cs e s w':=by
  intro n
  induction n using Nat.strongRecOn with
  | _ n ih =>
   intro a w hI;obtain⟨e,h,f,o,d⟩:=q n a w hI b (.inLoop c::k) cs;cases e with
   | normal =>
    obtain⟨m,z,p⟩:=o;obtain⟨v,u,y,r,j⟩:=ih m z h f p;exact⟨v,u,y,r,.of_steps (Steps.trans d (.one step_inLoop)) j⟩
   | exit id=>exact⟨_,h,f,o,.pass (x:=.inLoop c) rfl (fun _ _=>.inl (by simp)) d⟩
   | goto l=>exact⟨_,h,f,o,.pass (x:=.inLoop c) rfl (fun _ _=>.inl (by simp)) d⟩
   | ret=>exact⟨_,h,f,o,.pass (x:=.inLoop c) rfl (fun _ _=>.inl (by simp)) d⟩
   | panic ch=>exact⟨_,h,f,o,.pass (x:=.inLoop c) rfl (fun _ _=>.inl (by simp)) d⟩
   | outgrown=>exact⟨_,h,f,o,.pass (x:=.inLoop c) rfl (fun _ _=>.inl (by simp)) d⟩
 obtain⟨n,hI⟩:=t;obtain⟨e,s,w',o,d⟩:=key n a w hI;exact⟨e,s,w',o,.of_steps (.one step_loop) d⟩
theorem mI:∀{L L':Loc},L.keeps L'->∀{k g t cs},L.get k=some (.box g t cs)->∃cs',L'.get k=some (.box g t cs')
 | [],L',_,k,g,t,cs,e=>by cases e
 | (j,.box c d cs')::l,L',h,k,g,t,cs,e=>by
  simp only[Loc.keeps] at h;simp only[Loc.get] at e;split at e
  ·rename_i b;have:=xo b;subst this;injection e with e
   injection e with e1 e2 e3
   subst e1 e2;exact h.1
  ·exact mI h.2 e
 | (j,.row ..)::l,L',h,k,g,t,cs,e=>by
  simp only[Loc.keeps] at h;simp only[Loc.get] at e;split at e
  ·cases e
  ·exact mI h e
theorem mJ {L:Loc}:∀{L':Loc},L.gives L'->∀{k o},L'.get k=some o->L.get k=some o\/(L.get k=none/\∃t sz,o=.row (.slice none 0 0) t sz 0 [])
 | [],_,k,o,e=>by cases e
 | (j,p)::l,h,k,o,e=>by
  simp only[Loc.gives] at h;simp only[Loc.get] at e;split at e
  ·rename_i b;have:=xo b;subst this;injection e with e
   subst e;exact h.1
  ·exact mJ h.2 e
theorem St.gives {L':Loc}(b:St F L w) (h:L.gives L'):St F L' w:=by
 refine⟨b.frz,fun k o e=>?_,fun k o g e hb=>?_,fun k l o o' g e m hb c=>?_,b.glob⟩
 ·rcases mJ h e with d | ⟨_,t,sz,rfl⟩
  ·exact b.own k o d
  ·exact World.ownsRow_nil w 0 t sz
 ·rcases mJ h e with d | ⟨_,t,sz,rfl⟩
  ·exact b.off k o g d hb
  ·cases hb
 ·rcases mJ h e with d | ⟨_,t,sz,rfl⟩<;>rcases mJ h m with f | ⟨_,n,j,rfl⟩
  ·exact b.sep k l o o' g d f hb c
  ·cases c
  ·cases hb
  ·cases hb
theorem sB {L':Loc}(h:L.gives L'):Step F L w F L' w :=
 ⟨aD.le_refl F,rfl,rfl,rfl,aaB _,fun _ _ _=>rfl,fun b h=>.inl h,fun b ⟨k,o,e,hb⟩=>by
  rcases mJ h e with c | ⟨_,t,sz,rfl⟩
  ·exact .inl ⟨k,o,c,hb⟩
  ·cases hb⟩
theorem cT:∀{l:List Nat}{k:Nat},ga l k=true↔k∈l
 | [],k=>by simp[ga]
 | j::l,k=>by
  simp only[ga];split
  ·rename_i h;have:=xo h;subst this;simp
  ·rename_i h;have:=fP h;rw[cT];simp only[aal];constructor
   ·exact .inr
   ·rintro(h | h)
    ·exact vv h.symm this
    ·exact h
theorem jQ:∀(b:List Nat) (vs:List Value) (ρ:Env) (j:Nat),(puts b (vs.map .v) ρ j=ρ j)\/∃v,puts b (vs.map .v) ρ j=.v v
 | [],vs,ρ,j=>.inl rfl
 | k::b,[],ρ,j=>.inl rfl
 | k::b,v::vs,ρ,j=>by
  simp only[aao,puts,put_eq];split
  ·exact .inr ⟨v,rfl⟩
  ·exact jQ b vs ρ j
theorem sD {L:Loc}:∀(c:List Nat) (vs:List Value) (ρ b:Env) {a:Act},(∀t,a.tmps.getD t undef=conc L (ρ t))->holds c (vs.map .v) ρ->∀j,(∃v,puts c (vs.map .v) b j=.v v/\a.tmps.getD j undef=v)\/puts c (vs.map .v) b j=b j
 | [],vs,ρ,b,a,d,h,j=>.inr rfl
 | k::c,[],ρ,b,a,d,h,j=>.inr rfl
 | k::c,v::vs,ρ,b,a,d,h,j=>by
  simp only[aao,holds] at h;simp only[aao,puts,put_eq];split
  ·rename_i e;subst e;exact .inl ⟨v,rfl,by rw[d,h.1];rfl⟩
  ·exact sD c vs ρ b d h.2 j
end
end Go.Fr
