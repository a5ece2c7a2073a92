/- Part of the proofs of the statements of this seat. -/
import Derived.Orders
import Derived.Below
import Derived.Laws.OwnMore
import Derived.Maps.AppendAt
import Derived.WalkKit
import Derived.KernelRfl
import Derived.Lib.AppendStr
import Derived.Laws.BytesString
import Derived.Laws.StructEq
import Derived.Lib.AppendZeros
import Derived.ArgAppend
import Derived.Laws.CopyRow
import Derived.Laws.IdiomCopy
import Derived.Carry
import Derived.Maps.RangeRun
set_option maxRecDepth 10000
set_option linter.unusedVariables false
set_option linter.unusedSimpArgs false
namespace Go.Fr
open Go Go.RowKit
abbrev j3:=@congrArg
abbrev o6:=@if_pos
abbrev s6:=@absurd
abbrev s8:=@if_neg
abbrev vz:=@Nat.eq_of_beq_eq_true
abbrev w7:=@Option.some.injEq
abbrev w8:=@List.getElem?_eq_getElem
abbrev xo:=@List.length_cons
abbrev yo:=@List.length_append
abbrev acM:=@List.append_assoc
abbrev acN:=@List.mem_append
abbrev acO:=@Nat.le_trans
abbrev acP:=@List.getElem?_eq_some_iff
abbrev acQ:=@List.mem_cons
abbrev acR:=@Bool.and_eq_true
abbrev acS:=@List.mem_of_getElem?
abbrev acT:=@List.append_nil
abbrev acU:=@List.map_cons
abbrev acV:=@List.length_nil
abbrev acW:=@List.cons_append
abbrev acX:=@List.nil_append
abbrev acY:=@List.getElem?_append_left
abbrev acZ:=@Bool.false_eq_true
abbrev ac1:=@List.length_map
abbrev ac2:=@List.length_take
abbrev ac3:=@List.getElem?_eq_none
abbrev ac4:=@Nat.le_refl
abbrev ac5:=@List.all_eq_true
abbrev ac6:=@List.getElem?_cons_zero
abbrev ac7:=@List.getElem?_append_right
abbrev ac8:=@Nat.le_of_ble_eq_true
abbrev ac9:=@Int.le_refl
abbrev ada:=@of_decide_eq_true
abbrev adb:=@List.mem_cons_of_mem
abbrev ade:=@List.eq_nil_of_length_eq_zero
abbrev adf:=@Array.getD_eq_getD_getElem?
abbrev adg:=@Nat.zero_le
abbrev adh:=@List.mem_iff_getElem?
abbrev adi:=@List.mem_map
abbrev adj:=@List.getElem?_drop
abbrev adk:=@if_true
abbrev adl:=@Bool.or_eq_true
abbrev adm:=@List.map_append
abbrev adn:=@List.getElem?_take
abbrev ado:=@decide_eq_true_eq
abbrev adp:=@List.getElem?_map
abbrev adq:=@of_decide_eq_false
abbrev adr:=@List.mem_singleton
abbrev ads:=@List.length_drop
abbrev adt:=@List.ext_getElem?
abbrev adu:=@Bool.and_false
abbrev adv:=@List.take_of_length_le
abbrev adw:=@List.length_replicate
abbrev adx:=@Bool.false_ne_true
abbrev ady:=@List.getElem?_cons_succ
abbrev adz:=@if_false
abbrev adA:=@List.map_nil
abbrev adB:=@List.replicate_succ
abbrev adC:=@List.getElem?_eq_none_iff
abbrev adD:=@decide_eq_false
abbrev adE:=@decide_eq_true
abbrev adF:=@Nat.lt_succ_self
abbrev adG:=@List.drop_eq_getElem_cons
abbrev adH:=@Bool.true_and
abbrev adI:=@List.map_map
abbrev adJ:=@List.map_congr_left
abbrev adK:=@Option.map_some
abbrev adL:=@Bool.false_and
abbrev adM:=@List.getElem?_set_ne
abbrev adN:=@Bool.and_true
abbrev adP:=@Nat.lt_of_lt_of_le
abbrev aJ:=Nat->Option Obj
def aJ.le (F G:aJ):Prop:=∀b o,F b=some o->G b=some o
theorem aJ.le_refl (F:aJ):F.le F:=fun _ _ h=>h
theorem aJ.le_trans {F G H:aJ}(h:F.le G) (k:G.le H):F.le H:=fun b o e=>k b o (h b o e)
def qe:Nat:=2 ^ 64
def TN:Nat->Value
 | 0=>.slice none 0 0
 | m+1=>.slice (some ⟨m / (qe*qe),0,none⟩) (m / qe % qe) (m % qe)
def mT (k:Nat) (F:aJ) (v:Value):Prop:=(k=0/\v=.nilIface)\/∃m,k=m+1/\v=TN m
theorem mT.mono {k:Nat}{F G:aJ}{v:Value}(h:F.le G) (r:mT k F v):mT k G v:=r
theorem mT.one {k:Nat}{F:aJ}{v:Value}(r:mT k F v):v.oneCell'=true:=by
 rcases r with⟨_,rfl⟩ | ⟨m,_,rfl⟩
 ·rfl
 ·cases m<;>rfl
theorem CA {F:aJ}:mT 0 F .nilIface:=.inl ⟨rfl,rfl⟩
def Kt:Nat->Option Nat
 | 0=>none
 | 1=>some 0
 | m+2=>some (m / qe % qe)
theorem Ow {F:aJ}{k n:Nat}{v:Value}(h:mT k F v) (e:Kt k=some n):∃a c,v=.slice a n c:=by
 rcases h with⟨rfl,_⟩ | ⟨m,rfl,rfl⟩
 ·cases e
 ·cases m with
  | zero=>injection e with e;subst e;exact⟨none,0,rfl⟩
  | succ m=>injection e with e;subst e;exact⟨_,_,rfl⟩
def uV (F:aJ):Prop:=True
theorem uV.mono {F G:aJ}(h:F.le G) (g:uV F):uV G:=g
def Ox (k:Nat) (n:Int):Option (Int×Bool):=none
def Gb (k:Nat):Option Bool:=match k with | 0=>some true | _=>none
theorem Ku {F:aJ}{k:Nat}{v:Value}{b:Bool}(h:mT k F v) (e:Gb k=some b):(b=true->v=.nilIface)/\(b=false->∃t u,v=.iface t u):=by
 unfold Gb at e;split at e
 case h_2=>cases e
 injection e with e;subst e
 refine⟨fun _=>?_,fun e=>by cases e⟩;rcases h with h | ⟨m,h,_⟩
 ·exact h.2
 ·cases h
def Jo:List (TypeId×String):=[(102,"leasehold/snapshot.num"),(102,"leasehold/snapshot.size"),(86,"leasehold/snapshot.num"),(86,"leasehold/snapshot.size"),(123,"leasehold/snapshot.num"),(123,"leasehold/snapshot.size")]
inductive SV where
 | v (x:Value)
 | own (k off:Nat)
 | el (a:Option Addr) (j:Nat)
 deriving Inhabited
inductive Own where
 | box (g:Nat) (t:TypeId) (cs:List Value)
 | row (v:Value) (t:TypeId) (sz n:Nat) (xs:List Value)
def Own.blk:Own->Option Nat
 | .box g _ _=>some g
 | .row v _ _ _ _=>v.ownBlock
abbrev Loc:=List (Nat×Own)
def Loc.get:Loc->Nat->Option Own
 | [],_=>none
 | (j,o)::l,k=>match Nat.beq j k with | true=>some o | false=>Loc.get l k
def Loc.set:Loc->Nat->Own->Loc
 | [],k,o=>[(k,o)]
 | (j,p)::l,k,o=>match Nat.beq j k with
  | true=>(k,o)::l
  | false=>match Nat.ble j k with
   | true=>(j,p)::Loc.set l k o
   | false=>(k,o)::(j,p)::l
def Loc.del:Loc->Nat->Loc
 | [],_=>[]
 | (j,o)::l,k=>match Nat.beq j k with | true=>Loc.del l k | false=>(j,o)::Loc.del l k
abbrev Env:=Nat->SV
def put (d:Option Nat) (v:SV) (ρ:Env):Env :=
 match d with
 | some d=>fun j=>match Nat.beq j d with | true=>v | false=>ρ j
 | none=>ρ
def conc (L:Loc):SV->Value
 | .v x=>x
 | .own k off=>match L.get k with | some (.box g _ _)=>.pointer (some ⟨g,off,none⟩) | _=>undef
 | .el a j=>match a with | some ad=>.pointer (some (ad.add j)) | none=>undef
def DZ:Value->Nat->MapEntry
 | .agg ⟨[k,v]⟩,i=>{key:=k,val:=v,born:=i}
 | v,i=>{key:=v,val:=v,born:=i}
def Gc:Value->Nat
 | .int _ n=>n.toNat
 | _=>0
def D6:List Value->Nat->List MapEntry
 | [],_=>[]
 | v::l,i=>DZ v i::D6 l (i+1)
def TP:List Value->Obj
 | .tuple ⟨[.map (some m),.int .i64 n]⟩::a=>.mapIter (some m) n.toNat (a.map Gc).toArray n.toNat
 | es=>.map (D6 es 0).toArray es.length
def rm:TypeId->List Value->Obj
 | 0,cs=>TP cs
 | t+1,cs=>.cells cs.toArray (t+1) (0,0)
theorem ja {t:TypeId}(h:t≠0) (cs:List Value):rm t cs=.cells cs.toArray t (0,0):=by
 cases t with
 | zero=>exact s6 rfl h
 | succ t=>rfl
def Own.ok (w:World):Own->Prop
 | .box g t cs=>w.heap[g]?=some (rm t cs)
 | .row v t sz n xs=>w.ownsRow 0 t sz v n xs
structure St (F:aJ) (L:Loc) (w:World):Prop where
 frz:∀b o,F b=some o->w.heap[b]?=some o
 own:∀k o,L.get k=some o->o.ok w
 off:∀k o g,L.get k=some o->o.blk=some g->F g=none
 sep:∀k k' o o' g,L.get k=some o->L.get k'=some o'->o.blk=some g->o'.blk=some g->k=k'
 glob:uV F
def Loc.owns (L:Loc) (b:Nat):Prop:=∃k o,L.get k=some o/\o.blk=some b
structure Step (F:aJ) (L:Loc) (w:World) (F':aJ) (L':Loc) (w':World):Prop where
 le:F.le F'
 os:w'.os=w.os
 tape:w'.tape=w.tape
 output:w'.output=w.output
 size:w.heap.size<=w'.heap.size
 same:∀b,b<w.heap.size->¬L.owns b->w'.heap[b]?=w.heap[b]?
 frz:∀b,F' b≠none->F b≠none\/L.owns b\/w.heap.size<=b
 own:∀b,L'.owns b->L.owns b\/w.heap.size<=b
def qf (a:Nat×Nat) (i:Nat):Prop:=¬(a.1<=i/\i<a.2)
theorem sL (i:Nat):qf (0,0) i:=fun h=>by cases h.2
def cC (F:aJ) (a:Option Addr) (j:Nat) (cs:List Value):Prop :=
 ∃b c t d,a=some b/\F b.block=some (.cells c t d)/\b.spot=none/\∀(i:Nat) (v:Value),cs[i]?=some v->c[b.off+j+i]?=some v/\qf d (b.off+j+i)
def mg:Nat->List Own->Loc
 | _,[]=>[]
 | k,o::l=>(k,o)::mg (k+1) l
def inp (l:List Own):Loc:=mg 1000 l
structure CallsA (P:Program) (f:FuncId) (args:Array Value) (F:aJ) (Lin:List Own) (R:aJ->List Own->Value->Prop):Prop where
 ent:∃fn,P.funcs[f]?=some fn/\fn.body.isSome=true/\(fn.name == "runtime.NumGoroutine")=false
 mono:∀F G L v,F.le G->R F L v->R G L v
 run:∀w,St F (inp Lin) w->Calls P f args w fun e w'=>∃v F' Lo,e=.returned v/\St F' (inp Lo) w'/\Step F (inp Lin) w F' (inp Lo) w'/\R F' Lo v
def FZ (v:Value) (b:List PanicEntry):Prop:=∃a,b={v,recovered:=false}::a/\∀e∈a,e.goexit=false
theorem FZ.one (v:Value):FZ v [{v,recovered:=false}]:=⟨[],rfl,fun e h=>by cases h⟩
structure vX (P:Program) (f:FuncId) (args:Array Value) (F:aJ) (Lin:List Own) (R:aJ->List Own->Value->Prop) (Pp:Value->Prop):Prop where
 ent:∃fn,P.funcs[f]?=some fn/\fn.body.isSome=true/\(fn.name == "runtime.NumGoroutine")=false
 mono:∀F G L v,F.le G->R F L v->R G L v
 run:∀w,St F (inp Lin) w->Calls P f args w fun e w'=>(∃v F' Lo,e=.returned v/\St F' (inp Lo) w'/\Step F (inp Lin) w F' (inp Lo) w'/\R F' Lo v) \/
  ∃v ch F' Lo,e=.panicked ch/\FZ v ch/\St F' (inp Lo) w'/\Step F (inp Lin) w F' (inp Lo) w'/\Lo.length=Lin.length/\(∀(i:Nat) g t cs,Lin[i]?=some (.box g t cs)->∃cs',Lo[i]?=some (.box g t cs'))/\Pp v
theorem CallsA.toX {P:Program}{f:FuncId}{args:Array Value}{F:aJ}{Lin:List Own}{R:aJ->List Own->Value->Prop}{Pp:Value->Prop}(h:CallsA P f args F Lin R):vX P f args F Lin R Pp :=
 ⟨h.ent,h.mono,fun w a=>(h.run w a).mono fun _ _ k=>.inl k⟩
structure xY (P:Program) (f:FuncId) (args:Array Value) (F:aJ) (Lin:List Own) (R:aJ->List Own->Value->Prop) (Pp:aJ->List Own->Value->Prop):Prop where
 ent:∃fn,P.funcs[f]?=some fn/\fn.body.isSome=true/\(fn.name == "runtime.NumGoroutine")=false
 mono:∀F G L v,F.le G->R F L v->R G L v
 run:∀w,St F (inp Lin) w->Calls P f args w fun e w'=>(∃v F' Lo,e=.returned v/\St F' (inp Lo) w'/\Step F (inp Lin) w F' (inp Lo) w'/\R F' Lo v) \/
  ∃v ch F' Lo,e=.panicked ch/\FZ v ch/\St F' (inp Lo) w'/\Step F (inp Lin) w F' (inp Lo) w'/\Lo.length=Lin.length/\(∀(i:Nat) g t cs,Lin[i]?=some (.box g t cs)->∃cs',Lo[i]?=some (.box g t cs'))/\Pp F' Lo v
theorem vX.toS {P:Program}{f:FuncId}{args:Array Value}{F:aJ}{Lin:List Own}{R:aJ->List Own->Value->Prop}{Pp:Value->Prop}(h:vX P f args F Lin R Pp):xY P f args F Lin R (fun _ _=>Pp):=⟨h.ent,h.mono,h.run⟩
inductive X where
 | t (n:Nat)
 | c (v:Value)
 | fn (f:Nat)
 | mt (nm:String) (n:Nat)
 deriving Inhabited
def Wm (nm:String):SV->SV
 | .v x=>.v (.func (.method nm) #[x] #[])
 | .own _ _=>.v undef
 | .el _ _=>.v undef
def ev (ρ:Env):X->SV
 | .t n=>ρ n
 | .c v=>.v v
 | .fn f=>.v (.func (.func f) #[] #[])
 | .mt nm n=>Wm nm (ρ n)
def pB (P:Program) (t:TypeId) (nm:String):Option FuncId :=
 match P.info? t with
 | some i=>match i.methods.find? (·.name == nm) with
  | some m=>match m.path.toList,m.func with
   | [],some (f,a)=>match P.underlying t,a with
    | some (.pointer _),true=>some f
    | some (.pointer _),false=>none
    | some _,false=>some f
    | _,_=>none
   | _,_=>none
  | none=>none
 | none=>none
def Sc:List (TypeId×String)->TypeId->String->Bool
 | [],_,_=>false
 | (t,nm)::l,b,a=>match Nat.beq t b,decide (nm=a) with | true,true=>true | _,_=>Sc l b a
def Sd (P:Program):Bool:=Jo.all fun x=>(pB P x.1 x.2).isSome
def oF (P:Program):SV->Option (Nat×List Value×List Value)
 | .v (.func (.func f) fi ca)=>some (f,fi.toList,ca.toList)
 | .v (.func (.method nm) fi ca)=>match fi.toList with
  | [.iface t u]=>match pB P t nm with
   | some f=>some (f,[u],[])
   | none=>none
  | _=>none
 | _=>none
def Bt (P:Program) (f:SV) (args:List Value):Option (Nat×List Value) :=
 match f,args with
 | .v (.func (.methodOf t nm) ⟨[]⟩ _),.iface b u::a=>match P.underlying t with
  | some (.interface _)=>match pB P b nm with
   | some f=>some (f,u::a)
   | none=>none
  | _=>none
 | _,_=>none
def val (L:Loc) (ρ:Env) (x:X):Value:=conc L (ev ρ x)
inductive fD where
 | mov (x:X)
 | pick (c a b:X)
 | box (t:TypeId) (x:X)
 | boxF (t:TypeId) (x:X)
 | alloc (t:TypeId) (zs:List Value)
 | mkF (e:TypeId) (n sz:Nat) (xs:List X)
 | mkR (e:TypeId) (n sz:Nat) (xs:List X)
 | build (zs:List Value) (ps:List (Nat×Nat×X))
 | load (agg:Bool) (n:Nat) (x:X)
 | loadD (agg:Bool) (n:Nat) (x:X)
 | store (n:Nat) (a x:X)
 | nilck (x:X)
 | bin (op:BinOp) (x y:X)
 | eqB (neg:Bool) (x y:X)
 | eqS (neg:Bool) (x y:X)
 | eqN (neg:Bool) (x:X)
 | tas (t:TypeId) (z:Value) (x:X)
 | eqA (neg:Bool) (ks:List Bool) (x y:X)
 | un (op:UnOp) (x:X)
 | conv (k:IntKind) (x:X)
 | b2s (x:X)
 | mkfn (f:Nat) (first cap:List X)
 | makeS (e:TypeId) (sz bytes:Nat) (zs:List Value) (l c:X)
 | slc (sz:Nat) (x:X) (lo hi:Option X)
 | fieldA (off:Nat) (x:X)
 | idxA (sz:Nat) (x i:X)
 | extr (x:X) (i:Nat)
 | call (f:Nat) (args:List X)
 | callV (f:X) (args:List X)
 | callD (f:Nat) (args:List X)
 | boxD (t:TypeId) (x:X)
 | allocD (t:TypeId) (zs:List Value)
 | mkFD (e:TypeId) (n sz:Nat) (xs:List X)
 | callVD (f:X) (args:List X)
 | callO (f:Nat) (args:List X)
 | len (x:X)
 | lenS (x:X)
 | capa (x:X)
 | mm (mx:Bool) (args:List X)
 | app (e:TypeId) (sz bytes:Nat) (zs:List Value) (s x:X)
 | appD (e:TypeId) (sz bytes:Nat) (zs:List Value) (s x:X)
 | storeD (n:Nat) (a x:X)
 | appZ (e:TypeId) (bytes:Nat) (k:IntKind) (s x:X)
 | copy (e:TypeId) (sz:Nat) (d s:X)
 | mkif (t:TypeId) (x:X)
 | b2sD (x:X)
 | b2sR (x:X)
 | makeSD (e sz n:Nat) (zs:List Value)
 | makeSV (e sz b:Nat) (zs:List Value) (x:X)
 | loadK (key:Nat) (agg:Bool) (n:Nat) (x:X)
 | storeK (key n:Nat) (a x:X)
 | copyX (e:TypeId) (sz:Nat) (d s:X)
 | pan (x:X)
 | mkmv (nm:String) (x:X)
 | loadF (agg:Bool) (n:Nat) (x:X)
 | loadR (agg:Bool) (n:Nat) (x:X)
 | dead
 deriving Inhabited
structure acq where
 dst:Option Nat
 op:fD
 guard:Option (Nat×Bool)
 deriving Inhabited
abbrev dP:=aJ->Loc->Env->Prop
def bq (cs:List Value) (off:Nat) (vs:List Value):List Value:=cs.take off++vs++cs.drop (off+vs.length)
structure Fit (k:IntKind) (n:Int) (K:Int->Prop):Prop where
 out:K (k.wrap n)
structure kK (n:Int) (K:Prop):Prop where
 ne:n≠0
 out:K
structure Yb (i:Int) (n:Int) (K:Prop):Prop where
 lo:0<=i
 hi:i<n
 out:K
structure D7 (a:Option Addr) (i:Int) (n:Int) (K:Prop):Prop where
 ne:a≠none
 lo:0<=i
 hi:i<n
 out:K
structure kM (F:aJ) (L:Loc) (a:Option Addr) (j n:Nat) (K:List Value->Prop):Prop where
 out:∃cs,cs.length=n/\(cC F a j cs\/(∃k v t sz m xs ad c,L.get k=some (.row v t sz m xs)/\a=some ad/\v=.slice (some ad) m c/\∀(i:Nat) (u:Value),cs[i]?=some u->xs[j+i]?=some u)\/n=0\/∃k g t bs o,L.get k=some (.box g t bs)/\t≠0/\a=some ⟨g,o,none⟩/\∀(i:Nat) (u:Value),cs[i]?=some u->bs[o+j+i]?=some u)/\K cs
structure ac0 (F:aJ) (g:Nat) (K:Value->Prop):Prop where
 out:∃v t fr,F g=some (.cells #[v] t fr)/\K v
structure jW (F:aJ) (a:Option Addr) (j n:Nat) (K:List Value->Prop):Prop where
 out:∃cs,cs.length=n/\(cC F a j cs\/n=0)/\K cs
structure Oy (L:Loc) (a:Option Addr) (j:Nat) (cs:List Value) (K:Loc->Prop):Prop where
 out:∃k v t sz m xs ad c,L.get k=some (.row v t sz m xs)/\a=some ad/\v=.slice (some ad) m c/\j+cs.length<=xs.length/\(∀u∈cs,u.oneCell'=true) /\
  K (L.set k (.row v t sz m (bq xs j cs)))
structure uW (F:aJ) (L:Loc) (a:Option Addr) (j:Nat) (cs:List Value) (K:Loc->Prop):Prop where
 out:Oy L a j cs K\/(cC F a j cs/\(∀u∈cs,u.oneCell'=true)/\K L)
def Loc.sub (L:Loc):List Nat->Option (List Own)
 | []=>some []
 | k::ks=>match L.get k,Loc.sub L ks with
  | some o,some l=>some (o::l)
  | _,_=>none
def Loc.aa7 (L:Loc):List Nat->Loc
 | []=>L
 | k::ks=>Loc.aa7 (L.del k) ks
def Loc.puts (L:Loc):List Nat->List Own->Loc
 | k::ks,o::l=>Loc.puts (L.set k o) ks l
 | _,_=>L
structure eX (P:Program) (f:Nat) (args:List Value) (F:aJ) (L:Loc) (K:aJ->Loc->Value->Prop):Prop where
 out:∃(ks ko:List Nat) (Lin:List Own) (R:aJ->List Own->Value->Prop),L.sub ks=some Lin/\ks.Nodup/\ko.Nodup/\(∀k,k∈ko->k∈ks\/L.get k=none)/\CallsA P f args.toArray F Lin R /\
  ∀v F' Lo,F.le F'->R F' Lo v->ko.length=Lo.length /\
   (∀k g t cs,k∈ks->L.get k=some (.box g t cs)->∃cs',Loc.get ((L.aa7 ks).puts ko Lo) k=some (.box g t cs')) /\
   K F' ((L.aa7 ks).puts ko Lo) v
def Real (F:aJ) (L:Loc):Prop:=∃w,St F L w
inductive fq (P:Program) (f:Nat) (args:List Value) (F:aJ) (L:Loc) (d:Option Nat) (K:aJ->Loc->Value->Prop):Prop
 | frz (R:aJ->List Own->Value->Prop) (h:CallsA P f args.toArray F [] R) (k:∀v F' Lo,F.le F'->R F' Lo v->Lo=[]/\(Real F' L->K F' L v))
 | own (R:aJ->List Own->Value->Prop) (k:Nat) (h:CallsA P f args.toArray F [] R) (hd:d=some k) (hk:L.get k=none)
   (kk:∀v F' Lo,F.le F'->R F' Lo v->∃o,Lo=[o]/\(Real F' (L.set k o)->K F' (L.set k o) v))
 | row (R:aJ->List Own->Value->Prop) (kr:Nat) (rv:Value) (t:TypeId) (sz n:Nat) (xs:List Value) (h:CallsA P f args.toArray F [.row rv t sz n xs] R) (hk:L.get kr=some (.row rv t sz n xs))
   (kk:∀v F' Lo,F.le F'->R F' Lo v->Lo=[]/\(Real F' (L.set kr (.row (.slice none 0 0) t sz 0 []))->K F' (L.set kr (.row (.slice none 0 0) t sz 0 [])) v))
 | lent (R:aJ->Value->Prop) (kr:Nat) (rv:Value) (t:TypeId) (sz n:Nat) (xs:List Value) (h:CallsA P f args.toArray F [.row rv t sz n xs] (fun F' Lo v=>Lo=[.row rv t sz n xs]/\R F' v)) (hk:L.get kr=some (.row rv t sz n xs))
   (kk:∀v F',F.le F'->R F' v->Real F' L->K F' L v)
structure Kv (F:aJ) (L:Loc) (e:TypeId) (sz bytes:Nat) (s x:Value) (K:Loc->Value->Prop):Prop where
 out:∃(kd:Nat) (n:Nat) (xs:List Value) (m:Nat) (news:List Value),
  (L.get kd=some (.row s e sz n xs)\/(L.get kd=none/\n=0/\xs=[]/\s=.slice none 0 0)\/(L.get kd=none/\∃ad,s=.slice (some ad) n n/\0<m/\xs.length=n*sz/\(cC F (some ad) 0 xs\/(n=0/\xs=[])))) /\
  (∃a c,x=.slice a m c/\news.length=m*sz/\(cC F a 0 news\/(m=0/\news=[]) \/
    ∃k v t sz' m' ys ad c',L.get k=some (.row v t sz' m' ys)/\a=some ad/\v=.slice (some ad) m' c'/\∀(i:Nat) (u:Value),news[i]?=some u->ys[i]?=some u)) /\
  (∀u∈news,u.oneCell'=true)/\n+m<=maxLen/\(n+m)*bytes<=140737488355328 /\
  ∀v,(∃a c,v=.slice a (n+m) c/\(a=none->n+m=0))->K (L.set kd (.row v e sz (n+m) (xs++news))) v
structure rp (F:aJ) (L:Loc) (d:Option Nat) (e:TypeId) (sz bytes:Nat) (s x:Value) (K:Loc->Value->Prop):Prop where
 out:∃(kd:Nat) (n:Nat) (xs:List Value) (m:Nat) (news:List Value),
  (L.get kd=some (.row s e sz n xs)\/(d=some kd/\L.get kd=none/\n=0/\xs=[]/\s=.slice none 0 0) \/
   (d=some kd/\L.get kd=none/\∃ad,s=.slice (some ad) n n/\0<m/\xs.length=n*sz/\(cC F (some ad) 0 xs\/(n=0/\xs=[])))) /\
  (∃a c,x=.slice a m c/\news.length=m*sz/\(cC F a 0 news\/(m=0/\news=[]))) /\
  (∀u∈news,u.oneCell'=true)/\n+m<=maxLen/\(n+m)*bytes<=140737488355328 /\
  ∀v,(∃a c,v=.slice a (n+m) c/\(a=none->n+m=0))->Real F (L.set kd (.row v e sz (n+m) (xs++news)))->K (L.set kd (.row v e sz (n+m) (xs++news))) v
structure Yw (L:Loc) (e:TypeId) (s:Value) (t:ByteArray) (K:Loc->Value->Prop):Prop where
 out:∃(kd:Nat) (n:Nat) (xs:List Value),
  (L.get kd=some (.row s e 1 n xs)\/(L.get kd=none/\n=0/\xs=[]/\s=.slice none 0 0)) /\
  n+t.size<=maxLen/\(n+t.size)<=140737488355328 /\
  ∀v,(∃a c,v=.slice a (n+t.size) c/\(a=none->n+t.size=0))->K (L.set kd (.row v e 1 (n+t.size) (xs++t.data.toList.map fun b=>Value.int .u8 b.toNat))) v
structure Kw (L:Loc) (e:TypeId) (bytes:Nat) (ki:IntKind) (s:Value) (m:Nat) (K:Loc->Value->Prop):Prop where
 out:∃(kd:Nat) (n:Nat) (xs:List Value),
  (L.get kd=some (.row s e 1 n xs)\/(L.get kd=none/\n=0/\xs=[]/\s=.slice none 0 0)) /\
  n+m<=maxLen/\(n+m)*bytes<=140737488355328 /\
  ∀v,(∃a c,v=.slice a (n+m) c/\(a=none->n+m=0))->K (L.set kd (.row v e 1 (n+m) (xs++List.replicate m (.int ki 0)))) v
structure CB (F:aJ) (L:Loc) (e:TypeId) (sz:Nat) (d x:Value) (K:Loc->Nat->Prop):Prop where
 out:(∃(k n:Nat) (v:Value) (nr:Nat) (xs:List Value) (ad:Addr) (cr cd j m:Nat) (a:Option Addr) (c:Nat) (news:List Value),
  L.get k=some (.row v e sz nr xs)/\v=.slice (some ad) nr cr/\d=.slice (some (ad.add (j*sz))) n cd/\j+n<=nr /\
  x=.slice a m c/\news.length=(min m n)*sz/\(cC F a 0 news\/(min m n=0/\news=[]))/\(∀u∈news,u.oneCell'=true) /\
  K (L.set k (.row v e sz nr (bq xs (j*sz) news))) (min m n)) \/
  ∃(da:Option Addr) (n cd:Nat) (a:Option Addr) (m c:Nat),d=.slice da n cd/\x=.slice a m c/\min m n=0/\K L 0
structure Oz (L:Loc) (e:TypeId) (d:Value) (t:ByteArray) (K:Loc->Nat->Prop):Prop where
 out:∃(k n:Nat) (v:Value) (nr:Nat) (xs:List Value) (ad:Addr) (cr cd j:Nat),
  L.get k=some (.row v e 1 nr xs)/\v=.slice (some ad) nr cr/\d=.slice (some (ad.add j)) n cd/\j+n<=nr /\
  K (L.set k (.row v e 1 nr (bq xs j ((t.data.toList.take n).map fun b=>Value.int .u8 b.toNat)))) (min t.size n)
structure CC (cs:List Value) (K:List UInt8->Prop):Prop where
 out:∃bs:List UInt8,cs=bs.map (fun b=>Value.int .u8 b.toNat)/\K bs
structure Yx (L:Loc) (a:Option Addr) (n:Nat) (K:List UInt8->Prop):Prop where
 out:∃k t c,∃bs:List UInt8,L.get k=some (.row (.slice a n c) t 1 n (bs.map (fun b=>Value.int .u8 b.toNat)))/\bs.length=n/\(a=none->n=0)/\K bs
def CD:List Value->Bool
 | .tuple _::_=>false
 | _=>true
def CF:Bool->Value->Value->Option Bool
 | false,.int .i64 a,.int .i64 b=>some (decide (a=b))
 | true,.string a,.string b=>some (decide (a.data.toList=b.data.toList))
 | _,_,_=>none
def Kx (str:Bool) (key:Value):List Value->Nat->Option (Option (Nat×Value))
 | [],_=>some none
 | .agg ⟨[k,v]⟩::l,i=>match CF str key k with
  | some true=>some (some (i,v))
  | some false=>Kx str key l (i+1)
  | none=>none
 | _::_,_=>none
def Wn (str:Bool) (key val:Value):List Value->Option (List Value)
 | []=>some [.agg #[key,val]]
 | .agg ⟨[k,v]⟩::l=>match CF str key k with
  | some true=>some (.agg #[key,val]::l)
  | some false=>match Wn str key val l with | some l'=>some (.agg #[k,v]::l') | none=>none
  | none=>none
 | _::_=>none
structure acr (L:Loc) (g:Nat) (K:Nat->List Value->Prop):Prop where
 out:∃k cs,L.get k=some (.box g 0 cs)/\CD cs=true/\K k cs
structure Yc (str:Bool) (cs:List Value) (key:Value) (ok:Bool) (z:Value) (K:Value->Prop):Prop where
 out:(∃i v,Kx str key cs 0=some (some (i,v))/\K (match ok with | true=>.tuple #[v,.bool true] | false=>v))\/(Kx str key cs 0=some none/\K (match ok with | true=>.tuple #[z,.bool false] | false=>z))
structure Yy (str:Bool) (cs:List Value) (key val:Value) (K:List Value->Prop):Prop where
 isKey:CF str key key=some true
 out:∃cs',Wn str key val cs=some cs'/\K cs'
structure Yz (L:Loc) (k gi g n:Nat) (seen:List Value) (K:Loc->Value->Prop):Prop where
 out:∃km cs,L.get km=some (.box g 0 cs)/\CD cs=true/\cs.length=n/\(∀j e,cs[j]?=some e->j∉seen.map Gc->K (L.set k (.box gi 0 (.tuple #[.map (some g),.int .i64 n]::(seen++[.int .i64 j])))) (.tuple #[.bool true,(DZ e j).key,(DZ e j).val])) /\
  ((∀j,j<n->j∈seen.map Gc)->K L (.tuple #[.bool false]))
structure Yd (L:Loc) (g n:Nat) (seen:List Value) (K:Value->Prop):Prop where
 out:∃km cs j e,L.get km=some (.box g 0 cs)/\CD cs=true/\cs.length=n/\seen.getLast?=some (.int .i64 (.ofNat j))/\cs[j]?=some e/\K (.tuple #[(DZ e j).key,(DZ e j).val])
structure YA (F:aJ) (mv:Value) (n:Int) (K:Int->Bool->Prop):Prop where
 out:∃k r b,mT k F mv/\Ox k n=some (r,b)/\K r b
structure vY (n c:Int) (bytes:Nat) (K:Nat->Prop):Prop where
 lo:0<=n
 le:n<=c
 hi:c.toNat*bytes<=140737488355328
 max:c.toNat<=maxLen
 out:K n.toNat
structure qL (l h:Int) (c:Nat) (K:Nat->Nat->Prop):Prop where
 lo:0<=l
 le:l<=h
 hi:h<=c
 out:K l.toNat h.toNat
abbrev yU:Bool->Prop->Prop->Prop
 | true,A,_=>A
 | false,_,B=>B
def aZ:Value->List Value
 | .agg cs=>cs.toList
 | v=>[v]
def bQ (L:Loc) (ρ:Env):List X->List Value
 | []=>[]
 | x::xs=>val L ρ x::bQ L ρ xs
def cellsOf (L:Loc) (ρ:Env):List X->List Value
 | []=>[]
 | x::xs=>aZ (val L ρ x)++cellsOf L ρ xs
def jI (agg:Bool) (cs:List Value):Value :=
 match agg,cs with
 | true,cs=>.agg cs.toArray
 | false,[v]=>v
 | false,_=>undef
def iV:List Value->Nat->Bool
 | [],0=>true
 | _::l,n+1=>iV l n
 | _,_=>false
def kN (t:TypeId) (l:List Value) (n:Nat):Bool:=match Nat.beq t 0 with | true=>false | false=>iV l n
def gD (L:Loc) (ρ:Env) (sz:Nat):List X->Bool
 | []=>true
 | x::xs=>match iV (aZ (val L ρ x)) sz with | true=>gD L ρ sz xs | false=>false
def mC:List Value->Bool
 | []=>true
 | v::l=>match v.oneCell' with | true=>mC l | false=>false
def pA:Bool->Bool->Bool
 | true,b=>!b
 | false,b=>b
def pD (a b:ByteArray):Bool:=decide (a.data.toList=b.data.toList)
def Se (a b:ByteArray):Bool:=Op.bytesLess a.data.toList b.data.toList
def built (L:Loc) (ρ:Env):List Value->List (Nat×Nat×X)->Option (List Value)
 | zs,[]=>some zs
 | zs,(off,n,x)::ps=>match iV (aZ (val L ρ x)) n with
  | true=>built L ρ (bq zs off (aZ (val L ρ x))) ps
  | false=>none
def Sf (mx:Bool):Int->List SV->Option Int
 | a,[]=>some a
 | a,.v (.int _ b)::l=>Sf mx (match mx with | true=>if b>a then b else a | false=>if b<a then b else a) l
 | _,_=>none
def gU (a:Option Addr) (c l h sz:Nat):Value:=.slice (if c=l then a else a.map (·.add (l*sz))) (h-l) (c-l)
def pE (ρ:Env) (d:Int):Option X->Option Int
 | none=>some d
 | some x=>match ev ρ x with | .v (.int _ i)=>some i | _=>none
def nW:Value->Nat
 | .int _ m=>m.toNat
 | _=>0
def uX (b:Nat):Value->Bool
 | .int _ m=>Nat.ble (m.toNat*b) 140737488355328&&Nat.ble m.toNat 9223372036854775807&&decide (0<=m)
 | _=>false
theorem D8 {b:Nat}{v:Value}(h:uX b v=true):∃k m,v=.int k m/\0<=m/\nW v=m.toNat/\m.toNat*b<=140737488355328/\m.toNat<=maxLen:=by
 cases v<;>simp only[uX] at h<;>try (cases h;done)
 rename_i k m;simp only[acR,ado] at h;exact⟨k,m,rfl,h.2,rfl,ac8 h.1.1,ac8 h.1.2⟩
theorem Jp {b:Nat}{v:Value}(h:uX b v=true):nW v<=maxLen:=by
 obtain⟨k,m,rfl,_,e,_,a⟩:=D8 h;rw[e];exact a
def binI (op:BinOp) (k:IntKind) (a b:Int) (K:Value->Prop):Prop :=
 match op with
 | .add=>Fit k (a+b) fun n=>K (.int k n)
 | .sub=>Fit k (a-b) fun n=>K (.int k n)
 | .mul=>Fit k (a*b) fun n=>K (.int k n)
 | .quo=>kK b (Fit k (a.tdiv b) fun n=>K (.int k n))
 | .rem=>kK b (K (.int k (a.tmod b)))
 | .and=>K (.int k (k.wrap (BitVec.ofInt k.bits a &&& BitVec.ofInt k.bits b).toNat))
 | .or=>K (.int k (k.wrap (BitVec.ofInt k.bits a ||| BitVec.ofInt k.bits b).toNat))
 | .xor=>K (.int k (k.wrap (BitVec.ofInt k.bits a ^^^ BitVec.ofInt k.bits b).toNat))
 | .andNot=>K (.int k (k.wrap (BitVec.ofInt k.bits a &&& ~~~ BitVec.ofInt k.bits b).toNat))
 | .eql=>K (.bool (decide (a=b)))
 | .neq=>K (.bool (!decide (a=b)))
 | .lss=>K (.bool (decide (a<b)))
 | .leq=>K (.bool (decide (a<=b)))
 | .gtr=>K (.bool (decide (b<a)))
 | .geq=>K (.bool (decide (b<=a)))
 | _=>False
def shI (op:BinOp) (k:IntKind) (a b:Int) (K:Value->Prop):Prop :=
 match op with
 | .shl=>0<=b/\Fit k (a*2 ^ (min b.toNat k.bits)) fun n=>K (.int k n)
 | .shr=>0<=b/\K (.int k (a.fdiv (2 ^ (min b.toNat k.bits))))
 | _=>False
def binS (op:BinOp) (a b:ByteArray) (K:Value->Prop):Prop :=
 match op with
 | .add=>((a.size+b.size:Nat):Int)<=IntKind.i64.max/\K (.string (a++b))
 | .eql=>K (.bool (pD a b))
 | .neq=>K (.bool (!pD a b))
 | .lss=>K (.bool (Se a b))
 | .geq=>K (.bool (!Se a b))
 | _=>False
def rq:IntKind->IntKind->Bool
 | .i64,.i64=>true | .u8,.u8=>true | .u64,.u64=>true | .i32,.i32=>true | .u16,.u16=>true | .u32,.u32=>true | .i8,.i8=>true | .i16,.i16=>true
 | _,_=>false
def Ky:BinOp->Bool
 | .shl | .shr=>true
 | _=>false
def jN:List Bool->List Value->List Value->Bool->Option Bool
 | [],[],[],c=>some c
 | true::ks,.int k a::l,.int e b::d,c=>match rq k e with | true=>jN ks l d (c&&decide (a=b)) | false=>none
 | false::ks,.bool a::l,.bool b::d,c=>jN ks l d (c&&decide (a=b))
 | _,_,_,_=>none
def aV (o:fD) (F:aJ) (L:Loc) (ρ:Env) (V:SV->Prop):Prop :=
 match o with
 | .mov x=>V (ev ρ x)
 | .pick c a b=>match ev ρ c with
  | .v (.bool true)=>V (ev ρ a)
  | .v (.bool false)=>V (ev ρ b)
  | _=>False
 | .build zs ps=>match built L ρ zs ps with
  | some cs=>V (.v (.agg cs.toArray))
  | none=>False
 | .load agg n x=>match ev ρ x with
  | .own k off=>match L.get k with
   | some (.box _ t cs)=>match kN t ((cs.drop off).take n) n with
    | true=>V (.v (jI agg ((cs.drop off).take n)))
    | false=>False
   | _=>False
  | .el a j=>kM F L a j n fun cs=>V (.v (jI agg cs))
  | .v (.pointer (some a))=>kM F L (some a) 0 n fun cs=>V (.v (jI agg cs))
  | _=>False
 | .loadR agg n x=>match ev ρ x with
  | .own k off=>match L.get k with
   | some (.box _ t cs)=>match kN t ((cs.drop off).take n) n with
    | true=>V (.v (jI agg ((cs.drop off).take n)))
    | false=>False
   | _=>False
  | .el a j=>kM F L a j n fun cs=>V (.v (jI agg cs))
  | .v (.pointer (some a))=>kM F L (some a) 0 n fun cs=>V (.v (jI agg cs))
  | _=>False
 | .nilck x=>match ev ρ x with
  | .own k off=>V (.own k off)
  | .el a j=>a≠none/\V (.el a j)
  | .v (.pointer (some a))=>V (.v (.pointer (some a)))
  | .v (.func (.func f) fi ca)=>V (.v (.func (.func f) fi ca))
  | .v (.func (.method nm) fi ca)=>match fi.toList with
   | [.iface t u]=>Sc Jo t nm=true/\V (.v (.func (.method nm) fi ca))
   | _=>False
  | _=>False
 | .mkmv nm x=>match ev ρ x with
  | .v v=>V (.v (.func (.method nm) #[v] #[]))
  | _=>False
 | .bin op x y=>match ev ρ x,ev ρ y with
  | .v (.int k a),.v (.int d b)=>match Ky op with
   | true=>shI op k a b fun v=>V (.v v)
   | false=>match rq k d with
    | true=>binI op k a b fun v=>V (.v v)
    | false=>False
  | .v (.string a),.v (.string b)=>binS op a b fun v=>V (.v v)
  | _,_=>False
 | .eqB neg x y=>match ev ρ x,ev ρ y with
  | .v (.bool a),.v (.bool b)=>V (.v (.bool (pA neg (decide (a=b)))))
  | _,_=>False
 | .eqS neg x y=>match ev ρ x,ev ρ y with
  | .v (.slice a _ _),.v (.slice none _ _)=>V (.v (.bool (pA neg a.isNone)))
  | _,_=>False
 | .eqN neg x=>match ev ρ x with
  | .v .nilIface=>V (.v (.bool (pA neg true)))
  | .v (.iface _ _)=>V (.v (.bool (pA neg false)))
  | _=>False
 | .tas t z x=>match ev ρ x with
  | .v .nilIface=>V (.v (.tuple #[z,.bool false]))
  | .v (.iface e u)=>match Nat.beq e t with
   | true=>V (.v (.tuple #[u,.bool true]))
   | false=>V (.v (.tuple #[z,.bool false]))
  | _=>False
 | .eqA neg ks x y=>match ev ρ x,ev ρ y with
  | .v (.agg cs),.v (.agg ds)=>match jN ks cs.toList ds.toList true with
   | some b=>V (.v (.bool (pA neg b)))
   | none=>False
  | _,_=>False
 | .un op x=>match op,ev ρ x with
  | .not,.v (.bool b)=>V (.v (.bool (!b)))
  | .neg,.v (.int k n)=>Fit k (0-n) fun m=>V (.v (.int k m))
  | .xor,.v (.int k n)=>V (.v (.int k (k.wrap (BitVec.ofInt k.bits (if k.signed then -1 else k.max) ^^^ BitVec.ofInt k.bits n).toNat)))
  | _,_=>False
 | .conv k x=>match ev ρ x with
  | .v (.int _ n)=>Fit k n fun m=>V (.v (.int k m))
  | _=>False
 | .b2s x=>match ev ρ x with
  | .v (.slice a n _)=>kM F L a 0 n fun cs=>CC cs fun bs=>V (.v (.string ⟨bs.toArray⟩))
  | _=>False
 | .mkfn f fi ca=>V (.v (.func (.func f) (bQ L ρ fi).toArray (bQ L ρ ca).toArray))
 | .slc sz x lo hi=>match ev ρ x with
  | .v (.slice a n c)=>match pE ρ 0 lo,pE ρ n hi with
   | some l,some h=>qL l h c fun l h=>V (.v (gU a c l h sz))
   | _,_=>False
  | _=>False
 | .fieldA off x=>match ev ρ x with
  | .own k o=>V (.own k (o+off))
  | .el a j=>V (.el a (j+off))
  | .v (.pointer (some a))=>V (.el (some a) off)
  | _=>False
 | .idxA sz x i=>match ev ρ x,ev ρ i with
  | .v (.slice a n _),.v (.int _ i)=>D7 a i n (V (.el a (i.toNat*sz)))
  | _,_=>False
 | .extr x i=>match ev ρ x with
  | .v (.tuple vs)=>match vs.toList[i]? with
   | some v=>V (.v v)
   | none=>False
  | _=>False
 | .len x=>match ev ρ x with
  | .v (.slice _ n _)=>V (.v (.int .i64 n))
  | _=>False
 | .lenS x=>match ev ρ x with
  | .v (.string s)=>V (.v (.int .i64 s.size))
  | _=>False
 | .capa x=>match ev ρ x with
  | .v (.slice _ _ c)=>V (.v (.int .i64 c))
  | _=>False
 | .mm mx args=>match args.map (ev ρ) with
  | .v (.int k a)::l=>match Sf mx a l with
   | some m=>V (.v (.int k m))
   | none=>False
  | _=>False
 | .loadD agg n x=>match ev ρ x with
  | .own k off=>match L.get k with
   | some (.box _ t cs)=>match kN t ((cs.drop off).take n) n with
    | true=>V (.v (jI agg ((cs.drop off).take n)))
    | false=>False
   | _=>False
  | .el a j=>jW F a j n fun cs=>V (.v (jI agg cs))
  | .v (.pointer (some a))=>jW F (some a) 0 n fun cs=>V (.v (jI agg cs))
  | _=>False
 | .loadF agg n x=>match ev ρ x with
  | .el a j=>jW F a j n fun cs=>V (.v (jI agg cs))
  | .v (.pointer (some a))=>jW F (some a) 0 n fun cs=>V (.v (jI agg cs))
  | _=>False
 | .mkif t x=>match ev ρ x with
  | .v v=>V (.v (.iface t v))
  | .el (some p) j=>V (.v (.iface t (.pointer (some (p.add j)))))
  | .own k off=>match L.get k with
   | some (.box g _ _)=>V (.v (.iface t (.pointer (some ⟨g,off,none⟩))))
   | _=>False
  | _=>False
 | .b2sD x=>match ev ρ x with
  | .v (.slice a n _)=>jW F a 0 n fun cs=>CC cs fun bs=>V (.v (.string ⟨bs.toArray⟩))
  | _=>False
 | .b2sR x=>match ev ρ x with
  | .v (.slice a n _)=>Yx L a n fun bs=>V (.v (.string ⟨bs.toArray⟩))
  | _=>False
 | .loadK key agg n x=>match ev ρ x with
  | .own k off=>match Nat.beq k key with
   | true=>match L.get k with
    | some (.box _ t cs)=>match kN t ((cs.drop off).take n) n with
     | true=>V (.v (jI agg ((cs.drop off).take n)))
     | false=>False
    | _=>False
   | false=>False
  | _=>False
 | _=>False
def evalOp (P:Program) (o:fD) (d:Option Nat) (F:aJ) (L:Loc) (ρ:Env) (K:dP):Prop :=
 match o with
 | .mov x=>aV (.mov x) F L ρ fun v=>K F L (put d v ρ)
 | .pick c a b=>aV (.pick c a b) F L ρ fun v=>K F L (put d v ρ)
 | .box t x=>match d with
  | some k=>match L.get k with
   | none=>∀g,K F (L.set k (.box g t (aZ (val L ρ x)))) (put d (.own k 0) ρ)
   | some _=>False
  | none=>False
 | .boxF t x=>∀g F',F.le F'->F' g=some (.cells (aZ (val L ρ x)).toArray t (0,0))->K F' L (put d (.v (.pointer (some ⟨g,0,none⟩))) ρ)
 | .alloc t zs=>match d with
  | some k=>match L.get k with
   | none=>∀g,K F (L.set k (.box g t zs)) (put d (.own k 0) ρ)
   | some _=>False
  | none=>False
 | .mkF e n sz xs=>match gD L ρ sz xs with
  | true=>∀g F',F.le F'->F' g=some (.cells (cellsOf L ρ xs).toArray e (0,0))->K F' L (put d (.v (.slice (some ⟨g,0,none⟩) n n)) ρ)
  | false=>False
 | .mkR e n sz xs=>match gD L ρ sz xs,d with
  | true,some k=>match L.get k with
   | none=>∀g,K F (L.set k (.row (.slice (some ⟨g,0,none⟩) n n) e sz n (cellsOf L ρ xs))) (put d (.v (.slice (some ⟨g,0,none⟩) n n)) ρ)
   | some _=>False
  | _,_=>False
 | .build zs ps=>aV (.build zs ps) F L ρ fun v=>K F L (put d v ρ)
 | .load agg n x=>aV (.load agg n x) F L ρ fun v=>K F L (put d v ρ)
 | .store n a x=>match iV (aZ (val L ρ x)) n,mC (aZ (val L ρ x)),ev ρ a with
  | true,true,.own k off=>match L.get k with
   | some (.box g t cs)=>match kN t ((cs.drop off).take n) n with
    | true=>K F (L.set k (.box g t (bq cs off (aZ (val L ρ x))))) (put d (.v undef) ρ)
    | false=>False
   | _=>False
  | true,true,.el q j=>uW F L q j (aZ (val L ρ x)) fun L'=>K F L' (put d (.v undef) ρ)
  | true,true,.v (.pointer (some q))=>uW F L (some q) 0 (aZ (val L ρ x)) fun L'=>K F L' (put d (.v undef) ρ)
  | _,_,_=>False
 | .nilck x=>aV (.nilck x) F L ρ fun v=>K F L (put d v ρ)
 | .mkmv nm x=>aV (.mkmv nm x) F L ρ fun v=>K F L (put d v ρ)
 | .mkif t x=>aV (.mkif t x) F L ρ fun v=>K F L (put d v ρ)
 | .pan _=>False
 | .dead=>False
 | .bin op x y=>aV (.bin op x y) F L ρ fun v=>K F L (put d v ρ)
 | .eqB neg x y=>aV (.eqB neg x y) F L ρ fun v=>K F L (put d v ρ)
 | .eqS neg x y=>aV (.eqS neg x y) F L ρ fun v=>K F L (put d v ρ)
 | .eqN neg x=>aV (.eqN neg x) F L ρ fun v=>K F L (put d v ρ)
 | .tas t z x=>aV (.tas t z x) F L ρ fun v=>K F L (put d v ρ)
 | .eqA neg ks x y=>aV (.eqA neg ks x y) F L ρ fun v=>K F L (put d v ρ)
 | .un op x=>aV (.un op x) F L ρ fun v=>K F L (put d v ρ)
 | .conv k x=>aV (.conv k x) F L ρ fun v=>K F L (put d v ρ)
 | .b2s x=>aV (.b2s x) F L ρ fun v=>K F L (put d v ρ)
 | .mkfn f fi ca=>aV (.mkfn f fi ca) F L ρ fun v=>K F L (put d v ρ)
 | .makeS e sz bytes zs l c=>match ev ρ l,ev ρ c,d with
  | .v (.int _ n),.v (.int _ m),some k=>match L.get k with
   | none=>vY n m bytes fun n=>∀g,K F (L.set k (.row (.slice (some ⟨g,0,none⟩) n m.toNat) e sz n (List.replicate n zs).flatten)) (put d (.v (.slice (some ⟨g,0,none⟩) n m.toNat)) ρ)
   | some _=>False
  | _,_,_=>False
 | .slc sz x lo hi=>aV (.slc sz x lo hi) F L ρ fun v=>K F L (put d v ρ)
 | .fieldA off x=>aV (.fieldA off x) F L ρ fun v=>K F L (put d v ρ)
 | .idxA sz x i=>aV (.idxA sz x i) F L ρ fun v=>K F L (put d v ρ)
 | .extr x i=>aV (.extr x i) F L ρ fun v=>K F L (put d v ρ)
 | .call f args=>eX P f (bQ L ρ args) F L fun F' L' v=>K F' L' (put d (.v v) ρ)
 | .callV f args=>match oF P (ev ρ f) with
  | some (f,fi,ca)=>eX P f (fi++bQ L ρ args++ca) F L fun F' L' v=>K F' L' (put d (.v v) ρ)
  | none=>match Bt P (ev ρ f) (bQ L ρ args) with
   | some (f,args)=>eX P f args F L fun F' L' v=>K F' L' (put d (.v v) ρ)
   | none=>False
 | .len x=>aV (.len x) F L ρ fun v=>K F L (put d v ρ)
 | .lenS x=>aV (.lenS x) F L ρ fun v=>K F L (put d v ρ)
 | .capa x=>aV (.capa x) F L ρ fun v=>K F L (put d v ρ)
 | .mm mx args=>aV (.mm mx args) F L ρ fun v=>K F L (put d v ρ)
 | .app e sz bytes _ s x=>match ev ρ s,ev ρ x with
  | .v sv,.v h=>Kv F L e sz bytes sv h fun L1 v=>K F L1 (put d (.v v) ρ)
  | _,_=>False
 | .appD e sz bytes _ s x=>match ev ρ s,ev ρ x with
  | .v sv,.v h=>rp F L d e sz bytes sv h fun L1 v=>K F L1 (put d (.v v) ρ)
  | _,_=>False
 | .appZ e bytes u s x=>match ev ρ s,ev ρ x with
  | .v sv,.v (.int _ i)=>match i with
   | .ofNat m=>Kw L e bytes u sv m fun L1 v=>K F L1 (put d (.v v) ρ)
   | .negSucc _=>False
  | _,_=>False
 | .copy e sz r x=>match ev ρ r,ev ρ x with
  | .v p,.v (.string t)=>Oz L e p t fun L1 n=>K F L1 (put d (.v (.int .i64 n)) ρ)
  | .v p,.v h=>CB F L e sz p h fun L1 n=>K F L1 (put d (.v (.int .i64 n)) ρ)
  | _,_=>False
 | .storeD n a x=>match iV (aZ (val L ρ x)) n,mC (aZ (val L ρ x)),ev ρ a with
  | true,true,.own k off=>match L.get k with
   | some (.box g t cs)=>match kN t ((cs.drop off).take n) n with
    | true=>K F (L.set k (.box g t (bq cs off (aZ (val L ρ x))))) (put d (.v undef) ρ)
    | false=>False
   | _=>False
  | _,_,_=>False
 | .storeK key n a x=>match iV (aZ (val L ρ x)) n,mC (aZ (val L ρ x)),ev ρ a with
  | true,true,.own k off=>match Nat.beq k key with
   | true=>match L.get k with
    | some (.box g t cs)=>match kN t ((cs.drop off).take n) n with
     | true=>K F (L.set k (.box g t (bq cs off (aZ (val L ρ x))))) (put d (.v undef) ρ)
     | false=>False
    | _=>False
   | false=>False
  | _,_,_=>False
 | .loadD agg n x=>aV (.loadD agg n x) F L ρ fun v=>K F L (put d v ρ)
 | .loadF agg n x=>aV (.loadF agg n x) F L ρ fun v=>K F L (put d v ρ)
 | .loadR agg n x=>aV (.loadR agg n x) F L ρ fun v=>K F L (put d v ρ)
 | .loadK key agg n x=>aV (.loadK key agg n x) F L ρ fun v=>K F L (put d v ρ)
 | .b2sD x=>aV (.b2sD x) F L ρ fun v=>K F L (put d v ρ)
 | .b2sR x=>aV (.b2sR x) F L ρ fun v=>K F L (put d v ρ)
 | .makeSD e sz n zs=>match d with
  | some k=>match L.get k,iV zs sz,Nat.ble n 9223372036854775807 with
   | none,true,true=>∀g,Real F (L.set k (.row (.slice (some ⟨g,0,none⟩) n n) e sz n (List.replicate n zs).flatten))->K F (L.set k (.row (.slice (some ⟨g,0,none⟩) n n) e sz n (List.replicate n zs).flatten)) (put d (.v (.slice (some ⟨g,0,none⟩) n n)) ρ)
   | _,_,_=>False
  | none=>False
 | .makeSV e sz b zs x=>match d with
  | some k=>match L.get k,iV zs sz,uX b (val L ρ x) with
   | none,true,true=>∀g,Real F (L.set k (.row (.slice (some ⟨g,0,none⟩) (nW (val L ρ x)) (nW (val L ρ x))) e sz (nW (val L ρ x)) (List.replicate (nW (val L ρ x)) zs).flatten))->K F (L.set k (.row (.slice (some ⟨g,0,none⟩) (nW (val L ρ x)) (nW (val L ρ x))) e sz (nW (val L ρ x)) (List.replicate (nW (val L ρ x)) zs).flatten)) (put d (.v (.slice (some ⟨g,0,none⟩) (nW (val L ρ x)) (nW (val L ρ x)))) ρ)
   | _,_,_=>False
  | none=>False
 | .copyX e sz r x=>match ev ρ r,ev ρ x with
  | .v p,.v h=>CB F L e sz p h fun L1 n=>Real F L1->K F L1 (put d (.v (.int .i64 n)) ρ)
  | _,_=>False
 | .boxD t x=>match d with
  | some k=>match L.get k with
   | none=>∀g,Real F (L.set k (.box g t (aZ (val L ρ x))))->K F (L.set k (.box g t (aZ (val L ρ x)))) (put d (.own k 0) ρ)
   | some _=>False
  | none=>False
 | .allocD t zs=>match d with
  | some k=>match L.get k with
   | none=>∀g,Real F (L.set k (.box g t zs))->K F (L.set k (.box g t zs)) (put d (.own k 0) ρ)
   | some _=>False
  | none=>False
 | .mkFD e n sz xs=>match gD L ρ sz xs with
  | true=>∀g F',F.le F'->F' g=some (.cells (cellsOf L ρ xs).toArray e (0,0))->Real F' L->K F' L (put d (.v (.slice (some ⟨g,0,none⟩) n n)) ρ)
  | false=>False
 | .callD f args=>fq P f (bQ L ρ args) F L d fun F' L' v=>K F' L' (put d (.v v) ρ)
 | .callVD f args=>match oF P (ev ρ f) with
  | some (f,fi,ca)=>fq P f (fi++bQ L ρ args++ca) F L d fun F' L' v=>K F' L' (put d (.v v) ρ)
  | none=>False
 | .callO f args=>eX P f (bQ L ρ args) F L fun F' L' v=>Real F' L'->K F' L' (put d (.v v) ρ)
def Kz (F:aJ) (v:Value) (sz n:Nat) (xs:List Value):Prop :=
 (v=.slice none 0 0/\n=0/\xs=[])\/∃a c,v=.slice (some a) n c/\cC F (some a) 0 xs/\n<=c
structure Sg (F:aJ) (L:Loc) (k:Nat) (K:aJ->Loc->Prop):Prop where
 out:∃v t sz n xs,L.get k=some (.row v t sz n xs)/\∀F',F.le F'->Kz F' v sz n xs->K F' (L.del k)
inductive aB where
 | op (dst:Option Nat) (o:fD) (guard:Option (Nat×Bool))
 | frz (k:Nat)
 | pc (dst:Option Nat) (o:fD) (guard:Option (Nat×Bool))
 deriving Inhabited
def yV (k g:Nat) (ρ:Env):Env:=fun j=>match ρ j with
 | .own b off=>match Nat.beq b k with | true=>.v (.pointer (some ⟨g,off,none⟩)) | false=>.own b off
 | .v x=>.v x
 | .el a i=>.el a i
def bH (P:Program):List aB->aJ->Loc->Env->dP->Prop
 | [],F,L,ρ,K=>K F L ρ
 | .op d o none::a,F,L,ρ,K=>evalOp P o d F L ρ fun F' L' ρ'=>bH P a F' L' ρ' K
 | .op d o (some (s,c))::a,F,L,ρ,K=>match ρ s with
  | .v (.bool b)=>yU b
    (match c with
     | true=>evalOp P o d F L (put (some s) (.v (.bool true)) ρ) fun F' L' ρ'=>bH P a F' L' ρ' K
     | false=>bH P a F L (put d (.v undef) (put (some s) (.v (.bool true)) ρ)) K)
    (match c with
     | false=>evalOp P o d F L (put (some s) (.v (.bool false)) ρ) fun F' L' ρ'=>bH P a F' L' ρ' K
     | true=>bH P a F L (put d (.v undef) (put (some s) (.v (.bool false)) ρ)) K)
  | .v (.tuple _)=>bH P a F L (put d (.v undef) ρ) K
  | _=>False
 | .frz k::a,F,L,ρ,K=>match L.get k with
  | some (.box g t cs)=>∀F',F.le F'->F' g=some (rm t cs)->bH P a F' (L.del k) (yV k g ρ) K
  | _=>Sg F L k fun F' L'=>bH P a F' L' ρ K
 | .pc _ _ _::_,_,_,_,_=>False
inductive aI where
 | skip
 | reg (ops:List aB)
 | regD (ops:List aB)
 | regX (ops:List aB)
 | seq (a b:aI)
 | cond (c:X) (a b:aI)
 | block (id:Nat) (c:aI)
 | loop (asg:List Nat) (c:aI)
 | exit (id:Nat)
 | ret
 deriving Inhabited
def gS:List Nat->Nat->Bool
 | [],_=>false
 | j::l,k=>match Nat.beq j k with | true=>true | false=>gS l k
def Loc.keeps:Loc->Loc->Prop
 | [],_=>True
 | (k,.box g t _)::l,L'=>(∃cs,L'.get k=some (.box g t cs))/\Loc.keeps l L'
 | (_,.row ..)::l,L'=>Loc.keeps l L'
structure D9 (F:aJ) (L:Loc) (v:Value) (R:aJ->List Own->Value->Prop):Prop where
 out:∃ko Lo,L.sub ko=some Lo/\ko.Nodup/\R F Lo v
abbrev RV:=Nat×Option (Bool×Nat)
def mU (L:Loc) (ρ:Env):List RV->(List Value->Prop)->Prop
 | [],K=>K []
 | (t,none)::l,K=>mU L ρ l fun vs=>K (conc L (ρ t)::vs)
 | (t,some (agg,n))::l,K=>match ρ t with
  | .own k off=>match L.get k with
   | some (.box _ ty cs)=>match kN ty ((cs.drop off).take n) n with
    | true=>mU L ρ l fun vs=>K (jI agg ((cs.drop off).take n)::vs)
    | false=>False
   | _=>False
  | _=>False
def iK:List Value->Value
 | [v]=>v
 | l=>.tuple l.toArray
def uY:Nat->List SV->Env
 | _,[]=>fun _=>.v undef
 | k,v::l=>put (some k) v (uY (k+1) l)
def Loc.gives (L:Loc):Loc->Prop
 | []=>True
 | (k,o)::l=>(L.get k=some o\/(L.get k=none/\∃t sz,o=.row (.slice none 0 0) t sz 0 []))/\Loc.gives L l
def iW (asg:List Nat) (a:Nat->Value) (ρ:Env):Env:=fun j=>match gS asg j with | true=>.v (a j) | false=>ρ j
def puts:List Nat->List SV->Env->Env
 | k::ks,v::vs,ρ=>put (some k) v (puts ks vs ρ)
 | _,_,ρ=>ρ
def holds:List Nat->List SV->Env->Prop
 | k::ks,v::vs,ρ=>ρ k=v/\holds ks vs ρ
 | _,_,_=>True
structure TQ (body:aJ->Loc->Env->dP->Prop) (asg:List Nat) (F:aJ) (L:Loc) (ρ:Env):Prop where
 out:∃(σ:Type) (x0:σ) (Inv:σ->aJ->Prop) (ls:List Nat) (lv:σ->List Value) (Lf:σ->Loc) (μ:σ->Nat),
  Inv x0 F/\holds ls ((lv x0).map .v) ρ/\L.gives (Lf x0)/\(∀x,L.keeps (Lf x)) /\
  ∀x F' jk,F.le F'->Inv x F'->body F' (Lf x) (puts ls ((lv x).map .v) (iW asg jk ρ)) fun F'' L'' ρ'' =>
   ∃x',Inv x' F''/\holds ls ((lv x').map .v) ρ''/\L''.gives (Lf x')/\μ x'<μ x
def lQ (P:Program):aI->(Nat->dP)->dP->dP->dP
 | .skip,_,_,N,F,L,ρ=>N F L ρ
 | .reg d,_,_,N,F,L,ρ=>bH P d F L ρ N
 | .regD d,_,_,N,F,L,ρ=>bH P d F L ρ N
 | .regX _,_,_,_,_,_,_=>False
 | .seq a b,E,R,N,F,L,ρ=>lQ P a E R (fun F L ρ=>lQ P b E R N F L ρ) F L ρ
 | .cond c a b,E,R,N,F,L,ρ=>match ev ρ c with
  | .v (.bool t)=>yU t (lQ P a E R N F L ρ) (lQ P b E R N F L ρ)
  | _=>False
 | .block id c,E,R,N,F,L,ρ=>lQ P c (fun j=>match Nat.beq j id with | true=>N | false=>E j) R N F L ρ
 | .loop asg c,E,R,_,F,L,ρ=>TQ (fun F L ρ K=>lQ P c E R K F L ρ) asg F L ρ
 | .exit id,E,_,_,F,L,ρ=>E id F L ρ
 | .ret,_,R,_,F,L,ρ=>R F L ρ
theorem gF {a b:Nat}(h:Nat.beq a b=false):a≠b:=by intro e;subst e;simp at h
theorem Loc.aa4 (L:Loc) (k:Nat) (o:Own) (j:Nat):(L.set k o).get j=if j=k then some o else L.get j:=by
 induction L with
 | nil =>
  simp only[Loc.set,Loc.get];cases h:Nat.beq k j with
  | true=>have:=vz h;simp[this]
  | false=>have:=gF h;simp;omega
 | cons p l b =>
  obtain⟨i,q⟩:=p;simp only[Loc.set];cases h:Nat.beq i k with
  | true =>
   have e:=vz h;subst e;simp only[Loc.get];cases a:Nat.beq i j with
   | true=>have:=vz a;simp[this]
   | false=>have:=gF a;simp;omega
  | false =>
   have c:=gF h;simp only[];cases d:Nat.ble i k with
   | true =>
    simp only[Loc.get];cases a:Nat.beq i j with
    | true=>have:=vz a;simp;omega
    | false=>simpa using b
   | false =>
    simp only[Loc.get];cases a:Nat.beq k j with
    | true=>have:=vz a;simp[this]
    | false =>
     have:=gF a;simp only[];rw[s8 (by omega)]
theorem Loc.abg (L:Loc) (k j:Nat):(L.del k).get j=if j=k then none else L.get j:=by
 induction L with
 | nil=>simp[Loc.del,Loc.get]
 | cons p l c =>
  obtain⟨i,q⟩:=p;simp only[Loc.del];cases h:Nat.beq i k with
  | true =>
   have e:=vz h;subst e;simp only[Loc.get,c]
   by_cases b:j=i
   ·simp[b]
   ·have:Nat.beq i j=false:=by cases a:Nat.beq i j with | true=>exact s6 (vz a).symm b | false=>rfl
    simp[b,this]
  | false =>
   have d:=gF h;simp only[Loc.get];cases a:Nat.beq i j with
   | true=>have:=vz a;simp;omega
   | false=>simpa using c
def Loc.part (L L':Loc):Prop:=∀k o,L'.get k=some o->L.get k=some o
theorem St.part {F:aJ}{L L':Loc}{w:World}(h:St F L w) (a:L.part L'):St F L' w :=
 ⟨h.frz,fun k o e=>h.own k o (a k o e),fun k o g e=>h.off k o g (a k o e),fun k b o o' g e e'=>h.sep k b o o' g (a k o e) (a b o' e'),h.glob⟩
theorem Own.abX {w:World}{o:Own}(h:o.ok w) {g:Nat}(a:o.blk=some g):g<w.heap.size:=by
 cases o with
 | box b t cs =>
  simp only[Own.blk,w7] at a;subst a;exact(Array.getElem?_eq_some_iff.1 h).1
 | row v t sz n xs=>exact(World.ownsRow.lt h g a).2
theorem Own.ack {w w':World}{o:Own}(h:o.ok w) (c:∀g,o.blk=some g->w'.heap[g]?=w.heap[g]?):o.ok w':=by
 cases o with
 | box g t cs=>exact(c g rfl).trans h
 | row v t sz n xs =>
  obtain⟨e,a⟩:=h;refine⟨e,?_⟩;rcases a with a | ⟨g,cap,b,rfl,hb,d,r⟩
  ·exact .inl a
  ·exact .inr ⟨g,cap,b,rfl,hb,(c g rfl).trans d,r⟩
theorem St.acs {F:aJ}{L:Loc}{w:World}(h:St F L w) {b:Nat}(hb:F b≠none):b<w.heap.size:=by
 cases e:F b with
 | none=>exact s6 e hb
 | some o=>exact(Array.getElem?_eq_some_iff.1 (h.frz b o e)).1
theorem St.acz {F:aJ}{L:Loc}{w:World}(h:St F L w) {b:Nat}(hb:L.owns b):b<w.heap.size:=by
 obtain⟨k,o,e,a⟩:=hb;exact Own.abX (h.own k o e) a
theorem St.keep {F:aJ}{L:Loc}{w w':World}(h:St F L w) (a:∀b,b<w.heap.size->w'.heap[b]?=w.heap[b]?):St F L w':=by
 refine⟨fun b o e=>?_,fun k o e=>?_,h.off,h.sep,h.glob⟩
 ·have:=h.frz b o e;rw[a b (Array.getElem?_eq_some_iff.1 this).1];exact this
 ·exact Own.ack (h.own k o e) fun g c=>a g (Own.abX (h.own k o e) c)
theorem St.drew {F:aJ}{L:Loc}{w:World}(h:St F L w):St F L w.drew:=h.keep fun _ _=>rfl
theorem St.put {F:aJ}{L:Loc}{w:World}(h:St F L w) {k:Nat}{o:Own}(v:L.get k=none) (t:o.ok w)
  (l:∀g,o.blk=some g->F g=none/\¬L.owns g):St F (L.set k o) w:=by
 have a:∀j p,(L.set k o).get j=some p->(j=k/\p=o)\/(j≠k/\L.get j=some p):=by
  intro j p e;rw[Loc.aa4] at e;split at e
  ·rename_i d;exact .inl ⟨d,by injection e with e;exact e.symm⟩
  ·rename_i d;exact .inr ⟨d,e⟩
 refine⟨h.frz,fun j p e=>?_,fun j p g e c=>?_,fun j n p m g e e' c b=>?_,h.glob⟩
 ·rcases a j p e with⟨_,rfl⟩ | ⟨_,e⟩
  ·exact t
  ·exact h.own j p e
 ·rcases a j p e with⟨_,rfl⟩ | ⟨_,e⟩
  ·exact(l g c).1
  ·exact h.off j p g e c
 ·rcases a j p e with⟨d,u⟩ | ⟨_,r⟩<;>rcases a n m e' with⟨q,f⟩ | ⟨_,s⟩
  ·exact d.trans q.symm
  ·subst u;exact s6 ⟨n,m,s,b⟩ (l g c).2
  ·subst f;exact s6 ⟨j,p,r,c⟩ (l g b).2
  ·exact h.sep j n p m g r s c b
theorem St.turn {F:aJ}{L:Loc}{w w':World}(h:St F L w) {k:Nat}{o o':Own}(n:L.get k=some o) (y:o'.ok w')
  (x:∀b,b<w.heap.size->o.blk≠some b->w'.heap[b]?=w.heap[b]?) (hb:∀g,o'.blk=some g->o.blk=some g\/w.heap.size<=g):St F (L.set k o') w':=by
 have c:∀j p,(L.set k o').get j=some p->(j=k/\p=o')\/(j≠k/\L.get j=some p):=by
  intro j p e;rw[Loc.aa4] at e;split at e
  ·rename_i f;exact .inl ⟨f,by injection e with e;exact e.symm⟩
  ·rename_i f;exact .inr ⟨f,e⟩
 refine⟨fun b p e=>?_,fun j p e=>?_,fun j p g e d=>?_,fun j r p q g e e' d l=>?_,h.glob⟩
 ·have:=h.frz b p e;rw[x b (Array.getElem?_eq_some_iff.1 this).1 (fun hb=>by have:=h.off k o b n hb;rw[this] at e;cases e)];exact this
 ·rcases c j p e with⟨_,rfl⟩ | ⟨f,e⟩
  ·exact y
  ·exact Own.ack (h.own j p e) fun g d=>x g (Own.abX (h.own j p e) d) fun a=>f (h.sep j k p o g e n d a)
 ·rcases c j p e with⟨_,rfl⟩ | ⟨_,e⟩
  ·rcases hb g d with a | v
   ·exact h.off k o g n a
   ·cases hF:F g with
    | none=>rfl
    | some _=>have:=h.acs (b:=g) (by rw[hF];simp);omega
  ·exact h.off j p g e d
 ·rcases c j p e with⟨f,z⟩ | ⟨f,t⟩<;>rcases c r q e' with⟨m,s⟩ | ⟨m,u⟩
  ·exact f.trans m.symm
  ·subst z;rcases hb g d with a | v
   ·exact s6 (h.sep r k q o g u n l a) m
   ·have:=Own.abX (h.own r q u) l;omega
  ·subst s;rcases hb g l with a | v
   ·exact s6 (h.sep j k p o g t n d a) f
   ·have:=Own.abX (h.own j p t) d;omega
  ·exact h.sep j r p q g t u d l
theorem St.freeze {F:aJ}{L:Loc}{w:World}(h:St F L w) {g:Nat}{o:Obj}(c:w.heap[g]?=some o) (d:¬L.owns g) :
  St (fun b=>if b=g then some o else F b) L w:=by
 refine⟨fun b p e=>?_,h.own,fun k p b e hb=>?_,h.sep,uV.mono ?_ h.glob⟩
 ·split at e
  ·rename_i a;subst a;injection e with e;subst e;exact c
  ·exact h.frz b p e
 ·split
  ·rename_i a;subst a;exact s6 ⟨k,p,e,hb⟩ d
  ·exact h.off k p b e hb
 ·intro b p e;simp only[];split
  ·rename_i a;subst a;rw[<-h.frz b p e,c]
  ·exact e
theorem aJ.abY {F:aJ}{w:World}{L:Loc}(h:St F L w) {g:Nat}{o:Obj}(c:w.heap[g]?=some o):F.le (fun b=>if b=g then some o else F b):=by
 intro b p e;simp only[];split
 ·rename_i a;subst a;rw[<-h.frz b p e,c]
 ·exact e
theorem Step.refl (F:aJ) (L:Loc) (w:World):Step F L w F L w :=
 ⟨aJ.le_refl F,rfl,rfl,rfl,ac4 _,fun _ _ _=>rfl,fun _ h=>.inl h,fun _ h=>.inl h⟩
theorem Step.trans {F F' F'':aJ}{L L' L'':Loc}{w w' c:World}(h:Step F L w F' L' w') (k:Step F' L' w' F'' L'' c):Step F L w F'' L'' c:=by
 refine⟨aJ.le_trans h.le k.le,k.os.trans h.os,k.tape.trans h.tape,k.output.trans h.output,acO h.size k.size,fun b hb e=>?_,fun b hb=>?_,fun b hb=>?_⟩
 ·rw[k.same b (adP hb h.size) (fun d=>by rcases h.own b d with d | d;exact e d;omega)];exact h.same b hb e
 ·rcases k.frz b hb with a | a | a
  ·exact h.frz b a
  ·exact .inr (h.own b a)
  ·exact .inr (.inr (acO h.size a))
 ·rcases k.own b hb with a | a
  ·exact h.own b a
  ·exact .inr (acO h.size a)
theorem Step.mk' {F F':aJ}{L L':Loc}{w w':World}(le:F.le F') (a:w.grownBy w' none) (frz:∀b,F' b≠none->F b≠none\/L.owns b\/w.heap.size<=b)
  (own:∀b,L'.owns b->L.owns b\/w.heap.size<=b):Step F L w F' L' w' :=
 ⟨le,a.os,a.tape,a.output,a.size,fun b hb _=>a.block b hb (by simp),frz,own⟩
theorem Loc.abl {L:Loc}{k:Nat}{o:Own}{b:Nat}(h:(L.set k o).owns b):o.blk=some b\/L.owns b:=by
 obtain⟨j,p,e,hb⟩:=h;rw[Loc.aa4] at e;split at e
 ·injection e with e;subst e;exact .inl hb
 ·exact .inr ⟨j,p,e,hb⟩
theorem Loc.ab1 {L:Loc}{k b:Nat}(h:(L.del k).owns b):L.owns b:=by
 obtain⟨j,p,e,hb⟩:=h;rw[Loc.abg] at e;split at e
 ·cases e
 ·exact⟨j,p,e,hb⟩
theorem Loc.acy (L:Loc) (k:Nat):L.part (L.del k):=by
 intro j o e;rw[Loc.abg] at e;split at e
 ·cases e
 ·exact e
theorem cC.mono {F G:aJ}(h:F.le G) {a:Option Addr}{j:Nat}{cs:List Value}(c:cC F a j cs):cC G a j cs:=by
 obtain⟨l,b,t,k,e,d,m,f⟩:=c;exact⟨l,b,t,k,e,h _ _ d,m,f⟩
theorem cZ {b o n:Nat}:(⟨b,o,none⟩:Addr).add n=⟨b,o+n,none⟩:=by
 unfold Addr.add;split<;>simp_all
theorem cC.cell {F:aJ}{L:Loc}{w:World}(h:St F L w) {a:Option Addr}{j:Nat}{cs:List Value}(c:cC F a j cs) :
  ∃d,a=some d/\d.spot=none/\∀i v,cs[i]?=some v->w.cell? (d.add (j+i))=some v:=by
 obtain⟨d,m,t,p,e,l,f,n⟩:=c;refine⟨d,e,f,fun i v k=>?_⟩;obtain⟨b,o,q⟩:=d;simp only at f;subst f;rw[cZ];have:=h.frz b _ l;simp only[World.cell?,this];simpa[Nat.add_assoc] using(n i v k).1
def cQ:Operand->Option X
 | .tmp t=>some (.t t)
 | .const v=>some (.c v)
 | .func f=>some (.fn f)
 | .global _=>none
def iw:List Operand->Option (List X)
 | []=>some []
 | o::l=>match cQ o,iw l with
  | some x,some xs=>some (x::xs)
  | _,_=>none
def uZ:Option Operand->Option (Option X)
 | none=>some none
 | some o=>match cQ o with | some x=>some (some x) | none=>none
def gV:TypeDesc->Bool
 | .struct _ | .array _ _=>true
 | _=>false
def V8 (i:TypeInfo):Option (List Value):=match i.zero with | some z=>some z.cells.toList | none=>none
def pF (P:Program) (fs:Array Field):List (Nat×Operand)->Option (List (Nat×Nat×X))
 | []=>some []
 | (i,o)::l=>match fs[i]?,cQ o,pF P fs l with
  | some f,some x,some ps=>match P.info? f.type with
   | some j=>some ((f.offset,j.size,x)::ps)
   | none=>none
  | _,_,_=>none
def qg (P:Program):List Field->Nat->Option (List Bool)
 | [],_=>some []
 | f::fs,k=>match Nat.beq f.offset k,decide (f.name="_"),P.underlying f.type with
  | true,false,some (.int _)=>match qg P fs (k+1) with | some ks=>some (true::ks) | none=>none
  | true,false,some .bool=>match qg P fs (k+1) with | some ks=>some (false::ks) | none=>none
  | _,_,_=>none
def yX:X->Bool
 | .c .nilIface=>true
 | _=>false
def kO (P:Program) (own:Bool) (o:Op):Option fD :=
 match o with
 | .move x | .assign x=>match cQ x with | some x=>some (.mov x) | none=>none
 | .pick c a b=>match cQ c,cQ a,cQ b with | some c,some a,some b=>some (.pick c a b) | _,_,_=>none
 | .box t x=>match cQ x,decide (t=0) with | some x,false=>some (match own with | true=>.boxF t x | false=>.box t x) | _,_=>none
 | .alloc t=>match P.info? t,decide (t=0) with
  | some i,false=>match V8 i with | some z=>some (.alloc t z) | none=>none
  | _,_=>none
 | .buildSlice t n ps=>match P.underlying t,iw (ps.toList.map (·.2)) with
  | some (.slice e),some xs=>match P.info? e with
   | some i=>match decide (ps.toList.map (·.1)=List.range n),decide (n*i.size<=2 ^ 24/\n<=2 ^ 24),i.zero with
    | true,true,some _=>some (match own with | true=>.mkR e n i.size xs | false=>.mkF e n i.size xs)
    | _,_,_=>none
   | none=>none
  | _,_=>none
 | .build t ps=>match P.underlying t,P.info? t with
  | some (.struct fs),some i=>match V8 i,pF P fs ps.toList with
   | some z,some l=>match fs.toList.all (fun f=>(P.info? f.type).isSome),l.all (fun p=>Nat.ble (p.1+p.2.1) z.length) with
    | true,true=>some (.build z l)
    | _,_=>none
   | _,_=>none
  | _,_=>none
 | .load t a=>match P.underlying t,P.info? t,cQ a with
  | some d,some i,some x=>some (match gV d with | true=>.load true i.size x | false=>.load false 1 x)
  | some _,some _,none=>some .dead
  | _,_,_=>none
 | .store t a x=>match P.info? t,cQ a,cQ x with
  | some i,some a,some x=>some (.store i.size a x)
  | _,_,_=>none
 | .nilCheck x=>match cQ x,Sd P with | some x,true=>some (.nilck x) | _,_=>none
 | .binOp op t x y _=>match P.underlying t,cQ x,cQ y with
  | some d,some x,some y=>match d,op with
   | .bool,.eql=>some (.eqB false x y)
   | .bool,.neq=>some (.eqB true x y)
   | .slice _,.eql=>some (.eqS false x y)
   | .slice _,.neq=>some (.eqS true x y)
   | .interface _,.eql=>match yX y with | true=>some (.eqN false x) | false=>none
   | .interface _,.neq=>match yX y with | true=>some (.eqN true x) | false=>none
   | .struct fs,.eql=>match qg P fs.toList 0,P.stoodInHeld t,P.eqGuardType P.depth t with | some ks,false,false=>some (.eqA false ks x y) | _,_,_=>none
   | .struct fs,.neq=>match qg P fs.toList 0,P.stoodInHeld t,P.eqGuardType P.depth t with | some ks,false,false=>some (.eqA true ks x y) | _,_,_=>none
   | .int _,_ | .string,_=>some (.bin op x y)
   | _,_=>none
  | _,_,_=>none
 | .unOp op _ x=>match cQ x with | some x=>some (.un op x) | none=>none
 | .convert s t x=>match P.underlying s,P.underlying t,cQ x with
  | some (.int _),some (.int k),some x=>some (.conv k x)
  | some (.slice e),some .string,some x=>match P.underlying e with
   | some (.int .u8)=>some (.b2s x)
   | _=>none
  | _,_,_=>none
 | .makeFunc (.func f) fi ca=>match iw fi.toList,iw ca.toList with
  | some fi,some ca=>some (.mkfn f fi ca)
  | _,_=>none
 | .makeFunc (.method nm) fi ca=>match iw fi.toList,ca.toList with
  | some [x],[]=>some (.mkmv nm x)
  | _,_=>none
 | .makeFunc (.methodOf t nm) fi ca=>match fi.toList,ca.toList with
  | [],[]=>some (.mov (.c (.func (.methodOf t nm) #[] #[])))
  | _,_=>none
 | .makeSlice t l c=>match P.underlying t,cQ l,cQ c with
  | some (.slice e),some l,some c=>match P.info? e with
   | some i=>match i.zero with
    | some z=>match decide (z.cells.size=i.size),decide (0<i.size) with
     | true,true=>some (.makeS e i.size i.bytes z.cells.toList l c)
     | _,_=>none
    | none=>none
   | none=>none
  | _,_,_=>none
 | .slice t x lo hi none=>match P.underlying t,cQ x,uZ lo,uZ hi with
  | some (.slice e),some x,some lo,some hi=>match P.info? e with
   | some i=>some (.slc i.size x lo hi)
   | none=>none
  | _,_,_,_=>none
 | .fieldAddr t x f=>match P.underlying t,cQ x with
  | some (.struct fs),some x=>match fs[f]? with
   | some f=>match P.info? f.type with
    | some i=>match decide (i.size=0) with | true=>none | false=>some (.fieldA f.offset x)
    | none=>none
   | none=>none
  | _,_=>none
 | .indexAddr t x i=>match P.underlying t,cQ x,cQ i with
  | some (.slice e),some x,some i=>match P.info? e with
   | some j=>some (.idxA j.size x i)
   | none=>none
  | _,_,_=>none
 | .makeInterface t x=>match P.underlying t,cQ x with
  | some (.interface _),_=>none
  | some _,some x=>some (.mkif t x)
  | _,_=>none
 | .typeAssert x _ t true=>match P.underlying t,P.info? t,cQ x with
  | some (.interface _),_,_=>none
  | some _,some i,some x=>match i.zero with | some z=>some (.tas t z x) | none=>none
  | _,_,_=>none
 | .panic x=>match cQ x with | some x=>some (.pan x) | none=>none
 | .extract x i=>match cQ x with | some x=>some (.extr x i) | none=>none
 | .call c=>match iw c.args.toList with
  | none=>none
  | some args=>match c.callee with
   | .value (.func f)=>match P.funcs[f]? with
    | some fn=>match fn.name == "runtime.NumGoroutine",fn.body.isSome with
     | false,true=>some (.call f args)
     | _,_=>none
    | none=>none
   | .value f=>match cQ f with | some x=>some (.callV x args) | none=>none
   | .invoke (.tmp n) nm=>some (.callV (.mt nm n) args)
   | .invoke _ _=>none
   | .builtin b=>match b,args,c.argTypes.toList with
    | .len,[x],[t]=>match P.underlying t with
     | some (.slice _)=>some (.len x)
     | some .string=>some (.lenS x)
     | _=>none
    | .cap,[x],[t]=>match P.underlying t with
     | some (.slice _)=>some (.capa x)
     | _=>none
    | .max,args,_=>some (.mm true args)
    | .min,args,_=>some (.mm false args)
    | .append,[s,x],[t,t']=>match P.underlying t,P.underlying t' with
     | some (.slice e),some (.slice _)=>match P.info? e with
      | some i=>match i.zero with
       | some z=>match decide (t=t'),decide (z.cells.size=i.size),decide (0<i.size) with
        | true,true,true=>some (.app e i.size i.bytes z.cells.toList s x)
        | _,_,_=>none
       | none=>none
      | none=>none
     | some (.slice e),some (.int _)=>match P.info? e with
      | some i=>match i.zero with
       | some (.int kz z)=>match decide (z=0),decide (i.size=1) with
        | true,true=>some (.appZ e i.bytes kz s x)
        | _,_=>none
       | _=>none
      | none=>none
     | _,_=>none
    | .copy,[s,x],[t,t']=>match P.underlying t,P.underlying t' with
     | some (.slice e),some (.slice _)=>match P.info? e with
      | some i=>match decide (t=t'),decide (i.size=1) with
       | true,true=>some (.copy e i.size s x)
       | _,_=>none
      | none=>none
     | some (.slice e),some .string=>match P.info? e with
      | some i=>match decide (i.size=1) with
       | true=>some (.copy e i.size s x)
       | _=>none
      | none=>none
     | _,_=>none
    | _,_,_=>none
 | _=>none
structure aN (L:Loc) (ρ:Env) (a:Act):Prop where
 eq:∀t,a.tmps.getD t undef=conc L (ρ t)
 own:∀t k off,ρ t=.own k off->∃g ty cs,L.get k=some (.box g ty cs)
 el:∀t ad j,ρ t=.el ad j->ad≠none
theorem aX {y:Operand}{x:X}(h:cQ y=some x) {L:Loc}{ρ:Env}{a:Act}(b:aN L ρ a):a.eval y=val L ρ x:=by
 cases y<;>simp only[cQ,w7,reduceCtorEq] at h<;>subst h
 ·exact b.eq _
 ·rfl
 ·rfl
theorem ru {y:Operand}{x:X}(h:cQ y=some x) {L:Loc}{ρ:Env}{a:Act}(b:aN L ρ a) {k off:Nat}(e:ev ρ x=.own k off):∃g ty cs,L.get k=some (.box g ty cs):=by
 cases y<;>simp only[cQ,w7,reduceCtorEq] at h<;>subst h
 ·exact b.own _ _ _ e
 ·cases e
 ·cases e
theorem sM {y:Operand}{x:X}(h:cQ y=some x) {L:Loc}{ρ:Env}{a:Act}(c:aN L ρ a) {b:Option Addr}{j:Nat}(e:ev ρ x=.el b j):b≠none:=by
 cases y<;>simp only[cQ,w7,reduceCtorEq] at h<;>subst h
 ·exact c.el _ _ _ e
 ·cases e
 ·cases e
theorem gG:∀{ys:List Operand}{xs:List X},iw ys=some xs->∀{L:Loc}{ρ:Env}{a:Act},aN L ρ a->ys.map a.eval=bQ L ρ xs:=by
 intro ys
 induction ys with
 | nil=>intro xs h L ρ a b;simp only[iw,w7] at h;subst h;rfl
 | cons y ys f =>
  intro xs h L ρ a b;simp only[iw] at h;split at h
  ·rename_i x e c d;injection h with h
   subst h;simp only[acU,bQ,aX c b,f d b]
  ·cases h
def bX (F:aJ) (L:Loc) (w:World) (a:Act) (K:dP) (b:Act) (w':World):Prop :=
 ∃F' L' ρ',St F' L' w'/\aN L' ρ' b/\b.tmps.size=a.tmps.size/\b.defers=a.defers/\Step F L w F' L' w'/\K F' L' ρ'
theorem KA (a:Act) (d:Option Nat) (v:Value) (b:∀k,d=some k->k<a.tmps.size) (t:Nat) :
  (a.put d v).tmps.getD t undef=match d with | some k=>if t=k then v else a.tmps.getD t undef | none=>a.tmps.getD t undef:=by
 cases d with
 | none=>rfl
 | some k =>
  have:=b k rfl;simp only[Act.put,adf,Array.getElem?_setIfInBounds]
  by_cases h:t=k
  ·subst h;simp[this]
  ·rw[s8 (by omega),s8 h]
theorem put_eq (d:Option Nat) (x:SV) (ρ:Env) (t:Nat):put d x ρ t=match d with | some k=>if t=k then x else ρ t | none=>ρ t:=by
 cases d with
 | none=>rfl
 | some k =>
  simp only[put];cases h:Nat.beq t k with
  | true=>have:=vz h;simp[this]
  | false=>have:=gF h;simp[this]
theorem aN.put {L L':Loc}{ρ:Env}{a:Act}(l:aN L ρ a) {d:Option Nat}{v:Value}{x:SV}(q:∀k,d=some k->k<a.tmps.size)
  (r:conc L' x=v) (s:∀k off,x=.own k off->∃g ty cs,L'.get k=some (.box g ty cs)) (u:∀f j,x=.el f j->f≠none)
  (n:∀k g ty cs,L.get k=some (.box g ty cs)->∃cs',L'.get k=some (.box g ty cs')):aN L' (put d x ρ) (a.put d v):=by
 have h:∀t,a.tmps.getD t undef=conc L' (ρ t):=by
  intro t;rw[l.eq t];cases e:ρ t with
  | v x=>rfl
  | el a j=>rfl
  | own k off =>
   obtain⟨g,ty,cs,m⟩:=l.own t k off e;obtain⟨cs',c⟩:=n k g ty cs m;simp only[conc,m,c]
 refine⟨fun t=>?_,fun t k off e=>?_,fun t f j e=>?_⟩
 ·rw[KA a d v q,put_eq];cases d with
  | none=>exact h t
  | some k =>
   simp only[];split
   ·exact r.symm
   ·exact h t
 ·rw[put_eq] at e;have b:∀k off,ρ t=.own k off->∃g ty cs,L'.get k=some (.box g ty cs):=by
   intro k off e;obtain⟨g,ty,cs,m⟩:=l.own t k off e;obtain⟨cs',c⟩:=n k g ty cs m;exact⟨g,ty,cs',c⟩
  cases d with
  | none=>exact b k off e
  | some p =>
   simp only[] at e;split at e
   ·exact s k off e
   ·exact b k off e
 ·rw[put_eq] at e;cases d with
  | none=>exact l.el t f j e
  | some p =>
   simp only[] at e;split at e
   ·exact u f j e
   ·exact l.el t f j e
theorem mD (a:Act) (d:Option Nat) (v:Value):(a.put d v).tmps.size=a.tmps.size:=by cases d<;>simp[Act.put]
theorem iL (a:Act) (d:Option Nat) (v:Value):(a.put d v).defers=a.defers:=by cases d<;>rfl
section
variable {P:Program}{F:aJ}{L:Loc}{ρ:Env}{a:Act}{w:World}{K:dP}{o:Oper}{Q:Exit->Act->World->Prop}
theorem cT (m:St F L w) (n:aN L ρ a) (p:∀k,o.dst=some k->k<a.tmps.size) {v:Value}{x:SV}
  (d:(execOp a.eval o).run P w=.ok (.value v) w) (c:conc L x=v) (l:∀k off,x=.own k off->∃g ty cs,L.get k=some (.box g ty cs)) (h:∀b j,x=.el b j->b≠none)
  (f:K F L (put o.dst x ρ)):o.wp P a w (bX F L w a K) Q:=by
 unfold Oper.wp;rw[d];exact⟨F,L,_,m,n.put p c l h (fun k g ty cs e=>⟨cs,e⟩),mD _ _ _,iL _ _ _,Step.refl _ _ _,f⟩
theorem jY (q:aN L ρ a) (e:∀k,o.dst=some k->k<a.tmps.size) {v:Value}{x:SV}{w':World}{F':aJ}{L':Loc}
  (h:(execOp a.eval o).run P w=.ok (.value v) w') (m:St F' L' w') (b:Step F L w F' L' w') (f:conc L' x=v) (l:∀k off,x=.own k off->∃g ty cs,L'.get k=some (.box g ty cs)) (n:∀c j,x=.el c j->c≠none)
  (d:∀k g ty cs,L.get k=some (.box g ty cs)->∃cs',L'.get k=some (.box g ty cs')) (p:K F' L' (put o.dst x ρ)):o.wp P a w (bX F L w a K) Q:=by
 unfold Oper.wp;rw[h];exact⟨F',L',_,m,q.put e f l n d,mD _ _ _,iL _ _ _,b,p⟩
theorem yY (c:aN L ρ a) (l:∀k,o.dst=some k->k<a.tmps.size) {w':World}{F':aJ}{L':Loc}
  (d:(execOp a.eval o).run P w=.ok .skip w') (j:St F' L' w') (b:Step F L w F' L' w')
  (h:∀k g ty cs,L.get k=some (.box g ty cs)->∃cs',L'.get k=some (.box g ty cs')) (f:K F' L' (put o.dst (.v undef) ρ)):o.wp P a w (bX F L w a K) Q:=by
 unfold Oper.wp;rw[d];exact⟨F',L',_,j,c.put l rfl (fun _ _ e=>by cases e) (fun _ _ e=>by cases e) h,mD _ _ _,iL _ _ _,b,f⟩
end
section
variable {P:Program}{F:aJ}{L:Loc}{ρ:Env}{a:Act}{w:World}{K:dP}{o:Oper}{Q:Exit->Act->World->Prop}
theorem dA {v:Value}{L:Loc}:∀k off,SV.v v=.own k off->∃g ty cs,L.get k=some (.box g ty cs):=fun _ _ e=>by cases e
theorem fS {v:Value}:∀b j,SV.v v=.el b j->b≠none:=fun _ _ e=>by cases e
theorem u9 (L:Loc):∀k g ty cs,L.get k=some (.box g ty cs)->∃cs',L.get k=some (.box g ty cs'):=fun k g ty cs e=>⟨cs,e⟩
theorem dc {x:X}{v:Value}{L:Loc}{ρ:Env}(h:ev ρ x=.v v):val L ρ x=v:=by simp only[val,h,conc]
theorem KC {y:Operand}{x:X}(h:St F L w) (b:aN L ρ a) (l:∀k,o.dst=some k->k<a.tmps.size)
  (c:o.op=.move y\/o.op=.assign y) (d:cQ y=some x) (f:evalOp P (.mov x) o.dst F L ρ K):o.wp P a w (bX F L w a K) Q:=by
 refine cT h b l (v:=a.eval y) (x:=ev ρ x) ?_ (aX d b).symm (fun k off e=>ru d b e) (fun m j e=>sM d b e) f;rcases c with c | c<;>simp only[execOp,c]<;>rfl
theorem OA {c y z:Operand}{t m l:X}(s:St F L w) (b:aN L ρ a) (q:∀k,o.dst=some k->k<a.tmps.size)
  (r:o.op=.pick c y z) (hc:cQ c=some t) (f:cQ y=some m) (n:cQ z=some l) (d:evalOp P (.pick t m l) o.dst F L ρ K):o.wp P a w (bX F L w a K) Q:=by
 have p:=aX hc b;simp only[evalOp,aV] at d;split at d
 ·rename_i h;refine cT s b q (v:=a.eval y) (x:=ev ρ m) ?_ (aX f b).symm (fun k off e=>ru f b e) (fun u j e=>sM f b e) d;simp only[execOp,r,p,val,h,conc];simp[asBool]
 ·rename_i h;refine cT s b q (v:=a.eval z) (x:=ev ρ l) ?_ (aX n b).symm (fun k off e=>ru n b e) (fun u j e=>sM n b e) d;simp only[execOp,r,p,val,h,conc];simp[asBool]
 ·exact d.elim
theorem kP (w:World) (o:Obj):(w.alloc o).heap[w.heap.size]?=some o:=heap_alloc_new w o
theorem ve {F:aJ}{L:Loc}{w:World}(c:St F L w):F w.heap.size=none/\¬L.owns w.heap.size:=by
 refine⟨?_,fun h=>?_⟩
 ·cases h:F w.heap.size with
  | none=>rfl
  | some _=>have:=c.acs (b:=w.heap.size) (by rw[h];simp);omega
 ·have:=c.acz h;omega
theorem St.alloc (c:St F L w) (o:Obj):St F L (w.alloc o):=c.keep fun b hb=>Below.heap_alloc w o b hb
theorem uf (n:St F L w) {k:Nat}(m:L.get k=none) {ob:Obj}{e:Own}(hb:e.blk=some w.heap.size) (d:e.ok (w.alloc ob)) :
  St F (L.set k e) (w.alloc ob)/\Step F L w F (L.set k e) (w.alloc ob) /\
   (∀j g ty xs,L.get j=some (.box g ty xs)->∃cs',(L.set k e).get j=some (.box g ty cs')):=by
 obtain⟨r,p⟩:=ve n;refine⟨(n.alloc _).put m d fun g c=>?_,?_,fun j g ty xs l=>?_⟩
 ·rw[hb] at c;injection c with c;subst c;exact⟨r,p⟩
 ·refine Step.mk' (aJ.le_refl F) (World.grownBy_alloc w _ none) (fun b hb=>.inl hb) fun b q=>?_;rcases Loc.abl q with h | h
  ·rw[hb] at h;injection h with h;exact .inr (by omega)
  ·exact .inl h
 ·rw[Loc.aa4];split
  ·rename_i f;subst f;rw[m] at l;cases l
  ·exact⟨xs,l⟩
theorem lS (d:St F L w) {k:Nat}(c:L.get k=none) {cs:Array Value}{t:TypeId}{e:Own}(hb:e.blk=some w.heap.size) (b:e.ok (w.alloc (.cells cs t))) :
  St F (L.set k e) (w.alloc (.cells cs t))/\Step F L w F (L.set k e) (w.alloc (.cells cs t)) /\
   (∀j g ty xs,L.get j=some (.box g ty xs)->∃cs',(L.set k e).get j=some (.box g ty cs')):=uf d c hb b
theorem TR {y:Operand}{x:X}{t:TypeId}(p:St F L w) (h:aN L ρ a) (m:∀k,o.dst=some k->k<a.tmps.size)
  (n:o.op=.box t y) (s:cQ y=some x) (d:t≠0) (c:evalOp P (.box t x) o.dst F L ρ K):o.wp P a w (bX F L w a K) Q:=by
 simp only[evalOp,aV] at c;split at c
 case h_2=>exact c.elim
 rename_i _ k f;split at c
 case h_2=>exact c.elim
 rename_i _ l;have c:=c w.heap.size;have b:(Value.cells (a.eval y)).toList=aZ (val L ρ x):=by
  rw[aX s h];cases val L ρ x<;>rfl
 obtain⟨q,j,r⟩:=lS p l (cs:=(a.eval y).cells) (t:=t) (e:=.box w.heap.size t (aZ (val L ρ x))) rfl
  (by show _=_;rw[kP,ja d,<-b])
 refine jY h m (v:=.pointer (some ⟨w.heap.size,0,none⟩)) (x:=.own k 0) ?_ q j ?_ ?_ (fun _ _ e=>by cases e) r c
 ·simp[execOp,n,Instr.box,newVar,newRow]
 ·simp only[conc,Loc.aa4,adk]
 ·rintro u off e;injection e with e1 e2
  subst e1;exact⟨_,_,_,by rw[Loc.aa4,o6 rfl]⟩
theorem KD {t:TypeId}{i:TypeInfo}{zs:List Value}(p:St F L w) (s:aN L ρ a) (m:∀k,o.dst=some k->k<a.tmps.size)
  (n:o.op=.alloc t) (hi:P.info? t=some i) (c:V8 i=some zs) (d:t≠0) (b:evalOp P (.alloc t zs) o.dst F L ρ K):o.wp P a w (bX F L w a K) Q:=by
 simp only[evalOp,aV] at b;split at b
 case h_2=>exact b.elim
 rename_i _ k h;split at b
 case h_2=>exact b.elim
 rename_i _ l;have b:=b w.heap.size;unfold V8 at c;split at c
 case h_2=>cases c
 rename_i z f;injection c with c
 obtain⟨q,j,r⟩:=lS p l (cs:=z.cells) (t:=t) (e:=.box w.heap.size t zs) rfl
  (by show _=_;rw[kP,ja d,<-c])
 refine jY s m (v:=.pointer (some ⟨w.heap.size,0,none⟩)) (x:=.own k 0) ?_ q j ?_ ?_ (fun _ _ e=>by cases e) r b
 ·simp[execOp,n,Instr.alloc,zeroValue,typeInfo,hi,f,newVar,newRow]
 ·simp only[conc,Loc.aa4,adk]
 ·rintro u off e;injection e with e1 e2
  subst e1;exact⟨_,_,_,by rw[Loc.aa4,o6 rfl]⟩
theorem xZ {t:TypeId}{l:List Value}{n:Nat}(h:kN t l n=true):t≠0:=by
 rintro rfl;simp[kN] at h
theorem CG {t:TypeId}{l:List Value}{n:Nat}(h:kN t l n=true):iV l n=true:=by
 unfold kN at h;split at h
 ·cases h
 ·exact h
theorem iM {t:TypeId}{l:List Value}{n:Nat}(h:t≠0) (b:iV l n=true):kN t l n=true:=by
 unfold kN;split
 ·rename_i e;exact s6 (vz e) h
 ·exact b
theorem jZ:∀{l:List Value}{n:Nat},iV l n=true->l.length=n
 | [],0,_=>rfl
 | _::l,n+1,h=>by simp only[iV] at h;simp[jZ h]
 | [],_+1,h=>by simp[iV] at h
 | _::_,0,h=>by simp[iV] at h
theorem ji {cs vs:List Value}{off:Nat}(h:off+vs.length<=cs.length) (n:Nat) :
  (bq cs off vs)[n]?=if n<off then cs[n]? else if n<off+vs.length then vs[n-off]? else cs[n]?:=by
 unfold bq;have d:(cs.take off).length=off:=by simp;omega
 by_cases b:n<off
 ·rw[o6 b,acM,acY (by omega),List.getElem?_take_of_lt b]
 ·rw[s8 b]
  by_cases c:n<off+vs.length
  ·rw[o6 c,acM,ac7 (by omega),acY (by omega),d]
  ·rw[s8 c,acM,ac7 (by omega),ac7 (by omega),d,adj];congr 1;omega
theorem OB (vs:List Value):∀(off j:Nat) (cells:Array Value),off+j+vs.length<=cells.size ->
  ((vs.zipIdx j).foldl (fun cs (c,j)=>cs.setIfInBounds (off+j) c) cells).toList=bq cells.toList (off+j) vs:=by
 induction vs with
 | nil=>intro off j cells h;simp[bq]
 | cons v vs f =>
  intro off j cells h;simp only[List.zipIdx_cons,List.foldl_cons,xo] at h ⊢;have:=f off (j+1) (cells.setIfInBounds (off+j) v) (by simp;omega);rw[this];apply adt;intro n;rw[ji (by simp;omega),ji (by simp;omega)];simp only[Array.toList_setIfInBounds,xo]
  by_cases e:n=off+j
  ·subst e;rw[o6 (by omega),s8 (by omega),o6 (by omega),List.getElem?_set_self (by simp;omega)];simp
  ·by_cases b:n<off+j
   ·rw[o6 (by omega),o6 b,adM (by omega)]
   ·by_cases d:n<off+(j+1)+vs.length
    ·rw[s8 (by omega),o6 d,s8 b,o6 (by omega),show n-(off+j)=(n-(off+(j+1)))+1 by omega,ady]
    ·rw[s8 (by omega),s8 d,s8 b,s8 (by omega),adM (by omega)]
theorem Ea (vs:Array Value) (off:Nat) (cells:Array Value) (h:off+vs.size<=cells.size) :
  (vs.zipIdx.foldl (fun cs (x:Value×Nat)=>cs.setIfInBounds (off+x.2) x.1) cells).toList=bq cells.toList off vs.toList:=by
 have:=OB vs.toList off 0 cells (by simpa using h);rw[Nat.add_zero] at this;rw[<-this];congr 1;rw[<-Array.foldl_toList,Array.toList_zipIdx]
theorem gu (cs:List Value) (off:Nat) (vs:List Value) (h:off+vs.length<=cs.length):(bq cs off vs).length=cs.length:=by
 simp[bq];omega
theorem pG (v:Value):aZ v=v.cells.toList:=by cases v<;>rfl
theorem Gd (sz n:Nat):∀(vs:List Value) (k:Nat) (cells:Array Value),cells.size=n*sz->k+vs.length=n->(∀v∈vs,v.cells.size=sz) ->
  ∃out,Instr.fill (fun i=>some (i*sz,sz)) cells ((List.range' k vs.length).zip vs)=some out /\
   out.toList=cells.toList.take (k*sz)++(vs.map (fun v=>v.cells.toList)).flatten:=by
 intro vs
 induction vs with
 | nil =>
  intro k cells h d e;refine⟨cells,by simp[Instr.fill],?_⟩;simp at d ⊢;subst d;rw[adv (by simp;omega)]
 | cons v vs m =>
  intro k cells h d e;have f:=e v (by simp);have q:k*sz+sz<=n*sz:=by
   rw[<-Nat.succ_mul];exact Nat.mul_le_mul_right _ (by simp at d;omega)
  simp only[xo,List.range'_succ,List.zip_cons_cons,Instr.fill];rw[s8 (by simp[f];omega)];have b:=Ea v.cells (k*sz) cells (by omega);have c:(v.cells.zipIdx.foldl (fun cs (x:Value×Nat)=>cs.setIfInBounds (k*sz+x.2) x.1) cells).size=n*sz:=by
   rw[<-Array.length_toList,b,gu _ _ _ (by simp;omega)];simpa using h
  obtain⟨out,l,p⟩:=m (k+1) _ c (by simp at d;omega) (fun u r=>e u (by simp[r]));refine⟨out,l,?_⟩;rw[p,b];simp only[bq,acU,List.flatten_cons,<-acM];congr 1;rw[Nat.succ_mul];have j:v.cells.toList.length=sz:=by simpa using f
  apply adt;intro i
  by_cases t:i<k*sz
  ·rw[List.getElem?_take_of_lt (by omega),acM,acY (by simp;omega),acY (by simp;omega)]
  ·by_cases s:i<k*sz+sz
   ·rw[List.getElem?_take_of_lt (by omega),acM,ac7 (by simp;omega),acY (by simp;omega),ac7 (by simp;omega)]
   ·rw[ac3 (by simp;omega),ac3 (by simp;omega)]
end
section
variable {P:Program}{F:aJ}{L:Loc}{ρ:Env}{a:Act}{w:World}{K:dP}{o:Oper}{Q:Exit->Act->World->Prop}
theorem yZ (L:Loc) (ρ:Env):∀xs:List X,cellsOf L ρ xs=((bQ L ρ xs).map fun v=>v.cells.toList).flatten
 | []=>rfl
 | x::xs=>by simp only[cellsOf,bQ,acU,List.flatten_cons,yZ L ρ xs,pG]
theorem Bu {L:Loc}{ρ:Env}{sz:Nat}:∀{xs:List X},gD L ρ sz xs=true->∀v∈bQ L ρ xs,v.cells.size=sz
 | [],_,v,b=>by cases b
 | x::xs,h,v,b=>by
  simp only[gD] at h;split at h
  ·rename_i c;simp only[bQ,acQ] at b;rcases b with rfl | b
   ·have:=jZ c;rw[pG] at this;simpa using this
   ·exact Bu h v b
  ·cases h
theorem nD (L:Loc) (ρ:Env):∀xs:List X,(bQ L ρ xs).length=xs.length
 | []=>rfl
 | _::xs=>by simp[bQ,nD L ρ xs]
theorem rz {L:Loc}{ρ:Env}{sz:Nat}:∀{xs:List X},gD L ρ sz xs=true->(cellsOf L ρ xs).length=xs.length*sz
 | [],_=>by simp[cellsOf]
 | x::xs,h=>by
  simp only[gD] at h;split at h
  ·rename_i b;have:=jZ b;simp only[cellsOf,yo,this,rz h,xo,Nat.succ_mul];omega
  ·cases h
theorem Ge {ps:List (Nat×Operand)}{f:Operand->Value}{n:Nat}(h:ps.map (·.1)=List.range n) :
  ps.map (fun p=>(p.1,f p.2))=(List.range' 0 ps.length).zip ((ps.map (·.2)).map f):=by
 have b:ps.length=n:=by have:=j3 List.length h;simpa using this
 rw[b,<-List.range_eq_range',<-h]
 clear h b
 induction ps with
 | nil=>rfl
 | cons p ps c=>simp[c]
theorem rA {t e n:Nat}{ps:Array (Nat×Operand)}{i:TypeInfo}{z:Value}{xs:List X}(y:P.underlying t=some (.slice e)) (hi:P.info? e=some i) (v:i.zero=some z)
  (hx:iw (ps.toList.map (·.2))=some xs) (p:ps.toList.map (·.1)=List.range n) (hb:n*i.size<=2 ^ 24) (hp:gD L ρ i.size xs=true) (he:aN L ρ a) :
  (Instr.buildSlice t n (ps.map fun(j,x)=>(j,a.eval x))).run P w=.ok (.slice (some ⟨w.heap.size,0,none⟩) n n) (w.alloc (.cells (cellsOf L ρ xs).toArray e))/\xs.length=n:=by
 have l:=gG hx he;have d:xs.length=n:=by
  have k:=j3 List.length l;have m:=j3 List.length p;simp only[ac1,nD,List.length_range] at k m;omega
 have s:ps.toList.length=n:=by have:=j3 List.length p;simpa using this
 have b:(ps.map fun(x:Nat×Operand)=>(x.1,a.eval x.2)).toList=(List.range' 0 (bQ L ρ xs).length).zip (bQ L ρ xs):=by
  rw[Array.toList_map,Ge p,l,nD,d,s]
 have h:=fun(cells:Array Value) (hc:cells.size=n*i.size)=>Gd i.size n (bQ L ρ xs) 0 cells hc (by rw[nD];omega) (Bu hp);refine⟨?_,d⟩;have q:∀zero:Array Value,((Array.range (n*i.size)).map (zero[· % zero.size]!)).size=n*i.size:=fun _=>by simp
 obtain⟨out,k,m⟩:=h ((Array.range (n*i.size)).map ((if n*i.size=0 then #[] else z.cells)[· % (if n*i.size=0 then #[] else z.cells).size]!)) (q _);have c:out=(cellsOf L ρ xs).toArray:=by
  apply Array.ext';rw[m,yZ];simp
 have r:¬(n*i.size>2 ^ 24):=by omega
 unfold Instr.buildSlice;simp only[Sem.run_bind,run_underlying y,Result.andThen_ok,sizeOf,typeInfo,hi,run_program,Sem.run_pure,s8 r,zeroValue,v]
 by_cases u:n*i.size=0
 ·simp only[u,adk] at k ⊢
  try simp only[Sem.run_pure,Result.andThen_ok]
  rw[b];have f:=k;simp only[f,c,newRow,Sem.run_bind,run_newObj,Result.andThen_ok,Sem.run_pure];rfl
 ·simp only[u,adz] at k ⊢;simp only[Sem.run_bind,hi,v,run_program,Sem.run_pure,Result.andThen_ok];rw[b];have f:=k;simp only[f,c,newRow,Sem.run_bind,run_newObj,Result.andThen_ok,Sem.run_pure];rfl
theorem OC {t:TypeId}{y:Operand}{x:X}(j:St F L w) (n:aN L ρ a) (p:∀k,o.dst=some k->k<a.tmps.size)
  (q:o.op=.box t y) (r:cQ y=some x) (m:evalOp P (.boxF t x) o.dst F L ρ K):o.wp P a w (bX F L w a K) Q:=by
 simp only[evalOp] at m;have c:(a.eval y).cells=(aZ (val L ρ x)).toArray:=by
  apply Array.ext';rw[aX r n];cases val L ρ x<;>rfl
 have d:=kP w (.cells (aZ (val L ρ x)).toArray t);obtain⟨s,f⟩:=ve j;have l:=(j.alloc (.cells (aZ (val L ρ x)).toArray t)).freeze d f;have e:=aJ.abY (j.alloc (.cells (aZ (val L ρ x)).toArray t)) d;refine jY n p (v:=.pointer (some ⟨w.heap.size,0,none⟩)) (x:=.v (.pointer (some ⟨w.heap.size,0,none⟩))) ?_ l (Step.mk' e (World.grownBy_alloc w _ none) ?_ fun b h=>.inl h) rfl dA fS (u9 L) (m w.heap.size _ e (by simp))
 ·simp[execOp,q,Instr.box,newVar,newRow,c]
 ·intro b hb
  by_cases h:b=w.heap.size
  ·exact .inr (.inr (by omega))
  ·simp only[s8 h] at hb;exact .inl hb
theorem TT {t e n:Nat}{ps:Array (Nat×Operand)}{i:TypeInfo}{z:Value}{xs:List X}(p:St F L w) (r:aN L ρ a) (u:∀k,o.dst=some k->k<a.tmps.size)
  (ho:o.op=.buildSlice t n ps) (s:P.underlying t=some (.slice e)) (hi:P.info? e=some i) (hz:i.zero=some z)
  (hx:iw (ps.toList.map (·.2))=some xs) (y:ps.toList.map (·.1)=List.range n) (hb:n*i.size<=2 ^ 24) (j:evalOp P (.mkF e n i.size xs) o.dst F L ρ K):o.wp P a w (bX F L w a K) Q:=by
 simp only[evalOp,aV] at j;split at j
 case h_2=>exact j.elim
 rename_i hp;obtain⟨d,q⟩:=rA (w:=w) s hi hz hx y hb hp r;have c:=kP w (.cells (cellsOf L ρ xs).toArray e);obtain⟨hf,l⟩:=ve p;have m:=(p.alloc (.cells (cellsOf L ρ xs).toArray e)).freeze c l;have f:=aJ.abY (p.alloc (.cells (cellsOf L ρ xs).toArray e)) c;refine jY r u (v:=.slice (some ⟨w.heap.size,0,none⟩) n n) (x:=.v (.slice (some ⟨w.heap.size,0,none⟩) n n)) ?_ m (Step.mk' f (World.grownBy_alloc w _ none) ?_ fun b h=>.inl h) rfl dA fS (u9 L) (j w.heap.size _ f (by simp))
 ·simp only[execOp,ho,Sem.run_bind,d,Result.andThen_ok,Sem.run_pure]
 ·intro b hb
  by_cases h:b=w.heap.size
  ·exact .inr (.inr (by omega))
  ·simp only[s8 h] at hb;exact .inl hb
theorem nE (w:World) (cs:List Value) (e:TypeId) (n sz:Nat) (c:n<=maxLen) (b:cs.length=n*sz) :
  (w.alloc (.cells cs.toArray e)).ownsRow 0 e sz (.slice (some ⟨w.heap.size,0,none⟩) n n) n cs :=
 ⟨b,.inr ⟨w.heap.size,n,cs.toArray,rfl,adg _,kP w _,ac4 _,c,by simpa using b,by simp[<-b]⟩⟩
theorem TU {t e n:Nat}{ps:Array (Nat×Operand)}{i:TypeInfo}{z:Value}{xs:List X}(y:St F L w) (l:aN L ρ a) (r:∀k,o.dst=some k->k<a.tmps.size)
  (u:o.op=.buildSlice t n ps) (q:P.underlying t=some (.slice e)) (hi:P.info? e=some i) (hz:i.zero=some z)
  (hx:iw (ps.toList.map (·.2))=some xs) (s:ps.toList.map (·.1)=List.range n) (hb:n*i.size<=2 ^ 24) (hn:n<=2 ^ 24) (b:evalOp P (.mkR e n i.size xs) o.dst F L ρ K):o.wp P a w (bX F L w a K) Q:=by
 simp only[evalOp,aV] at b;split at b
 case h_2=>exact b.elim
 rename_i _ _ k h j;split at b
 case h_2=>exact b.elim
 rename_i _ p;obtain⟨f,c⟩:=rA (w:=w) q hi hz hx s hb h l;have d:=nE w (cellsOf L ρ xs) e n i.size (by simp only[maxLen];omega) (by rw[rz h,c]);obtain⟨h1,m,h3⟩:=lS y p (cs:=(cellsOf L ρ xs).toArray) (t:=e) (e:=.row (.slice (some ⟨w.heap.size,0,none⟩) n n) e i.size n (cellsOf L ρ xs)) rfl d;refine jY l r (v:=.slice (some ⟨w.heap.size,0,none⟩) n n) (x:=.v (.slice (some ⟨w.heap.size,0,none⟩) n n)) ?_ h1 m rfl dA fS h3 (b w.heap.size);simp only[execOp,u,Sem.run_bind,f,Result.andThen_ok,Sem.run_pure]
def placeOf (P:Program) (f:Field):Nat×Nat:=(f.offset,P.cellsOf f.type)
def y9 (f:Field):Sem (Nat×Nat):=do pure (f.offset,<-sizeOf f.type)
theorem AU {fs:Array Field}:∀{ps:List (Nat×Operand)}{l:List (Nat×Nat×X)},pF P fs ps=some l->∀{cells:Array Value}{cs:List Value}(r:Array (Nat×Nat)),aN L ρ a ->
  (∀(j:Nat) (f:Field) (i:TypeInfo),fs[j]?=some f->P.info? f.type=some i->r[j]?=some (f.offset,i.size)) ->
  built L ρ cells.toList l=some cs->(∀off n x,(off,n,x)∈l->off+n<=cells.size) ->
  ∃out,Instr.fill (r[·]?) cells (ps.map fun p=>(p.1,a.eval p.2))=some out/\out.toList=cs:=by
 intro ps
 induction ps with
 | nil =>
  intro l h cells cs r u k hb e;simp only[pF,w7] at h;subst h;simp only[built,w7] at hb;exact⟨cells,rfl,hb⟩
 | cons p ps z =>
  intro l h cells cs r u k hb e;obtain⟨j,y⟩:=p;simp only[pF] at h;split at h
  case h_2=>cases h
  rename_i f x l' hf hx t;split at h
  case h_2=>cases h
  rename_i i hi;injection h with h
  subst h;simp only[built] at hb;split at hb
  case h_2=>cases hb
  rename_i b;have b:=jZ b;have m:=e f.offset i.size x (by simp);have q:=aX hx u;simp only[acU,Instr.fill,k j f i hf hi];have s:(a.eval y).cells.size=i.size:=by rw[q];rw[pG] at b;simpa using b
  rw[s8 (by simp[s];omega)];have c:=Ea (a.eval y).cells f.offset cells (by omega);have d:(a.eval y).cells.toList=aZ (val L ρ x):=by rw[q,pG]
  rw[d] at c;refine z t r u k (cs:=cs) ?_ ?_
  ·rw[c];exact hb
  ·intro off n v hm;rw[<-Array.length_toList,c,gu _ _ _ (by rw[b];simpa using m)];simpa using e off n v (by simp[hm])
theorem xL (P:Program) (w:World):∀(fs:List Field),(∀f:Field,f∈fs->(P.info? f.type).isSome=true) ->
  (fs.mapM y9).run P w=.ok (fs.map (placeOf P)) w:=by
 intro fs
 induction fs with
 | nil=>intro _;simp
 | cons f fs c =>
  intro h;have b:=h f (by simp);obtain⟨i,hi⟩:=Option.isSome_iff_exists.1 b;simp only[List.mapM_cons,y9,Sem.run_bind,sizeOf,typeInfo,run_program,Result.andThen_ok,hi,Sem.run_pure];rw[c (fun g d=>h g (by simp[d]))];simp[placeOf,Program.cellsOf,hi]
theorem KE {t:Nat}{ps:Array (Nat×Operand)}{fs:Array Field}{i:TypeInfo}{zs:List Value}{l:List (Nat×Nat×X)}(hs:St F L w) (he:aN L ρ a) (hd:∀k,o.dst=some k->k<a.tmps.size)
  (ho:o.op=.build t ps) (ht:P.underlying t=some (.struct fs)) (hi:P.info? t=some i) (b:V8 i=some zs) (hl:pF P fs ps.toList=some l) (e:∀f:Field,f∈fs.toList->(P.info? f.type).isSome=true)
  (q:∀off n x,(off,n,x)∈l->off+n<=zs.length) (h:evalOp P (.build zs l) o.dst F L ρ K):o.wp P a w (bX F L w a K) Q:=by
 simp only[evalOp,aV] at h;split at h
 case h_2=>exact h.elim
 rename_i cs y;unfold V8 at b;split at b
 case h_2=>cases b
 rename_i z r;injection b with b
 have u:∀(j:Nat) (f:Field) (i:TypeInfo),fs[j]?=some f->P.info? f.type=some i->(fs.map (placeOf P))[j]?=some (f.offset,i.size):=by
  intro j f i s m;simp[s,placeOf,Program.cellsOf,m]
 obtain⟨out,s,m⟩:=AU (a:=a) (cells:=z.cells) (cs:=cs) hl _ he u (by rw[b];exact y) (by intro off n x hm;have:=q off n x hm;rw[<-b] at this;simpa using this);have c:out=cs.toArray:=by apply Array.ext';simpa using m
 have d:(fs.mapM y9).run P w=.ok (fs.map (placeOf P)) w:=by
  rw[Array.mapM_eq_mapM_toList,Sem.run_map,xL P w _ e];simp only[Result.andThen_ok];congr 1;exact Array.ext' (by simp)
 refine cT hs he hd (v:=.agg cs.toArray) (x:=.v (.agg cs.toArray)) ?_ rfl dA fS h;simp only[execOp,ho,Instr.build,Sem.run_bind,zeroValue,typeInfo,run_program,Result.andThen_ok,hi,Sem.run_pure,r,run_underlying ht];rw[show(fs.mapM fun(f:Field)=>(do pure (f.offset,<-sizeOf f.type):Sem (Nat×Nat))).run P w=.ok (fs.map (placeOf P)) w from d];simp only[Result.andThen_ok];rw[show(ps.map fun(x:Nat×Operand)=>(x.1,a.eval x.2)).toList=ps.toList.map (fun p=>(p.1,a.eval p.2)) by simp,s,c];simp
theorem Bv {t:Nat}{d:TypeDesc}(b:P.underlying t=some d):(isAgg t).run P w=.ok (gV d) w:=by
 unfold isAgg;simp only[Sem.run_bind,run_underlying b,Result.andThen_ok];cases d<;>rfl
theorem ug {t:Nat}{d:TypeDesc}{i:TypeInfo}(k:P.underlying t=some d) (hi:P.info? t=some i) {c:Addr}{cs:List Value}{n:Nat}
  (f:∀j v,cs[j]?=some v->w.cell? (c.add j)=some v) (b:cs.length=n) (e:n=match gV d with | true=>i.size | false=>1) :
  (Instr.loadAt t (.pointer (some c))).run P w=.ok (jI (gV d) cs) w:=by
 simp only[Instr.loadAt,Instr.sureAddr,Sem.run_bind,Sem.run_pure,Result.andThen_ok,loadVar,Bv k];cases h:gV d with
 | true =>
  simp only[h] at e;simp only[adk,Sem.run_bind,sizeOf,typeInfo,run_program,Result.andThen_ok,hi,Sem.run_pure];rw[<-e,<-b,run_loadCells_list w c cs f];rfl
 | false =>
  simp only[h] at e;subst e
  match cs,b with
  | [v],_ =>
   have:=f 0 v (by simp);rw[show c.add 0=c by simp[Addr.add]] at this;simp[run_load,this,jI]
theorem oI {g:Nat}{t:TypeId}{cs:List Value}(b:t≠0) (h:Own.ok w (.box g t cs)) (n:Nat):w.cell? ⟨g,n,none⟩=cs[n]?:=by
 simp only[Own.ok,ja b] at h;simp[World.cell?,h]
theorem OD {t:Nat}{y:Operand}{x:X}{d:TypeDesc}{i:TypeInfo}{n:Nat}(hs:St F L w) (he:aN L ρ a) (hd:∀k,o.dst=some k->k<a.tmps.size)
  (ho:o.op=.load t y) (ht:P.underlying t=some d) (hi:P.info? t=some i) (hx:cQ y=some x) (hn:n=match gV d with | true=>i.size | false=>1)
  (q:evalOp P (.load (gV d) n x) o.dst F L ρ K):o.wp P a w (bX F L w a K) Q:=by
 have ec:=aX hx he;have aa:∀(p:Option Addr) (j:Nat),p≠none->(kM F L p j n fun cs=>K F L (put o.dst (.v (jI (gV d) cs)) ρ))->a.eval y=conc L (.el p j)->o.wp P a w (bX F L w a K) Q:=by
  rintro p j aw ⟨cs,r,hc,q⟩ hy;cases p with
  | none=>exact s6 rfl aw
  | some p =>
   have f:∀i v,cs[i]?=some v->w.cell? ((p.add j).add i)=some v:=by
    rcases hc with hc | ⟨k,v,t',sz,m,xs,az,c,hk,z,e2,hc⟩ | ar | ⟨k,g,t',bs,o',hk,ac,z,hc⟩
    ·obtain⟨az,e,al,ay⟩:=hc.cell hs;injection e with e
     subst e;intro i v hv;obtain⟨b,o',sp⟩:=p;simp only at al;subst al;rw[cZ,cZ,Nat.add_assoc,<-cZ];exact ay i v hv
    ·injection z with z
     subst z;have s:=hs.own k _ hk;simp only[Own.ok] at s;subst e2;intro i u hu;have hb:=hc i u hu;have h0:=World.ownsRow.cells s (g:=p.block) rfl (j+i) u hb;rcases s.2 with⟨e,_⟩ | ⟨g,cap,bk,e,_⟩
     ·cases e
     ·injection e with z e2 e3
      injection z with z
      subst z;rw[cZ,cZ];rw[cZ] at h0;simpa[Nat.add_assoc] using h0
    ·intro i v hv;rw[ar] at r;have:cs=[]:=ade r;subst this;simp at hv
    ·injection z with z
     subst z;intro i u hu;rw[cZ,cZ,oI ac (hs.own k _ hk)];exact hc i u hu
   refine cT hs he hd (v:=jI (gV d) cs) (x:=.v (jI (gV d) cs)) ?_ rfl dA fS q;simp only[execOp,ho,hy,conc,Sem.run_bind,ug ht hi f r hn,Result.andThen_ok,Sem.run_pure]
 simp only[evalOp,aV] at q;split at q
 ·rename_i k off l;split at q
  case h_2=>exact q.elim
  rename_i g ty cs hk;split at q
  case h_2=>exact q.elim
  rename_i hl;have ac:=xZ hl;have hl:=jZ (CG hl);have am:=hs.own k _ hk;have f:∀j v,((cs.drop off).take n)[j]?=some v->w.cell? ((⟨g,off,none⟩:Addr).add j)=some v:=by
   intro j v hv;rw[cZ,oI ac am];have hj:j<n:=by
    have:=acP.1 hv;obtain⟨h,_⟩:=this;omega
   rw[List.getElem?_take_of_lt hj,adj] at hv;exact hv
  refine cT hs he hd (v:=jI (gV d) ((cs.drop off).take n)) (x:=.v (jI (gV d) ((cs.drop off).take n))) ?_ rfl dA fS q;have hy:a.eval y=.pointer (some ⟨g,off,none⟩):=by rw[ec];simp only[val,l,conc,hk]
  simp only[execOp,ho,hy,Sem.run_bind,ug ht hi f hl hn,Result.andThen_ok,Sem.run_pure]
 ·rename_i p j l;exact aa p j (sM hx he l) q (by rw[ec];simp only[val,l])
 ·rename_i p l;refine aa (some p) 0 (by simp) q ?_;rw[ec];simp only[val,l,conc];simp[Addr.add]
 ·exact q.elim
end
section
variable {P:Program}{F:aJ}{L:Loc}{ρ:Env}{a:Act}{w:World}{K:dP}{o:Oper}{Q:Exit->Act->World->Prop}
theorem Bw {k b:IntKind}(h:rq k b=true):k=b:=by cases k<;>cases b<;>first | rfl | cases h
theorem uh {op:BinOp}{t:TypeId}{x y:Operand}{u v:Value}(h:∀c,u≠.agg c) (b:u≠.nilIface):(eqGuard op t x y u v).run P w=.ok () w:=by
 have key:(eqGuard op t x y u v).run P w=.ok () w\/True:=.inr trivial;unfold eqGuard;cases op<;>simp only[Bool.not_true,Bool.not_false,adk,acZ,adz]<;>first
  | rfl
  | (cases u<;>first | rfl | exact s6 rfl (h _) | exact s6 rfl b)
theorem toList_data (s:ByteArray):s.toList=s.data.toList:=ByteArray.toList_eq s
theorem x9 (x y:List UInt8):(x == y)=decide (x=y):=by rw[Bool.eq_iff_iff];simp
theorem TV {t t':TypeId}{op:BinOp}{y z:Operand}{q z':X}(hs:St F L w) (he:aN L ρ a) (hd:∀k,o.dst=some k->k<a.tmps.size)
  (ho:o.op=.binOp op t y z t') (hy:cQ y=some q) (hz:cQ z=some z') (d:evalOp P (.bin op q z') o.dst F L ρ K):o.wp P a w (bX F L w a K) Q:=by
 have ey:=aX hy he;have ez:=aX hz he;have fin:∀v,(binOp op t (val L ρ q) (val L ρ z')).run P w=.ok v w->(∀c,val L ρ q≠.agg c)->val L ρ q≠.nilIface->K F L (put o.dst (.v v) ρ)->o.wp P a w (bX F L w a K) Q:=by
  intro v hr r h2 d;refine cT hs he hd (v:=v) (x:=.v v) ?_ rfl dA fS d;simp only[execOp,ho,ey,ez,Sem.run_bind,uh r h2,Result.andThen_ok,hr,Sem.run_pure]
 simp only[evalOp,aV] at d;split at d
 ·rename_i k n k' m j h;have b:=dc (L:=L) j;have e:=dc (L:=L) h;split at d
  ·rename_i l;have p:op=.shl\/op=.shr:=by cases op<;>simp_all [Ky]
   have r:(binOp op t (.int k n) (.int k' m)).run P w=(Op.shift op k n k' m).run P w:=by rcases p with rfl | rfl<;>rfl
   rcases p with rfl | rfl
   ·obtain⟨hm,⟨d⟩⟩:=d;refine fin _ ?_ (by rw[b];simp) (by rw[b];simp) d;rw[b,e,r];simp[Op.shift,show¬m<0 by omega]
   ·obtain⟨hm,d⟩:=d;refine fin _ ?_ (by rw[b];simp) (by rw[b];simp) d;rw[b,e,r];simp[Op.shift,show¬m<0 by omega]
  ·rename_i l;split at d
   case h_2=>exact d.elim
   rename_i hk;have hk:=Bw hk;subst hk;cases op<;>simp only[binI] at d<;>first | (cases l;done) | skip
   ·obtain⟨d⟩:=d;exact fin _ (by rw[b,e];simp[binOp,Op.intArith]) (by rw[b];simp) (by rw[b];simp) d
   ·obtain⟨d⟩:=d;exact fin _ (by rw[b,e];simp[binOp,Op.intArith]) (by rw[b];simp) (by rw[b];simp) d
   ·obtain⟨d⟩:=d;exact fin _ (by rw[b,e];simp[binOp,Op.intArith]) (by rw[b];simp) (by rw[b];simp) d
   ·obtain⟨f,⟨d⟩⟩:=d;exact fin _ (by rw[b,e];simp[binOp,Op.intDiv,f]) (by rw[b];simp) (by rw[b];simp) d
   ·obtain⟨f,d⟩:=d;exact fin _ (by rw[b,e];simp[binOp,Op.intDiv,f]) (by rw[b];simp) (by rw[b];simp) d
   ·exact fin _ (by rw[b,e];simp[binOp,Op.intBits]) (by rw[b];simp) (by rw[b];simp) d
   ·exact fin _ (by rw[b,e];simp[binOp,Op.intBits]) (by rw[b];simp) (by rw[b];simp) d
   ·exact fin _ (by rw[b,e];simp[binOp,Op.intBits]) (by rw[b];simp) (by rw[b];simp) d
   ·exact fin _ (by rw[b,e];simp[binOp,Op.intBits]) (by rw[b];simp) (by rw[b];simp) d
   ·exact fin _ (by rw[b,e];simp[binOp,Op.intCmp];rfl) (by rw[b];simp) (by rw[b];simp) d
   ·exact fin _ (by rw[b,e];simp[binOp,Op.intCmp,bne];rfl) (by rw[b];simp) (by rw[b];simp) d
   ·exact fin _ (by rw[b,e];simp[binOp,Op.intCmp]) (by rw[b];simp) (by rw[b];simp) d
   ·exact fin _ (by rw[b,e];simp[binOp,Op.intCmp]) (by rw[b];simp) (by rw[b];simp) d
   ·exact fin _ (by rw[b,e];simp[binOp,Op.intCmp]) (by rw[b];simp) (by rw[b];simp) d
   ·exact fin _ (by rw[b,e];simp[binOp,Op.intCmp]) (by rw[b];simp) (by rw[b];simp) d
 ·rename_i s u j h;have b:=dc (L:=L) j;have e:=dc (L:=L) h;cases op<;>simp only[binS] at d<;>first | exact d.elim | skip
  ·obtain⟨av,d⟩:=d;refine fin _ ?_ (by rw[b];simp) (by rw[b];simp) d;rw[b,e];have:¬(((s.size+u.size:Nat):Int)>IntKind.i64.max):=by omega
   simp only[binOp,Op.stringOp,s8 this];rfl
  ·exact fin _ (by rw[b,e];simp only[binOp,Op.stringOp,toList_data,x9];rfl) (by rw[b];simp) (by rw[b];simp) d
  ·exact fin _ (by rw[b,e];simp only[binOp,Op.stringOp,toList_data,x9];rfl) (by rw[b];simp) (by rw[b];simp) d
  ·exact fin _ (by rw[b,e];simp only[binOp,Op.stringOp,toList_data,x9];rfl) (by rw[b];simp) (by rw[b];simp) d
  ·exact fin _ (by rw[b,e];simp only[binOp,Op.stringOp,toList_data,x9];rfl) (by rw[b];simp) (by rw[b];simp) d
 ·exact d.elim
theorem KF {t t':TypeId}{neg:Bool}{y z:Operand}{s r:X}(hs:St F L w) (h:aN L ρ a) (hd:∀k,o.dst=some k->k<a.tmps.size)
  (p:o.op=.binOp (if neg then .neq else .eql) t y z t') (j:P.underlying t=some .bool) (hy:cQ y=some s) (hz:cQ z=some r) (d:evalOp P (.eqB neg s r) o.dst F L ρ K):o.wp P a w (bX F L w a K) Q:=by
 have l:=aX hy h;have u:=aX hz h;simp only[evalOp,aV] at d;split at d
 case h_2=>exact d.elim
 rename_i b c f e;have q:=dc (L:=L) f;have m:=dc (L:=L) e;refine cT hs h hd (v:=.bool (pA neg (decide (b=c)))) (x:=.v (.bool (pA neg (decide (b=c))))) ?_ rfl dA fS d;have n:∀op:BinOp,(eqGuard op t y z (.bool b) (.bool c)).run P w=.ok () w:=fun op=>uh (by simp) (by simp);have hb:(b == c)=decide (b=c):=by cases b<;>cases c<;>rfl
 cases neg
 ·simp only[execOp,p,l,u,q,m,Sem.run_bind,n,Result.andThen_ok];have:=run_eql_bool (P:=P) w t b c j;rw[hb] at this;simp[this,pA]
 ·simp only[execOp,p,l,u,q,m,Sem.run_bind,n,Result.andThen_ok];have:=run_neq_bool (P:=P) w t b c j;rw[hb] at this;simp[this,pA]
theorem TW {t e:TypeId}(h:P.underlying t=some (.slice e)) (p:Option Addr) (n c n' b:Nat):(Op.equal t (.slice p n c) (.slice none n' b)).run P w=.ok p.isNone w:=by
 have key:∀d:Nat,(Op.equalIn (d+1) t (.slice p n c) (.slice none n' b)).run P w=.ok p.isNone w:=fun d=>by
  cases p<;>simp[Op.equalIn,run_underlying h]
 exact key 9999
theorem KG {t t':TypeId}{neg:Bool}{y z:Operand}{r q:X}(hs:St F L w) (d:aN L ρ a) (hd:∀k,o.dst=some k->k<a.tmps.size)
  (l:o.op=.binOp (if neg then .neq else .eql) t y z t') (hy:cQ y=some r) (hz:cQ z=some q)
  (u v:Value) (b:Bool) (hu:val L ρ r=u) (e:val L ρ q=v) (h1:∀c,u≠.agg c) (h2:u≠.nilIface) (h3:∀k n,u≠.int k n) (p:∀s,u≠.string s) (h5:∀k n,u≠.float k n) (h6:∀k n m,u≠.complex k n m)
  (f:(Op.equal t u v).run P w=.ok b w) (hK:K F L (put o.dst (.v (.bool (pA neg b))) ρ)):o.wp P a w (bX F L w a K) Q:=by
 have h:=aX hy d;have ez:=aX hz d;refine cT hs d hd (v:=.bool (pA neg b)) (x:=.v (.bool (pA neg b))) ?_ rfl dA fS hK;have j:∀op:BinOp,(eqGuard op t y z u v).run P w=.ok () w:=fun op=>uh h1 h2;cases neg
 ·simp only[execOp,l,h,ez,hu,e,Sem.run_bind,j,Result.andThen_ok];have:binOp .eql t u v=(do pure (.bool (<-Op.equal t u v)):Sem Value):=by
   cases u<;>first | rfl | exact s6 rfl (h3 _ _) | exact s6 rfl (p _) | exact s6 rfl (h5 _ _) | exact s6 rfl (h6 _ _ _)
  simp[this,f,pA]
 ·simp only[execOp,l,h,ez,hu,e,Sem.run_bind,j,Result.andThen_ok];have:binOp .neq t u v=(do pure (.bool (!(<-Op.equal t u v))):Sem Value):=by
   cases u<;>first | rfl | exact s6 rfl (h3 _ _) | exact s6 rfl (p _) | exact s6 rfl (h5 _ _) | exact s6 rfl (h6 _ _ _)
  simp[this,f,pA]
theorem KH {t s e:TypeId}{neg:Bool}{y z:Operand}{j h:X}(u:St F L w) (he:aN L ρ a) (m:∀k,o.dst=some k->k<a.tmps.size)
  (r:o.op=.binOp (if neg then .neq else .eql) t y z s) (l:P.underlying t=some (.slice e)) (q:cQ y=some j) (x:cQ z=some h) (b:evalOp P (.eqS neg j h) o.dst F L ρ K):o.wp P a w (bX F L w a K) Q:=by
 simp only[evalOp,aV] at b;split at b
 ·rename_i p n c n' v f d;exact KG u he m r q x (.slice p n c) (.slice none n' v) p.isNone (dc f) (dc d) (by simp) (by simp) (by simp) (by simp) (by simp) (by simp) (TW l _ _ _ _ _) b
 ·exact b.elim
theorem Jq {z:Operand}{b:X}(h:cQ z=some b) (k:yX b=true):z=.const .nilIface:=by
 unfold yX at k;split at k
 ·cases z with
  | const v=>simp only[cQ,w7,X.c.injEq] at h;rw[h]
  | tmp n=>cases h
  | func f=>cases h
  | global g=>cases h
 ·cases k
theorem TY {t:TypeId}{b:Array (String×TypeId)}(h:P.underlying t=some (.interface b)):(Op.equal t .nilIface .nilIface).run P w=.ok true w:=by
 have key:∀d:Nat,(Op.equalIn (d+1) t .nilIface .nilIface).run P w=.ok true w:=fun d=>by
  simp[Op.equalIn,run_underlying h]
 exact key 9999
theorem T9 {t ty:TypeId}{b:Array (String×TypeId)}{u:Value}(h:P.underlying t=some (.interface b)):(Op.equal t (.iface ty u) .nilIface).run P w=.ok false w:=by
 have key:∀d:Nat,(Op.equalIn (d+1) t (.iface ty u) .nilIface).run P w=.ok false w:=fun d=>by
  simp[Op.equalIn,run_underlying h]
 exact key 9999
theorem KI {t t':TypeId}{ms:Array (String×TypeId)}{neg:Bool}{y z:Operand}{j h:X}(hs:St F L w) (l:aN L ρ a) (n:∀k,o.dst=some k->k<a.tmps.size)
  (e:o.op=.binOp (if neg then .neq else .eql) t y z t') (m:P.underlying t=some (.interface ms)) (p:cQ y=some j) (d:cQ z=some h) (hn:yX h=true) (c:evalOp P (.eqN neg j) o.dst F L ρ K):o.wp P a w (bX F L w a K) Q:=by
 have r:=aX p l;obtain rfl:=Jq d hn;simp only[evalOp,aV] at c;split at c
 ·rename_i b;have hu:val L ρ j=.nilIface:=dc b;refine cT hs l n (v:=.bool (pA neg true)) (x:=.v (.bool (pA neg true))) ?_ rfl dA fS c;have s:∀op:BinOp,(eqGuard op t y (.const .nilIface) .nilIface .nilIface).run P w=.ok () w:=fun op=>by
   cases op<;>simp[eqGuard]
  have ez:a.eval (.const .nilIface)=.nilIface:=rfl;have q:=TY (P:=P) (w:=w) m;cases neg
  ·simp only[execOp,e,r,ez,hu,Sem.run_bind,s,Result.andThen_ok];have:binOp .eql t .nilIface .nilIface=(do pure (.bool (<-Op.equal t .nilIface .nilIface)):Sem Value):=rfl;simp[this,q,pA]
  ·simp only[execOp,e,r,ez,hu,Sem.run_bind,s,Result.andThen_ok];have:binOp .neq t .nilIface .nilIface=(do pure (.bool (!(<-Op.equal t .nilIface .nilIface))):Sem Value):=rfl;simp[this,q,pA]
 ·rename_i ty u b;have f:val L ρ h=.nilIface:=by
   simp only[cQ,w7] at d;rw[<-d];rfl
  exact KG hs l n e p d (.iface ty u) .nilIface false (dc b) f (by simp) (by simp) (by simp) (by simp) (by simp) (by simp) (T9 m) c
 ·exact c.elim
theorem Eb {l c:List Value}{b r:Bool}(h:jN [] l c b=some r):l=[]/\c=[]/\r=b:=by
 cases l with
 | cons v l=>simp[jN] at h
 | nil =>
  cases c with
  | cons v l=>simp[jN] at h
  | nil=>simp only[jN,w7] at h;exact⟨rfl,rfl,h.symm⟩
theorem Bx {ks:List Bool}{l c:List Value}{d r:Bool}(h:jN (true::ks) l c d=some r):∃k a e b f,l=.int k a::e/\c=.int k b::f/\jN ks e f (d&&decide (a=b))=some r:=by
 cases l with
 | nil=>simp[jN] at h
 | cons v l =>
  cases c with
  | nil=>cases v<;>simp[jN] at h
  | cons m c =>
   cases v<;>cases m<;>try (simp[jN] at h;done)
   rename_i k a n b;simp only[jN] at h;split at h
   ·rename_i j;have:=Bw j;subst this;exact⟨k,a,l,b,c,rfl,rfl,h⟩
   ·cases h
theorem za {ks:List Bool}{l c:List Value}{d r:Bool}(h:jN (false::ks) l c d=some r):∃a e b f,l=.bool a::e/\c=.bool b::f/\jN ks e f (d&&decide (a=b))=some r:=by
 cases l with
 | nil=>simp[jN] at h
 | cons v l =>
  cases c with
  | nil=>cases v<;>simp[jN] at h
  | cons j c =>
   cases v<;>cases j<;>try (simp[jN] at h;done)
   rename_i a b;simp only[jN] at h;exact⟨a,l,b,c,rfl,rfl,h⟩
theorem Ec (k:IntKind):rq k k=true:=by cases k<;>rfl
theorem KJ:∀{ks:List Bool}{l f:List Value}{d r:Bool},jN ks l f d=some r->∃e,(∀c,jN ks l f c=some (c&&e))/\r=(d&&e):=by
 intro ks
 induction ks with
 | nil =>
  intro l f d r h;obtain⟨rfl,rfl,rfl⟩:=Eb h;exact⟨true,fun c=>by simp[jN],by simp⟩
 | cons k ks p =>
  intro l f d r h;cases k with
  | true =>
   obtain⟨k,a,s,b,q,rfl,rfl,m⟩:=Bx h;obtain⟨e,n,j⟩:=p m;exact⟨decide (a=b)&&e,fun c=>by simp only[jN,Ec,n,Bool.and_assoc],by rw[j,Bool.and_assoc]⟩
  | false =>
   obtain⟨a,s,b,q,rfl,rfl,m⟩:=za h;obtain⟨e,n,j⟩:=p m;exact⟨decide (a=b)&&e,fun c=>by simp only[jN,n,Bool.and_assoc],by rw[j,Bool.and_assoc]⟩
theorem zb {t:TypeId}{d:TypeDesc}(b:P.underlying t=some d) (c:gV d=false) {cs:Array Value}{off:Nat}{v:Value}(h:cs[off]?=some v):(part t cs off).run P w=.ok v w:=by
 simp only[part,Sem.run_bind,Bv b,Result.andThen_ok,c,acZ,adz,h,Sem.run_pure]
theorem vg {d:Nat}{xs ys:Array Value}:∀{fs:List Field}{k:Nat}{ks:List Bool}{b:Bool},qg P fs k=some ks->jN ks (xs.toList.drop k) (ys.toList.drop k) true=some b->(Op.eqFields (d+1) xs ys fs).run P w=.ok b w
 | [],k,ks,b,h,he=>by
  simp only[qg,w7] at h;subst h;obtain⟨_,_,rfl⟩:=Eb he;simp[Op.eqFields]
 | f::fs,k,ks,b,h,he=>by
  have hcons:∀{zs:Array Value}{v:Value}{l:List Value},zs.toList.drop k=v::l->zs[k]?=some v/\zs.toList.drop (k+1)=l:=by
   intro zs v l e;refine⟨?_,?_⟩
   ·have:=j3 (fun q=>q[0]?) e;simp only[adj,Nat.add_zero,ac6] at this;simpa using this
   ·rw[<-List.drop_drop,e];rfl
  have fin:∀{u v:Value}{l l':List Value}{ks':List Bool}{r:Bool}{dd:TypeDesc},P.underlying f.type=some dd->gV dd=false->f.offset=k->f.name≠"_"->xs.toList.drop k=u::l->ys.toList.drop k=v::l'->(Op.equalIn (d+1) f.type u v).run P w=.ok r w ->
    qg P fs (k+1)=some ks'->jN ks' l l' r=some b->(Op.eqFields (d+1) xs ys (f::fs)).run P w=.ok b w:=by
   intro u v l l' ks' r dd hu hag ho hnm e1 e2 heq hfl hev;obtain⟨a1,a2⟩:=hcons e1;obtain⟨b1,b2⟩:=hcons e2;simp only[Op.eqFields];rw[o6 hnm];simp only[Sem.run_bind,ho,zb hu hag a1,zb hu hag b1,Result.andThen_ok,heq];obtain⟨r0,q1,q2⟩:=KJ hev;cases r with
   | false =>
    simp only[adL] at q2;subst q2;simp
   | true =>
    simp only[adH] at q2;subst q2;simp only[Bool.not_true,acZ,adz];exact vg hfl (by rw[a2,b2];simpa using q1 true)
  simp only[qg] at h;split at h
  ·rename_i ki hoff hnm hu;split at h
   case h_2=>cases h
   rename_i ks' hks;injection h with h
   subst h;have hoff:=vz hoff;have hnm:=adq hnm;obtain⟨k1,x,l1,y,l2,e1,e2,he⟩:=Bx he;exact fin hu rfl hoff hnm e1 e2 (run_equalIn_int w d f.type k1 _ x y hu) hks (by rw[show(x == y)=decide (x=y) from rfl];simpa using he)
  ·rename_i hoff hnm hu;split at h
   case h_2=>cases h
   rename_i ks' hks;injection h with h
   subst h;have hoff:=vz hoff;have hnm:=adq hnm;obtain⟨x,l1,y,l2,e1,e2,he⟩:=za he;have hb:(x == y)=decide (x=y):=by cases x<;>cases y<;>rfl
   exact fin hu rfl hoff hnm e1 e2 (run_equalIn_bool' w d f.type x y hu) hks (by rw[hb];simpa using he)
  ·cases h
theorem KL {t t':TypeId}{fs:Array Field}{neg:Bool}{ks:List Bool}{y z:Operand}{y' u:X}(hs:St F L w) (l:aN L ρ a) (hd:∀k,o.dst=some k->k<a.tmps.size)
  (r:o.op=.binOp (if neg then .neq else .eql) t y z t') (m:P.underlying t=some (.struct fs)) (hk:qg P fs.toList 0=some ks) (hp:P.stoodInHeld t=false) (q:P.eqGuardType P.depth t=false) (hy:cQ y=some y') (hz:cQ z=some u)
  (c:evalOp P (.eqA neg ks y' u) o.dst F L ρ K):o.wp P a w (bX F L w a K) Q:=by
 have n:=aX hy l;have ez:=aX hz l;simp only[evalOp,aV] at c;split at c
 case h_2=>exact c.elim
 rename_i cs ds j h;split at c
 case h_2=>exact c.elim
 rename_i b hb;have s:=dc (L:=L) j;have p:=dc (L:=L) h;have e:P.fieldsOf t=fs:=by simp only[Program.fieldsOf,m]
 have f:(Op.equalIn 10000 t (.agg cs) (.agg ds)).run P w=.ok b w:=by
  rw[show(10000:Nat)=9999+1 from rfl,run_equalIn_agg w 9999 t cs ds (by rw[e];exact m) hp,e];exact vg (d:=9998) hk (by simpa using hb)
 refine cT hs l hd (v:=.bool (pA neg b)) (x:=.v (.bool (pA neg b))) ?_ rfl dA fS c;cases neg
 ·simp only[execOp,r,n,ez,s,p,Sem.run_bind,run_eqGuard_agg w _ t y z cs ds q,Result.andThen_ok];simp[run_eql_struct,f,pA]
 ·simp only[execOp,r,n,ez,s,p,Sem.run_bind,run_eqGuard_agg w _ t y z cs ds q,Result.andThen_ok];simp[run_neq_struct,f,pA]
end
section
variable {P:Program}{F:aJ}{L:Loc}{ρ:Env}{a:Act}{w:World}{K:dP}{o:Oper}{Q:Exit->Act->World->Prop}
theorem Wo {t:TypeId}{op:UnOp}{y:Operand}{m:X}(j:St F L w) (e:aN L ρ a) (l:∀k,o.dst=some k->k<a.tmps.size)
  (h:o.op=.unOp op t y) (p:cQ y=some m) (d:evalOp P (.un op m) o.dst F L ρ K):o.wp P a w (bX F L w a K) Q:=by
 have f:=aX p e;simp only[evalOp,aV] at d;split at d
 ·rename_i b c;refine cT j e l (v:=.bool (!b)) (x:=.v (.bool (!b))) ?_ rfl dA fS d;simp[execOp,h,f,dc c,Op.unary]
 ·rename_i k n c;obtain⟨d⟩:=d;refine cT j e l (v:=.int k (k.wrap (0-n))) (x:=.v (.int k (k.wrap (0-n)))) ?_ rfl dA fS d;simp[execOp,h,f,dc c,Op.unary,Op.intArith]
 ·rename_i k n c;refine cT j e l ?_ rfl dA fS d;simp[execOp,h,f,dc c,Op.unary,Op.intBits];rfl
 ·exact d.elim
theorem OE {s t:TypeId}{k q:IntKind}{y:Operand}{e:X}(p:St F L w) (d:aN L ρ a) (r:∀k,o.dst=some k->k<a.tmps.size)
  (m:o.op=.convert s t y) (f:P.underlying s=some (.int q)) (h:P.underlying t=some (.int k)) (j:cQ y=some e) (b:evalOp P (.conv k e) o.dst F L ρ K):o.wp P a w (bX F L w a K) Q:=by
 have l:=aX j d;simp only[evalOp,aV] at b;split at b
 ·rename_i u n c;obtain⟨b⟩:=b;refine cT p d r (v:=.int k (k.wrap n)) (x:=.v (.int k (k.wrap n))) ?_ rfl dA fS b;simp[execOp,m,l,dc c,convert,run_underlying f,run_underlying h,Conv.intToInt]
 ·exact b.elim
theorem Jr (bs:List UInt8):∀s:ByteArray,((bs.map fun b=>(b.toNat:Int)).foldl (fun r n=>r.push (UInt8.ofNat n.toNat)) s).data.toList=s.data.toList++bs:=by
 induction bs with
 | nil=>intro s;simp
 | cons b bs c =>
  intro s;simp only[acU,List.foldl_cons];rw[c];simp[ByteArray.push]
theorem Ua {s t e:TypeId}{y:Operand}{y':X}(hs:St F L w) (he:aN L ρ a) (hd:∀k,o.dst=some k->k<a.tmps.size)
  (ho:o.op=.convert s t y) (h1:P.underlying s=some (.slice e)) (h2:P.underlying t=some .string) (h3:P.underlying e=some (.int .u8)) (hy:cQ y=some y') (hK:evalOp P (.b2s y') o.dst F L ρ K):o.wp P a w (bX F L w a K) Q:=by
 have ey:=aX hy he;simp only[evalOp,aV] at hK;split at hK
 case h_2=>exact hK.elim
 rename_i ad n c am;obtain⟨cs,f,p,⟨bs,rfl,hK⟩⟩:=hK;refine cT hs he hd (v:=.string ⟨bs.toArray⟩) (x:=.v (.string ⟨bs.toArray⟩)) ?_ rfl dA fS hK;simp only[execOp,ho,ey,dc am,Sem.run_bind,run_convert_bytes_string w s t e ad n c h1 h3 h2];cases ad with
 | none =>
  rcases p with p | ⟨_,_,_,_,_,_,_,_,_,e,_⟩ | q | ⟨_,_,_,_,_,_,_,e,_⟩
  ·obtain⟨_,e,_⟩:=p.cell hs;cases e
  ·cases e
  ·rw[q] at f;have:bs=[]:=ade (by simpa using f);subst this;simp[Conv.bytesToString];rfl
  ·cases e
 | some ad =>
  have aa:∀i v,(bs.map fun b=>Value.int .u8 b.toNat)[i]?=some v->w.cell? (ad.add i)=some v:=by
   rcases p with p | ⟨k,v,t',sz,m,xs,ap,c',hk,l,e2,p⟩ | q | ⟨k,g,t',bx,o',hk,al,l,p⟩
   ·obtain⟨ap,e,ay,ao⟩:=p.cell hs;injection e with e
    subst e;intro i v hv;have:=ao i v hv
    rwa [Nat.zero_add] at this
   ·injection l with l
    subst l;have j:=hs.own k _ hk;simp only[Own.ok] at j;subst e2;intro i u hu;have hb:=p i u hu;rw[Nat.zero_add] at hb;have h0:=World.ownsRow.cells j (g:=ad.block) rfl i u hb;rcases j.2 with⟨e,_⟩ | ⟨g,cap,bc,e,_⟩
    ·cases e
    ·injection e with l e2 e3
     injection l with l
     subst l;exact h0
   ·intro i v hv;rw[q] at f;have:bs=[]:=ade (by simpa using f);subst this;simp at hv
   ·injection l with l
    subst l;intro i u hu;rw[cZ,oI al (hs.own k _ hk)];have:=p i u hu
    rwa [Nat.add_zero] at this
  have h:=run_loadCells_list (P:=P) w ad _ aa;rw[f] at h;have hb:=run_bytesToString (P:=P) w ad n c (bs.map fun b=>(b.toNat:Int)) (by rw[h];simp);rw[hb];simp only[Result.andThen_ok,Sem.run_pure];congr 3;have:=Jr bs ByteArray.empty;generalize(bs.map fun b=>(b.toNat:Int)).foldl (fun r n=>r.push (UInt8.ofNat n.toNat)) ByteArray.empty=z at this ⊢;obtain⟨d⟩:=z;congr 1;apply Array.ext';simpa using this
theorem OG {f:FuncId}{fi ca:Array Operand}{b c:List X}(p:St F L w) (d:aN L ρ a) (j:∀k,o.dst=some k->k<a.tmps.size)
  (m:o.op=.makeFunc (.func f) fi ca) (e:iw fi.toList=some b) (h:iw ca.toList=some c) (l:evalOp P (.mkfn f b c) o.dst F L ρ K):o.wp P a w (bX F L w a K) Q:=by
 have n:fi.map a.eval=(bQ L ρ b).toArray:=by apply Array.ext';simpa using gG e d
 have q:ca.map a.eval=(bQ L ρ c).toArray:=by apply Array.ext';simpa using gG h d
 refine cT p d j ?_ rfl dA fS l;simp[execOp,m,Instr.makeFunc,n,q];rfl
theorem OH {i:Nat}{y:Operand}{e:X}(m:St F L w) (d:aN L ρ a) (n:∀k,o.dst=some k->k<a.tmps.size)
  (l:o.op=.extract y i) (h:cQ y=some e) (b:evalOp P (.extr e i) o.dst F L ρ K):o.wp P a w (bX F L w a K) Q:=by
 have j:=aX h d;simp only[evalOp,aV] at b;split at b
 case h_2=>exact b.elim
 rename_i vs c;split at b
 case h_2=>exact b.elim
 rename_i v f;refine cT m d n (v:=v) (x:=.v v) ?_ rfl dA fS b;have:vs[i]?=some v:=by simpa using f
 simp[execOp,l,j,dc c,Instr.extract,this]
theorem Js {t f:Nat}{y:Operand}{s:X}{fs:Array Field}{h:Field}{i:TypeInfo}(u:St F L w) (m:aN L ρ a) (p:∀k,o.dst=some k->k<a.tmps.size)
  (ho:o.op=.fieldAddr t y f) (ht:P.underlying t=some (.struct fs)) (hf:fs[f]?=some h) (hi:P.info? h.type=some i) (l:i.size≠0) (q:cQ y=some s)
  (n:evalOp P (.fieldA h.offset s) o.dst F L ρ K):o.wp P a w (bX F L w a K) Q:=by
 have ey:=aX q m;have run:∀d:Addr,val L ρ s=.pointer (some d)->(execOp a.eval o).run P w=.ok (.value (.pointer (some (d.add h.offset)))) w:=by
  intro d hv;simp[execOp,ho,ey,hv,Instr.fieldAt,run_underlying ht,hf,Instr.sureAddr,fieldPlace,sizeOf,typeInfo,hi,l]
 simp only[evalOp,aV] at n;split at n
 ·rename_i k off c;obtain⟨g,ty,cs,r⟩:=ru q m c;refine cT u m p (v:=.pointer (some ⟨g,off+h.offset,none⟩)) (x:=.own k (off+h.offset)) ?_ (by simp only[conc,r]) (fun k' aa e=>by injection e with e1 e2;subst e1;exact⟨g,ty,cs,r⟩) (fun _ _ e=>by cases e) n;rw[run ⟨g,off,none⟩ (by simp only[val,c,conc,r]),cZ]
 ·rename_i d j c;have l:=sM q m c;cases d with
  | none=>exact s6 rfl l
  | some d =>
   refine cT u m p (v:=.pointer (some (d.add (j+h.offset)))) (x:=.el (some d) (j+h.offset)) ?_ rfl (fun _ _ e=>by cases e) (fun z j' e=>by injection e with e1 e2;subst e1;simp) n;rw[run (d.add j) (by simp only[val,c,conc])];congr 4;obtain⟨b,o',sp⟩:=d;unfold Addr.add
   by_cases h1:j=0<;>by_cases h2:h.offset=0<;>simp[h1,h2,Nat.add_assoc]
 ·rename_i d c;refine cT u m p (v:=.pointer (some (d.add h.offset))) (x:=.el (some d) h.offset) ?_ rfl (fun _ _ e=>by cases e) (fun z j' e=>by injection e with e1 e2;subst e1;simp) n;rw[run d (dc c)]
 ·exact n.elim
theorem OI {t e:TypeId}{y z:Operand}{q p:X}{i:TypeInfo}(hs:St F L w) (m:aN L ρ a) (u:∀k,o.dst=some k->k<a.tmps.size)
  (ho:o.op=.indexAddr t y z) (s:P.underlying t=some (.slice e)) (hi:P.info? e=some i) (hy:cQ y=some q) (hz:cQ z=some p)
  (b:evalOp P (.idxA i.size q p) o.dst F L ρ K):o.wp P a w (bX F L w a K) Q:=by
 have ey:=aX hy m;have ez:=aX hz m;simp only[evalOp,aV] at b;split at b
 case h_2=>exact b.elim
 rename_i d n c k j l h;obtain⟨f,h1,r,b⟩:=b;cases d with
 | none=>exact s6 rfl f
 | some d =>
  refine cT hs m u (v:=.pointer (some (d.add (j.toNat*i.size)))) (x:=.el (some d) (j.toNat*i.size)) ?_ rfl (fun _ _ e=>by cases e) (fun am j' e=>by injection e with e1 e2;subst e1;simp) b;simp[execOp,ho,ey,ez,dc l,dc h,Instr.indexAt,asIntOf,run_underlying s,h1,r,sizeOf,typeInfo,hi]
theorem Ub {t e:TypeId}{y:Operand}{h:X}{c:Call}(u:St F L w) (j:aN L ρ a) (m:∀k,o.dst=some k->k<a.tmps.size)
  (r:o.op=.call c) (z:c.callee=.builtin .len) (s:c.args=#[y]) (d:c.argTypes=#[t]) (l:P.underlying t=some (.slice e)) (p:cQ y=some h)
  (b:evalOp P (.len h) o.dst F L ρ K):o.wp P a w (bX F L w a K) Q:=by
 have q:=aX p j;simp only[evalOp,aV] at b;split at b
 ·rename_i ad n cp f;refine cT u j m (v:=.int .i64 n) (x:=.v (.int .i64 n)) ?_ rfl dA fS b;simp[execOp,r,resolve,z,s,d,invoke,builtin,Builtin.len_,q,dc f,run_underlying l,goInt]
 ·exact b.elim
theorem OJ {t:TypeId}{y:Operand}{h:X}{c:Call}(r:St F L w) (f:aN L ρ a) (u:∀k,o.dst=some k->k<a.tmps.size)
  (n:o.op=.call c) (l:c.callee=.builtin .len) (p:c.args=#[y]) (d:c.argTypes=#[t]) (q:P.underlying t=some .string) (j:cQ y=some h)
  (b:evalOp P (.lenS h) o.dst F L ρ K):o.wp P a w (bX F L w a K) Q:=by
 have m:=aX j f;simp only[evalOp,aV] at b;split at b
 ·rename_i s e;refine cT r f u (v:=.int .i64 s.size) (x:=.v (.int .i64 s.size)) ?_ rfl dA fS b;simp[execOp,n,resolve,l,p,d,invoke,builtin,Builtin.len_,m,dc e,run_underlying q,goInt]
 ·exact b.elim
theorem OL {t e:TypeId}{y:Operand}{j:X}{c:Call}(z:St F L w) (l:aN L ρ a) (p:∀k,o.dst=some k->k<a.tmps.size)
  (s:o.op=.call c) (hc:c.callee=.builtin .cap) (u:c.args=#[y]) (d:c.argTypes=#[t]) (m:P.underlying t=some (.slice e)) (q:cQ y=some j)
  (b:evalOp P (.capa j) o.dst F L ρ K):o.wp P a w (bX F L w a K) Q:=by
 have r:=aX q l;simp only[evalOp,aV] at b;split at b
 ·rename_i ad n h f;refine cT z l p (v:=.int .i64 h) (x:=.v (.int .i64 h)) ?_ rfl dA fS b;simp[execOp,s,resolve,hc,u,d,invoke,builtin,Builtin.cap_,r,dc f,run_underlying m,goInt]
 ·exact b.elim
theorem KM {L:Loc}{ρ:Env}:∀{xs:List X},bQ L ρ xs=(xs.map (ev ρ)).map (conc L)
 | []=>rfl
 | _::xs=>by simp[bQ,val,KM (xs:=xs)]
theorem Uc (mx:Bool) (k:IntKind):∀(l:List SV) (d m:Int),Sf mx d l=some m ->
  ((l.map (conc L)).foldlM (if mx then Builtin.max2 else Builtin.min2) (.int k d)).run P w=.ok (.int k m) w:=by
 intro l
 induction l with
 | nil=>intro d m h;simp only[Sf,w7] at h;subst h;rfl
 | cons x l e =>
  intro d m h;unfold Sf at h;split at h
  ·rename_i c;cases c
  ·rename_i j b f c;injection c with h1 h2
   subst h1 h2;have:=e _ _ h;cases mx
   ·simp only[acU,List.foldlM_cons,conc,Sem.run_bind];simp only[acZ,adz] at this ⊢;simp only[Builtin.min2,Sem.run_pure,Result.andThen_ok];exact this
   ·simp only[acU,List.foldlM_cons,conc,Sem.run_bind];simp only[adk] at this ⊢;simp only[Builtin.max2,Sem.run_pure,Result.andThen_ok];exact this
  ·cases h
theorem Sh {mx:Bool}{c:Call}{xs:List X}(q:St F L w) (j:aN L ρ a) (t:∀k,o.dst=some k->k<a.tmps.size)
  (h:o.op=.call c) (f:c.callee=.builtin (if mx then .max else .min)) (p:iw c.args.toList=some xs)
  (d:evalOp P (.mm mx xs) o.dst F L ρ K):o.wp P a w (bX F L w a K) Q:=by
 have b:=gG p j;rw[KM] at b;simp only[evalOp,aV] at d;split at d
 case h_2=>exact d.elim
 rename_i k n l r;split at d
 case h_2=>exact d.elim
 rename_i m s;rw[r] at b;have e:=Uc (P:=P) (L:=L) (w:=w) mx k l n m s;refine cT q j t (v:=.int k m) (x:=.v (.int k m)) ?_ rfl dA fS d;cases mx
 ·simp only[acZ,adz] at f e;simp only[execOp,h,resolve,f,invoke,builtin,Builtin.min_,Sem.run_bind,Sem.run_pure,Result.andThen_ok,Array.toList_map,b,acU,conc,e]
 ·simp only[adk] at f e;simp only[execOp,h,resolve,f,invoke,builtin,Builtin.max_,Sem.run_bind,Sem.run_pure,Result.andThen_ok,Array.toList_map,b,acU,conc,e]
theorem OM {t:TypeId}{d:TypeDesc}{y:Operand}{q:X}(p:St F L w) (f:aN L ρ a) (l:∀k,o.dst=some k->k<a.tmps.size)
  (n:o.op=.makeInterface t y) (h:P.underlying t=some d) (e:∀z,d≠.interface z) (s:cQ y=some q) (c:evalOp P (.mkif t q) o.dst F L ρ K):o.wp P a w (bX F L w a K) Q:=by
 have m:=aX s f;simp only[evalOp,aV] at c;split at c
 ·rename_i v b;refine cT p f l (v:=.iface t v) (x:=.v (.iface t v)) ?_ rfl dA fS c;simp only[execOp,n,m,dc b,Instr.makeInterface];simp only[Sem.run_bind,Sem.run_map,run_underlying h,Result.andThen_ok];cases d<;>first | exact s6 rfl (e _) | simp
 ·rename_i r j b;refine cT p f l (v:=.iface t (.pointer (some (r.add j)))) (x:=.v (.iface t (.pointer (some (r.add j))))) ?_ rfl dA fS c;simp only[execOp,n,m,val,b,conc,Instr.makeInterface];simp only[Sem.run_bind,Sem.run_map,run_underlying h,Result.andThen_ok];cases d<;>first | exact s6 rfl (e _) | simp
 ·rename_i k off b;split at c
  case h_2=>exact c.elim
  rename_i g t' cs u;refine cT p f l (v:=.iface t (.pointer (some ⟨g,off,none⟩))) (x:=.v (.iface t (.pointer (some ⟨g,off,none⟩)))) ?_ rfl dA fS c;simp only[execOp,n,m,val,b,conc,u,Instr.makeInterface];simp only[Sem.run_bind,Sem.run_map,run_underlying h,Result.andThen_ok];cases d<;>first | exact s6 rfl (e _) | simp
 ·exact c.elim
theorem Ud {t s:TypeId}{d:TypeDesc}{i:TypeInfo}{z:Value}{y:Operand}{q:X}(p:St F L w) (h:aN L ρ a) (l:∀k,o.dst=some k->k<a.tmps.size)
  (n:o.op=.typeAssert y s t true) (j:P.underlying t=some d) (c:∀ms,d≠.interface ms) (hi:P.info? t=some i) (r:i.zero=some z) (hy:cQ y=some q) (f:evalOp P (.tas t z q) o.dst F L ρ K):o.wp P a w (bX F L w a K) Q:=by
 have m:=aX hy h;simp only[evalOp,aV] at f;split at f
 ·rename_i b;refine cT p h l (v:=.tuple #[z,.bool false]) (x:=.v (.tuple #[z,.bool false])) ?_ rfl dA fS f;simp only[execOp,n,m,dc b,Instr.typeAssert];simp only[Sem.run_bind,Sem.run_map,run_underlying j,Result.andThen_ok];cases d<;>first | exact s6 rfl (c _) | simp[zeroValue,typeInfo,hi,r]
 ·rename_i t' u b;split at f
  ·rename_i hb;have hb:=vz hb;refine cT p h l (v:=.tuple #[u,.bool true]) (x:=.v (.tuple #[u,.bool true])) ?_ rfl dA fS f;simp only[execOp,n,m,dc b,Instr.typeAssert];simp only[Sem.run_bind,Sem.run_map,run_underlying j,Result.andThen_ok];cases d<;>first | exact s6 rfl (c _) | simp[hb]
  ·rename_i hb;have hb:t'≠t:=fun e=>by rw[e,Nat.beq_refl] at hb;cases hb
   refine cT p h l (v:=.tuple #[z,.bool false]) (x:=.v (.tuple #[z,.bool false])) ?_ rfl dA fS f;simp only[execOp,n,m,dc b,Instr.typeAssert];simp only[Sem.run_bind,Sem.run_map,run_underlying j,Result.andThen_ok];cases d<;>first | exact s6 rfl (c _) | simp[zeroValue,typeInfo,hi,r,hb]
 ·exact f.elim
theorem Hy:∀{l:List (TypeId×String)}{t:TypeId}{nm:String},Sc l t nm=true->(t,nm)∈l
 | [],_,_,h=>by cases h
 | (t,nm)::l,e,d,h=>by
  simp only[Sc] at h;split at h
  ·rename_i b c;rw[<-vz b,<-ada c];exact List.mem_cons_self ..
  ·exact adb _ (Hy h)
theorem Bz {t:TypeId}{nm:String}{f:FuncId}(h:pB P t nm=some f):∃i m b d,P.info? t=some i/\i.methods.find? (·.name == nm)=some m/\m.path.toList=[]/\m.func=some (f,b)/\P.underlying t=some d /\
  ((∃e,d=.pointer e/\b=true)\/((∀e,d≠.pointer e)/\b=false)):=by
 simp only[pB] at h;split at h
 case h_2=>cases h
 rename_i i hi;split at h
 case h_2=>cases h
 rename_i m n;split at h
 case h_2=>cases h
 rename_i q b l k;split at h
 ·rename_i e c;injection h with h;subst h
  exact⟨i,m,_,_,hi,n,l,k,c,.inl ⟨_,rfl,rfl⟩⟩
 ·cases h
 ·rename_i d j c;injection h with h;subst h
  exact⟨i,m,_,_,hi,n,l,k,c,.inr ⟨fun e p=>j e p,rfl⟩⟩
 ·cases h
theorem BA (P:Program):∃n,P.types.size+Made.depth=n+1:=⟨P.types.size+99,by simp[Made.depth]⟩
theorem Jt {t:TypeId}{nm:String}{f:FuncId}(h:pB P t nm=some f) (v:Value) (w:World):(method (P.types.size+Made.depth) t v nm).run P w=.ok (f,v) w:=by
 obtain⟨i,m,r,d,p,c,q,k,l,b⟩:=Bz h;obtain⟨n,j⟩:=BA P;rw[j];simp only[method,Sem.run_bind,typeInfo,run_program,Result.andThen_ok,p,Sem.run_pure,c,q,follow,k,receiverAt,run_underlying l];rcases b with⟨e,rfl,rfl⟩ | ⟨b,rfl⟩
 ·simp only[Place.get,Sem.run_pure,Result.andThen_ok]
 ·cases d<;>first | exact s6 rfl (b _) | simp only[Place.get,Sem.run_pure,Result.andThen_ok]
theorem Ju {t:TypeId}{nm:String}{f:FuncId}(h:pB P t nm=some f) (v:Value) (w:World):(nilAhead (P.types.size+Made.depth) t v nm).run P w=.ok (some false) w:=by
 obtain⟨i,m,r,d,p,c,q,k,l,b⟩:=Bz h;obtain⟨n,j⟩:=BA P;rw[j];simp only[nilAhead,Sem.run_bind,typeInfo,run_program,Result.andThen_ok,p,Sem.run_pure,c,q,followBlind,k];rcases b with⟨e,rfl,rfl⟩ | ⟨b,rfl⟩
 ·rfl
 ·simp only[Sem.run_bind,run_underlying l,Result.andThen_ok];cases d<;>first | exact s6 rfl (b _) | rfl
theorem OO {nm:String}{fi ca:Array Operand}{c:X}(n:St F L w) (e:aN L ρ a) (l:∀k,o.dst=some k->k<a.tmps.size)
  (m:o.op=.makeFunc (.method nm) fi ca) (f:iw fi.toList=some [c]) (j:ca.toList=[]) (b:evalOp P (.mkmv nm c) o.dst F L ρ K):o.wp P a w (bX F L w a K) Q:=by
 have d:fi.map a.eval=(bQ L ρ [c]).toArray:=by apply Array.ext';simpa using gG f e
 have p:ca=#[]:=by apply Array.ext';exact j
 simp only[evalOp,aV] at b;split at b
 case h_2=>exact b.elim
 rename_i v h;refine cT n e l (v:=.func (.method nm) #[v] #[]) (x:=.v (.func (.method nm) #[v] #[])) ?_ rfl dA fS b;simp only[bQ,dc h] at d;simp[execOp,m,Instr.makeFunc,d,p]
theorem OP {t:TypeId}{nm:String}{fi ca:Array Operand}(l:St F L w) (m:aN L ρ a) (e:∀k,o.dst=some k->k<a.tmps.size)
  (h:o.op=.makeFunc (.methodOf t nm) fi ca) (b:fi.toList=[]) (d:ca.toList=[]) (f:evalOp P (.mov (.c (.func (.methodOf t nm) #[] #[]))) o.dst F L ρ K):o.wp P a w (bX F L w a K) Q:=by
 have j:fi=#[]:=by apply Array.ext';exact b
 have n:ca=#[]:=by apply Array.ext';exact d
 refine cT l m e (v:=.func (.methodOf t nm) #[] #[]) (x:=.v (.func (.methodOf t nm) #[] #[])) ?_ rfl dA fS f;simp[execOp,h,Instr.makeFunc,j,n]
theorem KN {y:Operand}{y':X}(q:St F L w) (h:aN L ρ a) (m:∀k,o.dst=some k->k<a.tmps.size)
  (p:o.op=.nilCheck y) (hy:cQ y=some y') (r:Sd P=true) (c:evalOp P (.nilck y') o.dst F L ρ K):o.wp P a w (bX F L w a K) Q:=by
 have n:=aX hy h;simp only[evalOp,aV] at c;split at c
 ·rename_i k off b;obtain⟨g,ty,cs,z⟩:=ru hy h b;refine cT q h m (v:=.pointer (some ⟨g,off,none⟩)) (x:=.own k off) ?_ (by simp only[conc,z]) (fun k' ab e=>by injection e with e1 e2;subst e1;exact⟨g,ty,cs,z⟩) (fun _ _ e=>by cases e) c;simp[execOp,p,n,val,b,conc,z]
 ·rename_i d j b;obtain⟨aa,c⟩:=c;cases d with
  | none=>exact s6 rfl aa
  | some d =>
   refine cT q h m (v:=.pointer (some (d.add j))) (x:=.el (some d) j) ?_ rfl (fun _ _ e=>by cases e) (fun an j' e=>by injection e with e1 e2;subst e1;simp) c;simp[execOp,p,n,val,b,conc]
 ·rename_i d b;refine cT q h m (v:=.pointer (some d)) (x:=.v (.pointer (some d))) ?_ rfl dA fS c;simp[execOp,p,n,dc b]
 ·rename_i f fi ca b;refine cT q h m (v:=.func (.func f) fi ca) (x:=.v (.func (.func f) fi ca)) ?_ rfl dA fS c;simp[execOp,p,n,dc b]
 ·rename_i nm fi ca b;split at c
  case h_2=>exact c.elim
  rename_i t u s;obtain⟨hm,c⟩:=c;have h1:=ac5.1 r _ (Hy hm);obtain⟨f,hf⟩:=Option.isSome_iff_exists.1 h1;have l:fi[0]?=some (.iface t u):=by rw[<-Array.getElem?_toList,s];rfl
  refine cT q h m (v:=.func (.method nm) fi ca) (x:=.v (.func (.method nm) fi ca)) ?_ rfl dA fS c;have hn:=Ju (P:=P) hf u w;simp only[execOp,p,n,dc b,l,Sem.run_bind,run_program,Result.andThen_ok,Sem.run_pure,hn];rfl
 ·exact c.elim
theorem Ed:∀{l:List Value},mC l=true->∀u∈l,u.oneCell'=true
 | [],_,u,b=>by cases b
 | v::l,h,u,b=>by
  simp only[mC] at h;split at h
  ·rename_i c;rcases acQ.1 b with rfl | b
   ·exact c
   ·exact Ed h u b
  ·cases h
theorem Ee {t:TypeId}{i:TypeInfo}(hi:P.info? t=some i) {g off:Nat}{v:Value}{b:Array Value}{ty:TypeId}(h:w.heap[g]?=some (.cells b ty (0,0)))
  (e:v.cells.size=i.size) (d:off+v.cells.size<=b.size) (f:∀u∈v.cells.toList,u.oneCell'=true) :
  (Instr.storeAt t (.pointer (some ⟨g,off,none⟩)) v).run P w=.ok () (w.setRow g (bq b.toList off v.cells.toList).toArray):=by
 have c:=run_storeCells_at P g off ty v.cells.toList 0 b w h (by simpa using d) f;simp only[Nat.add_zero] at c;simp only[Instr.storeAt,Instr.sureAddr,storeVar,Sem.run_bind,Sem.run_pure,Result.andThen_ok,sizeOf,typeInfo,run_program,hi];rw[s8 (by omega)];rw[c];rfl
theorem uj {c:Type}(b:Array c) (i:Nat) (v:c) (h:b[i]?=some v):b.setIfInBounds i v=b:=by
 apply Array.ext_getElem?;intro j;rw[Array.getElem?_setIfInBounds];split
 ·rename_i e;subst e;split
  ·exact h.symm
  ·rename_i d;rw[Array.getElem?_eq_none (by omega)]
 ·rfl
theorem nu (g o:Nat) (t:TypeId) (d:Nat×Nat) (b:Array Value) (w:World) (h:w.heap[g]?=some (.cells b t d)):∀(vs:List Value) (i:Nat),(∀(n:Nat) (v:Value),vs[n]?=some v->b[o+i+n]?=some v/\qf d (o+i+n))->(∀v∈vs,v.oneCell'=true) ->
  (storeCells ⟨g,o,none⟩ vs i).run P w=.ok () w
 | [],i,_,_=>rfl
 | v::e,i,m,p=>by
  have j:(⟨g,o,none⟩:Addr).add i=⟨g,o+i,none⟩:=by unfold Addr.add;split<;>simp_all
  obtain⟨k,q⟩:=m 0 v (by simp);simp only[Nat.add_zero] at k q;have c:w.cell? ⟨g,o+i,none⟩=some v:=by simp[World.cell?,h,k]
  have f:w.frozen? ⟨g,o+i,none⟩=false:=by
   obtain⟨lo,y⟩:=d;simp only[World.frozen?,h,Bool.and_eq_false_iff,decide_eq_false_iff_not];simp only[qf] at q;omega
  have l:(store ((⟨g,o,none⟩:Addr).add i) v).run P w=.ok () w:=by
   rw[j,run_store P w _ v _ (p v (by simp)),c];simp only[f,setCell_eq_setRow w g (o+i) b t d v h,uj b _ v k,setRow_self w g b t d h];simp
  have s:=nu g o t d b w h e (i+1) (fun n u r=>by
   have:=m (n+1) u (by simpa using r)
   rwa [show o+i+(n+1)=o+(i+1)+n by omega] at this) (fun x z=>p x (by simp[z]))
  simp only[storeCells,Sem.run_bind,l,Result.andThen_ok,s]
theorem pH {t:TypeId}{i:TypeInfo}(hi:P.info? t=some i) {g off:Nat}{v:Value}{b:Array Value}{ty:TypeId}{d:Nat×Nat}(j:w.heap[g]?=some (.cells b ty d))
  (e:v.cells.size=i.size) (h:∀(n:Nat) (u:Value),v.cells.toList[n]?=some u->b[off+n]?=some u/\qf d (off+n)) (f:∀u∈v.cells.toList,u.oneCell'=true) :
  (Instr.storeAt t (.pointer (some ⟨g,off,none⟩)) v).run P w=.ok () w:=by
 have c:=nu (P:=P) g off ty d b w j v.cells.toList 0 (by simpa using h) f;simp only[Instr.storeAt,Instr.sureAddr,storeVar,Sem.run_bind,Sem.run_pure,Result.andThen_ok,sizeOf,typeInfo,run_program,hi];rw[s8 (by omega)];rw[c]
theorem nF (w:World) (g:Nat) (cs:Array Value):w.grownBy (w.setRow g cs) (some g) :=
 ⟨rfl,rfl,rfl,by simp[World.setRow],fun k _ b=>setRow_other w g k cs (fun e=>b (by rw[e]))⟩
theorem KO {t:TypeId}{y z:Operand}{y' z':X}{i:TypeInfo}(hs:St F L w) (he:aN L ρ a) (hd:∀k,o.dst=some k->k<a.tmps.size)
  (ho:o.op=.store t y z) (hi:P.info? t=some i) (hy:cQ y=some y') (hz:cQ z=some z')
  (l:evalOp P (.store i.size y' z') o.dst F L ρ K):o.wp P a w (bX F L w a K) Q:=by
 have ey:=aX hy he;have ez:=aX hz he;have an:aZ (val L ρ z')=(a.eval z).cells.toList:=by rw[ez,pG]
 have turn:∀(k:Nat) (g:Nat) (oo o':Own) (f:Array Value) (ty:TypeId) (off:Nat),L.get k=some oo->oo.blk=some g->o'.blk=some g->w.heap[g]?=some (.cells f ty (0,0)) ->
   (a.eval z).cells.size=i.size->off+(a.eval z).cells.size<=f.size->(∀u∈(a.eval z).cells.toList,u.oneCell'=true)->a.eval y=.pointer (some ⟨g,off,none⟩) ->
   o'.ok (w.setRow g (bq f.toList off (a.eval z).cells.toList).toArray)->(∀g' r cs',oo=.box g' r cs'->∃am,o'=.box g' r am) ->
   K F (L.set k o') (put o.dst (.v undef) ρ)->o.wp P a w (bX F L w a K) Q:=by
  intro k g oo o' f ty off x hb bi hg be d h1 ac bv q l;have aa:=nF w g (bq f.toList off (a.eval z).cells.toList).toArray;have bA:St F (L.set k o') (w.setRow g (bq f.toList off (a.eval z).cells.toList).toArray) :=
   hs.turn x bv (fun b ay bj=>aa.block b ay (fun e=>bj (by rw[hb,e]))) (fun g' ap=>.inl (by rw[hb];rw[bi] at ap;exact ap))
  refine yY he hd (w':=w.setRow g (bq f.toList off (a.eval z).cells.toList).toArray) ?_ bA ?_ ?_ l
  ·simp[execOp,ho,ac,Ee hi hg be d h1]
  ·refine⟨aJ.le_refl F,rfl,rfl,rfl,aa.size,fun b ay hn=>aa.block b ay (fun e=>hn ⟨k,oo,x,by rw[hb,e]⟩),fun b h=>.inl h,fun b h=>?_⟩;rcases Loc.abl h with h | h
   ·rw[bi] at h;exact .inl ⟨k,oo,x,by rw[hb];exact h⟩
   ·exact .inl h
  ·intro j g' r cs' e;rw[Loc.aa4];split
   ·rename_i hj;subst hj;rw[x] at e;injection e with e
    obtain⟨am,h⟩:=q g' r cs' e;exact⟨am,by rw[h]⟩
   ·exact⟨cs',e⟩
 have s:∀(ad:Option Addr) (j:Nat),ad≠none->a.eval y=conc L (.el ad j)->iV (aZ (val L ρ z')) i.size=true->mC (aZ (val L ρ z'))=true ->
   (uW F L ad j (aZ (val L ρ z')) fun L'=>K F L' (put o.dst (.v undef) ρ))->o.wp P a w (bX F L w a K) Q:=by
  rintro ad j bj ac p h1 ⟨⟨k,v,ty,sz,m,xs,bl,c,x,rfl,rfl,d,al,l⟩ | ⟨⟨bl,ch,ty,fz,rfl,hb,ar,hc⟩,al,l⟩⟩
  case inr =>
   have p:=jZ p;rw[an] at p al hc;obtain⟨g,off,sp⟩:=bl;simp only at ar;subst ar;have hr:=pH (P:=P) hi (off:=off+j) (v:=a.eval z) (hs.frz g _ hb) (by simpa using p) hc al;refine yY he hd (w':=w) ?_ hs ?_ (fun j g' r cs' e=>⟨cs',e⟩) l
   ·simp only[conc,cZ] at ac;simp[execOp,ho,ac,hr]
   ·exact⟨aJ.le_refl F,rfl,rfl,rfl,ac4 _,fun b _ _=>rfl,fun b h=>.inl h,fun b h=>.inl h⟩
  have p:=jZ p;rw[an] at p al d l;have aw:(a.eval z).cells.size=i.size:=by simpa using p
  have ae:=hs.own k _ x;simp only[Own.ok] at ae;obtain⟨hx,ae⟩:=ae;rcases ae with⟨e,_⟩ | ⟨g,cap,f,e,bB,hg,bd,bu,av,ak⟩
  ·cases e
  ·injection e with e1 e2 e3
   injection e1 with e1
   subst e1 e3;have cl:m*sz<=f.size:=by rw[av];exact Nat.mul_le_mul_right _ bd
   rw[<-ak] at d;have ax:j+(a.eval z).cells.size<=m*sz:=by simp at d;omega
   refine turn k g _ (.row (.slice (some ⟨g,0,none⟩) m c) ty sz m (bq xs j (a.eval z).cells.toList)) f ty j x rfl rfl hg aw (by omega) al (by rw[ac];simp only[conc];rw[cZ];simp) ?_ (fun g' r cs' e=>by cases e) l;refine⟨?_,.inr ⟨g,c,_,rfl,bB,setRow_heap w g f _ ty _ hg,bd,bu,?_,?_⟩⟩
   ·rw[gu _ _ _ (by rw[hx];simpa using ax)];exact hx
   ·have:(bq f.toList j (a.eval z).cells.toList).length=f.size:=by rw[gu _ _ _ (by simp;omega)];simp
    simp[this,av]
   ·rw[List.toList_toArray,<-ak];apply adt;intro n;have bz:j+(a.eval z).cells.toList.length<=f.toList.length:=by simp;omega
    rw[ji (by simp;omega)]
    by_cases hn:n<m*sz
    ·rw[List.getElem?_take_of_lt hn,ji bz,List.getElem?_take_of_lt hn]
    ·rw[ac3 (by simp;omega)];have h1:¬n<j:=by omega
     have h2:¬n<j+(a.eval z).cells.toList.length:=by simp;omega
     rw[s8 h1,s8 h2,ac3 (by simp;omega)]
 simp only[evalOp,aV] at l;split at l
 ·rename_i p h1 ab;rename_i k off;have p:=jZ p;have h1:=Ed h1;rw[an] at p h1;split at l
  case h_2=>exact l.elim
  rename_i g ty cs x;split at l
  case h_2=>exact l.elim
  rename_i d;have bk:=xZ d;have d:=jZ (CG d);have q:w.heap[g]?=some (.cells cs.toArray ty (0,0)):=by rw[<-ja bk];exact hs.own k _ x
  by_cases h0:i.size=0
  ·have hz:(a.eval z).cells.toList=[]:=ade (by rw[p,h0]);have ar:bq cs off []=cs:=by simp[bq]
   rw[an,hz,ar] at l;have hr:=pH (P:=P) hi (off:=off) (v:=a.eval z) q (by simpa using p) (by rw[hz];intro n u hu;simp at hu) (by rw[hz];intro u hu;cases hu);have ac:a.eval y=.pointer (some ⟨g,off,none⟩):=by rw[ey];simp only[val,ab,conc,x]
   refine yY he hd (w':=w) ?_ (hs.turn x (o':=.box g ty cs) (hs.own k _ x) (fun _ _ _=>rfl) (fun g' ap=>.inl ap)) ?_ (fun j g' r cs' e=>?_) l
   ·simp[execOp,ho,ac,hr]
   ·refine⟨aJ.le_refl F,rfl,rfl,rfl,ac4 _,fun b _ _=>rfl,fun b h=>.inl h,fun b h=>?_⟩;rcases Loc.abl h with h | h
    ·exact .inl ⟨k,_,x,h⟩
    ·exact .inl h
   ·rw[Loc.aa4];split
    ·rename_i hj;subst hj;rw[x] at e;injection e with e
     injection e with q1 q2 q3
     subst q1 q2;exact⟨_,rfl⟩
    ·exact⟨cs',e⟩
  have bx:off+i.size<=cs.length:=by simp at d;omega
  rw[an] at l;have aw:(a.eval z).cells.size=i.size:=by simpa using p
  refine turn k g _ (.box g ty (bq cs off (a.eval z).cells.toList)) cs.toArray ty off x rfl rfl q aw (by simp;omega) h1 (by rw[ey];simp only[val,ab,conc,x]) ?_ (fun g' r cs' e=>by injection e with e1 e2 e3;subst e1 e2;exact⟨_,rfl⟩) l;show _=_;rw[ja bk];exact setRow_heap w g cs.toArray _ ty _ q
 ·rename_i p h1 ab;exact s _ _ (sM hy he ab) (by rw[ey];simp only[val,ab]) p h1 l
 ·rename_i p h1 ab;rename_i ad;refine s (some ad) 0 (by simp) (by rw[ey];simp only[val,ab,conc];simp[Addr.add]) p h1 l
 ·exact l.elim
end
def F5 (k:IntKind) (n:Nat):List Value:=List.replicate n (.int k 0)
theorem nX {k:IntKind}{n:Nat}:(F5 k n).length=n:=by simp[F5]
theorem OQ {k:IntKind}{n:Nat}:∀u∈F5 k n,u.oneCell'=true:=by
 intro u a;obtain rfl:=List.eq_of_mem_replicate a;rfl
theorem qh {k:IntKind}{n:Nat}:Builtin.zeroCells (Value.int k 0).cells n=(F5 k n).toArray:=by
 apply Array.ext';have h:(Value.int k 0).cells=#[.int k 0]:=rfl;rw[h];simp only[Builtin.zeroCells,F5,List.size_toArray,xo,acV,Nat.zero_add,Nat.mul_one,Nat.mod_one];apply List.ext_getElem
 ·simp
 ·intro i b a;simp
section
variable {P:Program}(w:World)
theorem qW (t v ty e:TypeId) (i:TypeInfo) (k h kn:IntKind) (s:P.underlying t=some (.slice e)) (m:P.underlying v=some (.int kn)) (hi:P.info? e=some i) (hz:i.zero=some (.int h 0)) (o:i.size=1)
  (g a c:Nat) (b:Array Value) (z:w.heap[g]?=some (.cells b e (0,0))) (n:Nat) (y:(n:Int)<=9223372036854775807) (x:n*i.bytes<=281474976710656)
  (f:a+n<=c) (p:a+n<=b.size) :
  (Builtin.append_ #[t,v] ty #[.slice (some ⟨g,0,none⟩) a c,.int k n]).run P w =
   .ok (.slice (some ⟨g,0,none⟩) (a+n) c) (w.setRow g (b.toList.take a++F5 h n++b.toList.drop (a+n)).toArray):=by
 have hw:IntKind.i64.wrap (n:Int)=n:=by rw[IntKind.wrap_i64];omega
 have j:¬((n:Int)<0):=by omega
 have l:¬(281474976710656<(n:Int)*(i.bytes:Int)):=by
  rw[<-Int.natCast_mul];omega
 have d:=run_storeCells_at P g a e (F5 h n) 0 b w z (by simpa[nX] using p) (OQ);simp only[Nat.add_zero,nX] at d
 by_cases u:n=0
 ·subst u;have h0:F5 h 0=[]:=rfl;have q:IntKind.i64.wrap 0=0:=by decide
  have r:a<=c:=by omega
  rw[h0] at d ⊢;simp[Builtin.append_,run_underlying s,run_underlying m,sizeOf,typeInfo,hi,o,asInt,asIntOf,q,r,Addr.add_lit];have h2:w.setRow g b=w.setRow g (b.toList.take a++[]++b.toList.drop a).toArray:=by simp
  simp at d;rw[d];rfl
 ·have hl:(F5 h n)=(Builtin.zeroCells (Value.int h 0).cells n).toList:=by rw[qh]
  rw[hl] at d ⊢;simp[Builtin.append_,run_underlying s,run_underlying m,sizeOf,typeInfo,hi,o,asInt,asIntOf,hw,j,l,u,f,Addr.add_lit,zeroValue,hz,d]
theorem run_append_grow_zeros (t x ty e:TypeId) (i:TypeInfo) (k o kn:IntKind) (ht:P.underlying t=some (.slice e)) (s:P.underlying x=some (.int kn)) (hi:P.info? e=some i) (hz:i.zero=some (.int o 0)) (q:i.size=1)
  (b:Addr) (a c:Nat) (d:List Value) (u:d.length=a*i.size) (holds:∀j v,d[j]?=some v->w.cell? (b.add j)=some v) (n:Nat) (ak:a<=c)
  (hg:c<a+n) (ac:((a+n:Nat):Int)<=9223372036854775807) (z:n*i.bytes<=281474976710656) (y:Builtin.nextslicecap (a+n) c*i.bytes<=281474976710656) :
  (Builtin.append_ #[t,x] ty #[.slice (some b) a c,.int k n]).run P w =
   .ok (.slice (some ⟨w.heap.size,0,none⟩) (a+n) (grownCap w (a+n) c e))
    (w.drew.alloc (.cells (d.toArray++(F5 o n).toArray++Builtin.zeroCells (Value.int o 0).cells (grownCap w (a+n) c e-(a+n))) e)):=by
 have hw:IntKind.i64.wrap (n:Int)=n:=by rw[IntKind.wrap_i64];omega
 have f:¬((n:Int)<0):=by omega
 have l:¬(281474976710656<(n:Int)*(i.bytes:Int)):=by
  rw[<-Int.natCast_mul];omega
 have hn:¬(a+n<=c):=by omega
 have r:n≠0:=by omega
 have h:¬(9223372036854775807<((a:Int)+(n:Int))):=by omega
 have m:¬(281474976710656<Builtin.nextslicecap (a+n) c*i.bytes):=by omega
 have p:=run_firstCells_some (P:=P) w.drew i.size a b a c d u (by simpa using holds);have hl:(F5 o n).toArray=(Builtin.zeroCells (Value.int o 0).cells n):=by rw[qh]
 rw[hl];rw[q] at p;simp[Builtin.append_,run_underlying ht,run_underlying s,sizeOf,typeInfo,zeroValue,hi,hz,q,asInt,asIntOf,hw,f,l,r,hn,h,m,Question.forced,p,newRow,grownCap]
theorem rB (a:Nat) (t tn ty e:TypeId) (i:TypeInfo) (k h kn:IntKind) (ht:P.underlying t=some (.slice e)) (r:P.underlying tn=some (.int kn)) (hi:P.info? e=some i) (hz:i.zero=some (.int h 0)) (x:i.size=1)
  (v:Value) (n:Nat) (xs:List Value) (l:w.ownsRow a e 1 v n xs) (m:Nat)
  (ad:n+m<=maxLen) (d:(n+m)*i.bytes<=140737488355328) (aa:a<=w.heap.size) :
  ∃v' w',(Builtin.append_ #[t,tn] ty #[v,.int k m]).run P w=.ok v' w'/\w'.ownsRow a e 1 v' (n+m) (xs++F5 h m)/\w.grownBy w' v.ownBlock /\
   (v'.ownBlock=v.ownBlock\/v'.ownBlock=some w.heap.size):=by
 have ae:n+m<=9223372036854775807:=by simp only[maxLen] at ad;omega
 have s:xs.length=n:=by simpa using l.1
 have bb:m*i.bytes<=140737488355328:=acO (Nat.mul_le_mul_right _ (by omega)) d;have c:(xs++F5 h m).length=(n+m)*1:=by rw[yo,s,nX,Nat.mul_one]
 have p:∀(b:Nat),b<n+m->∀(row:Option Nat),
   (w.drew.alloc (.cells (xs.toArray++(F5 h m).toArray++Builtin.zeroCells (Value.int h 0).cells (grownCap w (n+m) b e-(n+m))) e)).ownsRow a e 1
    (.slice (some ⟨w.heap.size,0,none⟩) (n+m) (grownCap w (n+m) b e)) (n+m) (xs++F5 h m) /\
   w.grownBy (w.drew.alloc (.cells (xs.toArray++(F5 h m).toArray++Builtin.zeroCells (Value.int h 0).cells (grownCap w (n+m) b e-(n+m))) e)) row:=by
  intro b ho row;have ar:=grownCap_ge w (n+m) b e;have z:grownCap w (n+m) b e<=maxLen:=grownCap_le_maxLen w (n+m) b e ad;refine⟨⟨c,.inr ⟨w.heap.size,_,_,rfl,aa,heap_alloc_new w.drew _,ar,z,?_,?_⟩⟩,⟨rfl,rfl,rfl,by simp,fun k hk _=>by first | exact heap_alloc_old w.drew _ k hk | exact heap_alloc_old w.drew _ hk⟩⟩
  ·have av:(Value.int h 0).cells.size=1:=rfl;simp only[Array.size_append,List.size_toArray,size_zeroCells,av,s,nX];omega
  ·simp only[Array.toList_append,acM];rw[<-acM,<-c];exact List.take_left
 rcases l.2 with⟨rfl,rfl⟩ | ⟨g,cap,q,rfl,ap,hg,ao,z,ax,y⟩
 ·have hx:xs=[]:=ade s;subst hx
  by_cases hm:m=0
  ·subst hm;refine⟨.slice none 0 0,w,?_,World.ownsRow_nil w a e 1,⟨rfl,rfl,rfl,ac4 _,fun _ _ _=>rfl⟩,.inl rfl⟩;have hw:IntKind.i64.wrap 0=0:=by decide
   simp[Builtin.append_,run_underlying ht,run_underlying r,sizeOf,typeInfo,hi,x,asInt,asIntOf,hw]
  ·have hr:=Lib.run_append_nil_zeros (P:=P) w t tn ty e i (.int h 0) k kn ht r hi hz m (by omega) (by omega) (by omega) (by omega);have f:=p 0 (by omega) (Value.ownBlock (.slice none 0 0));simp only[Nat.zero_add,acX,Array.empty_append] at f ⊢;rw[qh (n:=m)] at hr;exact⟨_,_,hr,f.1,f.2,.inr rfl⟩
 ·by_cases o:n+m<=cap
  ·have az:q.size=cap:=by simpa using ax
   have hr:=qW (P:=P) w t tn ty e i k h kn ht r hi hz x g n cap q hg m (by omega) (by omega) o (by omega);refine⟨_,_,hr,⟨c,.inr ⟨g,cap,_,rfl,ap,setRow_heap w g q _ e _ hg,o,z,?_,?_⟩⟩,⟨rfl,rfl,rfl,by simp,fun k _ hk=>setRow_other w g k _ (fun e=>hk (by simp[Value.ownBlock,e]))⟩,.inl rfl⟩
   ·simp only[List.size_toArray,yo,ac2,ads,Array.length_toList,nX];omega
   ·have an:q.toList.take n=xs:=by simpa using y
    rw[an,<-c];exact List.take_left
  ·have holds:∀j u,xs[j]?=some u->w.cell? ((⟨g,0,none⟩:Addr).add j)=some u:=l.cells (g:=g) rfl;have hr:=run_append_grow_zeros (P:=P) w t tn ty e i k h kn ht r hi hz x ⟨g,0,none⟩ n cap xs (by rw[x];simpa using s) holds m ao (by omega) (by omega) (by omega) (growslice_fits (by omega) d);have f:=p cap (by omega) (Value.ownBlock (.slice (some ⟨g,0,none⟩) n cap));exact⟨_,_,hr,f.1,f.2,.inr rfl⟩
end
section
variable {P:Program}{F:aJ}{L:Loc}{ρ:Env}{a:Act}{w:World}{K:dP}{o:Oper}{Q:Exit->Act->World->Prop}
theorem BB {b:Option Operand}{c:Option X}(h:uZ b=some c) (f:aN L ρ a) {d i:Int}(hi:pE ρ d c=some i) :
  (b=none/\i=d)\/∃y k,b=some y/\a.eval y=.int k i:=by
 cases b with
 | none=>simp only[uZ,w7] at h;subst h;simp only[pE,w7] at hi;exact .inl ⟨rfl,hi.symm⟩
 | some y =>
  simp only[uZ] at h;split at h
  case h_2=>cases h
  rename_i x l;injection h with h
  subst h;simp only[pE] at hi;split at hi
  case h_2=>cases hi
  rename_i k j e;injection hi with hi
  subst hi;exact .inr ⟨y,k,rfl,by rw[aX l f,dc e]⟩
theorem kQ {k:IntKind}{i:Int}{y:Nat}{code:BoundsCode}(c:0<=i) (b:i<=y):(Instr.sliceBound (.int k i) y code).run P w=.ok i.toNat w:=by
 simp[Instr.sliceBound,asIntOf,c,b]
theorem xM {b:Bool}{n c:Nat}{lo hi:Option Operand}{e d:Option X}{l h:Int}(u:uZ lo=some e) (v:uZ hi=some d) (p:aN L ρ a)
  (el:pE ρ 0 e=some l) (s:pE ρ n d=some h) (j:0<=l) (r:l<=h) (m:h<=c) :
  (Instr.sliceBounds b n c (lo.map a.eval) (hi.map a.eval) none).run P w=.ok (l.toNat,h.toNat,c) w:=by
 unfold Instr.sliceBounds;rcases BB u p el with⟨rfl,rfl⟩ | ⟨y,k,rfl,f⟩<;>rcases BB v p s with⟨rfl,rfl⟩ | ⟨z,x,rfl,q⟩
 ·simp
 ·simp[q,kQ (P:=P) (w:=w) (show 0<=h by omega) m]
 ·simp[f,kQ (P:=P) (w:=w) j r]
 ·have t:l<=(h.toNat:Nat):=by omega
  simp[f,q,kQ (P:=P) (w:=w) (show 0<=h by omega) m,kQ (P:=P) (w:=w) j t]
theorem Ue {t e:TypeId}{y:Operand}{lo up:Option Operand}{q:X}{j f:Option X}{i:TypeInfo}(hs:St F L w) (p:aN L ρ a) (hd:∀k,o.dst=some k->k<a.tmps.size)
  (ho:o.op=.slice t y lo up none) (u:P.underlying t=some (.slice e)) (hi:P.info? e=some i) (hy:cQ y=some q) (hl:uZ lo=some j) (hh:uZ up=some f)
  (d:evalOp P (.slc i.size q j f) o.dst F L ρ K):o.wp P a w (bX F L w a K) Q:=by
 have ey:=aX hy p;simp only[evalOp,aV] at d;split at d
 case h_2=>exact d.elim
 rename_i r n c m;split at d
 case h_2=>exact d.elim
 rename_i l h el z;obtain⟨h1,s,h3,d⟩:=d;refine cT hs p hd (v:=gU r c l.toNat h.toNat i.size) (x:=.v (gU r c l.toNat h.toNat i.size)) ?_ rfl dA fS d;have hb:=xM (P:=P) (w:=w) (b:=true) hl hh p el z h1 s h3;simp[execOp,ho,ey,dc m,Instr.sliceAt,Instr.slice,run_underlying u,hb,sizeOf,typeInfo,hi,gU]
theorem ze (z:Array Value) (n:Nat) (q:0<z.size):(madeCells z (n*z.size)).toList=(List.replicate n z.toList).flatten:=by
 induction n with
 | zero=>simp[madeCells]
 | succ n h =>
  rw[List.replicate_succ',List.flatten_append,<-h];apply adt;intro j;have p:(madeCells z (n*z.size)).toList.length=n*z.size:=by simp[madeCells]
  have b:∀m j,j<m->(madeCells z m).toList[j]?=some (z[j % z.size]!):=by
   intro m j k;simp[madeCells,k]
  have l:(n+1)*z.size=n*z.size+z.size:=Nat.succ_mul _ _
  by_cases d:j<n*z.size
  ·rw[acY (by omega),b _ _ (by omega),b _ _ d]
  ·rw[ac7 (by omega),p]
   by_cases e:j<(n+1)*z.size
   ·rw[b _ _ e];have c:j-n*z.size<z.size:=by omega
    have f:j % z.size=j-n*z.size:=by
     have:j=(j-n*z.size)+z.size*n:=by rw[Nat.mul_comm z.size n];omega
     rw[this,Nat.add_mul_mod_self_left,Nat.mod_eq_of_lt c,Nat.mul_comm z.size n];omega
    simp[c,f]
   ·rw[ac3 (by simp[madeCells];omega),ac3 (by simp;omega)]
theorem KP {t e:TypeId}{y z:Operand}{y' z':X}{i:TypeInfo}{b:Value}(hs:St F L w) (he:aN L ρ a) (hd:∀k,o.dst=some k->k<a.tmps.size)
  (ho:o.op=.makeSlice t y z) (ht:P.underlying t=some (.slice e)) (hi:P.info? e=some i) (ad:i.zero=some b) (u:b.cells.size=i.size) (ao:0<i.size) (hy:cQ y=some y') (hz:cQ z=some z')
  (f:evalOp P (.makeS e i.size i.bytes b.cells.toList y' z') o.dst F L ρ K):o.wp P a w (bX F L w a K) Q:=by
 have ey:=aX hy he;have ez:=aX hz he;simp only[evalOp,aV] at f;split at f
 case h_2=>exact f.elim
 rename_i k1 n k2 m k ag ae an;split at f
 case h_2=>exact f.elim
 rename_i _ hk;obtain⟨h0,p,hb,l,f⟩:=f;have f:=f w.heap.size;obtain⟨r,rfl⟩:=Int.eq_ofNat_of_zero_le h0;obtain⟨q,rfl⟩:=Int.eq_ofNat_of_zero_le (Int.le_trans h0 p);simp only[Int.toNat_natCast] at hb l f;have aa:r<=q:=by omega
 have j:(i.bytes:Int)*(q:Int)<=281474976710656:=by
  have h:((i.bytes*q:Nat):Int)<=281474976710656:=by rw[Nat.mul_comm];omega
  rwa [Int.natCast_mul] at h
 have ab:(q:Int)<=9223372036854775807:=by
  have h:=l;simp[maxLen] at h;omega
 have hr:=run_make (P:=P) w t e i b ht hi ad k1 k2 r q (by omega) p j ab;simp only[Int.toNat_natCast] at hr;have d:=ze b.cells q (by omega);rw[u] at d;have c:∀m:Nat,(List.replicate m b.cells.toList).flatten.length=m*i.size:=by
  intro m;simp[u]
 have ac:(List.replicate r b.cells.toList).flatten=(List.replicate q b.cells.toList).flatten.take (r*i.size):=by
  have e1:q=r+(q-r):=by omega
  conv=>rhs;rw[e1]
  rw[<-List.replicate_append_replicate,List.flatten_append,List.take_append_of_le_length (by rw[c];exact ac4 _),adv (by rw[c];exact ac4 _)]
 have s:(w.alloc (.cells (madeCells b.cells (q*i.size)) e)).ownsRow 0 e i.size (.slice (some ⟨w.heap.size,0,none⟩) r q) r (List.replicate r b.cells.toList).flatten:=by
  refine⟨c r,.inr ⟨w.heap.size,q,madeCells b.cells (q*i.size),rfl,adg _,kP w _,aa,l,size_madeCells _ _,?_⟩⟩;rw[ac,<-d]
 obtain⟨h1,h2,h3⟩:=lS hs hk (cs:=madeCells b.cells (q*i.size)) (t:=e) (e:=.row (.slice (some ⟨w.heap.size,0,none⟩) r q) e i.size r (List.replicate r b.cells.toList).flatten) rfl s;refine jY he hd (v:=.slice (some ⟨w.heap.size,0,none⟩) r q) (x:=.v (.slice (some ⟨w.heap.size,0,none⟩) r q)) ?_ h1 h2 rfl dA fS h3 f;simp only[execOp,ho,ey,ez,dc ag,dc ae,Sem.run_bind,hr,Result.andThen_ok,Sem.run_pure]
theorem Ef (u:St F L w) {k:Nat}{e:TypeId}{sz n n':Nat}{s v:Value}{xs f:List Value}{w':World}
  (l:L.get k=some (.row s e sz n xs)\/(L.get k=none/\s=.slice none 0 0)) (m:w'.ownsRow 0 e sz v n' f) (d:w.grownBy w' s.ownBlock)
  (q:v.ownBlock=s.ownBlock\/v.ownBlock=some w.heap.size) :
  St F (L.set k (.row v e sz n' f)) w'/\Step F L w F (L.set k (.row v e sz n' f)) w'/\(∀j g ty cs,L.get j=some (.box g ty cs)->∃cs',(L.set k (.row v e sz n' f)).get j=some (.box g ty cs')):=by
 have p:∀j g ty cs,L.get j=some (.box g ty cs)->∃cs',(L.set k (.row v e sz n' f)).get j=some (.box g ty cs'):=by
  intro j g ty cs z;rw[Loc.aa4];split
  ·rename_i hj;subst hj;rcases l with h | ⟨h,_⟩<;>rw[h] at z<;>cases z
  ·exact⟨cs,z⟩
 rcases l with t | ⟨t,rfl⟩
 ·refine⟨u.turn t m (fun b hb aa=>d.block b hb (fun e=>aa (by simpa[Own.blk] using e.symm))) (fun g c=>?_),⟨aJ.le_refl F,d.os,d.tape,d.output,d.size,fun b hb hn=>d.block b hb (fun e=>hn ⟨k,_,t,e.symm⟩),fun b h=>.inl h,fun b h=>?_⟩,p⟩
  ·rcases q with h | h
   ·exact .inl (by simp only[Own.blk] at c ⊢;rw[<-h];exact c)
   ·simp only[Own.blk] at c;rw[h] at c;injection c with c;exact .inr (by omega)
  ·rcases Loc.abl h with h | h
   ·simp only[Own.blk] at h;rcases q with r | r
    ·exact .inl ⟨k,_,t,by simp only[Own.blk];rw[<-r];exact h⟩
    ·rw[r] at h;injection h with h;exact .inr (by omega)
   ·exact .inl h
 ·have x:∀g,v.ownBlock=some g->w.heap.size<=g:=by
   intro g h;rcases q with r | r
   ·rw[r] at h;cases h
   ·rw[r] at h;injection h with h;omega
  have y:St F L w':=u.keep fun b hb=>d.block b hb (by simp[Value.ownBlock]);refine⟨y.put t m fun g c=>⟨?_,fun ho=>?_⟩,⟨aJ.le_refl F,d.os,d.tape,d.output,d.size,fun b hb hn=>d.block b hb (by simp[Value.ownBlock]),fun b h=>.inl h,fun b h=>?_⟩,p⟩
  ·cases hF:F g with
   | none=>rfl
   | some _=>have h1:=u.acs (b:=g) (by rw[hF];simp);have h2:=x g c;omega
  ·have h1:=u.acz ho;have h2:=x g c;omega
  ·rcases Loc.abl h with h | h
   ·exact .inr (x b h)
   ·exact .inl h
theorem zf {e:TypeId}{sz n:Nat}{v:Value}{xs:List Value}(h:w.ownsRow 0 e sz v n xs):∃a c,v=.slice a n c/\(a=none->n=0):=by
 rcases h.2 with⟨rfl,rfl⟩ | ⟨g,cap,b,rfl,_⟩
 ·exact⟨none,0,rfl,fun _=>rfl⟩
 ·exact⟨_,cap,rfl,fun e=>(by cases e)⟩
theorem ul {t ty e:TypeId}{i:TypeInfo}(h:P.underlying t=some (.slice e)) (hi:P.info? e=some i) {s:Value}{n:Nat}{xs:List Value}(b:w.ownsRow 0 e i.size s n xs) (f:Option Addr) (c:Nat) :
  ∃w',(Builtin.append_ #[t,t] ty #[s,.slice f 0 c]).run P w=.ok s w'/\w'=w:=by
 refine⟨w,?_,rfl⟩;have j:(Builtin.firstCells i.size 0 (.slice f 0 c)).run P w=.ok #[] w:=by
  cases f<;>simp[Builtin.firstCells,loadCells,loadCellsFrom]
 rcases b.2 with⟨rfl,rfl⟩ | ⟨g,cap,k,rfl,_,_,d,_⟩
 ·simp[Builtin.append_,run_underlying h,sizeOf,typeInfo,hi,Builtin.lenOf,j]
 ·simp[Builtin.append_,run_underlying h,sizeOf,typeInfo,hi,Builtin.lenOf,j,d,storeCells]
theorem Uf {t e:TypeId}{y z:Operand}{y' z':X}{i:TypeInfo}{zv:Value}{c:Call}(hs:St F L w) (he:aN L ρ a) (hd:∀k,o.dst=some k->k<a.tmps.size)
  (ho:o.op=.call c) (hc:c.callee=.builtin .append) (ha:c.args=#[y,z]) (bd:c.argTypes=#[t,t]) (ht:P.underlying t=some (.slice e)) (hi:P.info? e=some i) (bp:i.zero=some zv) (bo:zv.cells.size=i.size) (ar:0<i.size)
  (hy:cQ y=some y') (hz:cQ z=some z') (hK:evalOp P (.app e i.size i.bytes zv.cells.toList y' z') o.dst F L ρ K):o.wp P a w (bX F L w a K) Q:=by
 have ey:=aX hy he;have ez:=aX hz he;simp only[evalOp,aV] at hK;split at hK
 case h_2=>exact hK.elim
 rename_i s x bu bs;obtain⟨kd,n,xs,m,news,aE,⟨ad,cx,rfl,ae,ap⟩,h1,bm,bj,hK⟩:=hK;have an:m≠0->∃d,ad=some d/\∀j u,news[j]?=some u->w.cell? (d.add j)=some u:=by
  intro hm;rcases ap with p | ⟨al,_⟩ | ⟨k,v,ty,ci,m',ys,d,c',hk,rfl,rfl,p⟩
  ·obtain⟨d,e',bt,r⟩:=p.cell hs;refine⟨d,e',fun j u hu=>?_⟩;have:=r j u hu
   rwa [Nat.zero_add] at this
  ·exact s6 al hm
  ·refine⟨d,rfl,fun j u hu=>?_⟩;have q:=hs.own k _ hk;simp only[Own.ok] at q;have h0:=World.ownsRow.cells q (g:=d.block) rfl j u (p j u hu);rcases q.2 with⟨e',_⟩ | ⟨g,cap,am,e',_⟩
   ·cases e'
   ·injection e' with e1 e2 e3
    injection e1 with e1
    subst e1;exact h0
 have az:(L.get kd=some (.row s e i.size n xs)\/(L.get kd=none/\n=0/\xs=[]/\s=.slice none 0 0))\/(L.get kd=none/\∃ad,s=.slice (some ad) n n/\0<m/\xs.length=n*i.size/\(cC F (some ad) 0 xs\/(n=0/\xs=[]))):=by
  rcases aE with h | h | h
  ·exact .inl (.inl h)
  ·exact .inl (.inr h)
  ·exact .inr h
 rcases az with av | ⟨bl,bx,rfl,al,cz,cf⟩
 case inr =>
  obtain⟨d,rfl,l⟩:=an (by omega);have cp:∀j u,xs[j]?=some u->w.cell? (bx.add j)=some u:=by
   intro j u hu;rcases cf with p | ⟨_,rfl⟩
   ·obtain⟨ds,e',bt,r⟩:=p.cell hs;injection e' with e'
    subst e';have:=r j u hu
    rwa [Nat.zero_add] at this
   ·simp at hu
  obtain⟨v,w',q,f,hg⟩:=run_append_arg_grows (P:=P) w t o.type e i zv i.size i.bytes ht hi bp rfl rfl bo ar bx n n xs cz cp d m cx news ae l (by omega) bm bj;have ac:w'.ownsRow 0 e i.size v (n+m) (xs++news):=by
   refine⟨f.1,?_⟩;rcases f.2 with h | ⟨g,cap,am,e1,e2,e3⟩
   ·exact .inl h
   ·exact .inr ⟨g,cap,am,e1,adg _,e3⟩
  have ax:v.ownBlock=none\/(∃g,v.ownBlock=some g/\w.heap.size<=g):=by
   rcases f.2 with⟨h,_⟩ | ⟨g,cap,am,e1,e2,e3⟩
   ·rw[h];exact .inl rfl
   ·rw[e1];exact .inr ⟨g,rfl,e2⟩
  have hv:∀g,v.ownBlock=some g->w.heap.size<=g:=by
   intro g h;rcases ax with h' | ⟨g',h',h2⟩
   ·rw[h'] at h;cases h
   ·rw[h'] at h;injection h with h;omega
  have cw:St F L w':=hs.keep fun b hb=>hg.block b hb (by simp);have cr:St F (L.set kd (.row v e i.size (n+m) (xs++news))) w':=cw.put bl ac fun g bk=>⟨by
   cases hF:F g with
   | none=>rfl
   | some _=>have h1:=hs.acs (b:=g) (by rw[hF];simp);have h2:=hv g bk;omega,fun ho=>by have h1:=hs.acz ho;have h2:=hv g bk;omega⟩
  have ba:Step F L w F (L.set kd (.row v e i.size (n+m) (xs++news))) w':=⟨aJ.le_refl F,hg.os,hg.tape,hg.output,hg.size,fun b hb hn=>hg.block b hb (by simp),fun b h=>.inl h,fun b h=>by
   rcases Loc.abl h with h | h
   ·exact .inr (hv b h)
   ·exact .inl h⟩
  have bi:∀j g ty cs,L.get j=some (.box g ty cs)->∃cs',(L.set kd (.row v e i.size (n+m) (xs++news))).get j=some (.box g ty cs'):=by
   intro j g ty cs ej;rw[Loc.aa4,s8 (by rintro rfl;rw[bl] at ej;cases ej)];exact⟨cs,ej⟩
  refine jY he hd (v:=v) (x:=.v v) ?_ cr ba rfl dA fS bi (hK v (zf ac));simp[execOp,ho,resolve,hc,ha,bd,invoke,builtin,ey,ez,dc bu,dc bs,q]
 have aa:w.ownsRow 0 e i.size s n xs:=by
  rcases av with h | ⟨_,rfl,rfl,rfl⟩
  ·exact hs.own kd _ h
  ·exact World.ownsRow_nil w 0 e i.size
 have ay:L.get kd=some (.row s e i.size n xs)\/(L.get kd=none/\s=.slice none 0 0):=by
  rcases av with h | ⟨h,_,_,h'⟩
  ·exact .inl h
  ·exact .inr ⟨h,h'⟩
 have fin:∀(v:Value) (w':World),(Builtin.append_ #[t,t] o.type #[s,.slice ad m cx]).run P w=.ok v w'->w'.ownsRow 0 e i.size v (n+m) (xs++news)->w.grownBy w' s.ownBlock->(v.ownBlock=s.ownBlock\/v.ownBlock=some w.heap.size)->o.wp P a w (bX F L w a K) Q:=by
  intro v w' q f hg ax;obtain⟨g1,g2,g3⟩:=Ef hs ay f hg ax;refine jY he hd (v:=v) (x:=.v v) ?_ g1 g2 rfl dA fS g3 (hK v (zf f));simp[execOp,ho,resolve,hc,ha,bd,invoke,builtin,ey,ez,dc bu,dc bs,q]
 by_cases hm:m=0
 ·subst hm;have hn:news=[]:=ade (by simpa using ae);subst hn;obtain⟨w',q,rfl⟩:=ul (P:=P) (ty:=o.type) ht hi aa ad cx;exact fin s w' q (by simpa using aa) (World.grownBy.refl _ _) (.inl rfl)
 ·have l:∃d,ad=some d/\∀j u,news[j]?=some u->w.cell? (d.add j)=some u:=by
   rcases ap with p | ⟨al,_⟩ | ⟨k,v,ty,ci,m',ys,d,c',hk,rfl,rfl,p⟩
   ·obtain⟨d,e',bt,r⟩:=p.cell hs;refine⟨d,e',fun j u hu=>?_⟩;have:=r j u hu
    rwa [Nat.zero_add] at this
   ·exact s6 al hm
   ·refine⟨d,rfl,fun j u hu=>?_⟩;have q:=hs.own k _ hk;simp only[Own.ok] at q;have h0:=World.ownsRow.cells q (g:=d.block) rfl j u (p j u hu);rcases q.2 with⟨e',_⟩ | ⟨g,cap,am,e',_⟩
    ·cases e'
    ·injection e' with e1 e2 e3
     injection e1 with e1
     subst e1;exact h0
  obtain⟨d,rfl,l⟩:=l;obtain⟨v,w',q,h2,h3,_,h5⟩:=run_append_own_at (P:=P) w 0 t o.type e i zv i.size i.bytes ht hi bp rfl rfl bo ar s n xs aa d m cx news ae l h1 bm bj (adg _);exact fin v w' q h2 h3 h5
theorem OT {t p e:TypeId}{kn kz:IntKind}{y z:Operand}{y' z':X}{i:TypeInfo}{c:Call}(hs:St F L w) (he:aN L ρ a) (hd:∀k,o.dst=some k->k<a.tmps.size)
  (ho:o.op=.call c) (hc:c.callee=.builtin .append) (ha:c.args=#[y,z]) (q:c.argTypes=#[t,p]) (ht:P.underlying t=some (.slice e)) (r:P.underlying p=some (.int kn)) (hi:P.info? e=some i) (ad:i.zero=some (.int kz 0)) (ac:i.size=1)
  (hy:cQ y=some y') (hz:cQ z=some z') (d:evalOp P (.appZ e i.bytes kz y' z') o.dst F L ρ K):o.wp P a w (bX F L w a K) Q:=by
 have ey:=aX hy he;have ez:=aX hz he;simp only[evalOp,aV] at d;split at d
 case h_2=>exact d.elim
 rename_i s kx x al ag;split at d
 case h_2=>exact d.elim
 rename_i m;obtain⟨u,n,xs,b,aa,ak,d⟩:=d;have l:w.ownsRow 0 e 1 s n xs:=by
  rcases b with h | ⟨_,rfl,rfl,rfl⟩
  ·exact hs.own u _ h
  ·exact World.ownsRow_nil w 0 e 1
 have f:L.get u=some (.row s e 1 n xs)\/(L.get u=none/\s=.slice none 0 0):=by
  rcases b with h | ⟨h,_,_,h'⟩
  ·exact .inl h
  ·exact .inr ⟨h,h'⟩
 obtain⟨v,w',hr,h2,h3,ab⟩:=rB (P:=P) w 0 t p o.type e i kx kz kn ht r hi ad ac s n xs l m aa ak (adg _);obtain⟨g1,g2,g3⟩:=Ef hs f h2 h3 ab;have j:(Builtin.append_ #[t,p] o.type #[s,.int kx (Int.ofNat m)]).run P w=.ok v w':=hr;refine jY he hd (v:=v) (x:=.v v) ?_ g1 g2 rfl dA fS g3 (d v (zf h2));simp at j;simp[execOp,ho,resolve,hc,ha,q,invoke,builtin,ey,ez,dc al,dc ag,j]
end
section
variable {P:Program}{F:aJ}{L:Loc}{ρ:Env}{a:Act}{w:World}{K:dP}{o:Oper}{Q:Exit->Act->World->Prop}
theorem wR:∀(l:List Own) (k j:Nat),Loc.get (mg k l) j=if k<=j then l[j-k]? else none
 | [],k,j=>by simp[mg,Loc.get]
 | o::l,k,j=>by
  simp only[mg,Loc.get];cases h:Nat.beq k j with
  | true=>have:=vz h;subst this;simp
  | false =>
   have c:=gF h;simp only[wR l (k+1) j]
   by_cases b:k<=j
   ·rw[o6 (by omega),o6 b,show j-k=(j-(k+1))+1 by omega,ady]
   ·rw[s8 (by omega),s8 b]
theorem bE (l:List Own) (j:Nat):Loc.get (inp l) j=if 1000<=j then l[j-1000]? else none:=wR l 1000 j
theorem fE:∀{L:Loc}{ks:List Nat}{l:List Own},L.sub ks=some l->l.length=ks.length/\∀(i:Nat) (k:Nat),ks[i]?=some k->L.get k=l[i]?
 | L,[],l,h=>by simp only[Loc.sub,w7] at h;subst h;simp
 | L,k::ks,l,h=>by
  simp only[Loc.sub] at h;split at h
  case h_2=>cases h
  rename_i o j b c;injection h with h
  subst h;obtain⟨d,f⟩:=fE c;refine⟨by simp[d],fun i e hi=>?_⟩;cases i with
  | zero=>simp at hi;subst hi;simpa using b
  | succ i=>simp at hi;simpa using f i e hi
theorem gH:∀(ks:List Nat) (L:Loc) (j:Nat),(L.aa7 ks).get j=if j∈ks then none else L.get j
 | [],L,j=>by simp[Loc.aa7]
 | k::ks,L,j=>by
  simp only[Loc.aa7,gH ks,Loc.abg,acQ]
  by_cases b:j=k<;>by_cases c:j∈ks<;>simp[b,c]
theorem eH:∀(ko:List Nat) (l:List Own) (L:Loc) (j:Nat),ko.Nodup->ko.length=l.length ->
  ((L.puts ko l).get j=L.get j/\j∉ko)\/∃i,ko[i]?=some j/\(L.puts ko l).get j=l[i]?/\i<l.length
 | [],l,L,j,_,h=>by
  refine .inl ⟨?_,by simp⟩;cases l<;>rfl
 | k::ko,[],L,j,_,h=>by simp at h
 | k::ko,o::l,L,j,e,h=>by
  simp only[xo,Nat.add_right_cancel_iff] at h;rw[List.nodup_cons] at e;simp only[Loc.puts];rcases eH ko l (L.set k o) j e.2 h with⟨b,c⟩ | ⟨i,b,c,f⟩
  ·rw[Loc.aa4] at b
   by_cases d:j=k
   ·subst d;rw[o6 rfl] at b;exact .inr ⟨0,by simp,by simpa using b,by simp⟩
   ·rw[s8 d] at b;exact .inl ⟨b,by simp[d,c]⟩
  ·exact .inr ⟨i+1,by simpa using b,by simpa using c,by simp;omega⟩
theorem BD {l:List Nat}(h:l.Nodup) {i j:Nat}{k:Nat}(hi:l[i]?=some k) (b:l[j]?=some k):i=j:=by
 induction l generalizing i j with
 | nil=>simp at hi
 | cons x l c =>
  rw[List.nodup_cons] at h;cases i with
  | zero =>
   cases j with
   | zero=>rfl
   | succ j =>
    simp at hi b;subst hi;exact s6 (acS b) h.1
  | succ i =>
   cases j with
   | zero =>
    simp at hi b;subst b;exact s6 (acS hi) h.1
   | succ j =>
    simp at hi b;rw[c h.2 hi b]
theorem St.handed (b:St F L w) {ks:List Nat}{l:List Own}(c:L.sub ks=some l) (u:ks.Nodup):St F (inp l) w:=by
 obtain⟨hl,x⟩:=fE c;have key:∀j p,Loc.get (inp l) j=some p->∃k,1000<=j/\ks[j-1000]?=some k/\L.get k=some p:=by
  intro j p e;rw[bE] at e;split at e
  case isFalse=>cases e
  rename_i q;have y:j-1000<l.length:=(acP.1 e).1;have n:ks[j-1000]?=some (ks[j-1000]'(by omega)):=w8 (by omega);exact⟨_,q,n,by rw[x _ _ n];exact e⟩
 refine⟨b.frz,fun j p e=>?_,fun j p g e hb=>?_,fun j j' p r g e e' hb d=>?_,b.glob⟩
 ·obtain⟨k,_,_,h⟩:=key j p e;exact b.own k p h
 ·obtain⟨k,_,_,h⟩:=key j p e;exact b.off k p g h hb
 ·obtain⟨k,q,s,z⟩:=key j p e;obtain⟨t,v,f,m⟩:=key j' r e';have:=b.sep k t p r g z m hb d;subst this;have:=BD u s f;omega
theorem kh (z:St F L w) {ks ko:List Nat}{l lo:List Own}(ac:L.sub ks=some l) (hn:ks.Nodup) (y:ko.Nodup) (ar:∀k,k∈ko->k∈ks\/L.get k=none)
  {F':aJ}{w':World}(s:St F' (inp lo) w') (f:Step F (inp l) w F' (inp lo) w') (aa:ko.length=lo.length) :
  St F' ((L.aa7 ks).puts ko lo) w'/\Step F L w F' ((L.aa7 ks).puts ko lo) w':=by
 obtain⟨hl,hg⟩:=fE ac;have n:∀b,(inp l).owns b->∃k o,k∈ks/\L.get k=some o/\o.blk=some b:=by
  rintro b ⟨j,p,e,hb⟩;rw[bE] at e;split at e
  case isFalse=>cases e
  have ay:j-1000<l.length:=(acP.1 e).1;have hk:ks[j-1000]?=some (ks[j-1000]'(by omega)):=w8 (by omega);exact⟨_,p,acS hk,by rw[hg _ _ hk];exact e,hb⟩
 have m:∀k p b,k∉ks->L.get k=some p->p.blk=some b->¬(inp l).owns b:=by
  intro k p b hk e hb ho;obtain⟨x,o,am,e',d⟩:=n b ho;exact hk (by rw[z.sep k x p o b e e' hb d];exact am)
 have get:∀k p,((L.aa7 ks).puts ko lo).get k=some p->(k∉ks/\k∉ko/\L.get k=some p)\/∃i,ko[i]?=some k/\Loc.get (inp lo) (1000+i)=some p:=by
  intro k p e;rcases eH ko lo (L.aa7 ks) k y aa with⟨q,c⟩ | ⟨i,q,c,v⟩
  ·rw[q,gH] at e;split at e
   ·cases e
   ·rename_i v;exact .inl ⟨v,c,e⟩
  ·rw[c] at e;exact .inr ⟨i,q,by rw[bE,o6 (by omega),show 1000+i-1000=i by omega];exact e⟩
 refine⟨⟨s.frz,fun k p e=>?_,fun k p b e hb=>?_,fun k x p u b e e' hb d=>?_,s.glob⟩,⟨f.le,f.os,f.tape,f.output,f.size,fun b hb y=>?_,fun b hb=>?_,fun b hb=>?_⟩⟩
 ·rcases get k p e with⟨q,_,c⟩ | ⟨i,_,c⟩
  ·exact Own.ack (z.own k p c) fun g ad=>f.same g (Own.abX (z.own k p c) ad) (m k p g q c ad)
  ·exact s.own _ p c
 ·rcases get k p e with⟨q,_,c⟩ | ⟨i,_,c⟩
  ·cases hF:F' b with
   | none=>rfl
   | some _ =>
    rcases f.frz b (by rw[hF];simp) with v | v | v
    ·exact s6 (z.off k p b c hb) v
    ·exact s6 v (m k p b q c hb)
    ·have:=Own.abX (z.own k p c) hb;omega
  ·exact s.off _ p b c hb
 ·have r:∀k p i u,k∉ks->L.get k=some p->Loc.get (inp lo) (1000+i)=some u->p.blk=some b->u.blk=some b->False:=by
   intro k p i u q c v h4 h5;rcases f.own b ⟨_,u,v,h5⟩ with h6 | h6
   ·exact m k p b q c h4 h6
   ·have:=Own.abX (z.own k p c) h4;omega
  rcases get k p e with⟨q,_,c⟩ | ⟨i,hi,c⟩<;>rcases get x u e' with⟨ak,_,t⟩ | ⟨i',ae,t⟩
  ·exact z.sep k x p u b c t hb d
  ·exact(r k p i' u q c t hb d).elim
  ·exact(r x u i p ak t c d hb).elim
  ·have:=s.sep _ _ p u b c t hb d;have:i=i':=by omega
   subst this;rw[hi] at ae;injection ae
 ·refine f.same b hb fun ho=>?_;obtain⟨k,o,_,e,d⟩:=n b ho;exact y ⟨k,o,e,d⟩
 ·rcases f.frz b hb with h | h | h
  ·exact .inl h
  ·obtain⟨k,o,_,e,d⟩:=n b h;exact .inr (.inl ⟨k,o,e,d⟩)
  ·exact .inr (.inr h)
 ·obtain⟨k,p,e,d⟩:=hb;rcases get k p e with⟨q,_,c⟩ | ⟨i,_,c⟩
  ·exact .inl ⟨k,p,c,d⟩
  ·rcases f.own b ⟨_,p,c,d⟩ with h | h
   ·obtain⟨x,o,_,e',ab⟩:=n b h;exact .inl ⟨x,o,e',ab⟩
   ·exact .inr h
theorem yc {f:Nat}{args:List Value}(hs:St F L w) (he:aN L ρ a) (hd:∀k,o.dst=some k->k<a.tmps.size)
  (hrun:(∃fn,P.funcs[f]?=some fn/\fn.body.isSome=true/\(fn.name == "runtime.NumGoroutine")=false)->(execOp a.eval o).run P w=.ok (.enter f args.toArray) w)
  (hK:eX P f args F L fun F' L' v=>K F' L' (put o.dst (.v v) ρ)):o.wp P a w (bX F L w a K) Q:=by
 obtain⟨ks,ko,l,R,hsub,hn,hno,hko,hc,hK⟩:=hK;unfold Oper.wp;rw[hrun hc.ent];rw[Oper.upon_enter];refine(hc.run w (hs.handed hsub hn)).mono ?_;rintro e w' ⟨v,F',lo,rfl,hs',hst,hR⟩;obtain⟨hlen,hbox,hK⟩:=hK v F' lo hst.le hR;obtain⟨h1,h2⟩:=kh hs hsub hn hno hko hs' hst hlen;refine⟨F',_,_,h1,he.put hd (x:=.v v) rfl dA fS ?_,mD _ _ _,iL _ _ _,h2,hK⟩;intro k g ty cs e
 by_cases hk:k∈ks
 ·exact hbox k g ty cs hk e
 ·rcases eH ko lo (L.aa7 ks) k hno hlen with⟨h1,h2⟩ | ⟨i,h1,h2,h3⟩
  ·rw[h1,gH,s8 hk];exact⟨cs,e⟩
  ·rcases hko k (acS h1) with h | h
   ·exact s6 h hk
   ·rw[h] at e;cases e
theorem kR {f:Nat}{args:Array Value}(h:∃fn,P.funcs[f]?=some fn/\fn.body.isSome=true/\(fn.name == "runtime.NumGoroutine")=false):(callFunc f args).run P w=.ok (.enter f args) w:=by
 obtain⟨fn,h1,h2,h3⟩:=h;have h4:fn.body≠none:=by intro hb;rw[hb] at h2;cases h2
 have h5:fn.name≠"runtime.NumGoroutine":=by simpa using h3
 simp[callFunc,h1,h4,h5]
theorem OU {f:Nat}{args:List X}{c:Call}(q:St F L w) (h:aN L ρ a) (j:∀k,o.dst=some k->k<a.tmps.size)
  (n:o.op=.call c) (l:c.callee=.value (.func f)) (p:iw c.args.toList=some args) (m:evalOp P (.call f args) o.dst F L ρ K):o.wp P a w (bX F L w a K) Q:=by
 refine yc q h j (fun d=>?_) m;have e:=gG p h;have b:c.args.map a.eval=(bQ L ρ args).toArray:=by apply Array.ext';simpa using e
 simp[execOp,n,resolve,l,Deferred.ofValue,Act.eval,invoke,b,kR d]
theorem kS {t:TypeId}{nm:String}{u:Value}{f:Nat}{args:Array Value}(hf:pB P t nm=some f) (h:∃fn,P.funcs[f]?=some fn/\fn.body.isSome=true/\(fn.name == "runtime.NumGoroutine")=false) :
  (callMethod (.iface t u) nm args).run P w=.ok (.enter f (#[u]++args)) w:=by
 have:=Jt (P:=P) hf u w;simp only[callMethod,Sem.run_bind,run_program,Result.andThen_ok,this];exact kR h
theorem Eg {V:SV}{v:Value}{args:List Value}{f:Nat}{fi ca:List Value}(hf:oF P V=some (f,fi,ca)) (hv:∀x,V=.v x->v=x) (h:∃fn,P.funcs[f]?=some fn/\fn.body.isSome=true/\(fn.name == "runtime.NumGoroutine")=false) :
  (do let d <-Deferred.ofValue v args.toArray;invoke d.target d.args:Sem Next).run P w=.ok (.enter f (fi++args++ca).toArray) w:=by
 unfold oF at hf;split at hf
 ·rename_i f' fi' ca';injection hf with hf
  injection hf with e1 e2
  injection e2 with e2 e3
  subst e1 e2 e3;rw[hv _ rfl];have hall:fi'++(args.toArray++ca')=(fi'.toList++args++ca'.toList).toArray:=by apply Array.ext';simp
  simp[Deferred.ofValue,invoke];rw[kR h];simp
 ·rename_i nm fi' ca';split at hf
  case h_2=>cases hf
  rename_i t u hfi;split at hf
  case h_2=>cases hf
  rename_i f' hm;injection hf with hf
  injection hf with e1 e2
  injection e2 with e2 e3
  subst e1 e2 e3;have hfi':fi'=#[.iface t u]:=by apply Array.ext';exact hfi
  rw[hv _ rfl,hfi'];have hx:(#[Value.iface t u]++args.toArray).extract 1 (#[Value.iface t u]++args.toArray).size=args.toArray:=by apply Array.ext';simp
  have h0:(#[Value.iface t u]++args.toArray)[0]?=some (.iface t u):=by simp
  have:=kS (w:=w) (u:=u) (args:=args.toArray) hm h;simp only[Deferred.ofValue,Sem.run_bind,Sem.run_pure,Result.andThen_ok,invoke,h0,hx,this];simp
 ·cases hf
theorem KQ {y:Operand}{z:X}{args:List X}{c:Call}(hs:St F L w) (p:aN L ρ a) (hd:∀k,o.dst=some k->k<a.tmps.size)
  (ho:o.op=.call c) (hc:c.callee=.value y) (hy:cQ y=some z) (ha:iw c.args.toList=some args) (n:evalOp P (.callV z args) o.dst F L ρ K):o.wp P a w (bX F L w a K) Q:=by
 have ey:=aX hy p;have s:=gG ha p;have l:c.args.map a.eval=(bQ L ρ args).toArray:=by apply Array.ext';simpa using s
 have m:∀x,ev ρ z=.v x->a.eval y=x:=fun x e=>by rw[ey,dc e]
 simp only[evalOp] at n;split at n
 ·rename_i f fi ca d;refine yc hs p hd (fun j=>?_) n;have:=Eg (w:=w) (args:=bQ L ρ args) d m j;simp only[execOp,ho,resolve,hc,l];exact this
 ·split at n
  case h_2=>exact n.elim
  rename_i f aa d;unfold Bt at d;split at d
  case h_2=>cases d
  rename_i t nm ca t' u h ab b;split at d
  case h_2=>cases d
  rename_i ms hu;split at d
  case h_2=>cases d
  rename_i f' hm;injection d with d
  injection d with e1 e2
  subst e1 e2;refine yc hs p hd (fun j=>?_) n;have h0:(#[]++(bQ L ρ args).toArray)[0]?=some (.iface t' u):=by rw[b];simp
  have hx:(#[]++(bQ L ρ args).toArray).extract 1 (#[]++(bQ L ρ args).toArray).size=h.toArray:=by rw[b];apply Array.ext';simp
  have:=kS (w:=w) (u:=u) (args:=h.toArray) hm j;simp only[execOp,ho,resolve,hc,l,m _ ab,Deferred.ofValue,Sem.run_bind,Sem.run_pure,Result.andThen_ok,invoke];have r:((⟨[]⟩:Array Value)++(bQ L ρ args).toArray)[0]?=some (.iface t' u):=h0;simp only[r,Sem.run_bind,run_underlying hu,Result.andThen_ok];have q:((⟨[]⟩:Array Value)++(bQ L ρ args).toArray).extract 1 ((⟨[]⟩:Array Value)++(bQ L ρ args).toArray).size=h.toArray:=hx;simp only[q,this];simp
theorem Ug {n:Nat}{nm:String}{args:List X}{c:Call}(hs:St F L w) (z:aN L ρ a) (hd:∀k,o.dst=some k->k<a.tmps.size)
  (ho:o.op=.call c) (hc:c.callee=.invoke (.tmp n) nm) (ha:iw c.args.toList=some args) (l:evalOp P (.callV (.mt nm n) args) o.dst F L ρ K):o.wp P a w (bX F L w a K) Q:=by
 have q:=gG ha z;have e:c.args.map a.eval=(bQ L ρ args).toArray:=by apply Array.ext';simpa using q
 simp only[evalOp,ev] at l;split at l
 ·rename_i f fi ca d;refine yc hs z hd (fun h=>?_) l;cases m:ρ n with
  | own k off=>rw[m] at d;cases d
  | el b j=>rw[m] at d;cases d
  | v x =>
   rw[m] at d;have hx:a.eval (.tmp n)=x:=by
    have:=z.eq n;rw[m] at this;exact this
   simp only[Wm,oF] at d;split at d
   case h_2=>cases d
   rename_i t u p;split at d
   case h_2=>cases d
   rename_i f' hm;injection d with d
   injection d with e1 e2
   injection e2 with e2 e3
   subst e1 e2 e3;have y:x=.iface t u:=by simpa using p
   subst y;have r:(#[Value.iface t u]++(bQ L ρ args).toArray).extract 1 (#[Value.iface t u]++(bQ L ρ args).toArray).size=(bQ L ρ args).toArray:=by apply Array.ext';simp
   have h0:(#[Value.iface t u]++(bQ L ρ args).toArray)[0]?=some (.iface t u):=by simp
   have:=kS (w:=w) (u:=u) (args:=(bQ L ρ args).toArray) hm h;simp only[execOp,ho,resolve,hc,e,hx,Sem.run_bind,Sem.run_pure,Result.andThen_ok,invoke,h0,r,this];simp
 ·split at l
  case h_2=>exact l.elim
  rename_i f s d;exfalso
  revert d
  cases ρ n<;>simp[Wm,Bt,undef]
theorem CH (w:World) (k r ty elem:TypeId) (g o c h:Nat) (s:ByteArray) (d:Array Value) (t:TypeId)
  (x:P.underlying k=some (.slice elem)) (l:(P.info? elem).map (·.size)=some 1)
  (q:w.heap[g]?=some (.cells d t (0,0))) (j:o+min s.size c<=d.size) :
  (Builtin.copy_ #[k,r] ty #[.slice (some ⟨g,o,none⟩) c h,.string s]).run P w =
   .ok (goInt (min s.size c:Nat)) (w.setRow g (bq d.toList o ((s.data.toList.take c).map fun b=>Value.int .u8 b.toNat)).toArray):=by
 have u:((s.data.toList.take c).map fun b=>Value.int .u8 b.toNat).length=min s.size c:=by
  rw[ac1,ac2,Nat.min_comm,Array.length_toList];rfl
 have f:=run_storeCells_at P g o t ((s.data.toList.take c).map fun b=>Value.int .u8 b.toNat) 0 d w q (by rw[u];simpa using j) (fun v n=>by
  obtain⟨b,_,rfl⟩:=adi.1 n;rfl)
 rw[Nat.add_zero] at f;have p:List.take (s.size.min c) (List.map (fun b=>Value.int IntKind.u8 b.toNat) s.data.toList)=(s.data.toList.take c).map fun b=>Value.int .u8 b.toNat:=by
  have m:s.size=s.data.toList.length:=by simp
  rw[<-List.map_take,m];congr 1;rw[show Nat.min s.data.toList.length c=min s.data.toList.length c from rfl,Nat.min_comm,<-List.take_take,List.take_length]
 generalize(s.data.toList.take c).map (fun b=>Value.int .u8 b.toNat)=news at *;cases e:P.info? elem with
 | none=>simp[e] at l
 | some i =>
  have hi:i.size=1:=by simpa[e] using l
  simp[Builtin.copy_,run_underlying x,Builtin.lenOf,Builtin.firstCells,sizeOf,typeInfo,e,hi,p,f,bq]
theorem Hz {t t' e:TypeId}{y z:Operand}{y' z':X}{i:TypeInfo}{c:Call}(hs:St F L w) (he:aN L ρ a) (hd:∀k,o.dst=some k->k<a.tmps.size)
  (ho:o.op=.call c) (hc:c.callee=.builtin .copy) (ha:c.args=#[y,z]) (bi:c.argTypes=#[t,t']) (ht:P.underlying t=some (.slice e)) (hi:P.info? e=some i) (bv:i.size=1)
  (hy:cQ y=some y') (hz:cQ z=some z') (hK:evalOp P (.copy e i.size y' z') o.dst F L ρ K):o.wp P a w (bX F L w a K) Q:=by
 have ey:=aX hy he;have ez:=aX hz he;rw[bv] at hK;simp only[evalOp] at hK;split at hK
 case h_3=>exact hK.elim
 case h_1 =>
  rename_i dv str an bc;obtain⟨k,n,v,s,xs,ad,cr,cd,j,hk,rfl,rfl,cX,hK⟩:=hK;have az:(P.info? e).map (·.size)=some 1:=by rw[hi];simp[bv]
  have l:=hs.own k _ hk;simp only[Own.ok] at l;obtain⟨hx,l⟩:=l;rcases l with⟨e',_⟩ | ⟨g,cap,d,e',bt,hg,bp,bm,aa,p⟩
  ·cases e'
  injection e' with e1 e2 e3
  injection e1 with e1
  subst e1 e3;simp only[Nat.mul_one] at hx aa p;have hl:((str.data.toList.take n).map fun b=>Value.int .u8 b.toNat).length=min str.size n:=by
   rw[ac1,ac2,Nat.min_comm,Array.length_toList];rfl
  generalize bj:(str.data.toList.take n).map (fun b=>Value.int .u8 b.toNat)=news at hl hK;have ae:j+news.length<=s:=by rw[hl];omega
  have r:j+news.length<=d.size:=by omega
  have f:=nF w g (bq d.toList j news).toArray;have al:∀(ar:List Value) i' g' ag cs',L.get i'=some (.box g' ag cs')->∃ay,(L.set k (.row (.slice (some ⟨g,0,none⟩) s cr) e 1 s ar)).get i'=some (.box g' ag ay):=by
   intro ar i' g' ag cs' ej;rw[Loc.aa4,s8 (by rintro rfl;rw[hk] at ej;cases ej)];exact⟨cs',ej⟩
  have ap:Own.ok (w.setRow g (bq d.toList j news).toArray) (.row (.slice (some ⟨g,0,none⟩) s cr) e 1 s (bq xs j news)):=by
   refine⟨?_,.inr ⟨g,cr,_,rfl,bt,setRow_heap w g d _ e _ hg,bp,bm,?_,?_⟩⟩
   ·rw[gu _ _ _ (by rw[hx];exact ae),hx,Nat.mul_one]
   ·have:(bq d.toList j news).length=d.size:=by rw[gu _ _ _ (by simpa using r)];simp
    simp[this,aa]
   ·rw[Nat.mul_one,List.toList_toArray,<-p];apply adt;intro q;have bs:j+news.length<=d.toList.length:=by simpa using r
    rw[ji (by rw[ac2];simp;omega)]
    by_cases hn:q<s
    ·rw[List.getElem?_take_of_lt hn,ji bs,List.getElem?_take_of_lt hn]
    ·rw[ac3 (by simp;omega)];have h1:¬q<j:=by omega
     have h2:¬q<j+news.length:=by omega
     rw[s8 h1,s8 h2,ac3 (by simp;omega)]
  have aw:St F (L.set k (.row (.slice (some ⟨g,0,none⟩) s cr) e 1 s (bq xs j news))) (w.setRow g (bq d.toList j news).toArray) :=
   hs.turn hk ap (fun b ak bu=>f.block b ak (fun e=>bu (by rw[e];rfl))) (fun g' ao=>.inl ao)
  refine jY he hd (v:=.int .i64 (min str.size n:Nat)) (x:=.v (.int .i64 (min str.size n:Nat))) ?_ aw ?_ rfl dA fS (al _) hK
  ·have ce:(⟨g,0,none⟩:Addr).add j=⟨g,j,none⟩:=by rw[cZ,Nat.zero_add]
   have:=CH (P:=P) w t t' o.type e g j n cd str d e ht az hg (by rw[<-hl];exact r);rw[bj] at this;rw[ce] at an;simp[execOp,ho,resolve,hc,ha,bi,invoke,builtin,ey,ez,dc an,dc bc,this,goInt]
  ·refine⟨aJ.le_refl F,rfl,rfl,rfl,f.size,fun b ak hn=>f.block b ak (fun e=>hn ⟨k,_,hk,by rw[e];rfl⟩),fun b h=>.inl h,fun b h=>?_⟩;rcases Loc.abl h with h | h
   ·exact .inl ⟨k,_,hk,h⟩
   ·exact .inl h
 rename_i dv xv _ an bc;have az:(P.info? e).map (·.size)=some 1:=by rw[hi];simp[bv]
 obtain⟨⟨k,n,v,s,xs,ad,cr,cd,j,m,ax,cx,news,hk,rfl,rfl,cX,rfl,ab,ca,h1,hK⟩ | ⟨da,n,cd,ax,m,cx,rfl,rfl,h0,hK⟩⟩:=hK
 rotate_left
 ·have ba:∀v:Value,(execOp a.eval o).run P w=(do pure (.value (<-Builtin.copy_ #[t,t'] o.type #[.slice da n cd,.slice ax m cx])):Sem Next).run P w:=by
   intro v;simp[execOp,ho,resolve,hc,ha,bi,invoke,builtin,ey,ez,dc an,dc bc]
  refine cT hs he hd (v:=.int .i64 0) (x:=.v (.int .i64 0)) ?_ rfl dA fS hK;rw[ba undef];have:=run_copy_none (P:=P) w t t' o.type e da ax n cd m cx ht az h0;simp[this,goInt]
 rw[Nat.mul_one] at ab;have l:=hs.own k _ hk;simp only[Own.ok] at l;obtain⟨hx,l⟩:=l;rcases l with⟨e',_⟩ | ⟨g,cap,d,e',bt,hg,bp,bm,aa,p⟩
 ·cases e'
 injection e' with e1 e2 e3
 injection e1 with e1
 subst e1 e3;simp only[Nat.mul_one] at hx aa p hK an;have al:∀(ar:List Value) i' g' ag cs',L.get i'=some (.box g' ag cs')->∃ay,(L.set k (.row (.slice (some ⟨g,0,none⟩) s cr) e 1 s ar)).get i'=some (.box g' ag ay):=by
  intro ar i' g' ag cs' ej;rw[Loc.aa4,s8 (by rintro rfl;rw[hk] at ej;cases ej)];exact⟨cs',ej⟩
 have ba:∀v:Value,(execOp a.eval o).run P w=(do pure (.value (<-Builtin.copy_ #[t,t'] o.type #[.slice (some ((⟨g,0,none⟩:Addr).add j)) n cd,.slice ax m cx])):Sem Next).run P w:=by
  intro v;simp[execOp,ho,resolve,hc,ha,bi,invoke,builtin,ey,ez,dc an,dc bc]
 by_cases h0:min m n=0
 ·have:news=[]:=ade (by rw[ab,h0]);subst this;have cc:bq xs j []=xs:=by simp[bq]
  rw[cc,h0] at hK;have ap:Own.ok w (.row (.slice (some ⟨g,0,none⟩) s cr) e 1 s xs):=by
   have:=hs.own k _ hk;exact this
  have aw:St F (L.set k (.row (.slice (some ⟨g,0,none⟩) s cr) e 1 s xs)) w:=hs.turn hk ap (fun _ _ _=>rfl) (fun g' ao=>.inl ao);refine jY he hd (v:=.int .i64 0) (x:=.v (.int .i64 0)) ?_ aw ?_ rfl dA fS (al xs) hK
  ·rw[ba undef];have:=run_copy_none (P:=P) w t t' o.type e (some ((⟨g,0,none⟩:Addr).add j)) ax n cd m cx ht az h0;simp[this,goInt]
  ·refine⟨aJ.le_refl F,rfl,rfl,rfl,ac4 _,fun _ _ _=>rfl,fun b h=>.inl h,fun b h=>?_⟩;rcases Loc.abl h with h | h
   ·exact .inl ⟨k,_,hk,h⟩
   ·exact .inl h
 ·have hF:cC F ax 0 news:=ca.resolve_right fun h=>h0 h.1;obtain⟨ch,rfl,_,cp⟩:=hF.cell hs;have bb:∀j v,news[j]?=some v->w.cell? (ch.add j)=some v:=fun j' u hu=>by
   have:=cp j' u hu
   rwa [Nat.zero_add] at this
  have ae:j+news.length<=s:=by rw[ab];omega
  have r:j+news.length<=d.size:=by omega
  have f:=nF w g (bq d.toList j news).toArray;have ap:Own.ok (w.setRow g (bq d.toList j news).toArray) (.row (.slice (some ⟨g,0,none⟩) s cr) e 1 s (bq xs j news)):=by
   refine⟨?_,.inr ⟨g,cr,_,rfl,bt,setRow_heap w g d _ e _ hg,bp,bm,?_,?_⟩⟩
   ·rw[gu _ _ _ (by rw[hx];exact ae),hx,Nat.mul_one]
   ·have:(bq d.toList j news).length=d.size:=by rw[gu _ _ _ (by simpa using r)];simp
    simp[this,aa]
   ·rw[Nat.mul_one,List.toList_toArray,<-p];apply adt;intro q;have bs:j+news.length<=d.toList.length:=by simpa using r
    rw[ji (by rw[ac2];simp;omega)]
    by_cases hn:q<s
    ·rw[List.getElem?_take_of_lt hn,ji bs,List.getElem?_take_of_lt hn]
    ·rw[ac3 (by simp;omega)];have h1:¬q<j:=by omega
     have h2:¬q<j+news.length:=by omega
     rw[s8 h1,s8 h2,ac3 (by simp;omega)]
  have aw:St F (L.set k (.row (.slice (some ⟨g,0,none⟩) s cr) e 1 s (bq xs j news))) (w.setRow g (bq d.toList j news).toArray) :=
   hs.turn hk ap (fun b ak bu=>f.block b ak (fun e=>bu (by rw[e];rfl))) (fun g' ao=>.inl ao)
  refine jY he hd (v:=.int .i64 (min m n:Nat)) (x:=.v (.int .i64 (min m n:Nat))) ?_ aw ?_ rfl dA fS (al _) hK
  ·rw[ba undef,cZ,Nat.zero_add];have:=run_copy_row P w t t' o.type e g j n cd ch m cx d e news ht az hg ab bb r h1;have cy:(d.toList.take j++news++d.toList.drop (j+news.length)).toArray=(bq d.toList j news).toArray:=rfl;rw[cy] at this;simp[this,goInt,ab]
  ·refine⟨aJ.le_refl F,rfl,rfl,rfl,f.size,fun b ak hn=>f.block b ak (fun e=>hn ⟨k,_,hk,by rw[e];rfl⟩),fun b h=>.inl h,fun b h=>?_⟩;rcases Loc.abl h with h | h
   ·exact .inl ⟨k,_,hk,h⟩
   ·exact .inl h
end
open Go.ChangeMaps (setBlock)
section
variable {P:Program}{F:aJ}{L:Loc}{ρ:Env}{a:Act}{w:World}{K:dP}{o:Oper}{Q:Exit->Act->World->Prop}
end
section
variable {P:Program}{F:aJ}{L:Loc}{ρ:Env}{a:Act}{w:World}{K:dP}{o:Oper}{Q:Exit->Act->World->Prop}
theorem Gf {zs:List Value}{l:List (Nat×Nat×X)}(h:(l.all fun p=>Nat.ble (p.1+p.2.1) zs.length)=true):∀off n x,(off,n,x)∈l->off+n<=zs.length:=by
 intro off n x b;have:=ac5.1 h _ b;exact ac8 this
set_option maxHeartbeats 1000000 in
theorem fW {own:Bool}{s:fD}(hs:St F L w) (he:aN L ρ a) (hd:∀k,o.dst=some k->k<a.tmps.size) (j:kO P own o.op=some s)
  (p:evalOp P s o.dst F L ρ K):o.wp P a w (bX F L w a K) Q:=by
 cases q:o.op<;>rw[q] at j<;>simp only[kO] at j<;>try (cases j;done)
 case move y =>
  split at j
  case h_2=>cases j
  rename_i x hx;injection j with j;subst j
  exact KC hs he hd (.inl q) hx p
 case assign y =>
  split at j
  case h_2=>cases j
  rename_i x hx;injection j with j;subst j
  exact KC hs he hd (.inr q) hx p
 case pick c y z =>
  split at j
  case h_2=>cases j
  rename_i m l v;injection j with j;subst j
  exact OA hs he hd q m l v p
 case box t y =>
  split at j
  case h_2=>cases j
  rename_i m al;have al:=adq al;injection j with j
  cases own
  ·subst j;exact TR hs he hd q m al p
  ·subst j;exact OC hs he hd q m p
 case alloc t =>
  split at j
  case h_2=>cases j
  rename_i m al;have al:=adq al;split at j
  case h_2=>cases j
  rename_i l;injection j with j;subst j
  exact KD hs he hd q m l al p
 case buildSlice t n ps =>
  split at j
  case h_2=>cases j
  rename_i m l;split at j
  case h_2=>cases j
  rename_i v;split at j
  case h_2=>cases j
  rename_i h4 h5 h6;have h4:=ada h4;have h5:=ada h5;injection j with j
  cases own
  ·subst j;exact TT hs he hd q m v h6 l h4 h5.1 p
  ·subst j;exact TU hs he hd q m v h6 l h4 h5.1 h5.2 p
 case build t ps =>
  split at j
  case h_2=>cases j
  rename_i m l;split at j
  case h_2=>cases j
  rename_i v h4;split at j
  case h_2=>cases j
  rename_i h5 h6;injection j with j;subst j
  exact KE hs he hd q m l v h4 (fun f hf=>ac5.1 h5 f hf) (Gf h6) p
 case load t y =>
  split at j
  ·rename_i d i x m l v;injection j with j
   refine OD (d:=d) (i:=i) (n:=match gV d with | true=>i.size | false=>1) hs he hd q m l v rfl ?_;cases bd:gV d<;>simp only[bd] at j ⊢<;>subst j<;>exact p
  ·injection j with j;subst j
   exact False.elim p
  ·cases j
 case store t y z =>
  split at j
  case h_2=>cases j
  rename_i m l v;injection j with j;subst j
  exact KO hs he hd q m l v p
 case makeInterface t y =>
  split at j
  ·cases j
  ·rename_i d x m l v;injection j with j;subst j
   exact OM hs he hd q l m v p
  ·cases j
 case typeAssert y xt t ok =>
  cases ok with
  | false=>cases j
  | true =>
   simp only[] at j;split at j
   ·cases j
   ·rename_i d i x h4 m l v;split at j
    case h_2=>cases j
    rename_i h5;injection j with j;subst j
    exact Ud hs he hd q m h4 l h5 v p
   ·cases j
 case panic y =>
  split at j
  case h_2=>cases j
  injection j with j;subst j
  exact p.elim
 case nilCheck y =>
  split at j
  case h_2=>cases j
  rename_i m l;injection j with j;subst j
  exact KN hs he hd q m l p
 case binOp op t y z t' =>
  split at j
  case h_2=>cases j
  rename_i d x1 x2 m l v;split at j<;>first
   | (cases j;done)
   | (injection j with j;subst j;first
     | exact KF (neg:=false) hs he hd q m l v p
     | exact KF (neg:=true) hs he hd q m l v p
     | exact KH (neg:=false) hs he hd q m l v p
     | exact KH (neg:=true) hs he hd q m l v p
     | exact TV hs he hd q l v p)
   | (split at j
      case h_2=>cases j
      rename_i k1 k2 k3;injection j with j;subst j
      first
       | exact KL (neg:=false) hs he hd q m k1 k2 k3 l v p
       | exact KL (neg:=true) hs he hd q m k1 k2 k3 l v p)
   | (split at j
      case h_2=>cases j
      rename_i k1;injection j with j;subst j
      first
       | exact KI (neg:=false) hs he hd q m l v k1 p
       | exact KI (neg:=true) hs he hd q m l v k1 p)
 case unOp op t y =>
  split at j
  case h_2=>cases j
  rename_i m;injection j with j;subst j
  exact Wo hs he hd q m p
 case convert s t y =>
  split at j
  case h_3=>cases j
  ·rename_i m l v;injection j with j;subst j
   exact OE hs he hd q m l v p
  ·rename_i m l v;split at j
   case h_2=>cases j
   rename_i h4;injection j with j;subst j
   exact Ua hs he hd q m l h4 v p
 case makeFunc fn fi ca =>
  cases fn<;>simp only[] at j<;>try (cases j;done)
  ·split at j
   case h_2=>cases j
   rename_i m l;injection j with j;subst j
   exact OG hs he hd q m l p
  ·split at j
   case h_2=>cases j
   rename_i m l;injection j with j;subst j
   exact OO hs he hd q m l p
  ·split at j
   case h_2=>cases j
   rename_i m l;injection j with j;subst j
   exact OP hs he hd q m l p
 case makeSlice t y z =>
  split at j
  case h_2=>cases j
  rename_i m l v;split at j
  case h_2=>cases j
  rename_i h4;split at j
  case h_2=>cases j
  rename_i h5;split at j
  case h_2=>cases j
  rename_i h6 h7;injection j with j;subst j
  exact KP hs he hd q m h4 h5 (ada h6) (ada h7) l v p
 case slice t y lo up mx =>
  cases mx<;>simp only[] at j<;>try (cases j;done)
  split at j
  case h_2=>cases j
  ·rename_i m l v h4;split at j
   case h_2=>cases j
   rename_i h5;injection j with j;subst j
   exact Ue hs he hd q m h5 l v h4 p
 case fieldAddr t y f =>
  split at j
  case h_2=>cases j
  rename_i m l;split at j
  case h_2=>cases j
  rename_i v;split at j
  case h_2=>cases j
  rename_i h4;split at j
  case h_1=>cases j
  rename_i h5;injection j with j;subst j
  exact Js hs he hd q m v h4 (adq h5) l p
 case indexAddr t y z =>
  split at j
  case h_2=>cases j
  rename_i m l v;split at j
  case h_2=>cases j
  rename_i h4;injection j with j;subst j
  exact OI hs he hd q m h4 l v p
 case extract y i =>
  split at j
  case h_2=>cases j
  rename_i m;injection j with j;subst j
  exact OH hs he hd q m p
 case call c =>
  split at j
  case h_1=>cases j
  rename_i args ad;split at j
  ·rename_i f hc;split at j
   case h_2=>cases j
   split at j
   case h_2=>cases j
   injection j with j;subst j
   exact OU hs he hd q hc ad p
  ·rename_i y hc;split at j
   case h_2=>cases j
   rename_i m;injection j with j;subst j
   exact KQ hs he hd q hc m ad p
  ·rename_i n nm hc;injection j with j;subst j
   exact Ug hs he hd q hc ad p
  ·cases j
  ·rename_i b hc;have one:∀{x:X},args=[x]->∃y,c.args=#[y]/\cQ y=some x:=by
    intro x e;subst e
    match aw:c.args.toList,ad with
    | [],h=>simp[iw] at h
    | [y],h =>
     refine⟨y,by apply Array.ext';simpa using aw,?_⟩;simp only[iw] at h;split at h
     case h_2=>cases h
     rename_i m l;injection h with h
     injection h with h _
     rw[m,h]
    | y::z::r,h =>
     simp only[iw] at h;split at h
     case h_2=>cases h
     rename_i m l;injection h with h
     injection h with _ h
     subst h;split at l
     ·injection l with l;cases l
     ·cases l
   have ba:∀{x x':X},args=[x,x']->∃y y',c.args=#[y,y']/\cQ y=some x/\cQ y'=some x':=by
    intro x x' e;subst e
    match aw:c.args.toList,ad with
    | [],h=>simp[iw] at h
    | [y],h =>
     simp only[iw] at h;split at h
     case h_2=>cases h
     rename_i m l;injection l with l
     injection h with h
     injection h with _ h
     rw[h] at l;cases l
    | [y,y'],h =>
     refine⟨y,y',by apply Array.ext';simpa using aw,?_⟩;simp only[iw] at h;split at h
     case h_2=>cases h
     rename_i m l;injection h with h
     injection h with h h'
     split at l
     case h_2=>cases l
     rename_i v h4;injection l with l
     rw[<-l] at h';injection h' with h' _
     exact⟨by rw[m,h],by rw[v,h']⟩
    | y::z::u::r,h =>
     simp only[iw] at h;split at h
     case h_2=>cases h
     rename_i m l;injection h with h
     injection h with _ h
     subst h;split at l
     case h_2=>cases l
     rename_i v h4;injection l with l
     injection l with _ l
     subst l;split at h4
     ·injection h4 with h4;cases h4
     ·cases h4
   have ax:∀{t:TypeId},c.argTypes.toList=[t]->c.argTypes=#[t]:=fun e=>by apply Array.ext';simpa using e
   have av:∀{t t':TypeId},c.argTypes.toList=[t,t']->c.argTypes=#[t,t']:=fun e=>by apply Array.ext';simpa using e
   split at j
   ·rename_i x t ak;obtain⟨y,ha,hy⟩:=one rfl;split at j
    ·rename_i m;injection j with j;subst j
     exact Ub hs he hd q hc ha (ax ak) m hy p
    ·rename_i m;injection j with j;subst j
     exact OJ hs he hd q hc ha (ax ak) m hy p
    ·cases j
   ·rename_i x t ak;obtain⟨y,ha,hy⟩:=one rfl;split at j
    ·rename_i m;injection j with j;subst j
     exact OL hs he hd q hc ha (ax ak) m hy p
    ·cases j
   ·injection j with j;subst j
    exact Sh (mx:=true) hs he hd q hc ad p
   ·injection j with j;subst j
    exact Sh (mx:=false) hs he hd q hc ad p
   ·rename_i x x' t t' ak;obtain⟨y,y',ha,hy,ao⟩:=ba rfl;split at j
    ·rename_i m l;split at j
     case h_2=>cases j
     rename_i v;split at j
     case h_2=>cases j
     rename_i h4;split at j
     case h_2=>cases j
     rename_i h5 h6 h7;have h5:=ada h5;subst h5;injection j with j;subst j
     exact Uf hs he hd q hc ha (av ak) m v h4 (ada h6) (ada h7) hy ao p
    ·rename_i m l;split at j
     case h_2=>cases j
     rename_i v;split at j
     case h_2=>cases j
     rename_i h4;split at j
     case h_2=>cases j
     rename_i h5 h6;have h5:=ada h5;subst h5;injection j with j;subst j
     exact OT hs he hd q hc ha (av ak) m l v h4 (ada h6) hy ao p
    ·cases j
   ·rename_i x x' t t' ak;obtain⟨y,y',ha,hy,ao⟩:=ba rfl;split at j
    ·rename_i m l;split at j
     case h_2=>cases j
     rename_i v;split at j
     case h_2=>cases j
     rename_i h5 h6;injection j with j;subst j
     exact Hz hs he hd q hc ha (av ak) m v (ada h6) hy ao p
    ·rename_i m l;split at j
     case h_2=>cases j
     rename_i v;split at j
     case h_2=>cases j
     rename_i h6;injection j with j;subst j
     exact Hz hs he hd q hc ha (av ak) m v (ada h6) hy ao p
    ·cases j
   ·cases j
end
structure cE where
 n:Nat
 own:List Nat:=[]
 frz:List (Nat×Nat×List Nat):=[]
 ord:List (Nat×List Nat×List (List Nat)):=[]
 co:List Nat:=[]
 pan:List (Nat×Nat):=[]
 bx:List Nat:=[]
 fl:List Nat:=[]
 px:List Nat:=[]
 bk:List (Nat×Nat):=[]
def wS:List (Nat×Nat)->Nat->Nat->Bool
 | [],_,_=>false
 | (r,i)::l,c,b=>match Nat.beq r c&&Nat.beq i b with | true=>true | false=>wS l c b
def oW (b:Bool) (d:Option Nat) (s:fD) (g:Option (Nat×Bool)):aB:=match b with | true=>.pc d s g | false=>.op d s g
def cE.owned (A:cE):Option Nat->Bool
 | some d=>gS A.own d
 | none=>false
def cE.isO (A:cE):Option Nat->Bool
 | some d=>gS A.co d
 | none=>gS A.co 999999
def cE.isX (A:cE):Option Nat->Bool
 | some d=>gS A.px d
 | none=>gS A.px 999999
def KR:List (Nat×Nat×List Nat)->Nat->Nat->List Nat
 | [],_,_=>[]
 | (r,i,ks)::l,c,b=>match Nat.beq r c&&Nat.beq i b with | true=>ks | false=>KR l c b
def KS:List (Nat×List Nat×List (List Nat))->Nat->Option (List Nat×List (List Nat))
 | [],_=>none
 | (r,is)::l,b=>match Nat.beq r b with | true=>some is | false=>KS l b
def vh (l:List (Nat×List Nat×List (List Nat))) (r:Nat):List Nat:=match KS l r with | some (is,_)=>is | none=>[]
def jl (c:Array Oper):Option (Nat×Bool)->Option (Option (Nat×Bool))
 | none=>some none
 | some (j,b)=>match(c[j]?).bind (·.dst) with
  | some d=>some (some (d,b))
  | none=>none
def Si (n:Nat):Option Nat->Bool
 | none=>true
 | some d=>Nat.blt d n
def rC (P:Program) (A:cE) (r:Nat) (b:Array Oper):List Nat->Option (List aB)
 | []=>some []
 | i::is=>match b[i]? with
  | none=>none
  | some o=>match jl b o.guard,kO P (A.owned o.dst) o.op,Si A.n o.dst,rC P A r b is with
   | some g,some s,true,some c=>some ((KR A.frz r i).map .frz++oW (wS A.pan r i) o.dst s g::c)
   | _,_,_,_=>none
section
variable {P:Program}{F:aJ}{L:Loc}{ρ:Env}{a:Act}{w:World}{K:dP}{Q:Exit->Act->World->Prop}
def fH (n:Nat) (F:aJ) (L:Loc) (w:World) (a:Act) (asg:List Nat) (K:dP) (b:Act) (w':World):Prop :=
 ∃F' L' ρ',St F' L' w'/\aN L' ρ' b/\b.tmps.size=n/\b.defers=a.defers/\Step F L w F' L' w'/\(∀j,j∉asg->b.tmps.getD j undef=a.tmps.getD j undef)/\K F' L' ρ'
theorem pI {k:Nat}{KK:aJ->Loc->Prop}(hs:St F L w) (he:aN L ρ a) (h:Sg F L k KK):∃F' L',St F' L' w/\aN L' ρ a/\Step F L w F' L' w/\KK F' L':=by
 obtain⟨v,t,sz,n,xs,z,hK⟩:=h;have d:=hs.own k _ z;simp only[Own.ok] at d;have s:=hs.part (Loc.acy L k);have q:aN (L.del k) ρ a:=by
  have hb:∀j g ty cs,L.get j=some (.box g ty cs)->(L.del k).get j=some (.box g ty cs):=by
   intro j g ty cs e;rw[Loc.abg];split
   ·rename_i hj;subst hj;rw[z] at e;cases e
   ·exact e
  refine⟨fun j=>?_,fun j m off e=>?_,he.el⟩
  ·rw[he.eq j];cases e:ρ j with
   | v x=>rfl
   | el x y=>rfl
   | own m off =>
    obtain⟨g,ty,cs,c⟩:=he.own j m off e;simp only[conc,c,hb m g ty cs c]
  ·obtain⟨g,ty,cs,c⟩:=he.own j m off e;exact⟨g,ty,cs,hb m g ty cs c⟩
 have ag:∀g,v.ownBlock=some g->¬(L.del k).owns g:=by
  rintro g c ⟨j,p,e,hb⟩;rw[Loc.abg] at e;split at e
  ·cases e
  ·rename_i hj;exact hj (hs.sep j k p _ g e z hb c)
 obtain⟨hx,l⟩:=d;rcases l with⟨rfl,rfl⟩ | ⟨g,cap,ak,rfl,an,c,ae,am,ap,f⟩
 ·refine⟨F,L.del k,s,q,⟨aJ.le_refl F,rfl,rfl,rfl,ac4 _,fun _ _ _=>rfl,fun b h=>.inl h,fun b h=>.inl (Loc.ab1 h)⟩,hK F (aJ.le_refl F) (.inl ⟨rfl,rfl,ade (by simpa using hx)⟩)⟩
 ·have r:=aJ.abY hs c;refine⟨_,L.del k,s.freeze c (ag g rfl),q,⟨r,rfl,rfl,rfl,ac4 _,fun _ _ _=>rfl,fun b h=>?_,fun b h=>.inl (Loc.ab1 h)⟩,hK _ r (.inr ⟨⟨g,0,none⟩,cap,rfl,⟨_,ak,t,(0,0),rfl,o6 rfl,rfl,fun i u hu=>?_⟩,ae⟩)⟩
  ·by_cases o:b=g
   ·subst o;exact .inr (.inl ⟨k,_,z,rfl⟩)
   ·simp only[s8 o] at h;exact .inl h
  ·rw[<-f,adn] at hu;split at hu
   ·exact⟨by simpa using hu,sL _⟩
   ·cases hu
theorem um {k g:Nat}{t:TypeId}{cs:List Value}(n:St F L w) (z:aN L ρ a) (m:L.get k=some (.box g t cs)) :
  ∃F',F.le F'/\F' g=some (rm t cs)/\St F' (L.del k) w/\aN (L.del k) (yV k g ρ) a/\Step F L w F' (L.del k) w:=by
 have s:=n.own k _ m;simp only[Own.ok] at s;have aa:=n.part (Loc.acy L k);have l:=aJ.abY n s;have r:¬(L.del k).owns g:=by
  rintro⟨j,p,e,hb⟩;rw[Loc.abg] at e;split at e
  ·cases e
  ·rename_i hj;exact hj (n.sep j k p _ g e m hb rfl)
 refine⟨_,l,o6 rfl,aa.freeze s r,⟨fun j=>?_,fun j q off e=>?_,fun j ad i e=>?_⟩,⟨l,rfl,rfl,rfl,ac4 _,fun _ _ _=>rfl,fun b h=>?_,fun b h=>.inl (Loc.ab1 h)⟩⟩
 ·rw[z.eq j];simp only[yV];cases e:ρ j with
  | v x=>rfl
  | el x y=>rfl
  | own q off =>
   simp only[];cases hb:Nat.beq q k with
   | true =>
    have:=vz hb;subst this;simp only[conc,m]
   | false =>
    have c:q≠k:=fun e=>by rw[e] at hb;simp at hb
    simp only[conc];rw[Loc.abg,s8 c]
 ·simp only[yV] at e;split at e
  ·rename_i o f u;cases hb:Nat.beq o k with
   | true=>rw[hb] at e;cases e
   | false =>
    rw[hb] at e;injection e with e3 e4
    subst e3;have c:o≠k:=fun e=>by rw[e] at hb;simp at hb
    rw[Loc.abg,s8 c];exact z.own j o f u
  ·cases e
  ·cases e
 ·simp only[yV] at e;split at e
  ·split at e<;>cases e
  ·cases e
  ·rename_i a2 i2 u;injection e with h1 h2
   subst h1;exact z.el j _ _ u
 ·by_cases d:b=g
  ·subst d;exact .inr (.inl ⟨k,_,m,rfl⟩)
  ·simp only[s8 d] at h;exact .inl h
theorem sN {s:Nat}{b:Bool}(h:a.tmps.getD s undef=.bool b):a.tmps[s]?=some (.bool b):=by
 rw[adf] at h;cases e:a.tmps[s]? with
 | none=>rw[e] at h;simp[undef] at h
 | some v=>rw[e] at h;simp at h;rw[h]
theorem mE {ρ:Env}{s:Nat}{v:Value}(h:ρ s=.v v):put (some s) (.v v) ρ=ρ:=by
 funext t
 rw[put_eq];simp only[];split
 ·rename_i b;subst b;exact h.symm
 ·rfl
def dstsOf (b:Array Oper):List Nat->List Nat
 | []=>[]
 | i::is=>match(b[i]?).bind (·.dst) with | some d=>d::dstsOf b is | none=>dstsOf b is
theorem lT {d:Option Nat}{v:Value}{j:Nat}(h:d≠some j):(a.put d v).tmps.getD j undef=a.tmps.getD j undef:=by
 cases d with
 | none=>rfl
 | some k =>
  simp only[Act.put,adf,Array.getElem?_setIfInBounds];rw[s8 (by intro e;exact h (by rw[e]))]
theorem rD {o:Oper}{asg:List Nat}{KK:Act->World->Prop}(b:o.wp P a w KK Q) :
  o.wp P a w (fun f w'=>KK f w'/\∀j,o.dst≠some j->f.tmps.getD j undef=a.tmps.getD j undef) Q:=by
 unfold Oper.wp at b ⊢;generalize(execOp a.eval o).run P w=r at b ⊢;cases r with
 | ok k w' =>
  cases k<;>simp only[Oper.upon] at b ⊢<;>first
   | exact⟨b,fun j h=>lT h⟩
   | exact Calls.mono b (fun e d c=>by cases e<;>first | exact⟨c,fun j h=>lT h⟩ | exact c)
   | exact Rows.mono b (fun v d c=>⟨c,fun j h=>lT h⟩)
 | halt x w'=>cases x<;>simp only[Oper.upon] at b ⊢<;>exact b
theorem vZ {c:Code}(I:Nat->Act->World->Prop) (y:∃n,I n a w)
  (r:∀n a w,I n a w->c.wp P (Exit.then (fun s w'=>∃m,m<n/\I m s w') Q) a w):(Code.loop c).wp P Q a w:=by
 intro b k cs;have key:∀n a w,I n a w->∃e s w',Q e s w'/\Arrives P (lone (b.at a (.code c::.inLoop c::k)) cs w) b k cs e s w':=by
  intro n
  induction n using Nat.strongRecOn with
  | _ n ih =>
   intro a w z;obtain⟨e,f,h,o,d⟩:=r n a w z b (.inLoop c::k) cs;cases e with
   | normal =>
    obtain⟨m,aa,q⟩:=o;obtain⟨u,t,v,p,j⟩:=ih m aa f h q;exact⟨u,t,v,p,.of_steps (Steps.trans d (.one step_inLoop)) j⟩
   | exit id=>exact⟨_,f,h,o,.pass (x:=.inLoop c) rfl (fun _ _=>.inl (by simp)) d⟩
   | goto l=>exact⟨_,f,h,o,.pass (x:=.inLoop c) rfl (fun _ _=>.inl (by simp)) d⟩
   | ret=>exact⟨_,f,h,o,.pass (x:=.inLoop c) rfl (fun _ _=>.inl (by simp)) d⟩
   | panic ch=>exact⟨_,f,h,o,.pass (x:=.inLoop c) rfl (fun _ _=>.inl (by simp)) d⟩
   | outgrown=>exact⟨_,f,h,o,.pass (x:=.inLoop c) rfl (fun _ _=>.inl (by simp)) d⟩
 obtain⟨n,z⟩:=y;obtain⟨e,s,w',o,d⟩:=key n a w z;exact⟨e,s,w',o,.of_steps (.one step_loop) d⟩
theorem nP:∀{L L':Loc},L.keeps L'->∀{k g t cs},L.get k=some (.box g t cs)->∃cs',L'.get k=some (.box g t cs')
 | [],L',_,k,g,t,cs,e=>by cases e
 | (j,.box c d cs')::l,L',h,k,g,t,cs,e=>by
  simp only[Loc.keeps] at h;simp only[Loc.get] at e;split at e
  ·rename_i b;have:=vz b;subst this;injection e with e
   injection e with e1 e2 e3
   subst e1 e2;exact h.1
  ·exact nP h.2 e
 | (j,.row ..)::l,L',h,k,g,t,cs,e=>by
  simp only[Loc.keeps] at h;simp only[Loc.get] at e;split at e
  ·cases e
  ·exact nP h e
theorem lU {L:Loc}:∀{L':Loc},L.gives L'->∀{k o},L'.get k=some o->L.get k=some o\/(L.get k=none/\∃t sz,o=.row (.slice none 0 0) t sz 0 [])
 | [],_,k,o,e=>by cases e
 | (j,p)::l,h,k,o,e=>by
  simp only[Loc.gives] at h;simp only[Loc.get] at e;split at e
  ·rename_i b;have:=vz b;subst this;injection e with e
   subst e;exact h.1
  ·exact lU h.2 e
theorem St.gives {L':Loc}(b:St F L w) (h:L.gives L'):St F L' w:=by
 refine⟨b.frz,fun k o e=>?_,fun k o g e hb=>?_,fun k j o o' g e e' hb c=>?_,b.glob⟩
 ·rcases lU h e with d | ⟨_,t,sz,rfl⟩
  ·exact b.own k o d
  ·exact World.ownsRow_nil w 0 t sz
 ·rcases lU h e with d | ⟨_,t,sz,rfl⟩
  ·exact b.off k o g d hb
  ·cases hb
 ·rcases lU h e with d | ⟨_,t,sz,rfl⟩<;>rcases lU h e' with f | ⟨_,m,l,rfl⟩
  ·exact b.sep k j o o' g d f hb c
  ·cases c
  ·cases hb
  ·cases hb
theorem uo {L':Loc}(h:L.gives L'):Step F L w F L' w :=
 ⟨aJ.le_refl F,rfl,rfl,rfl,ac4 _,fun _ _ _=>rfl,fun b h=>.inl h,fun b ⟨k,o,e,hb⟩=>by
  rcases lU h e with c | ⟨_,t,sz,rfl⟩
  ·exact .inl ⟨k,o,c,hb⟩
  ·cases hb⟩
theorem dQ:∀{l:List Nat}{k:Nat},gS l k=true↔k∈l
 | [],k=>by simp[gS]
 | j::l,k=>by
  simp only[gS];split
  ·rename_i h;have:=vz h;subst this;simp
  ·rename_i h;have:=gF h;rw[dQ];simp only[acQ];constructor
   ·exact .inr
   ·rintro(h | h)
    ·exact s6 h.symm this
    ·exact h
theorem kT:∀(b:List Nat) (vs:List Value) (ρ:Env) (j:Nat),(puts b (vs.map .v) ρ j=ρ j)\/∃v,puts b (vs.map .v) ρ j=.v v
 | [],vs,ρ,j=>.inl rfl
 | k::b,[],ρ,j=>.inl rfl
 | k::b,v::vs,ρ,j=>by
  simp only[acU,puts,put_eq];split
  ·exact .inr ⟨v,rfl⟩
  ·exact kT b vs ρ j
theorem uq {L:Loc}:∀(c:List Nat) (vs:List Value) (ρ b:Env) {a:Act},(∀t,a.tmps.getD t undef=conc L (ρ t))->holds c (vs.map .v) ρ->∀j,(∃v,puts c (vs.map .v) b j=.v v/\a.tmps.getD j undef=v)\/puts c (vs.map .v) b j=b j
 | [],vs,ρ,b,a,d,h,j=>.inr rfl
 | k::c,[],ρ,b,a,d,h,j=>.inr rfl
 | k::c,v::vs,ρ,b,a,d,h,j=>by
  simp only[acU,holds] at h;simp only[acU,puts,put_eq];split
  ·rename_i e;subst e;exact .inl ⟨v,rfl,by rw[d,h.1];rfl⟩
  ·exact uq c vs ρ b d h.2 j
end
def bY:fD->List X
 | .mov x | .nilck x | .mkmv _ x | .conv _ x | .un _ x | .eqN _ x | .fieldA _ x | .extr x _ | .len x | .lenS x | .capa x | .loadD _ _ x | .boxD _ x | .b2sD x | .b2sR x | .loadK _ _ _ x | .loadF _ _ x | .loadR _ _ x | .makeSV _ _ _ _ x=>[x]
 | .pick c a b=>[c,a,b]
 | .bin _ x y | .eqB _ x y | .eqS _ x y | .eqA _ _ x y | .idxA _ x y=>[x,y]
 | .build _ ps=>ps.map (·.2.2)
 | .mkfn _ a b=>a++b
 | .slc _ x lo hi=>x::(lo.toList++hi.toList)
 | .mm _ l | .mkFD _ _ _ l=>l
 | .callD _ l=>l
 | .callVD f l=>f::l
 | .allocD _ _=>[]
 | .appD _ _ _ _ s x=>[s,x]
 | .storeD _ a x=>[a,x]
 | .storeK _ _ a x=>[a,x]
 | _=>[]
def ef:fD->Bool
 | .mov _ | .nilck _ | .mkmv _ _ | .conv _ _ | .un _ _ | .fieldA _ _ | .extr _ _ | .len _ | .lenS _ | .capa _ | .loadD _ _ _ | .pick _ _ _
 | .bin _ _ _ | .eqB _ _ _ | .eqS _ _ _ | .eqN _ _ | .eqA _ _ _ _ | .idxA _ _ _ | .build _ _ | .mkfn _ _ _ | .slc _ _ _ _ | .mm _ _ | .b2sD _ | .b2sR _ | .loadK _ _ _ _ | .loadF _ _ _ | .loadR _ _ _=>true
 | _=>false
def KT:fD->Bool
 | .b2sR _ | .loadR _ _ _=>true
 | _=>false
def jd:fD->Bool
 | .callD _ _ | .callVD _ _=>true
 | _=>false
def fM:fD->Bool
 | .mkFD _ _ _ _ | .boxD _ _ | .allocD _ _ | .makeSD _ _ _ _ | .makeSV _ _ _ _ _=>true
 | _=>false
def qM:fD->Bool
 | .appD _ _ _ _ _ _=>true
 | _=>false
def jx:fD->Bool
 | .storeD _ _ _=>true
 | .storeK _ _ _ _=>true
 | _=>false
def Eh:fD->Bool
 | .mov _ | .nilck _ | .mkmv _ _ | .conv _ _ | .un _ _ | .fieldA _ _ | .extr _ _ | .len _ | .lenS _ | .capa _ | .pick _ _ _
 | .bin _ _ _ | .eqB _ _ _ | .eqS _ _ _ | .eqN _ _ | .eqA _ _ _ _ | .idxA _ _ _ | .slc _ _ _ _ | .mm _ _=>true
 | _=>false
theorem Ei {o:fD}(h:Eh o=true):ef o=true:=by cases o<;>first | rfl | cases h
theorem BF {o:fD}(h:Eh o=true) {F F':aJ}{L L':Loc}{ρ:Env}{V:SV->Prop}(a:aV o F L ρ V):aV o F' L' ρ V:=by
 cases o<;>first | (cases h;done) | exact a
def drawn:fD->Option fD
 | .load a n x=>some (.loadD a n x)
 | .call f l=>some (.callD f l)
 | .callV f l=>some (.callVD f l)
 | .box t x=>some (.boxD t x)
 | .alloc t z=>some (.allocD t z)
 | .mkF e n sz l=>some (.mkFD e n sz l)
 | .app e sz b z s x=>some (.appD e sz b z s x)
 | .store n a x=>some (.storeD n a x)
 | .b2s x=>some (.b2sD x)
 | .boxD _ _ | .allocD _ _ | .mkFD _ _ _ _ | .callD _ _ | .callVD _ _ | .loadD _ _ _ | .appD _ _ _ _ _ _ | .storeD _ _ _ | .boxF _ _ | .callO _ _ | .b2sD _ | .b2sR _ | .makeSD _ _ _ _ | .makeSV _ _ _ _ _ | .loadK _ _ _ _ | .storeK _ _ _ _ | .copyX _ _ _ _ | .makeS _ _ _ _ _ _ | .loadF _ _ _ | .loadR _ _ _=>none
 | o=>some o
def CI:X->Option Int
 | .c (.int _ n)=>some n
 | _=>none
def Uh (b:Nat) (n m:Int):Bool:=Nat.ble (n.toNat*b) 140737488355328&&Nat.ble n.toNat 9223372036854775807&&(match n,m with | .ofNat a,.ofNat b=>Nat.beq a b | _,_=>false)
def oZ (bx:List Nat):fD->Option fD
 | .makeS e sz b zs l c=>match CI l,CI c with
  | some n,some m=>match Uh b n m with
   | true=>some (.makeSD e sz n.toNat zs)
   | false=>none
  | _,_=>match l,c with
   | .t i,.t j=>match Nat.beq i j with
    | true=>some (.makeSV e sz b zs (.t i))
    | false=>none
   | _,_=>none
 | .mkR e 0 sz []=>some (.makeSD e sz 0 (List.replicate sz undef))
 | .load a n (.t i)=>match gS bx i with | true=>some (.loadK i a n (.t i)) | false=>some (.loadD a n (.t i))
 | .store n (.t i) x=>match gS bx i with | true=>some (.storeK i n (.t i) x) | false=>some (.storeD n (.t i) x)
 | o=>drawn o
def Sj:List (Nat×Nat)->Nat->Option Nat
 | [],_=>none
 | (i,k)::l,j=>match Nat.beq i j with | true=>some k | false=>Sj l j
def v7 (fl:List Nat) (bk:List (Nat×Nat)) (bx:List Nat):fD->Option fD
 | .load a n (.t i)=>match gS fl i with
  | true=>some (.loadF a n (.t i))
  | false=>match Sj bk i with
   | some key=>match Nat.beq key 999999 with
    | true=>some (.loadR a n (.t i))
    | false=>some (.loadK key a n (.t i))
   | none=>oZ bx (.load a n (.t i))
 | .b2s (.t i)=>match gS fl i with
  | true=>some (.b2sR (.t i))
  | false=>oZ bx (.b2s (.t i))
 | o=>oZ bx o
def zh:fD->Option fD
 | .call f l=>some (.callO f l)
 | .copy e sz a b=>some (.copyX e sz a b)
 | _=>none
section
variable {P:Program}{F:aJ}{L:Loc}{ρ:Env}{K:dP}
theorem dn {o:fD}(h:ef o=true) (d:Option Nat):evalOp P o d F L ρ K=aV o F L ρ fun v=>K F L (put d v ρ):=by
 cases o<;>first | rfl | cases h
structure One (T:(SV->Prop)->Prop):Prop where
 ex:∀V,T V->∃v,T (fun u=>u=v)/\V v
 mono:∀V V':SV->Prop,(∀v,V v->V' v)->T V->T V'
theorem One.ret (v:SV):One fun V=>V v:=⟨fun V h=>⟨v,rfl,h⟩,fun V V' h k=>h v k⟩
theorem One.no:One fun _=>False:=⟨fun V h=>h.elim,fun V V' h k=>k⟩
theorem One.and {p:Prop}{T:(SV->Prop)->Prop}(h:One T):One fun V=>p/\T V :=
 ⟨fun V ⟨b,a⟩=>let⟨v,h1,h2⟩:=h.ex V a;⟨v,⟨b,h1⟩,h2⟩,fun V V' c ⟨b,a⟩=>⟨b,h.mono V V' c a⟩⟩
theorem One.fit {k:IntKind}{n:Int}{T:Int->(SV->Prop)->Prop}(h:∀m,One (T m)):One fun V=>Fit k n fun m=>T m V :=
 ⟨fun V ⟨a⟩=>let⟨v,h1,h2⟩:=(h _).ex V a;⟨v,⟨h1⟩,h2⟩,fun V V' b ⟨a⟩=>⟨(h _).mono V V' b a⟩⟩
theorem One.nz {n:Int}{T:(SV->Prop)->Prop}(h:One T):One fun V=>kK n (T V) :=
 ⟨fun V ⟨b,a⟩=>let⟨v,h1,h2⟩:=h.ex V a;⟨v,⟨b,h1⟩,h2⟩,fun V V' c ⟨b,a⟩=>⟨b,h.mono V V' c a⟩⟩
theorem One.idx {a:Option Addr}{i n:Int}{T:(SV->Prop)->Prop}(h:One T):One fun V=>D7 a i n (T V) :=
 ⟨fun V ⟨e,c,b,d⟩=>let⟨v,h1,h2⟩:=h.ex V d;⟨v,⟨e,c,b,h1⟩,h2⟩,fun V V' f ⟨e,c,b,d⟩=>⟨e,c,b,h.mono V V' f d⟩⟩
theorem One.slc {l h:Int}{c:Nat}{T:Nat->Nat->(SV->Prop)->Prop}(f:∀l h,One (T l h)):One fun V=>qL l h c fun l h=>T l h V :=
 ⟨fun V ⟨e,a,b,d⟩=>let⟨v,h1,h2⟩:=(f _ _).ex V d;⟨v,⟨e,a,b,h1⟩,h2⟩,fun V V' j ⟨e,a,b,d⟩=>⟨e,a,b,(f _ _).mono V V' j d⟩⟩
theorem One.loadD {a:Option Addr}{j n:Nat}{T:List Value->(SV->Prop)->Prop}(h:∀cs,One (T cs)):One fun V=>jW F a j n fun cs=>T cs V :=
 ⟨fun V ⟨cs,d,b,c⟩=>let⟨v,h1,h2⟩:=(h _).ex V c;⟨v,⟨cs,d,b,h1⟩,h2⟩,fun V V' e ⟨cs,d,b,c⟩=>⟨cs,d,b,(h _).mono V V' e c⟩⟩
theorem One.acE {a:Option Addr}{j n:Nat}{T:List Value->(SV->Prop)->Prop}(h:∀cs,One (T cs)):One fun V=>kM F L a j n fun cs=>T cs V :=
 ⟨fun V ⟨cs,d,b,c⟩=>let⟨v,h1,h2⟩:=(h _).ex V c;⟨v,⟨cs,d,b,h1⟩,h2⟩,fun V V' e ⟨cs,d,b,c⟩=>⟨cs,d,b,(h _).mono V V' e c⟩⟩
theorem One.bytes {cs:List Value}{T:List UInt8->(SV->Prop)->Prop}(h:∀bs,One (T bs)):One fun V=>CC cs fun bs=>T bs V :=
 ⟨fun V ⟨bs,b,a⟩=>let⟨v,h1,h2⟩:=(h _).ex V a;⟨v,⟨bs,b,h1⟩,h2⟩,fun V V' c ⟨bs,b,a⟩=>⟨bs,b,(h _).mono V V' c a⟩⟩
theorem One.binI {op:BinOp}{k:IntKind}{a b:Int}:One fun V=>binI op k a b fun v=>V (.v v):=by
 cases op<;>simp only[Fr.binI]<;>first
  | exact One.no
  | exact One.ret _
  | exact One.fit fun _=>One.ret _
  | exact One.nz (One.fit fun _=>One.ret _)
  | exact One.nz (One.ret _)
theorem One.shI {op:BinOp}{k:IntKind}{a b:Int}:One fun V=>shI op k a b fun v=>V (.v v):=by
 cases op<;>simp only[Fr.shI]<;>first
  | exact One.no
  | exact One.and (One.fit fun _=>One.ret _)
  | exact One.and (One.ret _)
theorem One.binS {op:BinOp}{a b:ByteArray}:One fun V=>binS op a b fun v=>V (.v v):=by
 cases op<;>simp only[Fr.binS]<;>first
  | exact One.no
  | exact One.ret _
  | exact One.and (One.ret _)
theorem gI {o:fD}(h:ef o=true):One (aV o F L ρ):=by
 cases o<;>first | (cases h;done) | skip
 case b2sR x =>
  show One fun V=>aV _ F L ρ V;simp only[aV];cases e:ev ρ x with
  | own k off=>exact One.no
  | el a j=>exact One.no
  | v x =>
   cases x<;>try exact One.no
   exact⟨fun V ⟨k,t,c,bs,w,q,z,s⟩=>⟨_,⟨k,t,c,bs,w,q,z,rfl⟩,s⟩,fun V V' hv ⟨k,t,c,bs,w,q,z,s⟩=>⟨k,t,c,bs,w,q,z,hv _ s⟩⟩
 case mov x=>exact One.ret _
 case pick c a b =>
  show One fun V=>aV _ F L ρ V;simp only[aV];cases e:ev ρ c with
  | v x =>
    cases x<;>try exact One.no
    rename_i b;cases b<;>exact One.ret _
  | own k off=>exact One.no
  | el a j=>exact One.no
 case build zs ps =>
  show One fun V=>aV _ F L ρ V;simp only[aV];cases e:built L ρ zs ps with
  | none=>exact One.no
  | some cs=>exact One.ret _
 case loadD ag n x =>
  show One fun V=>aV _ F L ρ V;simp only[aV];cases e:ev ρ x with
  | own k off =>
   simp only[];cases m:L.get k with
   | none=>exact One.no
   | some p =>
    cases p with
    | row=>exact One.no
    | box g t cs =>
     simp only[];cases e3:kN t ((cs.drop off).take n) n
     ·exact One.no
     ·exact One.ret _
  | el a j=>exact One.loadD fun _=>One.ret _
  | v x =>
   cases x<;>try exact One.no
   rename_i a;cases a
   ·exact One.no
   ·exact One.loadD fun _=>One.ret _
 case loadR ag n x =>
  show One fun V=>aV _ F L ρ V;simp only[aV];cases e:ev ρ x with
  | own k off =>
   simp only[];cases m:L.get k with
   | none=>exact One.no
   | some p =>
    cases p with
    | row=>exact One.no
    | box g t cs =>
     simp only[];cases e3:kN t ((cs.drop off).take n) n
     ·exact One.no
     ·exact One.ret _
  | el a j=>exact One.acE fun _=>One.ret _
  | v x =>
   cases x<;>try exact One.no
   rename_i a;cases a
   ·exact One.no
   ·exact One.acE fun _=>One.ret _
 case loadF ag n x =>
  show One fun V=>aV _ F L ρ V;simp only[aV];cases e:ev ρ x with
  | own k off=>exact One.no
  | el a j=>exact One.loadD fun _=>One.ret _
  | v x =>
   cases x<;>try exact One.no
   rename_i a;cases a
   ·exact One.no
   ·exact One.loadD fun _=>One.ret _
 case loadK key ag n x =>
  show One fun V=>aV _ F L ρ V;simp only[aV];cases e:ev ρ x with
  | own k off =>
   simp only[];cases e1:Nat.beq k key with
   | false=>exact One.no
   | true =>
    simp only[];cases m:L.get k with
    | none=>exact One.no
    | some p =>
     cases p with
     | row=>exact One.no
     | box g t cs =>
      simp only[];cases e3:kN t ((cs.drop off).take n) n
      ·exact One.no
      ·exact One.ret _
  | el a j=>exact One.no
  | v x=>exact One.no
 case b2sD x =>
  show One fun V=>aV _ F L ρ V;simp only[aV];cases e:ev ρ x with
  | own k off=>exact One.no
  | el a j=>exact One.no
  | v x =>
   cases x<;>try exact One.no
   exact One.loadD fun _=>One.bytes fun _=>One.ret _
 case nilck x =>
  show One fun V=>aV _ F L ρ V;simp only[aV];cases e:ev ρ x with
  | own k off=>exact One.ret _
  | el a j=>exact One.and (One.ret _)
  | v x =>
   cases x<;>try exact One.no
   ·rename_i a;cases a
    ·exact One.no
    ·exact One.ret _
   ·rename_i f a b;cases f<;>first
     | exact One.no
     | exact One.ret _
     | (simp only[]
        split
        ·exact One.and (One.ret _)
        ·exact One.no)
 case mkmv nm x =>
  show One fun V=>aV _ F L ρ V;simp only[aV];cases e:ev ρ x with
  | own k off=>exact One.no
  | el a j=>exact One.no
  | v x=>exact One.ret _
 case bin op x y =>
  show One fun V=>aV _ F L ρ V;simp only[aV];cases e:ev ρ x with
  | own k off=>exact One.no
  | el a j=>exact One.no
  | v u =>
   cases m:ev ρ y with
   | own k off=>cases u<;>exact One.no
   | el a j=>cases u<;>exact One.no
   | v d =>
    cases u<;>cases d<;>try exact One.no
    ·simp only[];cases Ky op
     ·simp only[];rename_i k n k' n';cases rq k k'
      ·exact One.no
      ·exact One.binI
     ·exact One.shI
    ·exact One.binS
 case eqB ng x y =>
  show One fun V=>aV _ F L ρ V;simp only[aV];cases e:ev ρ x with
  | own k off=>exact One.no
  | el a j=>exact One.no
  | v u =>
   cases m:ev ρ y with
   | own k off=>cases u<;>exact One.no
   | el a j=>cases u<;>exact One.no
   | v d=>cases u<;>cases d<;>first | exact One.no | exact One.ret _
 case eqS ng x y =>
  show One fun V=>aV _ F L ρ V;simp only[aV];cases e:ev ρ x with
  | own k off=>exact One.no
  | el a j=>exact One.no
  | v u =>
   cases m:ev ρ y with
   | own k off=>cases u<;>exact One.no
   | el a j=>cases u<;>exact One.no
   | v d =>
    cases u<;>cases d<;>try exact One.no
    rename_i a1 l1 c1 a2 l2 c2;cases a2<;>first | exact One.no | exact One.ret _
 case eqN ng x =>
  show One fun V=>aV _ F L ρ V;simp only[aV];cases e:ev ρ x with
  | own k off=>exact One.no
  | el a j=>exact One.no
  | v u=>cases u<;>first | exact One.no | exact One.ret _
 case eqA ng ks x y =>
  show One fun V=>aV _ F L ρ V;simp only[aV];cases e:ev ρ x with
  | own k off=>exact One.no
  | el a j=>exact One.no
  | v u =>
   cases m:ev ρ y with
   | own k off=>cases u<;>exact One.no
   | el a j=>cases u<;>exact One.no
   | v d =>
    cases u<;>cases d<;>try exact One.no
    rename_i cs ds;simp only[];cases jN ks cs.toList ds.toList true<;>first | exact One.no | exact One.ret _
 case un op x =>
  show One fun V=>aV _ F L ρ V;simp only[aV];cases op<;>cases e:ev ρ x<;>first
   | exact One.no
   | (rename_i u;cases u<;>first | exact One.no | exact One.ret _ | exact One.fit fun _=>One.ret _)
 case conv k x =>
  show One fun V=>aV _ F L ρ V;simp only[aV];cases e:ev ρ x<;>first
   | exact One.no
   | (rename_i u;cases u<;>first | exact One.no | exact One.fit fun _=>One.ret _)
 case mkfn f a b=>exact One.ret _
 case slc sz x lo hi =>
  show One fun V=>aV _ F L ρ V;simp only[aV];cases e:ev ρ x<;>try exact One.no
  rename_i u;cases u<;>try exact One.no
  rename_i a n c;simp only[];cases pE ρ 0 lo<;>cases pE ρ n hi<;>first | exact One.no | exact One.slc fun _ _=>One.ret _
 case fieldA off x =>
  show One fun V=>aV _ F L ρ V;simp only[aV];cases e:ev ρ x with
  | own k off=>exact One.ret _
  | el a j=>exact One.ret _
  | v u =>
   cases u<;>try exact One.no
   rename_i p;cases p<;>first | exact One.no | exact One.ret _
 case idxA sz x i =>
  show One fun V=>aV _ F L ρ V;simp only[aV];cases e:ev ρ x with
  | own k off=>exact One.no
  | el a j=>exact One.no
  | v u =>
   cases m:ev ρ i with
   | own k off=>cases u<;>exact One.no
   | el a j=>cases u<;>exact One.no
   | v d=>cases u<;>cases d<;>first | exact One.no | exact One.idx (One.ret _)
 case extr x i =>
  show One fun V=>aV _ F L ρ V;simp only[aV];cases e:ev ρ x<;>try exact One.no
  rename_i u;cases u<;>try exact One.no
  rename_i vs;simp only[];cases vs.toList[i]?<;>first | exact One.no | exact One.ret _
 case len x =>
  show One fun V=>aV _ F L ρ V;simp only[aV];cases e:ev ρ x<;>try exact One.no
  rename_i u;cases u<;>first | exact One.no | exact One.ret _
 case lenS x =>
  show One fun V=>aV _ F L ρ V;simp only[aV];cases e:ev ρ x<;>try exact One.no
  rename_i u;cases u<;>first | exact One.no | exact One.ret _
 case capa x =>
  show One fun V=>aV _ F L ρ V;simp only[aV];cases e:ev ρ x<;>try exact One.no
  rename_i u;cases u<;>first | exact One.no | exact One.ret _
 case mm mx l =>
  show One fun V=>aV _ F L ρ V;simp only[aV];cases e:l.map (ev ρ) with
  | nil=>exact One.no
  | cons u r =>
   cases u<;>try exact One.no
   rename_i u;cases u<;>try exact One.no
   rename_i k a0;simp only[];cases Sf mx a0 r<;>first | exact One.no | exact One.ret _
end
theorem ur {P:Program}{s s':fD}{d:Option Nat}{F:aJ}{L:Loc}{ρ:Env}{K:dP}(h:drawn s=some s') (ac:(ef s'||jd s'||fM s'||qM s'||jx s')=true) (ab:jd s'=false) (f:evalOp P s' d F L ρ K):evalOp P s d F L ρ (fun F' L' ρ'=>Real F' L'->K F' L' ρ'):=by
 have load:∀{a:Option Addr}{j n:Nat}{KK KK':List Value->Prop},jW F a j n KK->(∀cs,KK cs->KK' cs)->kM F L a j n KK':=by
  rintro a j n KK KK' ⟨cs,p,q,h3⟩ u;exact⟨cs,p,by rcases q with q | q;exact .inl q;exact .inr (.inr (.inl q)),u _ h3⟩
 have app:∀{e sz b:Nat}{sv xv:Value}{KK KK':Loc->Value->Prop},rp F L d e sz b sv xv KK->(∀L' v,(Real F L'->KK L' v)->KK' L' v)->Kv F L e sz b sv xv KK':=by
  rintro e sz b sv xv KK KK' ⟨kd,n,xs,m,news,p,⟨ad,c,q,h3,u⟩,h5,h6,h7,h8⟩ hk;refine⟨kd,n,xs,m,news,?_,⟨ad,c,q,h3,?_⟩,h5,h6,h7,fun v z=>hk _ _ (h8 v z)⟩
  ·rcases p with p | ⟨_,p⟩ | ⟨_,p⟩
   ·exact .inl p
   ·exact .inr (.inl p)
   ·exact .inr (.inr p)
  ·rcases u with u | u
   ·exact .inl u
   ·exact .inr (.inl u)
 by_cases y:ef s'=true
 ·have r:=y;have p:∀V V':SV->Prop,(∀v,V v->V' v)->aV s' F L ρ V->aV s F L ρ V':=by
   intro V V' hV o;have o:=(gI r).mono V V' hV o;cases s<;>simp only[drawn,w7,reduceCtorEq] at h<;>subst h<;>first
    | exact o
    | (simp only[aV] at o ⊢
       split at o
       ·exact o
       ·exact load o fun _ h=>h
       ·exact load o fun _ h=>h
       ·exact o)
    | (simp only[aV] at o ⊢
       split at o
       ·exact load o fun _ h=>h
       ·exact o)
    | (exfalso;revert y;simp[ef];done)
  rw[dn r] at f;have q:=p _ (fun v=>Real F L->K F L (put d v ρ)) (fun v z _=>z) f;cases s<;>simp only[drawn,w7,reduceCtorEq] at h<;>subst h<;>first
   | exact q
   | (exfalso;revert y;simp[ef];done)
 ·by_cases w:jx s'=true
  ·cases s<;>simp only[drawn,w7,reduceCtorEq] at h<;>subst h<;>first | (cases w;done) | skip
   rename_i n a x;have l:(match iV (aZ (val L ρ x)) n,mC (aZ (val L ρ x)),ev ρ a with
    | true,true,.own k off=>match L.get k with
     | some (.box g t cs)=>match kN t ((cs.drop off).take n) n with
      | true=>K F (L.set k (.box g t (bq cs off (aZ (val L ρ x))))) (put d (.v undef) ρ)
      | false=>False
     | _=>False
    | _,_,_=>False):=f
   clear f
   split at l
   case h_2=>exact l.elim
   rename_i e1 e2 e3;split at l
   case h_2=>exact l.elim
   rename_i e4;split at l
   case h_2=>exact l.elim
   rename_i e5;simp only[evalOp,e1,e2,e3,e4,e5];exact fun _=>l
  cases s<;>simp only[drawn,w7,reduceCtorEq] at h<;>subst h<;>first
   | (exfalso;revert y ac w;simp[ef,jd,fM,qM,jx];done)
   | (cases ab;done)
   | (simp only[evalOp] at f ⊢
      split at f
      ·exact app f fun _ _ h=>h
      ·exact f)
   | (simp only[evalOp] at f ⊢
      split at f
      ·split at f
       ·exact f
       ·exact f
      ·exact f)
   | (simp only[evalOp] at f ⊢
      split at f
      ·exact fun g F' ae hg hr=>f g F' ae hg hr
      ·exact f)
section
variable {P:Program}{F:aJ}{L:Loc}{ρ:Env}{K:dP}
def Alike (o:fD) (L L':Loc) (ρ ρ':Env):Prop:=∀x∈bY o,ev ρ' x=ev ρ x/\∀k off,ev ρ x=.own k off->L'.get k=L.get k
theorem Alike.val {o:fD}{L L':Loc}{ρ ρ':Env}(h:Alike o L L' ρ ρ') {x:X}(d:x∈bY o):Fr.val L' ρ' x=Fr.val L ρ x:=by
 obtain⟨c,b⟩:=h x d;simp only[Fr.val,c];cases e:ev ρ x with
 | v u=>rfl
 | el a j=>rfl
 | own k off=>simp only[conc,b k off e]
theorem eO {L L':Loc}{ρ ρ':Env}:∀{xs:List X},(∀x∈xs,Fr.val L' ρ' x=Fr.val L ρ x)->bQ L' ρ' xs=bQ L ρ xs
 | [],_=>rfl
 | x::xs,h=>by simp only[bQ,h x (by simp),eO (xs:=xs) (fun y a=>h y (adb _ a))]
theorem dw {L L':Loc}{ρ ρ':Env}:∀{xs:List X},(∀x∈xs,Fr.val L' ρ' x=Fr.val L ρ x)->cellsOf L' ρ' xs=cellsOf L ρ xs
 | [],_=>rfl
 | x::xs,h=>by simp only[cellsOf,h x (by simp),dw (xs:=xs) (fun y a=>h y (adb _ a))]
theorem oJ {L L':Loc}{ρ ρ':Env}{sz:Nat}:∀{xs:List X},(∀x∈xs,Fr.val L' ρ' x=Fr.val L ρ x)->gD L' ρ' sz xs=gD L ρ sz xs
 | [],_=>rfl
 | x::xs,h=>by simp only[gD,h x (by simp),oJ (xs:=xs) (fun y a=>h y (adb _ a))]
theorem rE {L L':Loc}{ρ ρ':Env}:∀{ps:List (Nat×Nat×X)}{zs:List Value},(∀p∈ps,Fr.val L' ρ' p.2.2=Fr.val L ρ p.2.2)->built L' ρ' zs ps=built L ρ zs ps
 | [],zs,_=>rfl
 | (off,n,x)::ps,zs,h=>by
  have a:=h (off,n,x) (by simp);simp only at a;simp only[built,a];split
  ·exact rE (fun p b=>h p (by simp[b]))
  ·rfl
theorem jW.up {F F':aJ}(d:F.le F') {a:Option Addr}{j n:Nat}{K:List Value->Prop}(h:jW F a j n K):jW F' a j n K:=by
 obtain⟨cs,c,b,e⟩:=h;exact⟨cs,c,by rcases b with b | b;exact .inl (b.mono d);exact .inr b,e⟩
theorem kM.upF {F F':aJ}(d:F.le F') {L:Loc}{a:Option Addr}{j n:Nat}{K:List Value->Prop}(h:kM F L a j n K):kM F' L a j n K:=by
 obtain⟨cs,c,b,e⟩:=h;exact⟨cs,c,by rcases b with b | b;exact .inl (b.mono d);exact .inr b,e⟩
theorem zi {ρ ρ':Env}{d:Int}{x:Option X}(h:∀y∈x.toList,ev ρ' y=ev ρ y):pE ρ' d x=pE ρ d x:=by
 cases x with
 | none=>rfl
 | some y=>simp only[pE,h y (by simp)]
theorem sO {o:fD}(t:ef o=true) {F F':aJ}{L L':Loc}{ρ ρ':Env}(q:F.le F') (H:Alike o L L' ρ ρ') {V:SV->Prop}(h:aV o F L ρ V) (s:KT o=false\/L'=L:=by exact .inr rfl):aV o F' L' ρ' V:=by
 cases o<;>first | (cases t;done) | skip
 case build zs ps =>
  have e:=rE (ps:=ps) (zs:=zs) (L:=L) (L':=L') (ρ:=ρ) (ρ':=ρ') (fun p w=>H.val (adi.2 ⟨p,w,rfl⟩));simp only[aV,e] at h ⊢;exact h
 case mkfn f a b =>
  have j:=eO (xs:=a) (L:=L) (L':=L') (ρ:=ρ) (ρ':=ρ') (fun x m=>H.val (acN.2 (.inl m)));have r:=eO (xs:=b) (L:=L) (L':=L') (ρ:=ρ) (ρ':=ρ') (fun x m=>H.val (acN.2 (.inr m)));simp only[aV,j,r] at h ⊢;exact h
 case mm mx l =>
  have e:l.map (ev ρ')=l.map (ev ρ):=adJ fun x m=>(H x m).1;simp only[aV,e] at h ⊢;exact h
 case slc sz x lo hi =>
  have e:=(H x (by simp[bY])).1;have j:∀d,pE ρ' d lo=pE ρ d lo:=fun d=>zi fun y u=>(H y (by simp only[bY];exact adb _ (acN.2 (.inl u)))).1;have r:∀d,pE ρ' d hi=pE ρ d hi:=fun d=>zi fun y u=>(H y (by simp only[bY];exact adb _ (acN.2 (.inr u)))).1;simp only[aV,e,j,r] at h ⊢;exact h
 case loadD ag n x =>
  obtain⟨e,j⟩:=H x (by simp[bY]);simp only[aV,e] at h ⊢;split at h
  ·rename_i k off m;simp only[j k off m];exact h
  ·exact h.up q
  ·exact h.up q
  ·exact h
 case loadR ag n x =>
  obtain⟨e,j⟩:=H x (by simp[bY]);rcases s with s | rfl
  ·cases s
  ·simp only[aV,e] at h ⊢;split at h
   ·exact h
   ·exact h.upF q
   ·exact h.upF q
   ·exact h
 case loadF ag n x =>
  obtain⟨e,j⟩:=H x (by simp[bY]);simp only[aV,e] at h ⊢;split at h
  ·exact h.up q
  ·exact h.up q
  ·exact h
 case loadK key ag n x =>
  obtain⟨e,j⟩:=H x (by simp[bY]);simp only[aV,e] at h ⊢;split at h
  ·rename_i k off m;simp only[j k off m];exact h
  ·exact h
 case b2sD x =>
  obtain⟨e,j⟩:=H x (by simp[bY]);simp only[aV,e] at h ⊢;split at h
  ·exact h.up q
  ·exact h
 case b2sR x =>
  obtain⟨e,j⟩:=H x (by simp[bY]);rcases s with s | rfl
  ·cases s
  ·simp only[aV,e] at h ⊢;exact h
 case pick c a b =>
  have j:=(H c (by simp[bY])).1;have r:=(H a (by simp[bY])).1;have v:=(H b (by simp[bY])).1;simp only[aV,j,r,v] at h ⊢;exact h
 all_goals first
  | (have j:=(H _ (List.mem_cons_self ..)).1
     simp only[aV,j] at h ⊢;exact h)
  | (have j:=(H _ (List.mem_cons_self ..)).1
     have r:=(H _ (adb _ (List.mem_cons_self ..))).1;simp only[aV,j,r] at h ⊢;exact h)
theorem KU {o:fD}(h:ef o=true) {k off:Nat}(d:aV o F L ρ (fun u=>u=.own k off)):∃x∈bY o,∃f,ev ρ x=.own k f:=by
 cases o<;>first | (cases h;done) | skip
 case mov x=>exact⟨x,by simp[bY],off,d⟩
 case pick c a b =>
  simp only[aV] at d;split at d
  ·exact⟨a,by simp[bY],off,d⟩
  ·exact⟨b,by simp[bY],off,d⟩
  ·exact d.elim
 case nilck x =>
  simp only[aV] at d;split at d
  ·rename_i j f e;injection d with h1 h2
   subst h1;exact⟨x,by simp[bY],f,e⟩
  ·cases d.2
  ·cases d
  ·cases d
  ·split at d
   ·cases d.2
   ·exact d.elim
  ·exact d.elim
 case mkmv nm x =>
  simp only[aV] at d;split at d
  ·cases d
  ·exact d.elim
 case fieldA o' x =>
  simp only[aV] at d;split at d
  ·rename_i j f e;injection d with h1 h2
   subst h1;exact⟨x,by simp[bY],f,e⟩
  ·cases d
  ·cases d
  ·exact d.elim
 case bin op x y =>
  simp only[aV] at d;split at d
  ·split at d
   ·cases op<;>simp only[shI] at d<;>first | exact d.elim | (obtain⟨_,⟨d⟩⟩:=d;cases d;done) | (obtain⟨_,d⟩:=d;cases d;done)
   ·split at d
    ·cases op<;>simp only[binI] at d<;>first | exact d.elim | (cases d;done) | (obtain⟨d⟩:=d;cases d;done) | (obtain⟨_,⟨d⟩⟩:=d;cases d;done) | (obtain⟨_,d⟩:=d;cases d;done)
    ·exact d.elim
  ·cases op<;>simp only[binS] at d<;>first | exact d.elim | (cases d;done) | (obtain⟨_,d⟩:=d;cases d;done)
  ·exact d.elim
 case loadD ag n x =>
  simp only[aV] at d;split at d
  ·split at d
   ·split at d
    ·cases d
    ·exact d.elim
   ·exact d.elim
  ·obtain⟨cs,_,_,d⟩:=d;cases d
  ·obtain⟨cs,_,_,d⟩:=d;cases d
  ·exact d.elim
 case loadR ag n x =>
  simp only[aV] at d;split at d
  ·split at d
   ·split at d
    ·cases d
    ·exact d.elim
   ·exact d.elim
  ·obtain⟨cs,_,_,d⟩:=d;cases d
  ·obtain⟨cs,_,_,d⟩:=d;cases d
  ·exact d.elim
 case loadF ag n x =>
  simp only[aV] at d;split at d
  ·obtain⟨cs,_,_,d⟩:=d;cases d
  ·obtain⟨cs,_,_,d⟩:=d;cases d
  ·exact d.elim
 case loadK key ag n x =>
  simp only[aV] at d;split at d
  ·split at d
   ·split at d
    ·split at d
     ·cases d
     ·exact d.elim
    ·exact d.elim
   ·exact d.elim
  ·exact d.elim
 case b2sD x =>
  simp only[aV] at d;split at d
  ·obtain⟨cs,_,_,⟨bs,_,d⟩⟩:=d;cases d
  ·exact d.elim
 case b2sR x =>
  simp only[aV] at d;split at d
  ·obtain⟨_,_,_,bs,_,_,_,d⟩:=d;cases d
  ·exact d.elim
 all_goals
  simp only[aV] at d
  repeat' split at d
 all_goals first
  | exact d.elim
  | (cases d;done)
  | (obtain⟨d⟩:=d;cases d;done)
  | (obtain⟨_,_,d⟩:=d;cases d;done)
  | (obtain⟨_,_,_,d⟩:=d;cases d;done)
end
theorem OV {P:Program}{s s':fD}{d:Option Nat}{F:aJ}{L:Loc}{ρ:Env}{K:dP}(h:zh s=some s') (a:evalOp P s' d F L ρ K):evalOp P s d F L ρ (fun F' L' ρ'=>Real F' L'->K F' L' ρ'):=by
 cases s<;>simp only[zh,w7,reduceCtorEq] at h<;>subst h
 ·simp only[evalOp] at a ⊢;exact a
 ·simp only[evalOp] at a ⊢;split at a
  ·rename_i u b f c;rw[f,c];cases b<;>first
    | exact a
    | (obtain⟨⟨k,n,v,q,xs,r,l,o,j,m,t,p,news,_,_,_,_,e,_⟩ | ⟨_,_,_,_,_,_,_,e,_⟩⟩:=a<;>cases e)
  ·exact a.elim
theorem tL {P:Program}{F:aJ}{L:Loc}{ρ:Env}{K:dP}{n:Nat}{a x:X}{d:Option Nat}:evalOp P (.storeD n a x) d F L ρ K=(match iV (aZ (val L ρ x)) n,mC (aZ (val L ρ x)),ev ρ a with
  | true,true,.own k off=>match L.get k with
   | Option.some (.box g t cs)=>match kN t ((cs.drop off).take n) n with
    | true=>K F (L.set k (.box g t (bq cs off (aZ (val L ρ x))))) (put d (.v undef) ρ)
    | false=>False
   | _=>False
  | _,_,_=>False):=rfl
theorem tM {P:Program}{F:aJ}{L:Loc}{ρ:Env}{K:dP}{key n:Nat}{a x:X}{d:Option Nat}:evalOp P (.storeK key n a x) d F L ρ K=(match iV (aZ (val L ρ x)) n,mC (aZ (val L ρ x)),ev ρ a with
  | true,true,.own k off=>match Nat.beq k key with
   | true=>match L.get k with
    | Option.some (.box g t cs)=>match kN t ((cs.drop off).take n) n with
     | true=>K F (L.set k (.box g t (bq cs off (aZ (val L ρ x))))) (put d (.v undef) ρ)
     | false=>False
    | _=>False
   | false=>False
  | _,_,_=>False):=rfl
theorem jy {P:Program}{F:aJ}{L:Loc}{ρ:Env}{K:dP}{o:fD}{d:Option Nat}(m:jx o=true) (b:evalOp P o d F L ρ K) :
  ∃n a x k off g t cs,(o=.storeD n a x\/o=.storeK k n a x)/\iV (aZ (val L ρ x)) n=true/\mC (aZ (val L ρ x))=true/\ev ρ a=.own k off/\L.get k=some (.box g t cs)/\kN t ((cs.drop off).take n) n=true /\
   K F (L.set k (.box g t (bq cs off (aZ (val L ρ x))))) (put d (.v undef) ρ):=by
 cases o<;>first | (cases m;done) | skip
 case storeD n a x =>
  rw[tL] at b;split at b
  case h_2=>exact b.elim
  rename_i k off h j f;split at b
  case h_2=>exact b.elim
  rename_i g t cs l;split at b
  case h_2=>exact b.elim
  rename_i e;exact⟨n,a,x,k,off,g,t,cs,.inl rfl,h,j,f,l,e,b⟩
 case storeK key n a x =>
  rw[tM] at b;split at b
  case h_2=>exact b.elim
  rename_i k off h j f;split at b
  case h_2=>exact b.elim
  rename_i c;have c:=vz c;subst c;split at b
  case h_2=>exact b.elim
  rename_i g t cs l;split at b
  case h_2=>exact b.elim
  rename_i e;exact⟨n,a,x,k,off,g,t,cs,.inr rfl,h,j,f,l,e,b⟩
theorem jn {P:Program}{F:aJ}{L:Loc}{ρ:Env}{K:dP}{o:fD}{d:Option Nat}{n:Nat}{a x:X}{k off g:Nat}{t:TypeId}{cs:List Value}(m:o=.storeD n a x\/o=.storeK k n a x) (e:iV (aZ (val L ρ x)) n=true) (f:mC (aZ (val L ρ x))=true) (c:ev ρ a=.own k off) (h:L.get k=some (.box g t cs)) (b:kN t ((cs.drop off).take n) n=true)
  (j:K F (L.set k (.box g t (bq cs off (aZ (val L ρ x))))) (put d (.v undef) ρ)):evalOp P o d F L ρ K:=by
 rcases m with rfl | rfl
 ·rw[tL];simp only[e,f,c,h,b];exact j
 ·rw[tM];have l:Nat.beq k k=true:=by simp
  simp only[e,f,c,l,h,b];exact j
theorem BG {x:X}{n:Int}{ρ:Env}(h:CI x=some n):∃k,ev ρ x=.v (.int k n):=by
 unfold CI at h;split at h
 ·injection h with h;subst h;exact⟨_,rfl⟩
 ·cases h
theorem OW {L:Loc}{ρ:Env}{x:X}{k:IntKind}{m:Int}(h:val L ρ x=.int k m):ev ρ x=.v (.int k m):=by
 unfold val at h;cases e:ev ρ x with
 | v u=>rw[e] at h;exact j3 SV.v h
 | own j off =>
  rw[e] at h;simp only[conc] at h;split at h<;>cases h
 | el a j =>
  rw[e] at h;cases a<;>cases h
theorem OX {b:Nat}{n m:Int}(h:Uh b n m=true):0<=n/\n=m/\n.toNat*b<=140737488355328/\n.toNat<=maxLen:=by
 simp only[Uh,acR] at h;obtain⟨⟨c,d⟩,a⟩:=h;split at a
 ·have a:=vz a;subst a;exact⟨by simp,rfl,ac8 c,ac8 d⟩
 ·cases a
theorem OY {P:Program}{bx:List Nat}{s s':fD}{d:Option Nat}{F:aJ}{L:Loc}{ρ:Env}{K:dP}(h:oZ bx s=some s') (l:(ef s'||jd s'||fM s'||qM s'||jx s')=true) (c:jd s'=false) (b:evalOp P s' d F L ρ K):evalOp P s d F L ρ (fun F' L' ρ'=>Real F' L'->K F' L' ρ'):=by
 unfold oZ at h;split at h
 ·split at h
  ·rename_i n m f p;split at h
   ·rename_i y;injection h with h
    subst h;obtain⟨k1,f⟩:=BG (ρ:=ρ) f;obtain⟨k2,p⟩:=BG (ρ:=ρ) p;obtain⟨v,u,z,w⟩:=OX y;subst u;simp only[evalOp,f,p] at b ⊢;split at b
    ·rename_i k;split at b
     ·rename_i q _ _;simp only[q];exact⟨v,ac9 _,z,w,b⟩
     ·exact b.elim
    ·exact b.elim
   ·cases h
  ·split at h
   ·rename_i i j _ _;split at h
    ·rename_i o;have o:=vz o;subst o;injection h with h
     subst h;simp only[evalOp] at b ⊢;split at b
     ·rename_i k;split at b
      ·rename_i q _ y;obtain⟨ki,m,f,v,u,z,w⟩:=D8 y;have p:=OW f;simp only[p,q];rw[u] at b;exact⟨v,ac9 _,z,w,b⟩
      ·exact b.elim
     ·exact b.elim
    ·cases h
   ·cases h
 ·rename_i e sz;injection h with h
  subst h;simp only[evalOp] at b ⊢;split at b
  ·rename_i k;split at b
   ·rename_i q _ _;simp only[gD,q];exact b
   ·exact b.elim
  ·exact b.elim
 ·rename_i a n i;split at h
  ·injection h with h
   subst h;refine ur (s:=.load a n (.t i)) (s':=.loadD a n (.t i)) rfl rfl rfl ?_;simp only[evalOp,aV] at b ⊢;split at b
   ·rename_i k off e;simp only[e];split at b
    ·exact b
    ·exact b.elim
   ·exact b.elim
  ·injection h with h
   subst h;exact ur (s:=.load a n (.t i)) rfl l c b
 ·rename_i n i x;split at h
  ·injection h with h
   subst h;obtain⟨n',a',x',k,off,g,t,cs,r,f,p,e3,e4,e5,b⟩:=jy rfl b;rcases r with r | r
   ·cases r
   ·injection r with h1 h2 h3 h4
    subst h1 h2 h3 h4;exact ur (s:=.store n (.t i) x) (s':=.storeD n (.t i) x) rfl rfl rfl (jn (.inl rfl) f p e3 e4 e5 b)
  ·injection h with h
   subst h;exact ur (s:=.store n (.t i) x) rfl l c b
 ·exact ur h l c b
def Loc.sameAs (L L':Loc):Prop:=∀j,L'.get j=L.get j
theorem zj {P:Program}{f:Nat}{args:List Value}{F:aJ}{L:Loc}{d:Option Nat}{KK:aJ->Loc->Value->Prop}(h:fq P f args F L d KK):eX P f args F L (fun F' L' v=>∃L2,L'.sameAs L2/\(Real F' L2->KK F' L2 v)):=by
 cases h with
 | frz R q r =>
  refine⟨[],[],[],R,rfl,List.nodup_nil,List.nodup_nil,fun _ h=>(by cases h),q,fun v F' Lo a m=>?_⟩;obtain⟨rfl,y⟩:=r v F' Lo a m;exact⟨rfl,fun _ _ _ _ h=>(by cases h),_,fun _=>rfl,y⟩
 | own R k q hd s r =>
  refine⟨[],[k],[],R,rfl,List.nodup_nil,by simp,fun j p=>.inr (by simp at p;rw[p];exact s),q,fun v F' Lo a m=>?_⟩;obtain⟨o,rfl,y⟩:=r v F' Lo a m;exact⟨rfl,fun _ _ _ _ h=>(by cases h),_,fun _=>rfl,y⟩
 | row R x rv t sz n xs q s r =>
  refine⟨[x],[x],[.row rv t sz n xs],fun F Lo v=>Lo=[.row (.slice none 0 0) t sz 0 []]/\R F [] v,?_,by simp,by simp,fun j p=>.inl p,⟨q.ent,fun F G L v a hr=>⟨hr.1,q.mono _ _ _ _ a hr.2⟩,fun w hs=>(q.run w hs).mono ?_⟩,fun v F' Lo a m=>?_⟩
  ·simp only[Loc.sub,s]
  ·rintro e w' ⟨v,F',Lo,rfl,z,c,m⟩;obtain⟨rfl,_⟩:=r v F' Lo c.le m;have hb:(Own.row (.slice none 0 0) t sz 0 []).blk=none:=rfl;have hg:∀j o,Loc.get (inp [.row (.slice none 0 0) t sz 0 []]) j=some o->o=.row (.slice none 0 0) t sz 0 []:=by
    intro j o e;rw[bE] at e;split at e
    ·cases p:j-1000 with
     | zero=>rw[p] at e;simpa using e.symm
     | succ i=>rw[p] at e;simp at e
    ·cases e
   have ab:∀b,¬(inp [.row (.slice none 0 0) t sz 0 []]).owns b:=by
    rintro b ⟨j,o,e,l⟩;rw[hg j o e,hb] at l;cases l
   refine⟨v,F',_,rfl,⟨z.frz,fun j o e=>?_,fun j o g e l=>?_,fun j j' o o' g e e' l=>?_,z.glob⟩,⟨c.le,c.os,c.tape,c.output,c.size,c.same,c.frz,fun b hb=>s6 hb (ab b)⟩,rfl,m⟩
   ·rw[hg j o e];exact World.ownsRow_nil w' 0 t sz
   ·rw[hg j o e,hb] at l;cases l
   ·rw[hg j o e,hb] at l;cases l
  ·obtain⟨rfl,m⟩:=m;obtain⟨_,y⟩:=r v F' [] a m;refine⟨rfl,fun k g t' cs u e=>?_,L.set x (.row (.slice none 0 0) t sz 0 []),fun j=>?_,y⟩
   ·rw[adr.1 u,s] at e;cases e
   ·simp only[Loc.aa7,Loc.puts,Loc.aa4,Loc.abg];split<;>rfl
 | lent R x rv t sz n xs q s r =>
  refine⟨[x],[x],[.row rv t sz n xs],_,by simp only[Loc.sub,s],by simp,by simp,fun j p=>.inl p,q,fun v F' Lo a m=>?_⟩;obtain⟨rfl,m⟩:=m;refine⟨rfl,fun k g t' cs u e=>?_,L,fun j=>?_,r v F' a m⟩
  ·rw[adr.1 u,s] at e;cases e
  ·simp only[Loc.aa7,Loc.puts,Loc.aa4,Loc.abg];split
   ·rename_i p;rw[p,s]
   ·rfl
theorem OZ {P:Program}{bx:List Nat}{s s':fD}{d:Option Nat}{F:aJ}{L:Loc}{ρ:Env}{K:dP}(h:oZ bx s=some s') (a:jd s'=true) (b:evalOp P s' d F L ρ K):evalOp P s d F L ρ (fun F' L' ρ'=>∃L2,L'.sameAs L2/\(Real F' L2->K F' L2 ρ')):=by
 unfold oZ at h;split at h
 ·split at h
  ·split at h
   ·injection h with h;subst h;cases a
   ·cases h
  ·split at h
   ·split at h
    ·injection h with h;subst h;cases a
    ·cases h
   ·cases h
 ·injection h with h;subst h;cases a
 ·split at h
  ·injection h with h;subst h;cases a
  ·injection h with h;subst h;cases a
 ·split at h
  ·injection h with h;subst h;cases a
  ·injection h with h;subst h;cases a
 ·cases s<;>simp only[drawn,w7,reduceCtorEq] at h<;>subst h<;>first | (cases a;done) | skip
  ·simp only[evalOp] at b ⊢;exact zj b
  ·simp only[evalOp] at b ⊢;split at b
   ·exact zj b
   ·exact b.elim
theorem zk {fl bx:List Nat}{bk:List (Nat×Nat)}{s s':fD}(h:v7 fl bk bx s=some s'):oZ bx s=some s'\/(∃a n i,s=.load a n (.t i)/\s'=.loadF a n (.t i))\/(∃a n i key,s=.load a n (.t i)/\s'=.loadK key a n (.t i))\/(∃a n i,s=.load a n (.t i)/\s'=.loadR a n (.t i))\/∃i,s=.b2s (.t i)/\s'=.b2sR (.t i):=by
 unfold v7 at h;split at h
 ·rename_i a n i;split at h
  ·injection h with h
   exact .inr (.inl ⟨a,n,i,rfl,h.symm⟩)
  ·split at h
   ·rename_i key _;split at h
    ·injection h with h
     exact .inr (.inr (.inr (.inl ⟨a,n,i,rfl,h.symm⟩)))
    ·injection h with h
     exact .inr (.inr (.inl ⟨a,n,i,key,rfl,h.symm⟩))
   ·exact .inl h
 ·rename_i i;split at h
  ·injection h with h
   exact .inr (.inr (.inr (.inr ⟨i,rfl,h.symm⟩)))
  ·exact .inl h
 ·exact .inl h
theorem Jv {o:Bool}{n:Nat}{x:X}{F:aJ}{L:Loc}{ρ:Env}{V V':SV->Prop}(h:aV (.load o n x) F L ρ V) (a:∀v,V v->V' v):aV (.load o n x) F L ρ V':=by
 have:=One.mono (T:=fun V=>aV (.loadR o n x) F L ρ V) (gI rfl) V V' a h;exact this
theorem O0 {P:Program}{fl bx:List Nat}{bk:List (Nat×Nat)}{s s':fD}{d:Option Nat}{F:aJ}{L:Loc}{ρ:Env}{K:dP}(h:v7 fl bk bx s=some s') (l:(ef s'||jd s'||fM s'||qM s'||jx s')=true) (j:jd s'=false) (f:evalOp P s' d F L ρ K):evalOp P s d F L ρ (fun F' L' ρ'=>Real F' L'->K F' L' ρ'):=by
 rcases zk h with h | ⟨a,n,i,rfl,rfl⟩ | ⟨a,n,i,key,rfl,rfl⟩ | ⟨a,n,i,rfl,rfl⟩ | ⟨i,rfl,rfl⟩
 rotate_left 3
 ·have f:aV (.load a n (.t i)) F L ρ (fun v=>K F L (put d v ρ)):=f;exact Jv f fun v h _=>h
 rotate_left
 ·exact OY h l j f
 ·refine ur (s:=.load a n (.t i)) (s':=.loadD a n (.t i)) rfl rfl rfl ?_;simp only[evalOp,aV] at f ⊢;split at f
  ·rename_i e;simp only[e];exact f
  ·rename_i e;simp only[e];exact f
  ·exact f.elim
 ·refine ur (s:=.load a n (.t i)) (s':=.loadD a n (.t i)) rfl rfl rfl ?_;simp only[evalOp,aV] at f ⊢;split at f
  ·rename_i k off e;simp only[e];split at f
   ·exact f
   ·exact f.elim
  ·exact f.elim
 ·have f:aV (.b2sR (.t i)) F L ρ (fun v=>K F L (put d v ρ)):=f;show aV (.b2s (.t i)) F L ρ (fun v=>Real F L->K F L (put d v ρ));unfold aV at f ⊢
  dsimp only at f ⊢
  split at f
  ·rename_i m n c e;obtain⟨k,ty,w,bs,q,o,x,p⟩:=f;refine⟨bs.map fun b=>Value.int .u8 b.toNat,by simp[o],?_,bs,rfl,fun _=>p⟩;cases m with
   | none=>exact .inr (.inr (.inl (x rfl)))
   | some m=>exact .inr (.inl ⟨k,_,ty,1,n,_,m,w,q,rfl,rfl,fun i u r=>by rw[Nat.zero_add];exact r⟩)
  ·exact f.elim
theorem KV {P:Program}{fl bx:List Nat}{bk:List (Nat×Nat)}{s s':fD}{d:Option Nat}{F:aJ}{L:Loc}{ρ:Env}{K:dP}(h:v7 fl bk bx s=some s') (b:jd s'=true) (c:evalOp P s' d F L ρ K):evalOp P s d F L ρ (fun F' L' ρ'=>∃L2,L'.sameAs L2/\(Real F' L2->K F' L2 ρ')):=by
 rcases zk h with h | ⟨a,n,i,rfl,rfl⟩ | ⟨a,n,i,key,rfl,rfl⟩ | ⟨a,n,i,rfl,rfl⟩ | ⟨i,rfl,rfl⟩
 ·exact OZ h b c
 ·cases b
 ·cases b
 ·cases b
 ·cases b
end Go.Fr
