/- Part of the proofs of the statements of this seat. -/
import Derived.Orders
import Derived.Below
import Derived.Laws.OwnMore
import Derived.Maps.AppendAt
import Derived.WalkKit
import Derived.KernelRfl
import Derived.Lib.AppendStr
import Derived.Laws.BytesString
import Derived.Laws.StructEq
import Derived.Lib.AppendZeros
import Derived.ArgAppend
import Derived.Laws.CopyRow
import Derived.Laws.IdiomCopy
import Derived.Carry
import Derived.Maps.RangeRun
set_option maxRecDepth 10000
set_option linter.unusedVariables false
set_option linter.unusedSimpArgs false
namespace Go.Fr
open Go Go.RowKit
abbrev Frz:=Nat → Option Obj
def Frz.le (F G:Frz):Prop:=∀ b o,F b = some o → G b = some o
theorem Frz.le_refl (F:Frz):F.le F:=fun _ _ h => h
theorem Frz.le_trans {F G H:Frz} (h:F.le G) (k:G.le H):F.le H:=fun b o e => k b o (h b o e)
def opqBase:Nat:=2 ^ 64
def opqDec:Nat → Value
 | 0 => .slice none 0 0
 | m + 1 => .slice (some ⟨m / (opqBase * opqBase),0,none⟩) (m / opqBase % opqBase) (m % opqBase)
def OpqRel (k:Nat) (F:Frz) (v:Value):Prop:=(k = 0 ∧ v = .nilIface) ∨ ∃ m,k = m + 1 ∧ v = opqDec m
theorem OpqRel.mono {k:Nat} {F G:Frz} {v:Value} (h:F.le G) (r:OpqRel k F v):OpqRel k G v:=r
theorem OpqRel.one {k:Nat} {F:Frz} {v:Value} (r:OpqRel k F v):v.oneCell' = true:=by
 rcases r with ⟨_,rfl⟩ | ⟨m,_,rfl⟩
 ·rfl
 ·cases m <;> rfl
theorem opq_nil {F:Frz}:OpqRel 0 F .nilIface:=.inl ⟨rfl,rfl⟩
def opqLen:Nat → Option Nat
 | 0 => none
 | 1 => some 0
 | m + 2 => some (m / opqBase % opqBase)
theorem opq_len {F:Frz} {k n:Nat} {v:Value} (h:OpqRel k F v) (e:opqLen k = some n):∃ a c,v = .slice a n c:=by
 rcases h with ⟨rfl,_⟩ | ⟨m,rfl,rfl⟩
 ·cases e
 ·cases m with
  | zero => injection e with e; subst e; exact ⟨none,0,rfl⟩
  | succ m => injection e with e; subst e; exact ⟨_,_,rfl⟩
def Glob (F:Frz):Prop:=True
theorem Glob.mono {F G:Frz} (h:F.le G) (g:Glob F):Glob G:=g
def globOpq (g:Nat):Option Nat:=none
theorem glob_get {F:Frz} {g k:Nat} (h:Glob F) (e:globOpq g = some k):∃ v t fr,F g = some (.cells #[v] t fr) ∧ OpqRel k F v:=by cases e
def opqLook (k:Nat) (n:Int):Option (Int × Bool):=none
theorem opq_look {F:Frz} {k:Nat} {v:Value} {n r:Int} {b:Bool} (h:OpqRel k F v) (e:opqLook k n = some (r,b)) :
  ∃ m es cl,v = .map (some m) ∧ F m = some (.map es cl) ∧ es.isEmpty = false ∧
   ∃ o,Instr.findNow (.int .i64) (.int .i64 n) es.toList 0 = some o ∧ ((b = true ∧ ∃ i,o = some (i,.int .i64 r)) ∨ (b = false ∧ r = 0 ∧ o = none)):=by cases e
theorem opq_look_wf {k:Nat} {n r:Int} {b:Bool} (e:opqLook k n = some (r,b)):(Lit.int .i64 r).wf = true:=by cases e
def opqNil (k:Nat):Option Bool:=match k with | 0 => some true | _ => none
theorem opq_nilb {F:Frz} {k:Nat} {v:Value} {b:Bool} (h:OpqRel k F v) (e:opqNil k = some b):(b = true → v = .nilIface) ∧ (b = false → ∃ t u,v = .iface t u):=by
 unfold opqNil at e
 split at e
 case h_2 => cases e
 injection e with e; subst e
 refine ⟨fun _ => ?_,fun e => by cases e⟩
 rcases h with h | ⟨m,h,_⟩
 ·exact h.2
 ·cases h
def opqMaps:Bool:=false
def mOkL:List (TypeId × String):=[]
inductive SV where
 | v (x:Value)
 | own (k off:Nat)
 | el (a:Option Addr) (j:Nat)
 deriving Inhabited
inductive Own where
 | box (g:Nat) (t:TypeId) (cs:List Value)
 | row (v:Value) (t:TypeId) (sz n:Nat) (xs:List Value)
def Own.blk:Own → Option Nat
 | .box g _ _ => some g
 | .row v _ _ _ _ => v.ownBlock
abbrev Loc:=List (Nat × Own)
def Loc.get:Loc → Nat → Option Own
 | [],_ => none
 | (j,o) :: l,k => match Nat.beq j k with | true => some o | false => Loc.get l k
def Loc.set:Loc → Nat → Own → Loc
 | [],k,o => [(k,o)]
 | (j,p) :: l,k,o => match Nat.beq j k with
  | true => (k,o) :: l
  | false => match Nat.ble j k with
   | true => (j,p) :: Loc.set l k o
   | false => (k,o) :: (j,p) :: l
def Loc.del:Loc → Nat → Loc
 | [],_ => []
 | (j,o) :: l,k => match Nat.beq j k with | true => Loc.del l k | false => (j,o) :: Loc.del l k
abbrev Env:=Nat → SV
def put (d:Option Nat) (v:SV) (ρ:Env):Env :=
 match d with
 | some d => fun j => match Nat.beq j d with | true => v | false => ρ j
 | none => ρ
def conc (L:Loc):SV → Value
 | .v x => x
 | .own k off => match L.get k with | some (.box g _ _) => .pointer (some ⟨g,off,none⟩) | _ => undef
 | .el a j => match a with | some ad => .pointer (some (ad.add j)) | none => undef
def entOf:Value → Nat → MapEntry
 | .agg ⟨[k,v]⟩,i => { key:=k,val:=v,born:=i }
 | v,i => { key:=v,val:=v,born:=i }
def seenOf:Value → Nat
 | .int _ n => n.toNat
 | _ => 0
def entsFrom:List Value → Nat → List MapEntry
 | [],_ => []
 | v :: l,i => entOf v i :: entsFrom l (i + 1)
def mapObj:List Value → Obj
 | .tuple ⟨[.map (some m),.int .i64 n]⟩ :: seen => .mapIter (some m) n.toNat (seen.map seenOf).toArray n.toNat
 | es => .map (entsFrom es 0).toArray es.length
def boxObj:TypeId → List Value → Obj
 | 0,cs => mapObj cs
 | t + 1,cs => .cells cs.toArray (t + 1) (0,0)
theorem boxObj_ne {t:TypeId} (h:t ≠ 0) (cs:List Value):boxObj t cs = .cells cs.toArray t (0,0):=by
 cases t with
 | zero => exact absurd rfl h
 | succ t => rfl
def Own.ok (w:World):Own → Prop
 | .box g t cs => w.heap[g]? = some (boxObj t cs)
 | .row v t sz n xs => w.ownsRow 0 t sz v n xs
structure St (F:Frz) (L:Loc) (w:World):Prop where
 frz:∀ b o,F b = some o → w.heap[b]? = some o
 own:∀ k o,L.get k = some o → o.ok w
 off:∀ k o g,L.get k = some o → o.blk = some g → F g = none
 sep:∀ k k' o o' g,L.get k = some o → L.get k' = some o' → o.blk = some g → o'.blk = some g → k = k'
 glob:Glob F
def Loc.owns (L:Loc) (b:Nat):Prop:=∃ k o,L.get k = some o ∧ o.blk = some b
structure Step (F:Frz) (L:Loc) (w:World) (F':Frz) (L':Loc) (w':World):Prop where
 le:F.le F'
 os:w'.os = w.os
 tape:w'.tape = w.tape
 output:w'.output = w.output
 size:w.heap.size ≤ w'.heap.size
 same:∀ b,b < w.heap.size → ¬ L.owns b → w'.heap[b]? = w.heap[b]?
 frz:∀ b,F' b ≠ none → F b ≠ none ∨ L.owns b ∨ w.heap.size ≤ b
 own:∀ b,L'.owns b → L.owns b ∨ w.heap.size ≤ b
def FCells (F:Frz) (a:Option Addr) (j:Nat) (cs:List Value):Prop :=
 ∃ ad arr t fr,a = some ad ∧ F ad.block = some (.cells arr t fr) ∧ ad.spot = none ∧ ∀ (i:Nat) (v:Value),cs[i]? = some v → arr[ad.off + j + i]? = some v
def inpFrom:Nat → List Own → Loc
 | _,[] => []
 | k,o :: l => (k,o) :: inpFrom (k + 1) l
def inp (l:List Own):Loc:=inpFrom 1000 l
structure CallsA (P:Program) (f:FuncId) (args:Array Value) (F:Frz) (Lin:List Own) (R:Frz → List Own → Value → Prop):Prop where
 ent:∃ fn,P.funcs[f]? = some fn ∧ fn.body.isSome = true ∧ (fn.name == "runtime.NumGoroutine") = false
 mono:∀ F G L v,F.le G → R F L v → R G L v
 run:∀ w,St F (inp Lin) w → Calls P f args w fun e w' => ∃ v F' Lo,e = .returned v ∧ St F' (inp Lo) w' ∧ Step F (inp Lin) w F' (inp Lo) w' ∧ R F' Lo v
def Chn (v:Value) (ch:List PanicEntry):Prop:=∃ older,ch = { v,recovered:=false } :: older ∧ ∀ e ∈ older,e.goexit = false
theorem Chn.one (v:Value):Chn v [{ v,recovered:=false }]:=⟨[],rfl,fun e h => by cases h⟩
structure CallsX (P:Program) (f:FuncId) (args:Array Value) (F:Frz) (Lin:List Own) (R:Frz → List Own → Value → Prop) (Pp:Value → Prop):Prop where
 ent:∃ fn,P.funcs[f]? = some fn ∧ fn.body.isSome = true ∧ (fn.name == "runtime.NumGoroutine") = false
 mono:∀ F G L v,F.le G → R F L v → R G L v
 run:∀ w,St F (inp Lin) w → Calls P f args w fun e w' => (∃ v F' Lo,e = .returned v ∧ St F' (inp Lo) w' ∧ Step F (inp Lin) w F' (inp Lo) w' ∧ R F' Lo v) ∨
  ∃ v ch F' Lo,e = .panicked ch ∧ Chn v ch ∧ St F' (inp Lo) w' ∧ Step F (inp Lin) w F' (inp Lo) w' ∧ Lo.length = Lin.length ∧ (∀ (i:Nat) g t cs,Lin[i]? = some (.box g t cs) → ∃ cs',Lo[i]? = some (.box g t cs')) ∧ Pp v
theorem CallsA.toX {P:Program} {f:FuncId} {args:Array Value} {F:Frz} {Lin:List Own} {R:Frz → List Own → Value → Prop} {Pp:Value → Prop} (h:CallsA P f args F Lin R):CallsX P f args F Lin R Pp :=
 ⟨h.ent,h.mono,fun w hs => (h.run w hs).mono fun _ _ k => .inl k⟩
inductive X where
 | t (n:Nat)
 | c (v:Value)
 | fn (f:Nat)
 | mt (nm:String) (n:Nat)
 deriving Inhabited
def mtv (nm:String):SV → SV
 | .v x => .v (.func (.method nm) #[x] #[])
 | .own _ _ => .v undef
 | .el _ _ => .v undef
def ev (ρ:Env):X → SV
 | .t n => ρ n
 | .c v => .v v
 | .fn f => .v (.func (.func f) #[] #[])
 | .mt nm n => mtv nm (ρ n)
def methP (P:Program) (t:TypeId) (nm:String):Option FuncId :=
 match P.info? t with
 | some i => match i.methods.find? (·.name == nm) with
  | some m => match m.path.toList,m.func with
   | [],some (f,pr) => match P.underlying t,pr with
    | some (.pointer _),true => some f
    | some (.pointer _),false => none
    | some _,false => some f
    | _,_ => none
   | _,_ => none
  | none => none
 | none => none
def mOk:List (TypeId × String) → TypeId → String → Bool
 | [],_,_ => false
 | (t,nm) :: l,t',nm' => match Nat.beq t t',decide (nm = nm') with | true,true => true | _,_ => mOk l t' nm'
def tabOk (P:Program):Bool:=mOkL.all fun x => (methP P x.1 x.2).isSome
def fnOf (P:Program):SV → Option (Nat × List Value × List Value)
 | .v (.func (.func f) fi ca) => some (f,fi.toList,ca.toList)
 | .v (.func (.method nm) fi ca) => match fi.toList with
  | [.iface t u] => match methP P t nm with
   | some f => some (f,[u],[])
   | none => none
  | _ => none
 | _ => none
def fnOfM (P:Program) (f:SV) (args:List Value):Option (Nat × List Value) :=
 match f,args with
 | .v (.func (.methodOf t nm) ⟨[]⟩ _),.iface t' u :: rest => match P.underlying t with
  | some (.interface _) => match methP P t' nm with
   | some f => some (f,u :: rest)
   | none => none
  | _ => none
 | _,_ => none
def val (L:Loc) (ρ:Env) (x:X):Value:=conc L (ev ρ x)
inductive SOp where
 | mov (x:X)
 | pick (c a b:X)
 | box (t:TypeId) (x:X)
 | boxF (t:TypeId) (x:X)
 | alloc (t:TypeId) (zs:List Value)
 | mkF (e:TypeId) (n sz:Nat) (xs:List X)
 | mkR (e:TypeId) (n sz:Nat) (xs:List X)
 | build (zs:List Value) (ps:List (Nat × Nat × X))
 | load (agg:Bool) (n:Nat) (x:X)
 | loadD (agg:Bool) (n:Nat) (x:X)
 | store (n:Nat) (a x:X)
 | nilck (x:X)
 | bin (op:BinOp) (x y:X)
 | eqB (neg:Bool) (x y:X)
 | eqP (neg:Bool) (x y:X)
 | eqS (neg:Bool) (x y:X)
 | eqF (neg:Bool) (x y:X)
 | eqN (neg:Bool) (x:X)
 | tas (t:TypeId) (z:Value) (x:X)
 | eqA (neg:Bool) (ks:List Bool) (x y:X)
 | un (op:UnOp) (x:X)
 | conv (k:IntKind) (x:X)
 | b2s (x:X)
 | s2b (e:TypeId) (x:X)
 | mkfn (f:Nat) (first cap:List X)
 | makeS (e:TypeId) (sz bytes:Nat) (zs:List Value) (l c:X)
 | slc (sz:Nat) (x:X) (lo hi:Option X)
 | slcS (x:X) (lo hi:Option X)
 | fieldA (off:Nat) (x:X)
 | fieldV (agg:Bool) (off n:Nat) (x:X)
 | idxA (sz:Nat) (x i:X)
 | idxS (x i:X)
 | extr (x:X) (i:Nat)
 | call (f:Nat) (args:List X)
 | callV (f:X) (args:List X)
 | callD (f:Nat) (args:List X)
 | boxD (t:TypeId) (x:X)
 | allocD (t:TypeId) (zs:List Value)
 | mkFD (e:TypeId) (n sz:Nat) (xs:List X)
 | callVD (f:X) (args:List X)
 | callO (f:Nat) (args:List X)
 | callVO (f:X) (args:List X)
 | len (x:X)
 | lenS (x:X)
 | capa (x:X)
 | mm (mx:Bool) (args:List X)
 | app (e:TypeId) (sz bytes:Nat) (zs:List Value) (s x:X)
 | appD (e:TypeId) (sz bytes:Nat) (zs:List Value) (s x:X)
 | storeD (n:Nat) (a x:X)
 | appX (e:TypeId) (sz bytes:Nat) (zs:List Value) (s x:X)
 | appS (e:TypeId) (s x:X)
 | appZ (e:TypeId) (bytes:Nat) (k:IntKind) (s x:X)
 | copy (e:TypeId) (sz:Nat) (d s:X)
 | mkif (t:TypeId) (x:X)
 | b2sD (x:X)
 | b2sR (x:X)
 | makeSD (e sz n:Nat) (zs:List Value)
 | loadK (key:Nat) (agg:Bool) (n:Nat) (x:X)
 | storeK (key n:Nat) (a x:X)
 | copyX (e:TypeId) (sz:Nat) (d s:X)
 | storeX (n:Nat) (a x:X)
 | pan (x:X)
 | gload (g:Nat)
 | look (x i:X)
 | mkmv (nm:String) (x:X)
 | loadF (agg:Bool) (n:Nat) (x:X)
 | loadR (agg:Bool) (n:Nat) (x:X)
 | mkmap
 | mlook (str ok:Bool) (z:Value) (x i:X)
 | mupd (str:Bool) (x i v:X)
 | mlen (x:X)
 | mrange (x:X)
 | mnext (x:X)
 | mentry (x:X)
 | dead
 deriving Inhabited
structure SOper where
 dst:Option Nat
 op:SOp
 guard:Option (Nat × Bool)
 deriving Inhabited
abbrev Kont:=Frz → Loc → Env → Prop
def splice (cs:List Value) (off:Nat) (vs:List Value):List Value:=cs.take off ++ vs ++ cs.drop (off + vs.length)
structure Fit (k:IntKind) (n:Int) (K:Int → Prop):Prop where
 out:K (k.wrap n)
structure NonZ (n:Int) (K:Prop):Prop where
 ne:n ≠ 0
 out:K
structure InB (i:Int) (n:Int) (K:Prop):Prop where
 lo:0 ≤ i
 hi:i < n
 out:K
structure IdxPt (a:Option Addr) (i:Int) (n:Int) (K:Prop):Prop where
 ne:a ≠ none
 lo:0 ≤ i
 hi:i < n
 out:K
structure LoadPt (F:Frz) (L:Loc) (a:Option Addr) (j n:Nat) (K:List Value → Prop):Prop where
 out:∃ cs,cs.length = n ∧ (FCells F a j cs ∨ (∃ k v t sz m xs ad c,L.get k = some (.row v t sz m xs) ∧ a = some ad ∧ v = .slice (some ad) m c ∧ ∀ (i:Nat) (u:Value),cs[i]? = some u → xs[j + i]? = some u) ∨ n = 0 ∨ ∃ k g t bs o,L.get k = some (.box g t bs) ∧ t ≠ 0 ∧ a = some ⟨g,o,none⟩ ∧ ∀ (i:Nat) (u:Value),cs[i]? = some u → bs[o + j + i]? = some u) ∧ K cs
structure GlPt (F:Frz) (g:Nat) (K:Value → Prop):Prop where
 out:∃ v t fr,F g = some (.cells #[v] t fr) ∧ K v
structure LoadDPt (F:Frz) (a:Option Addr) (j n:Nat) (K:List Value → Prop):Prop where
 out:∃ cs,cs.length = n ∧ (FCells F a j cs ∨ n = 0) ∧ K cs
structure StorePt (L:Loc) (a:Option Addr) (j:Nat) (cs:List Value) (K:Loc → Prop):Prop where
 out:∃ k v t sz m xs ad c,L.get k = some (.row v t sz m xs) ∧ a = some ad ∧ v = .slice (some ad) m c ∧ j + cs.length ≤ xs.length ∧ (∀ u ∈ cs,u.oneCell' = true) ∧
  K (L.set k (.row v t sz m (splice xs j cs)))
def Loc.sub (L:Loc):List Nat → Option (List Own)
 | [] => some []
 | k :: ks => match L.get k,Loc.sub L ks with
  | some o,some l => some (o :: l)
  | _,_ => none
def Loc.dels (L:Loc):List Nat → Loc
 | [] => L
 | k :: ks => Loc.dels (L.del k) ks
def Loc.puts (L:Loc):List Nat → List Own → Loc
 | k :: ks,o :: l => Loc.puts (L.set k o) ks l
 | _,_ => L
structure CallPt (P:Program) (f:Nat) (args:List Value) (F:Frz) (L:Loc) (K:Frz → Loc → Value → Prop):Prop where
 out:∃ (ks ko:List Nat) (Lin:List Own) (R:Frz → List Own → Value → Prop),L.sub ks = some Lin ∧ ks.Nodup ∧ ko.Nodup ∧ (∀ k,k ∈ ko → k ∈ ks ∨ L.get k = none) ∧ CallsA P f args.toArray F Lin R ∧
  ∀ v F' Lo,F.le F' → R F' Lo v → ko.length = Lo.length ∧
   (∀ k g t cs,k ∈ ks → L.get k = some (.box g t cs) → ∃ cs',Loc.get ((L.dels ks).puts ko Lo) k = some (.box g t cs')) ∧
   K F' ((L.dels ks).puts ko Lo) v
def Real (F:Frz) (L:Loc):Prop:=∃ w,St F L w
inductive CallDPt (P:Program) (f:Nat) (args:List Value) (F:Frz) (L:Loc) (d:Option Nat) (K:Frz → Loc → Value → Prop):Prop
 | frz (R:Frz → List Own → Value → Prop) (h:CallsA P f args.toArray F [] R) (k:∀ v F' Lo,F.le F' → R F' Lo v → Lo = [] ∧ (Real F' L → K F' L v))
 | own (R:Frz → List Own → Value → Prop) (k:Nat) (h:CallsA P f args.toArray F [] R) (hd:d = some k) (hk:L.get k = none)
   (kk:∀ v F' Lo,F.le F' → R F' Lo v → ∃ o,Lo = [o] ∧ (Real F' (L.set k o) → K F' (L.set k o) v))
 | row (R:Frz → List Own → Value → Prop) (kr:Nat) (rv:Value) (t:TypeId) (sz n:Nat) (xs:List Value) (h:CallsA P f args.toArray F [.row rv t sz n xs] R) (hk:L.get kr = some (.row rv t sz n xs))
   (kk:∀ v F' Lo,F.le F' → R F' Lo v → Lo = [] ∧ (Real F' (L.set kr (.row (.slice none 0 0) t sz 0 [])) → K F' (L.set kr (.row (.slice none 0 0) t sz 0 [])) v))
 | lent (R:Frz → Value → Prop) (kr:Nat) (rv:Value) (t:TypeId) (sz n:Nat) (xs:List Value) (h:CallsA P f args.toArray F [.row rv t sz n xs] (fun F' Lo v => Lo = [.row rv t sz n xs] ∧ R F' v)) (hk:L.get kr = some (.row rv t sz n xs))
   (kk:∀ v F',F.le F' → R F' v → Real F' L → K F' L v)
structure AppPt (F:Frz) (L:Loc) (e:TypeId) (sz bytes:Nat) (s x:Value) (K:Loc → Value → Prop):Prop where
 out:∃ (kd:Nat) (n:Nat) (xs:List Value) (m:Nat) (news:List Value),
  (L.get kd = some (.row s e sz n xs) ∨ (L.get kd = none ∧ n = 0 ∧ xs = [] ∧ s = .slice none 0 0) ∨ (L.get kd = none ∧ ∃ ad,s = .slice (some ad) n n ∧ 0 < m ∧ xs.length = n * sz ∧ (FCells F (some ad) 0 xs ∨ (n = 0 ∧ xs = [])))) ∧
  (∃ a c,x = .slice a m c ∧ news.length = m * sz ∧ (FCells F a 0 news ∨ (m = 0 ∧ news = []) ∨
    ∃ k v t sz' m' ys ad c',L.get k = some (.row v t sz' m' ys) ∧ a = some ad ∧ v = .slice (some ad) m' c' ∧ ∀ (i:Nat) (u:Value),news[i]? = some u → ys[i]? = some u)) ∧
  (∀ u ∈ news,u.oneCell' = true) ∧ n + m ≤ maxLen ∧ (n + m) * bytes ≤ 140737488355328 ∧
  ∀ v,(∃ a c,v = .slice a (n + m) c ∧ (a = none → n + m = 0)) → K (L.set kd (.row v e sz (n + m) (xs ++ news))) v
structure AppDPt (F:Frz) (L:Loc) (d:Option Nat) (e:TypeId) (sz bytes:Nat) (s x:Value) (K:Loc → Value → Prop):Prop where
 out:∃ (kd:Nat) (n:Nat) (xs:List Value) (m:Nat) (news:List Value),
  (L.get kd = some (.row s e sz n xs) ∨ (d = some kd ∧ L.get kd = none ∧ n = 0 ∧ xs = [] ∧ s = .slice none 0 0) ∨
   (d = some kd ∧ L.get kd = none ∧ ∃ ad,s = .slice (some ad) n n ∧ 0 < m ∧ xs.length = n * sz ∧ (FCells F (some ad) 0 xs ∨ (n = 0 ∧ xs = [])))) ∧
  (∃ a c,x = .slice a m c ∧ news.length = m * sz ∧ (FCells F a 0 news ∨ (m = 0 ∧ news = []))) ∧
  (∀ u ∈ news,u.oneCell' = true) ∧ n + m ≤ maxLen ∧ (n + m) * bytes ≤ 140737488355328 ∧
  ∀ v,(∃ a c,v = .slice a (n + m) c ∧ (a = none → n + m = 0)) → Real F (L.set kd (.row v e sz (n + m) (xs ++ news))) → K (L.set kd (.row v e sz (n + m) (xs ++ news))) v
structure AppSPt (L:Loc) (e:TypeId) (s:Value) (t:ByteArray) (K:Loc → Value → Prop):Prop where
 out:∃ (kd:Nat) (n:Nat) (xs:List Value),
  (L.get kd = some (.row s e 1 n xs) ∨ (L.get kd = none ∧ n = 0 ∧ xs = [] ∧ s = .slice none 0 0)) ∧
  n + t.size ≤ maxLen ∧ (n + t.size) ≤ 140737488355328 ∧
  ∀ v,(∃ a c,v = .slice a (n + t.size) c ∧ (a = none → n + t.size = 0)) → K (L.set kd (.row v e 1 (n + t.size) (xs ++ t.data.toList.map fun b => Value.int .u8 b.toNat))) v
structure AppZPt (L:Loc) (e:TypeId) (bytes:Nat) (ki:IntKind) (s:Value) (m:Nat) (K:Loc → Value → Prop):Prop where
 out:∃ (kd:Nat) (n:Nat) (xs:List Value),
  (L.get kd = some (.row s e 1 n xs) ∨ (L.get kd = none ∧ n = 0 ∧ xs = [] ∧ s = .slice none 0 0)) ∧
  n + m ≤ maxLen ∧ (n + m) * bytes ≤ 140737488355328 ∧
  ∀ v,(∃ a c,v = .slice a (n + m) c ∧ (a = none → n + m = 0)) → K (L.set kd (.row v e 1 (n + m) (xs ++ List.replicate m (.int ki 0)))) v
structure CopyPt (F:Frz) (L:Loc) (e:TypeId) (sz:Nat) (d x:Value) (K:Loc → Nat → Prop):Prop where
 out:(∃ (k n:Nat) (v:Value) (nr:Nat) (xs:List Value) (ad:Addr) (cr cd j m:Nat) (a:Option Addr) (c:Nat) (news:List Value),
  L.get k = some (.row v e sz nr xs) ∧ v = .slice (some ad) nr cr ∧ d = .slice (some (ad.add (j * sz))) n cd ∧ j + n ≤ nr ∧
  x = .slice a m c ∧ news.length = (min m n) * sz ∧ (FCells F a 0 news ∨ (min m n = 0 ∧ news = [])) ∧ (∀ u ∈ news,u.oneCell' = true) ∧
  K (L.set k (.row v e sz nr (splice xs (j * sz) news))) (min m n)) ∨
  ∃ (da:Option Addr) (n cd:Nat) (a:Option Addr) (m c:Nat),d = .slice da n cd ∧ x = .slice a m c ∧ min m n = 0 ∧ K L 0
structure CopySPt (L:Loc) (e:TypeId) (d:Value) (t:ByteArray) (K:Loc → Nat → Prop):Prop where
 out:∃ (k n:Nat) (v:Value) (nr:Nat) (xs:List Value) (ad:Addr) (cr cd j:Nat),
  L.get k = some (.row v e 1 nr xs) ∧ v = .slice (some ad) nr cr ∧ d = .slice (some (ad.add j)) n cd ∧ j + n ≤ nr ∧
  K (L.set k (.row v e 1 nr (splice xs j ((t.data.toList.take n).map fun b => Value.int .u8 b.toNat)))) (min t.size n)
structure BytesPt (cs:List Value) (K:List UInt8 → Prop):Prop where
 out:∃ bs:List UInt8,cs = bs.map (fun b => Value.int .u8 b.toNat) ∧ K bs
structure RowB (L:Loc) (a:Option Addr) (n:Nat) (K:List UInt8 → Prop):Prop where
 out:∃ k t c,∃ bs:List UInt8,L.get k = some (.row (.slice a n c) t 1 n (bs.map (fun b => Value.int .u8 b.toNat))) ∧ bs.length = n ∧ (a = none → n = 0) ∧ K bs
def isMapCs:List Value → Bool
 | .tuple _ :: _ => false
 | _ => true
def keySame:Bool → Value → Value → Option Bool
 | false,.int .i64 a,.int .i64 b => some (decide (a = b))
 | true,.string a,.string b => some (decide (a.data.toList = b.data.toList))
 | _,_,_ => none
def findV (str:Bool) (key:Value):List Value → Nat → Option (Option (Nat × Value))
 | [],_ => some none
 | .agg ⟨[k,v]⟩ :: l,i => match keySame str key k with
  | some true => some (some (i,v))
  | some false => findV str key l (i + 1)
  | none => none
 | _ :: _,_ => none
def setV (str:Bool) (key val:Value):List Value → Option (List Value)
 | [] => some [.agg #[key,val]]
 | .agg ⟨[k,v]⟩ :: l => match keySame str key k with
  | some true => some (.agg #[key,val] :: l)
  | some false => match setV str key val l with | some l' => some (.agg #[k,v] :: l') | none => none
  | none => none
 | _ :: _ => none
structure MapPt (L:Loc) (g:Nat) (K:Nat → List Value → Prop):Prop where
 out:∃ k cs,L.get k = some (.box g 0 cs) ∧ isMapCs cs = true ∧ K k cs
structure MLookPt (str:Bool) (cs:List Value) (key:Value) (ok:Bool) (z:Value) (K:Value → Prop):Prop where
 out:(∃ i v,findV str key cs 0 = some (some (i,v)) ∧ K (match ok with | true => .tuple #[v,.bool true] | false => v)) ∨ (findV str key cs 0 = some none ∧ K (match ok with | true => .tuple #[z,.bool false] | false => z))
structure MUpdPt (str:Bool) (cs:List Value) (key val:Value) (K:List Value → Prop):Prop where
 isKey:keySame str key key = some true
 out:∃ cs',setV str key val cs = some cs' ∧ K cs'
structure NextPt (L:Loc) (k gi g n:Nat) (seen:List Value) (K:Loc → Value → Prop):Prop where
 out:∃ km cs,L.get km = some (.box g 0 cs) ∧ isMapCs cs = true ∧ cs.length = n ∧ (∀ j e,cs[j]? = some e → j ∉ seen.map seenOf → K (L.set k (.box gi 0 (.tuple #[.map (some g),.int .i64 n] :: (seen ++ [.int .i64 j])))) (.tuple #[.bool true,(entOf e j).key,(entOf e j).val])) ∧
  ((∀ j,j < n → j ∈ seen.map seenOf) → K L (.tuple #[.bool false]))
structure EntryPt (L:Loc) (g n:Nat) (seen:List Value) (K:Value → Prop):Prop where
 out:∃ km cs j e,L.get km = some (.box g 0 cs) ∧ isMapCs cs = true ∧ cs.length = n ∧ seen.getLast? = some (.int .i64 (.ofNat j)) ∧ cs[j]? = some e ∧ K (.tuple #[(entOf e j).key,(entOf e j).val])
structure LookPt (F:Frz) (mv:Value) (n:Int) (K:Int → Bool → Prop):Prop where
 out:∃ k r b,OpqRel k F mv ∧ opqLook k n = some (r,b) ∧ K r b
structure MakePt (n c:Int) (bytes:Nat) (K:Nat → Prop):Prop where
 lo:0 ≤ n
 le:n ≤ c
 hi:c.toNat * bytes ≤ 140737488355328
 max:c.toNat ≤ maxLen
 out:K n.toNat
structure SlcPt (l h:Int) (c:Nat) (K:Nat → Nat → Prop):Prop where
 lo:0 ≤ l
 le:l ≤ h
 hi:h ≤ c
 out:K l.toNat h.toNat
abbrev brn:Bool → Prop → Prop → Prop
 | true,A,_ => A
 | false,_,B => B
def vcells:Value → List Value
 | .agg cs => cs.toList
 | v => [v]
def evals (L:Loc) (ρ:Env):List X → List Value
 | [] => []
 | x :: xs => val L ρ x :: evals L ρ xs
def cellsOf (L:Loc) (ρ:Env):List X → List Value
 | [] => []
 | x :: xs => vcells (val L ρ x) ++ cellsOf L ρ xs
def asVal (agg:Bool) (cs:List Value):Value :=
 match agg,cs with
 | true,cs => .agg cs.toArray
 | false,[v] => v
 | false,_ => undef
def len?:List Value → Nat → Bool
 | [],0 => true
 | _ :: l,n + 1 => len? l n
 | _,_ => false
def memB (t:TypeId) (l:List Value) (n:Nat):Bool:=match Nat.beq t 0 with | true => false | false => len? l n
def parts? (L:Loc) (ρ:Env) (sz:Nat):List X → Bool
 | [] => true
 | x :: xs => match len? (vcells (val L ρ x)) sz with | true => parts? L ρ sz xs | false => false
def ones?:List Value → Bool
 | [] => true
 | v :: l => match v.oneCell' with | true => ones? l | false => false
def ngb:Bool → Bool → Bool
 | true,b => !b
 | false,b => b
def streq (a b:ByteArray):Bool:=decide (a.data.toList = b.data.toList)
def strlt (a b:ByteArray):Bool:=Op.bytesLess a.data.toList b.data.toList
def built (L:Loc) (ρ:Env):List Value → List (Nat × Nat × X) → Option (List Value)
 | zs,[] => some zs
 | zs,(off,n,x) :: ps => match len? (vcells (val L ρ x)) n with
  | true => built L ρ (splice zs off (vcells (val L ρ x))) ps
  | false => none
def mmI (mx:Bool):Int → List SV → Option Int
 | a,[] => some a
 | a,.v (.int _ b) :: l => mmI mx (match mx with | true => if b > a then b else a | false => if b < a then b else a) l
 | _,_ => none
def slcVal (a:Option Addr) (c l h sz:Nat):Value:=.slice (if c = l then a else a.map (·.add (l * sz))) (h - l) (c - l)
def optI (ρ:Env) (d:Int):Option X → Option Int
 | none => some d
 | some x => match ev ρ x with | .v (.int _ i) => some i | _ => none
def binI (op:BinOp) (k:IntKind) (a b:Int) (K:Value → Prop):Prop :=
 match op with
 | .add => Fit k (a + b) fun n => K (.int k n)
 | .sub => Fit k (a - b) fun n => K (.int k n)
 | .mul => Fit k (a * b) fun n => K (.int k n)
 | .quo => NonZ b (Fit k (a.tdiv b) fun n => K (.int k n))
 | .rem => NonZ b (K (.int k (a.tmod b)))
 | .and => K (.int k (k.wrap (BitVec.ofInt k.bits a &&& BitVec.ofInt k.bits b).toNat))
 | .or => K (.int k (k.wrap (BitVec.ofInt k.bits a ||| BitVec.ofInt k.bits b).toNat))
 | .xor => K (.int k (k.wrap (BitVec.ofInt k.bits a ^^^ BitVec.ofInt k.bits b).toNat))
 | .andNot => K (.int k (k.wrap (BitVec.ofInt k.bits a &&& ~~~ BitVec.ofInt k.bits b).toNat))
 | .eql => K (.bool (decide (a = b)))
 | .neq => K (.bool (!decide (a = b)))
 | .lss => K (.bool (decide (a < b)))
 | .leq => K (.bool (decide (a ≤ b)))
 | .gtr => K (.bool (decide (b < a)))
 | .geq => K (.bool (decide (b ≤ a)))
 | _ => False
def shI (op:BinOp) (k:IntKind) (a b:Int) (K:Value → Prop):Prop :=
 match op with
 | .shl => 0 ≤ b ∧ Fit k (a * 2 ^ (min b.toNat k.bits)) fun n => K (.int k n)
 | .shr => 0 ≤ b ∧ K (.int k (a.fdiv (2 ^ (min b.toNat k.bits))))
 | _ => False
def binS (op:BinOp) (a b:ByteArray) (K:Value → Prop):Prop :=
 match op with
 | .add => ((a.size + b.size:Nat):Int) ≤ IntKind.i64.max ∧ K (.string (a ++ b))
 | .eql => K (.bool (streq a b))
 | .neq => K (.bool (!streq a b))
 | .lss => K (.bool (strlt a b))
 | .geq => K (.bool (!strlt a b))
 | _ => False
def kindEq:IntKind → IntKind → Bool
 | .i64,.i64 => true | .u8,.u8 => true | .u64,.u64 => true | .i32,.i32 => true | .u16,.u16 => true | .u32,.u32 => true | .i8,.i8 => true | .i16,.i16 => true
 | _,_ => false
def isSh:BinOp → Bool
 | .shl | .shr => true
 | _ => false
def eqVs:List Bool → List Value → List Value → Bool → Option Bool
 | [],[],[],acc => some acc
 | true :: ks,.int k a :: l,.int k' b :: l',acc => match kindEq k k' with | true => eqVs ks l l' (acc && decide (a = b)) | false => none
 | false :: ks,.bool a :: l,.bool b :: l',acc => eqVs ks l l' (acc && decide (a = b))
 | _,_,_,_ => none
def outV (o:SOp) (F:Frz) (L:Loc) (ρ:Env) (V:SV → Prop):Prop :=
 match o with
 | .mov x => V (ev ρ x)
 | .pick c a b => match ev ρ c with
  | .v (.bool true) => V (ev ρ a)
  | .v (.bool false) => V (ev ρ b)
  | _ => False
 | .build zs ps => match built L ρ zs ps with
  | some cs => V (.v (.agg cs.toArray))
  | none => False
 | .load agg n x => match ev ρ x with
  | .own k off => match L.get k with
   | some (.box _ t cs) => match memB t ((cs.drop off).take n) n with
    | true => V (.v (asVal agg ((cs.drop off).take n)))
    | false => False
   | _ => False
  | .el a j => LoadPt F L a j n fun cs => V (.v (asVal agg cs))
  | .v (.pointer (some a)) => LoadPt F L (some a) 0 n fun cs => V (.v (asVal agg cs))
  | _ => False
 | .loadR agg n x => match ev ρ x with
  | .own k off => match L.get k with
   | some (.box _ t cs) => match memB t ((cs.drop off).take n) n with
    | true => V (.v (asVal agg ((cs.drop off).take n)))
    | false => False
   | _ => False
  | .el a j => LoadPt F L a j n fun cs => V (.v (asVal agg cs))
  | .v (.pointer (some a)) => LoadPt F L (some a) 0 n fun cs => V (.v (asVal agg cs))
  | _ => False
 | .nilck x => match ev ρ x with
  | .own k off => V (.own k off)
  | .el a j => a ≠ none ∧ V (.el a j)
  | .v (.pointer (some a)) => V (.v (.pointer (some a)))
  | .v (.func (.func f) fi ca) => V (.v (.func (.func f) fi ca))
  | .v (.func (.method nm) fi ca) => match fi.toList with
   | [.iface t u] => mOk mOkL t nm = true ∧ V (.v (.func (.method nm) fi ca))
   | _ => False
  | _ => False
 | .mkmv nm x => match ev ρ x with
  | .v v => V (.v (.func (.method nm) #[v] #[]))
  | _ => False
 | .bin op x y => match ev ρ x,ev ρ y with
  | .v (.int k a),.v (.int k' b) => match isSh op with
   | true => shI op k a b fun v => V (.v v)
   | false => match kindEq k k' with
    | true => binI op k a b fun v => V (.v v)
    | false => False
  | .v (.string a),.v (.string b) => binS op a b fun v => V (.v v)
  | _,_ => False
 | .eqB neg x y => match ev ρ x,ev ρ y with
  | .v (.bool a),.v (.bool b) => V (.v (.bool (ngb neg (decide (a = b)))))
  | _,_ => False
 | .eqP neg x y => match ev ρ x,ev ρ y with
  | .own _ _,.v (.pointer none) => V (.v (.bool (ngb neg false)))
  | .el (some _) _,.v (.pointer none) => V (.v (.bool (ngb neg false)))
  | .v (.pointer a),.v (.pointer none) => V (.v (.bool (ngb neg a.isNone)))
  | _,_ => False
 | .eqS neg x y => match ev ρ x,ev ρ y with
  | .v (.slice a _ _),.v (.slice none _ _) => V (.v (.bool (ngb neg a.isNone)))
  | _,_ => False
 | .eqF neg x y => match ev ρ x,ev ρ y with
  | .v .nilFunc,.v .nilFunc => V (.v (.bool (ngb neg true)))
  | .v (.func _ _ _),.v .nilFunc => V (.v (.bool (ngb neg false)))
  | _,_ => False
 | .eqN neg x => match ev ρ x with
  | .v .nilIface => V (.v (.bool (ngb neg true)))
  | .v (.iface _ _) => V (.v (.bool (ngb neg false)))
  | _ => False
 | .tas t z x => match ev ρ x with
  | .v .nilIface => V (.v (.tuple #[z,.bool false]))
  | .v (.iface t' u) => match Nat.beq t' t with
   | true => V (.v (.tuple #[u,.bool true]))
   | false => V (.v (.tuple #[z,.bool false]))
  | _ => False
 | .eqA neg ks x y => match ev ρ x,ev ρ y with
  | .v (.agg cs),.v (.agg ds) => match eqVs ks cs.toList ds.toList true with
   | some b => V (.v (.bool (ngb neg b)))
   | none => False
  | _,_ => False
 | .un op x => match op,ev ρ x with
  | .not,.v (.bool b) => V (.v (.bool (!b)))
  | .neg,.v (.int k n) => Fit k (0 - n) fun m => V (.v (.int k m))
  | .xor,.v (.int k n) => V (.v (.int k (k.wrap (BitVec.ofInt k.bits (if k.signed then -1 else k.max) ^^^ BitVec.ofInt k.bits n).toNat)))
  | _,_ => False
 | .conv k x => match ev ρ x with
  | .v (.int _ n) => Fit k n fun m => V (.v (.int k m))
  | _ => False
 | .b2s x => match ev ρ x with
  | .v (.slice a n _) => LoadPt F L a 0 n fun cs => BytesPt cs fun bs => V (.v (.string ⟨bs.toArray⟩))
  | _ => False
 | .mkfn f fi ca => V (.v (.func (.func f) (evals L ρ fi).toArray (evals L ρ ca).toArray))
 | .slc sz x lo hi => match ev ρ x with
  | .v (.slice a n c) => match optI ρ 0 lo,optI ρ n hi with
   | some l,some h => SlcPt l h c fun l h => V (.v (slcVal a c l h sz))
   | _,_ => False
  | _ => False
 | .slcS x lo hi => match ev ρ x with
  | .v (.string s) => match optI ρ 0 lo,optI ρ s.size hi with
   | some l,some h => SlcPt l h s.size fun l h => V (.v (.string (s.extract l h)))
   | _,_ => False
  | _ => False
 | .fieldA off x => match ev ρ x with
  | .own k o => V (.own k (o + off))
  | .el a j => V (.el a (j + off))
  | .v (.pointer (some a)) => V (.el (some a) off)
  | _ => False
 | .fieldV agg off n x => match ev ρ x with
  | .v (.agg cs) => match len? ((cs.toList.drop off).take n) n with
   | true => V (.v (asVal agg ((cs.toList.drop off).take n)))
   | false => False
  | _ => False
 | .idxA sz x i => match ev ρ x,ev ρ i with
  | .v (.slice a n _),.v (.int _ i) => IdxPt a i n (V (.el a (i.toNat * sz)))
  | _,_ => False
 | .idxS x i => match ev ρ x,ev ρ i with
  | .v (.string s),.v (.int _ i) => InB i s.size (V (.v (.int .u8 ((s.data.toList.getD i.toNat 0).toNat))))
  | _,_ => False
 | .extr x i => match ev ρ x with
  | .v (.tuple vs) => match vs.toList[i]? with
   | some v => V (.v v)
   | none => False
  | _ => False
 | .len x => match ev ρ x with
  | .v (.slice _ n _) => V (.v (.int .i64 n))
  | _ => False
 | .lenS x => match ev ρ x with
  | .v (.string s) => V (.v (.int .i64 s.size))
  | _ => False
 | .capa x => match ev ρ x with
  | .v (.slice _ _ c) => V (.v (.int .i64 c))
  | _ => False
 | .mm mx args => match args.map (ev ρ) with
  | .v (.int k a) :: l => match mmI mx a l with
   | some m => V (.v (.int k m))
   | none => False
  | _ => False
 | .loadD agg n x => match ev ρ x with
  | .own k off => match L.get k with
   | some (.box _ t cs) => match memB t ((cs.drop off).take n) n with
    | true => V (.v (asVal agg ((cs.drop off).take n)))
    | false => False
   | _ => False
  | .el a j => LoadDPt F a j n fun cs => V (.v (asVal agg cs))
  | .v (.pointer (some a)) => LoadDPt F (some a) 0 n fun cs => V (.v (asVal agg cs))
  | _ => False
 | .gload g => GlPt F g fun v => V (.v v)
 | .loadF agg n x => match ev ρ x with
  | .el a j => LoadDPt F a j n fun cs => V (.v (asVal agg cs))
  | .v (.pointer (some a)) => LoadDPt F (some a) 0 n fun cs => V (.v (asVal agg cs))
  | _ => False
 | .mkif t x => match ev ρ x with
  | .v v => V (.v (.iface t v))
  | .el (some ad) j => V (.v (.iface t (.pointer (some (ad.add j)))))
  | _ => False
 | .b2sD x => match ev ρ x with
  | .v (.slice a n _) => LoadDPt F a 0 n fun cs => BytesPt cs fun bs => V (.v (.string ⟨bs.toArray⟩))
  | _ => False
 | .b2sR x => match ev ρ x with
  | .v (.slice a n _) => RowB L a n fun bs => V (.v (.string ⟨bs.toArray⟩))
  | _ => False
 | .mlook str ok z x i => match ev ρ x with
  | .v (.map (some g)) => MapPt L g fun _ cs => MLookPt str cs (val L ρ i) ok z fun v => V (.v v)
  | _ => False
 | .mlen x => match ev ρ x with
  | .v (.map (some g)) => MapPt L g fun _ cs => V (.v (.int .i64 cs.length))
  | _ => False
 | .loadK key agg n x => match ev ρ x with
  | .own k off => match Nat.beq k key with
   | true => match L.get k with
    | some (.box _ t cs) => match memB t ((cs.drop off).take n) n with
     | true => V (.v (asVal agg ((cs.drop off).take n)))
     | false => False
    | _ => False
   | false => False
  | _ => False
 | _ => False
def evalOp (P:Program) (o:SOp) (d:Option Nat) (F:Frz) (L:Loc) (ρ:Env) (K:Kont):Prop :=
 match o with
 | .mov x => outV (.mov x) F L ρ fun v => K F L (put d v ρ)
 | .pick c a b => outV (.pick c a b) F L ρ fun v => K F L (put d v ρ)
 | .box t x => match d with
  | some k => match L.get k with
   | none => ∀ g,K F (L.set k (.box g t (vcells (val L ρ x)))) (put d (.own k 0) ρ)
   | some _ => False
  | none => False
 | .boxF t x => ∀ g F',F.le F' → F' g = some (.cells (vcells (val L ρ x)).toArray t (0,0)) → K F' L (put d (.v (.pointer (some ⟨g,0,none⟩))) ρ)
 | .alloc t zs => match d with
  | some k => match L.get k with
   | none => ∀ g,K F (L.set k (.box g t zs)) (put d (.own k 0) ρ)
   | some _ => False
  | none => False
 | .mkF e n sz xs => match parts? L ρ sz xs with
  | true => ∀ g F',F.le F' → F' g = some (.cells (cellsOf L ρ xs).toArray e (0,0)) → K F' L (put d (.v (.slice (some ⟨g,0,none⟩) n n)) ρ)
  | false => False
 | .mkR e n sz xs => match parts? L ρ sz xs,d with
  | true,some k => match L.get k with
   | none => ∀ g,K F (L.set k (.row (.slice (some ⟨g,0,none⟩) n n) e sz n (cellsOf L ρ xs))) (put d (.v (.slice (some ⟨g,0,none⟩) n n)) ρ)
   | some _ => False
  | _,_ => False
 | .build zs ps => outV (.build zs ps) F L ρ fun v => K F L (put d v ρ)
 | .load agg n x => outV (.load agg n x) F L ρ fun v => K F L (put d v ρ)
 | .store n a x => match len? (vcells (val L ρ x)) n,ones? (vcells (val L ρ x)),ev ρ a with
  | true,true,.own k off => match L.get k with
   | some (.box g t cs) => match memB t ((cs.drop off).take n) n with
    | true => K F (L.set k (.box g t (splice cs off (vcells (val L ρ x))))) (put d (.v undef) ρ)
    | false => False
   | _ => False
  | true,true,.el ad j => StorePt L ad j (vcells (val L ρ x)) fun L' => K F L' (put d (.v undef) ρ)
  | true,true,.v (.pointer (some ad)) => StorePt L (some ad) 0 (vcells (val L ρ x)) fun L' => K F L' (put d (.v undef) ρ)
  | _,_,_ => False
 | .nilck x => outV (.nilck x) F L ρ fun v => K F L (put d v ρ)
 | .mkmv nm x => outV (.mkmv nm x) F L ρ fun v => K F L (put d v ρ)
 | .mkif t x => outV (.mkif t x) F L ρ fun v => K F L (put d v ρ)
 | .pan _ => False
 | .dead => False
 | .bin op x y => outV (.bin op x y) F L ρ fun v => K F L (put d v ρ)
 | .eqB neg x y => outV (.eqB neg x y) F L ρ fun v => K F L (put d v ρ)
 | .eqP neg x y => outV (.eqP neg x y) F L ρ fun v => K F L (put d v ρ)
 | .eqS neg x y => outV (.eqS neg x y) F L ρ fun v => K F L (put d v ρ)
 | .eqF neg x y => outV (.eqF neg x y) F L ρ fun v => K F L (put d v ρ)
 | .eqN neg x => outV (.eqN neg x) F L ρ fun v => K F L (put d v ρ)
 | .tas t z x => outV (.tas t z x) F L ρ fun v => K F L (put d v ρ)
 | .eqA neg ks x y => outV (.eqA neg ks x y) F L ρ fun v => K F L (put d v ρ)
 | .un op x => outV (.un op x) F L ρ fun v => K F L (put d v ρ)
 | .conv k x => outV (.conv k x) F L ρ fun v => K F L (put d v ρ)
 | .b2s x => outV (.b2s x) F L ρ fun v => K F L (put d v ρ)
 | .s2b _ x => match ev ρ x with
  | .v (.string s) => ∀ g c F',F.le F' → FCells F' (some ⟨g,0,none⟩) 0 (s.data.toList.map fun b => Value.int .u8 b.toNat) → s.size ≤ c → K F' L (put d (.v (.slice (some ⟨g,0,none⟩) s.size c)) ρ)
  | _ => False
 | .mkfn f fi ca => outV (.mkfn f fi ca) F L ρ fun v => K F L (put d v ρ)
 | .makeS e sz bytes zs l c => match ev ρ l,ev ρ c,d with
  | .v (.int _ n),.v (.int _ m),some k => match L.get k with
   | none => MakePt n m bytes fun n => ∀ g,K F (L.set k (.row (.slice (some ⟨g,0,none⟩) n m.toNat) e sz n (List.replicate n zs).flatten)) (put d (.v (.slice (some ⟨g,0,none⟩) n m.toNat)) ρ)
   | some _ => False
  | _,_,_ => False
 | .slc sz x lo hi => outV (.slc sz x lo hi) F L ρ fun v => K F L (put d v ρ)
 | .slcS x lo hi => outV (.slcS x lo hi) F L ρ fun v => K F L (put d v ρ)
 | .fieldA off x => outV (.fieldA off x) F L ρ fun v => K F L (put d v ρ)
 | .fieldV agg off n x => outV (.fieldV agg off n x) F L ρ fun v => K F L (put d v ρ)
 | .idxA sz x i => outV (.idxA sz x i) F L ρ fun v => K F L (put d v ρ)
 | .idxS x i => outV (.idxS x i) F L ρ fun v => K F L (put d v ρ)
 | .extr x i => outV (.extr x i) F L ρ fun v => K F L (put d v ρ)
 | .call f args => CallPt P f (evals L ρ args) F L fun F' L' v => K F' L' (put d (.v v) ρ)
 | .callV f args => match fnOf P (ev ρ f) with
  | some (f,fi,ca) => CallPt P f (fi ++ evals L ρ args ++ ca) F L fun F' L' v => K F' L' (put d (.v v) ρ)
  | none => match fnOfM P (ev ρ f) (evals L ρ args) with
   | some (f,args) => CallPt P f args F L fun F' L' v => K F' L' (put d (.v v) ρ)
   | none => False
 | .gload g => outV (.gload g) F L ρ fun v => K F L (put d v ρ)
 | .look x i => match ev ρ x,ev ρ i with
  | .v mv,.v (.int .i64 n) => LookPt F mv n fun r b => K F L (put d (.v (.tuple #[.int .i64 r,.bool b])) ρ)
  | _,_ => False
 | .mkmap => match d with
  | some k => match L.get k with
   | none => ∀ g,K F (L.set k (.box g 0 [])) (put d (.v (.map (some g))) ρ)
   | some _ => False
  | none => False
 | .mlook str ok z x i => outV (.mlook str ok z x i) F L ρ fun v => K F L (put d v ρ)
 | .mlen x => outV (.mlen x) F L ρ fun v => K F L (put d v ρ)
 | .mupd str x i v => match ev ρ x with
  | .v (.map (some g)) => MapPt L g fun k cs => MUpdPt str cs (val L ρ i) (val L ρ v) fun cs' => K F (L.set k (.box g 0 cs')) (put d (.v undef) ρ)
  | _ => False
 | .mrange x => match ev ρ x,d with
  | .v (.map (some g)),some k => match L.get k with
   | none => MapPt L g fun _ cs => ∀ gi,K F (L.set k (.box gi 0 [.tuple #[.map (some g),.int .i64 cs.length]])) (put d (.own k 0) ρ)
   | some _ => False
  | _,_ => False
 | .mnext x => match ev ρ x with
  | .own k 0 => match L.get k with
   | some (.box gi 0 (.tuple ⟨[.map (some g),.int .i64 (.ofNat n)]⟩ :: seen)) => NextPt L k gi g n seen fun L' v => K F L' (put d (.v v) ρ)
   | _ => False
  | _ => False
 | .mentry x => match ev ρ x with
  | .own k 0 => match L.get k with
   | some (.box gi 0 (.tuple ⟨[.map (some g),.int .i64 (.ofNat n)]⟩ :: seen)) => EntryPt L g n seen fun v => K F L (put d (.v v) ρ)
   | _ => False
  | _ => False
 | .len x => outV (.len x) F L ρ fun v => K F L (put d v ρ)
 | .lenS x => outV (.lenS x) F L ρ fun v => K F L (put d v ρ)
 | .capa x => outV (.capa x) F L ρ fun v => K F L (put d v ρ)
 | .mm mx args => outV (.mm mx args) F L ρ fun v => K F L (put d v ρ)
 | .app e sz bytes _ s x => match ev ρ s,ev ρ x with
  | .v sv,.v xv => AppPt F L e sz bytes sv xv fun L1 v => K F L1 (put d (.v v) ρ)
  | _,_ => False
 | .appX e sz bytes _ s x => match ev ρ s,ev ρ x with
  | .v sv,.v xv => AppPt F L e sz bytes sv xv fun L1 v => Real F L1 → K F L1 (put d (.v v) ρ)
  | _,_ => False
 | .appD e sz bytes _ s x => match ev ρ s,ev ρ x with
  | .v sv,.v xv => AppDPt F L d e sz bytes sv xv fun L1 v => K F L1 (put d (.v v) ρ)
  | _,_ => False
 | .appS e s x => match ev ρ s,ev ρ x with
  | .v sv,.v (.string t) => AppSPt L e sv t fun L1 v => K F L1 (put d (.v v) ρ)
  | _,_ => False
 | .appZ e bytes ki s x => match ev ρ s,ev ρ x with
  | .v sv,.v (.int _ i) => match i with
   | .ofNat m => AppZPt L e bytes ki sv m fun L1 v => K F L1 (put d (.v v) ρ)
   | .negSucc _ => False
  | _,_ => False
 | .copy e sz dd x => match ev ρ dd,ev ρ x with
  | .v dv,.v (.string t) => CopySPt L e dv t fun L1 n => K F L1 (put d (.v (.int .i64 n)) ρ)
  | .v dv,.v xv => CopyPt F L e sz dv xv fun L1 n => K F L1 (put d (.v (.int .i64 n)) ρ)
  | _,_ => False
 | .storeD n a x => match len? (vcells (val L ρ x)) n,ones? (vcells (val L ρ x)),ev ρ a with
  | true,true,.own k off => match L.get k with
   | some (.box g t cs) => match memB t ((cs.drop off).take n) n with
    | true => K F (L.set k (.box g t (splice cs off (vcells (val L ρ x))))) (put d (.v undef) ρ)
    | false => False
   | _ => False
  | _,_,_ => False
 | .storeK key n a x => match len? (vcells (val L ρ x)) n,ones? (vcells (val L ρ x)),ev ρ a with
  | true,true,.own k off => match Nat.beq k key with
   | true => match L.get k with
    | some (.box g t cs) => match memB t ((cs.drop off).take n) n with
     | true => K F (L.set k (.box g t (splice cs off (vcells (val L ρ x))))) (put d (.v undef) ρ)
     | false => False
    | _ => False
   | false => False
  | _,_,_ => False
 | .loadD agg n x => outV (.loadD agg n x) F L ρ fun v => K F L (put d v ρ)
 | .loadF agg n x => outV (.loadF agg n x) F L ρ fun v => K F L (put d v ρ)
 | .loadR agg n x => outV (.loadR agg n x) F L ρ fun v => K F L (put d v ρ)
 | .loadK key agg n x => outV (.loadK key agg n x) F L ρ fun v => K F L (put d v ρ)
 | .b2sD x => outV (.b2sD x) F L ρ fun v => K F L (put d v ρ)
 | .b2sR x => outV (.b2sR x) F L ρ fun v => K F L (put d v ρ)
 | .makeSD e sz n zs => match d with
  | some k => match L.get k,len? zs sz,Nat.ble n 9223372036854775807 with
   | none,true,true => ∀ g,Real F (L.set k (.row (.slice (some ⟨g,0,none⟩) n n) e sz n (List.replicate n zs).flatten)) → K F (L.set k (.row (.slice (some ⟨g,0,none⟩) n n) e sz n (List.replicate n zs).flatten)) (put d (.v (.slice (some ⟨g,0,none⟩) n n)) ρ)
   | _,_,_ => False
  | none => False
 | .copyX e sz dd x => match ev ρ dd,ev ρ x with
  | .v dv,.v xv => CopyPt F L e sz dv xv fun L1 n => Real F L1 → K F L1 (put d (.v (.int .i64 n)) ρ)
  | _,_ => False
 | .storeX n a x => match len? (vcells (val L ρ x)) n,ones? (vcells (val L ρ x)),ev ρ a with
  | true,true,.own k off => match L.get k with
   | some (.box g t cs) => match memB t ((cs.drop off).take n) n with
    | true => Real F (L.set k (.box g t (splice cs off (vcells (val L ρ x))))) → K F (L.set k (.box g t (splice cs off (vcells (val L ρ x))))) (put d (.v undef) ρ)
    | false => False
   | _ => False
  | true,true,.el ad j => StorePt L ad j (vcells (val L ρ x)) fun L' => Real F L' → K F L' (put d (.v undef) ρ)
  | true,true,.v (.pointer (some ad)) => StorePt L (some ad) 0 (vcells (val L ρ x)) fun L' => Real F L' → K F L' (put d (.v undef) ρ)
  | _,_,_ => False
 | .boxD t x => match d with
  | some k => match L.get k with
   | none => ∀ g,Real F (L.set k (.box g t (vcells (val L ρ x)))) → K F (L.set k (.box g t (vcells (val L ρ x)))) (put d (.own k 0) ρ)
   | some _ => False
  | none => False
 | .allocD t zs => match d with
  | some k => match L.get k with
   | none => ∀ g,Real F (L.set k (.box g t zs)) → K F (L.set k (.box g t zs)) (put d (.own k 0) ρ)
   | some _ => False
  | none => False
 | .mkFD e n sz xs => match parts? L ρ sz xs with
  | true => ∀ g F',F.le F' → F' g = some (.cells (cellsOf L ρ xs).toArray e (0,0)) → Real F' L → K F' L (put d (.v (.slice (some ⟨g,0,none⟩) n n)) ρ)
  | false => False
 | .callD f args => CallDPt P f (evals L ρ args) F L d fun F' L' v => K F' L' (put d (.v v) ρ)
 | .callVD f args => match fnOf P (ev ρ f) with
  | some (f,fi,ca) => CallDPt P f (fi ++ evals L ρ args ++ ca) F L d fun F' L' v => K F' L' (put d (.v v) ρ)
  | none => False
 | .callO f args => CallPt P f (evals L ρ args) F L fun F' L' v => Real F' L' → K F' L' (put d (.v v) ρ)
 | .callVO f args => match fnOf P (ev ρ f) with
  | some (f,fi,ca) => CallPt P f (fi ++ evals L ρ args ++ ca) F L fun F' L' v => Real F' L' → K F' L' (put d (.v v) ρ)
  | none => False
def FRow (F:Frz) (v:Value) (sz n:Nat) (xs:List Value):Prop :=
 (v = .slice none 0 0 ∧ n = 0 ∧ xs = []) ∨ ∃ a c,v = .slice (some a) n c ∧ FCells F (some a) 0 xs ∧ n ≤ c
structure FrzPt (F:Frz) (L:Loc) (k:Nat) (K:Frz → Loc → Prop):Prop where
 out:∃ v t sz n xs,L.get k = some (.row v t sz n xs) ∧ ∀ F',F.le F' → FRow F' v sz n xs → K F' (L.del k)
inductive SStep where
 | op (dst:Option Nat) (o:SOp) (guard:Option (Nat × Bool))
 | frz (k:Nat)
 | pc (dst:Option Nat) (o:SOp) (guard:Option (Nat × Bool))
 deriving Inhabited
def unown (k g:Nat) (ρ:Env):Env:=fun j => match ρ j with
 | .own k' off => match Nat.beq k' k with | true => .v (.pointer (some ⟨g,off,none⟩)) | false => .own k' off
 | .v x => .v x
 | .el a i => .el a i
def evalOps (P:Program):List SStep → Frz → Loc → Env → Kont → Prop
 | [],F,L,ρ,K => K F L ρ
 | .op d o none :: rest,F,L,ρ,K => evalOp P o d F L ρ fun F' L' ρ' => evalOps P rest F' L' ρ' K
 | .op d o (some (s,want)) :: rest,F,L,ρ,K => match ρ s with
  | .v (.bool b) => brn b
    (match want with
     | true => evalOp P o d F L (put (some s) (.v (.bool true)) ρ) fun F' L' ρ' => evalOps P rest F' L' ρ' K
     | false => evalOps P rest F L (put d (.v undef) (put (some s) (.v (.bool true)) ρ)) K)
    (match want with
     | false => evalOp P o d F L (put (some s) (.v (.bool false)) ρ) fun F' L' ρ' => evalOps P rest F' L' ρ' K
     | true => evalOps P rest F L (put d (.v undef) (put (some s) (.v (.bool false)) ρ)) K)
  | .v (.tuple _) => evalOps P rest F L (put d (.v undef) ρ) K
  | _ => False
 | .frz k :: rest,F,L,ρ,K => match L.get k with
  | some (.box g t cs) => ∀ F',F.le F' → F' g = some (boxObj t cs) → evalOps P rest F' (L.del k) (unown k g ρ) K
  | _ => FrzPt F L k fun F' L' => evalOps P rest F' L' ρ K
 | .pc _ _ _ :: _,_,_,_,_ => False
inductive SCode where
 | skip
 | reg (ops:List SStep)
 | regD (ops:List SStep)
 | regX (ops:List SStep)
 | seq (a b:SCode)
 | cond (c:X) (a b:SCode)
 | block (id:Nat) (c:SCode)
 | loop (asg:List Nat) (c:SCode)
 | exit (id:Nat)
 | ret
 deriving Inhabited
def mem?:List Nat → Nat → Bool
 | [],_ => false
 | j :: l,k => match Nat.beq j k with | true => true | false => mem? l k
def Loc.keeps:Loc → Loc → Prop
 | [],_ => True
 | (k,.box g t _) :: l,L' => (∃ cs,L'.get k = some (.box g t cs)) ∧ Loc.keeps l L'
 | (_,.row ..) :: l,L' => Loc.keeps l L'
structure RetPt (F:Frz) (L:Loc) (v:Value) (R:Frz → List Own → Value → Prop):Prop where
 out:∃ ko Lo,L.sub ko = some Lo ∧ ko.Nodup ∧ R F Lo v
abbrev RV:=Nat × Option (Bool × Nat)
def retV (L:Loc) (ρ:Env):List RV → (List Value → Prop) → Prop
 | [],K => K []
 | (t,none) :: l,K => retV L ρ l fun vs => K (conc L (ρ t) :: vs)
 | (t,some (agg,n)) :: l,K => match ρ t with
  | .own k off => match L.get k with
   | some (.box _ ty cs) => match memB ty ((cs.drop off).take n) n with
    | true => retV L ρ l fun vs => K (asVal agg ((cs.drop off).take n) :: vs)
    | false => False
   | _ => False
  | _ => False
def resVal:List Value → Value
 | [v] => v
 | l => .tuple l.toArray
def Loc.gives (L:Loc):Loc → Prop
 | [] => True
 | (k,o) :: l => (L.get k = some o ∨ (L.get k = none ∧ ∃ t sz,o = .row (.slice none 0 0) t sz 0 [])) ∧ Loc.gives L l
def overJ (asg:List Nat) (jk:Nat → Value) (ρ:Env):Env:=fun j => match mem? asg j with | true => .v (jk j) | false => ρ j
def puts:List Nat → List SV → Env → Env
 | k :: ks,v :: vs,ρ => put (some k) v (puts ks vs ρ)
 | _,_,ρ => ρ
def holds:List Nat → List SV → Env → Prop
 | k :: ks,v :: vs,ρ => ρ k = v ∧ holds ks vs ρ
 | _,_,_ => True
structure LoopPt (body:Frz → Loc → Env → Kont → Prop) (asg:List Nat) (F:Frz) (L:Loc) (ρ:Env):Prop where
 out:∃ (σ:Type) (x0:σ) (Inv:σ → Frz → Prop) (ls:List Nat) (lv:σ → List Value) (Lf:σ → Loc) (μ:σ → Nat),
  Inv x0 F ∧ holds ls ((lv x0).map .v) ρ ∧ L.gives (Lf x0) ∧ (∀ x,L.keeps (Lf x)) ∧
  ∀ x F' jk,F.le F' → Inv x F' → body F' (Lf x) (puts ls ((lv x).map .v) (overJ asg jk ρ)) fun F'' L'' ρ'' =>
   ∃ x',Inv x' F'' ∧ holds ls ((lv x').map .v) ρ'' ∧ L''.gives (Lf x') ∧ μ x' < μ x
def evalC (P:Program):SCode → (Nat → Kont) → Kont → Kont → Kont
 | .skip,_,_,N,F,L,ρ => N F L ρ
 | .reg ops,_,_,N,F,L,ρ => evalOps P ops F L ρ N
 | .regD ops,_,_,N,F,L,ρ => evalOps P ops F L ρ N
 | .regX _,_,_,_,_,_,_ => False
 | .seq a b,E,R,N,F,L,ρ => evalC P a E R (fun F L ρ => evalC P b E R N F L ρ) F L ρ
 | .cond c a b,E,R,N,F,L,ρ => match ev ρ c with
  | .v (.bool t) => brn t (evalC P a E R N F L ρ) (evalC P b E R N F L ρ)
  | _ => False
 | .block id c,E,R,N,F,L,ρ => evalC P c (fun j => match Nat.beq j id with | true => N | false => E j) R N F L ρ
 | .loop asg c,E,R,_,F,L,ρ => LoopPt (fun F L ρ K => evalC P c E R K F L ρ) asg F L ρ
 | .exit id,E,_,_,F,L,ρ => E id F L ρ
 | .ret,_,R,_,F,L,ρ => R F L ρ
theorem beq_f {a b:Nat} (h:Nat.beq a b = false):a ≠ b:=by intro e; subst e; simp at h
theorem Loc.get_set (L:Loc) (k:Nat) (o:Own) (j:Nat):(L.set k o).get j = if j = k then some o else L.get j:=by
 induction L with
 | nil =>
  simp only [Loc.set,Loc.get]
  cases h:Nat.beq k j with
  | true => have:=Nat.eq_of_beq_eq_true h; simp [this]
  | false => have:=beq_f h; simp; omega
 | cons p l ih =>
  obtain ⟨i,q⟩:=p
  simp only [Loc.set]
  cases h:Nat.beq i k with
  | true =>
   have e:=Nat.eq_of_beq_eq_true h
   subst e
   simp only [Loc.get]
   cases h2:Nat.beq i j with
   | true => have:=Nat.eq_of_beq_eq_true h2; simp [this]
   | false => have:=beq_f h2; simp; omega
  | false =>
   have hne:=beq_f h
   simp only []
   cases h3:Nat.ble i k with
   | true =>
    simp only [Loc.get]
    cases h2:Nat.beq i j with
    | true => have:=Nat.eq_of_beq_eq_true h2; simp; omega
    | false => simpa using ih
   | false =>
    simp only [Loc.get]
    cases h2:Nat.beq k j with
    | true => have:=Nat.eq_of_beq_eq_true h2; simp [this]
    | false =>
     have:=beq_f h2
     simp only []
     rw [if_neg (by omega)]
theorem Loc.get_del (L:Loc) (k j:Nat):(L.del k).get j = if j = k then none else L.get j:=by
 induction L with
 | nil => simp [Loc.del,Loc.get]
 | cons p l ih =>
  obtain ⟨i,q⟩:=p
  simp only [Loc.del]
  cases h:Nat.beq i k with
  | true =>
   have e:=Nat.eq_of_beq_eq_true h
   subst e
   simp only [Loc.get,ih]
   by_cases hj:j = i
   ·simp [hj]
   ·have:Nat.beq i j = false:=by cases h2:Nat.beq i j with | true => exact absurd (Nat.eq_of_beq_eq_true h2).symm hj | false => rfl
    simp [hj,this]
  | false =>
   have hne:=beq_f h
   simp only [Loc.get]
   cases h2:Nat.beq i j with
   | true => have:=Nat.eq_of_beq_eq_true h2; simp; omega
   | false => simpa using ih
def Loc.part (L L':Loc):Prop:=∀ k o,L'.get k = some o → L.get k = some o
theorem St.part {F:Frz} {L L':Loc} {w:World} (h:St F L w) (hp:L.part L'):St F L' w :=
 ⟨h.frz,fun k o e => h.own k o (hp k o e),fun k o g e => h.off k o g (hp k o e),fun k k' o o' g e e' => h.sep k k' o o' g (hp k o e) (hp k' o' e'),h.glob⟩
theorem Own.ok_lt {w:World} {o:Own} (h:o.ok w) {g:Nat} (hg:o.blk = some g):g < w.heap.size:=by
 cases o with
 | box g' t cs =>
  simp only [Own.blk,Option.some.injEq] at hg
  subst hg
  exact (Array.getElem?_eq_some_iff.1 h).1
 | row v t sz n xs => exact (World.ownsRow.lt h g hg).2
theorem Own.ok_same {w w':World} {o:Own} (h:o.ok w) (hs:∀ g,o.blk = some g → w'.heap[g]? = w.heap[g]?):o.ok w':=by
 cases o with
 | box g t cs => exact (hs g rfl).trans h
 | row v t sz n xs =>
  obtain ⟨h1,h2⟩:=h
  refine ⟨h1,?_⟩
  rcases h2 with h2 | ⟨g,cap,cur,rfl,hb,hg,r⟩
  ·exact .inl h2
  ·exact .inr ⟨g,cap,cur,rfl,hb,(hs g rfl).trans hg,r⟩
theorem St.frz_lt {F:Frz} {L:Loc} {w:World} (h:St F L w) {b:Nat} (hb:F b ≠ none):b < w.heap.size:=by
 cases e:F b with
 | none => exact absurd e hb
 | some o => exact (Array.getElem?_eq_some_iff.1 (h.frz b o e)).1
theorem St.own_lt {F:Frz} {L:Loc} {w:World} (h:St F L w) {b:Nat} (hb:L.owns b):b < w.heap.size:=by
 obtain ⟨k,o,e,hg⟩:=hb
 exact Own.ok_lt (h.own k o e) hg
theorem St.keep {F:Frz} {L:Loc} {w w':World} (h:St F L w) (hs:∀ b,b < w.heap.size → w'.heap[b]? = w.heap[b]?):St F L w':=by
 refine ⟨fun b o e => ?_,fun k o e => ?_,h.off,h.sep,h.glob⟩
 ·have:=h.frz b o e
  rw [hs b (Array.getElem?_eq_some_iff.1 this).1]
  exact this
 ·exact Own.ok_same (h.own k o e) fun g hg => hs g (Own.ok_lt (h.own k o e) hg)
theorem St.drew {F:Frz} {L:Loc} {w:World} (h:St F L w):St F L w.drew:=h.keep fun _ _ => rfl
theorem St.put {F:Frz} {L:Loc} {w:World} (h:St F L w) {k:Nat} {o:Own} (hk:L.get k = none) (ho:o.ok w)
  (hf:∀ g,o.blk = some g → F g = none ∧ ¬ L.owns g):St F (L.set k o) w:=by
 have hget:∀ j p,(L.set k o).get j = some p → (j = k ∧ p = o) ∨ (j ≠ k ∧ L.get j = some p):=by
  intro j p e
  rw [Loc.get_set] at e
  split at e
  ·rename_i hj; exact .inl ⟨hj,by injection e with e; exact e.symm⟩
  ·rename_i hj; exact .inr ⟨hj,e⟩
 refine ⟨h.frz,fun j p e => ?_,fun j p g e hg => ?_,fun j j' p p' g e e' hg hg' => ?_,h.glob⟩
 ·rcases hget j p e with ⟨_,rfl⟩ | ⟨_,e⟩
  ·exact ho
  ·exact h.own j p e
 ·rcases hget j p e with ⟨_,rfl⟩ | ⟨_,e⟩
  ·exact (hf g hg).1
  ·exact h.off j p g e hg
 ·rcases hget j p e with ⟨hj,hp⟩ | ⟨_,e1⟩ <;> rcases hget j' p' e' with ⟨hj',hp'⟩ | ⟨_,e2⟩
  ·exact hj.trans hj'.symm
  ·subst hp; exact absurd ⟨j',p',e2,hg'⟩ (hf g hg).2
  ·subst hp'; exact absurd ⟨j,p,e1,hg⟩ (hf g hg').2
  ·exact h.sep j j' p p' g e1 e2 hg hg'
theorem St.turn {F:Frz} {L:Loc} {w w':World} (h:St F L w) {k:Nat} {o o':Own} (hk:L.get k = some o) (ho:o'.ok w')
  (hs:∀ b,b < w.heap.size → o.blk ≠ some b → w'.heap[b]? = w.heap[b]?) (hb:∀ g,o'.blk = some g → o.blk = some g ∨ w.heap.size ≤ g):St F (L.set k o') w':=by
 have hget:∀ j p,(L.set k o').get j = some p → (j = k ∧ p = o') ∨ (j ≠ k ∧ L.get j = some p):=by
  intro j p e
  rw [Loc.get_set] at e
  split at e
  ·rename_i hj; exact .inl ⟨hj,by injection e with e; exact e.symm⟩
  ·rename_i hj; exact .inr ⟨hj,e⟩
 refine ⟨fun b p e => ?_,fun j p e => ?_,fun j p g e hg => ?_,fun j j' p p' g e e' hg hg' => ?_,h.glob⟩
 ·have:=h.frz b p e
  rw [hs b (Array.getElem?_eq_some_iff.1 this).1 (fun hb => by have:=h.off k o b hk hb; rw [this] at e; cases e)]
  exact this
 ·rcases hget j p e with ⟨_,rfl⟩ | ⟨hj,e⟩
  ·exact ho
  ·exact Own.ok_same (h.own j p e) fun g hg => hs g (Own.ok_lt (h.own j p e) hg) fun hog => hj (h.sep j k p o g e hk hg hog)
 ·rcases hget j p e with ⟨_,rfl⟩ | ⟨_,e⟩
  ·rcases hb g hg with hog | hn
   ·exact h.off k o g hk hog
   ·cases hF:F g with
    | none => rfl
    | some _ => have:=h.frz_lt (b:=g) (by rw [hF]; simp); omega
  ·exact h.off j p g e hg
 ·rcases hget j p e with ⟨hj,hp⟩ | ⟨hj,e1⟩ <;> rcases hget j' p' e' with ⟨hj',hp'⟩ | ⟨hj',e2⟩
  ·exact hj.trans hj'.symm
  ·subst hp
   rcases hb g hg with hog | hn
   ·exact absurd (h.sep j' k p' o g e2 hk hg' hog) hj'
   ·have:=Own.ok_lt (h.own j' p' e2) hg'; omega
  ·subst hp'
   rcases hb g hg' with hog | hn
   ·exact absurd (h.sep j k p o g e1 hk hg hog) hj
   ·have:=Own.ok_lt (h.own j p e1) hg; omega
  ·exact h.sep j j' p p' g e1 e2 hg hg'
theorem St.freeze {F:Frz} {L:Loc} {w:World} (h:St F L w) {g:Nat} {o:Obj} (hg:w.heap[g]? = some o) (hn:¬ L.owns g) :
  St (fun b => if b = g then some o else F b) L w:=by
 refine ⟨fun b p e => ?_,h.own,fun k p b e hb => ?_,h.sep,Glob.mono ?_ h.glob⟩
 ·split at e
  ·rename_i hbg; subst hbg; injection e with e; subst e; exact hg
  ·exact h.frz b p e
 ·split
  ·rename_i hbg; subst hbg; exact absurd ⟨k,p,e,hb⟩ hn
  ·exact h.off k p b e hb
 ·intro b p e
  simp only []
  split
  ·rename_i hbg; subst hbg; rw [← h.frz b p e,hg]
  ·exact e
theorem Frz.le_add {F:Frz} {w:World} {L:Loc} (h:St F L w) {g:Nat} {o:Obj} (hg:w.heap[g]? = some o):F.le (fun b => if b = g then some o else F b):=by
 intro b p e
 simp only []
 split
 ·rename_i hbg; subst hbg; rw [← h.frz b p e,hg]
 ·exact e
theorem Step.refl (F:Frz) (L:Loc) (w:World):Step F L w F L w :=
 ⟨Frz.le_refl F,rfl,rfl,rfl,Nat.le_refl _,fun _ _ _ => rfl,fun _ h => .inl h,fun _ h => .inl h⟩
theorem Step.trans {F F' F'':Frz} {L L' L'':Loc} {w w' w'':World} (h:Step F L w F' L' w') (k:Step F' L' w' F'' L'' w''):Step F L w F'' L'' w'':=by
 refine ⟨Frz.le_trans h.le k.le,k.os.trans h.os,k.tape.trans h.tape,k.output.trans h.output,Nat.le_trans h.size k.size,fun b hb hn => ?_,fun b hb => ?_,fun b hb => ?_⟩
 ·rw [k.same b (Nat.lt_of_lt_of_le hb h.size) (fun ho => by rcases h.own b ho with ho | ho; exact hn ho; omega)]
  exact h.same b hb hn
 ·rcases k.frz b hb with h1 | h1 | h1
  ·exact h.frz b h1
  ·exact .inr (h.own b h1)
  ·exact .inr (.inr (Nat.le_trans h.size h1))
 ·rcases k.own b hb with h1 | h1
  ·exact h.own b h1
  ·exact .inr (Nat.le_trans h.size h1)
theorem Step.mk' {F F':Frz} {L L':Loc} {w w':World} (le:F.le F') (hw:w.grownBy w' none) (frz:∀ b,F' b ≠ none → F b ≠ none ∨ L.owns b ∨ w.heap.size ≤ b)
  (own:∀ b,L'.owns b → L.owns b ∨ w.heap.size ≤ b):Step F L w F' L' w' :=
 ⟨le,hw.os,hw.tape,hw.output,hw.size,fun b hb _ => hw.block b hb (by simp),frz,own⟩
theorem Loc.owns_set {L:Loc} {k:Nat} {o:Own} {b:Nat} (h:(L.set k o).owns b):o.blk = some b ∨ L.owns b:=by
 obtain ⟨j,p,e,hb⟩:=h
 rw [Loc.get_set] at e
 split at e
 ·injection e with e; subst e; exact .inl hb
 ·exact .inr ⟨j,p,e,hb⟩
theorem Loc.owns_del {L:Loc} {k b:Nat} (h:(L.del k).owns b):L.owns b:=by
 obtain ⟨j,p,e,hb⟩:=h
 rw [Loc.get_del] at e
 split at e
 ·cases e
 ·exact ⟨j,p,e,hb⟩
theorem Loc.part_del (L:Loc) (k:Nat):L.part (L.del k):=by
 intro j o e
 rw [Loc.get_del] at e
 split at e
 ·cases e
 ·exact e
theorem FCells.mono {F G:Frz} (h:F.le G) {a:Option Addr} {j:Nat} {cs:List Value} (c:FCells F a j cs):FCells G a j cs:=by
 obtain ⟨ad,arr,t,fr,e,hF,hs,hc⟩:=c
 exact ⟨ad,arr,t,fr,e,h _ _ hF,hs,hc⟩
theorem add_none {b o n:Nat}:(⟨b,o,none⟩:Addr).add n = ⟨b,o + n,none⟩:=by
 unfold Addr.add; split <;> simp_all
theorem FCells.cell {F:Frz} {L:Loc} {w:World} (h:St F L w) {a:Option Addr} {j:Nat} {cs:List Value} (c:FCells F a j cs) :
  ∃ ad,a = some ad ∧ ad.spot = none ∧ ∀ i v,cs[i]? = some v → w.cell? (ad.add (j + i)) = some v:=by
 obtain ⟨ad,arr,t,fr,e,hF,hs,hc⟩:=c
 refine ⟨ad,e,hs,fun i v hv => ?_⟩
 obtain ⟨b,o,sp⟩:=ad
 simp only at hs
 subst hs
 rw [add_none]
 have:=h.frz b _ hF
 simp only [World.cell?,this]
 simpa [Nat.add_assoc] using hc i v hv
def lowX:Operand → Option X
 | .tmp t => some (.t t)
 | .const v => some (.c v)
 | .func f => some (.fn f)
 | .global _ => none
def lowXs:List Operand → Option (List X)
 | [] => some []
 | o :: l => match lowX o,lowXs l with
  | some x,some xs => some (x :: xs)
  | _,_ => none
def lowXo:Option Operand → Option (Option X)
 | none => some none
 | some o => match lowX o with | some x => some (some x) | none => none
def isAggD:TypeDesc → Bool
 | .struct _ | .array _ _ => true
 | _ => false
def zOf (i:TypeInfo):Option (List Value):=match i.zero with | some z => some z.cells.toList | none => none
def lowParts (P:Program) (fs:Array Field):List (Nat × Operand) → Option (List (Nat × Nat × X))
 | [] => some []
 | (i,o) :: l => match fs[i]?,lowX o,lowParts P fs l with
  | some f,some x,some ps => match P.info? f.type with
   | some j => some ((f.offset,j.size,x) :: ps)
   | none => none
  | _,_,_ => none
def lowGl:Operand → Option SOp
 | .global g => match globOpq g with | some _ => some (.gload g) | none => none
 | _ => none
def flatKs (P:Program):List Field → Nat → Option (List Bool)
 | [],_ => some []
 | f :: fs,k => match Nat.beq f.offset k,decide (f.name = "_"),P.underlying f.type with
  | true,false,some (.int _) => match flatKs P fs (k + 1) with | some ks => some (true :: ks) | none => none
  | true,false,some .bool => match flatKs P fs (k + 1) with | some ks => some (false :: ks) | none => none
  | _,_,_ => none
def isNilI:X → Bool
 | .c .nilIface => true
 | _ => false
def lowOp (P:Program) (own:Bool) (o:Op):Option SOp :=
 match o with
 | .move x | .assign x => match lowX x with | some x => some (.mov x) | none => none
 | .pick c a b => match lowX c,lowX a,lowX b with | some c,some a,some b => some (.pick c a b) | _,_,_ => none
 | .box t x => match lowX x,decide (t = 0) with | some x,false => some (match own with | true => .boxF t x | false => .box t x) | _,_ => none
 | .alloc t => match P.info? t,decide (t = 0) with
  | some i,false => match zOf i with | some z => some (.alloc t z) | none => none
  | _,_ => none
 | .buildSlice t n ps => match P.underlying t,lowXs (ps.toList.map (·.2)) with
  | some (.slice e),some xs => match P.info? e with
   | some i => match decide (ps.toList.map (·.1) = List.range n),decide (n * i.size ≤ 2 ^ 24 ∧ n ≤ 2 ^ 24),i.zero with
    | true,true,some _ => some (match own with | true => .mkR e n i.size xs | false => .mkF e n i.size xs)
    | _,_,_ => none
   | none => none
  | _,_ => none
 | .build t ps => match P.underlying t,P.info? t with
  | some (.struct fs),some i => match zOf i,lowParts P fs ps.toList with
   | some z,some l => match fs.toList.all (fun f => (P.info? f.type).isSome),l.all (fun p => Nat.ble (p.1 + p.2.1) z.length) with
    | true,true => some (.build z l)
    | _,_ => none
   | _,_ => none
  | _,_ => none
 | .lookup t x i ok => match opqMaps with
  | true => match P.underlying t,lowX x,lowX i,ok with
   | some (.map key e),some x,some i,true => match P.underlying key,P.info? e with
    | some (.int .i64),some j => match j.zero with
     | some (.int .i64 0) => some (.look x i)
     | _ => none
    | _,_ => none
   | _,_,_,_ => none
  | false => match P.underlying t,lowX x,lowX i with
   | some (.map key e),some x,some i => match P.underlying key,P.info? e with
    | some (.int .i64),some j => match j.zero with
     | some z => some (.mlook false ok z x i)
     | none => none
    | some .string,some j => match j.zero with
     | some z => some (.mlook true ok z x i)
     | none => none
    | _,_ => none
   | _,_,_ => none
 | .makeMap _ none => some .mkmap
 | .mapUpdate t x i v | .insert t x i v => match P.underlying t,lowX x,lowX i,lowX v with
  | some (.map key _),some x,some i,some v => match P.underlying key with
   | some (.int .i64) => some (.mupd false x i v)
   | some .string => some (.mupd true x i v)
   | _ => none
  | _,_,_,_ => none
 | .range t x => match P.underlying t,lowX x with
  | some (.map _ _),some x => some (.mrange x)
  | _,_ => none
 | .next x false => match lowX x with | some x => some (.mnext x) | none => none
 | .entry x => match lowX x with | some x => some (.mentry x) | none => none
 | .load t a => match P.underlying t,P.info? t,lowX a with
  | some d,some i,some x => some (match isAggD d with | true => .load true i.size x | false => .load false 1 x)
  | some (.map _ _),some _,none => lowGl a
  | some (.interface _),some _,none => match lowGl a with | some s => some s | none => some .dead
  | some _,some _,none => some .dead
  | _,_,_ => none
 | .store t a x => match P.info? t,lowX a,lowX x with
  | some i,some a,some x => match decide (i.size = 0) with | true => none | false => some (.store i.size a x)
  | _,_,_ => none
 | .nilCheck x => match lowX x,tabOk P with | some x,true => some (.nilck x) | _,_ => none
 | .binOp op t x y _ => match P.underlying t,lowX x,lowX y with
  | some d,some x,some y => match d,op with
   | .bool,.eql => some (.eqB false x y)
   | .bool,.neq => some (.eqB true x y)
   | .pointer _,.eql => some (.eqP false x y)
   | .pointer _,.neq => some (.eqP true x y)
   | .slice _,.eql => some (.eqS false x y)
   | .slice _,.neq => some (.eqS true x y)
   | .func ..,.eql => some (.eqF false x y)
   | .func ..,.neq => some (.eqF true x y)
   | .interface _,.eql => match isNilI y with | true => some (.eqN false x) | false => none
   | .interface _,.neq => match isNilI y with | true => some (.eqN true x) | false => none
   | .struct fs,.eql => match flatKs P fs.toList 0,P.stoodInHeld t,P.eqGuardType P.depth t with | some ks,false,false => some (.eqA false ks x y) | _,_,_ => none
   | .struct fs,.neq => match flatKs P fs.toList 0,P.stoodInHeld t,P.eqGuardType P.depth t with | some ks,false,false => some (.eqA true ks x y) | _,_,_ => none
   | .int _,_ | .string,_ => some (.bin op x y)
   | _,_ => none
  | _,_,_ => none
 | .unOp op _ x => match lowX x with | some x => some (.un op x) | none => none
 | .convert s t x => match P.underlying s,P.underlying t,lowX x with
  | some (.int _),some (.int k),some x => some (.conv k x)
  | some (.slice e),some .string,some x => match P.underlying e with
   | some (.int .u8) => some (.b2s x)
   | _ => none
  | some .string,some (.slice e),some x => match P.underlying e with
   | some (.int .u8) => some (.s2b e x)
   | _ => none
  | _,_,_ => none
 | .makeFunc (.func f) fi ca => match lowXs fi.toList,lowXs ca.toList with
  | some fi,some ca => some (.mkfn f fi ca)
  | _,_ => none
 | .makeFunc (.method nm) fi ca => match lowXs fi.toList,ca.toList with
  | some [x],[] => some (.mkmv nm x)
  | _,_ => none
 | .makeFunc (.methodOf t nm) fi ca => match fi.toList,ca.toList with
  | [],[] => some (.mov (.c (.func (.methodOf t nm) #[] #[])))
  | _,_ => none
 | .makeSlice t l c => match P.underlying t,lowX l,lowX c with
  | some (.slice e),some l,some c => match P.info? e with
   | some i => match i.zero with
    | some z => match decide (z.cells.size = i.size),decide (0 < i.size) with
     | true,true => some (.makeS e i.size i.bytes z.cells.toList l c)
     | _,_ => none
    | none => none
   | none => none
  | _,_,_ => none
 | .slice t x lo hi none => match P.underlying t,lowX x,lowXo lo,lowXo hi with
  | some (.slice e),some x,some lo,some hi => match P.info? e with
   | some i => some (.slc i.size x lo hi)
   | none => none
  | some .string,some x,some lo,some hi => some (.slcS x lo hi)
  | _,_,_,_ => none
 | .fieldAddr t x f => match P.underlying t,lowX x with
  | some (.struct fs),some x => match fs[f]? with
   | some f => match P.info? f.type with
    | some i => match decide (i.size = 0) with | true => none | false => some (.fieldA f.offset x)
    | none => none
   | none => none
  | _,_ => none
 | .field t x f => match P.underlying t,lowX x with
  | some (.struct fs),some x => match fs[f]? with
   | some f => match P.underlying f.type,P.info? f.type with
    | some d,some i => match isAggD d with
     | true => some (.fieldV true f.offset i.size x)
     | false => some (.fieldV false f.offset 1 x)
    | _,_ => none
   | none => none
  | _,_ => none
 | .indexAddr t x i => match P.underlying t,lowX x,lowX i with
  | some (.slice e),some x,some i => match P.info? e with
   | some j => some (.idxA j.size x i)
   | none => none
  | _,_,_ => none
 | .index t x i => match P.underlying t,lowX x,lowX i with
  | some .string,some x,some i => some (.idxS x i)
  | _,_,_ => none
 | .makeInterface t x => match P.underlying t,lowX x with
  | some (.interface _),_ => none
  | some _,some x => some (.mkif t x)
  | _,_ => none
 | .typeAssert x _ t true => match P.underlying t,P.info? t,lowX x with
  | some (.interface _),_,_ => none
  | some _,some i,some x => match i.zero with | some z => some (.tas t z x) | none => none
  | _,_,_ => none
 | .panic x => match lowX x with | some x => some (.pan x) | none => none
 | .extract x i => match lowX x with | some x => some (.extr x i) | none => none
 | .call c => match lowXs c.args.toList with
  | none => none
  | some args => match c.callee with
   | .value (.func f) => match P.funcs[f]? with
    | some fn => match fn.name == "runtime.NumGoroutine",fn.body.isSome with
     | false,true => some (.call f args)
     | _,_ => none
    | none => none
   | .value f => match lowX f with | some x => some (.callV x args) | none => none
   | .invoke (.tmp n) nm => some (.callV (.mt nm n) args)
   | .invoke _ _ => none
   | .builtin b => match b,args,c.argTypes.toList with
    | .len,[x],[t] => match P.underlying t with
     | some (.slice _) => some (.len x)
     | some .string => some (.lenS x)
     | some (.map _ _) => some (.mlen x)
     | _ => none
    | .cap,[x],[t] => match P.underlying t with
     | some (.slice _) => some (.capa x)
     | _ => none
    | .max,args,_ => some (.mm true args)
    | .min,args,_ => some (.mm false args)
    | .append,[s,x],[t,t'] => match P.underlying t,P.underlying t' with
     | some (.slice e),some (.slice _) => match P.info? e with
      | some i => match i.zero with
       | some z => match decide (t = t'),decide (z.cells.size = i.size),decide (0 < i.size) with
        | true,true,true => some (.app e i.size i.bytes z.cells.toList s x)
        | _,_,_ => none
       | none => none
      | none => none
     | some (.slice e),some .string => match P.info? e with
      | some i => match i.zero with
       | some (.int .u8 z) => match decide (z = 0),decide (i.size = 1),decide (i.bytes = 1) with
        | true,true,true => some (.appS e s x)
        | _,_,_ => none
       | _ => none
      | none => none
     | some (.slice e),some (.int _) => match P.info? e with
      | some i => match i.zero with
       | some (.int kz z) => match decide (z = 0),decide (i.size = 1) with
        | true,true => some (.appZ e i.bytes kz s x)
        | _,_ => none
       | _ => none
      | none => none
     | _,_ => none
    | .copy,[s,x],[t,t'] => match P.underlying t,P.underlying t' with
     | some (.slice e),some (.slice _) => match P.info? e with
      | some i => match decide (t = t'),decide (i.size = 1) with
       | true,true => some (.copy e i.size s x)
       | _,_ => none
      | none => none
     | some (.slice e),some .string => match P.info? e with
      | some i => match decide (i.size = 1) with
       | true => some (.copy e i.size s x)
       | _ => none
      | none => none
     | _,_ => none
    | _,_,_ => none
 | _ => none
structure EnvOk (L:Loc) (ρ:Env) (a:Act):Prop where
 eq:∀ t,a.tmps.getD t undef = conc L (ρ t)
 own:∀ t k off,ρ t = .own k off → ∃ g ty cs,L.get k = some (.box g ty cs)
 el:∀ t ad j,ρ t = .el ad j → ad ≠ none
theorem lowX_eval {y:Operand} {x:X} (h:lowX y = some x) {L:Loc} {ρ:Env} {a:Act} (he:EnvOk L ρ a):a.eval y = val L ρ x:=by
 cases y <;> simp only [lowX,Option.some.injEq,reduceCtorEq] at h <;> subst h
 ·exact he.eq _
 ·rfl
 ·rfl
theorem lowX_own {y:Operand} {x:X} (h:lowX y = some x) {L:Loc} {ρ:Env} {a:Act} (he:EnvOk L ρ a) {k off:Nat} (e:ev ρ x = .own k off):∃ g ty cs,L.get k = some (.box g ty cs):=by
 cases y <;> simp only [lowX,Option.some.injEq,reduceCtorEq] at h <;> subst h
 ·exact he.own _ _ _ e
 ·cases e
 ·cases e
theorem lowX_el {y:Operand} {x:X} (h:lowX y = some x) {L:Loc} {ρ:Env} {a:Act} (he:EnvOk L ρ a) {ad:Option Addr} {j:Nat} (e:ev ρ x = .el ad j):ad ≠ none:=by
 cases y <;> simp only [lowX,Option.some.injEq,reduceCtorEq] at h <;> subst h
 ·exact he.el _ _ _ e
 ·cases e
 ·cases e
theorem lowXs_eval:∀ {ys:List Operand} {xs:List X},lowXs ys = some xs → ∀ {L:Loc} {ρ:Env} {a:Act},EnvOk L ρ a → ys.map a.eval = evals L ρ xs:=by
 intro ys
 induction ys with
 | nil => intro xs h L ρ a he; simp only [lowXs,Option.some.injEq] at h; subst h; rfl
 | cons y ys ih =>
  intro xs h L ρ a he
  simp only [lowXs] at h
  split at h
  ·rename_i x xs' h1 h2
   injection h with h
   subst h
   simp only [List.map_cons,evals,lowX_eval h1 he,ih h2 he]
  ·cases h
def Next1 (F:Frz) (L:Loc) (w:World) (a:Act) (K:Kont) (a':Act) (w':World):Prop :=
 ∃ F' L' ρ',St F' L' w' ∧ EnvOk L' ρ' a' ∧ a'.tmps.size = a.tmps.size ∧ a'.defers = a.defers ∧ Step F L w F' L' w' ∧ K F' L' ρ'
theorem getD_put (a:Act) (d:Option Nat) (v:Value) (hd:∀ k,d = some k → k < a.tmps.size) (t:Nat) :
  (a.put d v).tmps.getD t undef = match d with | some k => if t = k then v else a.tmps.getD t undef | none => a.tmps.getD t undef:=by
 cases d with
 | none => rfl
 | some k =>
  have:=hd k rfl
  simp only [Act.put,Array.getD_eq_getD_getElem?,Array.getElem?_setIfInBounds]
  by_cases h:t = k
  ·subst h; simp [this]
  ·rw [if_neg (by omega),if_neg h]
theorem put_eq (d:Option Nat) (x:SV) (ρ:Env) (t:Nat):put d x ρ t = match d with | some k => if t = k then x else ρ t | none => ρ t:=by
 cases d with
 | none => rfl
 | some k =>
  simp only [put]
  cases h:Nat.beq t k with
  | true => have:=Nat.eq_of_beq_eq_true h; simp [this]
  | false => have:=beq_f h; simp [this]
theorem EnvOk.put {L L':Loc} {ρ:Env} {a:Act} (he:EnvOk L ρ a) {d:Option Nat} {v:Value} {x:SV} (hd:∀ k,d = some k → k < a.tmps.size)
  (hv:conc L' x = v) (ho:∀ k off,x = .own k off → ∃ g ty cs,L'.get k = some (.box g ty cs)) (hl:∀ ad j,x = .el ad j → ad ≠ none)
  (hk:∀ k g ty cs,L.get k = some (.box g ty cs) → ∃ cs',L'.get k = some (.box g ty cs')):EnvOk L' (put d x ρ) (a.put d v):=by
 have old:∀ t,a.tmps.getD t undef = conc L' (ρ t):=by
  intro t
  rw [he.eq t]
  cases e:ρ t with
  | v x => rfl
  | el a j => rfl
  | own k off =>
   obtain ⟨g,ty,cs,hg⟩:=he.own t k off e
   obtain ⟨cs',hg'⟩:=hk k g ty cs hg
   simp only [conc,hg,hg']
 refine ⟨fun t => ?_,fun t k off e => ?_,fun t ad j e => ?_⟩
 ·rw [getD_put a d v hd,put_eq]
  cases d with
  | none => exact old t
  | some k =>
   simp only []
   split
   ·exact hv.symm
   ·exact old t
 ·rw [put_eq] at e
  have oldo:∀ k off,ρ t = .own k off → ∃ g ty cs,L'.get k = some (.box g ty cs):=by
   intro k off e
   obtain ⟨g,ty,cs,hg⟩:=he.own t k off e
   obtain ⟨cs',hg'⟩:=hk k g ty cs hg
   exact ⟨g,ty,cs',hg'⟩
  cases d with
  | none => exact oldo k off e
  | some k' =>
   simp only [] at e
   split at e
   ·exact ho k off e
   ·exact oldo k off e
 ·rw [put_eq] at e
  cases d with
  | none => exact he.el t ad j e
  | some k' =>
   simp only [] at e
   split at e
   ·exact hl ad j e
   ·exact he.el t ad j e
theorem size_put (a:Act) (d:Option Nat) (v:Value):(a.put d v).tmps.size = a.tmps.size:=by cases d <;> simp [Act.put]
theorem defers_put (a:Act) (d:Option Nat) (v:Value):(a.put d v).defers = a.defers:=by cases d <;> rfl
section
variable {P:Program} {F:Frz} {L:Loc} {ρ:Env} {a:Act} {w:World} {K:Kont} {o:Oper} {Q:Exit → Act → World → Prop}
theorem wp_val (hs:St F L w) (he:EnvOk L ρ a) (hd:∀ k,o.dst = some k → k < a.tmps.size) {v:Value} {x:SV}
  (hr:(execOp a.eval o).run P w = .ok (.value v) w) (hv:conc L x = v) (ho:∀ k off,x = .own k off → ∃ g ty cs,L.get k = some (.box g ty cs)) (hl:∀ ad j,x = .el ad j → ad ≠ none)
  (hK:K F L (put o.dst x ρ)):o.wp P a w (Next1 F L w a K) Q:=by
 unfold Oper.wp
 rw [hr]
 exact ⟨F,L,_,hs,he.put hd hv ho hl (fun k g ty cs e => ⟨cs,e⟩),size_put _ _ _,defers_put _ _ _,Step.refl _ _ _,hK⟩
theorem wp_val' (he:EnvOk L ρ a) (hd:∀ k,o.dst = some k → k < a.tmps.size) {v:Value} {x:SV} {w':World} {F':Frz} {L':Loc}
  (hr:(execOp a.eval o).run P w = .ok (.value v) w') (hs:St F' L' w') (hst:Step F L w F' L' w') (hv:conc L' x = v) (ho:∀ k off,x = .own k off → ∃ g ty cs,L'.get k = some (.box g ty cs)) (hl:∀ ad j,x = .el ad j → ad ≠ none)
  (hk:∀ k g ty cs,L.get k = some (.box g ty cs) → ∃ cs',L'.get k = some (.box g ty cs')) (hK:K F' L' (put o.dst x ρ)):o.wp P a w (Next1 F L w a K) Q:=by
 unfold Oper.wp
 rw [hr]
 exact ⟨F',L',_,hs,he.put hd hv ho hl hk,size_put _ _ _,defers_put _ _ _,hst,hK⟩
theorem wp_skip' (he:EnvOk L ρ a) (hd:∀ k,o.dst = some k → k < a.tmps.size) {w':World} {F':Frz} {L':Loc}
  (hr:(execOp a.eval o).run P w = .ok .skip w') (hs:St F' L' w') (hst:Step F L w F' L' w')
  (hk:∀ k g ty cs,L.get k = some (.box g ty cs) → ∃ cs',L'.get k = some (.box g ty cs')) (hK:K F' L' (put o.dst (.v undef) ρ)):o.wp P a w (Next1 F L w a K) Q:=by
 unfold Oper.wp
 rw [hr]
 exact ⟨F',L',_,hs,he.put hd rfl (fun _ _ e => by cases e) (fun _ _ e => by cases e) hk,size_put _ _ _,defers_put _ _ _,hst,hK⟩
end
section
variable {P:Program} {F:Frz} {L:Loc} {ρ:Env} {a:Act} {w:World} {K:Kont} {o:Oper} {Q:Exit → Act → World → Prop}
theorem noOwn {v:Value} {L:Loc}:∀ k off,SV.v v = .own k off → ∃ g ty cs,L.get k = some (.box g ty cs):=fun _ _ e => by cases e
theorem noEl {v:Value}:∀ ad j,SV.v v = .el ad j → ad ≠ none:=fun _ _ e => by cases e
theorem boxKeep (L:Loc):∀ k g ty cs,L.get k = some (.box g ty cs) → ∃ cs',L.get k = some (.box g ty cs'):=fun k g ty cs e => ⟨cs,e⟩
theorem val_v {x:X} {v:Value} {L:Loc} {ρ:Env} (h:ev ρ x = .v v):val L ρ x = v:=by simp only [val,h,conc]
theorem op_mov {y:Operand} {x:X} (hs:St F L w) (he:EnvOk L ρ a) (hd:∀ k,o.dst = some k → k < a.tmps.size)
  (ho:o.op = .move y ∨ o.op = .assign y) (hx:lowX y = some x) (hK:evalOp P (.mov x) o.dst F L ρ K):o.wp P a w (Next1 F L w a K) Q:=by
 refine wp_val hs he hd (v:=a.eval y) (x:=ev ρ x) ?_ (lowX_eval hx he).symm (fun k off e => lowX_own hx he e) (fun ad j e => lowX_el hx he e) hK
 rcases ho with ho | ho <;> simp only [execOp,ho] <;> rfl
theorem op_pick {c y z:Operand} {c' y' z':X} (hs:St F L w) (he:EnvOk L ρ a) (hd:∀ k,o.dst = some k → k < a.tmps.size)
  (ho:o.op = .pick c y z) (hc:lowX c = some c') (hy:lowX y = some y') (hz:lowX z = some z') (hK:evalOp P (.pick c' y' z') o.dst F L ρ K):o.wp P a w (Next1 F L w a K) Q:=by
 have ec:=lowX_eval hc he
 simp only [evalOp,outV] at hK
 split at hK
 ·rename_i h
  refine wp_val hs he hd (v:=a.eval y) (x:=ev ρ y') ?_ (lowX_eval hy he).symm (fun k off e => lowX_own hy he e) (fun ad j e => lowX_el hy he e) hK
  simp only [execOp,ho,ec,val,h,conc]
  simp [asBool]
 ·rename_i h
  refine wp_val hs he hd (v:=a.eval z) (x:=ev ρ z') ?_ (lowX_eval hz he).symm (fun k off e => lowX_own hz he e) (fun ad j e => lowX_el hz he e) hK
  simp only [execOp,ho,ec,val,h,conc]
  simp [asBool]
 ·exact hK.elim
theorem heap_new (w:World) (o:Obj):(w.alloc o).heap[w.heap.size]? = some o:=heap_alloc_new w o
theorem new_free {F:Frz} {L:Loc} {w:World} (hs:St F L w):F w.heap.size = none ∧ ¬ L.owns w.heap.size:=by
 refine ⟨?_,fun h => ?_⟩
 ·cases h:F w.heap.size with
  | none => rfl
  | some _ => have:=hs.frz_lt (b:=w.heap.size) (by rw [h]; simp); omega
 ·have:=hs.own_lt h; omega
theorem St.alloc (hs:St F L w) (o:Obj):St F L (w.alloc o):=hs.keep fun b hb => Below.heap_alloc w o b hb
theorem alloc_ownO (hs:St F L w) {k:Nat} (hk:L.get k = none) {ob:Obj} {e:Own} (hb:e.blk = some w.heap.size) (hok:e.ok (w.alloc ob)) :
  St F (L.set k e) (w.alloc ob) ∧ Step F L w F (L.set k e) (w.alloc ob) ∧
   (∀ j g ty xs,L.get j = some (.box g ty xs) → ∃ cs',(L.set k e).get j = some (.box g ty cs')):=by
 obtain ⟨h1,h2⟩:=new_free hs
 refine ⟨(hs.alloc _).put hk hok fun g hg => ?_,?_,fun j g ty xs ej => ?_⟩
 ·rw [hb] at hg; injection hg with hg; subst hg; exact ⟨h1,h2⟩
 ·refine Step.mk' (Frz.le_refl F) (World.grownBy_alloc w _ none) (fun b hb => .inl hb) fun b ho => ?_
  rcases Loc.owns_set ho with h | h
  ·rw [hb] at h; injection h with h; exact .inr (by omega)
  ·exact .inl h
 ·rw [Loc.get_set]
  split
  ·rename_i hjk; subst hjk; rw [hk] at ej; cases ej
  ·exact ⟨xs,ej⟩
theorem alloc_own (hs:St F L w) {k:Nat} (hk:L.get k = none) {cs:Array Value} {t:TypeId} {e:Own} (hb:e.blk = some w.heap.size) (hok:e.ok (w.alloc (.cells cs t))) :
  St F (L.set k e) (w.alloc (.cells cs t)) ∧ Step F L w F (L.set k e) (w.alloc (.cells cs t)) ∧
   (∀ j g ty xs,L.get j = some (.box g ty xs) → ∃ cs',(L.set k e).get j = some (.box g ty cs')):=alloc_ownO hs hk hb hok
theorem op_box {y:Operand} {x:X} {t:TypeId} (hs:St F L w) (he:EnvOk L ρ a) (hd:∀ k,o.dst = some k → k < a.tmps.size)
  (ho:o.op = .box t y) (hx:lowX y = some x) (ht0:t ≠ 0) (hK:evalOp P (.box t x) o.dst F L ρ K):o.wp P a w (Next1 F L w a K) Q:=by
 simp only [evalOp,outV] at hK
 split at hK
 case h_2 => exact hK.elim
 rename_i _ k hdst
 split at hK
 case h_2 => exact hK.elim
 rename_i _ hk
 have hK:=hK w.heap.size
 have hcells:(Value.cells (a.eval y)).toList = vcells (val L ρ x):=by
  rw [lowX_eval hx he]; cases val L ρ x <;> rfl
 obtain ⟨h1,h2,h3⟩:=alloc_own hs hk (cs:=(a.eval y).cells) (t:=t) (e:=.box w.heap.size t (vcells (val L ρ x))) rfl
  (by show _ = _; rw [heap_new,boxObj_ne ht0,← hcells])
 refine wp_val' he hd (v:=.pointer (some ⟨w.heap.size,0,none⟩)) (x:=.own k 0) ?_ h1 h2 ?_ ?_ (fun _ _ e => by cases e) h3 hK
 ·simp [execOp,ho,Instr.box,newVar,newRow]
 ·simp only [conc,Loc.get_set,if_true]
 ·rintro k' off e
  injection e with e1 e2
  subst e1
  exact ⟨_,_,_,by rw [Loc.get_set,if_pos rfl]⟩
theorem op_alloc {t:TypeId} {i:TypeInfo} {zs:List Value} (hs:St F L w) (he:EnvOk L ρ a) (hd:∀ k,o.dst = some k → k < a.tmps.size)
  (ho:o.op = .alloc t) (hi:P.info? t = some i) (hz:zOf i = some zs) (ht0:t ≠ 0) (hK:evalOp P (.alloc t zs) o.dst F L ρ K):o.wp P a w (Next1 F L w a K) Q:=by
 simp only [evalOp,outV] at hK
 split at hK
 case h_2 => exact hK.elim
 rename_i _ k hdst
 split at hK
 case h_2 => exact hK.elim
 rename_i _ hk
 have hK:=hK w.heap.size
 unfold zOf at hz
 split at hz
 case h_2 => cases hz
 rename_i z hz1
 injection hz with hz
 obtain ⟨h1,h2,h3⟩:=alloc_own hs hk (cs:=z.cells) (t:=t) (e:=.box w.heap.size t zs) rfl
  (by show _ = _; rw [heap_new,boxObj_ne ht0,← hz])
 refine wp_val' he hd (v:=.pointer (some ⟨w.heap.size,0,none⟩)) (x:=.own k 0) ?_ h1 h2 ?_ ?_ (fun _ _ e => by cases e) h3 hK
 ·simp [execOp,ho,Instr.alloc,zeroValue,typeInfo,hi,hz1,newVar,newRow]
 ·simp only [conc,Loc.get_set,if_true]
 ·rintro k' off e
  injection e with e1 e2
  subst e1
  exact ⟨_,_,_,by rw [Loc.get_set,if_pos rfl]⟩
theorem memB_ne {t:TypeId} {l:List Value} {n:Nat} (h:memB t l n = true):t ≠ 0:=by
 rintro rfl
 simp [memB] at h
theorem memB_eq {t:TypeId} {l:List Value} {n:Nat} (h:memB t l n = true):len? l n = true:=by
 unfold memB at h
 split at h
 ·cases h
 ·exact h
theorem memB_of {t:TypeId} {l:List Value} {n:Nat} (h:t ≠ 0) (h':len? l n = true):memB t l n = true:=by
 unfold memB
 split
 ·rename_i e; exact absurd (Nat.eq_of_beq_eq_true e) h
 ·exact h'
theorem len?_eq:∀ {l:List Value} {n:Nat},len? l n = true → l.length = n
 | [],0,_ => rfl
 | _ :: l,n + 1,h => by simp only [len?] at h; simp [len?_eq h]
 | [],_ + 1,h => by simp [len?] at h
 | _ :: _,0,h => by simp [len?] at h
theorem splice_get {cs vs:List Value} {off:Nat} (h:off + vs.length ≤ cs.length) (n:Nat) :
  (splice cs off vs)[n]? = if n < off then cs[n]? else if n < off + vs.length then vs[n - off]? else cs[n]?:=by
 unfold splice
 have hl:(cs.take off).length = off:=by simp; omega
 by_cases h1:n < off
 ·rw [if_pos h1,List.append_assoc,List.getElem?_append_left (by omega),List.getElem?_take_of_lt h1]
 ·rw [if_neg h1]
  by_cases h2:n < off + vs.length
  ·rw [if_pos h2,List.append_assoc,List.getElem?_append_right (by omega),List.getElem?_append_left (by omega),hl]
  ·rw [if_neg h2,List.append_assoc,List.getElem?_append_right (by omega),List.getElem?_append_right (by omega),hl,List.getElem?_drop]
   congr 1
   omega
theorem setMany (vs:List Value):∀ (off j:Nat) (cells:Array Value),off + j + vs.length ≤ cells.size →
  ((vs.zipIdx j).foldl (fun cs (c,j) => cs.setIfInBounds (off + j) c) cells).toList = splice cells.toList (off + j) vs:=by
 induction vs with
 | nil => intro off j cells h; simp [splice]
 | cons v vs ih =>
  intro off j cells h
  simp only [List.zipIdx_cons,List.foldl_cons,List.length_cons] at h ⊢
  have:=ih off (j + 1) (cells.setIfInBounds (off + j) v) (by simp; omega)
  rw [this]
  apply List.ext_getElem?
  intro n
  rw [splice_get (by simp; omega),splice_get (by simp; omega)]
  simp only [Array.toList_setIfInBounds,List.length_cons]
  by_cases h2:n = off + j
  ·subst h2
   rw [if_pos (by omega),if_neg (by omega),if_pos (by omega),List.getElem?_set_self (by simp; omega)]
   simp
  ·by_cases h1:n < off + j
   ·rw [if_pos (by omega),if_pos h1,List.getElem?_set_ne (by omega)]
   ·by_cases h3:n < off + (j + 1) + vs.length
    ·rw [if_neg (by omega),if_pos h3,if_neg h1,if_pos (by omega),show n - (off + j) = (n - (off + (j + 1))) + 1 by omega,List.getElem?_cons_succ]
    ·rw [if_neg (by omega),if_neg h3,if_neg h1,if_neg (by omega),List.getElem?_set_ne (by omega)]
theorem setMany0 (vs:Array Value) (off:Nat) (cells:Array Value) (h:off + vs.size ≤ cells.size) :
  (vs.zipIdx.foldl (fun cs (x:Value × Nat) => cs.setIfInBounds (off + x.2) x.1) cells).toList = splice cells.toList off vs.toList:=by
 have:=setMany vs.toList off 0 cells (by simpa using h)
 rw [Nat.add_zero] at this
 rw [← this]
 congr 1
 rw [← Array.foldl_toList,Array.toList_zipIdx]
theorem splice_length (cs:List Value) (off:Nat) (vs:List Value) (h:off + vs.length ≤ cs.length):(splice cs off vs).length = cs.length:=by
 simp [splice]; omega
theorem vcells_eq (v:Value):vcells v = v.cells.toList:=by cases v <;> rfl
theorem fill_parts (sz n:Nat):∀ (vs:List Value) (k:Nat) (cells:Array Value),cells.size = n * sz → k + vs.length = n → (∀ v ∈ vs,v.cells.size = sz) →
  ∃ out,Instr.fill (fun i => some (i * sz,sz)) cells ((List.range' k vs.length).zip vs) = some out ∧
   out.toList = cells.toList.take (k * sz) ++ (vs.map (fun v => v.cells.toList)).flatten:=by
 intro vs
 induction vs with
 | nil =>
  intro k cells h1 h2 h3
  refine ⟨cells,by simp [Instr.fill],?_⟩
  simp at h2 ⊢
  subst h2
  rw [List.take_of_length_le (by simp; omega)]
 | cons v vs ih =>
  intro k cells h1 h2 h3
  have hv:=h3 v (by simp)
  have hle:k * sz + sz ≤ n * sz:=by
   rw [← Nat.succ_mul]; exact Nat.mul_le_mul_right _ (by simp at h2; omega)
  simp only [List.length_cons,List.range'_succ,List.zip_cons_cons,Instr.fill]
  rw [if_neg (by simp [hv]; omega)]
  have hset:=setMany0 v.cells (k * sz) cells (by omega)
  have hsize:(v.cells.zipIdx.foldl (fun cs (x:Value × Nat) => cs.setIfInBounds (k * sz + x.2) x.1) cells).size = n * sz:=by
   rw [← Array.length_toList,hset,splice_length _ _ _ (by simp; omega)]; simpa using h1
  obtain ⟨out,ho,hl⟩:=ih (k + 1) _ hsize (by simp at h2; omega) (fun u hu => h3 u (by simp [hu]))
  refine ⟨out,ho,?_⟩
  rw [hl,hset]
  simp only [splice,List.map_cons,List.flatten_cons,← List.append_assoc]
  congr 1
  rw [Nat.succ_mul]
  have hlv:v.cells.toList.length = sz:=by simpa using hv
  apply List.ext_getElem?
  intro i
  by_cases c1:i < k * sz
  ·rw [List.getElem?_take_of_lt (by omega),List.append_assoc,List.getElem?_append_left (by simp; omega),List.getElem?_append_left (by simp; omega)]
  ·by_cases c2:i < k * sz + sz
   ·rw [List.getElem?_take_of_lt (by omega),List.append_assoc,List.getElem?_append_right (by simp; omega),List.getElem?_append_left (by simp; omega),List.getElem?_append_right (by simp; omega)]
   ·rw [List.getElem?_eq_none (by simp; omega),List.getElem?_eq_none (by simp; omega)]
end
section
variable {P:Program} {F:Frz} {L:Loc} {ρ:Env} {a:Act} {w:World} {K:Kont} {o:Oper} {Q:Exit → Act → World → Prop}
theorem cellsOf_eq (L:Loc) (ρ:Env):∀ xs:List X,cellsOf L ρ xs = ((evals L ρ xs).map fun v => v.cells.toList).flatten
 | [] => rfl
 | x :: xs => by simp only [cellsOf,evals,List.map_cons,List.flatten_cons,cellsOf_eq L ρ xs,vcells_eq]
theorem parts?_eq {L:Loc} {ρ:Env} {sz:Nat}:∀ {xs:List X},parts? L ρ sz xs = true → ∀ v ∈ evals L ρ xs,v.cells.size = sz
 | [],_,v,hv => by cases hv
 | x :: xs,h,v,hv => by
  simp only [parts?] at h
  split at h
  ·rename_i h1
   simp only [evals,List.mem_cons] at hv
   rcases hv with rfl | hv
   ·have:=len?_eq h1; rw [vcells_eq] at this; simpa using this
   ·exact parts?_eq h v hv
  ·cases h
theorem evals_length (L:Loc) (ρ:Env):∀ xs:List X,(evals L ρ xs).length = xs.length
 | [] => rfl
 | _ :: xs => by simp [evals,evals_length L ρ xs]
theorem cellsOf_length {L:Loc} {ρ:Env} {sz:Nat}:∀ {xs:List X},parts? L ρ sz xs = true → (cellsOf L ρ xs).length = xs.length * sz
 | [],_ => by simp [cellsOf]
 | x :: xs,h => by
  simp only [parts?] at h
  split at h
  ·rename_i h1
   have:=len?_eq h1
   simp only [cellsOf,List.length_append,this,cellsOf_length h,List.length_cons,Nat.succ_mul]
   omega
  ·cases h
theorem zip_of_map {ps:List (Nat × Operand)} {f:Operand → Value} {n:Nat} (h:ps.map (·.1) = List.range n) :
  ps.map (fun p => (p.1,f p.2)) = (List.range' 0 ps.length).zip ((ps.map (·.2)).map f):=by
 have hn:ps.length = n:=by have:=congrArg List.length h; simpa using this
 rw [hn,← List.range_eq_range',← h]
 clear h hn
 induction ps with
 | nil => rfl
 | cons p ps ih => simp [ih]
theorem run_buildSlice {t e n:Nat} {ps:Array (Nat × Operand)} {i:TypeInfo} {z:Value} {xs:List X} (ht:P.underlying t = some (.slice e)) (hi:P.info? e = some i) (hz:i.zero = some z)
  (hx:lowXs (ps.toList.map (·.2)) = some xs) (hr:ps.toList.map (·.1) = List.range n) (hb:n * i.size ≤ 2 ^ 24) (hp:parts? L ρ i.size xs = true) (he:EnvOk L ρ a) :
  (Instr.buildSlice t n (ps.map fun (j,x) => (j,a.eval x))).run P w = .ok (.slice (some ⟨w.heap.size,0,none⟩) n n) (w.alloc (.cells (cellsOf L ρ xs).toArray e)) ∧ xs.length = n:=by
 have hev:=lowXs_eval hx he
 have hlen:xs.length = n:=by
  have h1:=congrArg List.length hev
  have h2:=congrArg List.length hr
  simp only [List.length_map,evals_length,List.length_range] at h1 h2
  omega
 have hpl:ps.toList.length = n:=by have:=congrArg List.length hr; simpa using this
 have hparts:(ps.map fun (x:Nat × Operand) => (x.1,a.eval x.2)).toList = (List.range' 0 (evals L ρ xs).length).zip (evals L ρ xs):=by
  rw [Array.toList_map,zip_of_map hr,hev,evals_length,hlen,hpl]
 have hfill:=fun (cells:Array Value) (hc:cells.size = n * i.size) => fill_parts i.size n (evals L ρ xs) 0 cells hc (by rw [evals_length]; omega) (parts?_eq hp)
 refine ⟨?_,hlen⟩
 have hsz:∀ zero:Array Value,((Array.range (n * i.size)).map (zero[· % zero.size]!)).size = n * i.size:=fun _ => by simp
 obtain ⟨out,h1,h2⟩:=hfill ((Array.range (n * i.size)).map ((if n * i.size = 0 then #[] else z.cells)[· % (if n * i.size = 0 then #[] else z.cells).size]!)) (hsz _)
 have hout:out = (cellsOf L ρ xs).toArray:=by
  apply Array.ext'
  rw [h2,cellsOf_eq]; simp
 have hb':¬ (n * i.size > 2 ^ 24):=by omega
 unfold Instr.buildSlice
 simp only [Sem.run_bind,run_underlying ht,Result.andThen_ok,sizeOf,typeInfo,hi,run_program,Sem.run_pure,if_neg hb',zeroValue,hz]
 by_cases h0:n * i.size = 0
 ·simp only [h0,if_true] at h1 ⊢
  try simp only [Sem.run_pure,Result.andThen_ok]
  rw [hparts]
  have h1':=h1
  simp only [h1',hout,newRow,Sem.run_bind,run_newObj,Result.andThen_ok,Sem.run_pure]
  rfl
 ·simp only [h0,if_false] at h1 ⊢
  simp only [Sem.run_bind,hi,hz,run_program,Sem.run_pure,Result.andThen_ok]
  rw [hparts]
  have h1':=h1
  simp only [h1',hout,newRow,Sem.run_bind,run_newObj,Result.andThen_ok,Sem.run_pure]
  rfl
theorem op_boxF {t:TypeId} {y:Operand} {x:X} (hs:St F L w) (he:EnvOk L ρ a) (hd:∀ k,o.dst = some k → k < a.tmps.size)
  (ho:o.op = .box t y) (hx:lowX y = some x) (hK:evalOp P (.boxF t x) o.dst F L ρ K):o.wp P a w (Next1 F L w a K) Q:=by
 simp only [evalOp] at hK
 have hcells:(a.eval y).cells = (vcells (val L ρ x)).toArray:=by
  apply Array.ext'
  rw [lowX_eval hx he]; cases val L ρ x <;> rfl
 have hnew:=heap_new w (.cells (vcells (val L ρ x)).toArray t)
 obtain ⟨hf,hno⟩:=new_free hs
 have hs1:=(hs.alloc (.cells (vcells (val L ρ x)).toArray t)).freeze hnew hno
 have hle:=Frz.le_add (hs.alloc (.cells (vcells (val L ρ x)).toArray t)) hnew
 refine wp_val' he hd (v:=.pointer (some ⟨w.heap.size,0,none⟩)) (x:=.v (.pointer (some ⟨w.heap.size,0,none⟩))) ?_ hs1 (Step.mk' hle (World.grownBy_alloc w _ none) ?_ fun b h => .inl h) rfl noOwn noEl (boxKeep L) (hK w.heap.size _ hle (by simp))
 ·simp [execOp,ho,Instr.box,newVar,newRow,hcells]
 ·intro b hb
  by_cases h:b = w.heap.size
  ·exact .inr (.inr (by omega))
  ·simp only [if_neg h] at hb; exact .inl hb
theorem op_mkF {t e n:Nat} {ps:Array (Nat × Operand)} {i:TypeInfo} {z:Value} {xs:List X} (hs:St F L w) (he:EnvOk L ρ a) (hd:∀ k,o.dst = some k → k < a.tmps.size)
  (ho:o.op = .buildSlice t n ps) (ht:P.underlying t = some (.slice e)) (hi:P.info? e = some i) (hz:i.zero = some z)
  (hx:lowXs (ps.toList.map (·.2)) = some xs) (hr:ps.toList.map (·.1) = List.range n) (hb:n * i.size ≤ 2 ^ 24) (hK:evalOp P (.mkF e n i.size xs) o.dst F L ρ K):o.wp P a w (Next1 F L w a K) Q:=by
 simp only [evalOp,outV] at hK
 split at hK
 case h_2 => exact hK.elim
 rename_i hp
 obtain ⟨hrun,hlen⟩:=run_buildSlice (w:=w) ht hi hz hx hr hb hp he
 have hnew:=heap_new w (.cells (cellsOf L ρ xs).toArray e)
 obtain ⟨hf,hno⟩:=new_free hs
 have hs1:=(hs.alloc (.cells (cellsOf L ρ xs).toArray e)).freeze hnew hno
 have hle:=Frz.le_add (hs.alloc (.cells (cellsOf L ρ xs).toArray e)) hnew
 refine wp_val' he hd (v:=.slice (some ⟨w.heap.size,0,none⟩) n n) (x:=.v (.slice (some ⟨w.heap.size,0,none⟩) n n)) ?_ hs1 (Step.mk' hle (World.grownBy_alloc w _ none) ?_ fun b h => .inl h) rfl noOwn noEl (boxKeep L) (hK w.heap.size _ hle (by simp))
 ·simp only [execOp,ho,Sem.run_bind,hrun,Result.andThen_ok,Sem.run_pure]
 ·intro b hb
  by_cases h:b = w.heap.size
  ·exact .inr (.inr (by omega))
  ·simp only [if_neg h] at hb; exact .inl hb
theorem ownsRow_lit' (w:World) (cs:List Value) (e:TypeId) (n sz:Nat) (hm:n ≤ maxLen) (hl:cs.length = n * sz) :
  (w.alloc (.cells cs.toArray e)).ownsRow 0 e sz (.slice (some ⟨w.heap.size,0,none⟩) n n) n cs :=
 ⟨hl,.inr ⟨w.heap.size,n,cs.toArray,rfl,Nat.zero_le _,heap_new w _,Nat.le_refl _,hm,by simpa using hl,by simp [← hl]⟩⟩
theorem op_mkR {t e n:Nat} {ps:Array (Nat × Operand)} {i:TypeInfo} {z:Value} {xs:List X} (hs:St F L w) (he:EnvOk L ρ a) (hd:∀ k,o.dst = some k → k < a.tmps.size)
  (ho:o.op = .buildSlice t n ps) (ht:P.underlying t = some (.slice e)) (hi:P.info? e = some i) (hz:i.zero = some z)
  (hx:lowXs (ps.toList.map (·.2)) = some xs) (hr:ps.toList.map (·.1) = List.range n) (hb:n * i.size ≤ 2 ^ 24) (hn:n ≤ 2 ^ 24) (hK:evalOp P (.mkR e n i.size xs) o.dst F L ρ K):o.wp P a w (Next1 F L w a K) Q:=by
 simp only [evalOp,outV] at hK
 split at hK
 case h_2 => exact hK.elim
 rename_i _ _ k hp hdst
 split at hK
 case h_2 => exact hK.elim
 rename_i _ hk
 obtain ⟨hrun,hlen⟩:=run_buildSlice (w:=w) ht hi hz hx hr hb hp he
 have hrow:=ownsRow_lit' w (cellsOf L ρ xs) e n i.size (by simp only [maxLen]; omega) (by rw [cellsOf_length hp,hlen])
 obtain ⟨h1,h2,h3⟩:=alloc_own hs hk (cs:=(cellsOf L ρ xs).toArray) (t:=e) (e:=.row (.slice (some ⟨w.heap.size,0,none⟩) n n) e i.size n (cellsOf L ρ xs)) rfl hrow
 refine wp_val' he hd (v:=.slice (some ⟨w.heap.size,0,none⟩) n n) (x:=.v (.slice (some ⟨w.heap.size,0,none⟩) n n)) ?_ h1 h2 rfl noOwn noEl h3 (hK w.heap.size)
 simp only [execOp,ho,Sem.run_bind,hrun,Result.andThen_ok,Sem.run_pure]
def placeOf (P:Program) (f:Field):Nat × Nat:=(f.offset,P.cellsOf f.type)
def placeSem (f:Field):Sem (Nat × Nat):=do pure (f.offset,← sizeOf f.type)
theorem lowParts_fill {fs:Array Field}:∀ {ps:List (Nat × Operand)} {l:List (Nat × Nat × X)},lowParts P fs ps = some l → ∀ {cells:Array Value} {cs:List Value} (pl:Array (Nat × Nat)),EnvOk L ρ a →
  (∀ (j:Nat) (f:Field) (i:TypeInfo),fs[j]? = some f → P.info? f.type = some i → pl[j]? = some (f.offset,i.size)) →
  built L ρ cells.toList l = some cs → (∀ off n x,(off,n,x) ∈ l → off + n ≤ cells.size) →
  ∃ out,Instr.fill (pl[·]?) cells (ps.map fun p => (p.1,a.eval p.2)) = some out ∧ out.toList = cs:=by
 intro ps
 induction ps with
 | nil =>
  intro l h cells cs pl he hpl hb hin
  simp only [lowParts,Option.some.injEq] at h
  subst h
  simp only [built,Option.some.injEq] at hb
  exact ⟨cells,rfl,hb⟩
 | cons p ps ih =>
  intro l h cells cs pl he hpl hb hin
  obtain ⟨j,y⟩:=p
  simp only [lowParts] at h
  split at h
  case h_2 => cases h
  rename_i f x l' hf hx hl'
  split at h
  case h_2 => cases h
  rename_i i hi
  injection h with h
  subst h
  simp only [built] at hb
  split at hb
  case h_2 => cases hb
  rename_i hlen
  have hlen:=len?_eq hlen
  have hin1:=hin f.offset i.size x (by simp)
  have hev:=lowX_eval hx he
  simp only [List.map_cons,Instr.fill,hpl j f i hf hi]
  have hvs:(a.eval y).cells.size = i.size:=by rw [hev]; rw [vcells_eq] at hlen; simpa using hlen
  rw [if_neg (by simp [hvs]; omega)]
  have hset:=setMany0 (a.eval y).cells f.offset cells (by omega)
  have hcells:(a.eval y).cells.toList = vcells (val L ρ x):=by rw [hev,vcells_eq]
  rw [hcells] at hset
  refine ih hl' pl he hpl (cs:=cs) ?_ ?_
  ·rw [hset]; exact hb
  ·intro off n x' hm
   rw [← Array.length_toList,hset,splice_length _ _ _ (by rw [hlen]; simpa using hin1)]
   simpa using hin off n x' (by simp [hm])
theorem run_mapM_places (P:Program) (w:World):∀ (fs:List Field),(∀ f:Field,f ∈ fs → (P.info? f.type).isSome = true) →
  (fs.mapM placeSem).run P w = .ok (fs.map (placeOf P)) w:=by
 intro fs
 induction fs with
 | nil => intro _; simp
 | cons f fs ih =>
  intro h
  have h1:=h f (by simp)
  obtain ⟨i,hi⟩:=Option.isSome_iff_exists.1 h1
  simp only [List.mapM_cons,placeSem,Sem.run_bind,sizeOf,typeInfo,run_program,Result.andThen_ok,hi,Sem.run_pure]
  rw [ih (fun g hg => h g (by simp [hg]))]
  simp [placeOf,Program.cellsOf,hi]
theorem op_build {t:Nat} {ps:Array (Nat × Operand)} {fs:Array Field} {i:TypeInfo} {zs:List Value} {l:List (Nat × Nat × X)} (hs:St F L w) (he:EnvOk L ρ a) (hd:∀ k,o.dst = some k → k < a.tmps.size)
  (ho:o.op = .build t ps) (ht:P.underlying t = some (.struct fs)) (hi:P.info? t = some i) (hz:zOf i = some zs) (hl:lowParts P fs ps.toList = some l) (hall:∀ f:Field,f ∈ fs.toList → (P.info? f.type).isSome = true)
  (hin:∀ off n x,(off,n,x) ∈ l → off + n ≤ zs.length) (hK:evalOp P (.build zs l) o.dst F L ρ K):o.wp P a w (Next1 F L w a K) Q:=by
 simp only [evalOp,outV] at hK
 split at hK
 case h_2 => exact hK.elim
 rename_i cs hcs
 unfold zOf at hz
 split at hz
 case h_2 => cases hz
 rename_i z hz1
 injection hz with hz
 have hpl:∀ (j:Nat) (f:Field) (i:TypeInfo),fs[j]? = some f → P.info? f.type = some i → (fs.map (placeOf P))[j]? = some (f.offset,i.size):=by
  intro j f i h1 h2
  simp [h1,placeOf,Program.cellsOf,h2]
 obtain ⟨out,h1,h2⟩:=lowParts_fill (a:=a) (cells:=z.cells) (cs:=cs) hl _ he hpl (by rw [hz]; exact hcs) (by intro off n x hm; have:=hin off n x hm; rw [← hz] at this; simpa using this)
 have hout:out = cs.toArray:=by apply Array.ext'; simpa using h2
 have hmap:(fs.mapM placeSem).run P w = .ok (fs.map (placeOf P)) w:=by
  rw [Array.mapM_eq_mapM_toList,Sem.run_map,run_mapM_places P w _ hall]
  simp only [Result.andThen_ok]
  congr 1
  exact Array.ext' (by simp)
 refine wp_val hs he hd (v:=.agg cs.toArray) (x:=.v (.agg cs.toArray)) ?_ rfl noOwn noEl hK
 simp only [execOp,ho,Instr.build,Sem.run_bind,zeroValue,typeInfo,run_program,Result.andThen_ok,hi,Sem.run_pure,hz1,run_underlying ht]
 rw [show (fs.mapM fun (f:Field) => (do pure (f.offset,← sizeOf f.type):Sem (Nat × Nat))).run P w = .ok (fs.map (placeOf P)) w from hmap]
 simp only [Result.andThen_ok]
 rw [show (ps.map fun (x:Nat × Operand) => (x.1,a.eval x.2)).toList = ps.toList.map (fun p => (p.1,a.eval p.2)) by simp,h1,hout]
 simp
theorem run_isAgg {t:Nat} {d:TypeDesc} (ht:P.underlying t = some d):(isAgg t).run P w = .ok (isAggD d) w:=by
 unfold isAgg
 simp only [Sem.run_bind,run_underlying ht,Result.andThen_ok]
 cases d <;> rfl
theorem run_loadAt {t:Nat} {d:TypeDesc} {i:TypeInfo} (ht:P.underlying t = some d) (hi:P.info? t = some i) {ad:Addr} {cs:List Value} {n:Nat}
  (hc:∀ j v,cs[j]? = some v → w.cell? (ad.add j) = some v) (hlen:cs.length = n) (hn:n = match isAggD d with | true => i.size | false => 1) :
  (Instr.loadAt t (.pointer (some ad))).run P w = .ok (asVal (isAggD d) cs) w:=by
 simp only [Instr.loadAt,Instr.sureAddr,Sem.run_bind,Sem.run_pure,Result.andThen_ok,loadVar,run_isAgg ht]
 cases hd:isAggD d with
 | true =>
  simp only [hd] at hn
  simp only [if_true,Sem.run_bind,sizeOf,typeInfo,run_program,Result.andThen_ok,hi,Sem.run_pure]
  rw [← hn,← hlen,run_loadCells_list w ad cs hc]
  rfl
 | false =>
  simp only [hd] at hn
  subst hn
  match cs,hlen with
  | [v],_ =>
   have:=hc 0 v (by simp)
   rw [show ad.add 0 = ad by simp [Addr.add]] at this
   simp [run_load,this,asVal]
theorem cell_of_box {g:Nat} {t:TypeId} {cs:List Value} (ht0:t ≠ 0) (h:Own.ok w (.box g t cs)) (n:Nat):w.cell? ⟨g,n,none⟩ = cs[n]?:=by
 simp only [Own.ok,boxObj_ne ht0] at h
 simp [World.cell?,h]
theorem op_load {t:Nat} {y:Operand} {x:X} {d:TypeDesc} {i:TypeInfo} {n:Nat} (hs:St F L w) (he:EnvOk L ρ a) (hd:∀ k,o.dst = some k → k < a.tmps.size)
  (ho:o.op = .load t y) (ht:P.underlying t = some d) (hi:P.info? t = some i) (hx:lowX y = some x) (hn:n = match isAggD d with | true => i.size | false => 1)
  (hK:evalOp P (.load (isAggD d) n x) o.dst F L ρ K):o.wp P a w (Next1 F L w a K) Q:=by
 have ec:=lowX_eval hx he
 have point:∀ (ad:Option Addr) (j:Nat),ad ≠ none → (LoadPt F L ad j n fun cs => K F L (put o.dst (.v (asVal (isAggD d) cs)) ρ)) → a.eval y = conc L (.el ad j) → o.wp P a w (Next1 F L w a K) Q:=by
  rintro ad j hne ⟨cs,hlen,hc,hK⟩ hy
  cases ad with
  | none => exact absurd rfl hne
  | some ad =>
   have hcell:∀ i v,cs[i]? = some v → w.cell? ((ad.add j).add i) = some v:=by
    rcases hc with hc | ⟨k,v,t',sz,m,xs,ad',c,hk,e1,e2,hc⟩ | hn0 | ⟨k,g,t',bs,o',hk,ht0,e1,hc⟩
    ·obtain ⟨ad',e,hsp,hcc⟩:=hc.cell hs
     injection e with e
     subst e
     intro i v hv
     obtain ⟨b,o',sp⟩:=ad
     simp only at hsp
     subst hsp
     rw [add_none,add_none,Nat.add_assoc,← add_none]
     exact hcc i v hv
    ·injection e1 with e1
     subst e1
     have hrow:=hs.own k _ hk
     simp only [Own.ok] at hrow
     subst e2
     intro i u hu
     have hb:=hc i u hu
     have h0:=World.ownsRow.cells hrow (g:=ad.block) rfl (j + i) u hb
     rcases hrow.2 with ⟨e,_⟩ | ⟨g,cap,cur,e,_⟩
     ·cases e
     ·injection e with e1 e2 e3
      injection e1 with e1
      subst e1
      rw [add_none,add_none]
      rw [add_none] at h0
      simpa [Nat.add_assoc] using h0
    ·intro i v hv
     rw [hn0] at hlen
     have:cs = []:=List.eq_nil_of_length_eq_zero hlen
     subst this
     simp at hv
    ·injection e1 with e1
     subst e1
     intro i u hu
     rw [add_none,add_none,cell_of_box ht0 (hs.own k _ hk)]
     exact hc i u hu
   refine wp_val hs he hd (v:=asVal (isAggD d) cs) (x:=.v (asVal (isAggD d) cs)) ?_ rfl noOwn noEl hK
   simp only [execOp,ho,hy,conc,Sem.run_bind,run_loadAt ht hi hcell hlen hn,Result.andThen_ok,Sem.run_pure]
 simp only [evalOp,outV] at hK
 split at hK
 ·rename_i k off hev
  split at hK
  case h_2 => exact hK.elim
  rename_i g ty cs hk
  split at hK
  case h_2 => exact hK.elim
  rename_i hl
  have ht0:=memB_ne hl
  have hl:=len?_eq (memB_eq hl)
  have hbox:=hs.own k _ hk
  have hcell:∀ j v,((cs.drop off).take n)[j]? = some v → w.cell? ((⟨g,off,none⟩:Addr).add j) = some v:=by
   intro j v hv
   rw [add_none,cell_of_box ht0 hbox]
   have hj:j < n:=by
    have:=List.getElem?_eq_some_iff.1 hv
    obtain ⟨h,_⟩:=this
    omega
   rw [List.getElem?_take_of_lt hj,List.getElem?_drop] at hv
   exact hv
  refine wp_val hs he hd (v:=asVal (isAggD d) ((cs.drop off).take n)) (x:=.v (asVal (isAggD d) ((cs.drop off).take n))) ?_ rfl noOwn noEl hK
  have hy:a.eval y = .pointer (some ⟨g,off,none⟩):=by rw [ec]; simp only [val,hev,conc,hk]
  simp only [execOp,ho,hy,Sem.run_bind,run_loadAt ht hi hcell hl hn,Result.andThen_ok,Sem.run_pure]
 ·rename_i ad j hev
  exact point ad j (lowX_el hx he hev) hK (by rw [ec]; simp only [val,hev])
 ·rename_i ad hev
  refine point (some ad) 0 (by simp) hK ?_
  rw [ec]; simp only [val,hev,conc]; simp [Addr.add]
 ·exact hK.elim
end
section
variable {P:Program} {F:Frz} {L:Loc} {ρ:Env} {a:Act} {w:World} {K:Kont} {o:Oper} {Q:Exit → Act → World → Prop}
theorem kindEq_eq {k k':IntKind} (h:kindEq k k' = true):k = k':=by cases k <;> cases k' <;> first | rfl | cases h
theorem eqGuard_ok {op:BinOp} {t:TypeId} {x y:Operand} {u v:Value} (h:∀ c,u ≠ .agg c) (h2:u ≠ .nilIface):(eqGuard op t x y u v).run P w = .ok () w:=by
 have key:(eqGuard op t x y u v).run P w = .ok () w ∨ True:=.inr trivial
 unfold eqGuard
 cases op <;> simp only [Bool.not_true,Bool.not_false,if_true,Bool.false_eq_true,if_false] <;> first
  | rfl
  | (cases u <;> first | rfl | exact absurd rfl (h _) | exact absurd rfl h2)
theorem toList_data (s:ByteArray):s.toList = s.data.toList:=ByteArray.toList_eq s
theorem beq_dec (x y:List UInt8):(x == y) = decide (x = y):=by rw [Bool.eq_iff_iff]; simp
theorem op_bin {t t':TypeId} {op:BinOp} {y z:Operand} {y' z':X} (hs:St F L w) (he:EnvOk L ρ a) (hd:∀ k,o.dst = some k → k < a.tmps.size)
  (ho:o.op = .binOp op t y z t') (hy:lowX y = some y') (hz:lowX z = some z') (hK:evalOp P (.bin op y' z') o.dst F L ρ K):o.wp P a w (Next1 F L w a K) Q:=by
 have ey:=lowX_eval hy he
 have ez:=lowX_eval hz he
 have fin:∀ v,(binOp op t (val L ρ y') (val L ρ z')).run P w = .ok v w → (∀ c,val L ρ y' ≠ .agg c) → val L ρ y' ≠ .nilIface → K F L (put o.dst (.v v) ρ) → o.wp P a w (Next1 F L w a K) Q:=by
  intro v hr h1 h2 hK
  refine wp_val hs he hd (v:=v) (x:=.v v) ?_ rfl noOwn noEl hK
  simp only [execOp,ho,ey,ez,Sem.run_bind,eqGuard_ok h1 h2,Result.andThen_ok,hr,Sem.run_pure]
 simp only [evalOp,outV] at hK
 split at hK
 ·rename_i k n k' m hy1 hz1
  have vy:=val_v (L:=L) hy1
  have vz:=val_v (L:=L) hz1
  split at hK
  ·rename_i hsh
   have hop:op = .shl ∨ op = .shr:=by cases op <;> simp_all [isSh]
   have h1:(binOp op t (.int k n) (.int k' m)).run P w = (Op.shift op k n k' m).run P w:=by rcases hop with rfl | rfl <;> rfl
   rcases hop with rfl | rfl
   ·obtain ⟨hm,⟨hK⟩⟩:=hK
    refine fin _ ?_ (by rw [vy]; simp) (by rw [vy]; simp) hK
    rw [vy,vz,h1]
    simp [Op.shift,show ¬ m < 0 by omega]
   ·obtain ⟨hm,hK⟩:=hK
    refine fin _ ?_ (by rw [vy]; simp) (by rw [vy]; simp) hK
    rw [vy,vz,h1]
    simp [Op.shift,show ¬ m < 0 by omega]
  ·rename_i hsh
   split at hK
   case h_2 => exact hK.elim
   rename_i hk
   have hk:=kindEq_eq hk
   subst hk
   cases op <;> simp only [binI] at hK <;> first | (cases hsh; done) | skip
   ·obtain ⟨hK⟩:=hK
    exact fin _ (by rw [vy,vz]; simp [binOp,Op.intArith]) (by rw [vy]; simp) (by rw [vy]; simp) hK
   ·obtain ⟨hK⟩:=hK
    exact fin _ (by rw [vy,vz]; simp [binOp,Op.intArith]) (by rw [vy]; simp) (by rw [vy]; simp) hK
   ·obtain ⟨hK⟩:=hK
    exact fin _ (by rw [vy,vz]; simp [binOp,Op.intArith]) (by rw [vy]; simp) (by rw [vy]; simp) hK
   ·obtain ⟨hne,⟨hK⟩⟩:=hK
    exact fin _ (by rw [vy,vz]; simp [binOp,Op.intDiv,hne]) (by rw [vy]; simp) (by rw [vy]; simp) hK
   ·obtain ⟨hne,hK⟩:=hK
    exact fin _ (by rw [vy,vz]; simp [binOp,Op.intDiv,hne]) (by rw [vy]; simp) (by rw [vy]; simp) hK
   ·exact fin _ (by rw [vy,vz]; simp [binOp,Op.intBits]) (by rw [vy]; simp) (by rw [vy]; simp) hK
   ·exact fin _ (by rw [vy,vz]; simp [binOp,Op.intBits]) (by rw [vy]; simp) (by rw [vy]; simp) hK
   ·exact fin _ (by rw [vy,vz]; simp [binOp,Op.intBits]) (by rw [vy]; simp) (by rw [vy]; simp) hK
   ·exact fin _ (by rw [vy,vz]; simp [binOp,Op.intBits]) (by rw [vy]; simp) (by rw [vy]; simp) hK
   ·exact fin _ (by rw [vy,vz]; simp [binOp,Op.intCmp]; rfl) (by rw [vy]; simp) (by rw [vy]; simp) hK
   ·exact fin _ (by rw [vy,vz]; simp [binOp,Op.intCmp,bne]; rfl) (by rw [vy]; simp) (by rw [vy]; simp) hK
   ·exact fin _ (by rw [vy,vz]; simp [binOp,Op.intCmp]) (by rw [vy]; simp) (by rw [vy]; simp) hK
   ·exact fin _ (by rw [vy,vz]; simp [binOp,Op.intCmp]) (by rw [vy]; simp) (by rw [vy]; simp) hK
   ·exact fin _ (by rw [vy,vz]; simp [binOp,Op.intCmp]) (by rw [vy]; simp) (by rw [vy]; simp) hK
   ·exact fin _ (by rw [vy,vz]; simp [binOp,Op.intCmp]) (by rw [vy]; simp) (by rw [vy]; simp) hK
 ·rename_i s u hy1 hz1
  have vy:=val_v (L:=L) hy1
  have vz:=val_v (L:=L) hz1
  cases op <;> simp only [binS] at hK <;> first | exact hK.elim | skip
  ·obtain ⟨hle,hK⟩:=hK
   refine fin _ ?_ (by rw [vy]; simp) (by rw [vy]; simp) hK
   rw [vy,vz]
   have:¬ (((s.size + u.size:Nat):Int) > IntKind.i64.max):=by omega
   simp only [binOp,Op.stringOp,if_neg this]
   rfl
  ·exact fin _ (by rw [vy,vz]; simp only [binOp,Op.stringOp,toList_data,beq_dec]; rfl) (by rw [vy]; simp) (by rw [vy]; simp) hK
  ·exact fin _ (by rw [vy,vz]; simp only [binOp,Op.stringOp,toList_data,beq_dec]; rfl) (by rw [vy]; simp) (by rw [vy]; simp) hK
  ·exact fin _ (by rw [vy,vz]; simp only [binOp,Op.stringOp,toList_data,beq_dec]; rfl) (by rw [vy]; simp) (by rw [vy]; simp) hK
  ·exact fin _ (by rw [vy,vz]; simp only [binOp,Op.stringOp,toList_data,beq_dec]; rfl) (by rw [vy]; simp) (by rw [vy]; simp) hK
 ·exact hK.elim
theorem op_eqB {t t':TypeId} {neg:Bool} {y z:Operand} {y' z':X} (hs:St F L w) (he:EnvOk L ρ a) (hd:∀ k,o.dst = some k → k < a.tmps.size)
  (ho:o.op = .binOp (if neg then .neq else .eql) t y z t') (ht:P.underlying t = some .bool) (hy:lowX y = some y') (hz:lowX z = some z') (hK:evalOp P (.eqB neg y' z') o.dst F L ρ K):o.wp P a w (Next1 F L w a K) Q:=by
 have ey:=lowX_eval hy he
 have ez:=lowX_eval hz he
 simp only [evalOp,outV] at hK
 split at hK
 case h_2 => exact hK.elim
 rename_i b c hy1 hz1
 have vy:=val_v (L:=L) hy1
 have vz:=val_v (L:=L) hz1
 refine wp_val hs he hd (v:=.bool (ngb neg (decide (b = c)))) (x:=.v (.bool (ngb neg (decide (b = c))))) ?_ rfl noOwn noEl hK
 have hg:∀ op:BinOp,(eqGuard op t y z (.bool b) (.bool c)).run P w = .ok () w:=fun op => eqGuard_ok (by simp) (by simp)
 have hb:(b == c) = decide (b = c):=by cases b <;> cases c <;> rfl
 cases neg
 ·simp only [execOp,ho,ey,ez,vy,vz,Sem.run_bind,hg,Result.andThen_ok]
  have:=run_eql_bool (P:=P) w t b c ht
  rw [hb] at this
  simp [this,ngb]
 ·simp only [execOp,ho,ey,ez,vy,vz,Sem.run_bind,hg,Result.andThen_ok]
  have:=run_neq_bool (P:=P) w t b c ht
  rw [hb] at this
  simp [this,ngb]
theorem eqv_pp {t e:TypeId} (h:P.underlying t = some (.pointer e)) (p:Option Addr):(Op.equal t (.pointer p) (.pointer none)).run P w = .ok p.isNone w:=by
 have key:∀ d:Nat,(Op.equalIn (d + 1) t (.pointer p) (.pointer none)).run P w = .ok p.isNone w:=fun d => by
  cases p <;> simp [Op.equalIn,run_underlying h]
 exact key 9999
theorem eqv_ss {t e:TypeId} (h:P.underlying t = some (.slice e)) (p:Option Addr) (n c n' c':Nat):(Op.equal t (.slice p n c) (.slice none n' c')).run P w = .ok p.isNone w:=by
 have key:∀ d:Nat,(Op.equalIn (d + 1) t (.slice p n c) (.slice none n' c')).run P w = .ok p.isNone w:=fun d => by
  cases p <;> simp [Op.equalIn,run_underlying h]
 exact key 9999
theorem eqv_nn {t:TypeId} {ps qs:Array TypeId} {v:Bool} (h:P.underlying t = some (.func ps qs v)):(Op.equal t .nilFunc .nilFunc).run P w = .ok true w:=by
 have key:∀ d:Nat,(Op.equalIn (d + 1) t .nilFunc .nilFunc).run P w = .ok true w:=fun d => by
  simp [Op.equalIn,run_underlying h]
 exact key 9999
theorem eqv_fn {t:TypeId} {ps qs:Array TypeId} {v:Bool} {f:Fn} {x y:Array Value} (h:P.underlying t = some (.func ps qs v)):(Op.equal t (.func f x y) .nilFunc).run P w = .ok false w:=by
 have key:∀ d:Nat,(Op.equalIn (d + 1) t (.func f x y) .nilFunc).run P w = .ok false w:=fun d => by
  simp [Op.equalIn,run_underlying h]
 exact key 9999
theorem op_eqX {t t':TypeId} {neg:Bool} {y z:Operand} {y' z':X} (hs:St F L w) (he:EnvOk L ρ a) (hd:∀ k,o.dst = some k → k < a.tmps.size)
  (ho:o.op = .binOp (if neg then .neq else .eql) t y z t') (hy:lowX y = some y') (hz:lowX z = some z')
  (u v:Value) (b:Bool) (hu:val L ρ y' = u) (hv:val L ρ z' = v) (h1:∀ c,u ≠ .agg c) (h2:u ≠ .nilIface) (h3:∀ k n,u ≠ .int k n) (h4:∀ s,u ≠ .string s) (h5:∀ k n,u ≠ .float k n) (h6:∀ k n m,u ≠ .complex k n m)
  (hr:(Op.equal t u v).run P w = .ok b w) (hK:K F L (put o.dst (.v (.bool (ngb neg b))) ρ)):o.wp P a w (Next1 F L w a K) Q:=by
 have ey:=lowX_eval hy he
 have ez:=lowX_eval hz he
 refine wp_val hs he hd (v:=.bool (ngb neg b)) (x:=.v (.bool (ngb neg b))) ?_ rfl noOwn noEl hK
 have hg:∀ op:BinOp,(eqGuard op t y z u v).run P w = .ok () w:=fun op => eqGuard_ok h1 h2
 cases neg
 ·simp only [execOp,ho,ey,ez,hu,hv,Sem.run_bind,hg,Result.andThen_ok]
  have:binOp .eql t u v = (do pure (.bool (← Op.equal t u v)):Sem Value):=by
   cases u <;> first | rfl | exact absurd rfl (h3 _ _) | exact absurd rfl (h4 _) | exact absurd rfl (h5 _ _) | exact absurd rfl (h6 _ _ _)
  simp [this,hr,ngb]
 ·simp only [execOp,ho,ey,ez,hu,hv,Sem.run_bind,hg,Result.andThen_ok]
  have:binOp .neq t u v = (do pure (.bool (!(← Op.equal t u v))):Sem Value):=by
   cases u <;> first | rfl | exact absurd rfl (h3 _ _) | exact absurd rfl (h4 _) | exact absurd rfl (h5 _ _) | exact absurd rfl (h6 _ _ _)
  simp [this,hr,ngb]
theorem op_eqP {t t' e:TypeId} {neg:Bool} {y z:Operand} {y' z':X} (hs:St F L w) (he:EnvOk L ρ a) (hd:∀ k,o.dst = some k → k < a.tmps.size)
  (ho:o.op = .binOp (if neg then .neq else .eql) t y z t') (ht:P.underlying t = some (.pointer e)) (hy:lowX y = some y') (hz:lowX z = some z') (hK:evalOp P (.eqP neg y' z') o.dst F L ρ K):o.wp P a w (Next1 F L w a K) Q:=by
 simp only [evalOp,outV] at hK
 split at hK
 ·rename_i k off hy1 hz1
  obtain ⟨g,ty,cs,hg⟩:=lowX_own hy he hy1
  exact op_eqX hs he hd ho hy hz (.pointer (some ⟨g,off,none⟩)) (.pointer none) false (by simp only [val,hy1,conc,hg]) (val_v hz1) (by simp) (by simp) (by simp) (by simp) (by simp) (by simp) (eqv_pp ht _) hK
 ·rename_i ad j hy1 hz1
  exact op_eqX hs he hd ho hy hz (.pointer (some (ad.add j))) (.pointer none) false (by simp only [val,hy1,conc]) (val_v hz1) (by simp) (by simp) (by simp) (by simp) (by simp) (by simp) (eqv_pp ht _) hK
 ·rename_i p hy1 hz1
  exact op_eqX hs he hd ho hy hz (.pointer p) (.pointer none) p.isNone (val_v hy1) (val_v hz1) (by simp) (by simp) (by simp) (by simp) (by simp) (by simp) (eqv_pp ht _) hK
 ·exact hK.elim
theorem op_eqS {t t' e:TypeId} {neg:Bool} {y z:Operand} {y' z':X} (hs:St F L w) (he:EnvOk L ρ a) (hd:∀ k,o.dst = some k → k < a.tmps.size)
  (ho:o.op = .binOp (if neg then .neq else .eql) t y z t') (ht:P.underlying t = some (.slice e)) (hy:lowX y = some y') (hz:lowX z = some z') (hK:evalOp P (.eqS neg y' z') o.dst F L ρ K):o.wp P a w (Next1 F L w a K) Q:=by
 simp only [evalOp,outV] at hK
 split at hK
 ·rename_i p n c n' c' hy1 hz1
  exact op_eqX hs he hd ho hy hz (.slice p n c) (.slice none n' c') p.isNone (val_v hy1) (val_v hz1) (by simp) (by simp) (by simp) (by simp) (by simp) (by simp) (eqv_ss ht _ _ _ _ _) hK
 ·exact hK.elim
theorem op_eqF {t t':TypeId} {ps qs:Array TypeId} {vr neg:Bool} {y z:Operand} {y' z':X} (hs:St F L w) (he:EnvOk L ρ a) (hd:∀ k,o.dst = some k → k < a.tmps.size)
  (ho:o.op = .binOp (if neg then .neq else .eql) t y z t') (ht:P.underlying t = some (.func ps qs vr)) (hy:lowX y = some y') (hz:lowX z = some z') (hK:evalOp P (.eqF neg y' z') o.dst F L ρ K):o.wp P a w (Next1 F L w a K) Q:=by
 simp only [evalOp,outV] at hK
 split at hK
 ·rename_i hy1 hz1
  exact op_eqX hs he hd ho hy hz .nilFunc .nilFunc true (val_v hy1) (val_v hz1) (by simp) (by simp) (by simp) (by simp) (by simp) (by simp) (eqv_nn ht) hK
 ·rename_i f x y hy1 hz1
  exact op_eqX hs he hd ho hy hz (.func f x y) .nilFunc false (val_v hy1) (val_v hz1) (by simp) (by simp) (by simp) (by simp) (by simp) (by simp) (eqv_fn ht) hK
 ·exact hK.elim
theorem isNilI_eq {z:Operand} {z':X} (h:lowX z = some z') (k:isNilI z' = true):z = .const .nilIface:=by
 unfold isNilI at k
 split at k
 ·cases z with
  | const v => simp only [lowX,Option.some.injEq,X.c.injEq] at h; rw [h]
  | tmp n => cases h
  | func f => cases h
  | global g => cases h
 ·cases k
theorem eqv_ii {t:TypeId} {ms:Array (String × TypeId)} (h:P.underlying t = some (.interface ms)):(Op.equal t .nilIface .nilIface).run P w = .ok true w:=by
 have key:∀ d:Nat,(Op.equalIn (d + 1) t .nilIface .nilIface).run P w = .ok true w:=fun d => by
  simp [Op.equalIn,run_underlying h]
 exact key 9999
theorem eqv_if {t ty:TypeId} {ms:Array (String × TypeId)} {u:Value} (h:P.underlying t = some (.interface ms)):(Op.equal t (.iface ty u) .nilIface).run P w = .ok false w:=by
 have key:∀ d:Nat,(Op.equalIn (d + 1) t (.iface ty u) .nilIface).run P w = .ok false w:=fun d => by
  simp [Op.equalIn,run_underlying h]
 exact key 9999
theorem op_eqN {t t':TypeId} {ms:Array (String × TypeId)} {neg:Bool} {y z:Operand} {y' z':X} (hs:St F L w) (he:EnvOk L ρ a) (hd:∀ k,o.dst = some k → k < a.tmps.size)
  (ho:o.op = .binOp (if neg then .neq else .eql) t y z t') (ht:P.underlying t = some (.interface ms)) (hy:lowX y = some y') (hz:lowX z = some z') (hn:isNilI z' = true) (hK:evalOp P (.eqN neg y') o.dst F L ρ K):o.wp P a w (Next1 F L w a K) Q:=by
 have ey:=lowX_eval hy he
 obtain rfl:=isNilI_eq hz hn
 simp only [evalOp,outV] at hK
 split at hK
 ·rename_i hy1
  have hu:val L ρ y' = .nilIface:=val_v hy1
  refine wp_val hs he hd (v:=.bool (ngb neg true)) (x:=.v (.bool (ngb neg true))) ?_ rfl noOwn noEl hK
  have hg:∀ op:BinOp,(eqGuard op t y (.const .nilIface) .nilIface .nilIface).run P w = .ok () w:=fun op => by
   cases op <;> simp [eqGuard]
  have ez:a.eval (.const .nilIface) = .nilIface:=rfl
  have hr:=eqv_ii (P:=P) (w:=w) ht
  cases neg
  ·simp only [execOp,ho,ey,ez,hu,Sem.run_bind,hg,Result.andThen_ok]
   have:binOp .eql t .nilIface .nilIface = (do pure (.bool (← Op.equal t .nilIface .nilIface)):Sem Value):=rfl
   simp [this,hr,ngb]
  ·simp only [execOp,ho,ey,ez,hu,Sem.run_bind,hg,Result.andThen_ok]
   have:binOp .neq t .nilIface .nilIface = (do pure (.bool (!(← Op.equal t .nilIface .nilIface))):Sem Value):=rfl
   simp [this,hr,ngb]
 ·rename_i ty u hy1
  have hz':val L ρ z' = .nilIface:=by
   simp only [lowX,Option.some.injEq] at hz
   rw [← hz]
   rfl
  exact op_eqX hs he hd ho hy hz (.iface ty u) .nilIface false (val_v hy1) hz' (by simp) (by simp) (by simp) (by simp) (by simp) (by simp) (eqv_if ht) hK
 ·exact hK.elim
theorem eqVs_nil {l l':List Value} {acc r:Bool} (h:eqVs [] l l' acc = some r):l = [] ∧ l' = [] ∧ r = acc:=by
 cases l with
 | cons v l => simp [eqVs] at h
 | nil =>
  cases l' with
  | cons v l => simp [eqVs] at h
  | nil => simp only [eqVs,Option.some.injEq] at h; exact ⟨rfl,rfl,h.symm⟩
theorem eqVs_true {ks:List Bool} {l l':List Value} {acc r:Bool} (h:eqVs (true :: ks) l l' acc = some r):∃ k a l1 b l2,l = .int k a :: l1 ∧ l' = .int k b :: l2 ∧ eqVs ks l1 l2 (acc && decide (a = b)) = some r:=by
 cases l with
 | nil => simp [eqVs] at h
 | cons v l =>
  cases l' with
  | nil => cases v <;> simp [eqVs] at h
  | cons v' l' =>
   cases v <;> cases v' <;> try (simp [eqVs] at h; done)
   rename_i k a k' b
   simp only [eqVs] at h
   split at h
   ·rename_i hk
    have:=kindEq_eq hk
    subst this
    exact ⟨k,a,l,b,l',rfl,rfl,h⟩
   ·cases h
theorem eqVs_false {ks:List Bool} {l l':List Value} {acc r:Bool} (h:eqVs (false :: ks) l l' acc = some r):∃ a l1 b l2,l = .bool a :: l1 ∧ l' = .bool b :: l2 ∧ eqVs ks l1 l2 (acc && decide (a = b)) = some r:=by
 cases l with
 | nil => simp [eqVs] at h
 | cons v l =>
  cases l' with
  | nil => cases v <;> simp [eqVs] at h
  | cons v' l' =>
   cases v <;> cases v' <;> try (simp [eqVs] at h; done)
   rename_i a b
   simp only [eqVs] at h
   exact ⟨a,l,b,l',rfl,rfl,h⟩
theorem kindEq_refl (k:IntKind):kindEq k k = true:=by cases k <;> rfl
theorem eqVs_acc:∀ {ks:List Bool} {l l':List Value} {acc r:Bool},eqVs ks l l' acc = some r → ∃ r0,(∀ acc',eqVs ks l l' acc' = some (acc' && r0)) ∧ r = (acc && r0):=by
 intro ks
 induction ks with
 | nil =>
  intro l l' acc r h
  obtain ⟨rfl,rfl,rfl⟩:=eqVs_nil h
  exact ⟨true,fun acc' => by simp [eqVs],by simp⟩
 | cons k ks ih =>
  intro l l' acc r h
  cases k with
  | true =>
   obtain ⟨k,a,l1,b,l2,rfl,rfl,h'⟩:=eqVs_true h
   obtain ⟨r0,h1,h2⟩:=ih h'
   exact ⟨decide (a = b) && r0,fun acc' => by simp only [eqVs,kindEq_refl,h1,Bool.and_assoc],by rw [h2,Bool.and_assoc]⟩
  | false =>
   obtain ⟨a,l1,b,l2,rfl,rfl,h'⟩:=eqVs_false h
   obtain ⟨r0,h1,h2⟩:=ih h'
   exact ⟨decide (a = b) && r0,fun acc' => by simp only [eqVs,h1,Bool.and_assoc],by rw [h2,Bool.and_assoc]⟩
theorem part_plain {t:TypeId} {d:TypeDesc} (ht:P.underlying t = some d) (hd:isAggD d = false) {cs:Array Value} {off:Nat} {v:Value} (h:cs[off]? = some v):(part t cs off).run P w = .ok v w:=by
 simp only [part,Sem.run_bind,run_isAgg ht,Result.andThen_ok,hd,Bool.false_eq_true,if_false,h,Sem.run_pure]
theorem eqFields_run {d:Nat} {xs ys:Array Value}:∀ {fs:List Field} {k:Nat} {ks:List Bool} {b:Bool},flatKs P fs k = some ks → eqVs ks (xs.toList.drop k) (ys.toList.drop k) true = some b → (Op.eqFields (d + 1) xs ys fs).run P w = .ok b w
 | [],k,ks,b,h,he => by
  simp only [flatKs,Option.some.injEq] at h
  subst h
  obtain ⟨_,_,rfl⟩:=eqVs_nil he
  simp [Op.eqFields]
 | f :: fs,k,ks,b,h,he => by
  have hcons:∀ {zs:Array Value} {v:Value} {l:List Value},zs.toList.drop k = v :: l → zs[k]? = some v ∧ zs.toList.drop (k + 1) = l:=by
   intro zs v l e
   refine ⟨?_,?_⟩
   ·have:=congrArg (fun q => q[0]?) e
    simp only [List.getElem?_drop,Nat.add_zero,List.getElem?_cons_zero] at this
    simpa using this
   ·rw [← List.drop_drop,e]; rfl
  have fin:∀ {u v:Value} {l l':List Value} {ks':List Bool} {r:Bool} {dd:TypeDesc},P.underlying f.type = some dd → isAggD dd = false → f.offset = k → f.name ≠ "_" → xs.toList.drop k = u :: l → ys.toList.drop k = v :: l' → (Op.equalIn (d + 1) f.type u v).run P w = .ok r w →
    flatKs P fs (k + 1) = some ks' → eqVs ks' l l' r = some b → (Op.eqFields (d + 1) xs ys (f :: fs)).run P w = .ok b w:=by
   intro u v l l' ks' r dd hu hag ho hnm e1 e2 heq hfl hev
   obtain ⟨a1,a2⟩:=hcons e1
   obtain ⟨b1,b2⟩:=hcons e2
   simp only [Op.eqFields]
   rw [if_pos hnm]
   simp only [Sem.run_bind,ho,part_plain hu hag a1,part_plain hu hag b1,Result.andThen_ok,heq]
   obtain ⟨r0,q1,q2⟩:=eqVs_acc hev
   cases r with
   | false =>
    simp only [Bool.false_and] at q2
    subst q2
    simp
   | true =>
    simp only [Bool.true_and] at q2
    subst q2
    simp only [Bool.not_true,Bool.false_eq_true,if_false]
    exact eqFields_run hfl (by rw [a2,b2]; simpa using q1 true)
  simp only [flatKs] at h
  split at h
  ·rename_i ki hoff hnm hu
   split at h
   case h_2 => cases h
   rename_i ks' hks
   injection h with h
   subst h
   have hoff:=Nat.eq_of_beq_eq_true hoff
   have hnm:=of_decide_eq_false hnm
   obtain ⟨k1,x,l1,y,l2,e1,e2,he⟩:=eqVs_true he
   exact fin hu rfl hoff hnm e1 e2 (run_equalIn_int w d f.type k1 _ x y hu) hks (by rw [show (x == y) = decide (x = y) from rfl]; simpa using he)
  ·rename_i hoff hnm hu
   split at h
   case h_2 => cases h
   rename_i ks' hks
   injection h with h
   subst h
   have hoff:=Nat.eq_of_beq_eq_true hoff
   have hnm:=of_decide_eq_false hnm
   obtain ⟨x,l1,y,l2,e1,e2,he⟩:=eqVs_false he
   have hb:(x == y) = decide (x = y):=by cases x <;> cases y <;> rfl
   exact fin hu rfl hoff hnm e1 e2 (run_equalIn_bool' w d f.type x y hu) hks (by rw [hb]; simpa using he)
  ·cases h
theorem op_eqA {t t':TypeId} {fs:Array Field} {neg:Bool} {ks:List Bool} {y z:Operand} {y' z':X} (hs:St F L w) (he:EnvOk L ρ a) (hd:∀ k,o.dst = some k → k < a.tmps.size)
  (ho:o.op = .binOp (if neg then .neq else .eql) t y z t') (ht:P.underlying t = some (.struct fs)) (hk:flatKs P fs.toList 0 = some ks) (hp:P.stoodInHeld t = false) (hg:P.eqGuardType P.depth t = false) (hy:lowX y = some y') (hz:lowX z = some z')
  (hK:evalOp P (.eqA neg ks y' z') o.dst F L ρ K):o.wp P a w (Next1 F L w a K) Q:=by
 have ey:=lowX_eval hy he
 have ez:=lowX_eval hz he
 simp only [evalOp,outV] at hK
 split at hK
 case h_2 => exact hK.elim
 rename_i cs ds hy1 hz1
 split at hK
 case h_2 => exact hK.elim
 rename_i b hb
 have vy:=val_v (L:=L) hy1
 have vz:=val_v (L:=L) hz1
 have hfs:P.fieldsOf t = fs:=by simp only [Program.fieldsOf,ht]
 have heq:(Op.equalIn 10000 t (.agg cs) (.agg ds)).run P w = .ok b w:=by
  rw [show (10000:Nat) = 9999 + 1 from rfl,run_equalIn_agg w 9999 t cs ds (by rw [hfs]; exact ht) hp,hfs]
  exact eqFields_run (d:=9998) hk (by simpa using hb)
 refine wp_val hs he hd (v:=.bool (ngb neg b)) (x:=.v (.bool (ngb neg b))) ?_ rfl noOwn noEl hK
 cases neg
 ·simp only [execOp,ho,ey,ez,vy,vz,Sem.run_bind,run_eqGuard_agg w _ t y z cs ds hg,Result.andThen_ok]
  simp [run_eql_struct,heq,ngb]
 ·simp only [execOp,ho,ey,ez,vy,vz,Sem.run_bind,run_eqGuard_agg w _ t y z cs ds hg,Result.andThen_ok]
  simp [run_neq_struct,heq,ngb]
end
section
variable {P:Program} {F:Frz} {L:Loc} {ρ:Env} {a:Act} {w:World} {K:Kont} {o:Oper} {Q:Exit → Act → World → Prop}
theorem op_un {t:TypeId} {op:UnOp} {y:Operand} {y':X} (hs:St F L w) (he:EnvOk L ρ a) (hd:∀ k,o.dst = some k → k < a.tmps.size)
  (ho:o.op = .unOp op t y) (hy:lowX y = some y') (hK:evalOp P (.un op y') o.dst F L ρ K):o.wp P a w (Next1 F L w a K) Q:=by
 have ey:=lowX_eval hy he
 simp only [evalOp,outV] at hK
 split at hK
 ·rename_i b hy1
  refine wp_val hs he hd (v:=.bool (!b)) (x:=.v (.bool (!b))) ?_ rfl noOwn noEl hK
  simp [execOp,ho,ey,val_v hy1,Op.unary]
 ·rename_i k n hy1
  obtain ⟨hK⟩:=hK
  refine wp_val hs he hd (v:=.int k (k.wrap (0 - n))) (x:=.v (.int k (k.wrap (0 - n)))) ?_ rfl noOwn noEl hK
  simp [execOp,ho,ey,val_v hy1,Op.unary,Op.intArith]
 ·rename_i k n hy1
  refine wp_val hs he hd ?_ rfl noOwn noEl hK
  simp [execOp,ho,ey,val_v hy1,Op.unary,Op.intBits]
  rfl
 ·exact hK.elim
theorem op_conv {s t:TypeId} {k k0:IntKind} {y:Operand} {y':X} (hs:St F L w) (he:EnvOk L ρ a) (hd:∀ k,o.dst = some k → k < a.tmps.size)
  (ho:o.op = .convert s t y) (h1:P.underlying s = some (.int k0)) (h2:P.underlying t = some (.int k)) (hy:lowX y = some y') (hK:evalOp P (.conv k y') o.dst F L ρ K):o.wp P a w (Next1 F L w a K) Q:=by
 have ey:=lowX_eval hy he
 simp only [evalOp,outV] at hK
 split at hK
 ·rename_i k1 n hy1
  obtain ⟨hK⟩:=hK
  refine wp_val hs he hd (v:=.int k (k.wrap n)) (x:=.v (.int k (k.wrap n))) ?_ rfl noOwn noEl hK
  simp [execOp,ho,ey,val_v hy1,convert,run_underlying h1,run_underlying h2,Conv.intToInt]
 ·exact hK.elim
theorem push_fold (bs:List UInt8):∀ s:ByteArray,((bs.map fun b => (b.toNat:Int)).foldl (fun r n => r.push (UInt8.ofNat n.toNat)) s).data.toList = s.data.toList ++ bs:=by
 induction bs with
 | nil => intro s; simp
 | cons b bs ih =>
  intro s
  simp only [List.map_cons,List.foldl_cons]
  rw [ih]
  simp [ByteArray.push]
theorem op_b2s {s t e:TypeId} {y:Operand} {y':X} (hs:St F L w) (he:EnvOk L ρ a) (hd:∀ k,o.dst = some k → k < a.tmps.size)
  (ho:o.op = .convert s t y) (h1:P.underlying s = some (.slice e)) (h2:P.underlying t = some .string) (h3:P.underlying e = some (.int .u8)) (hy:lowX y = some y') (hK:evalOp P (.b2s y') o.dst F L ρ K):o.wp P a w (Next1 F L w a K) Q:=by
 have ey:=lowX_eval hy he
 simp only [evalOp,outV] at hK
 split at hK
 case h_2 => exact hK.elim
 rename_i ad n c hy1
 obtain ⟨cs,hlen,hc,⟨bs,rfl,hK⟩⟩:=hK
 refine wp_val hs he hd (v:=.string ⟨bs.toArray⟩) (x:=.v (.string ⟨bs.toArray⟩)) ?_ rfl noOwn noEl hK
 simp only [execOp,ho,ey,val_v hy1,Sem.run_bind,run_convert_bytes_string w s t e ad n c h1 h3 h2]
 cases ad with
 | none =>
  rcases hc with hc | ⟨_,_,_,_,_,_,_,_,_,e,_⟩ | hn0 | ⟨_,_,_,_,_,_,_,e,_⟩
  ·obtain ⟨_,e,_⟩:=hc.cell hs; cases e
  ·cases e
  ·rw [hn0] at hlen
   have:bs = []:=List.eq_nil_of_length_eq_zero (by simpa using hlen)
   subst this
   simp [Conv.bytesToString]
   rfl
  ·cases e
 | some ad =>
  have hcell:∀ i v,(bs.map fun b => Value.int .u8 b.toNat)[i]? = some v → w.cell? (ad.add i) = some v:=by
   rcases hc with hc | ⟨k,v,t',sz,m,xs,ad',c',hk,e1,e2,hc⟩ | hn0 | ⟨k,g,t',bx,o',hk,ht0,e1,hc⟩
   ·obtain ⟨ad',e,hsp,hcc⟩:=hc.cell hs
    injection e with e
    subst e
    intro i v hv
    have:=hcc i v hv
    rwa [Nat.zero_add] at this
   ·injection e1 with e1
    subst e1
    have hrow:=hs.own k _ hk
    simp only [Own.ok] at hrow
    subst e2
    intro i u hu
    have hb:=hc i u hu
    rw [Nat.zero_add] at hb
    have h0:=World.ownsRow.cells hrow (g:=ad.block) rfl i u hb
    rcases hrow.2 with ⟨e,_⟩ | ⟨g,cap,cur,e,_⟩
    ·cases e
    ·injection e with e1 e2 e3
     injection e1 with e1
     subst e1
     exact h0
   ·intro i v hv
    rw [hn0] at hlen
    have:bs = []:=List.eq_nil_of_length_eq_zero (by simpa using hlen)
    subst this
    simp at hv
   ·injection e1 with e1
    subst e1
    intro i u hu
    rw [add_none,cell_of_box ht0 (hs.own k _ hk)]
    have:=hc i u hu
    rwa [Nat.add_zero] at this
  have hload:=run_loadCells_list (P:=P) w ad _ hcell
  rw [hlen] at hload
  have hb:=run_bytesToString (P:=P) w ad n c (bs.map fun b => (b.toNat:Int)) (by rw [hload]; simp)
  rw [hb]
  simp only [Result.andThen_ok,Sem.run_pure]
  congr 3
  have:=push_fold bs ByteArray.empty
  generalize (bs.map fun b => (b.toNat:Int)).foldl (fun r n => r.push (UInt8.ofNat n.toNat)) ByteArray.empty = z at this ⊢
  obtain ⟨d⟩:=z
  congr 1
  apply Array.ext'
  simpa using this
theorem op_mkfn {f:FuncId} {fi ca:Array Operand} {fi' ca':List X} (hs:St F L w) (he:EnvOk L ρ a) (hd:∀ k,o.dst = some k → k < a.tmps.size)
  (ho:o.op = .makeFunc (.func f) fi ca) (h1:lowXs fi.toList = some fi') (h2:lowXs ca.toList = some ca') (hK:evalOp P (.mkfn f fi' ca') o.dst F L ρ K):o.wp P a w (Next1 F L w a K) Q:=by
 have e1:fi.map a.eval = (evals L ρ fi').toArray:=by apply Array.ext'; simpa using lowXs_eval h1 he
 have e2:ca.map a.eval = (evals L ρ ca').toArray:=by apply Array.ext'; simpa using lowXs_eval h2 he
 refine wp_val hs he hd ?_ rfl noOwn noEl hK
 simp [execOp,ho,Instr.makeFunc,e1,e2]
 rfl
theorem op_extr {i:Nat} {y:Operand} {y':X} (hs:St F L w) (he:EnvOk L ρ a) (hd:∀ k,o.dst = some k → k < a.tmps.size)
  (ho:o.op = .extract y i) (hy:lowX y = some y') (hK:evalOp P (.extr y' i) o.dst F L ρ K):o.wp P a w (Next1 F L w a K) Q:=by
 have ey:=lowX_eval hy he
 simp only [evalOp,outV] at hK
 split at hK
 case h_2 => exact hK.elim
 rename_i vs hy1
 split at hK
 case h_2 => exact hK.elim
 rename_i v hv
 refine wp_val hs he hd (v:=v) (x:=.v v) ?_ rfl noOwn noEl hK
 have:vs[i]? = some v:=by simpa using hv
 simp [execOp,ho,ey,val_v hy1,Instr.extract,this]
theorem op_fieldV {t f:Nat} {y:Operand} {y':X} {fs:Array Field} {fd:Field} {d:TypeDesc} {i:TypeInfo} {n:Nat} (hs:St F L w) (he:EnvOk L ρ a) (hd:∀ k,o.dst = some k → k < a.tmps.size)
  (ho:o.op = .field t y f) (ht:P.underlying t = some (.struct fs)) (hf:fs[f]? = some fd) (hft:P.underlying fd.type = some d) (hi:P.info? fd.type = some i) (hy:lowX y = some y')
  (hn:n = match isAggD d with | true => i.size | false => 1) (hK:evalOp P (.fieldV (isAggD d) fd.offset n y') o.dst F L ρ K):o.wp P a w (Next1 F L w a K) Q:=by
 have ey:=lowX_eval hy he
 simp only [evalOp,outV] at hK
 split at hK
 case h_2 => exact hK.elim
 rename_i cs hy1
 split at hK
 case h_2 => exact hK.elim
 rename_i hl
 have hl:=len?_eq hl
 refine wp_val hs he hd (v:=asVal (isAggD d) ((cs.toList.drop fd.offset).take n)) (x:=.v (asVal (isAggD d) ((cs.toList.drop fd.offset).take n))) ?_ rfl noOwn noEl hK
 simp only [execOp,ho,ey,val_v hy1,Instr.field,Sem.run_bind,run_underlying ht,Result.andThen_ok,hf,asAgg,Sem.run_pure,part,run_isAgg hft]
 cases hdd:isAggD d with
 | true =>
  simp only [hdd] at hn
  simp only [if_true,Sem.run_bind,sizeOf,typeInfo,run_program,Result.andThen_ok,hi,Sem.run_pure]
  subst hn
  have hex:cs.extract fd.offset (fd.offset + i.size) = ((cs.toList.drop fd.offset).take i.size).toArray:=by
   apply Array.ext'
   rw [Array.toList_extract]
   simp [List.extract_eq_take_drop]
  simp [asVal,hex]
 | false =>
  simp only [hdd] at hn
  subst hn
  have:∃ v,cs[fd.offset]? = some v ∧ (cs.toList.drop fd.offset).take 1 = [v]:=by
   match h:cs.toList.drop fd.offset,hl with
   | v :: r,_ =>
    refine ⟨v,?_,by simp⟩
    have:=congrArg (·[0]?) h
    simpa using this
  obtain ⟨v,h1,h2⟩:=this
  simp [h1,h2,asVal]
theorem op_fieldA {t f:Nat} {y:Operand} {y':X} {fs:Array Field} {fd:Field} {i:TypeInfo} (hs:St F L w) (he:EnvOk L ρ a) (hd:∀ k,o.dst = some k → k < a.tmps.size)
  (ho:o.op = .fieldAddr t y f) (ht:P.underlying t = some (.struct fs)) (hf:fs[f]? = some fd) (hi:P.info? fd.type = some i) (hne:i.size ≠ 0) (hy:lowX y = some y')
  (hK:evalOp P (.fieldA fd.offset y') o.dst F L ρ K):o.wp P a w (Next1 F L w a K) Q:=by
 have ey:=lowX_eval hy he
 have run:∀ ad:Addr,val L ρ y' = .pointer (some ad) → (execOp a.eval o).run P w = .ok (.value (.pointer (some (ad.add fd.offset)))) w:=by
  intro ad hv
  simp [execOp,ho,ey,hv,Instr.fieldAt,run_underlying ht,hf,Instr.sureAddr,fieldPlace,sizeOf,typeInfo,hi,hne]
 simp only [evalOp,outV] at hK
 split at hK
 ·rename_i k off hy1
  obtain ⟨g,ty,cs,hg⟩:=lowX_own hy he hy1
  refine wp_val hs he hd (v:=.pointer (some ⟨g,off + fd.offset,none⟩)) (x:=.own k (off + fd.offset)) ?_ (by simp only [conc,hg]) (fun k' off' e => by injection e with e1 e2; subst e1; exact ⟨g,ty,cs,hg⟩) (fun _ _ e => by cases e) hK
  rw [run ⟨g,off,none⟩ (by simp only [val,hy1,conc,hg]),add_none]
 ·rename_i ad j hy1
  have hne:=lowX_el hy he hy1
  cases ad with
  | none => exact absurd rfl hne
  | some ad =>
   refine wp_val hs he hd (v:=.pointer (some (ad.add (j + fd.offset)))) (x:=.el (some ad) (j + fd.offset)) ?_ rfl (fun _ _ e => by cases e) (fun ad' j' e => by injection e with e1 e2; subst e1; simp) hK
   rw [run (ad.add j) (by simp only [val,hy1,conc])]
   congr 4
   obtain ⟨b,o',sp⟩:=ad
   unfold Addr.add
   by_cases h1:j = 0 <;> by_cases h2:fd.offset = 0 <;> simp [h1,h2,Nat.add_assoc]
 ·rename_i ad hy1
  refine wp_val hs he hd (v:=.pointer (some (ad.add fd.offset))) (x:=.el (some ad) fd.offset) ?_ rfl (fun _ _ e => by cases e) (fun ad' j' e => by injection e with e1 e2; subst e1; simp) hK
  rw [run ad (val_v hy1)]
 ·exact hK.elim
theorem op_idxA {t e:TypeId} {y z:Operand} {y' z':X} {i:TypeInfo} (hs:St F L w) (he:EnvOk L ρ a) (hd:∀ k,o.dst = some k → k < a.tmps.size)
  (ho:o.op = .indexAddr t y z) (ht:P.underlying t = some (.slice e)) (hi:P.info? e = some i) (hy:lowX y = some y') (hz:lowX z = some z')
  (hK:evalOp P (.idxA i.size y' z') o.dst F L ρ K):o.wp P a w (Next1 F L w a K) Q:=by
 have ey:=lowX_eval hy he
 have ez:=lowX_eval hz he
 simp only [evalOp,outV] at hK
 split at hK
 case h_2 => exact hK.elim
 rename_i ad n c k j hy1 hz1
 obtain ⟨hne,h1,h2,hK⟩:=hK
 cases ad with
 | none => exact absurd rfl hne
 | some ad =>
  refine wp_val hs he hd (v:=.pointer (some (ad.add (j.toNat * i.size)))) (x:=.el (some ad) (j.toNat * i.size)) ?_ rfl (fun _ _ e => by cases e) (fun ad' j' e => by injection e with e1 e2; subst e1; simp) hK
  simp [execOp,ho,ey,ez,val_v hy1,val_v hz1,Instr.indexAt,asIntOf,run_underlying ht,h1,h2,sizeOf,typeInfo,hi]
theorem op_idxS {t:TypeId} {y z:Operand} {y' z':X} (hs:St F L w) (he:EnvOk L ρ a) (hd:∀ k,o.dst = some k → k < a.tmps.size)
  (ho:o.op = .index t y z) (ht:P.underlying t = some .string) (hy:lowX y = some y') (hz:lowX z = some z')
  (hK:evalOp P (.idxS y' z') o.dst F L ρ K):o.wp P a w (Next1 F L w a K) Q:=by
 have ey:=lowX_eval hy he
 have ez:=lowX_eval hz he
 simp only [evalOp,outV] at hK
 split at hK
 case h_2 => exact hK.elim
 rename_i s k j hy1 hz1
 obtain ⟨h1,h2,hK⟩:=hK
 refine wp_val hs he hd (v:=.int .u8 ((s.data.toList.getD j.toNat 0).toNat)) (x:=.v (.int .u8 ((s.data.toList.getD j.toNat 0).toNat))) ?_ rfl noOwn noEl hK
 have hlt:j.toNat < s.size:=by omega
 have hget:s[j.toNat]? = some (s.data.toList.getD j.toNat 0):=by
  have h3:j.toNat < s.data.toList.length:=by simpa using hlt
  rw [getElem?_pos s j.toNat hlt,List.getD_eq_getElem?_getD,List.getElem?_eq_getElem h3]
  simp
  rfl
 simp [execOp,ho,ey,ez,val_v hy1,val_v hz1,Instr.index,asIntOf,run_underlying ht,h1,hget]
theorem op_len {t e:TypeId} {y:Operand} {y':X} {c:Call} (hs:St F L w) (he:EnvOk L ρ a) (hd:∀ k,o.dst = some k → k < a.tmps.size)
  (ho:o.op = .call c) (hc:c.callee = .builtin .len) (ha:c.args = #[y]) (hts:c.argTypes = #[t]) (ht:P.underlying t = some (.slice e)) (hy:lowX y = some y')
  (hK:evalOp P (.len y') o.dst F L ρ K):o.wp P a w (Next1 F L w a K) Q:=by
 have ey:=lowX_eval hy he
 simp only [evalOp,outV] at hK
 split at hK
 ·rename_i ad n cp hy1
  refine wp_val hs he hd (v:=.int .i64 n) (x:=.v (.int .i64 n)) ?_ rfl noOwn noEl hK
  simp [execOp,ho,resolve,hc,ha,hts,invoke,builtin,Builtin.len_,ey,val_v hy1,run_underlying ht,goInt]
 ·exact hK.elim
theorem op_lenS {t:TypeId} {y:Operand} {y':X} {c:Call} (hs:St F L w) (he:EnvOk L ρ a) (hd:∀ k,o.dst = some k → k < a.tmps.size)
  (ho:o.op = .call c) (hc:c.callee = .builtin .len) (ha:c.args = #[y]) (hts:c.argTypes = #[t]) (ht:P.underlying t = some .string) (hy:lowX y = some y')
  (hK:evalOp P (.lenS y') o.dst F L ρ K):o.wp P a w (Next1 F L w a K) Q:=by
 have ey:=lowX_eval hy he
 simp only [evalOp,outV] at hK
 split at hK
 ·rename_i s hy1
  refine wp_val hs he hd (v:=.int .i64 s.size) (x:=.v (.int .i64 s.size)) ?_ rfl noOwn noEl hK
  simp [execOp,ho,resolve,hc,ha,hts,invoke,builtin,Builtin.len_,ey,val_v hy1,run_underlying ht,goInt]
 ·exact hK.elim
theorem op_capa {t e:TypeId} {y:Operand} {y':X} {c:Call} (hs:St F L w) (he:EnvOk L ρ a) (hd:∀ k,o.dst = some k → k < a.tmps.size)
  (ho:o.op = .call c) (hc:c.callee = .builtin .cap) (ha:c.args = #[y]) (hts:c.argTypes = #[t]) (ht:P.underlying t = some (.slice e)) (hy:lowX y = some y')
  (hK:evalOp P (.capa y') o.dst F L ρ K):o.wp P a w (Next1 F L w a K) Q:=by
 have ey:=lowX_eval hy he
 simp only [evalOp,outV] at hK
 split at hK
 ·rename_i ad n cp hy1
  refine wp_val hs he hd (v:=.int .i64 cp) (x:=.v (.int .i64 cp)) ?_ rfl noOwn noEl hK
  simp [execOp,ho,resolve,hc,ha,hts,invoke,builtin,Builtin.cap_,ey,val_v hy1,run_underlying ht,goInt]
 ·exact hK.elim
theorem ev_map {L:Loc} {ρ:Env}:∀ {xs:List X},evals L ρ xs = (xs.map (ev ρ)).map (conc L)
 | [] => rfl
 | _ :: xs => by simp [evals,val,ev_map (xs:=xs)]
theorem mm_run (mx:Bool) (k:IntKind):∀ (l:List SV) (a0 m:Int),mmI mx a0 l = some m →
  ((l.map (conc L)).foldlM (if mx then Builtin.max2 else Builtin.min2) (.int k a0)).run P w = .ok (.int k m) w:=by
 intro l
 induction l with
 | nil => intro a0 m h; simp only [mmI,Option.some.injEq] at h; subst h; rfl
 | cons x l ih =>
  intro a0 m h
  unfold mmI at h
  split at h
  ·rename_i heq; cases heq
  ·rename_i k' b l' heq
   injection heq with h1 h2
   subst h1 h2
   have:=ih _ _ h
   cases mx
   ·simp only [List.map_cons,List.foldlM_cons,conc,Sem.run_bind]
    simp only [Bool.false_eq_true,if_false] at this ⊢
    simp only [Builtin.min2,Sem.run_pure,Result.andThen_ok]
    exact this
   ·simp only [List.map_cons,List.foldlM_cons,conc,Sem.run_bind]
    simp only [if_true] at this ⊢
    simp only [Builtin.max2,Sem.run_pure,Result.andThen_ok]
    exact this
  ·cases h
theorem op_mm {mx:Bool} {c:Call} {xs:List X} (hs:St F L w) (he:EnvOk L ρ a) (hd:∀ k,o.dst = some k → k < a.tmps.size)
  (ho:o.op = .call c) (hc:c.callee = .builtin (if mx then .max else .min)) (ha:lowXs c.args.toList = some xs)
  (hK:evalOp P (.mm mx xs) o.dst F L ρ K):o.wp P a w (Next1 F L w a K) Q:=by
 have hev:=lowXs_eval ha he
 rw [ev_map] at hev
 simp only [evalOp,outV] at hK
 split at hK
 case h_2 => exact hK.elim
 rename_i k a0 l hl
 split at hK
 case h_2 => exact hK.elim
 rename_i m hm
 rw [hl] at hev
 have hr:=mm_run (P:=P) (L:=L) (w:=w) mx k l a0 m hm
 refine wp_val hs he hd (v:=.int k m) (x:=.v (.int k m)) ?_ rfl noOwn noEl hK
 cases mx
 ·simp only [Bool.false_eq_true,if_false] at hc hr
  simp only [execOp,ho,resolve,hc,invoke,builtin,Builtin.min_,Sem.run_bind,Sem.run_pure,Result.andThen_ok,Array.toList_map,hev,List.map_cons,conc,hr]
 ·simp only [if_true] at hc hr
  simp only [execOp,ho,resolve,hc,invoke,builtin,Builtin.max_,Sem.run_bind,Sem.run_pure,Result.andThen_ok,Array.toList_map,hev,List.map_cons,conc,hr]
theorem op_mkif {t:TypeId} {d:TypeDesc} {y:Operand} {y':X} (hs:St F L w) (he:EnvOk L ρ a) (hd:∀ k,o.dst = some k → k < a.tmps.size)
  (ho:o.op = .makeInterface t y) (ht:P.underlying t = some d) (hni:∀ ms,d ≠ .interface ms) (hy:lowX y = some y') (hK:evalOp P (.mkif t y') o.dst F L ρ K):o.wp P a w (Next1 F L w a K) Q:=by
 have ey:=lowX_eval hy he
 simp only [evalOp,outV] at hK
 split at hK
 ·rename_i v hy1
  refine wp_val hs he hd (v:=.iface t v) (x:=.v (.iface t v)) ?_ rfl noOwn noEl hK
  simp only [execOp,ho,ey,val_v hy1,Instr.makeInterface]
  simp only [Sem.run_bind,Sem.run_map,run_underlying ht,Result.andThen_ok]
  cases d <;> first | exact absurd rfl (hni _) | simp
 ·rename_i ad j hy1
  refine wp_val hs he hd (v:=.iface t (.pointer (some (ad.add j)))) (x:=.v (.iface t (.pointer (some (ad.add j))))) ?_ rfl noOwn noEl hK
  simp only [execOp,ho,ey,val,hy1,conc,Instr.makeInterface]
  simp only [Sem.run_bind,Sem.run_map,run_underlying ht,Result.andThen_ok]
  cases d <;> first | exact absurd rfl (hni _) | simp
 ·exact hK.elim
theorem op_tas {t xt:TypeId} {d:TypeDesc} {i:TypeInfo} {z:Value} {y:Operand} {y':X} (hs:St F L w) (he:EnvOk L ρ a) (hd:∀ k,o.dst = some k → k < a.tmps.size)
  (ho:o.op = .typeAssert y xt t true) (ht:P.underlying t = some d) (hni:∀ ms,d ≠ .interface ms) (hi:P.info? t = some i) (hz:i.zero = some z) (hy:lowX y = some y') (hK:evalOp P (.tas t z y') o.dst F L ρ K):o.wp P a w (Next1 F L w a K) Q:=by
 have ey:=lowX_eval hy he
 simp only [evalOp,outV] at hK
 split at hK
 ·rename_i hy1
  refine wp_val hs he hd (v:=.tuple #[z,.bool false]) (x:=.v (.tuple #[z,.bool false])) ?_ rfl noOwn noEl hK
  simp only [execOp,ho,ey,val_v hy1,Instr.typeAssert]
  simp only [Sem.run_bind,Sem.run_map,run_underlying ht,Result.andThen_ok]
  cases d <;> first | exact absurd rfl (hni _) | simp [zeroValue,typeInfo,hi,hz]
 ·rename_i t' u hy1
  split at hK
  ·rename_i hb
   have hb:=Nat.eq_of_beq_eq_true hb
   refine wp_val hs he hd (v:=.tuple #[u,.bool true]) (x:=.v (.tuple #[u,.bool true])) ?_ rfl noOwn noEl hK
   simp only [execOp,ho,ey,val_v hy1,Instr.typeAssert]
   simp only [Sem.run_bind,Sem.run_map,run_underlying ht,Result.andThen_ok]
   cases d <;> first | exact absurd rfl (hni _) | simp [hb]
  ·rename_i hb
   have hb:t' ≠ t:=fun e => by rw [e,Nat.beq_refl] at hb; cases hb
   refine wp_val hs he hd (v:=.tuple #[z,.bool false]) (x:=.v (.tuple #[z,.bool false])) ?_ rfl noOwn noEl hK
   simp only [execOp,ho,ey,val_v hy1,Instr.typeAssert]
   simp only [Sem.run_bind,Sem.run_map,run_underlying ht,Result.andThen_ok]
   cases d <;> first | exact absurd rfl (hni _) | simp [zeroValue,typeInfo,hi,hz,hb]
 ·exact hK.elim
theorem mOk_tab:∀ {l:List (TypeId × String)} {t:TypeId} {nm:String},mOk l t nm = true → (t,nm) ∈ l
 | [],_,_,h => by cases h
 | (t,nm) :: l,t',nm',h => by
  simp only [mOk] at h
  split at h
  ·rename_i h1 h2
   rw [← Nat.eq_of_beq_eq_true h1,← of_decide_eq_true h2]
   exact List.mem_cons_self ..
  ·exact List.mem_cons_of_mem _ (mOk_tab h)
theorem methP_row {t:TypeId} {nm:String} {f:FuncId} (h:methP P t nm = some f):∃ i m pr d,P.info? t = some i ∧ i.methods.find? (·.name == nm) = some m ∧ m.path.toList = [] ∧ m.func = some (f,pr) ∧ P.underlying t = some d ∧
  ((∃ e,d = .pointer e ∧ pr = true) ∨ ((∀ e,d ≠ .pointer e) ∧ pr = false)):=by
 simp only [methP] at h
 split at h
 case h_2 => cases h
 rename_i i hi
 split at h
 case h_2 => cases h
 rename_i m hm
 split at h
 case h_2 => cases h
 rename_i f' pr hp hf
 split at h
 ·rename_i e hu
  injection h with h; subst h
  exact ⟨i,m,_,_,hi,hm,hp,hf,hu,.inl ⟨_,rfl,rfl⟩⟩
 ·cases h
 ·rename_i d hne hu
  injection h with h; subst h
  exact ⟨i,m,_,_,hi,hm,hp,hf,hu,.inr ⟨fun e he => hne e he,rfl⟩⟩
 ·cases h
theorem fuel_succ (P:Program):∃ n,P.types.size + Made.depth = n + 1:=⟨P.types.size + 99,by simp [Made.depth]⟩
theorem methP_run {t:TypeId} {nm:String} {f:FuncId} (h:methP P t nm = some f) (v:Value) (w:World):(method (P.types.size + Made.depth) t v nm).run P w = .ok (f,v) w:=by
 obtain ⟨i,m,pr,d,h1,h2,h3,h4,h5,h6⟩:=methP_row h
 obtain ⟨n,hn⟩:=fuel_succ P
 rw [hn]
 simp only [method,Sem.run_bind,typeInfo,run_program,Result.andThen_ok,h1,Sem.run_pure,h2,h3,follow,h4,receiverAt,run_underlying h5]
 rcases h6 with ⟨e,rfl,rfl⟩ | ⟨h6,rfl⟩
 ·simp only [Place.get,Sem.run_pure,Result.andThen_ok]
 ·cases d <;> first | exact absurd rfl (h6 _) | simp only [Place.get,Sem.run_pure,Result.andThen_ok]
theorem methP_nil {t:TypeId} {nm:String} {f:FuncId} (h:methP P t nm = some f) (v:Value) (w:World):(nilAhead (P.types.size + Made.depth) t v nm).run P w = .ok (some false) w:=by
 obtain ⟨i,m,pr,d,h1,h2,h3,h4,h5,h6⟩:=methP_row h
 obtain ⟨n,hn⟩:=fuel_succ P
 rw [hn]
 simp only [nilAhead,Sem.run_bind,typeInfo,run_program,Result.andThen_ok,h1,Sem.run_pure,h2,h3,followBlind,h4]
 rcases h6 with ⟨e,rfl,rfl⟩ | ⟨h6,rfl⟩
 ·rfl
 ·simp only [Sem.run_bind,run_underlying h5,Result.andThen_ok]
  cases d <;> first | exact absurd rfl (h6 _) | rfl
theorem op_mkmv {nm:String} {fi ca:Array Operand} {y':X} (hs:St F L w) (he:EnvOk L ρ a) (hd:∀ k,o.dst = some k → k < a.tmps.size)
  (ho:o.op = .makeFunc (.method nm) fi ca) (h1:lowXs fi.toList = some [y']) (h2:ca.toList = []) (hK:evalOp P (.mkmv nm y') o.dst F L ρ K):o.wp P a w (Next1 F L w a K) Q:=by
 have e1:fi.map a.eval = (evals L ρ [y']).toArray:=by apply Array.ext'; simpa using lowXs_eval h1 he
 have e2:ca = #[]:=by apply Array.ext'; exact h2
 simp only [evalOp,outV] at hK
 split at hK
 case h_2 => exact hK.elim
 rename_i v hv
 refine wp_val hs he hd (v:=.func (.method nm) #[v] #[]) (x:=.v (.func (.method nm) #[v] #[])) ?_ rfl noOwn noEl hK
 simp only [evals,val_v hv] at e1
 simp [execOp,ho,Instr.makeFunc,e1,e2]
theorem op_mkme {t:TypeId} {nm:String} {fi ca:Array Operand} (hs:St F L w) (he:EnvOk L ρ a) (hd:∀ k,o.dst = some k → k < a.tmps.size)
  (ho:o.op = .makeFunc (.methodOf t nm) fi ca) (h1:fi.toList = []) (h2:ca.toList = []) (hK:evalOp P (.mov (.c (.func (.methodOf t nm) #[] #[]))) o.dst F L ρ K):o.wp P a w (Next1 F L w a K) Q:=by
 have e1:fi = #[]:=by apply Array.ext'; exact h1
 have e2:ca = #[]:=by apply Array.ext'; exact h2
 refine wp_val hs he hd (v:=.func (.methodOf t nm) #[] #[]) (x:=.v (.func (.methodOf t nm) #[] #[])) ?_ rfl noOwn noEl hK
 simp [execOp,ho,Instr.makeFunc,e1,e2]
theorem op_gload {t:TypeId} {g k:Nat} {d:TypeDesc} {i:TypeInfo} (hs:St F L w) (he:EnvOk L ρ a) (hd:∀ k,o.dst = some k → k < a.tmps.size)
  (ho:o.op = .load t (.global g)) (ht:P.underlying t = some d) (hi:P.info? t = some i) (hna:isAggD d = false) (hg:globOpq g = some k) (hK:evalOp P (.gload g) o.dst F L ρ K):o.wp P a w (Next1 F L w a K) Q:=by
 simp only [evalOp,outV] at hK
 obtain ⟨v,ty,fr,hF,hK⟩:=hK
 have hh:=hs.frz _ _ hF
 refine wp_val hs he hd (v:=v) (x:=.v v) ?_ rfl noOwn noEl hK
 have hy:a.eval (.global g) = .pointer (some ⟨g,0,none⟩):=rfl
 have hcell:∀ (j:Nat) (u:Value),[v][j]? = some u → w.cell? ((⟨g,0,none⟩:Addr).add j) = some u:=by
  intro j u hu
  cases j with
  | zero =>
   simp only [List.getElem?_cons_zero,Option.some.injEq] at hu
   subst hu
   rw [add_none]
   simp [World.cell?,hh]
  | succ j => simp at hu
 have hr:=run_loadAt ht hi hcell (n:=1) rfl (by rw [hna])
 rw [hna] at hr
 simp only [execOp,ho,hy,Sem.run_bind,hr,Result.andThen_ok,Sem.run_pure,asVal]
theorem op_look {t key e:TypeId} {y z:Operand} {y' z':X} {j:TypeInfo} (hs:St F L w) (he:EnvOk L ρ a) (hd:∀ k,o.dst = some k → k < a.tmps.size)
  (ho:o.op = .lookup t y z true) (ht:P.underlying t = some (.map key e)) (hk:P.underlying key = some (.int .i64)) (hi:P.info? e = some j) (hz:j.zero = some (.int .i64 0)) (hy:lowX y = some y') (hz':lowX z = some z') (hK:evalOp P (.look y' z') o.dst F L ρ K):o.wp P a w (Next1 F L w a K) Q:=by
 have ey:=lowX_eval hy he
 have ez:=lowX_eval hz' he
 simp only [evalOp] at hK
 split at hK
 case h_2 => exact hK.elim
 rename_i mv n hm hn
 obtain ⟨k,r,b,h1,h2,hK⟩:=hK
 obtain ⟨m,es,cl,rfl,h3,h4,o',h5,h6⟩:=opq_look h1 h2
 have hh:=hs.frz _ _ h3
 refine wp_val hs he hd (v:=.tuple #[.int .i64 r,.bool b]) (x:=.v (.tuple #[.int .i64 r,.bool b])) ?_ rfl noOwn noEl hK
 have hgo:(getObj m).run P w = .ok (.map es cl) w:=by simp [getObj,Sem.run,hh]
 have hck:(Instr.checkKey es.isEmpty 10000 key (.int .i64 n)).run P w = .ok () w:=by
  rw [show (10000:Nat) = 9999 + 1 from rfl,Instr.checkKey]
  simp only [Sem.run_bind,run_underlying hk,Result.andThen_ok,Sem.run_pure]
 have hfk:(Instr.findKey key (.int .i64 n) es.toList).run P w = .ok o' w:=by
  simp only [Instr.findKey,Sem.run_bind,run_underlying hk,Result.andThen_ok,h5,Sem.run_pure]
 simp only [execOp,ho,ey,ez,val_v hm,val_v hn,Instr.lookup,Sem.run_bind,run_underlying ht,Result.andThen_ok,hgo,Sem.run_pure,hck,hfk]
 rcases h6 with ⟨rfl,i,rfl⟩ | ⟨rfl,rfl,rfl⟩
 ·simp only [Sem.run_bind,Sem.run_pure,Result.andThen_ok,if_true]
 ·simp only [Sem.run_bind,zeroValue,typeInfo,run_program,Result.andThen_ok,hi,hz,Sem.run_pure,if_true]
theorem op_nilck {y:Operand} {y':X} (hs:St F L w) (he:EnvOk L ρ a) (hd:∀ k,o.dst = some k → k < a.tmps.size)
  (ho:o.op = .nilCheck y) (hy:lowX y = some y') (htab:tabOk P = true) (hK:evalOp P (.nilck y') o.dst F L ρ K):o.wp P a w (Next1 F L w a K) Q:=by
 have ey:=lowX_eval hy he
 simp only [evalOp,outV] at hK
 split at hK
 ·rename_i k off hy1
  obtain ⟨g,ty,cs,hg⟩:=lowX_own hy he hy1
  refine wp_val hs he hd (v:=.pointer (some ⟨g,off,none⟩)) (x:=.own k off) ?_ (by simp only [conc,hg]) (fun k' off' e => by injection e with e1 e2; subst e1; exact ⟨g,ty,cs,hg⟩) (fun _ _ e => by cases e) hK
  simp [execOp,ho,ey,val,hy1,conc,hg]
 ·rename_i ad j hy1
  obtain ⟨hne,hK⟩:=hK
  cases ad with
  | none => exact absurd rfl hne
  | some ad =>
   refine wp_val hs he hd (v:=.pointer (some (ad.add j))) (x:=.el (some ad) j) ?_ rfl (fun _ _ e => by cases e) (fun ad' j' e => by injection e with e1 e2; subst e1; simp) hK
   simp [execOp,ho,ey,val,hy1,conc]
 ·rename_i ad hy1
  refine wp_val hs he hd (v:=.pointer (some ad)) (x:=.v (.pointer (some ad))) ?_ rfl noOwn noEl hK
  simp [execOp,ho,ey,val_v hy1]
 ·rename_i f fi ca hy1
  refine wp_val hs he hd (v:=.func (.func f) fi ca) (x:=.v (.func (.func f) fi ca)) ?_ rfl noOwn noEl hK
  simp [execOp,ho,ey,val_v hy1]
 ·rename_i nm fi ca hy1
  split at hK
  case h_2 => exact hK.elim
  rename_i t u hfi
  obtain ⟨hm,hK⟩:=hK
  have h1:=List.all_eq_true.1 htab _ (mOk_tab hm)
  obtain ⟨f,hf⟩:=Option.isSome_iff_exists.1 h1
  have hfi0:fi[0]? = some (.iface t u):=by rw [← Array.getElem?_toList,hfi]; rfl
  refine wp_val hs he hd (v:=.func (.method nm) fi ca) (x:=.v (.func (.method nm) fi ca)) ?_ rfl noOwn noEl hK
  have hn:=methP_nil (P:=P) hf u w
  simp only [execOp,ho,ey,val_v hy1,hfi0,Sem.run_bind,run_program,Result.andThen_ok,Sem.run_pure,hn]
  rfl
 ·exact hK.elim
theorem ones?_eq:∀ {l:List Value},ones? l = true → ∀ u ∈ l,u.oneCell' = true
 | [],_,u,hu => by cases hu
 | v :: l,h,u,hu => by
  simp only [ones?] at h
  split at h
  ·rename_i h1
   rcases List.mem_cons.1 hu with rfl | hu
   ·exact h1
   ·exact ones?_eq h u hu
  ·cases h
theorem run_storeAt {t:TypeId} {i:TypeInfo} (hi:P.info? t = some i) {g off:Nat} {v:Value} {cur:Array Value} {ty:TypeId} (hg:w.heap[g]? = some (.cells cur ty (0,0)))
  (hlen:v.cells.size = i.size) (hfit:off + v.cells.size ≤ cur.size) (h1:∀ u ∈ v.cells.toList,u.oneCell' = true) :
  (Instr.storeAt t (.pointer (some ⟨g,off,none⟩)) v).run P w = .ok () (w.setRow g (splice cur.toList off v.cells.toList).toArray):=by
 have hst:=run_storeCells_at P g off ty v.cells.toList 0 cur w hg (by simpa using hfit) h1
 simp only [Nat.add_zero] at hst
 simp only [Instr.storeAt,Instr.sureAddr,storeVar,Sem.run_bind,Sem.run_pure,Result.andThen_ok,sizeOf,typeInfo,run_program,hi]
 rw [if_neg (by omega)]
 rw [hst]
 rfl
theorem setRow_grown (w:World) (g:Nat) (cs:Array Value):w.grownBy (w.setRow g cs) (some g) :=
 ⟨rfl,rfl,rfl,by simp [World.setRow],fun k _ hk => setRow_other w g k cs (fun e => hk (by rw [e]))⟩
theorem op_store {t:TypeId} {y z:Operand} {y' z':X} {i:TypeInfo} (hs:St F L w) (he:EnvOk L ρ a) (hd:∀ k,o.dst = some k → k < a.tmps.size)
  (ho:o.op = .store t y z) (hi:P.info? t = some i) (hne0:i.size ≠ 0) (hy:lowX y = some y') (hz:lowX z = some z')
  (hK:evalOp P (.store i.size y' z') o.dst F L ρ K):o.wp P a w (Next1 F L w a K) Q:=by
 have ey:=lowX_eval hy he
 have ez:=lowX_eval hz he
 have hcs:vcells (val L ρ z') = (a.eval z).cells.toList:=by rw [ez,vcells_eq]
 have turn:∀ (k:Nat) (g:Nat) (oo o':Own) (cur:Array Value) (ty:TypeId) (off:Nat),L.get k = some oo → oo.blk = some g → o'.blk = some g → w.heap[g]? = some (.cells cur ty (0,0)) →
   (a.eval z).cells.size = i.size → off + (a.eval z).cells.size ≤ cur.size → (∀ u ∈ (a.eval z).cells.toList,u.oneCell' = true) → a.eval y = .pointer (some ⟨g,off,none⟩) →
   o'.ok (w.setRow g (splice cur.toList off (a.eval z).cells.toList).toArray) → (∀ g' ty' cs',oo = .box g' ty' cs' → ∃ cs'',o' = .box g' ty' cs'') →
   K F (L.set k o') (put o.dst (.v undef) ρ) → o.wp P a w (Next1 F L w a K) Q:=by
  intro k g oo o' cur ty off hk hb hb' hg hlen hfit h1 hya hok hbox hK
  have hgrow:=setRow_grown w g (splice cur.toList off (a.eval z).cells.toList).toArray
  have hst:St F (L.set k o') (w.setRow g (splice cur.toList off (a.eval z).cells.toList).toArray) :=
   hs.turn hk hok (fun b hb1 hne => hgrow.block b hb1 (fun e => hne (by rw [hb,e]))) (fun g' hg' => .inl (by rw [hb]; rw [hb'] at hg'; exact hg'))
  refine wp_skip' he hd (w':=w.setRow g (splice cur.toList off (a.eval z).cells.toList).toArray) ?_ hst ?_ ?_ hK
  ·simp [execOp,ho,hya,run_storeAt hi hg hlen hfit h1]
  ·refine ⟨Frz.le_refl F,rfl,rfl,rfl,hgrow.size,fun b hb1 hn => hgrow.block b hb1 (fun e => hn ⟨k,oo,hk,by rw [hb,e]⟩),fun b h => .inl h,fun b h => ?_⟩
   rcases Loc.owns_set h with h | h
   ·rw [hb'] at h; exact .inl ⟨k,oo,hk,by rw [hb]; exact h⟩
   ·exact .inl h
  ·intro j g' ty' cs' e
   rw [Loc.get_set]
   split
   ·rename_i hj
    subst hj
    rw [hk] at e
    injection e with e
    obtain ⟨cs'',h⟩:=hbox g' ty' cs' e
    exact ⟨cs'',by rw [h]⟩
   ·exact ⟨cs',e⟩
 have rowcase:∀ (ad:Option Addr) (j:Nat),ad ≠ none → a.eval y = conc L (.el ad j) → len? (vcells (val L ρ z')) i.size = true → ones? (vcells (val L ρ z')) = true →
   (StorePt L ad j (vcells (val L ρ z')) fun L' => K F L' (put o.dst (.v undef) ρ)) → o.wp P a w (Next1 F L w a K) Q:=by
  rintro ad j hne hya hl h1 ⟨k,v,ty,sz,m,xs,ad',c,hk,rfl,rfl,hfit,h1',hK⟩
  have hl:=len?_eq hl
  rw [hcs] at hl h1' hfit hK
  have hlz:(a.eval z).cells.size = i.size:=by simpa using hl
  have hrow:=hs.own k _ hk
  simp only [Own.ok] at hrow
  obtain ⟨hx,hrow⟩:=hrow
  rcases hrow with ⟨e,_⟩ | ⟨g,cap,cur,e,hb0,hg,hnc,hcm,hcsz,htake⟩
  ·cases e
  ·injection e with e1 e2 e3
   injection e1 with e1
   subst e1 e3
   have hle:m * sz ≤ cur.size:=by rw [hcsz]; exact Nat.mul_le_mul_right _ hnc
   rw [← htake] at hfit
   have hfit2:j + (a.eval z).cells.size ≤ m * sz:=by simp at hfit; omega
   refine turn k g _ (.row (.slice (some ⟨g,0,none⟩) m c) ty sz m (splice xs j (a.eval z).cells.toList)) cur ty j hk rfl rfl hg hlz (by omega) h1' (by rw [hya]; simp only [conc]; rw [add_none]; simp) ?_ (fun g' ty' cs' e => by cases e) hK
   refine ⟨?_,.inr ⟨g,c,_,rfl,hb0,setRow_heap w g cur _ ty _ hg,hnc,hcm,?_,?_⟩⟩
   ·rw [splice_length _ _ _ (by rw [hx]; simpa using hfit2)]; exact hx
   ·have:(splice cur.toList j (a.eval z).cells.toList).length = cur.size:=by rw [splice_length _ _ _ (by simp; omega)]; simp
    simp [this,hcsz]
   ·rw [List.toList_toArray,← htake]
    apply List.ext_getElem?
    intro n
    have hfz:j + (a.eval z).cells.toList.length ≤ cur.toList.length:=by simp; omega
    rw [splice_get (by simp; omega)]
    by_cases hn:n < m * sz
    ·rw [List.getElem?_take_of_lt hn,splice_get hfz,List.getElem?_take_of_lt hn]
    ·rw [List.getElem?_eq_none (by simp; omega)]
     have h1:¬ n < j:=by omega
     have h2:¬ n < j + (a.eval z).cells.toList.length:=by simp; omega
     rw [if_neg h1,if_neg h2,List.getElem?_eq_none (by simp; omega)]
 simp only [evalOp,outV] at hK
 split at hK
 ·rename_i hl h1 hy1
  rename_i k off
  have hl:=len?_eq hl
  have h1:=ones?_eq h1
  rw [hcs] at hl h1
  split at hK
  case h_2 => exact hK.elim
  rename_i g ty cs hk
  split at hK
  case h_2 => exact hK.elim
  rename_i hfit
  have ht0:=memB_ne hfit
  have hfit:=len?_eq (memB_eq hfit)
  have hbox:w.heap[g]? = some (.cells cs.toArray ty (0,0)):=by rw [← boxObj_ne ht0]; exact hs.own k _ hk
  have hfit':off + i.size ≤ cs.length:=by simp at hfit; omega
  rw [hcs] at hK
  have hlz:(a.eval z).cells.size = i.size:=by simpa using hl
  refine turn k g _ (.box g ty (splice cs off (a.eval z).cells.toList)) cs.toArray ty off hk rfl rfl hbox hlz (by simp; omega) h1 (by rw [ey]; simp only [val,hy1,conc,hk]) ?_ (fun g' ty' cs' e => by injection e with e1 e2 e3; subst e1 e2; exact ⟨_,rfl⟩) hK
  show _ = _
  rw [boxObj_ne ht0]
  exact setRow_heap w g cs.toArray _ ty _ hbox
 ·rename_i hl h1 hy1
  exact rowcase _ _ (lowX_el hy he hy1) (by rw [ey]; simp only [val,hy1]) hl h1 hK
 ·rename_i hl h1 hy1
  rename_i ad
  refine rowcase (some ad) 0 (by simp) (by rw [ey]; simp only [val,hy1,conc]; simp [Addr.add]) hl h1 hK
 ·exact hK.elim
end
def zrs (k:IntKind) (n:Nat):List Value:=List.replicate n (.int k 0)
theorem zrs_length {k:IntKind} {n:Nat}:(zrs k n).length = n:=by simp [zrs]
theorem zrs_one {k:IntKind} {n:Nat}:∀ u ∈ zrs k n,u.oneCell' = true:=by
 intro u hu
 obtain rfl:=List.eq_of_mem_replicate hu
 rfl
theorem zeroCells_eq {k:IntKind} {n:Nat}:Builtin.zeroCells (Value.int k 0).cells n = (zrs k n).toArray:=by
 apply Array.ext'
 have h:(Value.int k 0).cells = #[.int k 0]:=rfl
 rw [h]
 simp only [Builtin.zeroCells,zrs,List.size_toArray,List.length_cons,List.length_nil,Nat.zero_add,Nat.mul_one,Nat.mod_one]
 apply List.ext_getElem
 ·simp
 ·intro i h1 h2
  simp
section
variable {P:Program} (w:World)
theorem run_append_room_zeros (t tn ty e:TypeId) (i:TypeInfo) (k kz kn:IntKind) (ht:P.underlying t = some (.slice e)) (htn:P.underlying tn = some (.int kn)) (hi:P.info? e = some i) (hz:i.zero = some (.int kz 0)) (hs1:i.size = 1)
  (g sLen sCap:Nat) (cur:Array Value) (hg:w.heap[g]? = some (.cells cur e (0,0))) (n:Nat) (h63:(n:Int) ≤ 9223372036854775807) (h48:n * i.bytes ≤ 281474976710656)
  (hroom:sLen + n ≤ sCap) (hfit:sLen + n ≤ cur.size) :
  (Builtin.append_ #[t,tn] ty #[.slice (some ⟨g,0,none⟩) sLen sCap,.int k n]).run P w =
   .ok (.slice (some ⟨g,0,none⟩) (sLen + n) sCap) (w.setRow g (cur.toList.take sLen ++ zrs kz n ++ cur.toList.drop (sLen + n)).toArray):=by
 have hw:IntKind.i64.wrap (n:Int) = n:=by rw [IntKind.wrap_i64]; omega
 have hneg:¬ ((n:Int) < 0):=by omega
 have h48i:¬ (281474976710656 < (n:Int) * (i.bytes:Int)):=by
  rw [← Int.natCast_mul]
  omega
 have hst:=run_storeCells_at P g sLen e (zrs kz n) 0 cur w hg (by simpa [zrs_length] using hfit) (zrs_one)
 simp only [Nat.add_zero,zrs_length] at hst
 by_cases hn:n = 0
 ·subst hn
  have h0:zrs kz 0 = []:=rfl
  have hw0:IntKind.i64.wrap 0 = 0:=by decide
  have hr0:sLen ≤ sCap:=by omega
  rw [h0] at hst ⊢
  simp [Builtin.append_,run_underlying ht,run_underlying htn,sizeOf,typeInfo,hi,hs1,asInt,asIntOf,hw0,hr0,Addr.add_lit]
  have h2:w.setRow g cur = w.setRow g (cur.toList.take sLen ++ [] ++ cur.toList.drop sLen).toArray:=by simp
  simp at hst
  rw [hst]
  rfl
 ·have hl:(zrs kz n) = (Builtin.zeroCells (Value.int kz 0).cells n).toList:=by rw [zeroCells_eq]
  rw [hl] at hst ⊢
  simp [Builtin.append_,run_underlying ht,run_underlying htn,sizeOf,typeInfo,hi,hs1,asInt,asIntOf,hw,hneg,h48i,hn,hroom,Addr.add_lit,zeroValue,hz,hst]
theorem run_append_grow_zeros (t tn ty e:TypeId) (i:TypeInfo) (k kz kn:IntKind) (ht:P.underlying t = some (.slice e)) (htn:P.underlying tn = some (.int kn)) (hi:P.info? e = some i) (hz:i.zero = some (.int kz 0)) (hs1:i.size = 1)
  (b:Addr) (sLen sCap:Nat) (olds:List Value) (hlo:olds.length = sLen * i.size) (holds:∀ j v,olds[j]? = some v → w.cell? (b.add j) = some v) (n:Nat) (hle:sLen ≤ sCap)
  (hg:sCap < sLen + n) (h63:((sLen + n:Nat):Int) ≤ 9223372036854775807) (h48:n * i.bytes ≤ 281474976710656) (hfit:Builtin.nextslicecap (sLen + n) sCap * i.bytes ≤ 281474976710656) :
  (Builtin.append_ #[t,tn] ty #[.slice (some b) sLen sCap,.int k n]).run P w =
   .ok (.slice (some ⟨w.heap.size,0,none⟩) (sLen + n) (grownCap w (sLen + n) sCap e))
    (w.drew.alloc (.cells (olds.toArray ++ (zrs kz n).toArray ++ Builtin.zeroCells (Value.int kz 0).cells (grownCap w (sLen + n) sCap e - (sLen + n))) e)):=by
 have hw:IntKind.i64.wrap (n:Int) = n:=by rw [IntKind.wrap_i64]; omega
 have hneg:¬ ((n:Int) < 0):=by omega
 have h48i:¬ (281474976710656 < (n:Int) * (i.bytes:Int)):=by
  rw [← Int.natCast_mul]
  omega
 have hn:¬ (sLen + n ≤ sCap):=by omega
 have hn0:n ≠ 0:=by omega
 have h63':¬ (9223372036854775807 < ((sLen:Int) + (n:Int))):=by omega
 have h48':¬ (281474976710656 < Builtin.nextslicecap (sLen + n) sCap * i.bytes):=by omega
 have hfo:=run_firstCells_some (P:=P) w.drew i.size sLen b sLen sCap olds hlo (by simpa using holds)
 have hl:(zrs kz n).toArray = (Builtin.zeroCells (Value.int kz 0).cells n):=by rw [zeroCells_eq]
 rw [hl]
 rw [hs1] at hfo
 simp [Builtin.append_,run_underlying ht,run_underlying htn,sizeOf,typeInfo,zeroValue,hi,hz,hs1,asInt,asIntOf,hw,hneg,h48i,hn0,hn,h63',h48',Question.forced,hfo,newRow,grownCap]
theorem run_append_own_zeros (base:Nat) (t tn ty e:TypeId) (i:TypeInfo) (k kz kn:IntKind) (ht:P.underlying t = some (.slice e)) (htn:P.underlying tn = some (.int kn)) (hi:P.info? e = some i) (hz:i.zero = some (.int kz 0)) (hs1:i.size = 1)
  (v:Value) (n:Nat) (xs:List Value) (hown:w.ownsRow base e 1 v n xs) (m:Nat)
  (h63:n + m ≤ maxLen) (hbytes:(n + m) * i.bytes ≤ 140737488355328) (hbase:base ≤ w.heap.size) :
  ∃ v' w',(Builtin.append_ #[t,tn] ty #[v,.int k m]).run P w = .ok v' w' ∧ w'.ownsRow base e 1 v' (n + m) (xs ++ zrs kz m) ∧ w.grownBy w' v.ownBlock ∧
   (v'.ownBlock = v.ownBlock ∨ v'.ownBlock = some w.heap.size):=by
 have hsmall:n + m ≤ 9223372036854775807:=by simp only [maxLen] at h63; omega
 have hxl:xs.length = n:=by simpa using hown.1
 have hmb:m * i.bytes ≤ 140737488355328:=Nat.le_trans (Nat.mul_le_mul_right _ (by omega)) hbytes
 have hlen:(xs ++ zrs kz m).length = (n + m) * 1:=by rw [List.length_append,hxl,zrs_length,Nat.mul_one]
 have grown:∀ (old:Nat),old < n + m → ∀ (row:Option Nat),
   (w.drew.alloc (.cells (xs.toArray ++ (zrs kz m).toArray ++ Builtin.zeroCells (Value.int kz 0).cells (grownCap w (n + m) old e - (n + m))) e)).ownsRow base e 1
    (.slice (some ⟨w.heap.size,0,none⟩) (n + m) (grownCap w (n + m) old e)) (n + m) (xs ++ zrs kz m) ∧
   w.grownBy (w.drew.alloc (.cells (xs.toArray ++ (zrs kz m).toArray ++ Builtin.zeroCells (Value.int kz 0).cells (grownCap w (n + m) old e - (n + m))) e)) row:=by
  intro old ho row
  have hge:=grownCap_ge w (n + m) old e
  have hcm:grownCap w (n + m) old e ≤ maxLen:=grownCap_le_maxLen w (n + m) old e h63
  refine ⟨⟨hlen,.inr ⟨w.heap.size,_,_,rfl,hbase,heap_alloc_new w.drew _,hge,hcm,?_,?_⟩⟩,⟨rfl,rfl,rfl,by simp,fun k hk _ => by first | exact heap_alloc_old w.drew _ k hk | exact heap_alloc_old w.drew _ hk⟩⟩
  ·have hz1:(Value.int kz 0).cells.size = 1:=rfl
   simp only [Array.size_append,List.size_toArray,size_zeroCells,hz1,hxl,zrs_length]
   omega
  ·simp only [Array.toList_append,List.append_assoc]
   rw [← List.append_assoc,← hlen]
   exact List.take_left
 rcases hown.2 with ⟨rfl,rfl⟩ | ⟨g,cap,cur,rfl,hbg,hg,hnc,hcm,hcs,htake⟩
 ·have hx:xs = []:=List.eq_nil_of_length_eq_zero hxl
  subst hx
  by_cases hm:m = 0
  ·subst hm
   refine ⟨.slice none 0 0,w,?_,World.ownsRow_nil w base e 1,⟨rfl,rfl,rfl,Nat.le_refl _,fun _ _ _ => rfl⟩,.inl rfl⟩
   have hw:IntKind.i64.wrap 0 = 0:=by decide
   simp [Builtin.append_,run_underlying ht,run_underlying htn,sizeOf,typeInfo,hi,hs1,asInt,asIntOf,hw]
  ·have hr:=Lib.run_append_nil_zeros (P:=P) w t tn ty e i (.int kz 0) k kn ht htn hi hz m (by omega) (by omega) (by omega) (by omega)
   have hgr:=grown 0 (by omega) (Value.ownBlock (.slice none 0 0))
   simp only [Nat.zero_add,List.nil_append,Array.empty_append] at hgr ⊢
   rw [zeroCells_eq (n:=m)] at hr
   exact ⟨_,_,hr,hgr.1,hgr.2,.inr rfl⟩
 ·by_cases hroom:n + m ≤ cap
  ·have hcs':cur.size = cap:=by simpa using hcs
   have hr:=run_append_room_zeros (P:=P) w t tn ty e i k kz kn ht htn hi hz hs1 g n cap cur hg m (by omega) (by omega) hroom (by omega)
   refine ⟨_,_,hr,⟨hlen,.inr ⟨g,cap,_,rfl,hbg,setRow_heap w g cur _ e _ hg,hroom,hcm,?_,?_⟩⟩,⟨rfl,rfl,rfl,by simp,fun k _ hk => setRow_other w g k _ (fun e => hk (by simp [Value.ownBlock,e]))⟩,.inl rfl⟩
   ·simp only [List.size_toArray,List.length_append,List.length_take,List.length_drop,Array.length_toList,zrs_length]
    omega
   ·have ht':cur.toList.take n = xs:=by simpa using htake
    rw [ht',← hlen]
    exact List.take_left
  ·have holds:∀ j u,xs[j]? = some u → w.cell? ((⟨g,0,none⟩:Addr).add j) = some u:=hown.cells (g:=g) rfl
   have hr:=run_append_grow_zeros (P:=P) w t tn ty e i k kz kn ht htn hi hz hs1 ⟨g,0,none⟩ n cap xs (by rw [hs1]; simpa using hxl) holds m hnc (by omega) (by omega) (by omega) (growslice_fits (by omega) hbytes)
   have hgr:=grown cap (by omega) (Value.ownBlock (.slice (some ⟨g,0,none⟩) n cap))
   exact ⟨_,_,hr,hgr.1,hgr.2,.inr rfl⟩
end
section
variable {P:Program} {F:Frz} {L:Loc} {ρ:Env} {a:Act} {w:World} {K:Kont} {o:Oper} {Q:Exit → Act → World → Prop}
theorem lowXo_val {yo:Option Operand} {xo:Option X} (h:lowXo yo = some xo) (he:EnvOk L ρ a) {d i:Int} (hi:optI ρ d xo = some i) :
  (yo = none ∧ i = d) ∨ ∃ y k,yo = some y ∧ a.eval y = .int k i:=by
 cases yo with
 | none => simp only [lowXo,Option.some.injEq] at h; subst h; simp only [optI,Option.some.injEq] at hi; exact .inl ⟨rfl,hi.symm⟩
 | some y =>
  simp only [lowXo] at h
  split at h
  case h_2 => cases h
  rename_i x hx
  injection h with h
  subst h
  simp only [optI] at hi
  split at hi
  case h_2 => cases hi
  rename_i k j hj
  injection hi with hi
  subst hi
  exact .inr ⟨y,k,rfl,by rw [lowX_eval hx he,val_v hj]⟩
theorem run_sliceBound {k:IntKind} {i:Int} {y:Nat} {code:BoundsCode} (h0:0 ≤ i) (h1:i ≤ y):(Instr.sliceBound (.int k i) y code).run P w = .ok i.toNat w:=by
 simp [Instr.sliceBound,asIntOf,h0,h1]
theorem run_sliceBounds {b:Bool} {n c:Nat} {lo hi:Option Operand} {xlo xhi:Option X} {l h:Int} (hl:lowXo lo = some xlo) (hh:lowXo hi = some xhi) (he:EnvOk L ρ a)
  (el:optI ρ 0 xlo = some l) (eh:optI ρ n xhi = some h) (h1:0 ≤ l) (h2:l ≤ h) (h3:h ≤ c) :
  (Instr.sliceBounds b n c (lo.map a.eval) (hi.map a.eval) none).run P w = .ok (l.toNat,h.toNat,c) w:=by
 unfold Instr.sliceBounds
 rcases lowXo_val hl he el with ⟨rfl,rfl⟩ | ⟨y,k,rfl,ey⟩ <;> rcases lowXo_val hh he eh with ⟨rfl,rfl⟩ | ⟨z,k',rfl,ez⟩
 ·simp
 ·simp [ez,run_sliceBound (P:=P) (w:=w) (show 0 ≤ h by omega) h3]
 ·simp [ey,run_sliceBound (P:=P) (w:=w) h1 h2]
 ·have h4:l ≤ (h.toNat:Nat):=by omega
  simp [ey,ez,run_sliceBound (P:=P) (w:=w) (show 0 ≤ h by omega) h3,run_sliceBound (P:=P) (w:=w) h1 h4]
theorem op_slc {t e:TypeId} {y:Operand} {lo up:Option Operand} {y':X} {xlo xhi:Option X} {i:TypeInfo} (hs:St F L w) (he:EnvOk L ρ a) (hd:∀ k,o.dst = some k → k < a.tmps.size)
  (ho:o.op = .slice t y lo up none) (ht:P.underlying t = some (.slice e)) (hi:P.info? e = some i) (hy:lowX y = some y') (hl:lowXo lo = some xlo) (hh:lowXo up = some xhi)
  (hK:evalOp P (.slc i.size y' xlo xhi) o.dst F L ρ K):o.wp P a w (Next1 F L w a K) Q:=by
 have ey:=lowX_eval hy he
 simp only [evalOp,outV] at hK
 split at hK
 case h_2 => exact hK.elim
 rename_i ad n c hy1
 split at hK
 case h_2 => exact hK.elim
 rename_i l h el eh
 obtain ⟨h1,h2,h3,hK⟩:=hK
 refine wp_val hs he hd (v:=slcVal ad c l.toNat h.toNat i.size) (x:=.v (slcVal ad c l.toNat h.toNat i.size)) ?_ rfl noOwn noEl hK
 have hb:=run_sliceBounds (P:=P) (w:=w) (b:=true) hl hh he el eh h1 h2 h3
 simp [execOp,ho,ey,val_v hy1,Instr.sliceAt,Instr.slice,run_underlying ht,hb,sizeOf,typeInfo,hi,slcVal]
theorem op_slcS {t:TypeId} {y:Operand} {lo up:Option Operand} {y':X} {xlo xhi:Option X} (hs:St F L w) (he:EnvOk L ρ a) (hd:∀ k,o.dst = some k → k < a.tmps.size)
  (ho:o.op = .slice t y lo up none) (ht:P.underlying t = some .string) (hy:lowX y = some y') (hl:lowXo lo = some xlo) (hh:lowXo up = some xhi)
  (hK:evalOp P (.slcS y' xlo xhi) o.dst F L ρ K):o.wp P a w (Next1 F L w a K) Q:=by
 have ey:=lowX_eval hy he
 simp only [evalOp,outV] at hK
 split at hK
 case h_2 => exact hK.elim
 rename_i s hy1
 split at hK
 case h_2 => exact hK.elim
 rename_i l h el eh
 obtain ⟨h1,h2,h3,hK⟩:=hK
 refine wp_val hs he hd (v:=.string (s.extract l.toNat h.toNat)) (x:=.v (.string (s.extract l.toNat h.toNat))) ?_ rfl noOwn noEl hK
 have hb:=run_sliceBounds (P:=P) (w:=w) (b:=false) hl hh he el eh h1 h2 h3
 simp [execOp,ho,ey,val_v hy1,Instr.sliceAt,Instr.slice,run_underlying ht,hb]
theorem madeCells_flat (z:Array Value) (n:Nat) (hz:0 < z.size):(madeCells z (n * z.size)).toList = (List.replicate n z.toList).flatten:=by
 induction n with
 | zero => simp [madeCells]
 | succ n ih =>
  rw [List.replicate_succ',List.flatten_append,← ih]
  apply List.ext_getElem?
  intro j
  have hl:(madeCells z (n * z.size)).toList.length = n * z.size:=by simp [madeCells]
  have hm:∀ m j,j < m → (madeCells z m).toList[j]? = some (z[j % z.size]!):=by
   intro m j hj
   simp [madeCells,hj]
  have hsm:(n + 1) * z.size = n * z.size + z.size:=Nat.succ_mul _ _
  by_cases h1:j < n * z.size
  ·rw [List.getElem?_append_left (by omega),hm _ _ (by omega),hm _ _ h1]
  ·rw [List.getElem?_append_right (by omega),hl]
   by_cases h2:j < (n + 1) * z.size
   ·rw [hm _ _ h2]
    have h3:j - n * z.size < z.size:=by omega
    have h4:j % z.size = j - n * z.size:=by
     have:j = (j - n * z.size) + z.size * n:=by rw [Nat.mul_comm z.size n]; omega
     rw [this,Nat.add_mul_mod_self_left,Nat.mod_eq_of_lt h3,Nat.mul_comm z.size n]; omega
    simp [h3,h4]
   ·rw [List.getElem?_eq_none (by simp [madeCells]; omega),List.getElem?_eq_none (by simp; omega)]
theorem op_makeS {t e:TypeId} {y z:Operand} {y' z':X} {i:TypeInfo} {zv:Value} (hs:St F L w) (he:EnvOk L ρ a) (hd:∀ k,o.dst = some k → k < a.tmps.size)
  (ho:o.op = .makeSlice t y z) (ht:P.underlying t = some (.slice e)) (hi:P.info? e = some i) (hz0:i.zero = some zv) (hzs:zv.cells.size = i.size) (hpos:0 < i.size) (hy:lowX y = some y') (hz:lowX z = some z')
  (hK:evalOp P (.makeS e i.size i.bytes zv.cells.toList y' z') o.dst F L ρ K):o.wp P a w (Next1 F L w a K) Q:=by
 have ey:=lowX_eval hy he
 have ez:=lowX_eval hz he
 simp only [evalOp,outV] at hK
 split at hK
 case h_2 => exact hK.elim
 rename_i k1 n k2 m k hy1 hz1 hdst
 split at hK
 case h_2 => exact hK.elim
 rename_i _ hk
 obtain ⟨h0,hnm,hb,hmx,hK⟩:=hK
 have hK:=hK w.heap.size
 obtain ⟨r,rfl⟩:=Int.eq_ofNat_of_zero_le h0
 obtain ⟨q,rfl⟩:=Int.eq_ofNat_of_zero_le (Int.le_trans h0 hnm)
 simp only [Int.toNat_natCast] at hb hmx hK
 have hrq:r ≤ q:=by omega
 have hbytes:(i.bytes:Int) * (q:Int) ≤ 281474976710656:=by
  have h:((i.bytes * q:Nat):Int) ≤ 281474976710656:=by rw [Nat.mul_comm]; omega
  rwa [Int.natCast_mul] at h
 have h63:(q:Int) ≤ 9223372036854775807:=by
  have h:=hmx
  simp [maxLen] at h
  omega
 have hr:=run_make (P:=P) w t e i zv ht hi hz0 k1 k2 r q (by omega) hnm hbytes h63
 simp only [Int.toNat_natCast] at hr
 have hflat:=madeCells_flat zv.cells q (by omega)
 rw [hzs] at hflat
 have hlen:∀ m:Nat,(List.replicate m zv.cells.toList).flatten.length = m * i.size:=by
  intro m
  simp [hzs]
 have htk:(List.replicate r zv.cells.toList).flatten = (List.replicate q zv.cells.toList).flatten.take (r * i.size):=by
  have e1:q = r + (q - r):=by omega
  conv => rhs; rw [e1]
  rw [← List.replicate_append_replicate,List.flatten_append,List.take_append_of_le_length (by rw [hlen]; exact Nat.le_refl _),List.take_of_length_le (by rw [hlen]; exact Nat.le_refl _)]
 have hrow:(w.alloc (.cells (madeCells zv.cells (q * i.size)) e)).ownsRow 0 e i.size (.slice (some ⟨w.heap.size,0,none⟩) r q) r (List.replicate r zv.cells.toList).flatten:=by
  refine ⟨hlen r,.inr ⟨w.heap.size,q,madeCells zv.cells (q * i.size),rfl,Nat.zero_le _,heap_new w _,hrq,hmx,size_madeCells _ _,?_⟩⟩
  rw [htk,← hflat]
 obtain ⟨h1,h2,h3⟩:=alloc_own hs hk (cs:=madeCells zv.cells (q * i.size)) (t:=e) (e:=.row (.slice (some ⟨w.heap.size,0,none⟩) r q) e i.size r (List.replicate r zv.cells.toList).flatten) rfl hrow
 refine wp_val' he hd (v:=.slice (some ⟨w.heap.size,0,none⟩) r q) (x:=.v (.slice (some ⟨w.heap.size,0,none⟩) r q)) ?_ h1 h2 rfl noOwn noEl h3 hK
 simp only [execOp,ho,ey,ez,val_v hy1,val_v hz1,Sem.run_bind,hr,Result.andThen_ok,Sem.run_pure]
theorem grow_own (hs:St F L w) {k:Nat} {e:TypeId} {sz n n':Nat} {s v:Value} {xs xs':List Value} {w':World}
  (hold:L.get k = some (.row s e sz n xs) ∨ (L.get k = none ∧ s = .slice none 0 0)) (hrow:w'.ownsRow 0 e sz v n' xs') (hg:w.grownBy w' s.ownBlock)
  (hat:v.ownBlock = s.ownBlock ∨ v.ownBlock = some w.heap.size) :
  St F (L.set k (.row v e sz n' xs')) w' ∧ Step F L w F (L.set k (.row v e sz n' xs')) w' ∧ (∀ j g ty cs,L.get j = some (.box g ty cs) → ∃ cs',(L.set k (.row v e sz n' xs')).get j = some (.box g ty cs')):=by
 have hbox:∀ j g ty cs,L.get j = some (.box g ty cs) → ∃ cs',(L.set k (.row v e sz n' xs')).get j = some (.box g ty cs'):=by
  intro j g ty cs ej
  rw [Loc.get_set]
  split
  ·rename_i hj
   subst hj
   rcases hold with h | ⟨h,_⟩ <;> rw [h] at ej <;> cases ej
  ·exact ⟨cs,ej⟩
 rcases hold with hk | ⟨hk,rfl⟩
 ·refine ⟨hs.turn hk hrow (fun b hb hne => hg.block b hb (fun e => hne (by simpa [Own.blk] using e.symm))) (fun g hg' => ?_),⟨Frz.le_refl F,hg.os,hg.tape,hg.output,hg.size,fun b hb hn => hg.block b hb (fun e => hn ⟨k,_,hk,e.symm⟩),fun b h => .inl h,fun b h => ?_⟩,hbox⟩
  ·rcases hat with h | h
   ·exact .inl (by simp only [Own.blk] at hg' ⊢; rw [← h]; exact hg')
   ·simp only [Own.blk] at hg'; rw [h] at hg'; injection hg' with hg'; exact .inr (by omega)
  ·rcases Loc.owns_set h with h | h
   ·simp only [Own.blk] at h
    rcases hat with h' | h'
    ·exact .inl ⟨k,_,hk,by simp only [Own.blk]; rw [← h']; exact h⟩
    ·rw [h'] at h; injection h with h; exact .inr (by omega)
   ·exact .inl h
 ·have hv:∀ g,v.ownBlock = some g → w.heap.size ≤ g:=by
   intro g h
   rcases hat with h' | h'
   ·rw [h'] at h; cases h
   ·rw [h'] at h; injection h with h; omega
  have hs':St F L w':=hs.keep fun b hb => hg.block b hb (by simp [Value.ownBlock])
  refine ⟨hs'.put hk hrow fun g hg' => ⟨?_,fun ho => ?_⟩,⟨Frz.le_refl F,hg.os,hg.tape,hg.output,hg.size,fun b hb hn => hg.block b hb (by simp [Value.ownBlock]),fun b h => .inl h,fun b h => ?_⟩,hbox⟩
  ·cases hF:F g with
   | none => rfl
   | some _ => have h1:=hs.frz_lt (b:=g) (by rw [hF]; simp); have h2:=hv g hg'; omega
  ·have h1:=hs.own_lt ho; have h2:=hv g hg'; omega
  ·rcases Loc.owns_set h with h | h
   ·exact .inr (hv b h)
   ·exact .inl h
theorem row_form {e:TypeId} {sz n:Nat} {v:Value} {xs:List Value} (h:w.ownsRow 0 e sz v n xs):∃ a c,v = .slice a n c ∧ (a = none → n = 0):=by
 rcases h.2 with ⟨rfl,rfl⟩ | ⟨g,cap,cur,rfl,_⟩
 ·exact ⟨none,0,rfl,fun _ => rfl⟩
 ·exact ⟨_,cap,rfl,fun e => (by cases e)⟩
theorem run_append_nothing {t ty e:TypeId} {i:TypeInfo} (ht:P.underlying t = some (.slice e)) (hi:P.info? e = some i) {s:Value} {n:Nat} {xs:List Value} (hrow:w.ownsRow 0 e i.size s n xs) (ad:Option Addr) (c:Nat) :
  ∃ w',(Builtin.append_ #[t,t] ty #[s,.slice ad 0 c]).run P w = .ok s w' ∧ w' = w:=by
 refine ⟨w,?_,rfl⟩
 have hf:(Builtin.firstCells i.size 0 (.slice ad 0 c)).run P w = .ok #[] w:=by
  cases ad <;> simp [Builtin.firstCells,loadCells,loadCellsFrom]
 rcases hrow.2 with ⟨rfl,rfl⟩ | ⟨g,cap,cur,rfl,_,_,hnc,_⟩
 ·simp [Builtin.append_,run_underlying ht,sizeOf,typeInfo,hi,Builtin.lenOf,hf]
 ·simp [Builtin.append_,run_underlying ht,sizeOf,typeInfo,hi,Builtin.lenOf,hf,hnc,storeCells]
theorem op_app {t e:TypeId} {y z:Operand} {y' z':X} {i:TypeInfo} {zv:Value} {c:Call} (hs:St F L w) (he:EnvOk L ρ a) (hd:∀ k,o.dst = some k → k < a.tmps.size)
  (ho:o.op = .call c) (hc:c.callee = .builtin .append) (ha:c.args = #[y,z]) (hts:c.argTypes = #[t,t]) (ht:P.underlying t = some (.slice e)) (hi:P.info? e = some i) (hz0:i.zero = some zv) (hzs:zv.cells.size = i.size) (hpos:0 < i.size)
  (hy:lowX y = some y') (hz:lowX z = some z') (hK:evalOp P (.app e i.size i.bytes zv.cells.toList y' z') o.dst F L ρ K):o.wp P a w (Next1 F L w a K) Q:=by
 have ey:=lowX_eval hy he
 have ez:=lowX_eval hz he
 simp only [evalOp,outV] at hK
 split at hK
 case h_2 => exact hK.elim
 rename_i s x hy1 hz1
 obtain ⟨kd,n,xs,m,news,hold3,⟨ad,cx,rfl,hlen,hsrc⟩,h1,h63,hby,hK⟩:=hK
 have hcell0:m ≠ 0 → ∃ ad',ad = some ad' ∧ ∀ j u,news[j]? = some u → w.cell? (ad'.add j) = some u:=by
  intro hm
  rcases hsrc with hc' | ⟨hm0,_⟩ | ⟨k,v,ty,sz',m',ys,ad',c',hk,rfl,rfl,hc'⟩
  ·obtain ⟨ad',e',hsp,hcc⟩:=hc'.cell hs
   refine ⟨ad',e',fun j u hu => ?_⟩
   have:=hcc j u hu
   rwa [Nat.zero_add] at this
  ·exact absurd hm0 hm
  ·refine ⟨ad',rfl,fun j u hu => ?_⟩
   have hr:=hs.own k _ hk
   simp only [Own.ok] at hr
   have h0:=World.ownsRow.cells hr (g:=ad'.block) rfl j u (hc' j u hu)
   rcases hr.2 with ⟨e',_⟩ | ⟨g,cap,cur,e',_⟩
   ·cases e'
   ·injection e' with e1 e2 e3
    injection e1 with e1
    subst e1
    exact h0
 have hold2:(L.get kd = some (.row s e i.size n xs) ∨ (L.get kd = none ∧ n = 0 ∧ xs = [] ∧ s = .slice none 0 0)) ∨ (L.get kd = none ∧ ∃ ad,s = .slice (some ad) n n ∧ 0 < m ∧ xs.length = n * i.size ∧ (FCells F (some ad) 0 xs ∨ (n = 0 ∧ xs = []))):=by
  rcases hold3 with h | h | h
  ·exact .inl (.inl h)
  ·exact .inl (.inr h)
  ·exact .inr h
 rcases hold2 with hold | ⟨hkn,ad0,rfl,hm0,hxl,hxc⟩
 case inr =>
  obtain ⟨ad',rfl,hcell⟩:=hcell0 (by omega)
  have hxs:∀ j u,xs[j]? = some u → w.cell? (ad0.add j) = some u:=by
   intro j u hu
   rcases hxc with hc' | ⟨_,rfl⟩
   ·obtain ⟨ad2,e',hsp,hcc⟩:=hc'.cell hs
    injection e' with e'
    subst e'
    have:=hcc j u hu
    rwa [Nat.zero_add] at this
   ·simp at hu
  obtain ⟨v,w',hr,hrow',hg⟩:=run_append_arg_grows (P:=P) w t o.type e i zv i.size i.bytes ht hi hz0 rfl rfl hzs hpos ad0 n n xs hxl hxs ad' m cx news hlen hcell (by omega) h63 hby
  have hrow0:w'.ownsRow 0 e i.size v (n + m) (xs ++ news):=by
   refine ⟨hrow'.1,?_⟩
   rcases hrow'.2 with h | ⟨g,cap,cur,e1,e2,e3⟩
   ·exact .inl h
   ·exact .inr ⟨g,cap,cur,e1,Nat.zero_le _,e3⟩
  have hat:v.ownBlock = none ∨ (∃ g,v.ownBlock = some g ∧ w.heap.size ≤ g):=by
   rcases hrow'.2 with ⟨h,_⟩ | ⟨g,cap,cur,e1,e2,e3⟩
   ·rw [h]; exact .inl rfl
   ·rw [e1]; exact .inr ⟨g,rfl,e2⟩
  have hv:∀ g,v.ownBlock = some g → w.heap.size ≤ g:=by
   intro g h
   rcases hat with h' | ⟨g',h',h2⟩
   ·rw [h'] at h; cases h
   ·rw [h'] at h; injection h with h; omega
  have hs':St F L w':=hs.keep fun b hb => hg.block b hb (by simp)
  have hst:St F (L.set kd (.row v e i.size (n + m) (xs ++ news))) w':=hs'.put hkn hrow0 fun g hg' => ⟨by
   cases hF:F g with
   | none => rfl
   | some _ => have h1:=hs.frz_lt (b:=g) (by rw [hF]; simp); have h2:=hv g hg'; omega,fun ho => by have h1:=hs.own_lt ho; have h2:=hv g hg'; omega⟩
  have hstep:Step F L w F (L.set kd (.row v e i.size (n + m) (xs ++ news))) w':=⟨Frz.le_refl F,hg.os,hg.tape,hg.output,hg.size,fun b hb hn => hg.block b hb (by simp),fun b h => .inl h,fun b h => by
   rcases Loc.owns_set h with h | h
   ·exact .inr (hv b h)
   ·exact .inl h⟩
  have hbox:∀ j g ty cs,L.get j = some (.box g ty cs) → ∃ cs',(L.set kd (.row v e i.size (n + m) (xs ++ news))).get j = some (.box g ty cs'):=by
   intro j g ty cs ej
   rw [Loc.get_set,if_neg (by rintro rfl; rw [hkn] at ej; cases ej)]
   exact ⟨cs,ej⟩
  refine wp_val' he hd (v:=v) (x:=.v v) ?_ hst hstep rfl noOwn noEl hbox (hK v (row_form hrow0))
  simp [execOp,ho,resolve,hc,ha,hts,invoke,builtin,ey,ez,val_v hy1,val_v hz1,hr]
 have hrow:w.ownsRow 0 e i.size s n xs:=by
  rcases hold with h | ⟨_,rfl,rfl,rfl⟩
  ·exact hs.own kd _ h
  ·exact World.ownsRow_nil w 0 e i.size
 have hold':L.get kd = some (.row s e i.size n xs) ∨ (L.get kd = none ∧ s = .slice none 0 0):=by
  rcases hold with h | ⟨h,_,_,h'⟩
  ·exact .inl h
  ·exact .inr ⟨h,h'⟩
 have fin:∀ (v:Value) (w':World),(Builtin.append_ #[t,t] o.type #[s,.slice ad m cx]).run P w = .ok v w' → w'.ownsRow 0 e i.size v (n + m) (xs ++ news) → w.grownBy w' s.ownBlock → (v.ownBlock = s.ownBlock ∨ v.ownBlock = some w.heap.size) → o.wp P a w (Next1 F L w a K) Q:=by
  intro v w' hr hrow' hg hat
  obtain ⟨g1,g2,g3⟩:=grow_own hs hold' hrow' hg hat
  refine wp_val' he hd (v:=v) (x:=.v v) ?_ g1 g2 rfl noOwn noEl g3 (hK v (row_form hrow'))
  simp [execOp,ho,resolve,hc,ha,hts,invoke,builtin,ey,ez,val_v hy1,val_v hz1,hr]
 by_cases hm:m = 0
 ·subst hm
  have hn:news = []:=List.eq_nil_of_length_eq_zero (by simpa using hlen)
  subst hn
  obtain ⟨w',hr,rfl⟩:=run_append_nothing (P:=P) (ty:=o.type) ht hi hrow ad cx
  exact fin s w' hr (by simpa using hrow) (World.grownBy.refl _ _) (.inl rfl)
 ·have hcell:∃ ad',ad = some ad' ∧ ∀ j u,news[j]? = some u → w.cell? (ad'.add j) = some u:=by
   rcases hsrc with hc' | ⟨hm0,_⟩ | ⟨k,v,ty,sz',m',ys,ad',c',hk,rfl,rfl,hc'⟩
   ·obtain ⟨ad',e',hsp,hcc⟩:=hc'.cell hs
    refine ⟨ad',e',fun j u hu => ?_⟩
    have:=hcc j u hu
    rwa [Nat.zero_add] at this
   ·exact absurd hm0 hm
   ·refine ⟨ad',rfl,fun j u hu => ?_⟩
    have hr:=hs.own k _ hk
    simp only [Own.ok] at hr
    have h0:=World.ownsRow.cells hr (g:=ad'.block) rfl j u (hc' j u hu)
    rcases hr.2 with ⟨e',_⟩ | ⟨g,cap,cur,e',_⟩
    ·cases e'
    ·injection e' with e1 e2 e3
     injection e1 with e1
     subst e1
     exact h0
  obtain ⟨ad',rfl,hcell⟩:=hcell
  obtain ⟨v,w',hr,h2,h3,_,h5⟩:=run_append_own_at (P:=P) w 0 t o.type e i zv i.size i.bytes ht hi hz0 rfl rfl hzs hpos s n xs hrow ad' m cx news hlen hcell h1 h63 hby (Nat.zero_le _)
  exact fin v w' hr h2 h3 h5
theorem op_appS {t t' e:TypeId} {y z:Operand} {y' z':X} {i:TypeInfo} {c:Call} (hs:St F L w) (he:EnvOk L ρ a) (hd:∀ k,o.dst = some k → k < a.tmps.size)
  (ho:o.op = .call c) (hc:c.callee = .builtin .append) (ha:c.args = #[y,z]) (hts:c.argTypes = #[t,t']) (ht:P.underlying t = some (.slice e)) (ht':P.underlying t' = some .string) (hi:P.info? e = some i) (hz0:i.zero = some (.int .u8 0)) (hsz:i.size = 1) (hbz:i.bytes = 1)
  (hy:lowX y = some y') (hz:lowX z = some z') (hK:evalOp P (.appS e y' z') o.dst F L ρ K):o.wp P a w (Next1 F L w a K) Q:=by
 have ey:=lowX_eval hy he
 have ez:=lowX_eval hz he
 simp only [evalOp,outV] at hK
 split at hK
 case h_2 => exact hK.elim
 rename_i s x hy1 hz1
 obtain ⟨kd,n,xs,hold,h63,hby,hK⟩:=hK
 have hrow:w.ownsRow 0 e 1 s n xs:=by
  rcases hold with h | ⟨_,rfl,rfl,rfl⟩
  ·exact hs.own kd _ h
  ·exact World.ownsRow_nil w 0 e 1
 have hold':L.get kd = some (.row s e 1 n xs) ∨ (L.get kd = none ∧ s = .slice none 0 0):=by
  rcases hold with h | ⟨h,_,_,h'⟩
  ·exact .inl h
  ·exact .inr ⟨h,h'⟩
 obtain ⟨v,w',hr,h2,h3,h4⟩:=Lib.run_append_own_string (P:=P) w 0 t t' o.type e i ht ht' hi hz0 hsz hbz s n xs hrow x h63 hby (Nat.zero_le _)
 have hat:v.ownBlock = s.ownBlock ∨ v.ownBlock = some w.heap.size:=by
  rcases hrow.2 with ⟨rfl,rfl⟩ | ⟨g,cap,cur,rfl,_,hg,hnc,hcm,hcs,htake⟩
  ·have hx0:xs = []:=List.eq_nil_of_length_eq_zero (by simpa using hrow.1)
   subst hx0
   by_cases hm:x.size = 0
   ·exact .inl (by rw [(h4.2 ⟨rfl,hm⟩)])
   ·have hm':=h63
    simp only [maxLen] at hm'
    have hr2:=run_append_nil_string (P:=P) w t t' o.type e i (.int .u8 0) ht ht' hi hz0 x (by omega) (by omega) (by rw [hbz]; omega)
    rw [hr2] at hr
    injection hr with hr _
    subst hr
    exact .inr rfl
  ·by_cases hroom:n + x.size ≤ cap
   ·have hcs':cur.size = cap:=by simpa using hcs
    have hr2:=Lib.run_append_room_string (P:=P) w t t' o.type e i ht ht' hi hsz g n cap cur hg x hroom (by omega)
    rw [hr2] at hr
    injection hr with hr _
    subst hr
    exact .inl rfl
   ·have holds:∀ j u,xs[j]? = some u → w.cell? ((⟨g,0,none⟩:Addr).add j) = some u:=hrow.cells (g:=g) rfl
    have hm':=h63
    simp only [maxLen] at hm'
    have hr2:=Lib.run_append_grow_string (P:=P) w t t' o.type e i (.int .u8 0) ht ht' hi hz0 ⟨g,0,none⟩ n cap xs (by rw [hsz]; simpa using hrow.1) holds x (by omega) (by omega) (by rw [hbz]; exact growslice_fits (by omega) (by omega))
    rw [hr2] at hr
    injection hr with hr _
    subst hr
    exact .inr rfl
 obtain ⟨g1,g2,g3⟩:=grow_own hs hold' h2 h3 hat
 refine wp_val' he hd (v:=v) (x:=.v v) ?_ g1 g2 rfl noOwn noEl g3 (hK v (row_form h2))
 simp [execOp,ho,resolve,hc,ha,hts,invoke,builtin,ey,ez,val_v hy1,val_v hz1,hr]
theorem op_appZ {t t' e:TypeId} {kn kz:IntKind} {y z:Operand} {y' z':X} {i:TypeInfo} {c:Call} (hs:St F L w) (he:EnvOk L ρ a) (hd:∀ k,o.dst = some k → k < a.tmps.size)
  (ho:o.op = .call c) (hc:c.callee = .builtin .append) (ha:c.args = #[y,z]) (hts:c.argTypes = #[t,t']) (ht:P.underlying t = some (.slice e)) (ht':P.underlying t' = some (.int kn)) (hi:P.info? e = some i) (hz0:i.zero = some (.int kz 0)) (hsz:i.size = 1)
  (hy:lowX y = some y') (hz:lowX z = some z') (hK:evalOp P (.appZ e i.bytes kz y' z') o.dst F L ρ K):o.wp P a w (Next1 F L w a K) Q:=by
 have ey:=lowX_eval hy he
 have ez:=lowX_eval hz he
 simp only [evalOp,outV] at hK
 split at hK
 case h_2 => exact hK.elim
 rename_i s kx x hy1 hz1
 split at hK
 case h_2 => exact hK.elim
 rename_i m
 obtain ⟨kd,n,xs,hold,h63,hby,hK⟩:=hK
 have hrow:w.ownsRow 0 e 1 s n xs:=by
  rcases hold with h | ⟨_,rfl,rfl,rfl⟩
  ·exact hs.own kd _ h
  ·exact World.ownsRow_nil w 0 e 1
 have hold':L.get kd = some (.row s e 1 n xs) ∨ (L.get kd = none ∧ s = .slice none 0 0):=by
  rcases hold with h | ⟨h,_,_,h'⟩
  ·exact .inl h
  ·exact .inr ⟨h,h'⟩
 obtain ⟨v,w',hr,h2,h3,hat⟩:=run_append_own_zeros (P:=P) w 0 t t' o.type e i kx kz kn ht ht' hi hz0 hsz s n xs hrow m h63 hby (Nat.zero_le _)
 obtain ⟨g1,g2,g3⟩:=grow_own hs hold' h2 h3 hat
 have hr':(Builtin.append_ #[t,t'] o.type #[s,.int kx (Int.ofNat m)]).run P w = .ok v w':=hr
 refine wp_val' he hd (v:=v) (x:=.v v) ?_ g1 g2 rfl noOwn noEl g3 (hK v (row_form h2))
 simp at hr'
 simp [execOp,ho,resolve,hc,ha,hts,invoke,builtin,ey,ez,val_v hy1,val_v hz1,hr']
end
section
variable {P:Program} {F:Frz} {L:Loc} {ρ:Env} {a:Act} {w:World} {K:Kont} {o:Oper} {Q:Exit → Act → World → Prop}
theorem inpFrom_get:∀ (l:List Own) (k j:Nat),Loc.get (inpFrom k l) j = if k ≤ j then l[j - k]? else none
 | [],k,j => by simp [inpFrom,Loc.get]
 | o :: l,k,j => by
  simp only [inpFrom,Loc.get]
  cases h:Nat.beq k j with
  | true => have:=Nat.eq_of_beq_eq_true h; subst this; simp
  | false =>
   have hne:=beq_f h
   simp only [inpFrom_get l (k + 1) j]
   by_cases h1:k ≤ j
   ·rw [if_pos (by omega),if_pos h1,show j - k = (j - (k + 1)) + 1 by omega,List.getElem?_cons_succ]
   ·rw [if_neg (by omega),if_neg h1]
theorem inp_get (l:List Own) (j:Nat):Loc.get (inp l) j = if 1000 ≤ j then l[j - 1000]? else none:=inpFrom_get l 1000 j
theorem sub_get:∀ {L:Loc} {ks:List Nat} {l:List Own},L.sub ks = some l → l.length = ks.length ∧ ∀ (i:Nat) (k:Nat),ks[i]? = some k → L.get k = l[i]?
 | L,[],l,h => by simp only [Loc.sub,Option.some.injEq] at h; subst h; simp
 | L,k :: ks,l,h => by
  simp only [Loc.sub] at h
  split at h
  case h_2 => cases h
  rename_i o l' h1 h2
  injection h with h
  subst h
  obtain ⟨e1,e2⟩:=sub_get h2
  refine ⟨by simp [e1],fun i k' hi => ?_⟩
  cases i with
  | zero => simp at hi; subst hi; simpa using h1
  | succ i => simp at hi; simpa using e2 i k' hi
theorem dels_get:∀ (ks:List Nat) (L:Loc) (j:Nat),(L.dels ks).get j = if j ∈ ks then none else L.get j
 | [],L,j => by simp [Loc.dels]
 | k :: ks,L,j => by
  simp only [Loc.dels,dels_get ks,Loc.get_del,List.mem_cons]
  by_cases h1:j = k <;> by_cases h2:j ∈ ks <;> simp [h1,h2]
theorem puts_get:∀ (ko:List Nat) (l:List Own) (L:Loc) (j:Nat),ko.Nodup → ko.length = l.length →
  ((L.puts ko l).get j = L.get j ∧ j ∉ ko) ∨ ∃ i,ko[i]? = some j ∧ (L.puts ko l).get j = l[i]? ∧ i < l.length
 | [],l,L,j,_,h => by
  refine .inl ⟨?_,by simp⟩
  cases l <;> rfl
 | k :: ko,[],L,j,_,h => by simp at h
 | k :: ko,o :: l,L,j,hn,h => by
  simp only [List.length_cons,Nat.add_right_cancel_iff] at h
  rw [List.nodup_cons] at hn
  simp only [Loc.puts]
  rcases puts_get ko l (L.set k o) j hn.2 h with ⟨h1,h2⟩ | ⟨i,h1,h2,h3⟩
  ·rw [Loc.get_set] at h1
   by_cases hj:j = k
   ·subst hj
    rw [if_pos rfl] at h1
    exact .inr ⟨0,by simp,by simpa using h1,by simp⟩
   ·rw [if_neg hj] at h1
    exact .inl ⟨h1,by simp [hj,h2]⟩
  ·exact .inr ⟨i + 1,by simpa using h1,by simpa using h2,by simp; omega⟩
theorem nodup_idx {l:List Nat} (h:l.Nodup) {i j:Nat} {k:Nat} (hi:l[i]? = some k) (hj:l[j]? = some k):i = j:=by
 induction l generalizing i j with
 | nil => simp at hi
 | cons x l ih =>
  rw [List.nodup_cons] at h
  cases i with
  | zero =>
   cases j with
   | zero => rfl
   | succ j =>
    simp at hi hj
    subst hi
    exact absurd (List.mem_of_getElem? hj) h.1
  | succ i =>
   cases j with
   | zero =>
    simp at hi hj
    subst hj
    exact absurd (List.mem_of_getElem? hi) h.1
   | succ j =>
    simp at hi hj
    rw [ih h.2 hi hj]
theorem St.handed (hs:St F L w) {ks:List Nat} {l:List Own} (hsub:L.sub ks = some l) (hn:ks.Nodup):St F (inp l) w:=by
 obtain ⟨hl,hg⟩:=sub_get hsub
 have key:∀ j p,Loc.get (inp l) j = some p → ∃ k,1000 ≤ j ∧ ks[j - 1000]? = some k ∧ L.get k = some p:=by
  intro j p e
  rw [inp_get] at e
  split at e
  case isFalse => cases e
  rename_i h1
  have hlt:j - 1000 < l.length:=(List.getElem?_eq_some_iff.1 e).1
  have hk:ks[j - 1000]? = some (ks[j - 1000]'(by omega)):=List.getElem?_eq_getElem (by omega)
  exact ⟨_,h1,hk,by rw [hg _ _ hk]; exact e⟩
 refine ⟨hs.frz,fun j p e => ?_,fun j p g e hb => ?_,fun j j' p p' g e e' hb hb' => ?_,hs.glob⟩
 ·obtain ⟨k,_,_,h⟩:=key j p e
  exact hs.own k p h
 ·obtain ⟨k,_,_,h⟩:=key j p e
  exact hs.off k p g h hb
 ·obtain ⟨k,h1,h2,h3⟩:=key j p e
  obtain ⟨k',h1',h2',h3'⟩:=key j' p' e'
  have:=hs.sep k k' p p' g h3 h3' hb hb'
  subst this
  have:=nodup_idx hn h2 h2'
  omega
theorem call_back (hs:St F L w) {ks ko:List Nat} {l lo:List Own} (hsub:L.sub ks = some l) (hn:ks.Nodup) (hno:ko.Nodup) (hko:∀ k,k ∈ ko → k ∈ ks ∨ L.get k = none)
  {F':Frz} {w':World} (hs':St F' (inp lo) w') (hst:Step F (inp l) w F' (inp lo) w') (hlen:ko.length = lo.length) :
  St F' ((L.dels ks).puts ko lo) w' ∧ Step F L w F' ((L.dels ks).puts ko lo) w':=by
 obtain ⟨hl,hg⟩:=sub_get hsub
 have inOwn:∀ b,(inp l).owns b → ∃ k o,k ∈ ks ∧ L.get k = some o ∧ o.blk = some b:=by
  rintro b ⟨j,p,e,hb⟩
  rw [inp_get] at e
  split at e
  case isFalse => cases e
  have hlt:j - 1000 < l.length:=(List.getElem?_eq_some_iff.1 e).1
  have hk:ks[j - 1000]? = some (ks[j - 1000]'(by omega)):=List.getElem?_eq_getElem (by omega)
  exact ⟨_,p,List.mem_of_getElem? hk,by rw [hg _ _ hk]; exact e,hb⟩
 have restOut:∀ k p b,k ∉ ks → L.get k = some p → p.blk = some b → ¬ (inp l).owns b:=by
  intro k p b hk e hb ho
  obtain ⟨k',o,hk',e',hb'⟩:=inOwn b ho
  exact hk (by rw [hs.sep k k' p o b e e' hb hb']; exact hk')
 have get:∀ k p,((L.dels ks).puts ko lo).get k = some p → (k ∉ ks ∧ k ∉ ko ∧ L.get k = some p) ∨ ∃ i,ko[i]? = some k ∧ Loc.get (inp lo) (1000 + i) = some p:=by
  intro k p e
  rcases puts_get ko lo (L.dels ks) k hno hlen with ⟨h1,h2⟩ | ⟨i,h1,h2,h3⟩
  ·rw [h1,dels_get] at e
   split at e
   ·cases e
   ·rename_i h3; exact .inl ⟨h3,h2,e⟩
  ·rw [h2] at e
   exact .inr ⟨i,h1,by rw [inp_get,if_pos (by omega),show 1000 + i - 1000 = i by omega]; exact e⟩
 refine ⟨⟨hs'.frz,fun k p e => ?_,fun k p b e hb => ?_,fun k k' p p' b e e' hb hb' => ?_,hs'.glob⟩,⟨hst.le,hst.os,hst.tape,hst.output,hst.size,fun b hb hno => ?_,fun b hb => ?_,fun b hb => ?_⟩⟩
 ·rcases get k p e with ⟨h1,_,h2⟩ | ⟨i,_,h2⟩
  ·exact Own.ok_same (hs.own k p h2) fun g hg' => hst.same g (Own.ok_lt (hs.own k p h2) hg') (restOut k p g h1 h2 hg')
  ·exact hs'.own _ p h2
 ·rcases get k p e with ⟨h1,_,h2⟩ | ⟨i,_,h2⟩
  ·cases hF:F' b with
   | none => rfl
   | some _ =>
    rcases hst.frz b (by rw [hF]; simp) with h3 | h3 | h3
    ·exact absurd (hs.off k p b h2 hb) h3
    ·exact absurd h3 (restOut k p b h1 h2 hb)
    ·have:=Own.ok_lt (hs.own k p h2) hb; omega
  ·exact hs'.off _ p b h2 hb
 ·have mixed:∀ k p i p',k ∉ ks → L.get k = some p → Loc.get (inp lo) (1000 + i) = some p' → p.blk = some b → p'.blk = some b → False:=by
   intro k p i p' h1 h2 h3 h4 h5
   rcases hst.own b ⟨_,p',h3,h5⟩ with h6 | h6
   ·exact restOut k p b h1 h2 h4 h6
   ·have:=Own.ok_lt (hs.own k p h2) h4; omega
  rcases get k p e with ⟨h1,_,h2⟩ | ⟨i,hi,h2⟩ <;> rcases get k' p' e' with ⟨h1',_,h2'⟩ | ⟨i',hi',h2'⟩
  ·exact hs.sep k k' p p' b h2 h2' hb hb'
  ·exact (mixed k p i' p' h1 h2 h2' hb hb').elim
  ·exact (mixed k' p' i p h1' h2' h2 hb' hb).elim
  ·have:=hs'.sep _ _ p p' b h2 h2' hb hb'
   have:i = i':=by omega
   subst this
   rw [hi] at hi'
   injection hi'
 ·refine hst.same b hb fun ho => ?_
  obtain ⟨k,o,_,e,hb'⟩:=inOwn b ho
  exact hno ⟨k,o,e,hb'⟩
 ·rcases hst.frz b hb with h | h | h
  ·exact .inl h
  ·obtain ⟨k,o,_,e,hb'⟩:=inOwn b h
   exact .inr (.inl ⟨k,o,e,hb'⟩)
  ·exact .inr (.inr h)
 ·obtain ⟨k,p,e,hb'⟩:=hb
  rcases get k p e with ⟨h1,_,h2⟩ | ⟨i,_,h2⟩
  ·exact .inl ⟨k,p,h2,hb'⟩
  ·rcases hst.own b ⟨_,p,h2,hb'⟩ with h | h
   ·obtain ⟨k',o,_,e',hb''⟩:=inOwn b h
    exact .inl ⟨k',o,e',hb''⟩
   ·exact .inr h
theorem wp_call {f:Nat} {args:List Value} (hs:St F L w) (he:EnvOk L ρ a) (hd:∀ k,o.dst = some k → k < a.tmps.size)
  (hrun:(∃ fn,P.funcs[f]? = some fn ∧ fn.body.isSome = true ∧ (fn.name == "runtime.NumGoroutine") = false) → (execOp a.eval o).run P w = .ok (.enter f args.toArray) w)
  (hK:CallPt P f args F L fun F' L' v => K F' L' (put o.dst (.v v) ρ)):o.wp P a w (Next1 F L w a K) Q:=by
 obtain ⟨ks,ko,l,R,hsub,hn,hno,hko,hc,hK⟩:=hK
 unfold Oper.wp
 rw [hrun hc.ent]
 rw [Oper.upon_enter]
 refine (hc.run w (hs.handed hsub hn)).mono ?_
 rintro e w' ⟨v,F',lo,rfl,hs',hst,hR⟩
 obtain ⟨hlen,hbox,hK⟩:=hK v F' lo hst.le hR
 obtain ⟨h1,h2⟩:=call_back hs hsub hn hno hko hs' hst hlen
 refine ⟨F',_,_,h1,he.put hd (x:=.v v) rfl noOwn noEl ?_,size_put _ _ _,defers_put _ _ _,h2,hK⟩
 intro k g ty cs e
 by_cases hk:k ∈ ks
 ·exact hbox k g ty cs hk e
 ·rcases puts_get ko lo (L.dels ks) k hno hlen with ⟨h1,h2⟩ | ⟨i,h1,h2,h3⟩
  ·rw [h1,dels_get,if_neg hk]
   exact ⟨cs,e⟩
  ·rcases hko k (List.mem_of_getElem? h1) with h | h
   ·exact absurd h hk
   ·rw [h] at e; cases e
theorem run_callFunc {f:Nat} {args:Array Value} (h:∃ fn,P.funcs[f]? = some fn ∧ fn.body.isSome = true ∧ (fn.name == "runtime.NumGoroutine") = false):(callFunc f args).run P w = .ok (.enter f args) w:=by
 obtain ⟨fn,h1,h2,h3⟩:=h
 have h4:fn.body ≠ none:=by intro hb; rw [hb] at h2; cases h2
 have h5:fn.name ≠ "runtime.NumGoroutine":=by simpa using h3
 simp [callFunc,h1,h4,h5]
theorem op_call {f:Nat} {args:List X} {c:Call} (hs:St F L w) (he:EnvOk L ρ a) (hd:∀ k,o.dst = some k → k < a.tmps.size)
  (ho:o.op = .call c) (hc:c.callee = .value (.func f)) (ha:lowXs c.args.toList = some args) (hK:evalOp P (.call f args) o.dst F L ρ K):o.wp P a w (Next1 F L w a K) Q:=by
 refine wp_call hs he hd (fun hent => ?_) hK
 have hev:=lowXs_eval ha he
 have hargs:c.args.map a.eval = (evals L ρ args).toArray:=by apply Array.ext'; simpa using hev
 simp [execOp,ho,resolve,hc,Deferred.ofValue,Act.eval,invoke,hargs,run_callFunc hent]
theorem run_callMethod {t:TypeId} {nm:String} {u:Value} {f:Nat} {args:Array Value} (hf:methP P t nm = some f) (h:∃ fn,P.funcs[f]? = some fn ∧ fn.body.isSome = true ∧ (fn.name == "runtime.NumGoroutine") = false) :
  (callMethod (.iface t u) nm args).run P w = .ok (.enter f (#[u] ++ args)) w:=by
 have:=methP_run (P:=P) hf u w
 simp only [callMethod,Sem.run_bind,run_program,Result.andThen_ok,this]
 exact run_callFunc h
theorem fnOf_run {V:SV} {v:Value} {args:List Value} {f:Nat} {fi ca:List Value} (hf:fnOf P V = some (f,fi,ca)) (hv:∀ x,V = .v x → v = x) (h:∃ fn,P.funcs[f]? = some fn ∧ fn.body.isSome = true ∧ (fn.name == "runtime.NumGoroutine") = false) :
  (do let d ← Deferred.ofValue v args.toArray; invoke d.target d.args:Sem Next).run P w = .ok (.enter f (fi ++ args ++ ca).toArray) w:=by
 unfold fnOf at hf
 split at hf
 ·rename_i f' fi' ca'
  injection hf with hf
  injection hf with e1 e2
  injection e2 with e2 e3
  subst e1 e2 e3
  rw [hv _ rfl]
  have hall:fi' ++ (args.toArray ++ ca') = (fi'.toList ++ args ++ ca'.toList).toArray:=by apply Array.ext'; simp
  simp [Deferred.ofValue,invoke]
  rw [run_callFunc h]
  simp
 ·rename_i nm fi' ca'
  split at hf
  case h_2 => cases hf
  rename_i t u hfi
  split at hf
  case h_2 => cases hf
  rename_i f' hm
  injection hf with hf
  injection hf with e1 e2
  injection e2 with e2 e3
  subst e1 e2 e3
  have hfi':fi' = #[.iface t u]:=by apply Array.ext'; exact hfi
  rw [hv _ rfl,hfi']
  have hx:(#[Value.iface t u] ++ args.toArray).extract 1 (#[Value.iface t u] ++ args.toArray).size = args.toArray:=by apply Array.ext'; simp
  have h0:(#[Value.iface t u] ++ args.toArray)[0]? = some (.iface t u):=by simp
  have:=run_callMethod (w:=w) (u:=u) (args:=args.toArray) hm h
  simp only [Deferred.ofValue,Sem.run_bind,Sem.run_pure,Result.andThen_ok,invoke,h0,hx,this]
  simp
 ·cases hf
theorem op_callV {y:Operand} {y':X} {args:List X} {c:Call} (hs:St F L w) (he:EnvOk L ρ a) (hd:∀ k,o.dst = some k → k < a.tmps.size)
  (ho:o.op = .call c) (hc:c.callee = .value y) (hy:lowX y = some y') (ha:lowXs c.args.toList = some args) (hK:evalOp P (.callV y' args) o.dst F L ρ K):o.wp P a w (Next1 F L w a K) Q:=by
 have ey:=lowX_eval hy he
 have hev:=lowXs_eval ha he
 have hargs:c.args.map a.eval = (evals L ρ args).toArray:=by apply Array.ext'; simpa using hev
 have hval:∀ x,ev ρ y' = .v x → a.eval y = x:=fun x e => by rw [ey,val_v e]
 simp only [evalOp] at hK
 split at hK
 ·rename_i f fi ca hf
  refine wp_call hs he hd (fun hent => ?_) hK
  have:=fnOf_run (w:=w) (args:=evals L ρ args) hf hval hent
  simp only [execOp,ho,resolve,hc,hargs]
  exact this
 ·split at hK
  case h_2 => exact hK.elim
  rename_i f args' hf
  unfold fnOfM at hf
  split at hf
  case h_2 => cases hf
  rename_i t nm ca t' u rest hy1 hargs1
  split at hf
  case h_2 => cases hf
  rename_i ms hu
  split at hf
  case h_2 => cases hf
  rename_i f' hm
  injection hf with hf
  injection hf with e1 e2
  subst e1 e2
  refine wp_call hs he hd (fun hent => ?_) hK
  have h0:(#[] ++ (evals L ρ args).toArray)[0]? = some (.iface t' u):=by rw [hargs1]; simp
  have hx:(#[] ++ (evals L ρ args).toArray).extract 1 (#[] ++ (evals L ρ args).toArray).size = rest.toArray:=by rw [hargs1]; apply Array.ext'; simp
  have:=run_callMethod (w:=w) (u:=u) (args:=rest.toArray) hm hent
  simp only [execOp,ho,resolve,hc,hargs,hval _ hy1,Deferred.ofValue,Sem.run_bind,Sem.run_pure,Result.andThen_ok,invoke]
  have h0':((⟨[]⟩:Array Value) ++ (evals L ρ args).toArray)[0]? = some (.iface t' u):=h0
  simp only [h0',Sem.run_bind,run_underlying hu,Result.andThen_ok]
  have hx':((⟨[]⟩:Array Value) ++ (evals L ρ args).toArray).extract 1 ((⟨[]⟩:Array Value) ++ (evals L ρ args).toArray).size = rest.toArray:=hx
  simp only [hx',this]
  simp
theorem op_inv {n:Nat} {nm:String} {args:List X} {c:Call} (hs:St F L w) (he:EnvOk L ρ a) (hd:∀ k,o.dst = some k → k < a.tmps.size)
  (ho:o.op = .call c) (hc:c.callee = .invoke (.tmp n) nm) (ha:lowXs c.args.toList = some args) (hK:evalOp P (.callV (.mt nm n) args) o.dst F L ρ K):o.wp P a w (Next1 F L w a K) Q:=by
 have hev:=lowXs_eval ha he
 have hargs:c.args.map a.eval = (evals L ρ args).toArray:=by apply Array.ext'; simpa using hev
 simp only [evalOp,ev] at hK
 split at hK
 ·rename_i f fi ca hf
  refine wp_call hs he hd (fun hent => ?_) hK
  cases hn:ρ n with
  | own k off => rw [hn] at hf; cases hf
  | el b j => rw [hn] at hf; cases hf
  | v x =>
   rw [hn] at hf
   have hx:a.eval (.tmp n) = x:=by
    have:=he.eq n
    rw [hn] at this
    exact this
   simp only [mtv,fnOf] at hf
   split at hf
   case h_2 => cases hf
   rename_i t u hfi
   split at hf
   case h_2 => cases hf
   rename_i f' hm
   injection hf with hf
   injection hf with e1 e2
   injection e2 with e2 e3
   subst e1 e2 e3
   have hxi:x = .iface t u:=by simpa using hfi
   subst hxi
   have hx2:(#[Value.iface t u] ++ (evals L ρ args).toArray).extract 1 (#[Value.iface t u] ++ (evals L ρ args).toArray).size = (evals L ρ args).toArray:=by apply Array.ext'; simp
   have h0:(#[Value.iface t u] ++ (evals L ρ args).toArray)[0]? = some (.iface t u):=by simp
   have:=run_callMethod (w:=w) (u:=u) (args:=(evals L ρ args).toArray) hm hent
   simp only [execOp,ho,resolve,hc,hargs,hx,Sem.run_bind,Sem.run_pure,Result.andThen_ok,invoke,h0,hx2,this]
   simp
 ·split at hK
  case h_2 => exact hK.elim
  rename_i f args' hf
  exfalso
  revert hf
  cases ρ n <;> simp [mtv,fnOfM,undef]
theorem op_s2b {s t e:TypeId} {y:Operand} {y':X} (hs:St F L w) (he:EnvOk L ρ a) (hd:∀ k,o.dst = some k → k < a.tmps.size)
  (ho:o.op = .convert s t y) (h1:P.underlying s = some .string) (h2:P.underlying t = some (.slice e)) (h3:P.underlying e = some (.int .u8)) (hy:lowX y = some y') (hK:evalOp P (.s2b e y') o.dst F L ρ K):o.wp P a w (Next1 F L w a K) Q:=by
 have ey:=lowX_eval hy he
 simp only [evalOp,outV] at hK
 split at hK
 case h_2 => exact hK.elim
 rename_i str hy1
 let cap:=(Question.appendCap str.size 0 e).cut (w.tape w.drawn (.appendCap str.size 0 e))
 have hcap:str.size ≤ cap:=by simp only [cap,Question.cut]; omega
 let cells:Array Value:=(str.data.map fun b => Value.int .u8 b.toNat) ++ Array.replicate (cap - str.size) (.int .u8 0)
 have hcs:cells.size = cap:=by simp only [cells,Array.size_append,Array.size_map,Array.size_replicate]; have:str.data.size = str.size:=rfl; omega
 let w1:=w.drew.alloc (.cells cells e)
 let w2:=w1.freeze { block:=w.heap.size,off:=cap } 1
 have hrun:(execOp a.eval o).run P w = .ok (.value (.slice (some ⟨w.heap.size,0,none⟩) str.size cap)) w2:=by
  have hsh:w1.shape? w.heap.size = some (e,cap):=by
   have:w1.heap[w.heap.size]? = some (.cells cells e):=heap_new w.drew _
   simp only [World.shape?,this,hcs]
  simp [execOp,ho,ey,val_v hy1,convert,run_underlying h1,run_underlying h2,run_underlying h3,Conv.stringToBytes,Question.forced,newRow,markStringish]
  rw [show (w.drew.alloc (.cells ((str.data.map fun b => Value.int .u8 b.toNat) ++ Array.replicate ((Question.appendCap str.size 0 e).cut (w.tape w.drawn (.appendCap str.size 0 e)) - str.size) (.int .u8 0)) e)).shape? w.heap.size = some (e,cap) from hsh]
  simp
  exact ⟨rfl,rfl⟩
 have hw2:∀ b,b < w.heap.size → w2.heap[b]? = w.heap[b]?:=by
  intro b hb
  have h1:w1.heap[b]? = w.heap[b]?:=Below.heap_alloc w.drew _ b hb
  simp only [w2,World.freeze]
  simp only [Nat.one_ne_zero,if_false,Array.getElem?_modify]
  rw [if_neg (by omega)]
  exact h1
 have hnew:w2.heap[w.heap.size]? = some (.cells cells e (cap,cap + 1)):=by
  have h1:w1.heap[w.heap.size]? = some (.cells cells e (0,0)):=heap_new w.drew _
  simp only [w2,World.freeze,Nat.one_ne_zero,if_false,Array.getElem?_modify,if_true,h1]
  simp
 have hs2:St F L w2:=hs.keep hw2
 obtain ⟨hf,hno⟩:=new_free hs
 have hs3:=hs2.freeze hnew hno
 have hle:=Frz.le_add hs2 hnew
 refine wp_val' he hd (x:=.v (.slice (some ⟨w.heap.size,0,none⟩) str.size cap)) hrun hs3 ⟨hle,?_,?_,?_,?_,fun b hb _ => hw2 b hb,?_,fun b h => .inl h⟩ rfl noOwn noEl (boxKeep L) (hK w.heap.size cap _ hle ?_ hcap)
 ·simp only [w2,World.freeze,Nat.one_ne_zero,if_false]; rfl
 ·simp only [w2,World.freeze,Nat.one_ne_zero,if_false]; rfl
 ·simp only [w2,World.freeze,Nat.one_ne_zero,if_false]; rfl
 ·simp only [w2,World.freeze,Nat.one_ne_zero,if_false,Array.size_modify]
  have:w1.heap.size = w.heap.size + 1:=by simp [w1]
  omega
 ·intro b hb
  by_cases h:b = w.heap.size
  ·exact .inr (.inr (by omega))
  ·simp only [if_neg h] at hb; exact .inl hb
 ·refine ⟨_,cells,e,_,rfl,if_pos rfl,rfl,fun i v hv => ?_⟩
  have hi:i < str.data.size:=by
   have:=(List.getElem?_eq_some_iff.1 hv).1
   simpa using this
  simp only [cells,Nat.zero_add]
  rw [Array.getElem?_append_left (by simpa using hi)]
  simpa using hv
theorem run_copy_str (w:World) (dT sT ty elem:TypeId) (g o dLen dCap:Nat) (s:ByteArray) (cur:Array Value) (t:TypeId)
  (hu:P.underlying dT = some (.slice elem)) (hs:(P.info? elem).map (·.size) = some 1)
  (hg:w.heap[g]? = some (.cells cur t (0,0))) (hfit:o + min s.size dLen ≤ cur.size) :
  (Builtin.copy_ #[dT,sT] ty #[.slice (some ⟨g,o,none⟩) dLen dCap,.string s]).run P w =
   .ok (goInt (min s.size dLen:Nat)) (w.setRow g (splice cur.toList o ((s.data.toList.take dLen).map fun b => Value.int .u8 b.toNat)).toArray):=by
 have hl:((s.data.toList.take dLen).map fun b => Value.int .u8 b.toNat).length = min s.size dLen:=by
  rw [List.length_map,List.length_take,Nat.min_comm,Array.length_toList]; rfl
 have hst:=run_storeCells_at P g o t ((s.data.toList.take dLen).map fun b => Value.int .u8 b.toNat) 0 cur w hg (by rw [hl]; simpa using hfit) (fun v hv => by
  obtain ⟨b,_,rfl⟩:=List.mem_map.1 hv; rfl)
 rw [Nat.add_zero] at hst
 have e3:List.take (s.size.min dLen) (List.map (fun b => Value.int IntKind.u8 b.toNat) s.data.toList) = (s.data.toList.take dLen).map fun b => Value.int .u8 b.toNat:=by
  have hn:s.size = s.data.toList.length:=by simp
  rw [← List.map_take,hn]
  congr 1
  rw [show Nat.min s.data.toList.length dLen = min s.data.toList.length dLen from rfl,Nat.min_comm,← List.take_take,List.take_length]
 generalize (s.data.toList.take dLen).map (fun b => Value.int .u8 b.toNat) = news at *
 cases hi0:P.info? elem with
 | none => simp [hi0] at hs
 | some i =>
  have hi:i.size = 1:=by simpa [hi0] using hs
  simp [Builtin.copy_,run_underlying hu,Builtin.lenOf,Builtin.firstCells,sizeOf,typeInfo,hi0,hi,e3,hst,splice]
theorem op_copy {t t' e:TypeId} {y z:Operand} {y' z':X} {i:TypeInfo} {c:Call} (hs:St F L w) (he:EnvOk L ρ a) (hd:∀ k,o.dst = some k → k < a.tmps.size)
  (ho:o.op = .call c) (hc:c.callee = .builtin .copy) (ha:c.args = #[y,z]) (hts:c.argTypes = #[t,t']) (ht:P.underlying t = some (.slice e)) (hi:P.info? e = some i) (hi1:i.size = 1)
  (hy:lowX y = some y') (hz:lowX z = some z') (hK:evalOp P (.copy e i.size y' z') o.dst F L ρ K):o.wp P a w (Next1 F L w a K) Q:=by
 have ey:=lowX_eval hy he
 have ez:=lowX_eval hz he
 rw [hi1] at hK
 simp only [evalOp] at hK
 split at hK
 case h_3 => exact hK.elim
 case h_1 =>
  rename_i dv str hy1 hz1
  obtain ⟨k,n,v,nr,xs,ad,cr,cd,j,hk,rfl,rfl,hjn,hK⟩:=hK
  have hsz:(P.info? e).map (·.size) = some 1:=by rw [hi]; simp [hi1]
  have hrow:=hs.own k _ hk
  simp only [Own.ok] at hrow
  obtain ⟨hx,hrow⟩:=hrow
  rcases hrow with ⟨e',_⟩ | ⟨g,cap,cur,e',hb0,hg,hnc,hcm,hcsz,htake⟩
  ·cases e'
  injection e' with e1 e2 e3
  injection e1 with e1
  subst e1 e3
  simp only [Nat.mul_one] at hx hcsz htake
  have hl:((str.data.toList.take n).map fun b => Value.int .u8 b.toNat).length = min str.size n:=by
   rw [List.length_map,List.length_take,Nat.min_comm,Array.length_toList]; rfl
  generalize hnews:(str.data.toList.take n).map (fun b => Value.int .u8 b.toNat) = news at hl hK
  have hjfit:j + news.length ≤ nr:=by rw [hl]; omega
  have hfit:j + news.length ≤ cur.size:=by omega
  have hgrow:=setRow_grown w g (splice cur.toList j news).toArray
  have hbox:∀ (xs':List Value) i' g' ty' cs',L.get i' = some (.box g' ty' cs') → ∃ cs'',(L.set k (.row (.slice (some ⟨g,0,none⟩) nr cr) e 1 nr xs')).get i' = some (.box g' ty' cs''):=by
   intro xs' i' g' ty' cs' ej
   rw [Loc.get_set,if_neg (by rintro rfl; rw [hk] at ej; cases ej)]
   exact ⟨cs',ej⟩
  have hok:Own.ok (w.setRow g (splice cur.toList j news).toArray) (.row (.slice (some ⟨g,0,none⟩) nr cr) e 1 nr (splice xs j news)):=by
   refine ⟨?_,.inr ⟨g,cr,_,rfl,hb0,setRow_heap w g cur _ e _ hg,hnc,hcm,?_,?_⟩⟩
   ·rw [splice_length _ _ _ (by rw [hx]; exact hjfit),hx,Nat.mul_one]
   ·have:(splice cur.toList j news).length = cur.size:=by rw [splice_length _ _ _ (by simpa using hfit)]; simp
    simp [this,hcsz]
   ·rw [Nat.mul_one,List.toList_toArray,← htake]
    apply List.ext_getElem?
    intro q
    have hfz:j + news.length ≤ cur.toList.length:=by simpa using hfit
    rw [splice_get (by rw [List.length_take]; simp; omega)]
    by_cases hn:q < nr
    ·rw [List.getElem?_take_of_lt hn,splice_get hfz,List.getElem?_take_of_lt hn]
    ·rw [List.getElem?_eq_none (by simp; omega)]
     have h1:¬ q < j:=by omega
     have h2:¬ q < j + news.length:=by omega
     rw [if_neg h1,if_neg h2,List.getElem?_eq_none (by simp; omega)]
  have hst:St F (L.set k (.row (.slice (some ⟨g,0,none⟩) nr cr) e 1 nr (splice xs j news))) (w.setRow g (splice cur.toList j news).toArray) :=
   hs.turn hk hok (fun b hb1 hne => hgrow.block b hb1 (fun e => hne (by rw [e]; rfl))) (fun g' hg' => .inl hg')
  refine wp_val' he hd (v:=.int .i64 (min str.size n:Nat)) (x:=.v (.int .i64 (min str.size n:Nat))) ?_ hst ?_ rfl noOwn noEl (hbox _) hK
  ·have hadd:(⟨g,0,none⟩:Addr).add j = ⟨g,j,none⟩:=by rw [add_none,Nat.zero_add]
   have:=run_copy_str (P:=P) w t t' o.type e g j n cd str cur e ht hsz hg (by rw [← hl]; exact hfit)
   rw [hnews] at this
   rw [hadd] at hy1
   simp [execOp,ho,resolve,hc,ha,hts,invoke,builtin,ey,ez,val_v hy1,val_v hz1,this,goInt]
  ·refine ⟨Frz.le_refl F,rfl,rfl,rfl,hgrow.size,fun b hb1 hn => hgrow.block b hb1 (fun e => hn ⟨k,_,hk,by rw [e]; rfl⟩),fun b h => .inl h,fun b h => ?_⟩
   rcases Loc.owns_set h with h | h
   ·exact .inl ⟨k,_,hk,h⟩
   ·exact .inl h
 rename_i dv xv _ hy1 hz1
 have hsz:(P.info? e).map (·.size) = some 1:=by rw [hi]; simp [hi1]
 obtain ⟨⟨k,n,v,nr,xs,ad,cr,cd,j,m,ax,cx,news,hk,rfl,rfl,hjn,rfl,hlen,hsrc,h1,hK⟩ | ⟨da,n,cd,ax,m,cx,rfl,rfl,h0,hK⟩⟩:=hK
 rotate_left
 ·have hev:∀ v:Value,(execOp a.eval o).run P w = (do pure (.value (← Builtin.copy_ #[t,t'] o.type #[.slice da n cd,.slice ax m cx])):Sem Next).run P w:=by
   intro v
   simp [execOp,ho,resolve,hc,ha,hts,invoke,builtin,ey,ez,val_v hy1,val_v hz1]
  refine wp_val hs he hd (v:=.int .i64 0) (x:=.v (.int .i64 0)) ?_ rfl noOwn noEl hK
  rw [hev undef]
  have:=run_copy_none (P:=P) w t t' o.type e da ax n cd m cx ht hsz h0
  simp [this,goInt]
 rw [Nat.mul_one] at hlen
 have hrow:=hs.own k _ hk
 simp only [Own.ok] at hrow
 obtain ⟨hx,hrow⟩:=hrow
 rcases hrow with ⟨e',_⟩ | ⟨g,cap,cur,e',hb0,hg,hnc,hcm,hcsz,htake⟩
 ·cases e'
 injection e' with e1 e2 e3
 injection e1 with e1
 subst e1 e3
 simp only [Nat.mul_one] at hx hcsz htake hK hy1
 have hbox:∀ (xs':List Value) i' g' ty' cs',L.get i' = some (.box g' ty' cs') → ∃ cs'',(L.set k (.row (.slice (some ⟨g,0,none⟩) nr cr) e 1 nr xs')).get i' = some (.box g' ty' cs''):=by
  intro xs' i' g' ty' cs' ej
  rw [Loc.get_set,if_neg (by rintro rfl; rw [hk] at ej; cases ej)]
  exact ⟨cs',ej⟩
 have hev:∀ v:Value,(execOp a.eval o).run P w = (do pure (.value (← Builtin.copy_ #[t,t'] o.type #[.slice (some ((⟨g,0,none⟩:Addr).add j)) n cd,.slice ax m cx])):Sem Next).run P w:=by
  intro v
  simp [execOp,ho,resolve,hc,ha,hts,invoke,builtin,ey,ez,val_v hy1,val_v hz1]
 by_cases h0:min m n = 0
 ·have:news = []:=List.eq_nil_of_length_eq_zero (by rw [hlen,h0])
  subst this
  have hspl:splice xs j [] = xs:=by simp [splice]
  rw [hspl,h0] at hK
  have hok:Own.ok w (.row (.slice (some ⟨g,0,none⟩) nr cr) e 1 nr xs):=by
   have:=hs.own k _ hk
   exact this
  have hst:St F (L.set k (.row (.slice (some ⟨g,0,none⟩) nr cr) e 1 nr xs)) w:=hs.turn hk hok (fun _ _ _ => rfl) (fun g' hg' => .inl hg')
  refine wp_val' he hd (v:=.int .i64 0) (x:=.v (.int .i64 0)) ?_ hst ?_ rfl noOwn noEl (hbox xs) hK
  ·rw [hev undef]
   have:=run_copy_none (P:=P) w t t' o.type e (some ((⟨g,0,none⟩:Addr).add j)) ax n cd m cx ht hsz h0
   simp [this,goInt]
  ·refine ⟨Frz.le_refl F,rfl,rfl,rfl,Nat.le_refl _,fun _ _ _ => rfl,fun b h => .inl h,fun b h => ?_⟩
   rcases Loc.owns_set h with h | h
   ·exact .inl ⟨k,_,hk,h⟩
   ·exact .inl h
 ·have hF:FCells F ax 0 news:=hsrc.resolve_right fun h => h0 h.1
  obtain ⟨ad',rfl,_,hcc⟩:=hF.cell hs
  have hcells:∀ j v,news[j]? = some v → w.cell? (ad'.add j) = some v:=fun j' u hu => by
   have:=hcc j' u hu
   rwa [Nat.zero_add] at this
  have hjfit:j + news.length ≤ nr:=by rw [hlen]; omega
  have hfit:j + news.length ≤ cur.size:=by omega
  have hgrow:=setRow_grown w g (splice cur.toList j news).toArray
  have hok:Own.ok (w.setRow g (splice cur.toList j news).toArray) (.row (.slice (some ⟨g,0,none⟩) nr cr) e 1 nr (splice xs j news)):=by
   refine ⟨?_,.inr ⟨g,cr,_,rfl,hb0,setRow_heap w g cur _ e _ hg,hnc,hcm,?_,?_⟩⟩
   ·rw [splice_length _ _ _ (by rw [hx]; exact hjfit),hx,Nat.mul_one]
   ·have:(splice cur.toList j news).length = cur.size:=by rw [splice_length _ _ _ (by simpa using hfit)]; simp
    simp [this,hcsz]
   ·rw [Nat.mul_one,List.toList_toArray,← htake]
    apply List.ext_getElem?
    intro q
    have hfz:j + news.length ≤ cur.toList.length:=by simpa using hfit
    rw [splice_get (by rw [List.length_take]; simp; omega)]
    by_cases hn:q < nr
    ·rw [List.getElem?_take_of_lt hn,splice_get hfz,List.getElem?_take_of_lt hn]
    ·rw [List.getElem?_eq_none (by simp; omega)]
     have h1:¬ q < j:=by omega
     have h2:¬ q < j + news.length:=by omega
     rw [if_neg h1,if_neg h2,List.getElem?_eq_none (by simp; omega)]
  have hst:St F (L.set k (.row (.slice (some ⟨g,0,none⟩) nr cr) e 1 nr (splice xs j news))) (w.setRow g (splice cur.toList j news).toArray) :=
   hs.turn hk hok (fun b hb1 hne => hgrow.block b hb1 (fun e => hne (by rw [e]; rfl))) (fun g' hg' => .inl hg')
  refine wp_val' he hd (v:=.int .i64 (min m n:Nat)) (x:=.v (.int .i64 (min m n:Nat))) ?_ hst ?_ rfl noOwn noEl (hbox _) hK
  ·rw [hev undef,add_none,Nat.zero_add]
   have:=run_copy_row P w t t' o.type e g j n cd ad' m cx cur e news ht hsz hg hlen hcells hfit h1
   have hsp:(cur.toList.take j ++ news ++ cur.toList.drop (j + news.length)).toArray = (splice cur.toList j news).toArray:=rfl
   rw [hsp] at this
   simp [this,goInt,hlen]
  ·refine ⟨Frz.le_refl F,rfl,rfl,rfl,hgrow.size,fun b hb1 hn => hgrow.block b hb1 (fun e => hn ⟨k,_,hk,by rw [e]; rfl⟩),fun b h => .inl h,fun b h => ?_⟩
   rcases Loc.owns_set h with h | h
   ·exact .inl ⟨k,_,hk,h⟩
   ·exact .inl h
end
open Go.ChangeMaps (setBlock)
theorem mapObj_of {cs:List Value} (h:isMapCs cs = true):mapObj cs = .map (entsFrom cs 0).toArray cs.length:=by
 unfold mapObj
 split
 ·simp [isMapCs] at h
 ·rfl
theorem ents_length:∀ {cs:List Value} {i:Nat},(entsFrom cs i).length = cs.length
 | [],_ => rfl
 | c :: cs,i => by simp [entsFrom,ents_length (cs:=cs)]
theorem entOf_born:∀ (v:Value) (i:Nat),(entOf v i).born = i:=by
 intro v i
 unfold entOf
 split <;> rfl
theorem ents_get:∀ {cs:List Value} {i j:Nat},(entsFrom cs i)[j]? = (cs[j]?).map fun v => entOf v (i + j)
 | [],_,_ => by simp [entsFrom]
 | c :: cs,i,0 => by simp [entsFrom]
 | c :: cs,i,j + 1 => by
  simp only [entsFrom,List.getElem?_cons_succ,ents_get (cs:=cs)]
  rw [show i + 1 + j = i + (j + 1) by omega]
def kindOf:Bool → TypeDesc
 | false => .int .i64
 | true => .string
theorem str_beq (s t:ByteArray):(s == t) = decide (s.data.toList = t.data.toList):=by
 have:(s == t) = (s.data == t.data):=rfl
 rw [this,Bool.eq_iff_iff]; simp [Array.toList_inj]
theorem sameNow_of {str:Bool} {a b:Value} {r:Bool} (h:keySame str a b = some r):Instr.sameNow (kindOf str) a b = some r:=by
 unfold keySame at h
 split at h
 ·injection h with h; subst h; simp [kindOf,Instr.sameNow,beq_dec']
 ·injection h with h
  subst h
  rename_i s t
  simp only [kindOf,Instr.sameNow,str_beq]
 ·cases h
where beq_dec':∀ {a b:Int},(a == b) = decide (a = b):=by intro a b; rw [Bool.eq_iff_iff]; simp
theorem same_of {str:Bool} {a b:Value} (h:keySame str a b = some true):a = b:=by
 unfold keySame at h
 split at h
 ·simp only [Option.some.injEq,decide_eq_true_eq] at h; rw [h]
 ·simp only [Option.some.injEq,decide_eq_true_eq] at h
  rename_i s t
  cases s; cases t
  simp only [Value.string.injEq,ByteArray.mk.injEq]
  exact Array.ext' h
 ·cases h
theorem bits_of {str:Bool} {a b:Value} {r:Bool} (h:keySame str a b = some r):∀ n,Instr.sameBits n a a = true:=by
 intro n
 unfold keySame at h
 split at h
 ·cases n <;> simp [Instr.sameBits]
 ·cases n <;> simp [Instr.sameBits,str_beq]
 ·cases h
theorem find_ents {str:Bool} {key:Value}:∀ {cs:List Value} {i:Nat} {o:Option (Nat × Value)},findV str key cs i = some o → Instr.findNow (kindOf str) key (entsFrom cs i) i = some o
 | [],i,o,h => by simp only [findV] at h; simpa [entsFrom,Instr.findNow] using h
 | c :: cs,i,o,h => by
  unfold findV at h
  split at h
  ·rename_i heq; cases heq
  ·rename_i k v l j heq
   injection heq with e1 e2
   subst e1 e2
   simp only [entsFrom,entOf,Instr.findNow]
   split at h
   ·rename_i hk
    rw [sameNow_of hk]
    exact h
   ·rename_i hk
    rw [sameNow_of hk]
    exact find_ents h
   ·cases h
  ·cases h
theorem setV_find {str:Bool} {key val:Value} (hkk:keySame str key key = some true):∀ {cs cs':List Value} {i:Nat},setV str key val cs = some cs' →
  (∃ j v,findV str key cs i = some (some (i + j,v)) ∧ j < cs.length ∧ ((entsFrom cs i)[j]?.map (·.key)) = some key ∧ entsFrom cs' i = (entsFrom cs i).modify j (fun e => { e with key:=key,val:=val }) ∧ cs'.length = cs.length) ∨
  (findV str key cs i = some none ∧ cs' = cs ++ [.agg #[key,val]])
 | [],cs',i,h => by
  simp only [setV,Option.some.injEq] at h
  subst h
  exact .inr ⟨rfl,rfl⟩
 | c :: cs,cs',i,h => by
  unfold setV at h
  split at h
  ·rename_i heq; cases heq
  ·rename_i k v l heq
   injection heq with e1 e2
   subst e1 e2
   split at h
   ·rename_i hk
    injection h with h
    subst h
    refine .inl ⟨0,v,by simp only [findV,hk,Nat.add_zero],by simp,?_,?_,rfl⟩
    ·simp [entsFrom,entOf,(same_of hk).symm]
    ·simp [entsFrom,entOf]
   ·rename_i hk
    split at h
    case h_2 => cases h
    rename_i l' hl
    injection h with h
    subst h
    rcases setV_find hkk (i:=i + 1) hl with ⟨j,u,h1,h2,h3,h4,h5⟩ | ⟨h1,h2⟩
    ·refine .inl ⟨j + 1,u,?_,by simp; omega,by simpa [entsFrom] using h3,by simp [entsFrom,h4],by simp [h5]⟩
     simp only [findV,hk]
     rw [h1,show i + 1 + j = i + (j + 1) by omega]
    ·refine .inr ⟨?_,by rw [h2]; rfl⟩
     simp only [findV,hk]
     exact h1
   ·cases h
  ·cases h
theorem setV_isMap {str:Bool} {key val:Value} {cs cs':List Value} (h:setV str key val cs = some cs'):isMapCs cs' = true:=by
 unfold setV at h
 split at h
 ·injection h with h; subst h; rfl
 ·split at h
  ·injection h with h; subst h; rfl
  ·split at h
   ·injection h with h; subst h; rfl
   ·cases h
  ·cases h
 ·cases h
section
variable {P:Program} {F:Frz} {L:Loc} {ρ:Env} {a:Act} {w:World} {K:Kont} {o:Oper} {Q:Exit → Act → World → Prop}
theorem map_of (hs:St F L w) {k g:Nat} {cs:List Value} (hk:L.get k = some (.box g 0 cs)) (hm:isMapCs cs = true):w.heap[g]? = some (.map (entsFrom cs 0).toArray cs.length):=by
 have h:=hs.own k _ hk
 simp only [Own.ok,boxObj] at h
 rw [mapObj_of hm] at h
 exact h
theorem run_key {str:Bool} {key:TypeId} {kv:Value} (ht:P.underlying key = some (kindOf str)) (hk:keySame str kv kv = some true) (e:Bool):(Instr.checkKey e 10000 key kv).run P w = .ok () w:=by
 rw [show (10000:Nat) = 9999 + 1 from rfl,Instr.checkKey]
 simp only [Sem.run_bind,run_underlying ht,Result.andThen_ok]
 cases str <;> simp [kindOf,Sem.run_pure]
theorem run_checkK {str:Bool} {key:TypeId} {kv:Value} (ht:P.underlying key = some (kindOf str)) (e:Bool):(Instr.checkKey e 10000 key kv).run P w = .ok () w:=by
 rw [show (10000:Nat) = 9999 + 1 from rfl,Instr.checkKey]
 simp only [Sem.run_bind,run_underlying ht,Result.andThen_ok]
 cases str <;> simp [kindOf,Sem.run_pure]
theorem run_find {str:Bool} {key:TypeId} {kv:Value} {es:List MapEntry} {o:Option (Nat × Value)} (ht:P.underlying key = some (kindOf str)) (h:Instr.findNow (kindOf str) kv es 0 = some o):(Instr.findKey key kv es).run P w = .ok o w:=by
 simp only [Instr.findKey,Sem.run_bind,run_underlying ht,Result.andThen_ok,h,Sem.run_pure]
theorem op_mkmap {t:TypeId} (hs:St F L w) (he:EnvOk L ρ a) (hd:∀ k,o.dst = some k → k < a.tmps.size) (ho:o.op = .makeMap t none)
  (hK:evalOp P .mkmap o.dst F L ρ K):o.wp P a w (Next1 F L w a K) Q:=by
 simp only [evalOp] at hK
 split at hK
 case h_2 => exact hK.elim
 rename_i _ k hdst
 split at hK
 case h_2 => exact hK.elim
 rename_i _ hk
 have hK:=hK w.heap.size
 obtain ⟨h1,h2,h3⟩:=alloc_ownO hs hk (ob:=.map #[] 0) (e:=.box w.heap.size 0 []) rfl (by show _ = _; rw [heap_new]; rfl)
 refine wp_val' he hd (v:=.map (some w.heap.size)) (x:=.v (.map (some w.heap.size))) ?_ h1 h2 rfl noOwn noEl h3 hK
 simp [execOp,ho,run_makeMap]
theorem op_mlook {str ok:Bool} {t key e:TypeId} {y z:Operand} {y' z':X} {j:TypeInfo} {zv:Value} (hs:St F L w) (he:EnvOk L ρ a) (hd:∀ k,o.dst = some k → k < a.tmps.size)
  (ho:o.op = .lookup t y z ok) (ht:P.underlying t = some (.map key e)) (hkd:P.underlying key = some (kindOf str)) (hi:P.info? e = some j) (hz:j.zero = some zv) (hy:lowX y = some y') (hz':lowX z = some z')
  (hK:evalOp P (.mlook str ok zv y' z') o.dst F L ρ K):o.wp P a w (Next1 F L w a K) Q:=by
 have ey:=lowX_eval hy he
 have ez:=lowX_eval hz' he
 simp only [evalOp,outV] at hK
 split at hK
 case h_2 => exact hK.elim
 rename_i g hm
 obtain ⟨k,cs,hk,hmc,hK⟩:=hK
 have hg:=map_of hs hk hmc
 have hgo:(getObj g).run P w = .ok (.map (entsFrom cs 0).toArray cs.length) w:=by simp [getObj,Sem.run,hg]
 have hck:=run_checkK (w:=w) (kv:=val L ρ z') hkd (entsFrom cs 0).toArray.isEmpty
 rcases hK.out with ⟨i,v,h1,h2⟩ | ⟨h1,h2⟩
 ·have hf:=run_find (P:=P) (w:=w) hkd (find_ents h1)
  refine wp_val hs he hd ?_ rfl noOwn noEl h2
  simp only [execOp,ho,ey,ez,val_v hm,Instr.lookup,Sem.run_bind,run_underlying ht,Result.andThen_ok,hgo,Sem.run_pure,hck,hf]
  cases ok <;> simp [Sem.run_pure,conc]
 ·have hf:=run_find (P:=P) (w:=w) hkd (find_ents h1)
  refine wp_val hs he hd ?_ rfl noOwn noEl h2
  simp only [execOp,ho,ey,ez,val_v hm,Instr.lookup,Sem.run_bind,run_underlying ht,Result.andThen_ok,hgo,Sem.run_pure,hck,hf]
  cases ok <;> simp [Sem.run_pure,zeroValue,typeInfo,run_program,hi,hz,conc]
theorem op_mlen {t key e:TypeId} {y:Operand} {y':X} {c:Call} (hs:St F L w) (he:EnvOk L ρ a) (hd:∀ k,o.dst = some k → k < a.tmps.size)
  (ho:o.op = .call c) (hc:c.callee = .builtin .len) (ha:c.args = #[y]) (hts:c.argTypes = #[t]) (ht:P.underlying t = some (.map key e)) (hy:lowX y = some y')
  (hK:evalOp P (.mlen y') o.dst F L ρ K):o.wp P a w (Next1 F L w a K) Q:=by
 have ey:=lowX_eval hy he
 simp only [evalOp,outV] at hK
 split at hK
 case h_2 => exact hK.elim
 rename_i g hm
 obtain ⟨k,cs,hk,hmc,hK⟩:=hK
 have hg:=map_of hs hk hmc
 have hgo:(getObj g).run P w = .ok (.map (entsFrom cs 0).toArray cs.length) w:=by simp [getObj,Sem.run,hg]
 refine wp_val hs he hd (v:=.int .i64 cs.length) (x:=.v (.int .i64 cs.length)) ?_ rfl noOwn noEl hK
 simp [execOp,ho,resolve,hc,ha,hts,invoke,builtin,Builtin.len_,ey,val_v hm,run_underlying ht,goInt,hgo,ents_length]
theorem set_own (hs:St F L w) {k g:Nat} {cs cs':List Value} (hk:L.get k = some (.box g 0 cs)):St F (L.set k (.box g 0 cs')) (setBlock w g (mapObj cs')) ∧ Step F L w F (L.set k (.box g 0 cs')) (setBlock w g (mapObj cs')) ∧
  (∀ j g' ty xs,L.get j = some (.box g' ty xs) → ∃ xs',(L.set k (.box g 0 cs')).get j = some (.box g' ty xs')):=by
 have hlt:g < w.heap.size:=Own.ok_lt (hs.own k _ hk) rfl
 have hoth:∀ b,b ≠ g → (setBlock w g (mapObj cs')).heap[b]? = w.heap[b]?:=fun b hb => by
  show (w.heap.setIfInBounds g (mapObj cs'))[b]? = _
  rw [Array.getElem?_setIfInBounds,if_neg (fun e => hb e.symm)]
 have hsz:w.heap.size ≤ (setBlock w g (mapObj cs')).heap.size:=by show _ ≤ (w.heap.setIfInBounds g (mapObj cs')).size; simp
 refine ⟨hs.turn hk ?_ (fun b hb hne => hoth b fun e => hne (by rw [e]; rfl)) (fun g' hg' => .inl hg'),⟨Frz.le_refl F,rfl,rfl,rfl,hsz,fun b hb hn => hoth b fun e => hn ⟨k,_,hk,by rw [e]; rfl⟩,fun b h => .inl h,fun b h => ?_⟩,fun j g' ty xs e => ?_⟩
 ·show (w.heap.setIfInBounds g (mapObj cs'))[g]? = _
  rw [Array.getElem?_setIfInBounds,if_pos rfl,if_pos hlt]
  rfl
 ·rcases Loc.owns_set h with h | h
  ·exact .inl ⟨k,_,hk,h⟩
  ·exact .inl h
 ·rw [Loc.get_set]
  split
  ·rename_i hj
   subst hj
   rw [hk] at e
   injection e with e
   injection e with e1 e2 e3
   subst e1 e2
   exact ⟨_,rfl⟩
  ·exact ⟨xs,e⟩
theorem run_mapUpdate {str:Bool} {t key e:TypeId} {g:Nat} {kv vv:Value} {cs cs':List Value} (ht:P.underlying t = some (.map key e)) (hkd:P.underlying key = some (kindOf str))
  (hg:w.heap[g]? = some (.map (entsFrom cs 0).toArray cs.length)) (hkk:keySame str kv kv = some true) (h:setV str kv vv cs = some cs') :
  (Instr.mapUpdate t (.map (some g)) kv vv).run P w = .ok () (setBlock w g (mapObj cs')):=by
 have hgo:(getObj g).run P w = .ok (.map (entsFrom cs 0).toArray cs.length) w:=by simp [getObj,Sem.run,hg]
 have hso:∀ o',(setObj g o').run P w = .ok () (setBlock w g o'):=fun o' => by simp [setObj,Sem.run,hg,setBlock]
 have hck:=run_key (P:=P) (w:=w) (str:=str) (kv:=kv) hkd hkk false
 rw [mapObj_of (setV_isMap h)]
 rcases setV_find hkk (i:=0) h with ⟨j,v,h1,h2,h3,h4,h5⟩ | ⟨h1,h2⟩
 ·have hf:=run_find (P:=P) (w:=w) hkd (find_ents h1)
  have hkey:(((entsFrom cs 0).toArray[0 + j]?).map (·.key)).getD kv = kv:=by
   rw [Nat.zero_add]
   simp only [List.getElem?_toArray]
   rw [h3]
   rfl
  simp only [Instr.mapUpdate,Sem.run_bind,run_underlying ht,Result.andThen_ok,hgo,hck,hf,hkey,Instr.keyThatStays,bits_of hkk,if_true,Sem.run_pure,hso]
  rw [h4,h5,Nat.zero_add]
  congr 3
  apply Array.ext'
  simp
 ·have hf:=run_find (P:=P) (w:=w) hkd (find_ents h1)
  simp only [Instr.mapUpdate,Sem.run_bind,run_underlying ht,Result.andThen_ok,hgo,hck,hf,hso]
  subst h2
  congr 3
  ·apply Array.ext'
   have:∀ (l:List Value) (i:Nat),entsFrom (l ++ [.agg #[kv,vv]]) i = entsFrom l i ++ [{ key:=kv,val:=vv,born:=i + l.length }]:=by
    intro l
    induction l with
    | nil => intro i; simp [entsFrom,entOf]
    | cons c l ih => intro i; simp only [List.cons_append,entsFrom,ih,List.length_cons]; rw [show i + 1 + l.length = i + (l.length + 1) by omega]
   simp [this]
  ·simp
theorem op_mupd {str:Bool} {t key e:TypeId} {y z u:Operand} {y' z' u':X} (hs:St F L w) (he:EnvOk L ρ a) (hd:∀ k,o.dst = some k → k < a.tmps.size)
  (ho:o.op = .mapUpdate t y z u ∨ o.op = .insert t y z u) (ht:P.underlying t = some (.map key e)) (hkd:P.underlying key = some (kindOf str)) (hy:lowX y = some y') (hz:lowX z = some z') (hu:lowX u = some u')
  (hK:evalOp P (.mupd str y' z' u') o.dst F L ρ K):o.wp P a w (Next1 F L w a K) Q:=by
 have ey:=lowX_eval hy he
 have ez:=lowX_eval hz he
 have eu:=lowX_eval hu he
 simp only [evalOp] at hK
 split at hK
 case h_2 => exact hK.elim
 rename_i g hm
 obtain ⟨k,cs,hk,hmc,hK⟩:=hK
 obtain ⟨hkk,cs',hset,hK⟩:=hK
 have hg:=map_of hs hk hmc
 obtain ⟨h1,h2,h3⟩:=set_own hs hk (cs':=cs')
 refine wp_skip' he hd (w':=setBlock w g (mapObj cs')) ?_ h1 h2 h3 hK
 have hr:=run_mapUpdate (w:=w) ht hkd hg hkk hset
 rcases ho with ho | ho <;> simp [execOp,ho,ey,ez,eu,val_v hm,hr]
theorem op_mrange {t key e:TypeId} {y:Operand} {y':X} (hs:St F L w) (he:EnvOk L ρ a) (hd:∀ k,o.dst = some k → k < a.tmps.size)
  (ho:o.op = .range t y) (ht:P.underlying t = some (.map key e)) (hy:lowX y = some y') (hK:evalOp P (.mrange y') o.dst F L ρ K):o.wp P a w (Next1 F L w a K) Q:=by
 have ey:=lowX_eval hy he
 simp only [evalOp] at hK
 split at hK
 case h_2 => exact hK.elim
 rename_i _ g k hm hdst
 split at hK
 case h_2 => exact hK.elim
 rename_i _ hk
 obtain ⟨km,cs,hkm,hmc,hK⟩:=hK
 have hg:=map_of hs hkm hmc
 have hgo:(getObj g).run P w = .ok (.map (entsFrom cs 0).toArray cs.length) w:=by simp [getObj,Sem.run,hg]
 have hK:=hK w.heap.size
 obtain ⟨h1,h2,h3⟩:=alloc_ownO hs hk (ob:=.mapIter (some g) cs.length #[] cs.length) (e:=.box w.heap.size 0 [.tuple #[.map (some g),.int .i64 cs.length]]) rfl (by show _ = _; rw [heap_new]; simp [boxObj,mapObj])
 refine wp_val' he hd (v:=.pointer (some ⟨w.heap.size,0,none⟩)) (x:=.own k 0) ?_ h1 h2 ?_ ?_ (fun _ _ e => by cases e) h3 hK
 ·simp [execOp,ho,Instr.range,ey,val_v hm,run_underlying ht,hgo]
 ·simp only [conc,Loc.get_set,if_true]
 ·rintro k' off e
  injection e with e1 e2
  subst e1
  exact ⟨_,_,_,by rw [Loc.get_set,if_pos rfl]⟩
theorem op_mnext {y:Operand} {y':X} (hs:St F L w) (he:EnvOk L ρ a) (hd:∀ k,o.dst = some k → k < a.tmps.size)
  (ho:o.op = .next y false) (hy:lowX y = some y') (hK:evalOp P (.mnext y') o.dst F L ρ K):o.wp P a w (Next1 F L w a K) Q:=by
 have ey:=lowX_eval hy he
 simp only [evalOp] at hK
 split at hK
 case h_2 => exact hK.elim
 rename_i k hm
 split at hK
 case h_2 => exact hK.elim
 rename_i gi g n seen hk
 obtain ⟨km,cs,hkm,hmc,hlen,hsome,hend⟩:=hK.out
 have hg:=map_of hs hkm hmc
 have hit:w.heap[gi]? = some (.mapIter (some g) n (seen.map seenOf).toArray n):=by
  have h:=hs.own k _ hk
  simp only [Own.ok,boxObj,mapObj] at h
  exact h
 have hya:a.eval y = .pointer (some ⟨gi,0,none⟩):=by rw [ey]; simp only [val,hm,conc,hk]
 have hold:∀ x ∈ (entsFrom cs 0).toArray.toList,x.born < n:=by
  intro x hx
  simp only [List.toList_toArray] at hx
  obtain ⟨j,hj⟩:=List.mem_iff_getElem?.1 hx
  rw [ents_get] at hj
  cases hc:cs[j]? with
  | none => rw [hc] at hj; cases hj
  | some v =>
   rw [hc] at hj
   simp only [Option.map_some,Option.some.injEq] at hj
   rw [← hj,entOf_born]
   have:=(List.getElem?_eq_some_iff.1 hc).1
   omega
 rcases run_next_at (P:=P) w o.type gi g n n (seen.map seenOf).toArray (entsFrom cs 0).toArray cs.length hit hg hold (Nat.le_refl _) with ⟨h0,hrun⟩ | ⟨e,hmem,w1,hw1,hrun⟩
 ·refine wp_val hs he hd (v:=.tuple #[.bool false]) (x:=.v (.tuple #[.bool false])) ?_ rfl noOwn noEl (hend fun j hj => ?_)
  ·simp only [execOp,ho,hya,Sem.run_bind,hrun,Result.andThen_ok,Sem.run_pure]
  ·have hc:∃ v,cs[j]? = some v:=⟨cs[j]'(by omega),List.getElem?_eq_getElem (by omega)⟩
   obtain ⟨v,hc⟩:=hc
   have he0:(entsFrom cs 0)[j]? = some (entOf v (0 + j)):=by rw [ents_get,hc]; rfl
   have hin:entOf v (0 + j) ∈ entsFrom cs 0:=List.mem_of_getElem? he0
   apply Classical.byContradiction
   intro hnot
   have h1:entOf v (0 + j) ∈ (leftOf (entsFrom cs 0).toArray (seen.map seenOf).toArray).toList:=by
    unfold leftOf
    simp only [Array.toList_filter,List.mem_filter,hin,true_and]
    rw [entOf_born]
    simpa using hnot
   have h2:(leftOf (entsFrom cs 0).toArray (seen.map seenOf).toArray) = #[]:=Array.eq_empty_of_size_eq_zero h0
   rw [h2] at h1
   cases h1
 ·unfold leftOf at hmem
  simp only [Array.toList_filter,List.mem_filter] at hmem
  obtain ⟨hin,hnot⟩:=hmem
  obtain ⟨j,hj⟩:=List.mem_iff_getElem?.1 hin
  rw [ents_get] at hj
  cases hc:cs[j]? with
  | none => rw [hc] at hj; cases hj
  | some v =>
   rw [hc] at hj
   simp only [Option.map_some,Option.some.injEq,Nat.zero_add] at hj
   subst hj
   rw [entOf_born] at hrun hnot
   have hns:j ∉ seen.map seenOf:=by simpa using hnot
   have hK':=hsome j v hc hns
   have hs1:St F L w1:=by rcases hw1 with rfl | rfl; exact hs; exact hs.drew
   obtain ⟨h1,h2,h3⟩:=set_own hs1 hk (cs':=.tuple #[.map (some g),.int .i64 n] :: (seen ++ [.int .i64 j]))
   have hst:Step F L w F L w1:=by
    rcases hw1 with rfl | rfl
    ·exact Step.refl _ _ _
    ·exact ⟨Frz.le_refl F,rfl,rfl,rfl,Nat.le_refl _,fun _ _ _ => rfl,fun _ h => .inl h,fun _ h => .inl h⟩
   have hobj:mapObj (.tuple #[.map (some g),.int .i64 n] :: (seen ++ [.int .i64 j])) = .mapIter (some g) n ((seen.map seenOf).toArray.push j) cs.length:=by
    simp [mapObj,seenOf,hlen]
   rw [hobj] at h1 h2
   refine wp_val' he hd (v:=.tuple #[.bool true,(entOf v j).key,(entOf v j).val]) (x:=.v (.tuple #[.bool true,(entOf v j).key,(entOf v j).val])) ?_ h1 (hst.trans h2) rfl noOwn noEl h3 hK'
   simp only [execOp,ho,hya,Sem.run_bind,hrun,Result.andThen_ok,Sem.run_pure]
theorem op_mentry {y:Operand} {y':X} (hs:St F L w) (he:EnvOk L ρ a) (hd:∀ k,o.dst = some k → k < a.tmps.size)
  (ho:o.op = .entry y) (hy:lowX y = some y') (hK:evalOp P (.mentry y') o.dst F L ρ K):o.wp P a w (Next1 F L w a K) Q:=by
 have ey:=lowX_eval hy he
 simp only [evalOp] at hK
 split at hK
 case h_2 => exact hK.elim
 rename_i k hm
 split at hK
 case h_2 => exact hK.elim
 rename_i gi g n seen hk
 obtain ⟨km,cs,j,e,hkm,hmc,hlen,hlast,hj,hK2⟩:=hK.out
 have hg:=map_of hs hkm hmc
 have hit:w.heap[gi]? = some (.mapIter (some g) n (seen.map seenOf).toArray n):=by
  have h:=hs.own k _ hk
  simp only [Own.ok,boxObj,mapObj] at h
  exact h
 have hya:a.eval y = .pointer (some ⟨gi,0,none⟩):=by rw [ey]; simp only [val,hm,conc,hk]
 have hseen:∃ l,seen = l ++ [.int .i64 (.ofNat j)]:=by
  have hne:seen ≠ []:=by rintro rfl; simp at hlast
  refine ⟨seen.dropLast,?_⟩
  rw [List.getLast?_eq_some_getLast hne] at hlast
  injection hlast with hlast
  rw [← hlast]
  exact (List.dropLast_concat_getLast hne).symm
 obtain ⟨l,rfl⟩:=hseen
 have hent:(entsFrom cs 0)[j]? = some (entOf e j):=by rw [ents_get,hj]; simp
 have hborn:(entOf e j).born = j:=entOf_born e j
 have hnd:((entsFrom cs 0).toArray.toList.map (·.born)).Nodup:=by
  have:∀ (cs:List Value) (i:Nat),(entsFrom cs i).map (·.born) = List.range' i cs.length:=by
   intro cs
   induction cs with
   | nil => intro i; rfl
   | cons c cs ih => intro i; simp [entsFrom,entOf_born,ih,List.range'_succ]
  simp only [List.toList_toArray,this]
  exact List.nodup_range' ..
 have hobj:((l ++ [Value.int .i64 (.ofNat j)]).map seenOf).toArray = (l.map seenOf).toArray.push (entOf e j).born:=by
  rw [hborn]
  simp [seenOf]
 rw [hobj,← hlen] at hit
 have hrun:=run_entry_at (P:=P) w gi g cs.length (l.map seenOf).toArray (entsFrom cs 0).toArray cs.length (entOf e j) hit hg (by simpa using List.mem_of_getElem? hent) hnd
 refine wp_val hs he hd (v:=.tuple #[(entOf e j).key,(entOf e j).val]) (x:=.v (.tuple #[(entOf e j).key,(entOf e j).val])) ?_ rfl noOwn noEl hK2
 simp only [execOp,ho,hya,Sem.run_bind,hrun,Result.andThen_ok,Sem.run_pure]
end
end Go.Fr
