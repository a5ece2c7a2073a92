/- A symbolic evaluator over a simplified form of the model's code: an abstract state (frozen blocks, own blocks, slots), and what each operation does to it. Definitions alone. -/
import Derived.Orders
import Derived.Below
import Derived.Laws.OwnMore
import Derived.Maps.AppendAt
import Derived.WalkKit
import Derived.KernelRfl
set_option linter.unusedVariables false
set_option linter.unusedSimpArgs false
namespace Go.Fr
open Go Go.RowKit

abbrev Frz := Nat → Option Obj
def Frz.le (F G : Frz) : Prop := ∀ b o, F b = some o → G b = some o
theorem Frz.le_refl (F : Frz) : F.le F := fun _ _ h => h
theorem Frz.le_trans {F G H : Frz} (h : F.le G) (k : G.le H) : F.le H := fun b o e => k b o (h b o e)

/-- a slot's value: a value, or a pointer into an own box, or an element's address -/
inductive SV where
  | v (x : Value)
  | own (k off : Nat)
  | el (a : Option Addr) (j : Nat)
  deriving Inhabited

/-- what the activation owns: a box (a row of cells of known size), or a slice that may grow -/
inductive Own where
  | box (g : Nat) (t : TypeId) (cs : List Value)
  | row (v : Value) (t : TypeId) (sz n : Nat) (xs : List Value)

def Own.blk : Own → Option Nat
  | .box g _ _ => some g
  | .row v _ _ _ _ => v.ownBlock

abbrev Loc := List (Nat × Own)
def Loc.get : Loc → Nat → Option Own
  | [], _ => none
  | (j, o) :: l, k => match Nat.beq j k with | true => some o | false => Loc.get l k
def Loc.set : Loc → Nat → Own → Loc
  | [], k, o => [(k, o)]
  | (j, p) :: l, k, o => match Nat.beq j k with
    | true => (k, o) :: l
    | false => match Nat.ble j k with
      | true => (j, p) :: Loc.set l k o
      | false => (k, o) :: (j, p) :: l
def Loc.del : Loc → Nat → Loc
  | [], _ => []
  | (j, o) :: l, k => match Nat.beq j k with | true => Loc.del l k | false => (j, o) :: Loc.del l k

abbrev Env := Nat → SV
def put (d : Option Nat) (v : SV) (ρ : Env) : Env :=
  match d with
  | some d => fun j => match Nat.beq j d with | true => v | false => ρ j
  | none => ρ

/-- the value that a slot's content stands for -/
def conc (L : Loc) : SV → Value
  | .v x => x
  | .own k off => match L.get k with | some (.box g _ _) => .pointer (some ⟨g, off, none⟩) | _ => undef
  | .el a j => match a with | some ad => .pointer (some (ad.add j)) | none => undef

def Own.ok (w : World) : Own → Prop
  | .box g t cs => w.heap[g]? = some (.cells cs.toArray t (0, 0))
  | .row v t sz n xs => w.ownsRow 0 t sz v n xs

structure St (F : Frz) (L : Loc) (w : World) : Prop where
  frz : ∀ b o, F b = some o → w.heap[b]? = some o
  own : ∀ k o, L.get k = some o → o.ok w
  off : ∀ k o g, L.get k = some o → o.blk = some g → F g = none
  sep : ∀ k k' o o' g, L.get k = some o → L.get k' = some o' → o.blk = some g → o'.blk = some g → k = k'

def Loc.owns (L : Loc) (b : Nat) : Prop := ∃ k o, L.get k = some o ∧ o.blk = some b

/-- from one state on to a later one: nothing but own and new blocks has turned -/
structure Step (F : Frz) (L : Loc) (w : World) (F' : Frz) (L' : Loc) (w' : World) : Prop where
  le : F.le F'
  os : w'.os = w.os
  tape : w'.tape = w.tape
  output : w'.output = w.output
  size : w.heap.size ≤ w'.heap.size
  same : ∀ b, b < w.heap.size → ¬ L.owns b → w'.heap[b]? = w.heap[b]?
  frz : ∀ b, F' b ≠ none → F b ≠ none ∨ L.owns b ∨ w.heap.size ≤ b
  own : ∀ b, L'.owns b → L.owns b ∨ w.heap.size ≤ b

/-- the cells from an address on, in frozen memory or in a row of one's own -/
def FCells (F : Frz) (a : Option Addr) (j : Nat) (cs : List Value) : Prop :=
  ∃ ad arr t fr, a = some ad ∧ F ad.block = some (.cells arr t fr) ∧ ad.spot = none ∧ ∀ (i : Nat) (v : Value), cs[i]? = some v → arr[ad.off + j + i]? = some v

/-- the own blocks that a callee is handed, under the keys that it knows them by -/
def inpFrom : Nat → List Own → Loc
  | _, [] => []
  | k, o :: l => (k, o) :: inpFrom (k + 1) l
def inp (l : List Own) : Loc := inpFrom 1000 l

/-- what a contract says of a call: the own blocks that are handed over, and what comes of it -/
structure CallsA (P : Program) (f : FuncId) (args : Array Value) (F : Frz) (Lin : List Own) (R : Frz → List Own → Value → Prop) : Prop where
  ent : ∃ fn, P.funcs[f]? = some fn ∧ fn.body.isSome = true ∧ (fn.name == "runtime.NumGoroutine") = false
  mono : ∀ F G L v, F.le G → R F L v → R G L v
  run : ∀ w, St F (inp Lin) w → Calls P f args w fun e w' => ∃ v F' Lo, e = .returned v ∧ St F' (inp Lo) w' ∧ Step F (inp Lin) w F' (inp Lo) w' ∧ R F' Lo v

/-- operands -/
inductive X where
  | t (n : Nat)
  | c (v : Value)
  | fn (f : Nat)
  deriving Inhabited

def ev (ρ : Env) : X → SV
  | .t n => ρ n
  | .c v => .v v
  | .fn f => .v (.func (.func f) #[] #[])
def val (L : Loc) (ρ : Env) (x : X) : Value := conc L (ev ρ x)

inductive SOp where
  | mov (x : X)
  | pick (c a b : X)
  | box (t : TypeId) (x : X)
  | boxF (t : TypeId) (x : X)
  | alloc (t : TypeId) (zs : List Value)
  | mkF (e : TypeId) (n sz : Nat) (xs : List X)
  | mkR (e : TypeId) (n sz : Nat) (xs : List X)
  | build (zs : List Value) (ps : List (Nat × Nat × X))
  | load (agg : Bool) (n : Nat) (x : X)
  | loadD (agg : Bool) (n : Nat) (x : X)
  | store (n : Nat) (a x : X)
  | nilck (x : X)
  | bin (op : BinOp) (x y : X)
  | eqB (neg : Bool) (x y : X)
  | eqP (neg : Bool) (x y : X)
  | eqS (neg : Bool) (x y : X)
  | eqF (neg : Bool) (x y : X)
  | un (op : UnOp) (x : X)
  | conv (k : IntKind) (x : X)
  | b2s (x : X)
  | s2b (e : TypeId) (x : X)
  | mkfn (f : Nat) (first cap : List X)
  | makeS (e : TypeId) (sz bytes : Nat) (zs : List Value) (l c : X)
  | slc (sz : Nat) (x : X) (lo hi : Option X)
  | slcS (x : X) (lo hi : Option X)
  | fieldA (off : Nat) (x : X)
  | fieldV (agg : Bool) (off n : Nat) (x : X)
  | idxA (sz : Nat) (x i : X)
  | idxS (x i : X)
  | extr (x : X) (i : Nat)
  | call (f : Nat) (args : List X)
  | callV (f : X) (args : List X)
  | callD (f : Nat) (args : List X)
  | boxD (t : TypeId) (x : X)
  | allocD (t : TypeId) (zs : List Value)
  | mkFD (e : TypeId) (n sz : Nat) (xs : List X)
  | callVD (f : X) (args : List X)
  | callO (f : Nat) (args : List X)
  | callVO (f : X) (args : List X)
  | len (x : X)
  | lenS (x : X)
  | capa (x : X)
  | mm (mx : Bool) (args : List X)
  | app (e : TypeId) (sz bytes : Nat) (zs : List Value) (s x : X)
  | appD (e : TypeId) (sz bytes : Nat) (zs : List Value) (s x : X)
  | storeD (n : Nat) (a x : X)
  | appX (e : TypeId) (sz bytes : Nat) (zs : List Value) (s x : X)
  | appS (e : TypeId) (s x : X)
  | copy (e : TypeId) (sz : Nat) (d s : X)
  deriving Inhabited

structure SOper where
  dst : Option Nat
  op : SOp
  guard : Option (Nat × Bool)
  deriving Inhabited

abbrev Kont := Frz → Loc → Env → Prop

def splice (cs : List Value) (off : Nat) (vs : List Value) : List Value := cs.take off ++ vs ++ cs.drop (off + vs.length)
/- where the evaluator stops -/
structure Fit (k : IntKind) (n : Int) (K : Int → Prop) : Prop where
  out : K (k.wrap n)
structure NonZ (n : Int) (K : Prop) : Prop where
  ne : n ≠ 0
  out : K
structure InB (i : Int) (n : Int) (K : Prop) : Prop where
  lo : 0 ≤ i
  hi : i < n
  out : K
structure IdxPt (a : Option Addr) (i : Int) (n : Int) (K : Prop) : Prop where
  ne : a ≠ none
  lo : 0 ≤ i
  hi : i < n
  out : K
structure LoadPt (F : Frz) (L : Loc) (a : Option Addr) (j n : Nat) (K : List Value → Prop) : Prop where
  out : ∃ cs, cs.length = n ∧ (FCells F a j cs ∨ (∃ k v t sz m xs ad c, L.get k = some (.row v t sz m xs) ∧ a = some ad ∧ v = .slice (some ad) m c ∧ ∀ (i : Nat) (u : Value), cs[i]? = some u → xs[j + i]? = some u) ∨ n = 0) ∧ K cs
structure LoadDPt (F : Frz) (a : Option Addr) (j n : Nat) (K : List Value → Prop) : Prop where
  out : ∃ cs, cs.length = n ∧ (FCells F a j cs ∨ n = 0) ∧ K cs
structure StorePt (L : Loc) (a : Option Addr) (j : Nat) (cs : List Value) (K : Loc → Prop) : Prop where
  out : ∃ k v t sz m xs ad c, L.get k = some (.row v t sz m xs) ∧ a = some ad ∧ v = .slice (some ad) m c ∧ j + cs.length ≤ xs.length ∧ (∀ u ∈ cs, u.oneCell' = true) ∧
    K (L.set k (.row v t sz m (splice xs j cs)))
/-- a call: the keys handed over, the keys taken back -/
def Loc.sub (L : Loc) : List Nat → Option (List Own)
  | [] => some []
  | k :: ks => match L.get k, Loc.sub L ks with
    | some o, some l => some (o :: l)
    | _, _ => none
def Loc.dels (L : Loc) : List Nat → Loc
  | [] => L
  | k :: ks => Loc.dels (L.del k) ks
def Loc.puts (L : Loc) : List Nat → List Own → Loc
  | k :: ks, o :: l => Loc.puts (L.set k o) ks l
  | _, _ => L
structure CallPt (P : Program) (f : Nat) (args : List Value) (F : Frz) (L : Loc) (K : Frz → Loc → Value → Prop) : Prop where
  out : ∃ (ks ko : List Nat) (Lin : List Own) (R : Frz → List Own → Value → Prop), L.sub ks = some Lin ∧ ks.Nodup ∧ ko.Nodup ∧ (∀ k, k ∈ ko → k ∈ ks ∨ L.get k = none) ∧ CallsA P f args.toArray F Lin R ∧
    ∀ v F' Lo, F.le F' → R F' Lo v → ko.length = Lo.length ∧
      (∀ k g t cs, k ∈ ks → L.get k = some (.box g t cs) → ∃ cs', Loc.get ((L.dels ks).puts ko Lo) k = some (.box g t cs')) ∧
      K F' ((L.dels ks).puts ko Lo) v
/-- a state that some world is in -/
def Real (F : Frz) (L : Loc) : Prop := ∃ w, St F L w
/-- a call that is handed nothing, and that hands back a value, and at the most one row that is the caller's from now on -/
inductive CallDPt (P : Program) (f : Nat) (args : List Value) (F : Frz) (L : Loc) (d : Option Nat) (K : Frz → Loc → Value → Prop) : Prop
  | frz (R : Frz → List Own → Value → Prop) (h : CallsA P f args.toArray F [] R) (k : ∀ v F' Lo, F.le F' → R F' Lo v → Lo = [] ∧ (Real F' L → K F' L v))
  | own (R : Frz → List Own → Value → Prop) (k : Nat) (h : CallsA P f args.toArray F [] R) (hd : d = some k) (hk : L.get k = none)
      (kk : ∀ v F' Lo, F.le F' → R F' Lo v → ∃ o, Lo = [o] ∧ (Real F' (L.set k o) → K F' (L.set k o) v))
/-- append: onto nil, or onto a row of one's own -/
structure AppPt (F : Frz) (L : Loc) (e : TypeId) (sz bytes : Nat) (s x : Value) (K : Loc → Value → Prop) : Prop where
  out : ∃ (kd : Nat) (n : Nat) (xs : List Value) (m : Nat) (news : List Value),
    (L.get kd = some (.row s e sz n xs) ∨ (L.get kd = none ∧ n = 0 ∧ xs = [] ∧ s = .slice none 0 0) ∨ (L.get kd = none ∧ ∃ ad, s = .slice (some ad) n n ∧ 0 < m ∧ xs.length = n * sz ∧ (FCells F (some ad) 0 xs ∨ (n = 0 ∧ xs = [])))) ∧
    (∃ a c, x = .slice a m c ∧ news.length = m * sz ∧ (FCells F a 0 news ∨ (m = 0 ∧ news = []) ∨
       ∃ k v t sz' m' ys ad c', L.get k = some (.row v t sz' m' ys) ∧ a = some ad ∧ v = .slice (some ad) m' c' ∧ ∀ (i : Nat) (u : Value), news[i]? = some u → ys[i]? = some u)) ∧
    (∀ u ∈ news, u.oneCell' = true) ∧ n + m ≤ maxLen ∧ (n + m) * bytes ≤ 140737488355328 ∧
    ∀ v, (∃ a c, v = .slice a (n + m) c ∧ (a = none → n + m = 0)) → K (L.set kd (.row v e sz (n + m) (xs ++ news))) v
structure AppDPt (F : Frz) (L : Loc) (d : Option Nat) (e : TypeId) (sz bytes : Nat) (s x : Value) (K : Loc → Value → Prop) : Prop where
  out : ∃ (kd : Nat) (n : Nat) (xs : List Value) (m : Nat) (news : List Value),
    (L.get kd = some (.row s e sz n xs) ∨ (d = some kd ∧ L.get kd = none ∧ n = 0 ∧ xs = [] ∧ s = .slice none 0 0)) ∧
    (∃ a c, x = .slice a m c ∧ news.length = m * sz ∧ (FCells F a 0 news ∨ (m = 0 ∧ news = []))) ∧
    (∀ u ∈ news, u.oneCell' = true) ∧ n + m ≤ maxLen ∧ (n + m) * bytes ≤ 140737488355328 ∧
    ∀ v, (∃ a c, v = .slice a (n + m) c ∧ (a = none → n + m = 0)) → Real F (L.set kd (.row v e sz (n + m) (xs ++ news))) → K (L.set kd (.row v e sz (n + m) (xs ++ news))) v
structure AppSPt (L : Loc) (e : TypeId) (s : Value) (t : ByteArray) (K : Loc → Value → Prop) : Prop where
  out : ∃ (kd : Nat) (n : Nat) (xs : List Value),
    (L.get kd = some (.row s e 1 n xs) ∨ (L.get kd = none ∧ n = 0 ∧ xs = [] ∧ s = .slice none 0 0)) ∧
    n + t.size ≤ maxLen ∧ (n + t.size) ≤ 140737488355328 ∧
    ∀ v, (∃ a c, v = .slice a (n + t.size) c ∧ (a = none → n + t.size = 0)) → K (L.set kd (.row v e 1 (n + t.size) (xs ++ t.data.toList.map fun b => Value.int .u8 b.toNat))) v
/-- copy into a row of one's own -/
structure CopyPt (F : Frz) (L : Loc) (e : TypeId) (sz : Nat) (d x : Value) (K : Loc → Nat → Prop) : Prop where
  out : ∃ (k n : Nat) (v : Value) (nr : Nat) (xs : List Value) (ad : Addr) (cr cd j m : Nat) (a : Option Addr) (c : Nat) (news : List Value),
    L.get k = some (.row v e sz nr xs) ∧ v = .slice (some ad) nr cr ∧ d = .slice (some (ad.add (j * sz))) n cd ∧ j + n ≤ nr ∧
    x = .slice a m c ∧ news.length = (min m n) * sz ∧ (FCells F a 0 news ∨ (min m n = 0 ∧ news = [])) ∧ (∀ u ∈ news, u.oneCell' = true) ∧
    K (L.set k (.row v e sz nr (splice xs (j * sz) news))) (min m n)
/-- bytes out of cells -/
structure BytesPt (cs : List Value) (K : List UInt8 → Prop) : Prop where
  out : ∃ bs : List UInt8, cs = bs.map (fun b => Value.int .u8 b.toNat) ∧ K bs
structure MakePt (n c : Int) (bytes : Nat) (K : Nat → Prop) : Prop where
  lo : 0 ≤ n
  eq : n = c
  hi : n.toNat * bytes ≤ 140737488355328
  max : n.toNat ≤ maxLen
  out : K n.toNat
structure SlcPt (l h : Int) (c : Nat) (K : Nat → Nat → Prop) : Prop where
  lo : 0 ≤ l
  le : l ≤ h
  hi : h ≤ c
  out : K l.toNat h.toNat

def brn : Bool → Prop → Prop → Prop
  | true, A, _ => A
  | false, _, B => B

def vcells : Value → List Value
  | .agg cs => cs.toList
  | v => [v]
def evals (L : Loc) (ρ : Env) : List X → List Value
  | [] => []
  | x :: xs => val L ρ x :: evals L ρ xs
def cellsOf (L : Loc) (ρ : Env) : List X → List Value
  | [] => []
  | x :: xs => vcells (val L ρ x) ++ cellsOf L ρ xs
def asVal (agg : Bool) (cs : List Value) : Value :=
  match agg, cs with
  | true, cs => .agg cs.toArray
  | false, [v] => v
  | false, _ => undef
/-- a number of elements that can be seen -/
def len? : List Value → Nat → Bool
  | [], 0 => true
  | _ :: l, n + 1 => len? l n
  | _, _ => false
def parts? (L : Loc) (ρ : Env) (sz : Nat) : List X → Bool
  | [] => true
  | x :: xs => match len? (vcells (val L ρ x)) sz with | true => parts? L ρ sz xs | false => false
def ones? : List Value → Bool
  | [] => true
  | v :: l => match v.oneCell' with | true => ones? l | false => false
def ngb : Bool → Bool → Bool
  | true, b => !b
  | false, b => b
def streq (a b : ByteArray) : Bool := decide (a.data.toList = b.data.toList)
def strlt (a b : ByteArray) : Bool := Op.bytesLess a.data.toList b.data.toList
def built (L : Loc) (ρ : Env) : List Value → List (Nat × Nat × X) → Option (List Value)
  | zs, [] => some zs
  | zs, (off, n, x) :: ps => match len? (vcells (val L ρ x)) n with
    | true => built L ρ (splice zs off (vcells (val L ρ x))) ps
    | false => none
def mmI (mx : Bool) : Int → List SV → Option Int
  | a, [] => some a
  | a, .v (.int _ b) :: l => mmI mx (match mx with | true => if b > a then b else a | false => if b < a then b else a) l
  | _, _ => none
def slcVal (a : Option Addr) (c l h sz : Nat) : Value := .slice (if c = l then a else a.map (·.add (l * sz))) (h - l) (c - l)
def optI (ρ : Env) (d : Int) : Option X → Option Int
  | none => some d
  | some x => match ev ρ x with | .v (.int _ i) => some i | _ => none

def binI (op : BinOp) (k : IntKind) (a b : Int) (K : Value → Prop) : Prop :=
  match op with
  | .add => Fit k (a + b) fun n => K (.int k n)
  | .sub => Fit k (a - b) fun n => K (.int k n)
  | .mul => Fit k (a * b) fun n => K (.int k n)
  | .quo => NonZ b (Fit k (a.tdiv b) fun n => K (.int k n))
  | .rem => NonZ b (K (.int k (a.tmod b)))
  | .and => K (.int k (k.wrap (BitVec.ofInt k.bits a &&& BitVec.ofInt k.bits b).toNat))
  | .or => K (.int k (k.wrap (BitVec.ofInt k.bits a ||| BitVec.ofInt k.bits b).toNat))
  | .xor => K (.int k (k.wrap (BitVec.ofInt k.bits a ^^^ BitVec.ofInt k.bits b).toNat))
  | .andNot => K (.int k (k.wrap (BitVec.ofInt k.bits a &&& ~~~ BitVec.ofInt k.bits b).toNat))
  | .eql => K (.bool (decide (a = b)))
  | .neq => K (.bool (!decide (a = b)))
  | .lss => K (.bool (decide (a < b)))
  | .leq => K (.bool (decide (a ≤ b)))
  | .gtr => K (.bool (decide (b < a)))
  | .geq => K (.bool (decide (b ≤ a)))
  | _ => False
def shI (op : BinOp) (k : IntKind) (a b : Int) (K : Value → Prop) : Prop :=
  match op with
  | .shl => 0 ≤ b ∧ Fit k (a * 2 ^ (min b.toNat k.bits)) fun n => K (.int k n)
  | .shr => 0 ≤ b ∧ K (.int k (a.fdiv (2 ^ (min b.toNat k.bits))))
  | _ => False
def binS (op : BinOp) (a b : ByteArray) (K : Value → Prop) : Prop :=
  match op with
  | .add => ((a.size + b.size : Nat) : Int) ≤ IntKind.i64.max ∧ K (.string (a ++ b))
  | .eql => K (.bool (streq a b))
  | .neq => K (.bool (!streq a b))
  | .lss => K (.bool (strlt a b))
  | .geq => K (.bool (!strlt a b))
  | _ => False
def kindEq : IntKind → IntKind → Bool
  | .i64, .i64 => true | .u8, .u8 => true | .u64, .u64 => true | .i32, .i32 => true | .u16, .u16 => true | .u32, .u32 => true | .i8, .i8 => true | .i16, .i16 => true
  | _, _ => false
def isSh : BinOp → Bool
  | .shl | .shr => true
  | _ => false

def outV (o : SOp) (F : Frz) (L : Loc) (ρ : Env) (V : SV → Prop) : Prop :=
  match o with
  | .mov x => V (ev ρ x)
  | .pick c a b => match ev ρ c with
    | .v (.bool true) => V (ev ρ a)
    | .v (.bool false) => V (ev ρ b)
    | _ => False
  | .build zs ps => match built L ρ zs ps with
    | some cs => V (.v (.agg cs.toArray))
    | none => False
  | .load agg n x => match ev ρ x with
    | .own k off => match L.get k with
      | some (.box _ _ cs) => match len? ((cs.drop off).take n) n with
        | true => V (.v (asVal agg ((cs.drop off).take n)))
        | false => False
      | _ => False
    | .el a j => LoadPt F L a j n fun cs => V (.v (asVal agg cs))
    | .v (.pointer (some a)) => LoadPt F L (some a) 0 n fun cs => V (.v (asVal agg cs))
    | _ => False
  | .nilck x => match ev ρ x with
    | .own k off => V (.own k off)
    | .el a j => a ≠ none ∧ V (.el a j)
    | .v (.pointer (some a)) => V (.v (.pointer (some a)))
    | .v (.func (.func f) fi ca) => V (.v (.func (.func f) fi ca))
    | _ => False
  | .bin op x y => match ev ρ x, ev ρ y with
    | .v (.int k a), .v (.int k' b) => match isSh op with
      | true => shI op k a b fun v => V (.v v)
      | false => match kindEq k k' with
        | true => binI op k a b fun v => V (.v v)
        | false => False
    | .v (.string a), .v (.string b) => binS op a b fun v => V (.v v)
    | _, _ => False
  | .eqB neg x y => match ev ρ x, ev ρ y with
    | .v (.bool a), .v (.bool b) => V (.v (.bool (ngb neg (decide (a = b)))))
    | _, _ => False
  | .eqP neg x y => match ev ρ x, ev ρ y with
    | .own _ _, .v (.pointer none) => V (.v (.bool (ngb neg false)))
    | .el (some _) _, .v (.pointer none) => V (.v (.bool (ngb neg false)))
    | .v (.pointer a), .v (.pointer none) => V (.v (.bool (ngb neg a.isNone)))
    | _, _ => False
  | .eqS neg x y => match ev ρ x, ev ρ y with
    | .v (.slice a _ _), .v (.slice none _ _) => V (.v (.bool (ngb neg a.isNone)))
    | _, _ => False
  | .eqF neg x y => match ev ρ x, ev ρ y with
    | .v .nilFunc, .v .nilFunc => V (.v (.bool (ngb neg true)))
    | .v (.func _ _ _), .v .nilFunc => V (.v (.bool (ngb neg false)))
    | _, _ => False
  | .un op x => match op, ev ρ x with
    | .not, .v (.bool b) => V (.v (.bool (!b)))
    | .neg, .v (.int k n) => Fit k (0 - n) fun m => V (.v (.int k m))
    | .xor, .v (.int k n) => V (.v (.int k (k.wrap (BitVec.ofInt k.bits (if k.signed then -1 else k.max) ^^^ BitVec.ofInt k.bits n).toNat)))
    | _, _ => False
  | .conv k x => match ev ρ x with
    | .v (.int _ n) => Fit k n fun m => V (.v (.int k m))
    | _ => False
  | .b2s x => match ev ρ x with
    | .v (.slice a n _) => LoadPt F L a 0 n fun cs => BytesPt cs fun bs => V (.v (.string ⟨bs.toArray⟩))
    | _ => False
  | .mkfn f fi ca => V (.v (.func (.func f) (evals L ρ fi).toArray (evals L ρ ca).toArray))
  | .slc sz x lo hi => match ev ρ x with
    | .v (.slice a n c) => match optI ρ 0 lo, optI ρ n hi with
      | some l, some h => SlcPt l h c fun l h => V (.v (slcVal a c l h sz))
      | _, _ => False
    | _ => False
  | .slcS x lo hi => match ev ρ x with
    | .v (.string s) => match optI ρ 0 lo, optI ρ s.size hi with
      | some l, some h => SlcPt l h s.size fun l h => V (.v (.string (s.extract l h)))
      | _, _ => False
    | _ => False
  | .fieldA off x => match ev ρ x with
    | .own k o => V (.own k (o + off))
    | .el a j => V (.el a (j + off))
    | .v (.pointer (some a)) => V (.el (some a) off)
    | _ => False
  | .fieldV agg off n x => match ev ρ x with
    | .v (.agg cs) => match len? ((cs.toList.drop off).take n) n with
      | true => V (.v (asVal agg ((cs.toList.drop off).take n)))
      | false => False
    | _ => False
  | .idxA sz x i => match ev ρ x, ev ρ i with
    | .v (.slice a n _), .v (.int _ i) => IdxPt a i n (V (.el a (i.toNat * sz)))
    | _, _ => False
  | .idxS x i => match ev ρ x, ev ρ i with
    | .v (.string s), .v (.int _ i) => InB i s.size (V (.v (.int .u8 ((s.data.toList.getD i.toNat 0).toNat))))
    | _, _ => False
  | .extr x i => match ev ρ x with
    | .v (.tuple vs) => match vs.toList[i]? with
      | some v => V (.v v)
      | none => False
    | _ => False
  | .len x => match ev ρ x with
    | .v (.slice _ n _) => V (.v (.int .i64 n))
    | _ => False
  | .lenS x => match ev ρ x with
    | .v (.string s) => V (.v (.int .i64 s.size))
    | _ => False
  | .capa x => match ev ρ x with
    | .v (.slice _ _ c) => V (.v (.int .i64 c))
    | _ => False
  | .mm mx args => match args.map (ev ρ) with
    | .v (.int k a) :: l => match mmI mx a l with
      | some m => V (.v (.int k m))
      | none => False
    | _ => False
  | .loadD agg n x => match ev ρ x with
    | .own k off => match L.get k with
      | some (.box _ _ cs) => match len? ((cs.drop off).take n) n with
        | true => V (.v (asVal agg ((cs.drop off).take n)))
        | false => False
      | _ => False
    | .el a j => LoadDPt F a j n fun cs => V (.v (asVal agg cs))
    | .v (.pointer (some a)) => LoadDPt F (some a) 0 n fun cs => V (.v (asVal agg cs))
    | _ => False
  | _ => False

def evalOp (P : Program) (o : SOp) (d : Option Nat) (F : Frz) (L : Loc) (ρ : Env) (K : Kont) : Prop :=
  match o with
  | .mov x => outV (.mov x) F L ρ fun v => K F L (put d v ρ)
  | .pick c a b => outV (.pick c a b) F L ρ fun v => K F L (put d v ρ)
  | .box t x => match d with
    | some k => match L.get k with
      | none => ∀ g, K F (L.set k (.box g t (vcells (val L ρ x)))) (put d (.own k 0) ρ)
      | some _ => False
    | none => False
  | .boxF t x => ∀ g F', F.le F' → F' g = some (.cells (vcells (val L ρ x)).toArray t (0, 0)) → K F' L (put d (.v (.pointer (some ⟨g, 0, none⟩))) ρ)
  | .alloc t zs => match d with
    | some k => match L.get k with
      | none => ∀ g, K F (L.set k (.box g t zs)) (put d (.own k 0) ρ)
      | some _ => False
    | none => False
  | .mkF e n sz xs => match parts? L ρ sz xs with
    | true => ∀ g F', F.le F' → F' g = some (.cells (cellsOf L ρ xs).toArray e (0, 0)) → K F' L (put d (.v (.slice (some ⟨g, 0, none⟩) n n)) ρ)
    | false => False
  | .mkR e n sz xs => match parts? L ρ sz xs, d with
    | true, some k => match L.get k with
      | none => ∀ g, K F (L.set k (.row (.slice (some ⟨g, 0, none⟩) n n) e sz n (cellsOf L ρ xs))) (put d (.v (.slice (some ⟨g, 0, none⟩) n n)) ρ)
      | some _ => False
    | _, _ => False
  | .build zs ps => outV (.build zs ps) F L ρ fun v => K F L (put d v ρ)
  | .load agg n x => outV (.load agg n x) F L ρ fun v => K F L (put d v ρ)
  | .store n a x => match len? (vcells (val L ρ x)) n, ones? (vcells (val L ρ x)), ev ρ a with
    | true, true, .own k off => match L.get k with
      | some (.box g t cs) => match len? ((cs.drop off).take n) n with
        | true => K F (L.set k (.box g t (splice cs off (vcells (val L ρ x))))) (put d (.v undef) ρ)
        | false => False
      | _ => False
    | true, true, .el ad j => StorePt L ad j (vcells (val L ρ x)) fun L' => K F L' (put d (.v undef) ρ)
    | true, true, .v (.pointer (some ad)) => StorePt L (some ad) 0 (vcells (val L ρ x)) fun L' => K F L' (put d (.v undef) ρ)
    | _, _, _ => False
  | .nilck x => outV (.nilck x) F L ρ fun v => K F L (put d v ρ)
  | .bin op x y => outV (.bin op x y) F L ρ fun v => K F L (put d v ρ)
  | .eqB neg x y => outV (.eqB neg x y) F L ρ fun v => K F L (put d v ρ)
  | .eqP neg x y => outV (.eqP neg x y) F L ρ fun v => K F L (put d v ρ)
  | .eqS neg x y => outV (.eqS neg x y) F L ρ fun v => K F L (put d v ρ)
  | .eqF neg x y => outV (.eqF neg x y) F L ρ fun v => K F L (put d v ρ)
  | .un op x => outV (.un op x) F L ρ fun v => K F L (put d v ρ)
  | .conv k x => outV (.conv k x) F L ρ fun v => K F L (put d v ρ)
  | .b2s x => outV (.b2s x) F L ρ fun v => K F L (put d v ρ)
  | .s2b _ x => match ev ρ x with
    | .v (.string s) => ∀ g c F', F.le F' → FCells F' (some ⟨g, 0, none⟩) 0 (s.data.toList.map fun b => Value.int .u8 b.toNat) → s.size ≤ c → K F' L (put d (.v (.slice (some ⟨g, 0, none⟩) s.size c)) ρ)
    | _ => False
  | .mkfn f fi ca => outV (.mkfn f fi ca) F L ρ fun v => K F L (put d v ρ)
  | .makeS e sz bytes zs l c => match ev ρ l, ev ρ c, d with
    | .v (.int _ n), .v (.int _ m), some k => match L.get k with
      | none => MakePt n m bytes fun n => ∀ g, K F (L.set k (.row (.slice (some ⟨g, 0, none⟩) n n) e sz n (List.replicate n zs).flatten)) (put d (.v (.slice (some ⟨g, 0, none⟩) n n)) ρ)
      | some _ => False
    | _, _, _ => False
  | .slc sz x lo hi => outV (.slc sz x lo hi) F L ρ fun v => K F L (put d v ρ)
  | .slcS x lo hi => outV (.slcS x lo hi) F L ρ fun v => K F L (put d v ρ)
  | .fieldA off x => outV (.fieldA off x) F L ρ fun v => K F L (put d v ρ)
  | .fieldV agg off n x => outV (.fieldV agg off n x) F L ρ fun v => K F L (put d v ρ)
  | .idxA sz x i => outV (.idxA sz x i) F L ρ fun v => K F L (put d v ρ)
  | .idxS x i => outV (.idxS x i) F L ρ fun v => K F L (put d v ρ)
  | .extr x i => outV (.extr x i) F L ρ fun v => K F L (put d v ρ)
  | .call f args => CallPt P f (evals L ρ args) F L fun F' L' v => K F' L' (put d (.v v) ρ)
  | .callV f args => match ev ρ f with
    | .v (.func (.func f) fi ca) => CallPt P f (fi.toList ++ evals L ρ args ++ ca.toList) F L fun F' L' v => K F' L' (put d (.v v) ρ)
    | _ => False
  | .len x => outV (.len x) F L ρ fun v => K F L (put d v ρ)
  | .lenS x => outV (.lenS x) F L ρ fun v => K F L (put d v ρ)
  | .capa x => outV (.capa x) F L ρ fun v => K F L (put d v ρ)
  | .mm mx args => outV (.mm mx args) F L ρ fun v => K F L (put d v ρ)
  | .app e sz bytes _ s x => match ev ρ s, ev ρ x with
    | .v sv, .v xv => AppPt F L e sz bytes sv xv fun L1 v => K F L1 (put d (.v v) ρ)
    | _, _ => False
  | .appX e sz bytes _ s x => match ev ρ s, ev ρ x with
    | .v sv, .v xv => AppPt F L e sz bytes sv xv fun L1 v => Real F L1 → K F L1 (put d (.v v) ρ)
    | _, _ => False
  | .appD e sz bytes _ s x => match ev ρ s, ev ρ x with
    | .v sv, .v xv => AppDPt F L d e sz bytes sv xv fun L1 v => K F L1 (put d (.v v) ρ)
    | _, _ => False
  | .appS e s x => match ev ρ s, ev ρ x with
    | .v sv, .v (.string t) => AppSPt L e sv t fun L1 v => K F L1 (put d (.v v) ρ)
    | _, _ => False
  | .copy e sz dd x => match ev ρ dd, ev ρ x with
    | .v dv, .v xv => CopyPt F L e sz dv xv fun L1 n => K F L1 (put d (.v (.int .i64 n)) ρ)
    | _, _ => False
  | .storeD n a x => match len? (vcells (val L ρ x)) n, ones? (vcells (val L ρ x)), ev ρ a with
    | true, true, .own k off => match L.get k with
      | some (.box g t cs) => match len? ((cs.drop off).take n) n with
        | true => K F (L.set k (.box g t (splice cs off (vcells (val L ρ x))))) (put d (.v undef) ρ)
        | false => False
      | _ => False
    | _, _, _ => False
  | .loadD agg n x => outV (.loadD agg n x) F L ρ fun v => K F L (put d v ρ)
  | .boxD t x => match d with
    | some k => match L.get k with
      | none => ∀ g, Real F (L.set k (.box g t (vcells (val L ρ x)))) → K F (L.set k (.box g t (vcells (val L ρ x)))) (put d (.own k 0) ρ)
      | some _ => False
    | none => False
  | .allocD t zs => match d with
    | some k => match L.get k with
      | none => ∀ g, Real F (L.set k (.box g t zs)) → K F (L.set k (.box g t zs)) (put d (.own k 0) ρ)
      | some _ => False
    | none => False
  | .mkFD e n sz xs => match parts? L ρ sz xs with
    | true => ∀ g F', F.le F' → F' g = some (.cells (cellsOf L ρ xs).toArray e (0, 0)) → Real F' L → K F' L (put d (.v (.slice (some ⟨g, 0, none⟩) n n)) ρ)
    | false => False
  | .callD f args => CallDPt P f (evals L ρ args) F L d fun F' L' v => K F' L' (put d (.v v) ρ)
  | .callVD f args => match ev ρ f with
    | .v (.func (.func f) fi ca) => CallDPt P f (fi.toList ++ evals L ρ args ++ ca.toList) F L d fun F' L' v => K F' L' (put d (.v v) ρ)
    | _ => False
  | .callO f args => CallPt P f (evals L ρ args) F L fun F' L' v => Real F' L' → K F' L' (put d (.v v) ρ)
  | .callVO f args => match ev ρ f with
    | .v (.func (.func f) fi ca) => CallPt P f (fi.toList ++ evals L ρ args ++ ca.toList) F L fun F' L' v => Real F' L' → K F' L' (put d (.v v) ρ)
    | _ => False

/-- a row that is given up to the frozen memory (no operation of the program's) -/
def FRow (F : Frz) (v : Value) (sz n : Nat) (xs : List Value) : Prop :=
  (v = .slice none 0 0 ∧ n = 0 ∧ xs = []) ∨ ∃ a c, v = .slice (some a) n c ∧ FCells F (some a) 0 xs ∧ n ≤ c
structure FrzPt (F : Frz) (L : Loc) (k : Nat) (K : Frz → Loc → Prop) : Prop where
  out : ∃ v t sz n xs, L.get k = some (.row v t sz n xs) ∧ ∀ F', F.le F' → FRow F' v sz n xs → K F' (L.del k)

inductive SStep where
  | op (dst : Option Nat) (o : SOp) (guard : Option (Nat × Bool))
  | frz (k : Nat)
  deriving Inhabited

/-- a box of one's own that is given up: the slots hold its address from now on -/
def unown (k g : Nat) (ρ : Env) : Env := fun j => match ρ j with
  | .own k' off => match Nat.beq k' k with | true => .v (.pointer (some ⟨g, off, none⟩)) | false => .own k' off
  | .v x => .v x
  | .el a i => .el a i
def evalOps (P : Program) : List SStep → Frz → Loc → Env → Kont → Prop
  | [], F, L, ρ, K => K F L ρ
  | .op d o none :: rest, F, L, ρ, K => evalOp P o d F L ρ fun F' L' ρ' => evalOps P rest F' L' ρ' K
  | .op d o (some (s, want)) :: rest, F, L, ρ, K => match ρ s with
    | .v (.bool b) => brn b
        (match want with
          | true => evalOp P o d F L (put (some s) (.v (.bool true)) ρ) fun F' L' ρ' => evalOps P rest F' L' ρ' K
          | false => evalOps P rest F L (put d (.v undef) (put (some s) (.v (.bool true)) ρ)) K)
        (match want with
          | false => evalOp P o d F L (put (some s) (.v (.bool false)) ρ) fun F' L' ρ' => evalOps P rest F' L' ρ' K
          | true => evalOps P rest F L (put d (.v undef) (put (some s) (.v (.bool false)) ρ)) K)
    | .v (.tuple _) => evalOps P rest F L (put d (.v undef) ρ) K
    | _ => False
  | .frz k :: rest, F, L, ρ, K => match L.get k with
    | some (.box g t cs) => ∀ F', F.le F' → F' g = some (.cells cs.toArray t (0, 0)) → evalOps P rest F' (L.del k) (unown k g ρ) K
    | _ => FrzPt F L k fun F' L' => evalOps P rest F' L' ρ K

inductive SCode where
  | skip
  | reg (ops : List SStep)
  | regD (ops : List SStep)
  | seq (a b : SCode)
  | cond (c : X) (a b : SCode)
  | block (id : Nat) (c : SCode)
  | loop (asg : List Nat) (c : SCode)
  | exit (id : Nat)
  | ret
  deriving Inhabited

def mem? : List Nat → Nat → Bool
  | [], _ => false
  | j :: l, k => match Nat.beq j k with | true => true | false => mem? l k

/-- the boxes that an own block list holds stay -/
def Loc.keeps : Loc → Loc → Prop
  | [], _ => True
  | (k, .box g t _) :: l, L' => (∃ cs, L'.get k = some (.box g t cs)) ∧ Loc.keeps l L'
  | (_, .row ..) :: l, L' => Loc.keeps l L'
structure RetPt (F : Frz) (L : Loc) (v : Value) (R : Frz → List Own → Value → Prop) : Prop where
  out : ∃ ko Lo, L.sub ko = some Lo ∧ ko.Nodup ∧ R F Lo v
/-- where a result lies: a slot, or the box that a slot points to -/
abbrev RV := Nat × Option (Bool × Nat)
def retV (L : Loc) (ρ : Env) : List RV → (List Value → Prop) → Prop
  | [], K => K []
  | (t, none) :: l, K => retV L ρ l fun vs => K (conc L (ρ t) :: vs)
  | (t, some (agg, n)) :: l, K => match ρ t with
    | .own k off => match L.get k with
      | some (.box _ _ cs) => match len? ((cs.drop off).take n) n with
        | true => retV L ρ l fun vs => K (asVal agg ((cs.drop off).take n) :: vs)
        | false => False
      | _ => False
    | _ => False
def resVal : List Value → Value
  | [v] => v
  | l => .tuple l.toArray
def argE : Nat → List SV → Env
  | _, [] => fun _ => .v undef
  | k, v :: l => put (some k) v (argE (k + 1) l)
/-- every entry is there, or is an empty row that can be had for nothing -/
def Loc.gives (L : Loc) : Loc → Prop
  | [] => True
  | (k, o) :: l => (L.get k = some o ∨ (L.get k = none ∧ ∃ t sz, o = .row (.slice none 0 0) t sz 0 [])) ∧ Loc.gives L l

def overJ (asg : List Nat) (jk : Nat → Value) (ρ : Env) : Env := fun j => match mem? asg j with | true => .v (jk j) | false => ρ j
def puts : List Nat → List SV → Env → Env
  | k :: ks, v :: vs, ρ => put (some k) v (puts ks vs ρ)
  | _, _, ρ => ρ
def holds : List Nat → List SV → Env → Prop
  | k :: ks, v :: vs, ρ => ρ k = v ∧ holds ks vs ρ
  | _, _, _ => True

structure LoopPt (body : Frz → Loc → Env → Kont → Prop) (asg : List Nat) (F : Frz) (L : Loc) (ρ : Env) : Prop where
  out : ∃ (σ : Type) (x0 : σ) (Inv : σ → Frz → Prop) (ls : List Nat) (lv : σ → List Value) (Lf : σ → Loc) (μ : σ → Nat),
    Inv x0 F ∧ holds ls ((lv x0).map .v) ρ ∧ L.gives (Lf x0) ∧ (∀ x, L.keeps (Lf x)) ∧
    ∀ x F' jk, F.le F' → Inv x F' → body F' (Lf x) (puts ls ((lv x).map .v) (overJ asg jk ρ)) fun F'' L'' ρ'' =>
      ∃ x', Inv x' F'' ∧ holds ls ((lv x').map .v) ρ'' ∧ L''.gives (Lf x') ∧ μ x' < μ x

def evalC (P : Program) : SCode → (Nat → Kont) → Kont → Kont → Kont
  | .skip, _, _, N, F, L, ρ => N F L ρ
  | .reg ops, _, _, N, F, L, ρ => evalOps P ops F L ρ N
  | .regD ops, _, _, N, F, L, ρ => evalOps P ops F L ρ N
  | .seq a b, E, R, N, F, L, ρ => evalC P a E R (fun F L ρ => evalC P b E R N F L ρ) F L ρ
  | .cond c a b, E, R, N, F, L, ρ => match ev ρ c with
    | .v (.bool t) => brn t (evalC P a E R N F L ρ) (evalC P b E R N F L ρ)
    | _ => False
  | .block id c, E, R, N, F, L, ρ => evalC P c (fun j => match Nat.beq j id with | true => N | false => E j) R N F L ρ
  | .loop asg c, E, R, _, F, L, ρ => LoopPt (fun F L ρ K => evalC P c E R K F L ρ) asg F L ρ
  | .exit id, E, _, _, F, L, ρ => E id F L ρ
  | .ret, _, R, _, F, L, ρ => R F L ρ

end Go.Fr
