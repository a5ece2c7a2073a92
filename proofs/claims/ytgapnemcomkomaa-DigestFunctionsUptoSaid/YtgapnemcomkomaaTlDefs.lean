/- The evaluator once more, over data without addresses: what a slot holds is a tree of data. Definitions alone. -/
import Derived.Test.YtgapnemcomkomaaFrRep
set_option linter.unusedVariables false
set_option linter.unusedSimpArgs false
namespace Go.Fr.T
open Go Go.RowKit Go.Fr

/-- data: a slice is the list of its elements, an element the list of its cells -/
inductive C where
  | int (k : IntKind) (n : Int)
  | bool (b : Bool)
  | str (s : ByteArray)
  | sl (els : List (List C))
  | slx (els : List (List C))
  | nils
  | rw (k : Nat)
  | own (k off : Nat)
  | ownv (k off : Nat)
  | pt (es : List C) (off : Nat)
  | elr (k j off : Nat)
  | fn (f : Nat) (fi ca : List C)
  | agg (cs : List C)
  | tup (cs : List C)
  | nilp
  | nilf
  | und
  | any
  deriving Inhabited

/-- what is owned -/
inductive TO where
  | box (t : TypeId) (cs : List C)
  | row (t : TypeId) (sz : Nat) (els : List (List C))
abbrev TL := List (Nat × TO)
def TL.get : TL → Nat → Option TO
  | [], _ => none
  | (j, o) :: l, k => match Nat.beq j k with | true => some o | false => TL.get l k
def TL.set : TL → Nat → TO → TL
  | [], k, o => [(k, o)]
  | (j, p) :: l, k, o => match Nat.beq j k with
    | true => (k, o) :: l
    | false => match Nat.ble j k with
      | true => (j, p) :: TL.set l k o
      | false => (k, o) :: (j, p) :: l
def TL.del : TL → Nat → TL
  | [], _ => []
  | (j, o) :: l, k => match Nat.beq j k with | true => TL.del l k | false => (j, o) :: TL.del l k
def TL.sub (L : TL) : List Nat → Option (List TO)
  | [] => some []
  | k :: ks => match L.get k, TL.sub L ks with
    | some o, some l => some (o :: l)
    | _, _ => none
def TL.dels (L : TL) : List Nat → TL
  | [] => L
  | k :: ks => TL.dels (L.del k) ks
def TL.puts (L : TL) : List Nat → List TO → TL
  | k :: ks, o :: l => TL.puts (L.set k o) ks l
  | _, _ => L
def tinpFrom : Nat → List TO → TL
  | _, [] => []
  | k, o :: l => (k, o) :: tinpFrom (k + 1) l
def tinp (l : List TO) : TL := tinpFrom 1000 l

/-- what a cell of memory may hold -/
def C.one : C → Bool
  | .int _ _ => true
  | .bool _ => true
  | .str _ => true
  | .sl _ => true
  | .slx _ => true
  | .nils => true
  | .rw _ => true
  | .own _ _ => true
  | .pt _ _ => true
  | .fn _ _ _ => true
  | .nilp => true
  | .nilf => true
  | _ => false
def onesL : List C → Bool
  | [] => true
  | c :: l => match c.one with | true => onesL l | false => false
def C.leafPure : C → Bool
  | .int _ _ => true
  | .bool _ => true
  | .str _ => true
  | .sl _ => true
  | .slx _ => true
  | .nils => true
  | .pt _ _ => true
  | .nilp => true
  | .nilf => true
  | _ => false
def leavesPure : List C → Bool
  | [] => true
  | c :: l => match c.leafPure with | true => leavesPure l | false => false
/-- a cell that names nothing of one's own -/
def C.pure : C → Bool
  | .fn _ fi ca => match leavesPure fi with | true => leavesPure ca | false => false
  | c => c.leafPure
def puresL : List C → Bool
  | [] => true
  | c :: l => match c.pure with | true => puresL l | false => false

/-- the leaves of a tree, three steps down -/
def C.mp (g : C → C) : Nat → C → C
  | _, .int k n => g (.int k n)
  | _, .bool b => g (.bool b)
  | _, .str s => g (.str s)
  | _, .sl els => g (.sl els)
  | _, .slx els => g (.slx els)
  | _, .nils => g .nils
  | _, .rw j => g (.rw j)
  | _, .own j o => g (.own j o)
  | _, .ownv j o => g (.ownv j o)
  | _, .pt es o => g (.pt es o)
  | _, .elr j a b => g (.elr j a b)
  | _, .nilp => g .nilp
  | _, .nilf => g .nilf
  | _, .und => g .und
  | _, .any => g .any
  | 0, .fn _ _ _ => .any
  | 0, .agg _ => .any
  | 0, .tup _ => .any
  | n + 1, .fn f fi ca => .fn f (fi.map (C.mp g n)) (ca.map (C.mp g n))
  | n + 1, .agg cs => .agg (cs.map (C.mp g n))
  | n + 1, .tup cs => .tup (cs.map (C.mp g n))
def killLeaf (k : Nat) : C → C
  | .int k n => .int k n
  | .bool b => .bool b
  | .str s => .str s
  | .sl els => .sl els
  | .slx els => .slx els
  | .nils => .nils
  | .rw j => match Nat.beq j k with | true => .any | false => .rw j
  | .own j o => .own j o
  | .ownv j o => .ownv j o
  | .pt es o => .pt es o
  | .elr j a b => match Nat.beq j k with | true => .any | false => .elr j a b
  | .fn f fi ca => .fn f fi ca
  | .agg cs => .agg cs
  | .tup cs => .tup cs
  | .nilp => .nilp
  | .nilf => .nilf
  | .und => .und
  | .any => .any
def C.kill (k : Nat) (c : C) : C := C.mp (killLeaf k) 3 c
def C.kills : List Nat → C → C
  | [], c => c
  | k :: ks, c => C.kills ks (c.kill k)
def unrwLeaf : C → C
  | .int k n => .int k n
  | .bool b => .bool b
  | .str s => .str s
  | .sl els => .sl els
  | .slx els => .slx els
  | .nils => .nils
  | .rw j => .any
  | .own j o => .own j o
  | .ownv j o => .ownv j o
  | .pt es o => .pt es o
  | .elr j a b => .any
  | .fn f fi ca => .fn f fi ca
  | .agg cs => .agg cs
  | .tup cs => .tup cs
  | .nilp => .nilp
  | .nilf => .nilf
  | .und => .und
  | .any => .any
def C.unrw (c : C) : C := C.mp unrwLeaf 3 c
def frzLeaf (k : Nat) (l : List (List C)) : C → C
  | .int k n => .int k n
  | .bool b => .bool b
  | .str s => .str s
  | .sl els => .sl els
  | .slx els => .slx els
  | .nils => .nils
  | .rw j => match Nat.beq j k with | true => .sl l | false => .rw j
  | .own j o => .own j o
  | .ownv j o => .ownv j o
  | .pt es o => .pt es o
  | .elr j a b => match Nat.beq j k with | true => .any | false => .elr j a b
  | .fn f fi ca => .fn f fi ca
  | .agg cs => .agg cs
  | .tup cs => .tup cs
  | .nilp => .nilp
  | .nilf => .nilf
  | .und => .und
  | .any => .any
def C.frz (k : Nat) (els : List (List C)) (c : C) : C := C.mp (frzLeaf k els) 3 c
def renLeaf (r : Nat → Option Nat) : C → C
  | .int k n => .int k n
  | .bool b => .bool b
  | .str s => .str s
  | .sl els => .sl els
  | .slx els => .slx els
  | .nils => .nils
  | .rw j => match r j with | some i => .rw i | none => .any
  | .own j o => match r j with | some i => .own i o | none => .any
  | .ownv j o => match r j with | some i => .own i o | none => .any
  | .pt es o => .pt es o
  | .elr j a b => .any
  | .fn f fi ca => .fn f fi ca
  | .agg cs => .agg cs
  | .tup cs => .tup cs
  | .nilp => .nilp
  | .nilf => .nilf
  | .und => .und
  | .any => .any
def C.ren (f : Nat → Option Nat) (c : C) : C := C.mp (renLeaf f) 3 c
def TO.mapC (g : C → C) : TO → TO
  | .box t cs => .box t (cs.map g)
  | .row t sz els => .row t sz els
def TL.mapC (g : C → C) : TL → TL
  | [] => []
  | (k, o) :: l => (k, o.mapC g) :: TL.mapC g l
/-- the keys that a callee knows, and back -/
def toIn : List Nat → Nat → Nat → Option Nat
  | [], _, _ => none
  | k :: ks, i, j => match Nat.beq j k with | true => some i | false => toIn ks (i + 1) j
def fromIn (ko : List Nat) (j : Nat) : Option Nat := match Nat.ble 1000 j with | true => ko[j - 1000]? | false => none

/-- nil is an empty slice -/
def C.can : C → C
  | .int k n => .int k n
  | .bool b => .bool b
  | .str s => .str s
  | .sl els => .sl els
  | .slx els => .sl els
  | .nils => .sl []
  | .rw j => .rw j
  | .own j o => .own j o
  | .ownv j o => .ownv j o
  | .pt es o => .pt es o
  | .elr j a b => .elr j a b
  | .fn f fi ca => .fn f fi ca
  | .agg cs => .agg cs
  | .tup cs => .tup cs
  | .nilp => .nilp
  | .nilf => .nilf
  | .und => .und
  | .any => .any
def C.canA : C → C
  | .int k n => .int k n
  | .bool b => .bool b
  | .str s => .str s
  | .sl els => .sl els
  | .slx els => .sl els
  | .nils => .sl []
  | .rw j => .rw j
  | .own j o => .own j o
  | .ownv j o => .ownv j o
  | .pt es o => .pt es o
  | .elr j a b => .elr j a b
  | .fn f fi ca => .fn f fi ca
  | .agg cs => .agg (cs.map C.can)
  | .tup cs => .tup cs
  | .nilp => .nilp
  | .nilf => .nilf
  | .und => .und
  | .any => .any
def C.canR : C → C
  | .int k n => .int k n
  | .bool b => .bool b
  | .str s => .str s
  | .sl els => .sl els
  | .slx els => .sl els
  | .nils => .sl []
  | .rw j => .rw j
  | .own j o => .own j o
  | .ownv j o => .ownv j o
  | .pt es o => .pt es o
  | .elr j a b => .elr j a b
  | .fn f fi ca => .fn f fi ca
  | .agg cs => .agg (cs.map C.can)
  | .tup cs => .tup (cs.map C.canA)
  | .nilp => .nilp
  | .nilf => .nilf
  | .und => .und
  | .any => .any

abbrev TEnv := Nat → C
def tput (d : Option Nat) (c : C) (ρ : TEnv) : TEnv :=
  match d with
  | some d => fun j => match Nat.beq j d with | true => c | false => ρ j
  | none => ρ
def cv0 : Value → C
  | .int k n => match (Lit.int k n).wf with | true => .int k n | false => .any
  | .bool b => .bool b
  | .string s => match Nat.ble s.size maxLen with | true => .str s | false => .any
  | .slice none 0 0 => .nils
  | .pointer none => .nilp
  | .nilFunc => .nilf
  | _ => .any
def cv : Value → C
  | .agg cs => .agg (cs.toList.map cv0)
  | v => cv0 v
def evT (ρ : TEnv) : X → C
  | .t n => ρ n
  | .c v => cv v
  | .fn f => .fn f [] []
/-- a slot's content as a cell, a cell as a slot's content -/
def C.cel : C → C
  | .int k n => .int k n
  | .bool b => .bool b
  | .str s => .str s
  | .sl els => .sl els
  | .slx els => .slx els
  | .nils => .nils
  | .rw j => .rw j
  | .own j o => .own j o
  | .ownv j o => .own j o
  | .pt es o => .pt es o
  | .elr j a b => .any
  | .fn f fi ca => .fn f fi ca
  | .agg cs => .agg cs
  | .tup cs => .tup cs
  | .nilp => .nilp
  | .nilf => .nilf
  | .und => .und
  | .any => .any
def C.slt : C → C
  | .int k n => .int k n
  | .bool b => .bool b
  | .str s => .str s
  | .sl els => .sl els
  | .slx els => .slx els
  | .nils => .nils
  | .rw j => .rw j
  | .own j o => .ownv j o
  | .ownv j o => .ownv j o
  | .pt es o => .pt es o
  | .elr j a b => .elr j a b
  | .fn f fi ca => .fn f fi ca
  | .agg cs => .agg cs
  | .tup cs => .tup cs
  | .nilp => .nilp
  | .nilf => .nilf
  | .und => .und
  | .any => .any
def C.toOwn : C → C
  | .int k n => .int k n
  | .bool b => .bool b
  | .str s => .str s
  | .sl els => .sl els
  | .slx els => .slx els
  | .nils => .nils
  | .rw j => .rw j
  | .own j o => .own j o
  | .ownv j o => .own j o
  | .pt es o => .pt es o
  | .elr j a b => .elr j a b
  | .fn f fi ca => .fn f fi ca
  | .agg cs => .agg cs
  | .tup cs => .tup cs
  | .nilp => .nilp
  | .nilf => .nilf
  | .und => .und
  | .any => .any
/-- a value whose cells are known -/
def C.okc : C → Bool
  | .any => false
  | .und => false
  | .elr _ _ _ => false
  | .tup _ => false
  | _ => true
def tcells : C → List C
  | .int k n => [.int k n]
  | .bool b => [.bool b]
  | .str s => [.str s]
  | .sl els => [.sl els]
  | .slx els => [.slx els]
  | .nils => [.nils]
  | .rw j => [.rw j]
  | .own j o => [.own j o]
  | .ownv j o => [.own j o]
  | .pt es o => [.pt es o]
  | .elr j a b => [.any]
  | .fn f fi ca => [.fn f fi ca]
  | .agg cs => cs
  | .tup cs => [.tup cs]
  | .nilp => [.nilp]
  | .nilf => [.nilf]
  | .und => [.und]
  | .any => [.any]
def okcs (ρ : TEnv) : List X → Bool
  | [] => true
  | x :: xs => match (evT ρ x).okc with | true => okcs ρ xs | false => false
def lenC? : List C → Nat → Bool
  | [], 0 => true
  | _ :: l, n + 1 => lenC? l n
  | _, _ => false
def asC (agg : Bool) (cs : List C) : C :=
  match agg, cs with
  | true, cs => .agg cs
  | false, [c] => c.slt
  | false, _ => .any
def evalsT (ρ : TEnv) : List X → List C
  | [] => []
  | x :: xs => (evT ρ x).cel :: evalsT ρ xs
/-- the elements of a literal, nil as an empty slice -/
def elsT (ρ : TEnv) : List X → List (List C)
  | [] => []
  | x :: xs => (tcells (evT ρ x)).map C.can :: elsT ρ xs
def partsT (ρ : TEnv) (sz : Nat) : List X → Bool
  | [] => true
  | x :: xs => match (evT ρ x).okc, lenC? (tcells (evT ρ x)) sz, onesL (tcells (evT ρ x)), puresL (tcells (evT ρ x)) with
    | true, true, true, true => partsT ρ sz xs
    | _, _, _, _ => false
def spliceC (cs : List C) (off : Nat) (vs : List C) : List C := cs.take off ++ vs ++ cs.drop (off + vs.length)
def builtT (ρ : TEnv) : List C → List (Nat × Nat × X) → Option (List C)
  | zs, [] => some zs
  | zs, (off, n, x) :: ps => match (evT ρ x).okc, lenC? (tcells (evT ρ x)) n with
    | true, true => builtT ρ (spliceC zs off (tcells (evT ρ x))) ps
    | _, _ => none
def optT (ρ : TEnv) (d : Int) : Option X → Option Int
  | none => some d
  | some x => match evT ρ x with | .int _ i => some i | _ => none
def mmT (mx : Bool) : Int → List C → Option Int
  | a, [] => some a
  | a, .int _ b :: l => mmT mx (match mx with | true => if b > a then b else a | false => if b < a then b else a) l
  | _, _ => none
abbrev bcell (b : UInt8) : C := .int .u8 b.toNat
def bcells (bs : List UInt8) : List (List C) := bs.map fun b => [bcell b]

/-- a tree is made out before it goes on -/
def fc (c : C) (K : C → Prop) : Prop :=
  match c with
  | .int k n => K (.int k n)
  | .bool b => K (.bool b)
  | .str s => K (.str s)
  | .sl els => K (.sl els)
  | .slx els => K (.slx els)
  | .nils => K .nils
  | .rw k => K (.rw k)
  | .own k off => K (.own k off)
  | .ownv k off => K (.ownv k off)
  | .pt es off => K (.pt es off)
  | .elr k j off => K (.elr k j off)
  | .fn f fi ca => K (.fn f fi ca)
  | .agg cs => K (.agg cs)
  | .tup cs => K (.tup cs)
  | .nilp => K .nilp
  | .nilf => K .nilf
  | .und => K .und
  | .any => K .any
def fl : List C → (List C → Prop) → Prop
  | [], K => K []
  | c :: cs, K => fc c fun c => fl cs fun cs => K (c :: cs)
def fO : TO → (TO → Prop) → Prop
  | .box t cs, K => fl cs fun cs => K (.box t cs)
  | .row t sz els, K => K (.row t sz els)
def fT : TL → (TL → Prop) → Prop
  | [], K => K []
  | (k, o) :: l, K => fO o fun o => fT l fun l => K ((k, o) :: l)
/-- an aggregate with its cells -/
def fca (c : C) (K : C → Prop) : Prop :=
  match c with
  | .agg cs => fl cs fun cs => K (.agg cs)
  | c => fc c K
theorem fc_eq {c : C} {K : C → Prop} : fc c K = K c := by cases c <;> rfl
theorem fl_eq : ∀ {cs : List C} {K : List C → Prop}, fl cs K = K cs
  | [], K => rfl
  | c :: cs, K => by simp only [fl, fc_eq, fl_eq]
theorem fO_eq {o : TO} {K : TO → Prop} : fO o K = K o := by cases o <;> simp only [fO, fl_eq]
theorem fT_eq : ∀ {L : TL} {K : TL → Prop}, fT L K = K L
  | [], K => rfl
  | (k, o) :: l, K => by simp only [fT, fO_eq, fT_eq]
theorem fca_eq {c : C} {K : C → Prop} : fca c K = K c := by cases c <;> simp only [fca, fl_eq, fc_eq]

mutual
/-- the bounds that all data of the machine keeps -/
def Wf : C → Prop
  | .int k n => (Lit.int k n).wf = true
  | .str s => s.size ≤ maxLen
  | .sl els => els.length ≤ maxLen ∧ WfSS els
  | .slx els => els.length ≤ maxLen ∧ WfSS els
  | .pt es _ => WfS es
  | .fn _ fi ca => WfS fi ∧ WfS ca
  | .agg cs => WfS cs
  | .tup cs => WfS cs
  | _ => True
def WfS : List C → Prop
  | [] => True
  | c :: l => Wf c ∧ WfS l
def WfSS : List (List C) → Prop
  | [] => True
  | es :: l => WfS es ∧ WfSS l
end
def TO.Wf : TO → Prop
  | .box _ cs => WfS cs
  | .row _ _ els => WfSS els

/- where the evaluator stops -/
structure IdxT (els : List (List C)) (i : Int) (sz : Nat) (K : List C → Prop) : Prop where
  out : ∃ es, 0 ≤ i ∧ els[i.toNat]? = some es ∧ lenC? es sz = true ∧ K es
structure RowT (els : List (List C)) (j off n : Nat) (K : List C → Prop) : Prop where
  out : ∃ es, els[j]? = some es ∧ lenC? ((es.drop off).take n) n = true ∧ K ((es.drop off).take n)
structure BytesT (els : List (List C)) (K : List UInt8 → Prop) : Prop where
  out : ∃ bs, els = bcells bs ∧ K bs
structure SlcT (l h : Int) (els : List (List C)) (sz : Nat) (K : Nat → Nat → Prop) : Prop where
  lo : 0 ≤ l
  le : l ≤ h
  hi : h ≤ els.length
  sizes : ∀ es ∈ els, es.length = sz
  out : K l.toNat h.toNat
structure AppT (els news : List (List C)) (sz bytes : Nat) (K : Prop) : Prop where
  sizes : ∀ es ∈ news, es.length = sz
  max : els.length + news.length ≤ maxLen
  room : (els.length + news.length) * bytes ≤ 140737488355328
  out : K
/-- the rows that are given up, one after the other -/
def frzK : List Nat → TL → TEnv → List C → (TL → TEnv → List C → Prop) → Prop
  | [], L, ρ, a, K => K L ρ a
  | k :: ks, L, ρ, a, K => match L.get k with
    | some (.row _ _ els) => frzK ks ((L.del k).mapC (C.frz k els)) (fun j => (ρ j).frz k els) (a.map (C.frz k els)) K
    | _ => False

/-- a cell goes on to a weaker one: nil to an empty row of one's own, or to an empty slice -/
def hasKeys (L : TL) : C → Bool
  | .rw k => match L.get k with | some (.row _ _ _) => true | _ => false
  | .own k _ => match L.get k with | some (.box _ _) => true | _ => false
  | .ownv _ _ => false
  | .elr _ _ _ => false
  | _ => true
def hasKeysA (L : TL) : Nat → C → Bool
  | n + 1, .agg cs => cs.all (hasKeysA L n)
  | n + 1, .tup cs => cs.all (hasKeysA L n)
  | n + 1, .fn _ fi ca => fi.all (hasKeysA L n) && ca.all (hasKeysA L n)
  | 0, .agg _ => false
  | 0, .tup _ => false
  | 0, .fn _ _ _ => false
  | _, c => hasKeys L c
/-- c may be taken as c' when the own list goes from L to L1 -/
def leC (L L1 : TL) (c c' : C) : Prop :=
  c' = .any ∨ (c = c' ∧ hasKeysA L1 3 c' = true) ∨ (c = .nils ∧ c' = .sl []) ∨ (c = .nils ∧ ∃ k t sz, c' = .rw k ∧ L.get k = none ∧ L1.get k = some (.row t sz [])) ∨ ∃ els, c = .slx els ∧ c' = .sl els
def leCs (L L1 : TL) : List C → List C → Prop
  | [], l => l = []
  | c :: cs, l => ∃ c' cs', l = c' :: cs' ∧ leC L L1 c c' ∧ leCs L L1 cs cs'
def keysO (L1 : TL) : TO → Bool
  | .box _ cs => cs.all (hasKeysA L1 3)
  | .row _ _ _ => true
def leO (L L1 : TL) (o o' : TO) : Prop := (o = o' ∧ keysO L1 o' = true) ∨ ∃ t cs cs', o = .box t cs ∧ o' = .box t cs' ∧ leCs L L1 cs cs'
/-- every entry of the second list is there, or is an empty row, which can be had for nothing -/
def gives (L L1 : TL) : TL → Prop
  | [] => True
  | (k, o) :: l => ((∃ p, L.get k = some p ∧ leO L L1 p o) ∨ (L.get k = none ∧ ∃ t sz, o = .row t sz [])) ∧ gives L L1 l
def holdsT (L L1 : TL) : List Nat → List C → TEnv → Prop
  | k :: ks, v :: vs, ρ => leC L L1 (ρ k) v ∧ holdsT L L1 ks vs ρ
  | _, _, _ => True
def putsT : List Nat → List C → TEnv → TEnv
  | k :: ks, v :: vs, ρ => tput (some k) v (putsT ks vs ρ)
  | _, _, ρ => ρ
def nodup? : List Nat → Bool
  | [] => true
  | k :: ks => match mem? ks k with | true => false | false => nodup? ks
end Go.Fr.T
