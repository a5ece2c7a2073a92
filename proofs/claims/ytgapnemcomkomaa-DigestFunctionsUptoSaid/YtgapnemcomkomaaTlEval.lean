/- The evaluator over data without addresses: operations, code, contracts. -/
import Derived.Test.YtgapnemcomkomaaTlRel
set_option linter.unusedVariables false
set_option linter.unusedSimpArgs false
namespace Go.Fr.T
open Go Go.RowKit Go.Fr

/-- what becomes of a call: trees for the values that the machine hands back -/
def ResA (Li : List Own) (R : List TO → C → Prop) : Frz → List Own → Value → Prop := fun F Lo v =>
  ∃ Mo c, Mo.length = Lo.length ∧ RelTL F (inp Lo) (tinp Mo) ∧ Rel F (inp Lo) c v ∧ (∀ (i : Nat) g t cs, Li[i]? = some (.box g t cs) → ∃ cs', Lo[i]? = some (.box g t cs')) ∧ R Mo c
/-- a contract: arguments, what is handed over, what is handed back and the result -/
structure CallsT (P : Program) (f : Nat) (args : List C) (Lin : List TO) (R : List TO → C → Prop) : Prop where
  out : ∀ (F : Frz) (Li : List Own) (vs : List Value), Li.length = Lin.length → RelTL F (inp Li) (tinp Lin) → Rels F (inp Li) args vs → CallsA P f vs.toArray F Li (ResA Li R)

def boxesAt : List TO → List Nat → List Nat → Bool
  | .box _ _ :: l, k :: ks, k' :: ko => match Nat.beq k k' with | true => boxesAt l ks ko | false => false
  | .box _ _ :: _, _, _ => false
  | .row _ _ _ :: l, _ :: ks, _ :: ko => boxesAt l ks ko
  | .row _ _ _ :: l, _ :: ks, [] => boxesAt l ks []
  | .row _ _ _ :: _, [], _ => false
  | [], _, _ => true
def koOk (L : TL) (ks : List Nat) : List Nat → Bool
  | [] => true
  | k :: ko => match mem? ks k, L.get k with
    | true, _ => koOk L ks ko
    | false, none => koOk L ks ko
    | false, some _ => false
/-- all keys of the first list are in the second -/
def covers : TL → TL → Bool
  | [], _ => true
  | (k, _) :: l, L1 => match L1.get k with | some _ => covers l L1 | none => false
/-- all boxes of the first list are boxes of the second -/
def keepsT : TL → TL → Bool
  | [], _ => true
  | (k, .box _ _) :: l, L1 => match L1.get k with | some (.box _ _) => keepsT l L1 | _ => false
  | (_, .row _ _ _) :: l, L1 => keepsT l L1
def TL.kills (ks : List Nat) (L : TL) : TL := match ks with | [] => L | _ => L.mapC (C.kills ks)
def killsE (ks : List Nat) (ρ : TEnv) : TEnv := match ks with | [] => ρ | _ => fun j => (ρ j).kills ks

structure CallT (P : Program) (f : Nat) (args : List C) (L : TL) (ρ : TEnv) (K : TL → TEnv → C → Prop) : Prop where
  out : ∃ (fz ks ko : List Nat), frzK fz L ρ args fun L ρ args =>
    ∃ (L1 : TL) (Lin : List TO) (R : List TO → C → Prop), (L1 = L ∨ (gives L L1 L1 ∧ covers L L1 = true)) ∧ L1.sub ks = some Lin ∧ nodup? ks = true ∧ nodup? ko = true ∧ koOk L1 ks ko = true ∧ boxesAt Lin ks ko = true ∧
      CallsT P f (args.map fun c => c.canA.ren (toIn ks 1000)) (Lin.map (TO.mapC (C.ren (toIn ks 1000)))) R ∧
      ∀ v Mo, R Mo v → Wf v → (∀ o ∈ Mo, o.Wf) → ko.length = Mo.length ∧
        K (((L1.dels ks).kills ks).puts ko (Mo.map (TO.mapC (C.ren (fromIn ko))))) (killsE ks ρ) (v.ren (fromIn ko)).slt
structure CallT0 (P : Program) (f : Nat) (args : List C) (L : TL) (ρ : TEnv) (K : TL → TEnv → C → Prop) : Prop where
  out : ∃ (ks ko : List Nat) (Lin : List TO) (R : List TO → C → Prop), L.sub ks = some Lin ∧ nodup? ks = true ∧ nodup? ko = true ∧ koOk L ks ko = true ∧ boxesAt Lin ks ko = true ∧
      CallsT P f (args.map fun c => c.canA.ren (toIn ks 1000)) (Lin.map (TO.mapC (C.ren (toIn ks 1000)))) R ∧
      ∀ v Mo, R Mo v → Wf v → (∀ o ∈ Mo, o.Wf) → ko.length = Mo.length ∧
        K (((L.dels ks).kills ks).puts ko (Mo.map (TO.mapC (C.ren (fromIn ko))))) (killsE ks ρ) (v.ren (fromIn ko)).slt
inductive CallDT (P : Program) (f : Nat) (args : List C) (L : TL) (d : Option Nat) (K : TL → C → Prop) : Prop
  | frz (R : List TO → C → Prop) (h : CallsT P f (args.map fun c => c.canA.ren (toIn [] 1000)) [] R) (k : ∀ v Mo, R Mo v → Wf v → Mo = [] ∧ K L v.slt)
  | own (R : List TO → C → Prop) (k : Nat) (h : CallsT P f (args.map fun c => c.canA.ren (toIn [] 1000)) [] R) (hd : d = some k) (hk : L.get k = none)
      (kk : ∀ v Mo, R Mo v → Wf v → (∀ o ∈ Mo, o.Wf) → ∃ o, Mo = [o] ∧ K (L.set k (o.mapC (C.ren (fromIn [k])))) (v.ren (fromIn [k])).slt)

def cvB : Value → C
  | .int k n => .int k n
  | .bool b => .bool b
  | .string s => .str s
  | _ => .any
def isNil : X → Bool
  | .c (.slice none 0 0) => true
  | _ => false
def isNilP : X → Bool
  | .c (.pointer none) => true
  | _ => false
def isNilF : X → Bool
  | .c .nilFunc => true
  | _ => false

def outT (o : SOp) (L : TL) (ρ : TEnv) (V : C → Prop) : Prop :=
  match o with
  | .mov x => V (evT ρ x)
  | .pick c a b => match evT ρ c with
    | .bool t => brn t (V (evT ρ a)) (V (evT ρ b))
    | _ => False
  | .build zs ps => match builtT ρ (zs.map cv0) ps with
    | some cs => V (.agg cs)
    | none => False
  | .load agg n x => match evT ρ x with
    | .own k off => match L.get k with
      | some (.box _ cs) => match lenC? ((cs.drop off).take n) n with
        | true => V (asC agg ((cs.drop off).take n))
        | false => False
      | _ => False
    | .pt es off => match lenC? ((es.drop off).take n) n with
      | true => V (asC agg ((es.drop off).take n))
      | false => False
    | .elr k j off => match L.get k with
      | some (.row _ _ els) => RowT els j off n fun cs => V (asC agg cs)
      | _ => False
    | _ => False
  | .loadD agg n x => match evT ρ x with
    | .own k off => match L.get k with
      | some (.box _ cs) => match lenC? ((cs.drop off).take n) n with
        | true => V (asC agg ((cs.drop off).take n))
        | false => False
      | _ => False
    | .pt es off => match lenC? ((es.drop off).take n) n with
      | true => V (asC agg ((es.drop off).take n))
      | false => False
    | _ => False
  | .nilck x => match evT ρ x with
    | .own k off => V (.own k off)
    | .pt es off => V (.pt es off)
    | .fn f fi ca => V (.fn f fi ca)
    | _ => False
  | .bin op x y => match evT ρ x, evT ρ y with
    | .int k a, .int k' b => match isSh op with
      | true => shI op k a b fun v => V (cvB v)
      | false => match kindEq k k' with
        | true => binI op k a b fun v => V (cvB v)
        | false => False
    | .str a, .str b => binS op a b fun v => V (cvB v)
    | _, _ => False
  | .eqB neg x y => match evT ρ x, evT ρ y with
    | .bool a, .bool b => V (.bool (ngb neg (decide (a = b))))
    | _, _ => False
  | .eqP neg x y => match isNilP y, evT ρ x with
    | true, .own _ _ => V (.bool (ngb neg false))
    | true, .ownv _ _ => V (.bool (ngb neg false))
    | true, .pt _ _ => V (.bool (ngb neg false))
    | true, .nilp => V (.bool (ngb neg true))
    | _, _ => False
  | .eqS neg x y => match isNil y, evT ρ x with
    | true, .sl els => ∀ b, (els ≠ [] → b = false) → V (.bool (ngb neg b))
    | true, .slx _ => V (.bool (ngb neg false))
    | true, .nils => V (.bool (ngb neg true))
    | _, _ => False
  | .eqF neg x y => match isNilF y, evT ρ x with
    | true, .nilf => V (.bool (ngb neg true))
    | true, .fn _ _ _ => V (.bool (ngb neg false))
    | _, _ => False
  | .un op x => match op, evT ρ x with
    | .not, .bool b => V (.bool (!b))
    | .neg, .int k n => Fit k (0 - n) fun m => V (.int k m)
    | .xor, .int k n => V (.int k (k.wrap (BitVec.ofInt k.bits (if k.signed then -1 else k.max) ^^^ BitVec.ofInt k.bits n).toNat))
    | _, _ => False
  | .conv k x => match evT ρ x with
    | .int _ n => Fit k n fun m => V (.int k m)
    | _ => False
  | .b2s x => match (evT ρ x).can with
    | .sl els => BytesT els fun bs => V (.str ⟨bs.toArray⟩)
    | _ => False
  | .mkfn f fi ca => V (.fn f (evalsT ρ fi) (evalsT ρ ca))
  | .slc sz x lo hi => match (evT ρ x).can with
    | .sl els => match optT ρ 0 lo, optT ρ els.length hi with
      | some l, some h => SlcT l h els sz fun l h => V (.sl ((els.drop l).take (h - l)))
      | _, _ => False
    | _ => False
  | .slcS x lo hi => match evT ρ x with
    | .str s => match optT ρ 0 lo, optT ρ s.size hi with
      | some l, some h => SlcPt l h s.size fun l h => V (.str (s.extract l h))
      | _, _ => False
    | _ => False
  | .fieldA off x => match evT ρ x with
    | .own k o => V (.own k (o + off))
    | .pt es o => V (.pt es (o + off))
    | .elr k j o => V (.elr k j (o + off))
    | _ => False
  | .fieldV agg off n x => match evT ρ x with
    | .agg cs => match lenC? ((cs.drop off).take n) n with
      | true => V (asC agg ((cs.drop off).take n))
      | false => False
    | _ => False
  | .idxA sz x i => match (evT ρ x).can, evT ρ i with
    | .sl els, .int _ i => IdxT els i sz fun es => V (.pt es 0)
    | .rw k, .int _ i => match L.get k with
      | some (.row _ sz' els) => match Nat.beq sz sz' with
        | true => InB i els.length (V (.elr k i.toNat 0))
        | false => False
      | _ => False
    | _, _ => False
  | .idxS x i => match evT ρ x, evT ρ i with
    | .str s, .int _ i => InB i s.size (V (.int .u8 ((s.data.toList.getD i.toNat 0).toNat)))
    | _, _ => False
  | .extr x i => match evT ρ x with
    | .tup vs => match vs[i]? with
      | some v => V v.slt
      | none => False
    | _ => False
  | .len x => match (evT ρ x).can with
    | .sl els => V (.int .i64 els.length)
    | .rw k => match L.get k with
      | some (.row _ _ els) => V (.int .i64 els.length)
      | _ => False
    | _ => False
  | .lenS x => match evT ρ x with
    | .str s => V (.int .i64 s.size)
    | _ => False
  | .mm mx args => match args.map (evT ρ) with
    | .int k a :: l => match mmT mx a l with
      | some m => (Lit.int k m).wf = true ∧ V (.int k m)
      | none => False
    | _ => False
  | _ => False

abbrev TK := TL → TEnv → Prop
def wfZs (zs : List Value) : List C := zs.map cv0
def storeT (dr : Bool) (n : Nat) (a x : X) (d : Option Nat) (L : TL) (ρ : TEnv) (K : TK) : Prop :=
  match (evT ρ x).okc, lenC? (tcells (evT ρ x)) n, onesL (tcells (evT ρ x)), evT ρ a with
  | true, true, true, .own k off => match L.get k with
    | some (.box t cs) => match lenC? ((cs.drop off).take n) n with
      | true => fl (spliceC cs off (tcells (evT ρ x))) fun cs => K (L.set k (.box t cs)) (tput d .und ρ)
      | false => False
    | _ => False
  | true, true, true, .elr k j off => match dr, L.get k, puresL (tcells (evT ρ x)) with
    | false, some (.row t sz els), true => Nat.ble (off + n) sz = true ∧ RowT els j off n fun _ => ∀ es, els[j]? = some es → K (L.set k (.row t sz (els.set j (spliceC es off ((tcells (evT ρ x)).map C.can))))) (tput d .und ρ)
    | _, _, _ => False
  | _, _, _, _ => False

def appT (e sz bytes : Nat) (s x : C) (d : Option Nat) (L : TL) (ρ : TEnv) (K : TK) : Prop :=
  match s, x.can, d with
  | .rw k, .sl news, _ => match L.get k with
    | some (.row e' sz' els) => match Nat.beq e e', Nat.beq sz sz' with
      | true, true => AppT els news sz bytes (fT ((L.mapC (C.kill k)).set k (.row e sz (els ++ news))) fun L => K L (tput d (.rw k) fun j => (ρ j).kill k))
      | _, _ => False
    | _ => False
  | .nils, .sl news, some k => match L.get k with
    | none => AppT [] news sz bytes (K (L.set k (.row e sz news)) (tput d (.rw k) ρ))
    | some _ => False
  | .slx els, .sl news, some k => match L.get k with
    | none => 0 < news.length ∧ (∀ es ∈ els, es.length = sz) ∧ AppT els news sz bytes (K (L.set k (.row e sz (els ++ news))) (tput d (.rw k) ρ))
    | some _ => False
  | .rw k, .rw k', _ => match L.get k, L.get k' with
    | some (.row e' sz' els), some (.row e'' sz'' news) => match Nat.beq e e', Nat.beq sz sz', Nat.beq sz sz'' with
      | true, true, true => AppT els news sz bytes (fT ((L.mapC (C.kill k)).set k (.row e sz (els ++ news))) fun L => K L (tput d (.rw k) fun j => (ρ j).kill k))
      | _, _, _ => False
    | _, _ => False
  | .nils, .rw k', some k => match L.get k, L.get k' with
    | none, some (.row e'' sz'' news) => match Nat.beq sz sz'' with
      | true => AppT [] news sz bytes (K (L.set k (.row e sz news)) (tput d (.rw k) ρ))
      | false => False
    | _, _ => False
  | _, _, _ => False
def evalTOp (P : Program) (o : SOp) (d : Option Nat) (L : TL) (ρ : TEnv) (K : TK) : Prop :=
  match o with
  | .box t x => match d with
    | some k => match L.get k, (evT ρ x).okc with
      | none, true => fl (tcells (evT ρ x)) fun cs => K (L.set k (.box t cs)) (tput d (.own k 0) ρ)
      | _, _ => False
    | none => False
  | .boxD t x => match d with
    | some k => match L.get k, (evT ρ x).okc with
      | none, true => fl (tcells (evT ρ x)) fun cs => K (L.set k (.box t cs)) (tput d (.own k 0) ρ)
      | _, _ => False
    | none => False
  | .boxF t x => match (evT ρ x).okc, onesL (tcells (evT ρ x)), puresL (tcells (evT ρ x)) with
    | true, true, true => fl ((tcells (evT ρ x)).map C.can) fun cs => K L (tput d (.pt cs 0) ρ)
    | _, _, _ => False
  | .alloc t zs => match d with
    | some k => match L.get k with
      | none => fl (zs.map cv0) fun cs => K (L.set k (.box t cs)) (tput d (.own k 0) ρ)
      | some _ => False
    | none => False
  | .allocD t zs => match d with
    | some k => match L.get k with
      | none => fl (zs.map cv0) fun cs => K (L.set k (.box t cs)) (tput d (.own k 0) ρ)
      | some _ => False
    | none => False
  | .mkF e n sz xs => match partsT ρ sz xs, Nat.beq xs.length n, Nat.ble n 9223372036854775807 with
    | true, true, true => K L (tput d (.slx (elsT ρ xs)) ρ)
    | _, _, _ => False
  | .mkFD e n sz xs => match partsT ρ sz xs, Nat.beq xs.length n, Nat.ble n 9223372036854775807 with
    | true, true, true => K L (tput d (.slx (elsT ρ xs)) ρ)
    | _, _, _ => False
  | .mkR e n sz xs => match partsT ρ sz xs, Nat.beq xs.length n, Nat.ble n 9223372036854775807, d with
    | true, true, true, some k => match L.get k with
      | none => K (L.set k (.row e sz (elsT ρ xs))) (tput d (.rw k) ρ)
      | some _ => False
    | _, _, _, _ => False
  | .s2b _ x => match evT ρ x with
    | .str s => K L (tput d (.sl (bcells s.data.toList)) ρ)
    | _ => False
  | .makeS e sz bytes zs l c => match evT ρ l, evT ρ c, d with
    | .int _ n, .int _ m, some k => match L.get k, lenC? (zs.map cv0) sz, onesL (zs.map cv0) with
      | none, true, true => MakePt n m bytes fun n => K (L.set k (.row e sz (List.replicate n ((zs.map cv0).map C.can)))) (tput d (.rw k) ρ)
      | _, _, _ => False
    | _, _, _ => False
  | .store n a x => storeT false n a x d L ρ K
  | .storeD n a x => storeT true n a x d L ρ K
  | .call f args => fl (evalsT ρ args) fun args => CallT P f args L ρ fun L' ρ' v => fT L' fun L' => fca v fun v => K L' (tput d v ρ')
  | .callV f args => match evT ρ f with
    | .fn f fi ca => fl (fi ++ evalsT ρ args ++ ca) fun args => CallT P f args L ρ fun L' ρ' v => fT L' fun L' => fca v fun v => K L' (tput d v ρ')
    | _ => False
  | .callD f args => fl (evalsT ρ args) fun args => CallDT P f args L d fun L' v => fT L' fun L' => fca v fun v => K L' (tput d v ρ)
  | .callVD f args => match evT ρ f with
    | .fn f fi ca => fl (fi ++ evalsT ρ args ++ ca) fun args => CallDT P f args L d fun L' v => fT L' fun L' => fca v fun v => K L' (tput d v ρ)
    | _ => False
  | .callO f args => fl (evalsT ρ args) fun args => CallT0 P f args L ρ fun L' ρ' v => fT L' fun L' => fca v fun v => K L' (tput d v ρ')
  | .callVO f args => match evT ρ f with
    | .fn f fi ca => fl (fi ++ evalsT ρ args ++ ca) fun args => CallT0 P f args L ρ fun L' ρ' v => fT L' fun L' => fca v fun v => K L' (tput d v ρ')
    | _ => False
  | .app e sz bytes _ s x => appT e sz bytes (evT ρ s) (evT ρ x) d L ρ K
  | .appX e sz bytes _ s x => appT e sz bytes (evT ρ s) (evT ρ x) d L ρ K
  | .appD e sz bytes _ s x => match evT ρ s, (evT ρ x).can, d with
    | .rw k, .sl news, _ => match L.get k with
      | some (.row e' sz' els) => match Nat.beq e e', Nat.beq sz sz' with
        | true, true => AppT els news sz bytes (fT ((L.mapC (C.kill k)).set k (.row e sz (els ++ news))) fun L => K L (tput d (.rw k) fun j => (ρ j).kill k))
        | _, _ => False
      | _ => False
    | .nils, .sl news, some k => match L.get k with
      | none => AppT [] news sz bytes (K (L.set k (.row e sz news)) (tput d (.rw k) ρ))
      | some _ => False
    | _, _, _ => False
  | .appS e s x => match evT ρ s, evT ρ x, d with
    | .rw k, .str t, _ => match L.get k with
      | some (.row e' sz' els) => match Nat.beq e e', Nat.beq 1 sz' with
        | true, true => AppT els (bcells t.data.toList) 1 1 (fT ((L.mapC (C.kill k)).set k (.row e 1 (els ++ bcells t.data.toList))) fun L => K L (tput d (.rw k) fun j => (ρ j).kill k))
        | _, _ => False
      | _ => False
    | .nils, .str t, some k => match L.get k with
      | none => AppT [] (bcells t.data.toList) 1 1 (K (L.set k (.row e 1 (bcells t.data.toList))) (tput d (.rw k) ρ))
      | some _ => False
    | _, _, _ => False
  | o => outT o L ρ fun v => fca v fun v => K L (tput d v ρ)

def normD (d : Option Nat) (ρ : TEnv) : TEnv :=
  match d with
  | some k => fun j => match Nat.beq j k with | true => (ρ k).toOwn | false => ρ j
  | none => ρ
def stepT (P : Program) (dr : Bool) (s : SStep) (ih : TL → TEnv → TK → Prop) (L : TL) (ρ : TEnv) (K : TK) : Prop :=
  match s with
  | .op d o none => evalTOp P o d L ρ fun L' ρ' => ih L' (match dr with | true => ρ' | false => normD d ρ') K
  | .op d o (some (s, want)) => match ρ s with
    | .bool b => brn b
        (match want with
          | true => evalTOp P o d L (tput (some s) (.bool true) ρ) fun L' ρ' => ih L' (match dr with | true => ρ' | false => normD d ρ') K
          | false => ih L (tput d .und (tput (some s) (.bool true) ρ)) K)
        (match want with
          | false => evalTOp P o d L (tput (some s) (.bool false) ρ) fun L' ρ' => ih L' (match dr with | true => ρ' | false => normD d ρ') K
          | true => ih L (tput d .und (tput (some s) (.bool false) ρ)) K)
    | .und => ih L (tput d .und ρ) K
    | _ => False
  | .frz k => match dr, L.get k with
    | false, some (.row _ _ els) => fT ((L.del k).mapC (C.frz k els)) fun L => ih L (fun j => (ρ j).frz k els) K
    | _, _ => False
/- by the recursor itself: the kernel and the elaborator then see the same terms -/
noncomputable def evalTOps (P : Program) (dr : Bool) (ss : List SStep) : TL → TEnv → TK → Prop :=
  List.rec (motive := fun _ => TL → TEnv → TK → Prop) (fun L ρ K => K L ρ) (fun s _ ih L ρ K => stepT P dr s ih L ρ K) ss
theorem evalTOps_nil {P : Program} {dr : Bool} {L : TL} {ρ : TEnv} {K : TK} : evalTOps P dr [] L ρ K = K L ρ := rfl
theorem evalTOps_cons {P : Program} {dr : Bool} {s : SStep} {rest : List SStep} {L : TL} {ρ : TEnv} {K : TK} : evalTOps P dr (s :: rest) L ρ K = stepT P dr s (evalTOps P dr rest) L ρ K := rfl

def resT : List C → C
  | [v] => v
  | l => .tup l
def retT (L : TL) (ρ : TEnv) : List RV → (List C → Prop) → Prop
  | [], K => K []
  | (t, none) :: l, K => retT L ρ l fun vs => K ((ρ t).cel :: vs)
  | (t, some (agg, n)) :: l, K => match ρ t with
    | .own k off => match L.get k with
      | some (.box _ cs) => match lenC? ((cs.drop off).take n) n with
        | true => retT L ρ l fun vs => K ((asC agg ((cs.drop off).take n)).cel :: vs)
        | false => False
      | _ => False
    | _ => False
structure RetT (Lin : List TO) (L : TL) (v : C) (R : List TO → C → Prop) : Prop where
  out : ∃ (fz ko : List Nat), frzK fz L (fun _ => .any) [v] fun L _ vs =>
    ∃ (L1 : TL) (c c1 : C) (Mo : List TO), vs = [c] ∧ ((L1 = L ∧ c1 = c) ∨ (gives L L1 L1 ∧ leC L L1 c c1)) ∧ L1.sub ko = some Mo ∧ nodup? ko = true ∧ boxesAt Lin (List.range' 1000 Lin.length) ko = true ∧
      (WfS [c1] → R (Mo.map (TO.mapC (C.ren (toIn ko 1000)))) (c1.canR.ren (toIn ko 1000)))

def headE (asg : List Nat) (ρ : TEnv) : TEnv := fun j => match mem? asg j with | true => .any | false => (ρ j).unrw
structure LoopT (body : TL → TEnv → TK → Prop) (asg : List Nat) (L : TL) (ρ : TEnv) : Prop where
  out : ∃ (σ : Type) (x0 : σ) (Inv : σ → Prop) (ls : List Nat) (lv : σ → List C) (Lf : σ → TL) (μ : σ → Nat),
    Inv x0 ∧ holdsT L (Lf x0) ls (lv x0) ρ ∧ gives L (Lf x0) (Lf x0) ∧ (∀ x, keepsT L (Lf x) = true) ∧ (∀ x, (lv x).length = ls.length) ∧
    ∀ x, Inv x → WfS (lv x) → (∀ k o, (Lf x).get k = some o → o.Wf) → body (Lf x) (putsT ls (lv x) (headE asg ρ)) fun L' ρ' =>
      ∃ x', Inv x' ∧ holdsT L' (Lf x') ls (lv x') ρ' ∧ gives L' (Lf x') (Lf x') ∧ μ x' < μ x

noncomputable def evalTC (P : Program) (c : SCode) : (Nat → TK) → TK → TK → TK :=
  SCode.rec (motive := fun _ => (Nat → TK) → TK → TK → TK)
    (fun _ _ N L ρ => N L ρ)
    (fun ops _ _ N L ρ => evalTOps P false ops L ρ N)
    (fun ops _ _ N L ρ => evalTOps P true ops L ρ N)
    (fun _ _ iha ihb E R N L ρ => iha E R (fun L ρ => ihb E R N L ρ) L ρ)
    (fun c _ _ iha ihb E R N L ρ => match evT ρ c with
      | .bool t => brn t (iha E R N L ρ) (ihb E R N L ρ)
      | _ => False)
    (fun id _ ih E R N L ρ => ih (fun j => match Nat.beq j id with | true => N | false => E j) R N L ρ)
    (fun asg _ ih E R _ L ρ => LoopT (fun L ρ K => ih E R K L ρ) asg L ρ)
    (fun id E _ _ L ρ => E id L ρ)
    (fun _ R _ L ρ => R L ρ) c
section
variable {P : Program} {E : Nat → TK} {R N : TK} {L : TL} {ρ : TEnv}
theorem evalTC_skip : evalTC P .skip E R N L ρ = N L ρ := rfl
theorem evalTC_reg {ops : List SStep} : evalTC P (.reg ops) E R N L ρ = evalTOps P false ops L ρ N := rfl
theorem evalTC_regD {ops : List SStep} : evalTC P (.regD ops) E R N L ρ = evalTOps P true ops L ρ N := rfl
theorem evalTC_seq {a b : SCode} : evalTC P (.seq a b) E R N L ρ = evalTC P a E R (fun L ρ => evalTC P b E R N L ρ) L ρ := rfl
theorem evalTC_cond {c : X} {a b : SCode} : evalTC P (.cond c a b) E R N L ρ = (match evT ρ c with
      | .bool t => brn t (evalTC P a E R N L ρ) (evalTC P b E R N L ρ)
      | _ => False) := rfl
theorem evalTC_block {id : Nat} {c : SCode} : evalTC P (.block id c) E R N L ρ = evalTC P c (fun j => match Nat.beq j id with | true => N | false => E j) R N L ρ := rfl
theorem evalTC_loop {asg : List Nat} {c : SCode} : evalTC P (.loop asg c) E R N L ρ = LoopT (fun L ρ K => evalTC P c E R K L ρ) asg L ρ := rfl
theorem evalTC_exit {id : Nat} : evalTC P (.exit id) E R N L ρ = E id L ρ := rfl
theorem evalTC_ret : evalTC P .ret E R N L ρ = R L ρ := rfl
end
def argT : Nat → List C → TEnv
  | _, [] => fun _ => .und
  | k, v :: l => tput (some k) v (argT (k + 1) l)
end Go.Fr.T
