/- Part of the proofs of the statements of this seat. -/
import Derived.Test.YtnlegbokpofcaaaGreatDoorFW0
import Derived.Scope
set_option maxRecDepth 10000
set_option linter.unusedVariables false
set_option linter.unusedSimpArgs false
namespace Go.Fr
open Go Go.RowKit
def bI:eP->List X
 | .mov x | .nilck x | .mkmv _ x | .conv _ x | .un _ x | .eqN _ x | .fieldA _ x | .fieldV _ _ _ x | .extr x _ | .len x | .lenS x | .capa x | .loadD _ _ x | .boxD _ x | .b2sD x | .b2sR x | .loadK _ _ _ x | .loadF _ _ x | .loadR _ _ x | .mlen x | .makeSV _ _ _ _ x=>[x]
 | .mlook _ _ _ x i=>[x,i]
 | .pick c a b=>[c,a,b]
 | .bin _ x y | .eqB _ x y | .eqP _ x y | .eqS _ x y | .eqF _ x y | .eqA _ _ x y | .idxA _ x y | .idxS x y=>[x,y]
 | .build _ ps=>ps.map (·.2.2)
 | .mkfn _ a b=>a++b
 | .slc _ x lo hi | .slcS x lo hi=>x::(lo.toList++hi.toList)
 | .mm _ l | .mkFD _ _ _ l=>l
 | .callD _ l=>l
 | .callVD f l=>f::l
 | .allocD _ _=>[]
 | .appD _ _ _ _ s x=>[s,x]
 | .storeD _ a x=>[a,x]
 | .storeK _ _ a x=>[a,x]
 | _=>[]
def dA:eP->Bool
 | .mov _ | .nilck _ | .mkmv _ _ | .conv _ _ | .un _ _ | .fieldA _ _ | .fieldV _ _ _ _ | .extr _ _ | .len _ | .lenS _ | .capa _ | .loadD _ _ _ | .pick _ _ _
 | .bin _ _ _ | .eqB _ _ _ | .eqP _ _ _ | .eqS _ _ _ | .eqF _ _ _ | .eqN _ _ | .eqA _ _ _ _ | .idxA _ _ _ | .idxS _ _ | .build _ _ | .mkfn _ _ _ | .slc _ _ _ _ | .slcS _ _ _ | .mm _ _ | .b2sD _ | .b2sR _ | .loadK _ _ _ _ | .loadF _ _ _ | .gload _ | .loadR _ _ _ | .mlook _ _ _ _ _ | .mlen _=>true
 | _=>false
def HK:eP->Bool
 | .b2sR _ | .loadR _ _ _ | .mlook _ _ _ _ _ | .mlen _=>true
 | _=>false
def iC:eP->Bool
 | .callD _ _ | .callVD _ _=>true
 | _=>false
def fk:eP->Bool
 | .mkFD _ _ _ _ | .boxD _ _ | .allocD _ _ | .makeSD _ _ _ _ | .makeSV _ _ _ _ _=>true
 | _=>false
def pM:eP->Bool
 | .appD _ _ _ _ _ _=>true
 | _=>false
def iU:eP->Bool
 | .storeD _ _ _=>true
 | .storeK _ _ _ _=>true
 | _=>false
def BP:eP->Bool
 | .mov _ | .nilck _ | .mkmv _ _ | .conv _ _ | .un _ _ | .fieldA _ _ | .fieldV _ _ _ _ | .extr _ _ | .len _ | .lenS _ | .capa _ | .pick _ _ _
 | .bin _ _ _ | .eqB _ _ _ | .eqP _ _ _ | .eqS _ _ _ | .eqF _ _ _ | .eqN _ _ | .eqA _ _ _ _ | .idxA _ _ _ | .idxS _ _ | .slc _ _ _ _ | .slcS _ _ _ | .mm _ _=>true
 | _=>false
theorem BQ {o:eP}(h:BP o=true):dA o=true:=by cases o<;>first | rfl | cases h
theorem zo {o:eP}(h:BP o=true) {F F':aD}{L L':Loc}{ρ:Env}{V:SV->Prop}(a:aL o F L ρ V):aL o F' L' ρ V:=by
 cases o<;>first | (cases h;done) | exact a
def drawn:eP->Option eP
 | .load a n x=>some (.loadD a n x)
 | .call f l=>some (.callD f l)
 | .callV f l=>some (.callVD f l)
 | .box t x=>some (.boxD t x)
 | .alloc t z=>some (.allocD t z)
 | .mkF e n sz l=>some (.mkFD e n sz l)
 | .app e sz b z s x=>some (.appD e sz b z s x)
 | .store n a x=>some (.storeD n a x)
 | .b2s x=>some (.b2sD x)
 | .boxD _ _ | .allocD _ _ | .mkFD _ _ _ _ | .callD _ _ | .callVD _ _ | .loadD _ _ _ | .appD _ _ _ _ _ _ | .storeD _ _ _ | .boxF _ _ | .callO _ _ | .callVO _ _ | .appX _ _ _ _ _ _ | .b2sD _ | .b2sR _ | .makeSD _ _ _ _ | .makeSV _ _ _ _ _ | .loadK _ _ _ _ | .storeK _ _ _ _ | .copyX _ _ _ _ | .storeX _ _ _ | .look _ _ | .makeS _ _ _ _ _ _ | .loadF _ _ _ | .loadR _ _ _ | .mkmap | .mupd _ _ _ _ | .mrange _ | .mnext _ | .mentry _=>none
 | o=>some o
def Am:X->Option Int
 | .c (.int _ n)=>some n
 | _=>none
def O2 (b:Nat) (n m:Int):Bool:=Nat.ble (n.toNat*b) 140737488355328&&Nat.ble n.toNat 9223372036854775807&&(match n,m with | .ofNat a,.ofNat b=>Nat.beq a b | _,_=>false)
def nR (bx:List Nat):eP->Option eP
 | .makeS e sz b zs l c=>match Am l,Am c with
  | some n,some m=>match O2 b n m with
   | true=>some (.makeSD e sz n.toNat zs)
   | false=>none
  | _,_=>match l,c with
   | .t i,.t j=>match Nat.beq i j with
    | true=>some (.makeSV e sz b zs (.t i))
    | false=>none
   | _,_=>none
 | .mkR e 0 sz []=>some (.makeSD e sz 0 (List.replicate sz undef))
 | .load a n (.t i)=>match ga bx i with | true=>some (.loadK i a n (.t i)) | false=>some (.loadD a n (.t i))
 | .store n (.t i) x=>match ga bx i with | true=>some (.storeK i n (.t i) x) | false=>some (.storeD n (.t i) x)
 | o=>drawn o
def ND:List (Nat×Nat)->Nat->Option Nat
 | [],_=>none
 | (i,k)::l,j=>match Nat.beq i j with | true=>some k | false=>ND l j
def uD (fl:List Nat) (bk:List (Nat×Nat)) (bx:List Nat):eP->Option eP
 | .load a n (.t i)=>match ga fl i with
  | true=>some (.loadF a n (.t i))
  | false=>match ND bk i with
   | some key=>match Nat.beq key 999999 with
    | true=>some (.loadR a n (.t i))
    | false=>some (.loadK key a n (.t i))
   | none=>nR bx (.load a n (.t i))
 | .b2s (.t i)=>match ga fl i with
  | true=>some (.b2sR (.t i))
  | false=>nR bx (.b2s (.t i))
 | o=>nR bx o
def wN:eP->Option eP
 | .call f l=>some (.callO f l)
 | .callV f l=>some (.callVO f l)
 | .app e sz b z s x=>some (.appX e sz b z s x)
 | .copy e sz a b=>some (.copyX e sz a b)
 | .store n a x=>some (.storeX n a x)
 | .mupd str x i v=>some (.mupd str x i v)
 | _=>none
section
variable {P:Program}{F:aD}{L:Loc}{ρ:Env}{K:cS}
theorem cI {o:eP}(h:dA o=true) (d:Option Nat):evalOp P o d F L ρ K=aL o F L ρ fun v=>K F L (put d v ρ):=by
 cases o<;>first | rfl | cases h
structure One (T:(SV->Prop)->Prop):Prop where
 ex:∀V,T V->∃v,T (fun u=>u=v)/\V v
 mono:∀V V':SV->Prop,(∀v,V v->V' v)->T V->T V'
theorem One.ret (v:SV):One fun V=>V v:=⟨fun V h=>⟨v,rfl,h⟩,fun V V' h k=>h v k⟩
theorem One.no:One fun _=>False:=⟨fun V h=>h.elim,fun V V' h k=>k⟩
theorem One.and {p:Prop}{T:(SV->Prop)->Prop}(h:One T):One fun V=>p/\T V :=
 ⟨fun V ⟨a,b⟩=>let⟨v,h1,h2⟩:=h.ex V b;⟨v,⟨a,h1⟩,h2⟩,fun V V' c ⟨a,b⟩=>⟨a,h.mono V V' c b⟩⟩
theorem One.fit {k:IntKind}{n:Int}{T:Int->(SV->Prop)->Prop}(h:∀m,One (T m)):One fun V=>Fit k n fun m=>T m V :=
 ⟨fun V ⟨a⟩=>let⟨v,h1,h2⟩:=(h _).ex V a;⟨v,⟨h1⟩,h2⟩,fun V V' b ⟨a⟩=>⟨(h _).mono V V' b a⟩⟩
theorem One.nz {n:Int}{T:(SV->Prop)->Prop}(h:One T):One fun V=>nP n (T V) :=
 ⟨fun V ⟨a,b⟩=>let⟨v,h1,h2⟩:=h.ex V b;⟨v,⟨a,h1⟩,h2⟩,fun V V' c ⟨a,b⟩=>⟨a,h.mono V V' c b⟩⟩
theorem One.inb {i n:Int}{T:(SV->Prop)->Prop}(h:One T):One fun V=>OA i n (T V) :=
 ⟨fun V ⟨a,c,b⟩=>let⟨v,h1,h2⟩:=h.ex V b;⟨v,⟨a,c,h1⟩,h2⟩,fun V V' d ⟨a,c,b⟩=>⟨a,c,h.mono V V' d b⟩⟩
theorem One.idx {a:Option Addr}{i n:Int}{T:(SV->Prop)->Prop}(h:One T):One fun V=>Es a i n (T V) :=
 ⟨fun V ⟨c,e,b,d⟩=>let⟨v,h1,h2⟩:=h.ex V d;⟨v,⟨c,e,b,h1⟩,h2⟩,fun V V' f ⟨c,e,b,d⟩=>⟨c,e,b,h.mono V V' f d⟩⟩
theorem One.slc {l h:Int}{c:Nat}{T:Nat->Nat->(SV->Prop)->Prop}(f:∀l h,One (T l h)):One fun V=>nD l h c fun l h=>T l h V :=
 ⟨fun V ⟨b,e,a,d⟩=>let⟨v,h1,h2⟩:=(f _ _).ex V d;⟨v,⟨b,e,a,h1⟩,h2⟩,fun V V' j ⟨b,e,a,d⟩=>⟨b,e,a,(f _ _).mono V V' j d⟩⟩
theorem One.loadD {a:Option Addr}{j n:Nat}{T:List Value->(SV->Prop)->Prop}(h:∀cs,One (T cs)):One fun V=>iS F a j n fun cs=>T cs V :=
 ⟨fun V ⟨cs,b,d,c⟩=>let⟨v,h1,h2⟩:=(h _).ex V c;⟨v,⟨cs,b,d,h1⟩,h2⟩,fun V V' e ⟨cs,b,d,c⟩=>⟨cs,b,d,(h _).mono V V' e c⟩⟩
theorem One.Z4 {a:Option Addr}{j n:Nat}{T:List Value->(SV->Prop)->Prop}(h:∀cs,One (T cs)):One fun V=>jM F L a j n fun cs=>T cs V :=
 ⟨fun V ⟨cs,b,d,c⟩=>let⟨v,h1,h2⟩:=(h _).ex V c;⟨v,⟨cs,b,d,h1⟩,h2⟩,fun V V' e ⟨cs,b,d,c⟩=>⟨cs,b,d,(h _).mono V V' e c⟩⟩
theorem One.Z7 {g:Nat}{T:Nat->List Value->(SV->Prop)->Prop}(h:∀k cs,One (T k cs)):One fun V=>BB L g fun k cs=>T k cs V :=
 ⟨fun V ⟨k,cs,a,c,b⟩=>let⟨v,h1,h2⟩:=(h _ _).ex V b;⟨v,⟨k,cs,a,c,h1⟩,h2⟩,fun V V' d ⟨k,cs,a,c,b⟩=>⟨k,cs,a,c,(h _ _).mono V V' d b⟩⟩
theorem One.mlk {str:Bool}{cs:List Value}{key:Value}{ok:Bool}{z:Value}:One fun V=>Eu str cs key ok z fun v=>V (.v v) :=
 ⟨fun V h=>by
  rcases h.out with⟨i,v,b,a⟩ | ⟨b,a⟩
  ·exact⟨_,⟨.inl ⟨i,v,b,rfl⟩⟩,a⟩
  ·exact⟨_,⟨.inr ⟨b,rfl⟩⟩,a⟩,fun V V' c h=>⟨h.out.imp (fun⟨i,v,b,a⟩=>⟨i,v,b,c _ a⟩) fun⟨b,a⟩=>⟨b,c _ a⟩⟩⟩
theorem One.gl {g:Nat}{T:Value->(SV->Prop)->Prop}(h:∀v,One (T v)):One fun V=>QU F g fun v=>T v V :=
 ⟨fun V ⟨u,t,a,b,c⟩=>let⟨v,h1,h2⟩:=(h _).ex V c;⟨v,⟨u,t,a,b,h1⟩,h2⟩,fun V V' d ⟨u,t,a,b,c⟩=>⟨u,t,a,b,(h _).mono V V' d c⟩⟩
theorem One.bytes {cs:List Value}{T:List UInt8->(SV->Prop)->Prop}(h:∀bs,One (T bs)):One fun V=>Aj cs fun bs=>T bs V :=
 ⟨fun V ⟨bs,a,b⟩=>let⟨v,h1,h2⟩:=(h _).ex V b;⟨v,⟨bs,a,h1⟩,h2⟩,fun V V' c ⟨bs,a,b⟩=>⟨bs,a,(h _).mono V V' c b⟩⟩
theorem One.binI {op:BinOp}{k:IntKind}{a b:Int}:One fun V=>binI op k a b fun v=>V (.v v):=by
 cases op<;>simp only[Fr.binI]<;>first
  | exact One.no
  | exact One.ret _
  | exact One.fit fun _=>One.ret _
  | exact One.nz (One.fit fun _=>One.ret _)
  | exact One.nz (One.ret _)
theorem One.shI {op:BinOp}{k:IntKind}{a b:Int}:One fun V=>shI op k a b fun v=>V (.v v):=by
 cases op<;>simp only[Fr.shI]<;>first
  | exact One.no
  | exact One.and (One.fit fun _=>One.ret _)
  | exact One.and (One.ret _)
theorem One.binS {op:BinOp}{a b:ByteArray}:One fun V=>binS op a b fun v=>V (.v v):=by
 cases op<;>simp only[Fr.binS]<;>first
  | exact One.no
  | exact One.ret _
  | exact One.and (One.ret _)
theorem fS {o:eP}(h:dA o=true):One (aL o F L ρ):=by
 cases o<;>first | (cases h;done) | skip
 case b2sR x =>
  show One fun V=>aL _ F L ρ V;simp only[aL];cases e:ev ρ x with
  | own k off=>exact One.no
  | el a j=>exact One.no
  | v x =>
   cases x<;>try exact One.no
   exact⟨fun V ⟨k,t,c,bs,z,h2,h3,w⟩=>⟨_,⟨k,t,c,bs,z,h2,h3,rfl⟩,w⟩,fun V V' hv ⟨k,t,c,bs,z,h2,h3,w⟩=>⟨k,t,c,bs,z,h2,h3,hv _ w⟩⟩
 case mov x=>exact One.ret _
 case pick c a b =>
  show One fun V=>aL _ F L ρ V;simp only[aL];cases e:ev ρ c with
  | v x =>
    cases x<;>try exact One.no
    rename_i b;cases b<;>exact One.ret _
  | own k off=>exact One.no
  | el a j=>exact One.no
 case build zs ps =>
  show One fun V=>aL _ F L ρ V;simp only[aL];cases e:built L ρ zs ps with
  | none=>exact One.no
  | some cs=>exact One.ret _
 case loadD ag n x =>
  show One fun V=>aL _ F L ρ V;simp only[aL];cases e:ev ρ x with
  | own k off =>
   simp only[];cases m:L.get k with
   | none=>exact One.no
   | some p =>
    cases p with
    | row=>exact One.no
    | box g t cs =>
     simp only[];cases e3:jg t ((cs.drop off).take n) n
     ·exact One.no
     ·exact One.ret _
  | el a j=>exact One.loadD fun _=>One.ret _
  | v x =>
   cases x<;>try exact One.no
   rename_i a;cases a
   ·exact One.no
   ·exact One.loadD fun _=>One.ret _
 case gload g =>
  show One fun V=>aL _ F L ρ V;simp only[aL];exact One.gl fun _=>One.ret _
 case loadR ag n x =>
  show One fun V=>aL _ F L ρ V;simp only[aL];cases e:ev ρ x with
  | own k off =>
   simp only[];cases m:L.get k with
   | none=>exact One.no
   | some p =>
    cases p with
    | row=>exact One.no
    | box g t cs =>
     simp only[];cases e3:jg t ((cs.drop off).take n) n
     ·exact One.no
     ·exact One.ret _
  | el a j=>exact One.Z4 fun _=>One.ret _
  | v x =>
   cases x<;>try exact One.no
   rename_i a;cases a
   ·exact One.no
   ·exact One.Z4 fun _=>One.ret _
 case mlook str ok z0 x i =>
  show One fun V=>aL _ F L ρ V;simp only[aL];cases e:ev ρ x with
  | own k off=>exact One.no
  | el a j=>exact One.no
  | v x =>
   cases x<;>try exact One.no
   rename_i a;cases a
   ·exact One.no
   ·exact One.Z7 fun k cs=>One.mlk
 case mlen x =>
  show One fun V=>aL _ F L ρ V;simp only[aL];cases e:ev ρ x with
  | own k off=>exact One.no
  | el a j=>exact One.no
  | v x =>
   cases x<;>try exact One.no
   rename_i a;cases a
   ·exact One.no
   ·exact One.Z7 fun k cs=>One.ret _
 case loadF ag n x =>
  show One fun V=>aL _ F L ρ V;simp only[aL];cases e:ev ρ x with
  | own k off=>exact One.no
  | el a j=>exact One.loadD fun _=>One.ret _
  | v x =>
   cases x<;>try exact One.no
   rename_i a;cases a
   ·exact One.no
   ·exact One.loadD fun _=>One.ret _
 case loadK key ag n x =>
  show One fun V=>aL _ F L ρ V;simp only[aL];cases e:ev ρ x with
  | own k off =>
   simp only[];cases e1:Nat.beq k key with
   | false=>exact One.no
   | true =>
    simp only[];cases m:L.get k with
    | none=>exact One.no
    | some p =>
     cases p with
     | row=>exact One.no
     | box g t cs =>
      simp only[];cases e3:jg t ((cs.drop off).take n) n
      ·exact One.no
      ·exact One.ret _
  | el a j=>exact One.no
  | v x=>exact One.no
 case b2sD x =>
  show One fun V=>aL _ F L ρ V;simp only[aL];cases e:ev ρ x with
  | own k off=>exact One.no
  | el a j=>exact One.no
  | v x =>
   cases x<;>try exact One.no
   exact One.loadD fun _=>One.bytes fun _=>One.ret _
 case nilck x =>
  show One fun V=>aL _ F L ρ V;simp only[aL];cases e:ev ρ x with
  | own k off=>exact One.ret _
  | el a j=>exact One.and (One.ret _)
  | v x =>
   cases x<;>try exact One.no
   ·rename_i a;cases a
    ·exact One.no
    ·exact One.ret _
   ·rename_i f a b;cases f<;>first
     | exact One.no
     | exact One.ret _
     | (simp only[]
        split
        ·exact One.and (One.ret _)
        ·exact One.no)
 case mkmv nm x =>
  show One fun V=>aL _ F L ρ V;simp only[aL];cases e:ev ρ x with
  | own k off=>exact One.no
  | el a j=>exact One.no
  | v x=>exact One.ret _
 case bin op x y =>
  show One fun V=>aL _ F L ρ V;simp only[aL];cases e:ev ρ x with
  | own k off=>exact One.no
  | el a j=>exact One.no
  | v u =>
   cases m:ev ρ y with
   | own k off=>cases u<;>exact One.no
   | el a j=>cases u<;>exact One.no
   | v d =>
    cases u<;>cases d<;>try exact One.no
    ·simp only[];cases Hh op
     ·simp only[];rename_i k n k' n';cases qf k k'
      ·exact One.no
      ·exact One.binI
     ·exact One.shI
    ·exact One.binS
 case eqB ng x y =>
  show One fun V=>aL _ F L ρ V;simp only[aL];cases e:ev ρ x with
  | own k off=>exact One.no
  | el a j=>exact One.no
  | v u =>
   cases m:ev ρ y with
   | own k off=>cases u<;>exact One.no
   | el a j=>cases u<;>exact One.no
   | v d=>cases u<;>cases d<;>first | exact One.no | exact One.ret _
 case eqP ng x y =>
  show One fun V=>aL _ F L ρ V;simp only[aL];cases e:ev ρ x with
  | own k off =>
   cases m:ev ρ y with
   | own k off=>exact One.no
   | el a j=>exact One.no
   | v d =>
    cases d<;>try exact One.no
    rename_i p;cases p<;>first | exact One.no | exact One.ret _
  | el a j =>
   cases m:ev ρ y with
   | own k off=>cases a<;>exact One.no
   | el b i=>cases a<;>exact One.no
   | v d =>
    cases a<;>cases d<;>try exact One.no
    rename_i p;cases p<;>first | exact One.no | exact One.ret _
  | v u =>
   cases m:ev ρ y with
   | own k off=>cases u<;>exact One.no
   | el a j=>cases u<;>exact One.no
   | v d =>
    cases u<;>cases d<;>try exact One.no
    rename_i p q;cases q<;>first | exact One.no | exact One.ret _
 case eqS ng x y =>
  show One fun V=>aL _ F L ρ V;simp only[aL];cases e:ev ρ x with
  | own k off=>exact One.no
  | el a j=>exact One.no
  | v u =>
   cases m:ev ρ y with
   | own k off=>cases u<;>exact One.no
   | el a j=>cases u<;>exact One.no
   | v d =>
    cases u<;>cases d<;>try exact One.no
    rename_i a1 l1 c1 a2 l2 c2;cases a2<;>first | exact One.no | exact One.ret _
 case eqF ng x y =>
  show One fun V=>aL _ F L ρ V;simp only[aL];cases e:ev ρ x with
  | own k off=>exact One.no
  | el a j=>exact One.no
  | v u =>
   cases m:ev ρ y with
   | own k off=>cases u<;>exact One.no
   | el a j=>cases u<;>exact One.no
   | v d=>cases u<;>cases d<;>first | exact One.no | exact One.ret _
 case eqN ng x =>
  show One fun V=>aL _ F L ρ V;simp only[aL];cases e:ev ρ x with
  | own k off=>exact One.no
  | el a j=>exact One.no
  | v u=>cases u<;>first | exact One.no | exact One.ret _
 case eqA ng ks x y =>
  show One fun V=>aL _ F L ρ V;simp only[aL];cases e:ev ρ x with
  | own k off=>exact One.no
  | el a j=>exact One.no
  | v u =>
   cases m:ev ρ y with
   | own k off=>cases u<;>exact One.no
   | el a j=>cases u<;>exact One.no
   | v d =>
    cases u<;>cases d<;>try exact One.no
    rename_i cs ds;simp only[];cases jh ks cs.toList ds.toList true<;>first | exact One.no | exact One.ret _
 case un op x =>
  show One fun V=>aL _ F L ρ V;simp only[aL];cases op<;>cases e:ev ρ x<;>first
   | exact One.no
   | (rename_i u;cases u<;>first | exact One.no | exact One.ret _ | exact One.fit fun _=>One.ret _)
 case conv k x =>
  show One fun V=>aL _ F L ρ V;simp only[aL];cases e:ev ρ x<;>first
   | exact One.no
   | (rename_i u;cases u<;>first | exact One.no | exact One.fit fun _=>One.ret _)
 case mkfn f a b=>exact One.ret _
 case slc sz x lo hi =>
  show One fun V=>aL _ F L ρ V;simp only[aL];cases e:ev ρ x<;>try exact One.no
  rename_i u;cases u<;>try exact One.no
  rename_i a n c;simp only[];cases jI ρ 0 lo<;>cases jI ρ n hi<;>first | exact One.no | exact One.slc fun _ _=>One.ret _
 case slcS x lo hi =>
  show One fun V=>aL _ F L ρ V;simp only[aL];cases e:ev ρ x<;>try exact One.no
  rename_i u;cases u<;>try exact One.no
  rename_i s;simp only[];cases jI ρ 0 lo<;>cases jI ρ s.size hi<;>first | exact One.no | exact One.slc fun _ _=>One.ret _
 case fieldA off x =>
  show One fun V=>aL _ F L ρ V;simp only[aL];cases e:ev ρ x with
  | own k off=>exact One.ret _
  | el a j=>exact One.ret _
  | v u =>
   cases u<;>try exact One.no
   rename_i p;cases p<;>first | exact One.no | exact One.ret _
 case fieldV ag off n x =>
  show One fun V=>aL _ F L ρ V;simp only[aL];cases e:ev ρ x<;>try exact One.no
  rename_i u;cases u<;>try exact One.no
  rename_i cs;simp only[];cases fM ((cs.toList.drop off).take n) n<;>first | exact One.no | exact One.ret _
 case idxA sz x i =>
  show One fun V=>aL _ F L ρ V;simp only[aL];cases e:ev ρ x with
  | own k off=>exact One.no
  | el a j=>exact One.no
  | v u =>
   cases m:ev ρ i with
   | own k off=>cases u<;>exact One.no
   | el a j=>cases u<;>exact One.no
   | v d=>cases u<;>cases d<;>first | exact One.no | exact One.idx (One.ret _)
 case idxS x i =>
  show One fun V=>aL _ F L ρ V;simp only[aL];cases e:ev ρ x with
  | own k off=>exact One.no
  | el a j=>exact One.no
  | v u =>
   cases m:ev ρ i with
   | own k off=>cases u<;>exact One.no
   | el a j=>cases u<;>exact One.no
   | v d=>cases u<;>cases d<;>first | exact One.no | exact One.inb (One.ret _)
 case extr x i =>
  show One fun V=>aL _ F L ρ V;simp only[aL];cases e:ev ρ x<;>try exact One.no
  rename_i u;cases u<;>try exact One.no
  rename_i vs;simp only[];cases vs.toList[i]?<;>first | exact One.no | exact One.ret _
 case len x =>
  show One fun V=>aL _ F L ρ V;simp only[aL];cases e:ev ρ x<;>try exact One.no
  rename_i u;cases u<;>first | exact One.no | exact One.ret _
 case lenS x =>
  show One fun V=>aL _ F L ρ V;simp only[aL];cases e:ev ρ x<;>try exact One.no
  rename_i u;cases u<;>first | exact One.no | exact One.ret _
 case capa x =>
  show One fun V=>aL _ F L ρ V;simp only[aL];cases e:ev ρ x<;>try exact One.no
  rename_i u;cases u<;>first | exact One.no | exact One.ret _
 case mm mx l =>
  show One fun V=>aL _ F L ρ V;simp only[aL];cases e:l.map (ev ρ) with
  | nil=>exact One.no
  | cons u r =>
   cases u<;>try exact One.no
   rename_i u;cases u<;>try exact One.no
   rename_i k a0;simp only[];cases Ny mx a0 r<;>first | exact One.no | exact One.ret _
end
theorem sF {P:Program}{s s':eP}{d:Option Nat}{F:aD}{L:Loc}{ρ:Env}{K:cS}(h:drawn s=some s') (ae:(dA s'||iC s'||fk s'||pM s'||iU s')=true) (ac:iC s'=false) (f:evalOp P s' d F L ρ K):evalOp P s d F L ρ (fun F' L' ρ'=>Real F' L'->K F' L' ρ'):=by
 have load:∀{a:Option Addr}{j n:Nat}{KK KK':List Value->Prop},iS F a j n KK->(∀cs,KK cs->KK' cs)->jM F L a j n KK':=by
  rintro a j n KK KK' ⟨cs,p,q,h3⟩ u;exact⟨cs,p,by rcases q with q | q;exact .inl q;exact .inr (.inr (.inl q)),u _ h3⟩
 have app:∀{e sz b:Nat}{sv xv:Value}{KK KK':Loc->Value->Prop},qe F L d e sz b sv xv KK->(∀L' v,(Real F L'->KK L' v)->KK' L' v)->Et F L e sz b sv xv KK':=by
  rintro e sz b sv xv KK KK' ⟨kd,n,xs,m,news,p,⟨ad,c,q,h3,u⟩,h5,h6,h7,h8⟩ hk;refine⟨kd,n,xs,m,news,?_,⟨ad,c,q,h3,?_⟩,h5,h6,h7,fun v z=>hk _ _ (h8 v z)⟩
  ·rcases p with p | ⟨_,p⟩ | ⟨_,p⟩
   ·exact .inl p
   ·exact .inr (.inl p)
   ·exact .inr (.inr p)
  ·rcases u with u | u
   ·exact .inl u
   ·exact .inr (.inl u)
 by_cases y:dA s'=true
 ·have r:=y;have p:∀V V':SV->Prop,(∀v,V v->V' v)->aL s' F L ρ V->aL s F L ρ V':=by
   intro V V' hV o;have o:=(fS r).mono V V' hV o;cases s<;>simp only[drawn,yo,reduceCtorEq] at h<;>subst h<;>first
    | exact o
    | (simp only[aL] at o ⊢
       split at o
       ·exact o
       ·exact load o fun _ h=>h
       ·exact load o fun _ h=>h
       ·exact o)
    | (simp only[aL] at o ⊢
       split at o
       ·exact load o fun _ h=>h
       ·exact o)
    | (exfalso;revert y;simp[dA];done)
  rw[cI r] at f;have q:=p _ (fun v=>Real F L->K F L (put d v ρ)) (fun v z _=>z) f;cases s<;>simp only[drawn,yo,reduceCtorEq] at h<;>subst h<;>first
   | exact q
   | (exfalso;revert y;simp[dA];done)
 ·by_cases w:iU s'=true
  ·cases s<;>simp only[drawn,yo,reduceCtorEq] at h<;>subst h<;>first | (cases w;done) | skip
   rename_i n a x;have l:(match fM (aJ (val L ρ x)) n,jA (aJ (val L ρ x)),ev ρ a with
    | true,true,.own k off=>match L.get k with
     | some (.box g t cs)=>match jg t ((cs.drop off).take n) n with
      | true=>K F (L.set k (.box g t (aP cs off (aJ (val L ρ x))))) (put d (.v undef) ρ)
      | false=>False
     | _=>False
    | _,_,_=>False):=f
   clear f
   split at l
   case h_2=>exact l.elim
   rename_i e1 e2 e3;split at l
   case h_2=>exact l.elim
   rename_i e4;split at l
   case h_2=>exact l.elim
   rename_i e5;simp only[evalOp,e1,e2,e3,e4,e5];exact fun _=>l
  cases s<;>simp only[drawn,yo,reduceCtorEq] at h<;>subst h<;>first
   | (exfalso;revert y ae w;simp[dA,iC,fk,pM,iU];done)
   | (cases ac;done)
   | (simp only[evalOp] at f ⊢
      split at f
      ·exact app f fun _ _ h=>h
      ·exact f)
   | (simp only[evalOp] at f ⊢
      split at f
      ·split at f
       ·exact f
       ·exact f
      ·exact f)
   | (simp only[evalOp] at f ⊢
      split at f
      ·exact fun g F' ab hg hr=>f g F' ab hg hr
      ·exact f)
section
variable {P:Program}{F:aD}{L:Loc}{ρ:Env}{K:cS}
def Alike (o:eP) (L L':Loc) (ρ ρ':Env):Prop:=∀x∈bI o,ev ρ' x=ev ρ x/\∀k off,ev ρ x=.own k off->L'.get k=L.get k
theorem Alike.val {o:eP}{L L':Loc}{ρ ρ':Env}(h:Alike o L L' ρ ρ') {x:X}(d:x∈bI o):Fr.val L' ρ' x=Fr.val L ρ x:=by
 obtain⟨b,c⟩:=h x d;simp only[Fr.val,b];cases e:ev ρ x with
 | v u=>rfl
 | el a j=>rfl
 | own k off=>simp only[conc,c k off e]
theorem dO {L L':Loc}{ρ ρ':Env}:∀{xs:List X},(∀x∈xs,Fr.val L' ρ' x=Fr.val L ρ x)->bq L' ρ' xs=bq L ρ xs
 | [],_=>rfl
 | x::xs,h=>by simp only[bq,h x (by simp),dO (xs:=xs) (fun y a=>h y (aaH _ a))]
theorem cJ {L L':Loc}{ρ ρ':Env}:∀{xs:List X},(∀x∈xs,Fr.val L' ρ' x=Fr.val L ρ x)->cellsOf L' ρ' xs=cellsOf L ρ xs
 | [],_=>rfl
 | x::xs,h=>by simp only[cellsOf,h x (by simp),cJ (xs:=xs) (fun y a=>h y (aaH _ a))]
theorem nF {L L':Loc}{ρ ρ':Env}{sz:Nat}:∀{xs:List X},(∀x∈xs,Fr.val L' ρ' x=Fr.val L ρ x)->fN L' ρ' sz xs=fN L ρ sz xs
 | [],_=>rfl
 | x::xs,h=>by simp only[fN,h x (by simp),nF (xs:=xs) (fun y a=>h y (aaH _ a))]
theorem qp {L L':Loc}{ρ ρ':Env}:∀{ps:List (Nat×Nat×X)}{zs:List Value},(∀p∈ps,Fr.val L' ρ' p.2.2=Fr.val L ρ p.2.2)->built L' ρ' zs ps=built L ρ zs ps
 | [],zs,_=>rfl
 | (off,n,x)::ps,zs,h=>by
  have a:=h (off,n,x) (by simp);simp only at a;simp only[built,a];split
  ·exact qp (fun p b=>h p (by simp[b]))
  ·rfl
theorem iS.up {F F':aD}(c:F.le F') {a:Option Addr}{j n:Nat}{K:List Value->Prop}(h:iS F a j n K):iS F' a j n K:=by
 obtain⟨cs,e,b,d⟩:=h;exact⟨cs,e,by rcases b with b | b;exact .inl (b.mono c);exact .inr b,d⟩
theorem jM.upF {F F':aD}(c:F.le F') {L:Loc}{a:Option Addr}{j n:Nat}{K:List Value->Prop}(h:jM F L a j n K):jM F' L a j n K:=by
 obtain⟨cs,e,b,d⟩:=h;exact⟨cs,e,by rcases b with b | b;exact .inl (b.mono c);exact .inr b,d⟩
theorem oV {ρ ρ':Env}{d:Int}{x:Option X}(h:∀y∈x.toList,ev ρ' y=ev ρ y):jI ρ' d x=jI ρ d x:=by
 cases x with
 | none=>rfl
 | some y=>simp only[jI,h y (by simp)]
theorem rj {o:eP}(w:dA o=true) {F F':aD}{L L':Loc}{ρ ρ':Env}(s:F.le F') (H:Alike o L L' ρ ρ') {V:SV->Prop}(h:aL o F L ρ V) (m:HK o=false\/L'=L:=by exact .inr rfl):aL o F' L' ρ' V:=by
 cases o<;>first | (cases w;done) | skip
 case build zs ps =>
  have e:=qp (ps:=ps) (zs:=zs) (L:=L) (L':=L') (ρ:=ρ) (ρ':=ρ') (fun p hp=>H.val (aaJ.2 ⟨p,hp,rfl⟩));simp only[aL,e] at h ⊢;exact h
 case mkfn f a b =>
  have j:=dO (xs:=a) (L:=L) (L':=L') (ρ:=ρ) (ρ':=ρ') (fun x r=>H.val (aah.2 (.inl r)));have q:=dO (xs:=b) (L:=L) (L':=L') (ρ:=ρ) (ρ':=ρ') (fun x r=>H.val (aah.2 (.inr r)));simp only[aL,j,q] at h ⊢;exact h
 case mm mx l =>
  have e:l.map (ev ρ')=l.map (ev ρ):=aa9 fun x r=>(H x r).1;simp only[aL,e] at h ⊢;exact h
 case slc sz x lo hi =>
  have e:=(H x (by simp[bI])).1;have j:∀d,jI ρ' d lo=jI ρ d lo:=fun d=>oV fun y v=>(H y (by simp only[bI];exact aaH _ (aah.2 (.inl v)))).1;have q:∀d,jI ρ' d hi=jI ρ d hi:=fun d=>oV fun y v=>(H y (by simp only[bI];exact aaH _ (aah.2 (.inr v)))).1;simp only[aL,e,j,q] at h ⊢;exact h
 case slcS x lo hi =>
  have e:=(H x (by simp[bI])).1;have j:∀d,jI ρ' d lo=jI ρ d lo:=fun d=>oV fun y v=>(H y (by simp only[bI];exact aaH _ (aah.2 (.inl v)))).1;have q:∀d,jI ρ' d hi=jI ρ d hi:=fun d=>oV fun y v=>(H y (by simp only[bI];exact aaH _ (aah.2 (.inr v)))).1;simp only[aL,e,j,q] at h ⊢;exact h
 case loadD ag n x =>
  obtain⟨e,j⟩:=H x (by simp[bI]);simp only[aL,e] at h ⊢;split at h
  ·rename_i k off r;simp only[j k off r];exact h
  ·exact h.up s
  ·exact h.up s
  ·exact h
 case gload g =>
  simp only[aL] at h ⊢;obtain⟨u,t,z,h1,h2⟩:=h;exact⟨u,t,z,s _ _ h1,h2⟩
 case loadR ag n x =>
  obtain⟨e,j⟩:=H x (by simp[bI]);rcases m with m | rfl
  ·cases m
  ·simp only[aL,e] at h ⊢;split at h
   ·exact h
   ·exact h.upF s
   ·exact h.upF s
   ·exact h
 case mlook str ok z0 x i =>
  obtain⟨e,j⟩:=H x (by simp[bI]);have q:val L' ρ' i=val L ρ i:=H.val (by simp[bI]);rcases m with m | rfl
  ·cases m
  ·simp only[aL,e,q] at h ⊢;exact h
 case mlen x =>
  obtain⟨e,j⟩:=H x (by simp[bI]);rcases m with m | rfl
  ·cases m
  ·simp only[aL,e] at h ⊢;exact h
 case loadF ag n x =>
  obtain⟨e,j⟩:=H x (by simp[bI]);simp only[aL,e] at h ⊢;split at h
  ·exact h.up s
  ·exact h.up s
  ·exact h
 case loadK key ag n x =>
  obtain⟨e,j⟩:=H x (by simp[bI]);simp only[aL,e] at h ⊢;split at h
  ·rename_i k off r;simp only[j k off r];exact h
  ·exact h
 case b2sD x =>
  obtain⟨e,j⟩:=H x (by simp[bI]);simp only[aL,e] at h ⊢;split at h
  ·exact h.up s
  ·exact h
 case b2sR x =>
  obtain⟨e,j⟩:=H x (by simp[bI]);rcases m with m | rfl
  ·cases m
  ·simp only[aL,e] at h ⊢;exact h
 case pick c a b =>
  have j:=(H c (by simp[bI])).1;have q:=(H a (by simp[bI])).1;have e3:=(H b (by simp[bI])).1;simp only[aL,j,q,e3] at h ⊢;exact h
 all_goals first
  | (have j:=(H _ (List.mem_cons_self ..)).1
     simp only[aL,j] at h ⊢;exact h)
  | (have j:=(H _ (List.mem_cons_self ..)).1
     have q:=(H _ (aaH _ (List.mem_cons_self ..))).1;simp only[aL,j,q] at h ⊢;exact h)
theorem HL {o:eP}(h:dA o=true) {k off:Nat}(d:aL o F L ρ (fun u=>u=.own k off)):∃x∈bI o,∃f,ev ρ x=.own k f:=by
 cases o<;>first | (cases h;done) | skip
 case mov x=>exact⟨x,by simp[bI],off,d⟩
 case pick c a b =>
  simp only[aL] at d;split at d
  ·exact⟨a,by simp[bI],off,d⟩
  ·exact⟨b,by simp[bI],off,d⟩
  ·exact d.elim
 case nilck x =>
  simp only[aL] at d;split at d
  ·rename_i j f e;injection d with h1 h2
   subst h1;exact⟨x,by simp[bI],f,e⟩
  ·cases d.2
  ·cases d
  ·cases d
  ·split at d
   ·cases d.2
   ·exact d.elim
  ·exact d.elim
 case mkmv nm x =>
  simp only[aL] at d;split at d
  ·cases d
  ·exact d.elim
 case fieldA o' x =>
  simp only[aL] at d;split at d
  ·rename_i j f e;injection d with h1 h2
   subst h1;exact⟨x,by simp[bI],f,e⟩
  ·cases d
  ·cases d
  ·exact d.elim
 case bin op x y =>
  simp only[aL] at d;split at d
  ·split at d
   ·cases op<;>simp only[shI] at d<;>first | exact d.elim | (obtain⟨_,⟨d⟩⟩:=d;cases d;done) | (obtain⟨_,d⟩:=d;cases d;done)
   ·split at d
    ·cases op<;>simp only[binI] at d<;>first | exact d.elim | (cases d;done) | (obtain⟨d⟩:=d;cases d;done) | (obtain⟨_,⟨d⟩⟩:=d;cases d;done) | (obtain⟨_,d⟩:=d;cases d;done)
    ·exact d.elim
  ·cases op<;>simp only[binS] at d<;>first | exact d.elim | (cases d;done) | (obtain⟨_,d⟩:=d;cases d;done)
  ·exact d.elim
 case loadD ag n x =>
  simp only[aL] at d;split at d
  ·split at d
   ·split at d
    ·cases d
    ·exact d.elim
   ·exact d.elim
  ·obtain⟨cs,_,_,d⟩:=d;cases d
  ·obtain⟨cs,_,_,d⟩:=d;cases d
  ·exact d.elim
 case gload g =>
  simp only[aL] at d;obtain⟨u,t,l,_,d⟩:=d;cases d
 case loadR ag n x =>
  simp only[aL] at d;split at d
  ·split at d
   ·split at d
    ·cases d
    ·exact d.elim
   ·exact d.elim
  ·obtain⟨cs,_,_,d⟩:=d;cases d
  ·obtain⟨cs,_,_,d⟩:=d;cases d
  ·exact d.elim
 case mlook str ok z0 x i =>
  simp only[aL] at d;split at d
  ·obtain⟨k,cs,_,_,⟨⟨i,v,_,d⟩ | ⟨_,d⟩⟩⟩:=d<;>cases d
  ·exact d.elim
 case mlen x =>
  simp only[aL] at d;split at d
  ·obtain⟨k,cs,_,_,d⟩:=d;cases d
  ·exact d.elim
 case loadF ag n x =>
  simp only[aL] at d;split at d
  ·obtain⟨cs,_,_,d⟩:=d;cases d
  ·obtain⟨cs,_,_,d⟩:=d;cases d
  ·exact d.elim
 case loadK key ag n x =>
  simp only[aL] at d;split at d
  ·split at d
   ·split at d
    ·split at d
     ·cases d
     ·exact d.elim
    ·exact d.elim
   ·exact d.elim
  ·exact d.elim
 case b2sD x =>
  simp only[aL] at d;split at d
  ·obtain⟨cs,_,_,⟨bs,_,d⟩⟩:=d;cases d
  ·exact d.elim
 case b2sR x =>
  simp only[aL] at d;split at d
  ·obtain⟨_,_,_,bs,_,_,_,d⟩:=d;cases d
  ·exact d.elim
 all_goals
  simp only[aL] at d
  repeat' split at d
 all_goals first
  | exact d.elim
  | (cases d;done)
  | (obtain⟨d⟩:=d;cases d;done)
  | (obtain⟨_,_,d⟩:=d;cases d;done)
  | (obtain⟨_,_,_,d⟩:=d;cases d;done)
end
theorem Lc {P:Program}{s s':eP}{d:Option Nat}{F:aD}{L:Loc}{ρ:Env}{K:cS}(h:wN s=some s') (c:evalOp P s' d F L ρ K):evalOp P s d F L ρ (fun F' L' ρ'=>Real F' L'->K F' L' ρ'):=by
 cases s<;>simp only[wN,yo,reduceCtorEq] at h<;>subst h
 case store n a x =>
  simp only[evalOp] at c ⊢;generalize fM (aJ (val L ρ x)) n=z1 at c ⊢;generalize jA (aJ (val L ρ x))=z2 at c ⊢;generalize ev ρ a=z3 at c ⊢;split at c
  ·rename_i k off;generalize L.get k=z at c ⊢;split at c
   ·rename_i g t cs;generalize jg t ((cs.drop off).take n) n=b at c ⊢;cases b
    ·exact c.elim
    ·exact c
   ·exact c.elim
  ·exact⟨.inl c⟩
  ·exact⟨.inl c⟩
  ·exact c.elim
 case mupd =>
  simp only[evalOp] at c ⊢;split at c
  ·obtain⟨k,cs,q,r,w,cs',l,p⟩:=c;exact⟨k,cs,q,r,w,cs',l,fun _=>p⟩
  ·exact c.elim
 ·simp only[evalOp] at c ⊢;exact c
 ·simp only[evalOp] at c ⊢;split at c
  ·exact c
  ·exact c.elim
 ·simp only[evalOp] at c ⊢;split at c
  ·exact c
  ·exact c.elim
 ·simp only[evalOp] at c ⊢;split at c
  ·rename_i dv f o u;rw[o,u];cases f<;>first
    | exact c
    | (obtain⟨⟨k,n,v,nr,xs,ad,cr,cd,j,m,ax,y,news,_,_,_,_,e,_⟩ | ⟨_,_,_,_,_,_,_,e,_⟩⟩:=c<;>cases e)
  ·exact c.elim
theorem rP {P:Program}{F:aD}{L:Loc}{ρ:Env}{K:cS}{n:Nat}{a x:X}{d:Option Nat}:evalOp P (.storeD n a x) d F L ρ K=(match fM (aJ (val L ρ x)) n,jA (aJ (val L ρ x)),ev ρ a with
  | true,true,.own k off=>match L.get k with
   | Option.some (.box g t cs)=>match jg t ((cs.drop off).take n) n with
    | true=>K F (L.set k (.box g t (aP cs off (aJ (val L ρ x))))) (put d (.v undef) ρ)
    | false=>False
   | _=>False
  | _,_,_=>False):=rfl
theorem rQ {P:Program}{F:aD}{L:Loc}{ρ:Env}{K:cS}{key n:Nat}{a x:X}{d:Option Nat}:evalOp P (.storeK key n a x) d F L ρ K=(match fM (aJ (val L ρ x)) n,jA (aJ (val L ρ x)),ev ρ a with
  | true,true,.own k off=>match Nat.beq k key with
   | true=>match L.get k with
    | Option.some (.box g t cs)=>match jg t ((cs.drop off).take n) n with
     | true=>K F (L.set k (.box g t (aP cs off (aJ (val L ρ x))))) (put d (.v undef) ρ)
     | false=>False
    | _=>False
   | false=>False
  | _,_,_=>False):=rfl
theorem iV {P:Program}{F:aD}{L:Loc}{ρ:Env}{K:cS}{o:eP}{d:Option Nat}(m:iU o=true) (b:evalOp P o d F L ρ K) :
  ∃n a x k off g t cs,(o=.storeD n a x\/o=.storeK k n a x)/\fM (aJ (val L ρ x)) n=true/\jA (aJ (val L ρ x))=true/\ev ρ a=.own k off/\L.get k=some (.box g t cs)/\jg t ((cs.drop off).take n) n=true /\
   K F (L.set k (.box g t (aP cs off (aJ (val L ρ x))))) (put d (.v undef) ρ):=by
 cases o<;>first | (cases m;done) | skip
 case storeD n a x =>
  rw[rP] at b;split at b
  case h_2=>exact b.elim
  rename_i k off f e l;split at b
  case h_2=>exact b.elim
  rename_i g t cs j;split at b
  case h_2=>exact b.elim
  rename_i c;exact⟨n,a,x,k,off,g,t,cs,.inl rfl,f,e,l,j,c,b⟩
 case storeK key n a x =>
  rw[rQ] at b;split at b
  case h_2=>exact b.elim
  rename_i k off f e l;split at b
  case h_2=>exact b.elim
  rename_i h;have h:=xo h;subst h;split at b
  case h_2=>exact b.elim
  rename_i g t cs j;split at b
  case h_2=>exact b.elim
  rename_i c;exact⟨n,a,x,k,off,g,t,cs,.inr rfl,f,e,l,j,c,b⟩
theorem iL {P:Program}{F:aD}{L:Loc}{ρ:Env}{K:cS}{o:eP}{d:Option Nat}{n:Nat}{a x:X}{k off g:Nat}{t:TypeId}{cs:List Value}(l:o=.storeD n a x\/o=.storeK k n a x) (f:fM (aJ (val L ρ x)) n=true) (e:jA (aJ (val L ρ x))=true) (j:ev ρ a=.own k off) (h:L.get k=some (.box g t cs)) (b:jg t ((cs.drop off).take n) n=true)
  (c:K F (L.set k (.box g t (aP cs off (aJ (val L ρ x))))) (put d (.v undef) ρ)):evalOp P o d F L ρ K:=by
 rcases l with rfl | rfl
 ·rw[rP];simp only[f,e,j,h,b];exact c
 ·rw[rQ];have m:Nat.beq k k=true:=by simp
  simp only[f,e,j,m,h,b];exact c
theorem zp {x:X}{n:Int}{ρ:Env}(h:Am x=some n):∃k,ev ρ x=.v (.int k n):=by
 unfold Am at h;split at h
 ·injection h with h;subst h;exact⟨_,rfl⟩
 ·cases h
theorem Ld {L:Loc}{ρ:Env}{x:X}{k:IntKind}{m:Int}(h:val L ρ x=.int k m):ev ρ x=.v (.int k m):=by
 unfold val at h;cases e:ev ρ x with
 | v u=>rw[e] at h;exact j3 SV.v h
 | own j off =>
  rw[e] at h;simp only[conc] at h;split at h<;>cases h
 | el a j =>
  rw[e] at h;cases a<;>cases h
theorem Le {b:Nat}{n m:Int}(h:O2 b n m=true):0<=n/\n=m/\n.toNat*b<=140737488355328/\n.toNat<=maxLen:=by
 simp only[O2,aaj] at h;obtain⟨⟨d,c⟩,a⟩:=h;split at a
 ·have a:=xo a;subst a;exact⟨by simp,rfl,aav d,aav c⟩
 ·cases a
theorem Lg {P:Program}{bx:List Nat}{s s':eP}{d:Option Nat}{F:aD}{L:Loc}{ρ:Env}{K:cS}(h:nR bx s=some s') (o:(dA s'||iC s'||fk s'||pM s'||iU s')=true) (p:iC s'=false) (b:evalOp P s' d F L ρ K):evalOp P s d F L ρ (fun F' L' ρ'=>Real F' L'->K F' L' ρ'):=by
 unfold nR at h;split at h
 ·split at h
  ·rename_i n m l c;split at h
   ·rename_i z;injection h with h
    subst h;obtain⟨k1,l⟩:=zp (ρ:=ρ) l;obtain⟨k2,c⟩:=zp (ρ:=ρ) c;obtain⟨u,y,v,w⟩:=Le z;subst y;simp only[evalOp,l,c] at b ⊢;split at b
    ·rename_i k;split at b
     ·rename_i r _ _;simp only[r];exact⟨u,aaI _,v,w,b⟩
     ·exact b.elim
    ·exact b.elim
   ·cases h
  ·split at h
   ·rename_i i j _ _;split at h
    ·rename_i f;have f:=xo f;subst f;injection h with h
     subst h;simp only[evalOp] at b ⊢;split at b
     ·rename_i k;split at b
      ·rename_i r _ z;obtain⟨ki,m,l,u,y,v,w⟩:=BD z;have c:=Ld l;simp only[c,r];rw[y] at b;exact⟨u,aaI _,v,w,b⟩
      ·exact b.elim
     ·exact b.elim
    ·cases h
   ·cases h
 ·rename_i e sz;injection h with h
  subst h;simp only[evalOp] at b ⊢;split at b
  ·rename_i k;split at b
   ·rename_i r _ _;simp only[fN,r];exact b
   ·exact b.elim
  ·exact b.elim
 ·rename_i a n i;split at h
  ·injection h with h
   subst h;refine sF (s:=.load a n (.t i)) (s':=.loadD a n (.t i)) rfl rfl rfl ?_;simp only[evalOp,aL] at b ⊢;split at b
   ·rename_i k off e;simp only[e];split at b
    ·exact b
    ·exact b.elim
   ·exact b.elim
  ·injection h with h
   subst h;exact sF (s:=.load a n (.t i)) rfl o p b
 ·rename_i n i x;split at h
  ·injection h with h
   subst h;obtain⟨n',a',x',k,off,g,t,cs,q,l,c,e3,e4,e5,b⟩:=iV rfl b;rcases q with q | q
   ·cases q
   ·injection q with h1 h2 h3 h4
    subst h1 h2 h3 h4;exact sF (s:=.store n (.t i) x) (s':=.storeD n (.t i) x) rfl rfl rfl (iL (.inl rfl) l c e3 e4 e5 b)
  ·injection h with h
   subst h;exact sF (s:=.store n (.t i) x) rfl o p b
 ·exact sF h o p b
def Loc.sameAs (L L':Loc):Prop:=∀j,L'.get j=L.get j
theorem wO {P:Program}{f:Nat}{args:List Value}{F:aD}{L:Loc}{d:Option Nat}{KK:aD->Loc->Value->Prop}(h:eI P f args F L d KK):dH P f args F L (fun F' L' v=>∃L2,L'.sameAs L2/\(Real F' L2->KK F' L2 v)):=by
 cases h with
 | frz R q r =>
  refine⟨[],[],[],R,rfl,List.nodup_nil,List.nodup_nil,fun _ h=>(by cases h),q,fun v F' Lo a m=>?_⟩;obtain⟨rfl,y⟩:=r v F' Lo a m;exact⟨rfl,fun _ _ _ _ h=>(by cases h),_,fun _=>rfl,y⟩
 | own R k q hd s r =>
  refine⟨[],[k],[],R,rfl,List.nodup_nil,by simp,fun j p=>.inr (by simp at p;rw[p];exact s),q,fun v F' Lo a m=>?_⟩;obtain⟨o,rfl,y⟩:=r v F' Lo a m;exact⟨rfl,fun _ _ _ _ h=>(by cases h),_,fun _=>rfl,y⟩
 | row R x rv t sz n xs q s r =>
  refine⟨[x],[x],[.row rv t sz n xs],fun F Lo v=>Lo=[.row (.slice none 0 0) t sz 0 []]/\R F [] v,?_,by simp,by simp,fun j p=>.inl p,⟨q.ent,fun F G L v a hr=>⟨hr.1,q.mono _ _ _ _ a hr.2⟩,fun w hs=>(q.run w hs).mono ?_⟩,fun v F' Lo a m=>?_⟩
  ·simp only[Loc.sub,s]
  ·rintro e w' ⟨v,F',Lo,rfl,z,l,m⟩;obtain⟨rfl,_⟩:=r v F' Lo l.le m;have hb:(Own.row (.slice none 0 0) t sz 0 []).blk=none:=rfl;have hg:∀j o,Loc.get (inp [.row (.slice none 0 0) t sz 0 []]) j=some o->o=.row (.slice none 0 0) t sz 0 []:=by
    intro j o e;rw[aW] at e;split at e
    ·cases p:j-1000 with
     | zero=>rw[p] at e;simpa using e.symm
     | succ i=>rw[p] at e;simp at e
    ·cases e
   have ac:∀b,¬(inp [.row (.slice none 0 0) t sz 0 []]).owns b:=by
    rintro b ⟨j,o,e,c⟩;rw[hg j o e,hb] at c;cases c
   refine⟨v,F',_,rfl,⟨z.frz,fun j o e=>?_,fun j o g e c=>?_,fun j j' o o' g e e' c=>?_,z.glob⟩,⟨l.le,l.os,l.tape,l.output,l.size,l.same,l.frz,fun b hb=>vv hb (ac b)⟩,rfl,m⟩
   ·rw[hg j o e];exact World.ownsRow_nil w' 0 t sz
   ·rw[hg j o e,hb] at c;cases c
   ·rw[hg j o e,hb] at c;cases c
  ·obtain⟨rfl,m⟩:=m;obtain⟨_,y⟩:=r v F' [] a m;refine⟨rfl,fun k g t' cs u e=>?_,L.set x (.row (.slice none 0 0) t sz 0 []),fun j=>?_,y⟩
   ·rw[aaW.1 u,s] at e;cases e
   ·simp only[Loc.ZB,Loc.puts,Loc.Zz,Loc.ZE];split<;>rfl
 | lent R x rv t sz n xs q s r =>
  refine⟨[x],[x],[.row rv t sz n xs],_,by simp only[Loc.sub,s],by simp,by simp,fun j p=>.inl p,q,fun v F' Lo a m=>?_⟩;obtain⟨rfl,m⟩:=m;refine⟨rfl,fun k g t' cs u e=>?_,L,fun j=>?_,r v F' a m⟩
  ·rw[aaW.1 u,s] at e;cases e
  ·simp only[Loc.ZB,Loc.puts,Loc.Zz,Loc.ZE];split
   ·rename_i p;rw[p,s]
   ·rfl
theorem Lh {P:Program}{bx:List Nat}{s s':eP}{d:Option Nat}{F:aD}{L:Loc}{ρ:Env}{K:cS}(h:nR bx s=some s') (a:iC s'=true) (b:evalOp P s' d F L ρ K):evalOp P s d F L ρ (fun F' L' ρ'=>∃L2,L'.sameAs L2/\(Real F' L2->K F' L2 ρ')):=by
 unfold nR at h;split at h
 ·split at h
  ·split at h
   ·injection h with h;subst h;cases a
   ·cases h
  ·split at h
   ·split at h
    ·injection h with h;subst h;cases a
    ·cases h
   ·cases h
 ·injection h with h;subst h;cases a
 ·split at h
  ·injection h with h;subst h;cases a
  ·injection h with h;subst h;cases a
 ·split at h
  ·injection h with h;subst h;cases a
  ·injection h with h;subst h;cases a
 ·cases s<;>simp only[drawn,yo,reduceCtorEq] at h<;>subst h<;>first | (cases a;done) | skip
  ·simp only[evalOp] at b ⊢;exact wO b
  ·simp only[evalOp] at b ⊢;split at b
   ·exact wO b
   ·exact b.elim
theorem wP {fl bx:List Nat}{bk:List (Nat×Nat)}{s s':eP}(h:uD fl bk bx s=some s'):nR bx s=some s'\/(∃a n i,s=.load a n (.t i)/\s'=.loadF a n (.t i))\/(∃a n i key,s=.load a n (.t i)/\s'=.loadK key a n (.t i))\/(∃a n i,s=.load a n (.t i)/\s'=.loadR a n (.t i))\/∃i,s=.b2s (.t i)/\s'=.b2sR (.t i):=by
 unfold uD at h;split at h
 ·rename_i a n i;split at h
  ·injection h with h
   exact .inr (.inl ⟨a,n,i,rfl,h.symm⟩)
  ·split at h
   ·rename_i key _;split at h
    ·injection h with h
     exact .inr (.inr (.inr (.inl ⟨a,n,i,rfl,h.symm⟩)))
    ·injection h with h
     exact .inr (.inr (.inl ⟨a,n,i,key,rfl,h.symm⟩))
   ·exact .inl h
 ·rename_i i;split at h
  ·injection h with h
   exact .inr (.inr (.inr (.inr ⟨i,rfl,h.symm⟩)))
  ·exact .inl h
 ·exact .inl h
theorem FY {o:Bool}{n:Nat}{x:X}{F:aD}{L:Loc}{ρ:Env}{V V':SV->Prop}(h:aL (.load o n x) F L ρ V) (a:∀v,V v->V' v):aL (.load o n x) F L ρ V':=by
 have:=One.mono (T:=fun V=>aL (.loadR o n x) F L ρ V) (fS rfl) V V' a h;exact this
theorem Lj {P:Program}{fl bx:List Nat}{bk:List (Nat×Nat)}{s s':eP}{d:Option Nat}{F:aD}{L:Loc}{ρ:Env}{K:cS}(h:uD fl bk bx s=some s') (l:(dA s'||iC s'||fk s'||pM s'||iU s')=true) (m:iC s'=false) (f:evalOp P s' d F L ρ K):evalOp P s d F L ρ (fun F' L' ρ'=>Real F' L'->K F' L' ρ'):=by
 rcases wP h with h | ⟨a,n,i,rfl,rfl⟩ | ⟨a,n,i,key,rfl,rfl⟩ | ⟨a,n,i,rfl,rfl⟩ | ⟨i,rfl,rfl⟩
 rotate_left 3
 ·have f:aL (.load a n (.t i)) F L ρ (fun v=>K F L (put d v ρ)):=f;exact FY f fun v h _=>h
 rotate_left
 ·exact Lg h l m f
 ·refine sF (s:=.load a n (.t i)) (s':=.loadD a n (.t i)) rfl rfl rfl ?_;simp only[evalOp,aL] at f ⊢;split at f
  ·rename_i e;simp only[e];exact f
  ·rename_i e;simp only[e];exact f
  ·exact f.elim
 ·refine sF (s:=.load a n (.t i)) (s':=.loadD a n (.t i)) rfl rfl rfl ?_;simp only[evalOp,aL] at f ⊢;split at f
  ·rename_i k off e;simp only[e];split at f
   ·exact f
   ·exact f.elim
  ·exact f.elim
 ·have f:aL (.b2sR (.t i)) F L ρ (fun v=>K F L (put d v ρ)):=f;show aL (.b2s (.t i)) F L ρ (fun v=>Real F L->K F L (put d v ρ));unfold aL at f ⊢
  dsimp only at f ⊢
  split at f
  ·rename_i j n c e;obtain⟨k,ty,o,bs,r,w,x,p⟩:=f;refine⟨bs.map fun b=>Value.int .u8 b.toNat,by simp[w],?_,bs,rfl,fun _=>p⟩;cases j with
   | none=>exact .inr (.inr (.inl (x rfl)))
   | some j=>exact .inr (.inl ⟨k,_,ty,1,n,_,j,o,r,rfl,rfl,fun i u q=>by rw[Nat.zero_add];exact q⟩)
  ·exact f.elim
theorem HM {P:Program}{fl bx:List Nat}{bk:List (Nat×Nat)}{s s':eP}{d:Option Nat}{F:aD}{L:Loc}{ρ:Env}{K:cS}(h:uD fl bk bx s=some s') (b:iC s'=true) (c:evalOp P s' d F L ρ K):evalOp P s d F L ρ (fun F' L' ρ'=>∃L2,L'.sameAs L2/\(Real F' L2->K F' L2 ρ')):=by
 rcases wP h with h | ⟨a,n,i,rfl,rfl⟩ | ⟨a,n,i,key,rfl,rfl⟩ | ⟨a,n,i,rfl,rfl⟩ | ⟨i,rfl,rfl⟩
 ·exact Lh h b c
 ·cases b
 ·cases b
 ·cases b
 ·cases b
theorem set_comm:∀(L:Loc) {k f:Nat}(o o':Own),k≠f->(L.set k o).set f o'=(L.set f o').set k o:=by
 intro L k f o o' h;have hb:Nat.beq k f=false:=by cases e:Nat.beq k f with | true=>exact vv (xo e) h | false=>rfl
 have b:Nat.beq f k=false:=by cases e:Nat.beq f k with | true=>exact vv (xo e).symm h | false=>rfl
 have a:∀{i j:Nat},Nat.beq i j=false->(Nat.ble i j=true/\Nat.ble j i=false)\/(Nat.ble i j=false/\Nat.ble j i=true):=by
  intro i j w;have v:=fP w;rcases Nat.lt_or_gt_of_ne v with ab | ac
  ·refine .inl ⟨Nat.ble_eq_true_of_le (by omega),?_⟩;cases e:Nat.ble j i with | true=>have:=aav e;omega | false=>rfl
  ·refine .inr ⟨?_,Nat.ble_eq_true_of_le (by omega)⟩;cases e:Nat.ble i j with | true=>have:=aav e;omega | false=>rfl
 induction L with
 | nil =>
  simp only[Loc.set,hb,b];rcases a hb with⟨d,r⟩ | ⟨d,r⟩<;>simp only[d,r,Loc.set]
 | cons p l ih =>
  obtain⟨j,q⟩:=p;cases n:Nat.beq j k with
  | true =>
   have:=xo n;subst this;have c:Nat.beq j j=true:=by simp
   simp only[Loc.set,c,hb,b];rcases a hb with⟨d,r⟩ | ⟨d,r⟩
   ·simp only[d,Loc.set,c]
   ·simp only[d,r,Loc.set,c,b]
  | false =>
   cases m:Nat.beq j f with
   | true =>
    have:=xo m;subst this;have c:Nat.beq j j=true:=by simp
    simp only[Loc.set,c,hb,b];rcases a b with⟨d,r⟩ | ⟨d,r⟩
    ·simp only[d,Loc.set,c]
    ·simp only[d,r,Loc.set,c,hb]
   | false =>
    simp only[Loc.set,n,m];rcases a n with⟨s,z⟩ | ⟨s,z⟩<;>rcases a m with⟨t,y⟩ | ⟨t,y⟩
    ·simp only[s,t,Loc.set,n,m,ih]
    ·simp only[s,t,Loc.set,n,m,hb,b];have d:Nat.ble f k=true:=by
      have x1:=aav s;have x2:=aav y;exact Nat.ble_eq_true_of_le (by omega)
     simp only[d]
    ·simp only[s,t,Loc.set,n,m,hb,b];have d:Nat.ble k f=true:=by
      have x1:=aav t;have x2:=aav z;exact Nat.ble_eq_true_of_le (by omega)
     simp only[d]
    ·rcases a hb with⟨x,u⟩ | ⟨x,u⟩
     ·simp only[s,t,Loc.set,n,m,hb,b,x,u]
     ·simp only[s,t,Loc.set,n,m,hb,b,x,u]
theorem put_comm {d a:Option Nat}{v u:SV}{ρ:Env}(h:∀k,d=some k->a≠some k):put d v (put a u ρ)=put a u (put d v ρ):=by
 funext t
 simp only[put_eq];cases d with
 | none=>rfl
 | some k =>
  cases a with
  | none=>rfl
  | some e =>
   have:=h k rfl;simp only[];split<;>split
   ·rename_i c b;subst c;subst b;exact vv rfl this
   ·rfl
   ·rfl
   ·rfl
def cL:List X->List Nat
 | []=>[]
 | .t n::l=>n::cL l
 | .mt _ n::l=>n::cL l
 | _::l=>cL l
theorem mS:∀{l:List X}{n:Nat},X.t n∈l->n∈cL l
 | [],n,h=>by cases h
 | .t m::l,n,h=>by
  simp only[cL,aal];rcases aal.1 h with h | h
  ·injection h with h;exact .inl h
  ·exact .inr (mS h)
 | .c v::l,n,h=>by
  rcases aal.1 h with h | h
  ·cases h
  ·exact mS (l:=l) h
 | .fn f::l,n,h=>by
  rcases aal.1 h with h | h
  ·cases h
  ·exact mS (l:=l) h
 | .mt nm m::l,n,h=>by
  simp only[cL,aal];rcases aal.1 h with h | h
  ·cases h
  ·exact .inr (mS h)
theorem ou:∀{l:List X}{nm:String}{n:Nat},X.mt nm n∈l->n∈cL l
 | [],_,n,h=>by cases h
 | .t m::l,nm,n,h=>by
  simp only[cL,aal];rcases aal.1 h with h | h
  ·cases h
  ·exact .inr (ou h)
 | .c v::l,nm,n,h=>by
  rcases aal.1 h with h | h
  ·cases h
  ·exact ou (l:=l) h
 | .fn f::l,nm,n,h=>by
  rcases aal.1 h with h | h
  ·cases h
  ·exact ou (l:=l) h
 | .mt a m::l,nm,n,h=>by
  simp only[cL,aal];rcases aal.1 h with h | h
  ·injection h with h1 h2;exact .inl h2
  ·exact .inr (ou h)
theorem gL {l:List X}{d:Option Nat}{v:SV}{ρ:Env}(h:∀k,d=some k->k∉cL l):∀x∈l,ev (put d v ρ) x=ev ρ x:=by
 intro x a;cases x with
 | t n =>
  simp only[ev,put_eq];cases d with
  | none=>rfl
  | some k =>
   simp only[];rw[vz];intro e;subst e;exact h n rfl (mS a)
 | c v=>rfl
 | fn f=>rfl
 | mt nm n =>
  simp only[ev,put_eq];cases d with
  | none=>rfl
  | some k =>
   simp only[];rw[vz];intro e;subst e;exact h n rfl (ou a)
def Vd (L:Loc) (ρ:Env):Prop:=∀t k off,ρ t=.own k off->∃g ty cs,L.get k=some (.box g ty cs)
theorem Vd.ev {L:Loc}{ρ:Env}(h:Vd L ρ) {x:X}{k off:Nat}(e:Fr.ev ρ x=.own k off):∃g ty cs,L.get k=some (.box g ty cs):=by
 cases x with
 | t n=>exact h n k off e
 | c v=>cases e
 | fn f=>cases e
 | mt nm n =>
  simp only[Fr.ev,QT] at e;split at e<;>cases e
def Keeps (L L':Loc):Prop:=∀k g ty cs,L.get k=some (.box g ty cs)->L'.get k=some (.box g ty cs)
theorem Keeps.refl (L:Loc):Keeps L L:=fun _ _ _ _ h=>h
theorem Keeps.trans {L L' L'':Loc}(h:Keeps L L') (a:Keeps L' L''):Keeps L L'':=fun k g ty cs e=>a k g ty cs (h k g ty cs e)
theorem cC {L:Loc}{k j:Nat}{o:Own}(h:j≠k):(L.set k o).get j=L.get j:=by rw[Loc.Zz,vz h]
theorem Keeps.new {L:Loc}{k:Nat}{o:Own}(h:L.get k=none):Keeps L (L.set k o):=fun j g ty cs e=>by
 rw[cC (fun a=>by rw[a,h] at e;cases e)];exact e
theorem Keeps.row {L:Loc}{k:Nat}{v:Value}{t:TypeId}{sz n:Nat}{xs:List Value}{o:Own}(h:L.get k=some (.row v t sz n xs)):Keeps L (L.set k o):=fun j g ty cs e=>by
 rw[cC (fun a=>by rw[a,h] at e;cases e)];exact e
section
variable {P:Program}{F:aD}{L:Loc}{ρ:Env}{K:cS}
theorem CallsA.up {f:Nat}{args:Array Value}{F F1:aD}{R:aD->List Own->Value->Prop}{Lin:List Own}(h:CallsA P f args F Lin R) (p:F.le F1) (hg:si F):CallsA P f args F1 Lin R:=by
 refine⟨h.ent,h.mono,fun w n=>?_⟩;have t:St F (inp Lin) w:=⟨fun b o e=>n.frz b o (p b o e),n.own,fun k o g e hb=>(by
  cases d:F g with
  | none=>rfl
  | some o1=>have j:=p g o1 d;rw[n.off k o g e hb] at j;cases j),n.sep,hg⟩
 refine(h.run w t).mono ?_;rintro e w' ⟨v,F',Lo,rfl,c,a,z⟩;have q:∀b o,F1 b=some o->¬(inp Lin).owns b:=by
  rintro b o y ⟨k,o',e,hb⟩;rw[n.off k o' b e hb] at y;cases y
 have r:∀b o,F1 b=some o->w'.heap[b]?=some o:=fun b o e=>by
  have d:=n.frz b o e;rw[a.same b (Array.getElem?_eq_some_iff.1 d).1 (q b o e)];exact d
 have l:F'.le (fun b=>match F' b with | some o=>some o | none=>F1 b):=fun b o e=>by simp only[e]
 refine⟨v,fun b=>match F' b with | some o=>some o | none=>F1 b,Lo,rfl,⟨fun b o e=>?_,c.own,fun k o g e hb=>?_,c.sep,si.mono l c.glob⟩,⟨fun b o e=>?_,a.os,a.tape,a.output,a.size,a.same,fun b hb=>?_,a.own⟩,h.mono _ _ _ _ l z⟩
 ·split at e
  ·rename_i o' s;injection e with e
   subst e;exact c.frz b _ s
  ·exact r b o e
 ·have d:=c.off k o g e hb;simp only[d];cases j:F1 g with
  | none=>rfl
  | some u =>
   rcases a.own g ⟨k,o,e,hb⟩ with m | m
   ·exact vv m (q g u j)
   ·have:=(Array.getElem?_eq_some_iff.1 (n.frz g u j)).1;omega
 ·cases d:F' b with
  | none=>exact e
  | some o' =>
   have j:=c.frz b o' d;rw[r b o e] at j;exact j.symm
 ·cases d:F' b with
  | none=>rw[d] at hb;exact .inl hb
  | some o' =>
   rcases a.frz b (by rw[d];simp) with m | m | m
   ·refine .inl (fun h4=>?_);cases x:F b with
    | none=>exact m x
    | some o5=>have:=p b o5 x;rw[h4] at this;cases this
   ·exact .inr (.inl m)
   ·exact .inr (.inr m)
theorem Real.glob {F:aD}{L:Loc}(h:Real F L):si F:=by obtain⟨w,a⟩:=h;exact a.glob
theorem Real.down {F F':aD}{L L':Loc}(h:Real F' L') (c:F.le F') (f:si F) (j:L'.part L):Real F L:=by
 obtain⟨w,a⟩:=h;have a:=a.part j;refine⟨w,⟨fun b o e=>a.frz b o (c b o e),a.own,fun k o g e hb=>?_,a.sep,f⟩⟩;cases l:F g with
 | none=>rfl
 | some o'=>have d:=c g o' l;rw[a.off k o g e hb] at d;cases d
theorem HN {L:Loc}{k:Nat}{o:Own}(h:L.get k=none):(L.set k o).part L:=fun j p e=>by
 rw[cC (fun a=>by rw[a,h] at e;cases e)];exact e
theorem Ao {L L1:Loc}{k:Nat}{o:Own}(h:L1.part L) (b:L.get k=none):(L1.set k o).part (L.set k o):=fun j p e=>by
 rw[Loc.Zz] at e ⊢;split
 ·rename_i a;rw[o6 a] at e;exact e
 ·rename_i a;rw[vz a] at e;exact h j p e
def Left (d:Option Nat) (L L':Loc):Prop:=L'=L\/(∃k o,d=some k/\L.get k=none/\L'=L.set k o)\/∃k a t sz n xs,L.get k=some (.row a t sz n xs)/\L'=L.set k (.row (.slice none 0 0) t sz 0 [])
theorem Left.keeps {d:Option Nat}{L L':Loc}(h:Left d L L'):Keeps L L':=by
 rcases h with rfl | ⟨k,o,_,a,rfl⟩ | ⟨k,b,t,sz,n,xs,a,rfl⟩
 ·exact Keeps.refl _
 ·exact Keeps.new a
 ·exact Keeps.row a
theorem yJ {L L1:Loc}{k:Nat}{o:Own}(h:L1.part L):(L1.set k o).part (L.set k o):=fun j p e=>by
 rw[Loc.Zz] at e ⊢;split
 ·rename_i a;rw[o6 a] at e;exact e
 ·rename_i a;rw[vz a] at e;exact h j p e
theorem eI.imp {f:Nat}{args:List Value}{F:aD}{L:Loc}{d:Option Nat}{K K':aD->Loc->Value->Prop}(h:eI P f args F L d K) (r:∀F' L' v,F.le F'->Left d L L'->Real F' L'->K F' L' v->K' F' L' v):eI P f args F L d K':=by
 cases h with
 | frz R l j=>exact .frz R l fun v F' Lo a e=>⟨(j v F' Lo a e).1,fun b=>r F' L v a (.inl rfl) b ((j v F' Lo a e).2 b)⟩
 | own R k l w m j =>
  refine .own R k l w m fun v F' Lo a e=>?_;obtain⟨o,u,s⟩:=j v F' Lo a e;exact⟨o,u,fun b=>r F' _ v a (.inr (.inl ⟨k,o,w,m,rfl⟩)) b (s b)⟩
 | row R q p t sz n xs l c j =>
  refine .row R q p t sz n xs l c fun v F' Lo a e=>?_;obtain⟨u,s⟩:=j v F' Lo a e;exact⟨u,fun b=>r F' _ v a (.inr (.inr ⟨q,p,t,sz,n,xs,c,rfl⟩)) b (s b)⟩
 | lent R q p t sz n xs l c j=>exact .lent R q p t sz n xs l c fun v F' a e b=>r F' L v a (.inl rfl) b (j v F' a e b)
theorem eI.up {f:Nat}{args:List Value}{F F1:aD}{L L1:Loc}{d:Option Nat}{K:aD->Loc->Value->Prop}(h:eI P f args F L d K) (b:F.le F1) (x:si F) (s:L1.part L) (z:∀k,d=some k->L.get k=none->L1.get k=none) :
  eI P f args F1 L1 d (fun F' L' v=>F1.le F'/\Real F' L'/\((L'=L1/\K F' L v)\/(∃k o,d=some k/\L.get k=none/\L'=L1.set k o/\K F' (L.set k o) v)\/∃k q t sz n xs,L.get k=some (.row q t sz n xs)/\L'=L1.set k (.row (.slice none 0 0) t sz 0 [])/\K F' (L.set k (.row (.slice none 0 0) t sz 0 [])) v)):=by
 cases h with
 | frz R l m =>
  refine .frz R (l.up b x) fun v F' Lo a j=>?_;obtain⟨w,u⟩:=m v F' Lo (aD.le_trans b a) j;exact⟨w,fun c=>⟨a,c,.inl ⟨rfl,u (c.down (aD.le_refl _) c.glob s)⟩⟩⟩
 | own R k l y p m =>
  refine .own R k (l.up b x) y (z k y p) fun v F' Lo a j=>?_;obtain⟨o,w,u⟩:=m v F' Lo (aD.le_trans b a) j;exact⟨o,w,fun c=>⟨a,c,.inr (.inl ⟨k,o,y,p,rfl,u (c.down (aD.le_refl _) c.glob (Ao s p))⟩)⟩⟩
 | row R r q t sz n xs l e m =>
  refine .row R r q t sz n xs (l.up b x) (s r _ e) fun v F' Lo a j=>?_;obtain⟨w,u⟩:=m v F' Lo (aD.le_trans b a) j;exact⟨w,fun c=>⟨a,c,.inr (.inr ⟨r,q,t,sz,n,xs,e,rfl,u (c.down (aD.le_refl _) c.glob (yJ s))⟩)⟩⟩
 | lent R r q t sz n xs l e m =>
  exact .lent R r q t sz n xs (l.up b x) (s r _ e) fun v F' a j c=>⟨a,c,.inl ⟨rfl,m v F' (aD.le_trans b a) j (c.down (aD.le_refl _) c.glob s)⟩⟩
theorem eI.some {f:Nat}{args:List Value}{F:aD}{L:Loc}{d:Option Nat}{K:aD->Loc->Value->Prop}(h:eI P f args F L d K) (hr:Real F L):∃F' L' v,F.le F'/\Left d L L'/\Real F' L'/\K F' L' v:=by
 obtain⟨w,s⟩:=hr;have aa:St F (inp []) w:=⟨s.frz,fun k o e=>(by cases e),fun k o g e=>(by cases e),fun k k' o o' g e=>(by cases e),s.glob⟩;cases h with
 | frz R x y =>
  obtain⟨e,w',fr,⟨v,F',Lo,_,l,b,u⟩,_⟩:=x.run w aa [];obtain⟨rfl,z⟩:=y v F' Lo b.le u;have a:Real F' L:=⟨w',(jE (ks:=[]) (ko:=[]) s rfl List.nodup_nil List.nodup_nil (fun _ h=>(by cases h)) l b rfl).1⟩;exact⟨F',L,v,b.le,.inl rfl,a,z a⟩
 | own R k x hd ab y =>
  obtain⟨e,w',fr,⟨v,F',Lo,_,l,b,u⟩,_⟩:=x.run w aa [];obtain⟨o,rfl,z⟩:=y v F' Lo b.le u;have a:Real F' (L.set k o):=⟨w',(jE (ks:=[]) (ko:=[k]) s rfl List.nodup_nil (by simp) (fun j r=>.inr (by simp at r;rw[r];exact ab)) l b rfl).1⟩;exact⟨F',_,v,b.le,.inr (.inl ⟨k,o,hd,ab,rfl⟩),a,z a⟩
 | row R q rv t sz n xs x m y =>
  have c:L.sub [q]=Option.some [.row rv t sz n xs]:=by simp only[Loc.sub,m]
  obtain⟨e,w',fr,⟨v,F',Lo,_,l,b,u⟩,_⟩:=x.run w (s.handed c (by simp)) [];obtain⟨rfl,z⟩:=y v F' Lo b.le u;have hb:=(jE (ks:=[q]) (ko:=[]) s c (by simp) List.nodup_nil (fun _ h=>(by cases h)) l b rfl).1;have a:Real F' (L.set q (.row (.slice none 0 0) t sz 0 [])):=by
   have h5:((L.ZB [q]).puts [] []).get q=none:=by simp only[Loc.ZB,Loc.puts,Loc.ZE,o6]
   have h6:=hb.put h5 (o:=.row (.slice none 0 0) t sz 0 []) (World.ownsRow_nil w' 0 t sz) (fun g hg=>by cases hg);refine⟨w',h6.part fun j p e=>?_⟩;rw[Loc.Zz] at e ⊢;split at e
   ·rename_i r;rw[o6 r];exact e
   ·rename_i r;rw[vz r];simp only[Loc.ZB,Loc.puts,Loc.ZE,vz r];exact e
  exact⟨F',_,v,b.le,.inr (.inr ⟨q,rv,t,sz,n,xs,m,rfl⟩),a,z a⟩
 | lent R q rv t sz n xs x m y =>
  have c:L.sub [q]=Option.some [.row rv t sz n xs]:=by simp only[Loc.sub,m]
  obtain⟨e,w',fr,⟨v,F',Lo,_,l,b,⟨rfl,u⟩⟩,_⟩:=x.run w (s.handed c (by simp)) [];have hb:=(jE (ks:=[q]) (ko:=[q]) s c (by simp) (by simp) (fun _ h=>.inl h) l b rfl).1;have a:Real F' L:=by
   refine⟨w',hb.part fun j p e=>?_⟩;simp only[Loc.ZB,Loc.puts,Loc.Zz,Loc.ZE];split
   ·rename_i r;rw[r,m] at e;exact e
   ·exact e
  exact⟨F',L,v,b.le,.inl rfl,a,y v F' b.le u a⟩
theorem qe.imp {F F':aD}{L:Loc}{d:Option Nat}{e sz b:Nat}{s x:Value}{K K':Loc->Value->Prop}(h:qe F L d e sz b s x K) (o:F.le F')
  (hk:∀j n xs n' k v,(L.get j=some (.row s e sz n xs)\/(d=some j/\L.get j=none))->Real F' (L.set j (.row v e sz n' k))->(Real F (L.set j (.row v e sz n' k))->K (L.set j (.row v e sz n' k)) v)->K' (L.set j (.row v e sz n' k)) v):qe F' L d e sz b s x K':=by
 obtain⟨j,n,xs,m,news,a,⟨p,c,h2,h3,l⟩,w,h6,q,h8⟩:=h;refine⟨j,n,xs,m,news,?_,⟨p,c,h2,h3,?_⟩,w,h6,q,fun v t y=>hk j n xs _ _ v ?_ y (h8 v t)⟩
 ·rcases a with a | a | ⟨a,f,p,u,q2,r,z⟩
  ·exact .inl a
  ·exact .inr (.inl a)
  ·exact .inr (.inr ⟨a,f,p,u,q2,r,z.imp (·.mono o) id⟩)
 ·rcases l with l | l
  ·exact .inl (l.mono o)
  ·exact .inr l
 ·rcases a with a | ⟨a,f,_⟩ | ⟨a,f,_⟩
  ·exact .inl a
  ·exact .inr ⟨a,f⟩
  ·exact .inr ⟨a,f⟩
theorem FZ {L L1:Loc}{k:Nat}{o:Own}(h:L1.part L):(L1.set k o).part (L.set k o):=fun j p e=>by
 rw[Loc.Zz] at e ⊢;split
 ·rename_i a;rw[o6 a] at e;exact e
 ·rename_i a;rw[vz a] at e;exact h j p e
theorem BR {e sz b:Nat}{zs:List Value}{s x:X}{d:Option Nat}:evalOp P (.appD e sz b zs s x) d F L ρ K=(match ev ρ s,ev ρ x with
  | .v sv,.v a=>qe F L d e sz b sv a fun L1 v=>K F L1 (put d (.v v) ρ)
  | _,_=>False):=rfl
theorem Real.store {F:aD}{L:Loc}{k g:Nat}{t:TypeId}{cs cs':List Value}(c:t≠0) (n:Real F L) (l:L.get k=Option.some (.box g t cs)):Real F (L.set k (.box g t cs')):=by
 obtain⟨w,j⟩:=n;have a:=mh w g cs'.toArray;refine⟨w.setRow g cs'.toArray,j.turn l ?_ (fun b h f=>a.block b h (fun e=>f (by rw[e];rfl))) (fun o d=>.inl d)⟩;show _=_;have m:w.heap[g]?=Option.some (.cells cs.toArray t (0,0)):=by rw[<-iz c];exact j.own k _ l
 rw[iz c];exact setRow_heap w g cs.toArray _ t _ m
theorem qe.some {F:aD}{L:Loc}{d:Option Nat}{e sz b:Nat}{s x:Value}{K:Loc->Value->Prop}(h:qe F L d e sz b s x K) (hr:Real F L) :
  ∃a v n' u,((∃n xs,L.get a=some (.row s e sz n xs))\/(d=some a/\L.get a=none))/\Real F (L.set a (.row v e sz n' u))/\K (L.set a (.row v e sz n' u)) v:=by
 obtain⟨a,n,xs,m,news,k,⟨ad,c,h2,h3,h4⟩,h5,h6,h7,h8⟩:=h;obtain⟨w,hs⟩:=hr;have o:xs.length=n*sz:=by
  rcases k with k | ⟨_,_,rfl,rfl,_⟩ | ⟨_,_,_,_,_,q,_⟩
  ·exact(hs.own a _ k).1
  ·simp
  ·exact q
 have r:=mg w (xs++news) e (n+m) sz h6 (by rw[aak,o,h3,Nat.add_mul]);have ab:St F (L.del a) w:=hs.part (fun j p e=>by rw[Loc.ZE] at e;split at e;cases e;exact e);have z:(L.del a).get a=none:=by rw[Loc.ZE,o6 rfl]
 have aa:=(kI ab z (cs:=(xs++news).toArray) (t:=e) (e:=.row (.slice (Option.some ⟨w.heap.size,0,none⟩) (n+m) (n+m)) e sz (n+m) (xs++news)) rfl r).1;have f:Real F (L.set a (.row (.slice (Option.some ⟨w.heap.size,0,none⟩) (n+m) (n+m)) e sz (n+m) (xs++news))) :=
  ⟨_,aa.part (fun j p e=>by
   rw[Loc.Zz] at e ⊢;split
   ·rename_i y;rw[o6 y] at e;exact e
   ·rename_i y;rw[vz y] at e;rw[Loc.ZE,vz y];exact e)⟩
 refine⟨a,_,n+m,xs++news,?_,f,h8 _ ⟨_,_,rfl,fun e=>(by cases e)⟩ f⟩;rcases k with k | ⟨k,l,_⟩ | ⟨k,l,_⟩
 ·exact .inl ⟨n,xs,k⟩
 ·exact .inr ⟨k,l⟩
 ·exact .inr ⟨k,l⟩
def Dx (o:eP):Bool:=dA o||iC o||fk o||pM o
def okD (o:eP):Bool:=Dx o||iU o
theorem uE {o:eP}{d:Option Nat}{v:SV}(h:∀k,d=some k->k∉cL (bI o)):Alike o L L ρ (put d v ρ) :=
 fun x a=>⟨gL h x a,fun _ _ _=>rfl⟩
theorem wQ {o:eP}(ho:okD o=true) {d y:Option Nat}{u:SV}(h:∀k,y=some k->k∉cL (bI o)) (p:∀k,d=some k->y≠some k)
  (c:evalOp P o d F L ρ (fun F1 L1 ad=>K F1 L1 (put y u ad))):evalOp P o d F L (put y u ρ) K:=by
 by_cases hs:dA o=true
 ·rw[cI hs] at c ⊢;have:=rj hs (aD.le_refl F) (uE (L:=L) (ρ:=ρ) (v:=u) h) c;refine(fS hs).mono _ _ (fun v r=>?_) this;rw[put_comm p];exact r
 ·have r:∀x∈bI o,val L (put y u ρ) x=val L ρ x:=fun x hx=>by simp only[val,gL h x hx]
  cases o<;>first | (exfalso;revert hs ho;simp[okD,Dx,dA,iC,fk,pM,iU];done) | skip
  case boxD t x =>
   have e:=r x (by simp[bI]);simp only[evalOp,e] at c ⊢;split at c
   ·rename_i k;split at c
    ·intro g q;have:=c g q;rw[put_comm p];exact this
    ·exact c
   ·exact c
  case allocD t zs =>
   simp only[evalOp] at c ⊢;split at c
   ·rename_i k;split at c
    ·intro g q;have:=c g q;rw[put_comm p];exact this
    ·exact c
   ·exact c
  case mkFD e n sz xs =>
   have m:=nF (sz:=sz) (xs:=xs) r;have z:=cJ (xs:=xs) r;simp only[evalOp,m,z] at c ⊢;split at c
   ·intro g F' ac hg q;rw[put_comm p];exact c g F' ac hg q
   ·exact c
  case callD f args =>
   have m:=dO (xs:=args) r;simp only[evalOp,m] at c ⊢;refine c.imp fun F' L' v _ _ _ h=>?_;rw[put_comm p];exact h
  case callVD f args =>
   have w:=gL (v:=u) (ρ:=ρ) h f (by simp[bI]);have m:=dO (xs:=args) (L:=L) (L':=L) (ρ:=ρ) (ρ':=put y u ρ) (fun x hx=>r x (by simp[bI,hx]));simp only[evalOp,w,m] at c ⊢;split at c
   ·refine c.imp fun F' L' v _ _ _ h=>?_;rw[put_comm p];exact h
   ·exact c
  case appD e sz b zs s x =>
   have w:=gL (v:=u) (ρ:=ρ) h s (by simp[bI]);have m:=gL (v:=u) (ρ:=ρ) h x (by simp[bI]);simp only[evalOp,w,m] at c ⊢;split at c
   ·refine c.imp (aD.le_refl F) fun kd n xs n' ar v _ q h=>?_;rw[put_comm p];exact h q
   ·exact c
  case makeSD e sz n zs =>
   simp only[evalOp] at c ⊢;split at c
   ·rename_i k;split at c
    ·intro g q;have:=c g q;rw[put_comm p];exact this
    ·exact c
   ·exact c
  case makeSV e sz b zs x =>
   have m:=r x (by simp[bI]);simp only[evalOp,m] at c ⊢;split at c
   ·rename_i k;split at c
    ·intro g q;have:=c g q;rw[put_comm p];exact this
    ·exact c
   ·exact c
  case storeD n a x =>
   obtain⟨n',a',x',k,off,g,t,cs,j,m,z,e3,e4,e5,c⟩:=iV rfl c;have w:=gL (v:=u) (ρ:=ρ) h a (by simp[bI]);have l:=r x (by simp[bI]);rcases j with j | j
   ·injection j with q1 q2 q3
    subst q1 q2 q3;exact iL (.inl rfl) (by rw[l];exact m) (by rw[l];exact z) (by rw[w];exact e3) e4 e5 (by rw[l,put_comm p];exact c)
   ·cases j
  case storeK key n a x =>
   obtain⟨n',a',x',k,off,g,t,cs,j,m,z,e3,e4,e5,c⟩:=iV rfl c;have w:=gL (v:=u) (ρ:=ρ) h a (by simp[bI]);have l:=r x (by simp[bI]);rcases j with j | j
   ·cases j
   ·injection j with q0 q1 q2 q3
    subst q0 q1 q2 q3;exact iL (.inr rfl) (by rw[l];exact m) (by rw[l];exact z) (by rw[w];exact e3) e4 e5 (by rw[l,put_comm p];exact c)
def uF:eP->eP->Bool
 | .build _ _,_=>true
 | .mkfn _ _ _,_=>true
 | .loadK k _ _ _,.storeK a _ _ _=>match Nat.beq k a with | true=>false | false=>true
 | x,_=>BP x
theorem rR {x y:eP}(h:uF x y=true):dA x=true:=by
 unfold uF at h;split at h
 ·rfl
 ·rfl
 ·rfl
 ·exact BQ h
theorem zq {x y:eP}{k n:Nat}{a z:X}{L L':Loc}{V:SV->Prop}(h:uF x y=true) (d:y=.storeD n a z\/y=.storeK k n a z) (l:∀sv,conc L' sv=conc L sv) (q:∀j,j≠k->L'.get j=L.get j) (c:aL x F L ρ V):aL x F L' ρ V:=by
 unfold uF at h;split at h
 ·rename_i zs ps;have e:=qp (ps:=ps) (zs:=zs) (L:=L) (L':=L') (ρ:=ρ) (ρ':=ρ) (fun p _=>l _);simp only[aL,e] at c ⊢;exact c
 ·rename_i f a b;have s:=dO (xs:=a) (L:=L) (L':=L') (ρ:=ρ) (ρ':=ρ) (fun _ _=>l _);have r:=dO (xs:=b) (L:=L) (L':=L') (ρ:=ρ) (ρ':=ρ) (fun _ _=>l _);simp only[aL,s,r] at c ⊢;exact c
 ·rename_i v t m x k2 m2 a2 w;rcases d with d | d
  ·cases d
  ·injection d with q0 q1 q2 q3
   subst q0;split at h
   ·cases h
   ·rename_i hb;have hb:=fP hb;simp only[aL] at c ⊢;split at c
    ·rename_i u off e;split at c
     ·rename_i o;have o:=xo o;subst o;simp only[q _ hb];exact c
     ·exact c.elim
    ·exact c.elim
 ·exact zo h c
theorem BS {L:Loc}{k g:Nat}{t:TypeId}{cs cs':List Value}(b:L.get k=some (.box g t cs)) (sv:SV):conc (L.set k (.box g t cs')) sv=conc L sv:=by
 cases sv with
 | v u=>rfl
 | el a j=>rfl
 | own j off =>
  simp only[conc,Loc.Zz]
  by_cases e:j=k
  ·subst e;rw[o6 rfl,b]
  ·rw[vz e]
def wR (x y:eP):Bool:=(dA x&&Dx y&&(!HK x||dA y))||(iC x&&fk y)||(pM x&&fk y)||(fk x&&fk y)||(uF x y&&iU y)||(iU x&&uF y x)
inductive Made:eP->Option Nat->aD->Loc->Env->aD->Loc->SV->Prop
 | box {t:TypeId}{x:X}{k:Nat}{F:aD}{L:Loc}{ρ:Env}(g:Nat):Made (.boxD t x) (some k) F L ρ F (L.set k (.box g t (aJ (val L ρ x)))) (.own k 0)
 | alloc {t:TypeId}{zs:List Value}{k:Nat}{F:aD}{L:Loc}{ρ:Env}(g:Nat):Made (.allocD t zs) (some k) F L ρ F (L.set k (.box g t zs)) (.own k 0)
 | mkS {e:TypeId}{sz n:Nat}{zs:List Value}{k:Nat}{F:aD}{L:Loc}{ρ:Env}(g:Nat):Made (.makeSD e sz n zs) (some k) F L ρ F (L.set k (.row (.slice (some ⟨g,0,none⟩) n n) e sz n (List.replicate n zs).flatten)) (.v (.slice (some ⟨g,0,none⟩) n n))
 | mkV {e:TypeId}{sz b:Nat}{zs:List Value}{x:X}{k:Nat}{F:aD}{L:Loc}{ρ:Env}(g n:Nat) (hn:n=mO (val L ρ x)):Made (.makeSV e sz b zs x) (some k) F L ρ F (L.set k (.row (.slice (some ⟨g,0,none⟩) n n) e sz n (List.replicate n zs).flatten)) (.v (.slice (some ⟨g,0,none⟩) n n))
 | mkF {e:TypeId}{n sz:Nat}{xs:List X}{d:Option Nat}{F:aD}{L:Loc}{ρ:Env}(g:Nat) (F':aD) (hle:F.le F') (hg:F' g=some (.cells (cellsOf L ρ xs).toArray e (0,0))) :
   Made (.mkFD e n sz xs) d F L ρ F' L (.v (.slice (some ⟨g,0,none⟩) n n))
def bO:eP->Option Nat->Loc->Env->Bool
 | .boxD _ _,some k,L,_=>(L.get k).isNone
 | .allocD _ _,some k,L,_=>(L.get k).isNone
 | .makeSD _ sz n zs,some k,L,_=>match L.get k,fM zs sz,Nat.ble n 9223372036854775807 with | none,true,true=>true | _,_,_=>false
 | .makeSV _ sz b zs x,some k,L,ρ=>match L.get k,fM zs sz,tu b (val L ρ x) with | none,true,true=>true | _,_,_=>false
 | .mkFD _ _ sz xs,_,L,ρ=>fN L ρ sz xs
 | _,_,_,_=>false
theorem bX {o:eP}(h:fk o=true) {d:Option Nat}:evalOp P o d F L ρ K↔bO o d L ρ=true/\∀F' L' v,Made o d F L ρ F' L' v->Real F' L'->K F' L' (put d v ρ):=by
 cases o<;>first | (exfalso;revert h;simp[fk];done) | skip
 case boxD t x =>
  simp only[evalOp];cases d with
  | none=>simp[bO]
  | some k =>
   simp only[bO];cases l:L.get k with
   | none =>
    simp only[Option.isNone_none,true_and];constructor
    ·rintro h F' L' v c a;cases c with
     | box g=>exact h g a
    ·intro h g a;exact h _ _ _ (.box g) a
   | some p=>simp
 case allocD t zs =>
  simp only[evalOp];cases d with
  | none=>simp[bO]
  | some k =>
   simp only[bO];cases l:L.get k with
   | none =>
    simp only[Option.isNone_none,true_and];constructor
    ·rintro h F' L' v c a;cases c with
     | alloc g=>exact h g a
    ·intro h g a;exact h _ _ _ (.alloc g) a
   | some p=>simp
 case makeSD e sz n zs =>
  simp only[evalOp];cases d with
  | none=>simp[bO]
  | some k =>
   simp only[bO];cases l:L.get k with
   | some p=>simp
   | none =>
    cases q:fM zs sz with
    | false=>simp
    | true =>
     cases r:Nat.ble n 9223372036854775807 with
     | false=>simp
     | true =>
      simp only[true_and];constructor
      ·rintro h F' L' v c a;cases c with
       | mkS g=>exact h g a
      ·intro h g a;exact h _ _ _ (.mkS g) a
 case makeSV e sz b zs x =>
  simp only[evalOp];cases d with
  | none=>simp[bO]
  | some k =>
   simp only[bO];cases l:L.get k with
   | some p=>simp
   | none =>
    cases q:fM zs sz with
    | false=>simp
    | true =>
     cases r:tu b (val L ρ x) with
     | false=>simp
     | true =>
      simp only[true_and];constructor
      ·rintro h F' L' v c a;cases c with
       | mkV g n m=>subst m;exact h g a
      ·intro h g a;exact h _ _ _ (.mkV g _ rfl) a
 case mkFD e n sz xs =>
  simp only[evalOp,bO];cases s:fN L ρ sz xs with
  | false=>simp
  | true =>
   simp only[true_and];constructor
   ·rintro h F' L' v c a;cases c with
    | mkF g F' f j=>exact h g _ f j a
   ·intro h g F' f j a;exact h _ _ _ (.mkF g F' f j) a
theorem Ap:∀{l:List Value}{n:Nat},l.length=n->fM l n=true
 | [],0,_=>rfl
 | _::l,n+1,h=>Ap (l:=l) (by simpa using h)
theorem ow {e:TypeId}{sz n k:Nat}{zs:List Value}(h:bO (.makeSD e sz n zs) (some k) L ρ=true):L.get k=none/\zs.length=sz/\n<=maxLen:=by
 simp only[bO] at h;split at h
 ·rename_i c b a;exact⟨c,iT b,aav a⟩
 ·cases h
theorem oz {e:TypeId}{sz b k:Nat}{zs:List Value}{x:X}(h:bO (.makeSV e sz b zs x) (some k) L ρ=true):L.get k=none/\zs.length=sz/\mO (val L ρ x)<=maxLen/\tu b (val L ρ x)=true:=by
 simp only[bO] at h;split at h
 ·rename_i d c a;exact⟨d,iT c,FO a,a⟩
 ·cases h
theorem zu {o:eP}{d:Option Nat}(y:Real F L) (h:bO o d L ρ=true):∃F' L' v,Made o d F L ρ F' L' v/\F.le F'/\Real F' L':=by
 obtain⟨w,j⟩:=y;have c:∀(e:TypeId) (cs:List Value),∃F',F.le F'/\F' w.heap.size=some (.cells cs.toArray e (0,0))/\Real F' L:=by
  intro e cs;have f:=gS w (.cells cs.toArray e);obtain⟨z,p⟩:=qh j;exact⟨_,aD.ZO (j.alloc (.cells cs.toArray e)) f,o6 rfl,⟨_,(j.alloc (.cells cs.toArray e)).freeze f p⟩⟩
 cases o<;>cases d<;>simp only[bO] at h<;>try (cases h;done)
 ·rename_i t x k;rw[Option.isNone_iff_eq_none] at h;refine⟨_,_,_,.box w.heap.size,aD.le_refl F,⟨_,(mP j h (ob:=lQ t (aJ (val L ρ x))) (e:=.box w.heap.size t (aJ (val L ρ x))) rfl ?_).1⟩⟩;show _=_;rw[gS]
 ·rename_i t zs k;rw[Option.isNone_iff_eq_none] at h;refine⟨_,_,_,.alloc w.heap.size,aD.le_refl F,⟨_,(mP j h (ob:=lQ t zs) (e:=.box w.heap.size t zs) rfl ?_).1⟩⟩;show _=_;rw[gS]
 ·rename_i e n sz xs;obtain⟨F',l,m,s⟩:=c e (cellsOf L ρ xs);exact⟨F',L,_,.mkF w.heap.size F' l m,l,s⟩
 ·rename_i e n sz xs k;obtain⟨F',l,m,s⟩:=c e (cellsOf L ρ xs);exact⟨F',L,_,.mkF w.heap.size F' l m,l,s⟩
 ·rename_i e sz n zs k;obtain⟨u,q,r⟩:=ow (ρ:=ρ) (e:=e) h;have a:=mg w (List.replicate n zs).flatten e n sz r (by rw[List.length_flatten];simp[q]);refine⟨_,_,_,.mkS w.heap.size,aD.le_refl F,⟨_,(kI j u (cs:=((List.replicate n zs).flatten).toArray) (t:=e) (e:=.row (.slice (some ⟨w.heap.size,0,none⟩) n n) e sz n (List.replicate n zs).flatten) rfl a).1⟩⟩
 ·rename_i e sz b zs x k;obtain⟨u,q,r,_⟩:=oz (e:=e) h;have a:=mg w (List.replicate (mO (val L ρ x)) zs).flatten e (mO (val L ρ x)) sz r (by rw[List.length_flatten];simp[q]);refine⟨_,_,_,.mkV w.heap.size _ rfl,aD.le_refl F,⟨_,(kI j u (cs:=((List.replicate (mO (val L ρ x)) zs).flatten).toArray) (t:=e) (e:=.row (.slice (some ⟨w.heap.size,0,none⟩) (mO (val L ρ x)) (mO (val L ρ x))) e sz (mO (val L ρ x)) (List.replicate (mO (val L ρ x)) zs).flatten) rfl a).1⟩⟩
theorem Made.le {o:eP}{d:Option Nat}{F':aD}{L':Loc}{v:SV}(h:Made o d F L ρ F' L' v):F.le F':=by
 cases h with
 | box g=>exact aD.le_refl _
 | alloc g=>exact aD.le_refl _
 | mkS g=>exact aD.le_refl _
 | mkV g n b=>exact aD.le_refl _
 | mkF g F' a c=>exact a
theorem Made.part {o:eP}{d:Option Nat}{F':aD}{L':Loc}{v:SV}(a:bO o d L ρ=true) (h:Made o d F L ρ F' L' v):L'.part L:=by
 intro j p e;cases h with
 | box g =>
  simp only[bO,Option.isNone_iff_eq_none] at a;rw[cC (fun h=>by rw[h] at e;rw[a] at e;cases e)];exact e
 | alloc g =>
  simp only[bO,Option.isNone_iff_eq_none] at a;rw[cC (fun h=>by rw[h] at e;rw[a] at e;cases e)];exact e
 | mkS g =>
  have a:=(ow a).1;rw[cC (fun h=>by rw[h] at e;rw[a] at e;cases e)];exact e
 | mkV g n f =>
  have a:=(oz a).1;rw[cC (fun h=>by rw[h] at e;rw[a] at e;cases e)];exact e
 | mkF g F' b c=>exact e
theorem Made.get {o:eP}{d:Option Nat}{F':aD}{L':Loc}{v:SV}(a:bO o d L ρ=true) (h:Made o d F L ρ F' L' v):Keeps L L':=by
 cases h with
 | box g =>
  simp only[bO,Option.isNone_iff_eq_none] at a;exact Keeps.new a
 | alloc g =>
  simp only[bO,Option.isNone_iff_eq_none] at a;exact Keeps.new a
 | mkS g=>exact Keeps.new (ow a).1
 | mkV g n c=>exact Keeps.new (oz a).1
 | mkF g F' b e=>exact Keeps.refl _
theorem Made.frame {o:eP}{d:Option Nat}{F':aD}{L':Loc}{v:SV}(h:Made o d F L ρ F' L' v):∀j,d≠some j->L'.get j=L.get j:=by
 intro j a;cases h with
 | box g=>exact cC (fun e=>a (by rw[e]))
 | alloc g=>exact cC (fun e=>a (by rw[e]))
 | mkS g=>exact cC (fun e=>a (by rw[e]))
 | mkV g n f=>exact cC (fun e=>a (by rw[e]))
 | mkF g F' b c=>rfl
theorem iW {o:eP}{d:Option Nat}{L L':Loc}{ρ ρ':Env}(f:∀x∈bI o,val L' ρ' x=val L ρ x) (c:∀k,d=some k->(L'.get k=none->L.get k=none)) (h:bO o d L' ρ'=true):bO o d L ρ=true:=by
 cases o<;>cases d<;>simp only[bO] at h ⊢<;>try (cases h;done)
 ·rename_i t x k;rw[Option.isNone_iff_eq_none] at h ⊢;exact c k rfl h
 ·rename_i t zs k;rw[Option.isNone_iff_eq_none] at h ⊢;exact c k rfl h
 ·rename_i e n sz xs;rw[<-nF (xs:=xs) f];exact h
 ·rename_i e n sz xs k;rw[<-nF (xs:=xs) f];exact h
 ·rename_i e sz n zs k;obtain⟨j,l,a⟩:=ow (L:=L') (ρ:=ρ') (e:=e) h;have a:Nat.ble n 9223372036854775807=true:=Nat.ble_eq_true_of_le a;rw[c k rfl j,Ap l,a]
 ·rename_i e sz b zs x k;obtain⟨j,l,_,a⟩:=oz (L:=L') (ρ:=ρ') (e:=e) h;rw[f x (by simp[bI])] at a;rw[c k rfl j,Ap l,a]
theorem Made.like {o:eP}{d:Option Nat}{ρ ρ':Env}{F':aD}{L':Loc}{v:SV}(a:∀x∈bI o,val L ρ' x=val L ρ x) (h:Made o d F L ρ' F' L' v):Made o d F L ρ F' L' v:=by
 cases h with
 | box g=>rw[a _ (by simp[bI])];exact .box g
 | alloc g=>exact .alloc g
 | mkS g=>exact .mkS g
 | mkV g n e=>exact .mkV g n (by rw[e,a _ (by simp[bI])])
 | mkF g F' b c =>
  rename_i xs;rw[cJ (xs:=xs) a] at c;exact .mkF g F' b c
theorem gM {L L':Loc}{ρ:Env}(b:Vd L ρ) (c:Keeps L L') (x:X):val L' ρ x=val L ρ x:=by
 simp only[val];cases e:ev ρ x with
 | v u=>rfl
 | el a j=>rfl
 | own k off =>
  obtain⟨g,ty,cs,h⟩:=b.ev e;simp only[conc,c k g ty cs h,h]
theorem cU {l:List X}{d:Option Nat}{v:SV}(h:∀k,d=some k->k∉cL l):∀x∈l,val L (put d v ρ) x=val L ρ x:=fun x a=>by simp only[val,gL h x a]
theorem F5 {x y:eP}{dx dy:Option Nat}{F1 F2:aD}{L1 L2:Loc}{v1 v2:SV}(s:bO x dx L ρ=true) (aw:bO y dy L ρ=true) (f:∀k,dx=some k->k∉cL (bI y)) (ay:∀k,dy=some k->k∉cL (bI x))
  (d:∀k,dx=some k->dy≠some k) (j:Vd L ρ) (h1:Made y dy F L ρ F1 L1 v1) (h2:Made x dx F1 L1 (put dy v1 ρ) F2 L2 v2) :
  ∃Fa La,Made x dx F L ρ Fa La v2/\Made y dy Fa La (put dx v2 ρ) F2 L2 v1:=by
 have ux:∀z∈bI x,val L1 (put dy v1 ρ) z=val L ρ z:=fun z hz=>by
  rw[cU ay z hz,gM j (h1.get aw)]
 cases h2 with
 | box c =>
  rw[ux _ (by simp[bI])];rename_i t z k;have a:∀{o:Own},Keeps L (L.set k o):=by
   simp only[bO,Option.isNone_iff_eq_none] at s;exact Keeps.new s
  cases h1 with
  | box b =>
   rename_i t' q k';refine⟨F,_,.box c,?_⟩;rw[set_comm L _ _ (fun e=>d k rfl (by rw[e]))];have e:val (L.set k (.box c t (aJ (val L ρ z)))) (put (some k) (.own k 0) ρ) q=val L ρ q:=by
    rw[cU f q (by simp[bI]),gM j (a)]
   rw[<-e];exact .box b
  | alloc b =>
   rename_i t' al k';refine⟨F,_,.box c,?_⟩;rw[set_comm L _ _ (fun e=>d k rfl (by rw[e]))];exact .alloc b
  | mkS b =>
   refine⟨F,_,.box c,?_⟩;rw[set_comm L _ _ (fun e=>d k rfl (by rw[e]))];exact .mkS b
  | mkV b n1 m =>
   refine⟨F,_,.box c,?_⟩;rw[set_comm L _ _ (fun e=>d k rfl (by rw[e]))];refine .mkV b n1 ?_;rw[m,cU f _ (by simp[bI]),gM j a]
  | mkF b F' h r =>
   rename_i e' n' aa p;refine⟨F,_,.box c,.mkF b _ h ?_⟩;rw[cJ (L:=L) (ρ:=ρ) (xs:=p) (fun u hu=>by rw[cU f u (by simpa[bI] using hu),gM j a])];exact r
 | alloc c =>
  rename_i t zs k;have a:∀{o:Own},Keeps L (L.set k o):=by
   simp only[bO,Option.isNone_iff_eq_none] at s;exact Keeps.new s
  cases h1 with
  | box b =>
   rename_i t' q k';refine⟨F,_,.alloc c,?_⟩;rw[set_comm L _ _ (fun e=>d k rfl (by rw[e]))];have e:val (L.set k (.box c t zs)) (put (some k) (.own k 0) ρ) q=val L ρ q:=by
    rw[cU f q (by simp[bI]),gM j (a)]
   rw[<-e];exact .box b
  | alloc b =>
   rename_i t' al k';refine⟨F,_,.alloc c,?_⟩;rw[set_comm L _ _ (fun e=>d k rfl (by rw[e]))];exact .alloc b
  | mkS b =>
   refine⟨F,_,.alloc c,?_⟩;rw[set_comm L _ _ (fun e=>d k rfl (by rw[e]))];exact .mkS b
  | mkV b n1 m =>
   refine⟨F,_,.alloc c,?_⟩;rw[set_comm L _ _ (fun e=>d k rfl (by rw[e]))];refine .mkV b n1 ?_;rw[m,cU f _ (by simp[bI]),gM j a]
  | mkF b F' h r =>
   rename_i e' n' aa p;refine⟨F,_,.alloc c,.mkF b _ h ?_⟩;rw[cJ (L:=L) (ρ:=ρ) (xs:=p) (fun u hu=>by rw[cU f u (by simpa[bI] using hu),gM j a])];exact r
 | mkS c =>
  rename_i t am l zs k;have a:∀{o:Own},Keeps L (L.set k o):=by
   exact Keeps.new (ow s).1
  cases h1 with
  | box b =>
   rename_i t' q k';refine⟨F,_,.mkS c,?_⟩;rw[set_comm L _ _ (fun e=>d k rfl (by rw[e]))];have e:val (L.set k (.row (.slice (some ⟨c,0,none⟩) l l) t am l (List.replicate l zs).flatten)) (put (some k) (.v (.slice (some ⟨c,0,none⟩) l l)) ρ) q=val L ρ q:=by
    rw[cU f q (by simp[bI]),gM j (a)]
   rw[<-e];exact .box b
  | alloc b =>
   rename_i t' al k';refine⟨F,_,.mkS c,?_⟩;rw[set_comm L _ _ (fun e=>d k rfl (by rw[e]))];exact .alloc b
  | mkS b =>
   refine⟨F,_,.mkS c,?_⟩;rw[set_comm L _ _ (fun e=>d k rfl (by rw[e]))];exact .mkS b
  | mkV b n1 m =>
   refine⟨F,_,.mkS c,?_⟩;rw[set_comm L _ _ (fun e=>d k rfl (by rw[e]))];refine .mkV b n1 ?_;rw[m,cU f _ (by simp[bI]),gM j a]
  | mkF b F' h r =>
   rename_i e' n' aa p;refine⟨F,_,.mkS c,.mkF b _ h ?_⟩;rw[cJ (L:=L) (ρ:=ρ) (xs:=p) (fun u hu=>by rw[cU f u (by simpa[bI] using hu),gM j a])];exact r
 | mkV c l ap =>
  rename_i t am b0 zs x0 k;have w:l=mO (val L ρ x0):=by rw[ap,ux _ (by simp[bI])]
  clear ap
  have a:∀{o:Own},Keeps L (L.set k o):=by
   exact Keeps.new (oz s).1
  cases h1 with
  | box b =>
   rename_i t' q k';refine⟨F,_,.mkV c l w,?_⟩;rw[set_comm L _ _ (fun e=>d k rfl (by rw[e]))];have e:val (L.set k (.row (.slice (some ⟨c,0,none⟩) l l) t am l (List.replicate l zs).flatten)) (put (some k) (.v (.slice (some ⟨c,0,none⟩) l l)) ρ) q=val L ρ q:=by
    rw[cU f q (by simp[bI]),gM j (a)]
   rw[<-e];exact .box b
  | alloc b =>
   rename_i t' al k';refine⟨F,_,.mkV c l w,?_⟩;rw[set_comm L _ _ (fun e=>d k rfl (by rw[e]))];exact .alloc b
  | mkS b =>
   refine⟨F,_,.mkV c l w,?_⟩;rw[set_comm L _ _ (fun e=>d k rfl (by rw[e]))];exact .mkS b
  | mkV b n1 m =>
   refine⟨F,_,.mkV c l w,?_⟩;rw[set_comm L _ _ (fun e=>d k rfl (by rw[e]))];refine .mkV b n1 ?_;rw[m,cU f _ (by simp[bI]),gM j a]
  | mkF b F' h r =>
   rename_i e' n' aa p;refine⟨F,_,.mkV c l w,.mkF b _ h ?_⟩;rw[cJ (L:=L) (ρ:=ρ) (xs:=p) (fun u hu=>by rw[cU f u (by simpa[bI] using hu),gM j a])];exact r
 | mkF c F' h r =>
  rename_i e n sz xs;have aE:=cJ (xs:=xs) ux;rw[aE] at r;cases h1 with
  | box b =>
   rename_i t' q k';refine⟨F2,L,.mkF c _ h r,?_⟩;have e:=cU (L:=L) (ρ:=ρ) (v:=.v (.slice (some ⟨c,0,none⟩) n n)) f q (by simp[bI]);rw[<-e];exact .box b
  | alloc b=>exact⟨F2,L,.mkF c _ h r,.alloc b⟩
  | mkS b=>exact⟨F2,L,.mkF c _ h r,.mkS b⟩
  | mkV b n1 m=>exact⟨F2,L,.mkF c _ h r,.mkV b n1 (by rw[m,cU f _ (by simp[bI])])⟩
  | mkF b F1' ar az =>
   rename_i e' n' aa p;refine⟨F2,L,.mkF c _ (aD.le_trans ar h) r,.mkF b _ (aD.le_refl _) ?_⟩;rw[cJ (L:=L) (ρ:=ρ) (xs:=p) (fun u hu=>by rw[cU f u (by simpa[bI] using hu)])];exact h _ _ az
theorem HO {x y:eP}{dx dy:Option Nat}(hr:Real F L) (hc:wR x y=true) (ab:∀k,dx=some k->k∉cL (bI y)) (ap:∀k,dy=some k->k∉cL (bI x)) (d:∀k,dx=some k->dy≠some k)
  (ar:Vd L ρ) (hK:evalOp P x dx F L ρ (fun F1 L1 cc=>evalOp P y dy F1 L1 cc K)):evalOp P y dy F L ρ (fun F1 L1 cc=>evalOp P x dx F1 L1 cc K):=by
 have ed:∀k,dy=some k->dx≠some k:=fun k e e'=>d k e' e;simp only[wR,aaM,aaj] at hc;rcases hc with((((⟨⟨hx,hy⟩,dq⟩ | ⟨hx,hy⟩) | ⟨hx,hy⟩) | ⟨hx,hy⟩) | ⟨hx,hy⟩) | ⟨hx,hy⟩
 ·rw[cI hx] at hK;obtain⟨v,hT,q⟩:=(fS hx).ex _ hK
  clear hK
  have al:∀{F':aD}{L':Loc}{u:SV},F.le F'->Keeps L L'->K F' L' (put dy u (put dx v ρ))->(HK x=false\/L'=L)->evalOp P x dx F' L' (put dy u ρ) K:=by
   intro F' L' u hF hL hk hR;rw[cI hx];have be:Alike x L L' ρ (put dy u ρ):=fun z r=>⟨gL ap z r,fun k off e=>by
    obtain⟨g,ty,cs,h⟩:=ar.ev e;rw[hL k g ty cs h,h]⟩
   refine(fS hx).mono _ _ (fun v' ds=>?_) (rj hx hF be hT hR);subst ds;rw[put_comm d];exact hk
  have hv:=cU (L:=L) (ρ:=ρ) (v:=v) ab
  by_cases bj:dA y=true
  ·rw[cI bj] at q ⊢;have be:Alike y L L (put dx v ρ) ρ:=fun z r=>⟨(gL ab z r).symm,fun _ _ _=>rfl⟩;exact(fS bj).mono _ _ (fun u hu=>al (aD.le_refl F) (Keeps.refl _) hu (.inr rfl)) (rj bj (aD.le_refl F) be q)
  ·have bs:HK x=false:=by
    rcases dq with h | h
    ·cases e:HK x with
     | false=>rfl
     | true=>rw[e] at h;cases h
    ·exact vv h bj
   by_cases cy:fk y=true
   ·rw[bX cy] at q ⊢;obtain⟨l,h2⟩:=q;have p:bO y dy L ρ=true:=iW (L':=L) (ρ':=put dx v ρ) hv (fun k _ e=>e) l;refine⟨p,fun F' L' u hm bi=>al hm.le (hm.get p) (h2 F' L' u ?_ bi) (.inl bs)⟩;exact hm.like fun z r=>(hv z r).symm
   ·cases y<;>first | (exfalso;revert bj cy hy;simp[Dx,dA,iC,fk,pM];done) | skip
    case callD f args =>
     have e1:=dO (xs:=args) hv;simp only[evalOp,e1] at q ⊢;exact q.imp fun F' L' u bc hl _ h=>al bc hl.keeps h (.inl bs)
    case callVD f args =>
     have e0:=gL (v:=v) (ρ:=ρ) ab f (by simp[bI]);have e1:=dO (xs:=args) (L:=L) (L':=L) (ρ:=ρ) (ρ':=put dx v ρ) (fun z r=>hv z (by simp[bI,r]));simp only[evalOp,e0,e1] at q ⊢;split at q
     ·exact q.imp fun F' L' u bc hl _ h=>al bc hl.keeps h (.inl bs)
     ·exact q.elim
    case appD e sz b zs s z =>
     have e0:=gL (v:=v) (ρ:=ρ) ab s (by simp[bI]);have e1:=gL (v:=v) (ρ:=ρ) ab z (by simp[bI]);simp only[evalOp,e0,e1] at q ⊢;split at q
     ·refine q.imp (aD.le_refl F) fun kd n xs n' bp u dj bi h=>al (aD.le_refl F) ?_ (h bi) (.inl bs);rcases dj with h | ⟨_,h⟩
      ·exact Keeps.row h
      ·exact Keeps.new h
     ·exact q.elim
 ·have ao:∀{f:Nat}{args:List Value},eI P f args F L dx (fun F' L' v=>evalOp P y dy F' L' (put dx (.v v) ρ) K) ->
    bO y dy L ρ=true/\∀F' L' u,Made y dy F L ρ F' L' u->eI P f args F' L' dx (fun F2 L2 v=>K F2 L2 (put dx (.v v) (put dy u ρ))):=by
   intro f args hC;have up:∀{L1:Loc},Left dx L L1->∀{u:SV},∀z∈bI y,val L1 (put dx u ρ) z=val L ρ z:=by
    intro L1 hl u z r;rw[cU ab z r,gM ar hl.keeps]
   have p:bO y dy L ρ=true:=by
    obtain⟨F',L',v,bc,hl,_,h⟩:=hC.some hr;rw[bX hy] at h;refine iW (L':=L') (ρ':=put dx (.v v) ρ) (up hl) (fun k hk e=>?_) h.1;rcases hl with rfl | ⟨j,o,hj,hn,rfl⟩ | ⟨j,rv,t,sz,n,xs,hj,rfl⟩
    ·exact e
    ·rw[cC (fun ej=>d j hj (by rw[<-ej];exact hk))] at e;exact e
    ·rw[Loc.Zz] at e;split at e
     ·cases e
     ·exact e
   refine⟨p,fun F' L' u hm=>(hC.up hm.le hr.glob (hm.part p) (fun k hk hn=>by rw[hm.frame k (d k hk)];exact hn)).imp fun F2 L2 v bc dE ax h=>?_⟩
   clear dE
   obtain⟨l,dv,h2⟩:=h
   clear dv
   rw[put_comm d];rcases h2 with⟨rfl,h2⟩ | ⟨k,o,hk,hn,rfl,h2⟩ | ⟨kr,rv,t,sz,n,xs,co,rfl,h2⟩
   ·rw[bX hy] at h2;refine h2.2 F2 L2 u ?_ ax;have w:=up (L1:=L) (.inl rfl) (u:=.v v)
    clear up h2
    cases hm with
    | box g=>rw[<-w _ (by simp[bI])];exact .box g
    | alloc g=>exact .alloc g
    | mkS g=>exact .mkS g
    | mkV g n hn=>exact .mkV g n (by rw[hn,w _ (by simp[bI])])
    | mkF g F' ba hg =>
     rename_i xs;refine .mkF g _ (aD.le_refl _) ?_;rw[cJ (L:=L) (ρ:=ρ) (xs:=xs) (fun z r=>w z (by simpa[bI] using r))];exact l _ _ hg
   ·rw[bX hy] at h2;refine h2.2 F2 _ u ?_ ax;have w:=up (L1:=L.set k o) (.inr (.inl ⟨k,o,hk,hn,rfl⟩)) (u:=.v v)
    clear up h2
    cases hm with
    | box g =>
     rw[set_comm L _ _ (fun e=>d k hk (by rw[e])),<-w _ (by simp[bI])];exact .box g
    | alloc g =>
     rw[set_comm L _ _ (fun e=>d k hk (by rw[e]))];exact .alloc g
    | mkS g =>
     rw[set_comm L _ _ (fun e=>d k hk (by rw[e]))];exact .mkS g
    | mkV g n hn =>
     rw[set_comm L _ _ (fun e=>d k hk (by rw[e]))];exact .mkV g n (by rw[hn,w _ (by simp[bI])])
    | mkF g F' ba hg =>
     rename_i xs;refine .mkF g _ (aD.le_refl _) ?_;rw[cJ (L:=L) (ρ:=ρ) (xs:=xs) (fun z r=>w z (by simpa[bI] using r))];exact l _ _ hg
   ·rw[bX hy] at h2;refine h2.2 F2 _ u ?_ ax;have w:=up (L1:=L.set kr (.row (.slice none 0 0) t sz 0 [])) (.inr (.inr ⟨kr,rv,t,sz,n,xs,co,rfl⟩)) (u:=.v v);have aw:∀k,dy=some k->fk y=true->bO y dy L ρ=true->(∀e n' dr bp,y≠.mkFD e n' dr bp)->kr≠k:=by
     intro k hk _ hc dg e;subst hk e;cases y<;>simp only[bO,co,Option.isNone_some,aaq] at hc;exact dg _ _ _ _ rfl
    clear up h2
    cases hm with
    | box g =>
     rw[set_comm L _ _ (aw _ rfl hy p (fun _ _ _ _=>by simp)).symm,<-w _ (by simp[bI])];exact .box g
    | alloc g =>
     rw[set_comm L _ _ (aw _ rfl hy p (fun _ _ _ _=>by simp)).symm];exact .alloc g
    | mkS g =>
     rw[set_comm L _ _ (aw _ rfl hy p (fun _ _ _ _=>by simp)).symm];exact .mkS g
    | mkV g n hn =>
     rw[set_comm L _ _ (aw _ rfl hy p (fun _ _ _ _=>by simp)).symm];exact .mkV g n (by rw[hn,w _ (by simp[bI])])
    | mkF g F' ba hg =>
     rename_i xs;refine .mkF g _ (aD.le_refl _) ?_;rw[cJ (L:=L) (ρ:=ρ) (xs:=xs) (fun z r=>w z (by simpa[bI] using r))];exact l _ _ hg
  cases x<;>first | (exfalso;revert hx;simp[iC];done) | skip
  case callD f args =>
   simp only[evalOp] at hK;obtain⟨l,h2⟩:=ao hK;rw[bX hy];refine⟨l,fun F' L' u hm _=>?_⟩;have e1:bq L' (put dy u ρ) args=bq L ρ args:=dO fun z r=>by rw[cU ap z (by simpa[bI] using r),gM ar (hm.get l)]
   simp only[evalOp,e1];exact h2 F' L' u hm
  case callVD f args =>
   simp only[evalOp] at hK;split at hK
   case h_2=>exact hK.elim
   rename_i eo fi ca hf;obtain⟨l,h2⟩:=ao hK;rw[bX hy];refine⟨l,fun F' L' u hm _=>?_⟩;have e0:=gL (v:=u) (ρ:=ρ) ap f (by simp[bI]);have e1:bq L' (put dy u ρ) args=bq L ρ args:=dO fun z r=>by rw[cU ap z (by simp[bI,r]),gM ar (hm.get l)]
   simp only[evalOp,e0,e1,hf];exact h2 F' L' u hm
 ·cases x<;>first | (exfalso;revert hx;simp[pM];done) | skip
  case appD e sz b zs s z =>
   rw[BR] at hK;split at hK
   case h_2=>exact hK.elim
   rename_i sv xv cX cz;have p:bO y dy L ρ=true:=by
    obtain⟨kd,v,n',bp,l,_,h⟩:=hK.some hr;rw[bX hy] at h;have cd:Keeps L (L.set kd (.row v e sz n' bp)):=by
     rcases l with⟨n,xs,l⟩ | ⟨_,l⟩
     ·exact Keeps.row l
     ·exact Keeps.new l
    refine iW (L':=_) (ρ':=put dx (.v v) ρ) (fun u hu=>by rw[cU ab u hu,gM ar cd]) (fun k hk e=>?_) h.1;rw[Loc.Zz] at e;split at e
    ·cases e
    ·exact e
   rw[bX hy];refine⟨p,fun F' L' u hm dt=>?_⟩
   clear dt
   have e0:=gL (v:=u) (ρ:=ρ) ap s (by simp[bI]);have e1:=gL (v:=u) (ρ:=ρ) ap z (by simp[bI]);simp only[evalOp,e0,e1,cX,cz];obtain⟨kd,n,xs,m,news,l,⟨ad,c,h2,h3,h4⟩,h5,h6,h7,h8⟩:=hK;have cd:∀{o:Own},Keeps L (L.set kd o):=by
    rcases l with l | ⟨_,l,_⟩ | ⟨_,l,_⟩
    ·exact Keeps.row l
    ·exact Keeps.new l
    ·exact Keeps.new l
   have aw:∀k,dy=some k->L.get k=none->kd≠k:=by
    rintro k hk hn rfl;rcases l with l | ⟨l,_⟩ | ⟨l,_⟩
    ·rw[hn] at l;cases l
    ·exact d kd l hk
    ·exact d kd l hk
   refine⟨kd,n,xs,m,news,?_,⟨ad,c,h2,h3,?_⟩,h5,h6,h7,fun v hv ax=>?_⟩
   ·rcases l with l | ⟨h0,l,dT⟩ | ⟨h0,l,ad,q1,q2,q3,q4⟩
    ·exact .inl (hm.part p kd _ l)
    ·exact .inr (.inl ⟨h0,by rw[hm.frame kd (d kd h0)];exact l,dT⟩)
    ·exact .inr (.inr ⟨h0,by rw[hm.frame kd (d kd h0)];exact l,ad,q1,q2,q3,q4.imp (·.mono hm.le) id⟩)
   ·rcases h4 with h4 | h4
    ·exact .inl (h4.mono hm.le)
    ·exact .inr h4
   ·have h9:=h8 v hv (ax.down hm.le hr.glob (FZ (hm.part p)));rw[bX hy] at h9;rw[put_comm d];refine h9.2 F' _ u ?_ ax;have w:∀z∈bI y,val (L.set kd (.row v e sz (n+m) (xs++news))) (put dx (.v v) ρ) z=val L ρ z:=fun z r=>by
     rw[cU ab z r,gM ar cd]
    clear h8 h9 cX cz e0 e1
    cases hm with
    | box g =>
     rename_i t x k;simp only[bO,Option.isNone_iff_eq_none] at p;rw[set_comm L _ _ (fun e=>aw k rfl p e.symm),<-w _ (by simp[bI])];exact .box g
    | alloc g =>
     rename_i t zs k;simp only[bO,Option.isNone_iff_eq_none] at p;rw[set_comm L _ _ (fun e=>aw k rfl p e.symm)];exact .alloc g
    | mkS g =>
     rename_i e0 df n0 zs k;rw[set_comm L _ _ (fun e=>aw k rfl (ow p).1 e.symm)];exact .mkS g
    | mkV g n hn =>
     rename_i e0 df b0 zs x0 k;rw[set_comm L _ _ (fun e=>aw k rfl (oz p).1 e.symm)];exact .mkV g n (by rw[hn,w _ (by simp[bI])])
    | mkF g F' ba hg =>
     rename_i dk;refine .mkF g _ ba ?_;rw[cJ (L:=L) (ρ:=ρ) (xs:=dk) (fun z r=>w z (by simpa[bI] using r))];exact hg
 ·rw[bX hx] at hK;obtain⟨bl,hK⟩:=hK;have bt:bO y dy L ρ=true:=by
   obtain⟨F',L',v,hm,bc,bi⟩:=zu hr bl;have h:=hK F' L' v hm bi;rw[bX hy] at h;refine iW (L':=L') (ρ':=put dx v ρ) (fun z r=>by rw[cU ab z r,gM ar (hm.get bl)]) (fun k hk e=>?_) h.1;rw[hm.frame k (fun e'=>d k e' hk)] at e;exact e
  rw[bX hy];refine⟨bt,fun F1 L1 v1 cf em=>?_⟩;rw[bX hx];refine⟨iW (L':=L) (ρ':=ρ) (fun z r=>by rw[cU ap z r,gM ar (cf.get bt)]) (fun k hk e=>by rw[cf.frame k (d k hk)];exact e) bl,fun F2 L2 v2 du ax=>?_⟩;obtain⟨Fa,La,ha,hb⟩:=F5 bl bt ab ap d ar cf du;have cp:bO y dy La (put dx v2 ρ)=true :=
   iW (L':=L) (ρ':=ρ) (fun z r=>by rw[cU ab z r,gM ar (ha.get bl)]) (fun k hk e=>by rw[ha.frame k (fun e'=>d k e' hk)];exact e) bt
  have dd:Real Fa La:=ax.down hb.le (hr.glob.mono ha.le) (hb.part cp);have h:=hK Fa La v2 ha dd;rw[bX hy] at h;rw[put_comm d];exact h.2 F2 L2 v1 hb ax
 ·have bk:=rR hx;rw[cI bk] at hK;obtain⟨v,hT,q⟩:=(fS bk).ex _ hK
  clear hK
  obtain⟨n,a,z,k,off,g,t,cs,ho,e1,e2,e3,e4,e5,hK⟩:=iV hy q;have ha:a∈bI y:=by rcases ho with rfl | rfl<;>simp[bI]
  have r:z∈bI y:=by rcases ho with rfl | rfl<;>simp[bI]
  have q0:=gL (v:=v) (ρ:=ρ) ab a ha;have q1:=cU (L:=L) (v:=v) (ρ:=ρ) ab z r;rw[q0] at e3;rw[q1] at e1 e2 hK;refine iL ho e1 e2 e3 e4 e5 ?_;have h3:=(fS bk).mono _ (fun u=>K F _ (put dx u (put dy (.v undef) ρ))) (fun u hu=>by subst hu;rw[put_comm d];exact hK)
   (rj bk (aD.le_refl F) (uE (L:=L) (ρ:=ρ) (v:=.v undef) ap) hT)
  rw[cI bk];exact zq hx ho (BS e4) (fun j hj=>cC hj) h3
 ·have bd:=rR hy;obtain⟨n,a,z,k,off,g,t,cs,ho,e1,e2,e3,e4,e5,hK⟩:=iV hx hK;have ha:a∈bI x:=by rcases ho with rfl | rfl<;>simp[bI]
  have r:z∈bI x:=by rcases ho with rfl | rfl<;>simp[bI]
  rw[cI bd] at hK;obtain⟨v,hT,hK⟩:=(fS bd).ex _ hK;have hT:=zq (L':=L) hy ho (fun sv=>(BS e4 sv).symm) (fun j hj=>(cC hj).symm) hT;have be:Alike y L L (put dx (.v undef) ρ) ρ:=fun u hu=>⟨(gL ab u hu).symm,fun _ _ _=>rfl⟩;have hT:=rj bd (aD.le_refl F) be hT;rw[cI bd];refine(fS bd).mono _ _ (fun u hu=>?_) hT;subst hu;have q0:=gL (v:=u) (ρ:=ρ) ap a ha;have q1:=cU (L:=L) (v:=u) (ρ:=ρ) ap z r;refine iL ho (by rw[q1];exact e1) (by rw[q1];exact e2) (by rw[q0];exact e3) e4 e5 ?_;rw[q1,put_comm d];exact hK
end
section
variable {P:Program}{F:aD}{L:Loc}{ρ:Env}{K K':cS}
theorem Left.none {d:Option Nat}{L L':Loc}(h:Left d L L') {j:Nat}(f:d≠some j) (e:L.get j=none):L'.get j=none:=by
 rcases h with rfl | ⟨k,o,c,b,rfl⟩ | ⟨k,l,t,sz,n,xs,b,rfl⟩
 ·exact e
 ·rw[cC (fun a=>f (by rw[a];exact c))];exact e
 ·rw[cC (fun a=>by rw[a,b] at e;cases e)];exact e
theorem kX {o:eP}(ho:okD o=true) {d:Option Nat}(hr:Real F L) (w:Vd L ρ) (l:evalOp P o d F L ρ K)
  (hk:∀F1 L1 r,(∃v,r=put d v ρ)->F.le F1->Real F1 L1->Vd L1 r->(∀j,d≠some j->L.get j=none->L1.get j=none)->K F1 L1 r->K' F1 L1 r):evalOp P o d F L ρ K':=by
 have a:∀{L1:Loc}{v:SV},Keeps L L1->(∀k off,v=.own k off->∃g ty cs,L1.get k=some (.box g ty cs))->Vd L1 (put d v ρ):=by
  intro L1 v hL hv t k off e;have p:ρ t=.own k off->∃g ty cs,L1.get k=some (.box g ty cs):=fun e=>by
   obtain⟨g,ty,cs,h⟩:=w t k off e;exact⟨g,ty,cs,hL k g ty cs h⟩
  rw[put_eq] at e;cases d with
  | none=>exact p e
  | some k' =>
   simp only[] at e;split at e
   ·exact hv k off e
   ·exact p e
 by_cases hs:dA o=true
 ·rw[cI hs] at l ⊢;obtain⟨v,hT,hv⟩:=(fS hs).ex _ l;refine(fS hs).mono _ _ (fun u hu=>?_) hT;subst hu;refine hk _ _ _ ⟨_,rfl⟩ (aD.le_refl F) hr (a (Keeps.refl L) fun k off e=>?_) (fun _ _ h=>h) hv;subst e;obtain⟨x,_,m,hx⟩:=HL hs hT;exact w.ev hx
 ·by_cases ha:fk o=true
  ·rw[bX ha] at l ⊢;refine⟨l.1,fun F' L' v hm c=>hk _ _ _ ⟨v,rfl⟩ hm.le c (a (hm.get l.1) fun k off e=>?_) (fun j y e=>by rw[hm.frame j y];exact e) (l.2 F' L' v hm c)⟩;cases hm with
   | box g=>injection e with e1 e2;subst e1;exact⟨_,_,_,by rw[Loc.Zz,o6 rfl]⟩
   | alloc g=>injection e with e1 e2;subst e1;exact⟨_,_,_,by rw[Loc.Zz,o6 rfl]⟩
   | mkS g=>cases e
   | mkV g n hn=>cases e
   | mkF g F' q hg=>cases e
  ·cases o<;>first | (exfalso;revert hs ha ho;simp[okD,Dx,dA,iC,fk,pM,iU];done) | skip
   case callD f args =>
    simp only[evalOp] at l ⊢;exact l.imp fun F' L' v q hl c h=>hk _ _ _ ⟨_,rfl⟩ q c (a hl.keeps fun k off e=>by cases e) (fun j y e=>hl.none y e) h
   case callVD f args =>
    simp only[evalOp] at l ⊢;split at l
    ·exact l.imp fun F' L' v q hl c h=>hk _ _ _ ⟨_,rfl⟩ q c (a hl.keeps fun k off e=>by cases e) (fun j y e=>hl.none y e) h
    ·exact l.elim
   case appD e sz b zs s z =>
    simp only[evalOp] at l ⊢;split at l
    ·refine l.imp (aD.le_refl F) fun kd n xs n' bd u ab c h=>hk _ _ _ ⟨_,rfl⟩ (aD.le_refl F) c (a ?_ fun k off e=>by cases e) ?_ (h c)
     ·rcases ab with h | ⟨_,h⟩
      ·exact Keeps.row h
      ·exact Keeps.new h
     ·intro j y e;have ao:j≠kd:=by
       rintro rfl;rcases ab with h | ⟨h,_⟩
       ·rw[e] at h;cases h
       ·exact y h
      rw[cC ao];exact e
    ·exact l.elim
   all_goals
    obtain⟨n',a',x',k,off,g,ty,cs,an,e1,e2,e3,e4,e5,l⟩:=iV rfl l;refine iL an e1 e2 e3 e4 e5 (hk _ _ _ ⟨_,rfl⟩ (aD.le_refl F) (Real.store (vT e5) hr e4) ?_ (fun j _ e=>by rw[cC (fun ej=>by rw[ej,e4] at e;cases e)];exact e) l);intro t k' m e;have p:ρ t=.own k' m->∃g' ty' cs',Loc.get (L.set k (.box g ty (aP cs off (aJ (val L ρ x'))))) k'=some (.box g' ty' cs'):=fun e=>by
     obtain⟨g',ty',cs',h⟩:=w t k' m e;rw[Loc.Zz];split
     ·exact⟨_,_,_,rfl⟩
     ·exact⟨_,_,_,h⟩
    rw[put_eq] at e;cases d with
    | none=>exact p e
    | some k' =>
     simp only[] at e;split at e
     ·cases e
     ·exact p e
theorem jT {o:eP}(e:okD o=true) {d:Option Nat}(h:Real F L) (b:Vd L ρ) (f:evalOp P o d F L ρ K)
  (m:∀F1 L1 a,(∃v,a=put d v ρ)->F.le F1->Real F1 L1->Vd L1 a->K F1 L1 a->K' F1 L1 a):evalOp P o d F L ρ K' :=
 kX e h b f fun F1 L1 a n k j l _ c=>m F1 L1 a n k j l c
theorem ve {o:eP}(n:okD o=true) {d:Option Nat}(c:Real F L) (a:evalOp P o d F L ρ K):∃v F1 L1,K F1 L1 (put d v ρ):=by
 by_cases l:dA o=true
 ·rw[cI l] at a;obtain⟨v,_,p⟩:=(fS l).ex _ a;exact⟨v,F,L,p⟩
 ·by_cases m:fk o=true
  ·rw[bX m] at a;obtain⟨F',L',v,t,_,j⟩:=zu c a.1;exact⟨v,F',L',a.2 F' L' v t j⟩
  ·cases o<;>first | (exfalso;revert l m n;simp[okD,Dx,dA,iC,fk,pM,iU];done) | skip
   case callD f args =>
    simp only[evalOp] at a;obtain⟨F',L',v,_,_,_,h⟩:=a.some c;exact⟨_,F',L',h⟩
   case callVD f args =>
    simp only[evalOp] at a;split at a
    ·obtain⟨F',L',v,_,_,_,h⟩:=a.some c;exact⟨_,F',L',h⟩
    ·exact a.elim
   case appD e sz b zs s z =>
    simp only[evalOp] at a;split at a
    ·obtain⟨w,v,n',r,_,_,h⟩:=a.some c;exact⟨_,F,_,h⟩
    ·exact a.elim
   all_goals
    obtain⟨n',y,x',k,off,g,ty,cs,q,e1,x,e3,e4,u,a⟩:=iV rfl a;exact⟨_,F,_,a⟩
def iM:eP:=.mov (.c undef)
def res (g:Option (Nat×Bool)) (ρ:Env) (o:eP):Option eP :=
 match g with
 | none=>some o
 | some (s,a)=>match ρ s with
  | .v (.bool b)=>some (if b=a then o else iM)
  | .v (.tuple _)=>some iM
  | _=>none
theorem gC {d:Option Nat}{o:eP}{g:Option (Nat×Bool)}{c:List aA} :
  aY P (.op d o g::c) F L ρ K↔∃o',res g ρ o=some o'/\evalOp P o' d F L ρ (fun F1 L1 h=>aY P c F1 L1 h K):=by
 cases g with
 | none=>simp only[aY,res,yo,exists_eq_left']
 | some p =>
  obtain⟨s,f⟩:=p;simp only[aY,res];cases e:ρ s with
  | own k off=>simp
  | el a j=>simp
  | v u =>
   cases u<;>simp only[yo,exists_eq_left',reduceCtorEq,false_and,exists_false]
   case bool b =>
    cases b<;>cases f<;>simp[wD,lq e,iM,evalOp,aL,ev]
   case tuple vs=>rfl
def looks (o:eP) (g:Option (Nat×Bool)):List Nat :=
 match g with
 | none=>cL (bI o)
 | some (s,_)=>s::cL (bI o)
def sG (d:Option Nat) (l:List Nat):Bool :=
 match d with
 | none=>true
 | some k=>match ga l k with | true=>false | false=>true
def BU:Option Nat->Option Nat->Bool
 | some a,some b=>match Nat.beq a b with | true=>false | false=>true
 | _,_=>true
def lS:aA->aA->Bool
 | .op b x d,.op a y c=>okD x&&okD y&&wR x y&&sG b (looks y c)&&sG a (looks x d)&&BU b a
 | _,_=>false
theorem kK {d:Option Nat}{l:List Nat}(h:sG d l=true):∀k,d=some k->k∉l:=by
 rintro k rfl a;simp only[sG,cT.2 a] at h;cases h
theorem oC {d a:Option Nat}(h:BU d a=true):∀k,d=some k->a≠some k:=by
 rintro k rfl e;subst e;simp[BU] at h
theorem oW {g:Option (Nat×Bool)}{o:eP}{d:Option Nat}{v:SV}(h:∀k,d=some k->k∉looks o g):res g (put d v ρ) o=res g ρ o:=by
 cases g with
 | none=>rfl
 | some p =>
  obtain⟨s,a⟩:=p;have:put d v ρ s=ρ s:=by
   rw[put_eq];cases d with
   | none=>rfl
   | some k =>
    simp only[];rw[vz];intro e;exact h k rfl (by simp[looks,e])
  simp only[res,this]
theorem dG {g:Option (Nat×Bool)}{o o':eP}(h:res g ρ o=some o'):o'=o\/o'=iM:=by
 cases g with
 | none=>simp only[res,yo] at h;exact .inl h.symm
 | some p =>
  obtain⟨s,a⟩:=p;simp only[res] at h;split at h
  ·injection h with h
   split at h
   ·exact .inl h.symm
   ·exact .inr h.symm
  ·injection h with h;exact .inr h.symm
  ·cases h
theorem oD {o:eP}{g:Option (Nat×Bool)}{k:Nat}(h:k∈cL (bI o)):k∈looks o g:=by
 cases g with
 | none=>exact h
 | some p=>exact aaH _ h
theorem HS {x y:aA}{b:List aA}(w:lS x y=true) (hr:Real F L) (t:Vd L ρ) (h:aY P (x::y::b) F L ρ K):aY P (y::x::b) F L ρ K:=by
 cases x with
 | frz k=>exact vv w (by cases y<;>exact aa0)
 | pc d o g=>exact vv w (by cases y<;>exact aa0)
 | op dx x gx =>
  cases y with
  | frz k=>exact vv w aa0
  | pc d o g=>exact vv w aa0
  | op dy y gy =>
   simp only[lS,aaj] at w;obtain⟨⟨⟨⟨⟨am,c⟩,hc⟩,h1⟩,h2⟩,h3⟩:=w;have h1:=kK h1;have h2:=kK h2;have h3:=oC h3;have ap:∀k,dy=some k->dx≠some k:=fun k e e'=>h3 k e' e;rw[gC] at h;obtain⟨z,s,h⟩:=h;have l:okD iM=true:=rfl;have p:okD z=true:=by rcases dG s with rfl | rfl;exact am;exact l
   -- y's guard
   have hy:∃r,res gy ρ y=some r:=by
    obtain⟨v,F1,L1,f⟩:=ve p hr h;rw[gC] at f;obtain⟨r,a,_⟩:=f;rw[oW h1] at a;exact⟨r,a⟩
   obtain⟨r,a⟩:=hy;have ab:okD r=true:=by rcases dG a with rfl | rfl;exact c;exact l
   have hA:evalOp P z dx F L ρ (fun F1 L1 q=>evalOp P r dy F1 L1 q (fun F2 L2 n=>aY P b F2 L2 n K)):=by
    refine jT p hr t h ?_;rintro F1 L1 q ⟨v,rfl⟩ _ _ _ f;rw[gC] at f;obtain⟨aw,j,f⟩:=f;rw[oW h1,a] at j;injection j with j
    subst j;exact f
   have lx:∀k,dy=some k->k∉cL (bI z):=by
    intro k e f;rcases dG s with rfl | rfl
    ·exact h2 k e (oD f)
    ·simp[iM,bI,cL] at f
   have ly:∀k,dx=some k->k∉cL (bI r):=by
    intro k e f;rcases dG a with rfl | rfl
    ·exact h1 k e (oD f)
    ·simp[iM,bI,cL] at f
   have hB:evalOp P r dy F L ρ (fun F1 L1 q=>evalOp P z dx F1 L1 q (fun F2 L2 n=>aY P b F2 L2 n K)):=by
    by_cases m:r=iM
    ·subst m;simp only[iM,evalOp,aL,ev];exact wQ (K:=fun F2 L2 n=>aY P b F2 L2 n K) (u:=.v undef) p lx h3 hA
    ·have ey:r=y:=by rcases dG a with h | h;exact h;exact vv h m
     subst ey;refine HO hr ?_ ly lx h3 t hA;rcases dG s with rfl | rfl
     ·exact hc
     ·simp only[okD,aaM] at c;rcases c with c | c
      ·simp only[wR,c,abf,aaM];exact .inl (.inl (.inl (.inl (.inl (by rfl)))))
      ·simp only[wR,c,abf,aaM];exact .inl (.inr rfl)
   rw[gC];refine⟨r,a,jT ab hr t hB ?_⟩;rintro F1 L1 q ⟨v,rfl⟩ _ _ _ f;rw[gC];exact⟨z,by rw[oW h2];exact s,f⟩
theorem zw {y:aA}{s:List aA}:∀(p:List aA),(∀x∈p,lS x y=true)->∀{F:aD}{L:Loc}{ρ:Env},Real F L->Vd L ρ->aY P (p++y::s) F L ρ K->aY P (y::(p++s)) F L ρ K
 | [],_,F,L,ρ,_,_,h=>h
 | .frz k::p,b,F,L,ρ,_,_,h=>by
  have:=b (.frz k) (by simp);exact vv this (by cases y<;>exact aa0)
 | .pc d o g::p,b,F,L,ρ,_,_,h=>by
  have:=b (.pc d o g) (by simp);exact vv this (by cases y<;>exact aa0)
 | .op n x r::p,b,F,L,ρ,t,e,h=>by
  have a:=b (.op n x r) (by simp);have u:aY P (.op n x r::y::(p++s)) F L ρ K:=by
   rw[aay,gC] at h;obtain⟨q,j,h⟩:=h;have l:okD x=true:=by
    cases y with
    | frz k=>exact vv a aa0
    | pc d o g=>exact vv a aa0
    | op dy y gy=>simp only[lS,aaj] at a;exact a.1.1.1.1.1
   have f:okD q=true:=by rcases dG j with rfl | rfl;exact l;rfl
   rw[gC];refine⟨q,j,jT f t e h ?_⟩;intro F1 L1 w _ _ m c hk;exact zw p (fun z v=>b z (by simp[v])) m c hk
  exact HS a t e u
end
def S0 (A:cH):Op->Bool
 | .store _ (.tmp i) _=>ga A.co (1000000+i)
 | .mapUpdate _ (.tmp i) _ _=>ga A.co (1000000+i)
 | _=>false
def Aq (P:Program) (A:cH) (a:Array Oper) (i:Nat):Option aA :=
 match a[i]? with
 | none=>none
 | some o=>match iK a o.guard,iI P (A.owned o.dst) o.op,NC A.n o.dst with
  | some g,some s,true=>match A.isX o.dst with
   | true=>match g,s with
    | none,.call f l=>some (.pc o.dst (.call f l) none)
    | none,.callV f l=>some (.pc o.dst (.callV f l) none)
    | _,_=>none
   | false=>match A.isO o.dst||S0 A o.op with
    | true=>match wN s with
     | some s'=>some (.op o.dst s' g)
     | none=>none
    | false=>match uD A.fl A.bk A.bx s with
     | some s'=>match dA s'||iC s'||fk s'||pM s'||iU s' with
      | true=>some (.op o.dst s' g)
      | false=>none
     | none=>none
  | _,_,_=>none
def fC (P:Program) (A:cH) (ops:Array Oper):List Nat->Option (List aA)
 | []=>some []
 | i::is=>match Aq P A ops i,fC P A ops is with
  | some s,some ss=>some (s::ss)
  | _,_=>none
def binding (e:Edge):Bool:=Region.binds .any e
def direct (ops:Array Oper) (i:Nat):List Nat :=
 match ops[i]? with
 | some o=>(o.after.toList.filter binding).map (·.on)
 | none=>[]
def Ar:List (List Nat)->Nat->List Nat
 | [],_=>[]
 | l::_,0=>l
 | _::a,n+1=>Ar a n
def Au (a:List (List Nat)) (x:Nat):List Nat->Bool
 | []=>false
 | z::zs=>match ga (Ar a z) x with | true=>true | false=>Au a x zs
def Av (ops:Array Oper) (a:List (List Nat)) (y:Nat):Bool :=
 (direct ops y).all (fun z=>Nat.blt z y)&&(Ar a y).all (fun x=>ga (direct ops y) x||Au a x (direct ops y))
def HT (ops:Array Oper) (a:List (List Nat)):Bool:=(List.range ops.size).all (Av ops a)
def oZ (a:List (List Nat)):List (Nat×aA)->Bool
 | []=>true
 | (x,b)::l=>l.all (fun p=>lS b p.2||ga (Ar a p.1) x)&&oZ a l
def bJ:List Nat->Bool
 | []=>true
 | x::l=>!ga l x&&bJ l
def Dy (P:Program) (ops:Array Oper) (is:List Nat) (a:List (List Nat)) (ss:List aA):Bool :=
 P.follows .mixedOrders&&HT ops a&&bJ is&&Nat.beq is.length ops.size&&is.all (fun i=>Nat.blt i ops.size)&&(List.range ops.size).all (ga is)&&oZ a (is.zip ss)
theorem cV:∀{l:List Nat},bJ l=true->l.Nodup
 | [],_=>List.nodup_nil
 | x::l,h=>by
  simp only[bJ,aaj,Bool.not_eq_true'] at h;refine List.nodup_cons.2 ⟨fun a=>?_,cV h.2⟩;rw[cT.2 a] at h;cases h.1
theorem zx {a:List (List Nat)}{x:Nat}:∀{l:List Nat},Au a x l=true->∃z,z∈l/\x∈Ar a z
 | [],h=>by cases h
 | z::zs,h=>by
  simp only[Au] at h;split at h
  ·rename_i c;exact⟨z,by simp,cT.1 c⟩
  ·obtain⟨b,e,d⟩:=zx h;exact⟨b,by simp[e],d⟩
section
variable {P:Program}{K:cS}{Q:Exit->Act->World->Prop}{ops:Array Oper}
theorem vg {f:List (List Nat)}(c:HT ops f=true) {done:Nat->Prop}(a:∀i,i<ops.size->done i->∀z∈direct ops i,done z):∀y,y<ops.size->(∀z∈direct ops y,done z)->∀x∈Ar f y,done x:=by
 intro y
 induction y using Nat.strongRecOn with
 | _ y l =>
  intro m j x n;have h:=aas.1 c y (List.mem_range.2 m);simp only[Av,aaj] at h;have b:=aas.1 h.2 x n;simp only[aaM] at b;rcases b with b | b
  ·exact j x (cT.1 b)
  ·obtain⟨z,k,e⟩:=zx b;have d:z<y:=by
    have o:Nat.blt z y=true:=aas.1 h.1 z k;simpa using o
   exact l z d (by omega) (a z (by omega) (j z k)) x e
theorem qq {A:cH}:∀{is:List Nat}{ss:List aA},fC P A ops is=some ss->ss.length=is.length/\∀p q y,is=p++y::q->∃a b c,ss=a++b::c/\a.length=p.length/\Aq P A ops y=some b/\fC P A ops (p++q)=some (a++c)
 | [],ss,h=>by
  simp only[fC,yo] at h;subst h;refine⟨rfl,fun p q y e=>?_⟩;cases p<;>cases e
 | i::is,ss,h=>by
  simp only[fC] at h;split at h
  case h_2=>cases h
  rename_i s d f j;injection h with h
  subst h;obtain⟨n,m⟩:=qq j;refine⟨by simp[n],fun p q y e=>?_⟩;cases p with
  | nil =>
   simp only[aaP,List.cons.injEq] at e;obtain⟨rfl,rfl⟩:=e;exact⟨[],s,d,rfl,rfl,f,by simpa using j⟩
  | cons x p =>
   simp only[aay,List.cons.injEq] at e;obtain⟨rfl,rfl⟩:=e;obtain⟨a,b,c,r,o,k,l⟩:=m p q y rfl;refine⟨s::a,b,c,by simp[r],by simp[o],k,?_⟩;simp only[aay,fC,f,l]
theorem vh {d:List (List Nat)}:∀{p q:List (Nat×aA)}{y:Nat×aA},oZ d (p++y::q)=true->oZ d (p++q)=true/\∀x∈p,lS x.2 y.2=true\/x.1∈Ar d y.1
 | [],q,y,h=>by
  obtain⟨m,o⟩:=y;simp only[aaP,oZ,aaj] at h ⊢;exact⟨h.2,fun x b=>by cases b⟩
 | (n,l)::p,q,y,h=>by
  simp only[aay,oZ,aaj] at h ⊢;obtain⟨f,j⟩:=h;obtain⟨k,e⟩:=vh j;have c:=aas.1 f;refine⟨⟨aas.2 fun z a=>c z ?_,k⟩,fun x b=>?_⟩
  ·rcases aah.1 a with a | a
   ·exact aah.2 (.inl a)
   ·exact aah.2 (.inr (aaH _ a))
  ·rcases aal.1 b with rfl | b
   ·have:=c y (aah.2 (.inr (by simp)));simp only[aaM] at this;rcases this with h | h
    ·exact .inl h
    ·exact .inr (cT.1 h)
   ·exact e x b
theorem aG.same {L L2:Loc}{ρ:Env}{a:Act}(h:aG L ρ a) (b:L.sameAs L2):aG L2 ρ a:=by
 have c:∀sv,conc L2 sv=conc L sv:=by
  intro sv;cases sv with
  | v x=>rfl
  | el a j=>rfl
  | own k off=>simp only[conc,b k]
 exact⟨fun j=>by rw[c];exact h.eq j,fun j k off e=>by rw[b k];exact h.own j k off e,h.el⟩
theorem Step.Z5 {F F':aD}{L L' L2:Loc}{w w':World}(h:Step F L w F' L' w') (a:L'.sameAs L2):Step F L w F' L2 w' :=
 ⟨h.le,h.os,h.tape,h.output,h.size,h.same,h.frz,fun b ⟨k,o,e,hb⟩=>h.own b ⟨k,o,by rw[<-a k];exact e,hb⟩⟩
theorem BV {A:cH}{i:Nat}{s:aA}{m:List aA}{F:aD}{L:Loc}{ρ:Env}{a:Act}{w:World}{KK:Act->World->Prop}(hi:i<ops.size) (c:Aq P A ops i=some s) (hs:St F L w) (he:aG L ρ a) (hn:a.tmps.size=A.n)
  (l:aY P (s::m) F L ρ K)
  (hQ:∀z w' F' L' ρ',St F' L' w'->aG L' ρ' z->z.tmps.size=A.n->z.defers=a.defers->Step F L w F' L' w'->(∀j,((ops[i]?).bind (·.dst))≠some j->z.tmps.getD j undef=a.tmps.getD j undef)->aY P m F' L' ρ' K->KK z w') :
  wpOp P ops Q i KK a w:=by
 unfold Aq at c;split at c
 case h_1=>cases c
 rename_i o ag;split at c
 case h_2=>cases c
 rename_i g s0 y al ab;split at c
 ·split at c
  ·injection c with c
   subst c;simp only[aY] at l
  ·injection c with c
   subst c;simp only[aY] at l
  ·cases c
 have bi:∃s',s=.op o.dst s' g/\((∀{F:aD}{L:Loc}{ρ:Env}{K:cS},evalOp P s' o.dst F L ρ K->evalOp P s0 o.dst F L ρ (fun F' L' ρ'=>Real F' L'->K F' L' ρ')) \/
   ∀{F:aD}{L:Loc}{ρ:Env}{K:cS},evalOp P s' o.dst F L ρ K->evalOp P s0 o.dst F L ρ (fun F' L' ρ'=>∃L2,L'.sameAs L2/\(Real F' L2->K F' L2 ρ'))):=by
  split at c
  ·split at c
   case h_2=>cases c
   rename_i s' aa;injection c with c
   exact⟨s',c.symm,.inl fun h=>Lc aa h⟩
  ·split at c
   case h_2=>cases c
   rename_i s' aa;split at c
   case h_2=>cases c
   rename_i am;injection c with c
   cases ao:iC s' with
   | true=>exact⟨s',c.symm,.inr fun h=>HM aa ao h⟩
   | false=>exact⟨s',c.symm,.inl fun h=>Lj aa am ao h⟩
 obtain⟨s',aw,t⟩:=bi;subst aw;have hd:∀k,o.dst=some k->k<a.tmps.size:=by
  intro k hk;rw[hk] at ab;rw[hn];have h2:Nat.blt k A.n=true:=ab;simpa using h2
 have be:(ops[i]?).bind (·.dst)=o.dst:=by rw[ag];rfl
 rw[be] at hQ;simp only[wpOp,ag];have u:evalOp P s' o.dst F L ρ (fun F' L' ρ'=>aY P m F' L' ρ' K)->o.wp P a w KK Q:=by
  intro l;rcases t with t | t
  ·have h1:=t l;have:=fB (Q:=Q) hs he hd al h1;refine Oper.wp_mono ?_ (qo (asg:=[]) this);rintro z w' ⟨⟨F',L',ρ',g1,g2,g3,g4,g5,g6⟩,ac⟩;exact hQ z w' F' L' ρ' g1 g2 (by rw[g3,hn]) g4 g5 ac (g6 ⟨w',g1⟩)
  ·have h1:=t l;have:=fB (Q:=Q) hs he hd al h1;refine Oper.wp_mono ?_ (qo (asg:=[]) this);rintro z w' ⟨⟨F',L',ρ',g1,g2,g3,g4,g5,L2,g6,g7⟩,ac⟩;have s1:St F' L2 w':=g1.part fun k o e=>by rw[<-g6 k];exact e
   exact hQ z w' F' L2 ρ' s1 (g2.same g6) (by rw[g3,hn]) g4 (g5.Z5 g6) ac (g7 ⟨w',s1⟩)
 have skip:aY P m F L (put o.dst (.v undef) ρ) K->KK (a.put o.dst undef) w:=by
  intro l;exact hQ _ w F L _ hs (he.put hd (v:=undef) (x:=.v undef) rfl bT dK (rf L)) (by rw[lp,hn]) (ic _ _ _) (Step.refl _ _ _) (fun j hj=>kJ hj) l
 cases r:o.guard with
 | none =>
  rw[r] at y;simp only[iK,yo] at y;subst y;simp only[aY] at l;rw[o6 (by simp[Region.wanted,r])];exact .inl (u l)
 | some p =>
  obtain⟨j,q⟩:=p;rw[r] at y;simp only[iK] at y;split at y
  case h_2=>cases y
  rename_i d ad;injection y with y
  subst y;simp only[aY] at l;split at l
  ·rename_i b hb;have f:=he.eq d;rw[hb] at f;have hy:yielded ops a.tmps j=some b:=by
    simp only[yielded,ad,Option.bind_some,ri f]
   have hw:Region.wanted o (yielded ops a.tmps)=(b == q):=by
    simp only[Region.wanted,r,hy];cases b<;>cases q<;>rfl
   rw[hw];cases b<;>simp only[wD] at l
   ·rw[lq hb] at l;cases q
    ·exact .inl (u l)
    ·exact skip l
   ·rw[lq hb] at l;cases q
    ·exact skip l
    ·exact .inl (u l)
  ·rename_i vs hb;have f:=he.eq d;rw[hb] at f;have hy:yielded ops a.tmps j=none:=by
    simp only[yielded,ad,Option.bind_some];rw[aaF] at f;cases e:a.tmps[d]? with
    | none=>rfl
    | some v=>rw[e] at f;simp only[Option.getD_some,conc] at f;rw[f]
   have hw:Region.wanted o (yielded ops a.tmps)=false:=by
    simp only[Region.wanted,r,hy];rfl
   rw[hw];exact skip l
  ·exact l.elim
theorem aG.vd {L:Loc}{ρ:Env}{a:Act}(b:aG L ρ a):Vd L ρ:=by
 intro t k off e;exact b.own t k off e
theorem tG {l:Array Bool}{z:Nat}(h:z<l.size) (b c:Bool):l.getD z b=l.getD z c:=by
 simp[aaF,h]
theorem min_mem:∀{l:List Nat},l≠[]->∃y,y∈l/\∀z∈l,y<=z
 | [],h=>vv rfl h
 | [x],_=>⟨x,by simp,fun z a=>by simp at a;omega⟩
 | x::c::l,_=>by
  obtain⟨y,d,b⟩:=min_mem (l:=c::l) (by simp)
  by_cases h:x<=y
  ·exact⟨x,by simp,fun z a=>by
    rcases aal.1 a with rfl | a
    ·exact aaB _
    ·exact aa1 h (b z a)⟩
  ·exact⟨y,aaH _ d,fun z a=>by
    rcases aal.1 a with rfl | a
    ·omega
    ·exact b z a⟩
theorem o7 {i z:Nat}{o:Oper}(d:ops[i]?=some o):z∈direct ops i↔∃e∈o.after,Region.binds .any e=true/\e.on=z:=by
 simp only[direct,d,aaJ,List.mem_filter,Array.mem_toList_iff,binding];constructor
 ·rintro⟨e,⟨c,b⟩,a⟩;exact⟨e,c,b,a⟩
 ·rintro⟨e,c,b,a⟩;exact⟨e,⟨c,b⟩,a⟩
theorem F7 {A:cH}{cl:List (List Nat)}(ay:HT ops cl=true):∀(fuel:Nat) (l:List Nat) (ss:List aA) (b:Array Bool) (F:aD) (L:Loc) (ρ:Env) (a:Act) (w:World),
  fC P A ops l=some ss->b.size=ops.size->l.Nodup->(∀i,i∈l↔i<ops.size/\b.getD i true=false)->l.length<=fuel->oZ cl (l.zip ss)=true ->
  (∀i,i<ops.size->b.getD i true=true->∀z∈direct ops i,b.getD z true=true) ->
  St F L w->aG L ρ a->a.tmps.size=A.n->aY P ss F L ρ K ->
  (∀a' w',eY A.n F L w a (dstsOf ops (List.range ops.size)) K a' w'->Q .normal a' w')->wpAny P .any ops Q fuel b a w:=by
 have m:∀y z,y<ops.size->z∈direct ops y->z<y:=by
  intro y z hy s;have h:=aas.1 ay y (List.mem_range.2 hy);simp only[Av,aaj] at h;have h3:Nat.blt z y=true:=aas.1 h.1 z s;simpa using h3
 intro fuel
 induction fuel with
 | zero =>
  intro l ss b F L ρ a w hl ag aw d v hp c hs he hn hK hQ;have:l=[]:=aaG (by omega);subst this;simp only[fC,yo] at hl;subst hl;refine⟨?_,hQ a w ⟨F,L,ρ,hs,he,hn,rfl,Step.refl _ _ _,fun _ _=>rfl,hK⟩⟩;apply List.eq_nil_iff_forall_not_mem.2;intro i hi;rw[mem_ready] at hi;obtain⟨h1,o,h2,_⟩:=hi;have:=(d i).2 ⟨(Array.getElem?_eq_some_iff.1 h2).1,h1⟩;cases this
 | succ fuel ih =>
  intro l ss b F L ρ a w hl ag aw d v hp c hs he hn hK hQ;refine⟨fun hr=>?_,fun y hy=>?_⟩
  ·have:l=[]:=by
    refine Classical.byContradiction fun r=>?_;obtain⟨y,h1,h2⟩:=min_mem r;obtain⟨h3,h4⟩:=(d y).1 h1;have u:y∈Region.ready .any ops b:=by
     rw[mem_ready];refine⟨h4,ops[y],Array.getElem?_eq_getElem h3,fun e ao am=>?_⟩;have s:e.on∈direct ops y:=(o7 (Array.getElem?_eq_getElem h3)).2 ⟨e,ao,am,rfl⟩;have bp:=m y e.on h3 s;rw[tG (by omega) false true];cases hd:b.getD e.on true with
     | true=>rfl
     | false =>
      have:=h2 e.on ((d e.on).2 ⟨by omega,hd⟩);omega
    rw[hr] at u;cases u
   subst this;simp only[fC,yo] at hl;subst hl;exact hQ a w ⟨F,L,ρ,hs,he,hn,rfl,Step.refl _ _ _,fun _ _=>rfl,hK⟩
  ·rw[mem_ready] at hy;obtain⟨h1,o,ho,ap⟩:=hy;have f:=(Array.getElem?_eq_some_iff.1 ho).1;have an:=(d y).2 ⟨f,h1⟩;obtain⟨p,q,rfl⟩:=List.append_of_mem an;obtain⟨da,bd⟩:=qq hl;obtain⟨sp,sy,sq,rfl,aa,cc,co⟩:=bd p q y rfl;have aE:(p++y::q).zip (sp++sy::sq)=p.zip sp++(y,sy)::q.zip sq:=by
    rw[List.zip_append aa.symm];rfl
   rw[aE] at hp;obtain⟨ci,bu⟩:=vh hp;have ab:∀z∈direct ops y,b.getD z true=true:=by
    intro z s;have bp:=m y z f s;obtain⟨e,ao,am,rfl⟩:=(o7 ho).1 s;rw[tG (by omega) true false];exact ap e ao am
   have t:∀sx∈sp,lS sx sy=true:=by
    intro sx bz;obtain⟨k,hk⟩:=List.getElem?_of_mem bz;have cy:=(aai.1 hk).1;have bb:p[k]?=some (p[k]'(by omega)):=aag (by omega);have hm:(p[k]'(by omega),sx)∈p.zip sp:=aam (i:=k) (by rw[List.getElem?_zip_eq_some];exact⟨bb,hk⟩);rcases bu _ hm with h | h
    ·exact h
    ·exfalso;have hd:=vg ay (done:=fun z=>b.getD z true=true) c y f ab _ h;have bs:p[k]'(by omega)∈p++y::q:=aah.2 (.inl (aam bb));have:=((d _).1 bs).2;simp only at hd;rw[hd] at this;cases this
   have ce:=zw sp t ⟨w,hs⟩ he.vd hK;refine BV f cc hs he hn ce ?_;intro a' w' F' L' ρ' g1 g2 g3 g4 g5 g6 g7;have ad:(p++q).Nodup/\y∉p++q:=by
    have:=(List.perm_middle.nodup_iff).1 aw;rw[List.nodup_cons] at this;exact⟨this.2,this.1⟩
   have ae:∀i,(b.setIfInBounds y true).getD i true=if i=y then true else b.getD i true:=by
    intro i;simp only[aaF,Array.getElem?_setIfInBounds]
    by_cases hi:y=i
    ·subst hi;rw[o6 rfl,o6 rfl];simp[ag,f]
    ·rw[vz hi,vz (fun h=>hi h.symm)]
   refine ih (p++q) (sp++sq) _ F' L' ρ' a' w' co (by simp[ag]) ad.1 (fun i=>?_) (by simp at v ⊢;omega) ?_ ?_ g1 g2 g3 g7 ?_
   ·rw[ae];have h0:=d i;constructor
    ·intro hi;have r:i≠y:=fun e=>ad.2 (e▸hi);rw[vz r];refine h0.1 ?_;rcases aah.1 hi with h | h
     ·exact aah.2 (.inl h)
     ·exact aah.2 (.inr (aaH _ h))
    ·rintro⟨cb,al⟩;split at al
     ·cases al
     ·rename_i r;have:=h0.2 ⟨cb,al⟩;rcases aah.1 this with h | h
      ·exact aah.2 (.inl h)
      ·rcases aal.1 h with h | h
       ·exact vv h r
       ·exact aah.2 (.inr h)
   ·rw[List.zip_append aa.symm];exact ci
   ·intro i hi hd z s;rw[ae] at hd ⊢;split
    ·rfl
    ·split at hd
     ·rename_i h;subst h;exact ab z s
     ·exact c i hi hd z s
   ·rintro ca bv ⟨F'',L'',az,k1,k2,k3,k4,k5,k6,k7⟩;refine hQ ca bv ⟨F'',L'',az,k1,k2,k3,k4.trans g4,g5.trans k5,fun j hj=>?_,k7⟩;rw[k6 j hj,g6 j];intro e;apply hj;have:∀(is:List Nat),y∈is->j∈dstsOf ops is:=by
     intro is
     induction is with
     | nil=>intro h;cases h
     | cons x is be =>
      intro h;simp only[dstsOf];rcases aal.1 h with rfl | h
      ·rw[e];simp
      ·split
       ·exact aaH _ (be h)
       ·exact be h
    exact this _ (List.mem_range.2 f)
theorem sH {A:cH}{r:Nat}{is:List Nat}{o:List (List Nat)}{ss:List aA}{F:aD}{L:Loc}{ρ:Env}{a:Act}{w:World}(hl:fC P A ops is=some ss) (k:Dy P ops is o ss=true)
  (t:St F L w) (p:aG L ρ a) (q:a.tmps.size=A.n) (m:aY P ss F L ρ K) (hQ:∀d w',eY A.n F L w a (dstsOf ops (List.range ops.size)) K d w'->Q .normal d w') :
  (Code.region r ops true).wp P Q a w:=by
 simp only[Dy,aaj] at k;obtain⟨⟨⟨⟨⟨⟨u,h2⟩,f⟩,j⟩,s⟩,l⟩,h6⟩:=k;have f:=cV f;have j:=xo j;have c:∀i∈is,i<ops.size:=fun i hi=>by
  have h:Nat.blt i ops.size=true:=aas.1 s i hi;simpa using h
 refine wp_region_any u ?_;show wpAny P .any ops Q ops.size (Array.replicate ops.size false) a w.drew;refine F7 h2 ops.size is ss _ F L ρ a w.drew hl (by simp) f (fun i=>?_) (by omega) h6 ?_ t.drew p q m ?_
 ·constructor
  ·intro hi;refine⟨c i hi,?_⟩;simp[aaF,c i hi]
  ·rintro⟨hi,_⟩;exact cT.1 (aas.1 l i (List.mem_range.2 hi))
 ·intro i hi e;simp[aaF,hi] at e
 ·rintro d w' ⟨F',L',ρ',y,z,x,v,b,g6,g7⟩;refine hQ d w' ⟨F',L',ρ',y,z,x,v,?_,g6,g7⟩;exact⟨b.le,b.os,b.tape,b.output,b.size,b.same,b.frz,b.own⟩
end
def kY (L L':Loc):Prop:=∀k g t cs,L.get k=some (.box g t cs)->∃cs',L'.get k=some (.box g t cs')
def wS (ks:List Nat) (L L':Loc):Prop:=∀k g t cs,L.get k=some (.box g t cs)->∃cs',L'.get k=some (.box g t cs')/\(k∉ks->cs'=cs)
structure fD (P:Program) (PX:aD->Loc->Value->Prop) (f:Nat) (args:List Value) (F:aD) (L:Loc) (K:aD->Loc->Value->Prop):Prop where
 out:∃(ks ko:List Nat) (Lin:List Own) (R:aD->List Own->Value->Prop) (Pp:aD->List Own->Value->Prop),L.sub ks=some Lin/\ks.Nodup/\ko.Nodup/\(∀k,k∈ko->k∈ks\/L.get k=none)/\vS P f args.toArray F Lin R Pp /\
  (∀v F' Lo,F.le F'->ks.length=Lo.length->wS ks L ((L.ZB ks).puts ks Lo)->Pp F' Lo v->PX F' ((L.ZB ks).puts ks Lo) v) /\
  ∀v F' Lo,F.le F'->R F' Lo v->ko.length=Lo.length /\
   (∀k g t cs,k∈ks->L.get k=some (.box g t cs)->∃cs',Loc.get ((L.ZB ks).puts ko Lo) k=some (.box g t cs')) /\
   K F' ((L.ZB ks).puts ko Lo) v
section
variable {P:Program}{F:aD}{L:Loc}{ρ:Env}{a:Act}{w:World}{K:cS}{o:Oper}{Q:Exit->Act->World->Prop}
theorem fD.imp {PX:aD->Loc->Value->Prop}{f:Nat}{args:List Value}{K K':aD->Loc->Value->Prop}(h:fD P PX f args F L K) (q:∀F' L' v,K F' L' v->K' F' L' v):fD P PX f args F L K':=by
 obtain⟨ks,ko,l,R,Pp,m,n,s,j,k,p,d⟩:=h;exact⟨ks,ko,l,R,Pp,m,n,s,j,k,p,fun v F' Lo r e=>let⟨a,b,c⟩:=d v F' Lo r e;⟨a,b,q _ _ _ c⟩⟩
theorem BW {PX:aD->Loc->Value->Prop}{f:Nat}{args:List Value}(hs:St F L w) (he:aG L ρ a) (hd:∀k,o.dst=some k->k<a.tmps.size)
  (hrun:(∃fn,P.funcs[f]?=some fn/\fn.body.isSome=true/\(fn.name == "runtime.NumGoroutine")=false)->(execOp a.eval o).run P w=.ok (.enter f args.toArray) w)
  (hK:fD P PX f args F L fun F' L' v=>K F' L' (put o.dst (.v v) ρ))
  (hQ:∀v ch w' F' L',Dj v ch->St F' L' w'->Step F L w F' L' w'->PX F' L' v->Q (.panic ch) a w'):o.wp P a w (bh F L w a K) Q:=by
 obtain⟨ks,ko,l,R,Pp,hsub,hn,hno,hko,hc,hPX,hK⟩:=hK;unfold Oper.wp;rw[hrun hc.ent];rw[Oper.upon_enter];refine(hc.run w (hs.handed hsub hn)).mono ?_;rintro e w' (⟨v,F',lo,rfl,hs',hst,hR⟩ | ⟨v,ch,F',lo,rfl,hch,hs',hst,hlo,hbx,hp⟩)
 ·obtain⟨hlen,hbox,hK⟩:=hK v F' lo hst.le hR;obtain⟨h1,h2⟩:=jE hs hsub hn hno hko hs' hst hlen;refine⟨F',_,_,h1,he.put hd (x:=.v v) rfl bT dK ?_,lp _ _ _,ic _ _ _,h2,hK⟩;intro k g ty cs e
  by_cases hk:k∈ks
  ·exact hbox k g ty cs hk e
  ·rcases dI ko lo (L.ZB ks) k hno hlen with⟨h1,h2⟩ | ⟨i,h1,h2,h3⟩
   ·rw[h1,fR,vz hk];exact⟨cs,e⟩
   ·rcases hko k (aam h1) with h | h
    ·exact vv h hk
    ·rw[h] at e;cases e
 ·obtain⟨hl,hg⟩:=eW hsub;have hlen:ks.length=lo.length:=by rw[hlo,hl]
  obtain⟨h1,h2⟩:=jE hs hsub hn hn (fun k hk=>.inl hk) hs' hst hlen;refine hQ v ch w' F' _ hch h1 h2 (hPX v _ _ hst.le hlen ?_ hp);intro k g t cs e;rcases dI ks lo (L.ZB ks) k hn hlen with⟨q1,q2⟩ | ⟨i,q1,q2,q3⟩
  ·rw[q1,fR,vz q2];exact⟨cs,e,fun _=>rfl⟩
  ·rw[q2];have:=hg i k q1;rw[e] at this;obtain⟨cs',h⟩:=hbx i g t cs this.symm;exact⟨cs',h,fun h=>vv (aam q1) h⟩
end
section
variable {P:Program}
theorem oE {y:Operand}{s:eP}(h:zb y=some s):∃g,s=.gload g:=by
 cases y with
 | global g =>
  simp only[zb] at h;split at h
  ·injection h with h;exact⟨_,h.symm⟩
  ·cases h
 | tmp n=>cases h
 | const v=>cases h
 | func f=>cases h
theorem HU {own:Bool}{op:Op}{f:Nat}{args:List X}(b:iI P own op=some (.call f args)):∃c,op=.call c/\c.callee=.value (.func f)/\gP c.args.toList=some args:=by
 cases op
 case call c =>
  simp only[iI] at b;split at b
  case h_1=>cases b
  rename_i e d;split at b
  ·rename_i m l;split at b
   case h_2=>cases b
   split at b
   case h_2=>cases b
   injection b with b
   injection b with e1 e2
   subst e1 e2;exact⟨c,rfl,l,d⟩
  all_goals (exfalso;revert b;repeat' split)<;>simp
 all_goals (exfalso;revert b;simp only[iI];repeat' split)<;>first | contradiction | (intro h;obtain⟨k,h⟩:=oE h;cases h;done) | (simp;done) | (rename_i j;obtain⟨k,rfl⟩:=oE j;simp)
theorem F8 {own:Bool}{op:Op}{x:X}{args:List X}(b:iI P own op=some (.callV x args)):∃c,op=.call c/\gP c.args.toList=some args/\((∃y,c.callee=.value y/\bw y=some x)\/∃n nm,c.callee=.invoke (.tmp n) nm/\x=.mt nm n):=by
 cases op
 case call c =>
  simp only[iI] at b;split at b
  case h_1=>cases b
  rename_i e d;split at b
  ·exfalso;revert b;(repeat' split)<;>simp
  ·rename_i y _ f;split at b
   case h_2=>cases b
   rename_i l;injection b with b
   injection b with e1 e2
   subst e1 e2;exact⟨c,rfl,d,.inl ⟨y,f,l⟩⟩
  ·rename_i n nm f;injection b with b
   injection b with e1 e2
   subst e1 e2;exact⟨c,rfl,d,.inr ⟨_,_,f,rfl⟩⟩
  all_goals (exfalso;revert b;repeat' split)<;>simp
 all_goals (exfalso;revert b;simp only[iI];repeat' split)<;>first | contradiction | (intro h;obtain⟨k,h⟩:=oE h;cases h;done) | (simp;done) | (rename_i j;obtain⟨k,rfl⟩:=oE j;simp)
theorem Ll {own:Bool}{op:Op}{x:X}(b:iI P own op=some (.pan x)):∃y,op=.panic y/\bw y=some x:=by
 cases op
 case panic y =>
  simp only[iI] at b;split at b
  case h_2=>cases b
  rename_i d;injection b with b
  injection b with e1
  subst e1;exact⟨y,rfl,d⟩
 all_goals (exfalso;revert b;simp only[iI];repeat' split)<;>first | contradiction | (intro h;obtain⟨k,h⟩:=oE h;cases h;done) | (simp;done) | (rename_i c;obtain⟨k,rfl⟩:=oE c;simp)
end
section
variable {P:Program}{F:aD}{L:Loc}{ρ:Env}{a:Act}{w:World}{K:cS}{o:Oper}{Q:Exit->Act->World->Prop}
theorem vk {PX:aD->Loc->Value->Prop}{own:Bool}{f:Nat}{args:List X}(n:St F L w) (h:aG L ρ a) (p:∀k,o.dst=some k->k<a.tmps.size) (s:iI P own o.op=some (.call f args))
  (m:fD P PX f (bq L ρ args) F L fun F' L' v=>K F' L' (put o.dst (.v v) ρ))
  (t:∀v j w' F' L',Dj v j->St F' L' w'->Step F L w F' L' w'->PX F' L' v->Q (.panic j) a w'):o.wp P a w (bh F L w a K) Q:=by
 refine BW n h p (fun d=>?_) m t;obtain⟨c,l,q,r⟩:=HU s;have e:=fQ r h;have b:c.args.map a.eval=(bq L ρ args).toArray:=by apply Array.ext';simpa using e
 simp[execOp,l,resolve,q,Deferred.ofValue,Act.eval,invoke,b,jO d]
theorem o8 {PX:aD->Loc->Value->Prop}{own:Bool}{f:Nat}{x:X}{fi ca:List Value}{args:List X}(hs:St F L w) (p:aG L ρ a) (hd:∀k,o.dst=some k->k<a.tmps.size) (hl:iI P own o.op=some (.callV x args)) (h:lZ P (ev ρ x)=some (f,fi,ca))
  (hK:fD P PX f (fi++bq L ρ args++ca) F L fun F' L' v=>K F' L' (put o.dst (.v v) ρ))
  (hQ:∀v ch w' F' L',Dj v ch->St F' L' w'->Step F L w F' L' w'->PX F' L' v->Q (.panic ch) a w'):o.wp P a w (bh F L w a K) Q:=by
 refine BW hs p hd (fun l=>?_) hK hQ;obtain⟨c,ho,ha,⟨y,hc,hy⟩ | ⟨n,nm,hc,rfl⟩⟩:=F8 hl
 ·have ey:=aI hy p;have m:=fQ ha p;have d:c.args.map a.eval=(bq L ρ args).toArray:=by apply Array.ext';simpa using m
  have q:∀z,ev ρ x=.v z->a.eval y=z:=fun z e=>by rw[ey,bH e]
  have:=BM (w:=w) (args:=bq L ρ args) h q l;simp only[execOp,ho,resolve,hc,d];exact this
 ·have m:=fQ ha p;have d:c.args.map a.eval=(bq L ρ args).toArray:=by apply Array.ext';simpa using m
  simp only[ev] at h;cases r:ρ n with
  | own k off=>rw[r] at h;cases h
  | el b j=>rw[r] at h;cases h
  | v z =>
   rw[r] at h;have hz:a.eval (.tmp n)=z:=by
    have:=p.eq n;rw[r] at this;exact this
   simp only[QT,lZ] at h;split at h
   case h_2=>cases h
   rename_i t u s;split at h
   case h_2=>cases h
   rename_i f' hm;injection h with h
   injection h with e1 e2
   injection e2 with e2 e3
   subst e1 e2 e3;have ac:z=.iface t u:=by simpa using s
   subst ac;have ab:(#[Value.iface t u]++(bq L ρ args).toArray).extract 1 (#[Value.iface t u]++(bq L ρ args).toArray).size=(bq L ρ args).toArray:=by apply Array.ext';simp
   have h0:(#[Value.iface t u]++(bq L ρ args).toArray)[0]?=some (.iface t u):=by simp
   have:=jP (w:=w) (u:=u) (args:=(bq L ρ args).toArray) hm l;simp only[execOp,ho,resolve,hc,d,hz,Sem.run_bind,Sem.run_pure,Result.andThen_ok,invoke,h0,ab,this];simp
theorem F9 {PX:aD->Loc->Value->Prop}{own:Bool}{x:X}(h:St F L w) (f:aG L ρ a) (k:iI P own o.op=some (.pan x)) {t:TypeId}{u:Value}(l:val L ρ x=.iface t u) (e:PX F L (.iface t u))
  (m:∀v c w' F' L',Dj v c->St F' L' w'->Step F L w F' L' w'->PX F' L' v->Q (.panic c) a w'):o.wp P a w (bh F L w a K) Q:=by
 obtain⟨y,d,j⟩:=Ll k;have n:=aI j f;unfold Oper.wp;have b:(execOp a.eval o).run P w=.halt (.panic (.iface t u)) w:=by
  simp[execOp,d,n,l,Instr.panic,goPanic]
 rw[b];exact m _ _ w F L (Dj.one _) h (Step.refl _ _ _) e
end
structure CallXDPt (P:Program) (PX:aD->Loc->Value->Prop) (fb:List Nat) (f:Nat) (args:List Value) (F:aD) (L:Loc) (K:aD->Loc->Value->Prop):Prop where
 out:∃(ks:List Nat) (Lin:List Own) (R:aD->List Own->Value->Prop) (Pp:aD->List Own->Value->Prop),L.sub ks=some Lin/\ks.Nodup/\(∀k∈ks,k∉fb)/\vS P f args.toArray F Lin R Pp /\
  (∀v F' L' Lo,F.le F'->L'.sub ks=some Lo->wS ks L L'->Pp F' Lo v->PX F' L' v) /\
  ∀v F' Lo,F.le F'->R F' Lo v->ks.length=Lo.length/\(∀(i:Nat) g t cs,Lin[i]?=some (.box g t cs)->∃cs',Lo[i]?=some (.box g t cs')) /\
   (Real F' (L.puts ks Lo)->K F' (L.puts ks Lo) v)
def rI (P:Program) (L:Loc) (ρ:Env):eP->Option (Nat×List Value)
 | .call f args=>some (f,bq L ρ args)
 | .callV f args=>match lZ P (ev ρ f) with
  | some (f,fi,ca)=>some (f,fi++bq L ρ args++ca)
  | none=>none
 | _=>none
def Aw:eP->List Nat
 | .call _ args=>cL args
 | .callV f args=>cL (f::args)
 | _=>[]
def BX:eP->Bool
 | .call _ _=>true
 | .callV _ _=>true
 | _=>false
def br (P:Program) (PX:aD->Loc->Value->Prop) (fb:List Nat):List aA->aD->Loc->Env->cS->Prop
 | [],F,L,ρ,K=>K F L ρ
 | .op d o g::a,F,L,ρ,K=>∃o',res g ρ o=some o'/\evalOp P o' d F L ρ fun F' L' ρ'=>br P PX fb a F' L' ρ' K
 | .frz _::_,_,_,_,_=>False
 | .pc d o g::a,F,L,ρ,K=>match rI P L ρ o,g with
  | some (f,vs),none=>CallXDPt P PX fb f vs F L fun F' L' v=>br P PX fb a F' L' (put d (.v v) ρ) K
  | _,_=>False
def HV:eP->Bool
 | .loadF _ _ _=>true
 | .gload _=>true
 | _=>false
def NE:eP->Bool
 | .mkfn _ _ _=>true
 | _=>false
def QG (o:eP):Bool:=BP o||HV o||NE o
def QW (fb:List Nat):eP->Bool
 | .loadK key _ _ _=>ga fb key
 | _=>false
theorem kM {fb:List Nat}{o:eP}(h:(QG o||QW fb o)=true):dA o=true:=by cases o<;>first | rfl | (exact vv h (by decide)) | (simp[QG,QW,BP,HV,NE] at h)
def tH:aA->Option Nat
 | .op d (.allocD _ _) none=>d
 | _=>none
def yK:aA->Option Nat
 | .op d _ _=>d
 | .frz _=>none
 | .pc d _ _=>d
def gD (fb:List Nat):aA->aA->Bool
 | .op a x c,.op b y d=>lS (.op a x c) (.op b y d)
 | .op a x c,.pc b y none=>BX y&&(QG x||QW fb x)&&sG a (Aw y)&&sG b (looks x c)&&BU a b
 | .pc a x none,.op (some k) (.allocD _ _) none=>BX x&&sG (some k) (Aw x)&&BU a (some k)
 | _,_=>false
def EA:eP->Bool
 | .copyX _ _ _ _=>true
 | _=>false
def S1:aA->Bool
 | .op _ o _=>okD o||EA o
 | .pc _ o none=>BX o
 | _=>false
section
variable {P:Program}{PX:aD->Loc->Value->Prop}{fb:List Nat}{F F':aD}{L L':Loc}{ρ:Env}{K K':cS}
theorem Ga {sv:SV}(hb:kY L L') (b:∀k off,sv=.own k off->∃g t cs,L.get k=some (.box g t cs)):conc L' sv=conc L sv:=by
 cases sv with
 | v x=>rfl
 | el a j=>rfl
 | own k off =>
  obtain⟨g,t,cs,e⟩:=b k off rfl;obtain⟨cs',c⟩:=hb k g t cs e;simp only[conc,e,c]
theorem HW (hb:kY L L') (a:Vd L ρ) (x:X):val L' ρ x=val L ρ x:=Ga hb fun k off e=>a.ev e
theorem sI (hb:kY L L') (a:Vd L ρ) (xs:List X):bq L' ρ xs=bq L ρ xs:=dO fun x _=>HW hb a x
theorem wT {d:Option Nat}{v:SV}{xs:List X}(h:∀k,d=some k->k∉cL xs):bq L (put d v ρ) xs=bq L ρ xs:=dO fun x a=>by simp only[val,gL h x a]
theorem Lm {o:eP}(h:(QG o||QW fb o)=true) (c:∀j∈fb,L'.get j=L.get j) (f:F.le F') (hb:kY L L') (d:Vd L ρ) {V:SV->Prop}(a:aL o F L ρ V):aL o F' L' ρ V:=by
 simp only[QG,aaM] at h;rcases h with((h | h) | h) | h
 rotate_right
 ·cases o<;>first | (cases h;done) | skip
  rename_i key r n x;have q:=c key (cT.1 h);simp only[aL] at a ⊢;split at a
  ·rename_i k off e;split at a
   ·rename_i b;have b:=xo b;subst b;rw[q];exact a
   ·exact a.elim
  ·exact a.elim
 ·exact zo h a
 ·cases o<;>first | (cases h;done) | skip
  ·simp only[aL] at a ⊢;obtain⟨u,t,l,m,p⟩:=a;exact⟨u,t,l,f _ _ m,p⟩
  ·simp only[aL] at a ⊢;split at a
   ·exact a.up f
   ·exact a.up f
   ·exact a.elim
 ·cases o<;>first | (cases h;done) | skip
  simp only[aL,sI hb d] at a ⊢;exact a
theorem kY.vd (hb:kY L L') (a:Vd L ρ):Vd L' ρ:=fun t k off e=>let⟨g,ty,cs,h⟩:=a t k off e;let⟨cs',h'⟩:=hb k g ty cs h;⟨g,ty,cs',h'⟩
theorem Vd.aad (a:Vd L ρ) (d:Option Nat) (v:Value):Vd L (put d (.v v) ρ):=by
 intro t k off e;rw[put_eq] at e;cases d with
 | none=>exact a t k off e
 | some j =>
  simp only[] at e;split at e
  ·cases e
  ·exact a t k off e
theorem uG {ks:List Nat}{Lin Lo:List Own}(d:L.sub ks=some Lin) (f:ks.Nodup) (a:ks.length=Lo.length) (h:∀(i:Nat) g t cs,Lin[i]?=some (.box g t cs)->∃cs',Lo[i]?=some (.box g t cs')) :
  kY L (L.puts ks Lo)/\(∀j,L.get j=none->(L.puts ks Lo).get j=none)/\∀j,j∉ks->(L.puts ks Lo).get j=L.get j:=by
 obtain⟨p,m⟩:=eW d;refine⟨fun k g t cs e=>?_,fun j e=>?_,fun j n=>?_⟩
 ·rcases dI ks Lo L k f a with⟨b,c⟩ | ⟨i,b,c,l⟩
  ·rw[b];exact⟨cs,e⟩
  ·rw[c];have:=m i k b;rw[e] at this;exact h i g t cs this.symm
 ·rcases dI ks Lo L j f a with⟨b,c⟩ | ⟨i,b,c,l⟩
  ·rw[b];exact e
  ·have:=m i j b;rw[e] at this;have o:=aa4.1 this.symm;omega
 ·rcases dI ks Lo L j f a with⟨b,c⟩ | ⟨i,b,c,l⟩
  ·exact b
  ·exact vv (aam b) n
theorem CallXDPt.imp {f:Nat}{args:List Value}{K K':aD->Loc->Value->Prop}(h:CallXDPt P PX fb f args F L K)
  (t:∀F' L' v,F.le F'->kY L L'->(∀j,L.get j=none->L'.get j=none)->(∀j∈fb,L'.get j=L.get j)->Real F' L'->K F' L' v->K' F' L' v):CallXDPt P PX fb f args F L K':=by
 obtain⟨ks,l,R,Pp,e,m,d,u,q,r⟩:=h;refine⟨ks,l,R,Pp,e,m,d,u,q,fun v F' Lo n p=>?_⟩;obtain⟨a,b,c⟩:=r v F' Lo n p;obtain⟨s,x,o⟩:=uG e m a b;exact⟨a,b,fun k=>t _ _ _ n s x (fun j w=>o j fun h=>d j h w) k (c k)⟩
theorem ji {d:Option Nat}{o:eP}{g:Option (Nat×Bool)}{a:List aA} :
  br P PX fb (.op d o g::a) F L ρ K↔∃o',res g ρ o=some o'/\evalOp P o' d F L ρ (fun F1 L1 b=>br P PX fb a F1 L1 b K):=Iff.rfl
theorem rS:∀(ks:List Nat) (Lo:List Own) (L:Loc) {k:Nat}{o:Own},k∉ks->(L.set k o).puts ks Lo=(L.puts ks Lo).set k o
 | [],Lo,L,k,o,_=>by cases Lo<;>rfl
 | j::ks,[],L,k,o,_=>rfl
 | j::ks,p::Lo,L,k,o,h=>by
  simp only[Loc.puts];rw[set_comm L o p (fun e=>h (by simp[e])),rS ks Lo (L.set j p) (fun a=>h (by simp[a]))]
theorem EC:∀{ks:List Nat}{L:Loc}{k:Nat}{o:Own},k∉ks->(L.set k o).sub ks=L.sub ks
 | [],L,k,o,_=>rfl
 | j::ks,L,k,o,h=>by
  simp only[Loc.sub];rw[cC (fun e=>h (by simp[e])),EC (fun a=>h (by simp[a]))]
theorem O3 {s r:Option Nat}{x y:eP}{gx gy:Option (Nat×Bool)}{b:List aA}(hp:lS (.op s x gx) (.op r y gy)=true) (hr:Real F L) (t:Vd L ρ) (h:br P PX fb (.op s x gx::.op r y gy::b) F L ρ K):br P PX fb (.op r y gy::.op s x gx::b) F L ρ K:=by
  simp only[lS,aaj] at hp;obtain⟨⟨⟨⟨⟨al,c⟩,hc⟩,z⟩,h2⟩,h3⟩:=hp;have z:=kK z;have h2:=kK h2;have h3:=oC h3;have ap:∀k,r=some k->s≠some k:=fun k e e'=>h3 k e' e;rw[ji] at h;obtain⟨w,q,h⟩:=h;have j:okD iM=true:=rfl;have n:okD w=true:=by rcases dG q with rfl | rfl;exact al;exact j
  have hy:∃p,res gy ρ y=some p:=by
   obtain⟨v,F1,L1,d⟩:=ve n hr h;rw[ji] at d;obtain⟨p,a,_⟩:=d;rw[oW z] at a;exact⟨p,a⟩
  obtain⟨p,a⟩:=hy;have aa:okD p=true:=by rcases dG a with rfl | rfl;exact c;exact j
  have hA:evalOp P w s F L ρ (fun F1 L1 o=>evalOp P p r F1 L1 o (fun F2 L2 m=>br P PX fb b F2 L2 m K)):=by
   refine jT n hr t h ?_;rintro F1 L1 o ⟨v,rfl⟩ _ _ _ d;rw[ji] at d;obtain⟨aw,f,d⟩:=d;rw[oW z,a] at f;injection f with f
   subst f;exact d
  have lx:∀k,r=some k->k∉cL (bI w):=by
   intro k e d;rcases dG q with rfl | rfl
   ·exact h2 k e (oD d)
   ·simp[iM,bI,cL] at d
  have ly:∀k,s=some k->k∉cL (bI p):=by
   intro k e d;rcases dG a with rfl | rfl
   ·exact z k e (oD d)
   ·simp[iM,bI,cL] at d
  have hB:evalOp P p r F L ρ (fun F1 L1 o=>evalOp P w s F1 L1 o (fun F2 L2 m=>br P PX fb b F2 L2 m K)):=by
   by_cases l:p=iM
   ·subst l;simp only[iM,evalOp,aL,ev];exact wQ (K:=fun F2 L2 m=>br P PX fb b F2 L2 m K) (u:=.v undef) n lx h3 hA
   ·have ey:p=y:=by rcases dG a with h | h;exact h;exact vv h l
    subst ey;refine HO hr ?_ ly lx h3 t hA;rcases dG q with rfl | rfl
    ·exact hc
    ·simp only[okD,aaM] at c;rcases c with c | c
     ·simp only[wR,c,abf,aaM];exact .inl (.inl (.inl (.inl (.inl rfl))))
     ·simp only[wR,c,abf,aaM];exact .inl (.inr rfl)
  rw[ji];refine⟨p,a,jT aa hr t hB ?_⟩;rintro F1 L1 o ⟨v,rfl⟩ _ _ _ d;rw[ji];exact⟨w,by rw[oW h2];exact q,d⟩
theorem Dz {f:X}{args:List X}{k:Nat}(h:k∈cL args):k∈cL (f::args):=by
 cases f<;>simp[cL,h]
theorem BZ {d:Option Nat}{v:SV}{o:eP}(h:∀k,d=some k->k∉Aw o):rI P L (put d v ρ) o=rI P L ρ o:=by
 cases o<;>try rfl
 ·rename_i f args;simp only[rI,wT h]
 ·rename_i f args;have c:∀k,d=some k->k∉cL args:=fun k e b=>h k e (Dz b);have a:ev (put d v ρ) f=ev ρ f:=gL h f (by simp);simp only[rI,wT c,a]
theorem Gb (hb:kY L L') (a:Vd L ρ) (o:eP):rI P L' ρ o=rI P L ρ o:=by
 cases o<;>try rfl
 ·simp only[rI,sI hb a]
 ·simp only[rI,sI hb a]
theorem O4 {j d:Option Nat}{x y:eP}{t:Option (Nat×Bool)}{b:List aA}(hp:gD fb (.op j x t) (.pc d y none)=true) (hr:Real F L) (z:Vd L ρ)
  (h:br P PX fb (.op j x t::.pc d y none::b) F L ρ K):br P PX fb (.pc d y none::.op j x t::b) F L ρ K:=by
 simp only[gD,aaj] at hp;obtain⟨⟨⟨⟨_,w⟩,s⟩,m⟩,n⟩:=hp;have s:=kK s;have m:=kK m;have n:=oC n;have ad:∀k,d=some k->j≠some k:=fun k e e'=>n k e' e;obtain⟨l,c,h⟩:=h;have a:(QG l||QW fb l)=true:=by rcases dG c with rfl | rfl;exact w;rfl
 rw[cI (kM a)] at h;obtain⟨v,hT,f⟩:=(fS (kM a)).ex _ h;simp only[br,BZ s] at f ⊢;split at f
 case h_2=>exact f.elim
 refine f.imp fun F' L' u q aa _ r ac o=>⟨l,by rw[oW m];exact c,?_⟩;rw[cI (kM a)];have lx:∀k,d=some k->k∉cL (bI l):=by
  intro k e o;rcases dG c with rfl | rfl
  ·exact m k e (oD o)
  ·simp[iM,bI,cL] at o
 have p:=rj (kM a) (aD.le_refl F') (uE (L:=L') (ρ:=ρ) (v:=.v u) lx) (Lm a r q aa z hT);refine(fS (kM a)).mono _ _ (fun v' e=>?_) p;subst e;rw[put_comm n];exact o
theorem O5 {y:Option Nat}{k:Nat}{t:TypeId}{zs:List Value}{x:eP}{n:List aA}(hp:gD fb (.pc y x none) (.op (some k) (.allocD t zs) none)=true) (p:L.get k=none) (hr:Real F L) (ab:Vd L ρ)
  (h:br P PX fb (.pc y x none::.op (some k) (.allocD t zs) none::n) F L ρ K):br P PX fb (.op (some k) (.allocD t zs) none::.pc y x none::n) F L ρ K:=by
 simp only[gD,aaj] at hp;have h1:=kK hp.1.2;have h3:=oC hp.2;simp only[br,res,yo,exists_eq_left',evalOp,p] at h ⊢;intro g am;split at h
 case h_2=>exact h.elim
 rename_i _ _ f vs z _;obtain⟨ks,l,R,Pp,e1,e2,e0,e3,e4,e5⟩:=h;have u:k∉ks:=by
  intro u;obtain⟨hl,hg⟩:=eW e1;obtain⟨i,hi⟩:=List.getElem?_of_mem u;have:=hg i k hi;rw[p] at this;have h5:=(aai.1 hi).1;have h6:=aa4.1 this.symm;omega
 have o:kY L (L.set k (.box g t zs)):=fun j s r cs e=>⟨cs,Keeps.new p j s r cs e⟩;have ea:rI P (L.set k (.box g t zs)) (put (some k) (.own k 0) ρ) x=some (f,vs):=by
  rw[BZ h1,Gb o ab,z]
 rw[ea];refine⟨ks,l,R,Pp,by rw[EC u];exact e1,e2,e0,e3,fun v F0 L' Lo hF w hb=>e4 v F0 L' Lo hF w fun j s r cs e=>hb j s r cs (Keeps.new p j s r cs e),fun v F' Lo hF hR=>?_⟩;obtain⟨a,b,c⟩:=e5 v F' Lo hF hR;refine⟨a,b,fun m=>?_⟩;rw[rS ks Lo L u] at m ⊢;obtain⟨k1,k2,_⟩:=uG e1 e2 a b;have q:=k2 k p;have c:=c (m.down (aD.le_refl _) m.glob (HN q));simp only[q] at c;rw[<-put_comm (d:=some k) (fun j e e'=>h3 j e' e)];exact c g m
theorem Gc {x y:aA}{a:List aA}(c:gD fb x y=true) (e:∀k,tH y=some k->L.get k=none) (d:Real F L) (b:Vd L ρ) (h:br P PX fb (x::y::a) F L ρ K):br P PX fb (y::x::a) F L ρ K:=by
 unfold gD at c;split at c
 ·exact O3 c d b h
 ·exact O4 c d b h
 ·exact O5 c (e _ rfl) d b h
 ·cases c
theorem B0 {y:aA}{k:Nat}(h:tH y=some k):yK y=some k:=by
 unfold tH at h;split at h
 ·exact h
 ·cases h
theorem HX {x y:aA}(a:gD fb x y=true) {k:Nat}(h:tH y=some k):yK x≠some k:=by
 have b:=B0 h;unfold gD at a;split at a
 ·simp only[lS,aaj] at a;intro e;exact oC a.2 k e b
 ·simp[tH] at h
 ·simp only[aaj] at a;intro e;exact oC a.2 k e b
 ·cases a
theorem HY {h:Option Nat}{x:eP}{f:Option (Nat×Bool)}{y:aA}(a:gD fb (.op h x f) y=true):okD x=true:=by
 cases y with
 | frz k=>cases a
 | op c y d=>simp only[gD,lS,aaj] at a;exact a.1.1.1.1.1
 | pc c y d =>
  unfold gD at a;split at a
  ·rename_i e;cases e
  ·rename_i b j;injection b with q1 q2 q3
   subst q2;simp only[aaj] at a;have:=kM a.1.1.1.2;simp[okD,Dx,this]
  ·rename_i e _;cases e
  ·cases a
def QX:aA->Bool
 | .op _ o _=>okD o
 | .pc _ o none=>BX o
 | _=>false
theorem Gd {x y:aA}(a:gD fb x y=true):QX x=true:=by
 cases x with
 | op d o g=>exact HY a
 | frz k=>cases y<;>cases a
 | pc d o g =>
  cases g with
  | none =>
   cases y with
   | op c y b =>
    cases c with
    | none=>cases y<;>cases b<;>cases a
    | some k =>
     cases b with
     | some q=>cases y<;>cases a
     | none =>
      cases y<;>first
       | (cases a;done)
       | (simp only[gD,aaj] at a;exact a.1.1)
   | frz k=>cases a
   | pc c y b=>cases b<;>cases a
  | some q=>cases y<;>cases a
theorem yL {x:aA}{c a:List aA}(u:QX x=true) (y:Real F L) (m:Vd L ρ) (h:br P PX fb (x::c) F L ρ K)
  (t:∀F1 L1 b,F.le F1->Real F1 L1->Vd L1 b->(∀j,yK x≠some j->L.get j=none->L1.get j=none)->br P PX fb c F1 L1 b K->br P PX fb a F1 L1 b K):br P PX fb (x::a) F L ρ K:=by
 cases x with
 | frz k=>cases u
 | op d o g =>
  obtain⟨o',l,h⟩:=h;have q:okD o'=true:=by rcases dG l with rfl | rfl;exact u;rfl
  exact⟨o',l,kX q y m h fun F1 L1 b _ r s n p z=>t F1 L1 b r s n p z⟩
 | pc d o g =>
  unfold br at h ⊢;split at h
  ·rename_i f args;refine h.imp fun F' L' v w r s _ n p=>t _ _ _ w n ((r.vd m).aad d v) (fun j _ e=>s j e) p
  ·exact h.elim
theorem wU {y:aA}{s:List aA}:∀(p:List aA),(∀x∈p,gD fb x y=true)->∀{F:aD}{L:Loc}{ρ:Env},(∀k,tH y=some k->L.get k=none)->Real F L->Vd L ρ->br P PX fb (p++y::s) F L ρ K->br P PX fb (y::(p++s)) F L ρ K
 | [],_,F,L,ρ,_,_,_,h=>h
 | x::p,c,F,L,ρ,j,l,b,h=>by
  refine Gc (c x (by simp)) j l b ?_;refine yL (Gd (c x (by simp))) l b h fun F1 L1 n _ f a d o=>?_;exact wU p (fun z m=>c z (by simp[m])) (fun k e=>d k (HX (c x (by simp)) e) (j k e)) f a o
end
section
variable {P:Program}{PX:aD->Loc->Value->Prop}{fb:List Nat}{K:cS}{Q:Exit->Act->World->Prop}{ops:Array Oper}
theorem zy {ks:List Nat}(b:ks.Nodup) {i j:Nat}{hi:i<ks.length}{c:j<ks.length}(h:ks[i]=ks[j]):i=j:=by
 rw[List.nodup_iff_pairwise_ne,List.pairwise_iff_getElem] at b;rcases Nat.lt_trichotomy i j with a | d | a
 ·exact vv h (b i j hi c a)
 ·exact d
 ·exact vv h.symm (b j i c hi a)
theorem mK {L:Loc}{ks:List Nat}{Lo:List Own}(h:ks.Nodup) (a:ks.length=Lo.length):((L.ZB ks).puts ks Lo).sameAs (L.puts ks Lo):=by
 intro j;rcases dI ks Lo L j h a with⟨c,d⟩ | ⟨i,c,d,o⟩<;>rcases dI ks Lo (L.ZB ks) j h a with⟨b,k⟩ | ⟨n,b,k,p⟩
 ·rw[c,b,fR,vz d]
 ·exact vv (aam b) d
 ·exact vv (aam c) k
 ·have:i=n:=by
   have m:=(aai.1 c);have l:=(aai.1 b);obtain⟨m,f⟩:=m;obtain⟨l,e⟩:=l;exact zy h (f.trans e.symm)
  subst this;rw[d,k]
theorem wV:∀{ks:List Nat}{L:Loc}{Lo:List Own},ks.length=Lo.length->(∀(i:Nat) k,ks[i]?=some k->L.get k=Lo[i]?)->L.sub ks=some Lo
 | [],L,[],_,_=>rfl
 | [],L,_::_,h,_=>by simp at h
 | _::_,L,[],h,_=>by simp at h
 | k::ks,L,o::Lo,h,b=>by
  have a:=b 0 k rfl;have c:L.sub ks=some Lo:=wV (by simpa using h) fun i j e=>by
   have:=b (i+1) j (by rw[aaY];exact e);rw[aaY] at this;exact this
  have a:L.get k=some o:=a;simp only[Loc.sub,a,c]
theorem HZ {L:Loc}{ks:List Nat}{Lo:List Own}(h:ks.Nodup) (a:ks.length=Lo.length):(L.puts ks Lo).sub ks=some Lo:=by
 refine wV a fun i k e=>?_;rcases dI ks Lo L k h a with⟨f,d⟩ | ⟨j,f,d,l⟩
 ·exact vv (aam e) d
 ·have hi:=aai.1 e;have m:=aai.1 f;obtain⟨o,c⟩:=hi;obtain⟨n,b⟩:=m;have:i=j:=zy h (c.trans b.symm);subst this;rw[d,aag l]
theorem CallXDPt.toX {f:Nat}{args:List Value}{F:aD}{L:Loc}{K:aD->Loc->Value->Prop}(h:CallXDPt P PX fb f args F L K):fD P PX f args F L fun F' L' v=>∃L2,L'.sameAs L2/\(Real F' L2->K F' L2 v):=by
 obtain⟨ks,l,R,Pp,n,d,x,u,p,q⟩:=h;refine⟨ks,ks,l,R,Pp,n,d,d,fun k w=>.inl w,u,fun v F' Lo m j hb s=>p v F' _ Lo m (HZ d j) hb s,fun v F' Lo m o=>?_⟩;obtain⟨a,b,c⟩:=q v F' Lo m o;obtain⟨r,y,_⟩:=uG n d a b;refine⟨a,fun k g t cs _ e=>?_,_,mK d a,c⟩;rw[<-mK d a];exact r k g t cs e
theorem B6 {own:Bool}{o:Oper}{s:eP}{f:Nat}{vs:List Value}{F:aD}{L:Loc}{ρ:Env}{a:Act}{w:World}{K:cS}(h:St F L w) (d:aG L ρ a) (j:∀k,o.dst=some k->k<a.tmps.size) (l:iI P own o.op=some s) (b:rI P L ρ s=some (f,vs))
  (c:fD P PX f vs F L fun F' L' v=>K F' L' (put o.dst (.v v) ρ))
  (m:∀v e w' F' L',Dj v e->St F' L' w'->Step F L w F' L' w'->PX F' L' v->Q (.panic e) a w'):o.wp P a w (bh F L w a K) Q:=by
 cases s with
 | call n args =>
  simp only[rI,yo,Prod.mk.injEq] at b;obtain⟨rfl,rfl⟩:=b;exact vk h d j l c m
 | callV x args =>
  simp only[rI] at b;split at b
  case h_2=>cases b
  rename_i n fi ca p;simp only[yo,Prod.mk.injEq] at b;obtain⟨rfl,rfl⟩:=b;exact o8 h d j l p c m
 | _=>cases b
theorem Ca {o:eP}(t:EA o=true) {d:Option Nat}{F:aD}{L:Loc}{ρ:Env}{K:cS}(h:evalOp P o d F L ρ K):evalOp P o d F L ρ fun F' L' ρ'=>(∀j,d≠some j->L.get j=none->L'.get j=none)/\K F' L' ρ':=by
 cases o<;>simp only[EA,aaq] at t;rename_i e sz dd x;simp only[evalOp] at h ⊢;generalize ev ρ dd=z1 at h ⊢;generalize ev ρ x=z2 at h ⊢;split at h
 ·obtain⟨⟨k,n,v,z,xs,ad,cr,f,j,m,a,c,news,b,p,q,u,w,h6,s,h8,l⟩ | ⟨y,n,f,a,m,c,b,p,q,l⟩⟩:=h
  ·refine⟨.inl ⟨k,n,v,z,xs,ad,cr,f,j,m,a,c,news,b,p,q,u,w,h6,s,h8,fun r=>⟨fun i _ hi=>?_,l r⟩⟩⟩;rw[Loc.Zz];split
   ·rename_i e;subst e;rw[b] at hi;cases hi
   ·exact hi
  ·exact⟨.inr ⟨y,n,f,a,m,c,b,p,q,fun r=>⟨fun i _ hi=>hi,l r⟩⟩⟩
 ·exact h.elim
theorem Ge {A:cH}{i:Nat}{s:aA}{l:List aA}{F:aD}{L:Loc}{ρ:Env}{a:Act}{w:World}{KK:Act->World->Prop}(hi:i<ops.size) (c:Aq P A ops i=some s) (m:S1 s=true) (hs:St F L w) (he:aG L ρ a) (hn:a.tmps.size=A.n)
  (y:br P PX fb (s::l) F L ρ K)
  (hQ:∀q w' F' L' ρ',St F' L' w'->aG L' ρ' q->q.tmps.size=A.n->q.defers=a.defers->Step F L w F' L' w'->(∀j,((ops[i]?).bind (·.dst))≠some j->q.tmps.getD j undef=a.tmps.getD j undef) ->
   (∀j,yK s≠some j->L.get j=none->L'.get j=none)->br P PX fb l F' L' ρ' K->KK q w')
  (hP:∀v ch w' F' L',Dj v ch->St F' L' w'->Step F L w F' L' w'->PX F' L' v->Q (.panic ch) a w') :
  wpOp P ops Q i KK a w:=by
 cases s with
 | frz k=>cases m
 | op d o g =>
  obtain⟨o',t,h⟩:=y;have h2:aY P [.op d o g] F L ρ (fun F' L' ρ'=>(∀j,d≠some j->L.get j=none->L'.get j=none)/\br P PX fb l F' L' ρ' K):=by
   refine gC.2 ⟨o',t,?_⟩;have m:(okD o||EA o)=true:=m;rw[aaM] at m;rcases m with m | m
   ·have ao:okD o'=true:=by rcases dG t with rfl | rfl;exact m;rfl
    exact kX ao ⟨w,hs⟩ he.vd h fun F1 L1 al _ _ _ _ u h6=>⟨u,h6⟩
   ·rcases dG t with rfl | rfl
    ·exact Ca m h
    ·exact kX rfl ⟨w,hs⟩ he.vd h fun F1 L1 al _ _ _ _ u h6=>⟨u,h6⟩
  exact BV hi c hs he hn h2 fun q w' F' L' ρ' g1 g2 g3 g4 g5 x g7=>hQ q w' F' L' ρ' g1 g2 g3 g4 g5 x g7.1 g7.2
 | pc d o g =>
  unfold br at y;split at y
  case h_2=>exact y.elim
  rename_i f vs ax;unfold Aq at c;split at c
  case h_1=>cases c
  rename_i o z;split at c
  case h_2=>cases c
  rename_i g s0 hg ae r;rename_i o0 _ _ _ _ _ _;have aE:o.dst=d/\s0=o0/\g=none:=by
   split at c
   ·split at c
    ·injection c with c
     injection c with q1 q2 q3
     exact⟨q1,q2,rfl⟩
    ·injection c with c
     injection c with q1 q2 q3
     exact⟨q1,q2,rfl⟩
    ·cases c
   ·split at c
    ·split at c
     ·cases c
     ·cases c
    ·split at c
     ·split at c<;>cases c
     ·cases c
  obtain⟨rfl,rfl,rfl⟩:=aE;have hd:∀k,o.dst=some k->k<a.tmps.size:=by
   intro k hk;rw[hk] at r;rw[hn];have h2:Nat.blt k A.n=true:=r;simpa using h2
  have az:(ops[i]?).bind (·.dst)=o.dst:=by rw[z];rfl
  rw[az] at hQ;simp only[wpOp,z];have bc:o.guard=none:=by
   cases e:o.guard with
   | none=>rfl
   | some p=>obtain⟨j,b⟩:=p;rw[e] at hg;simp only[iK] at hg;split at hg<;>cases hg
  rw[o6 (by simp[Region.wanted,bc])];refine .inl ?_;have an:=y.imp (K':=fun F' L' v=>(∀j,L.get j=none->L'.get j=none)/\br P PX fb l F' L' (put o.dst (.v v) ρ) K) fun F' L' v _ _ h3 _ _ u=>⟨h3,u⟩;have:=B6 (K:=fun F' L' ρ'=>∃L2,L'.sameAs L2/\(Real F' L2->(∀j,L.get j=none->L2.get j=none)/\br P PX fb l F' L2 ρ' K)) hs he hd ae ax an.toX hP;refine Oper.wp_mono ?_ (qo (asg:=[]) this);rintro q w' ⟨⟨F',L',ρ',g1,g2,g3,g4,g5,L2,x,g7⟩,ap⟩;have s1:St F' L2 w':=g1.part fun k o e=>by rw[<-x k];exact e
  obtain⟨g8,g9⟩:=g7 ⟨w',s1⟩;exact hQ q w' F' L2 ρ' s1 (g2.same x) (by rw[g3,hn]) g4 (g5.Z5 x) ap (fun j _ e=>g8 j e) g9
def mT (fb:List Nat) (a:List (List Nat)):List (Nat×aA)->Bool
 | []=>true
 | (x,b)::l=>l.all (fun p=>gD fb b p.2||ga (Ar a p.1) x)&&mT fb a l
def DA (ss:List aA):List Nat:=ss.filterMap yK
def Ay (ss:List aA):List Nat:=ss.filterMap fun s=>match s with | .op _ (.loadK key _ _ _) _=>some key | _=>none
def Az (P:Program) (ops:Array Oper) (is:List Nat) (a:List (List Nat)) (ss:List aA):Bool :=
 P.follows .mixedOrders&&HT ops a&&bJ is&&Nat.beq is.length ops.size&&is.all (fun i=>Nat.blt i ops.size)&&(List.range ops.size).all (ga is)&&mT (Ay ss) a (is.zip ss)&&ss.all S1&&bJ (DA ss)
theorem tI {d:List (List Nat)}:∀{p q:List (Nat×aA)}{y:Nat×aA},mT fb d (p++y::q)=true->mT fb d (p++q)=true/\∀x∈p,gD fb x.2 y.2=true\/x.1∈Ar d y.1
 | [],q,y,h=>by
  obtain⟨m,o⟩:=y;simp only[aaP,mT,aaj] at h ⊢;exact⟨h.2,fun x b=>by cases b⟩
 | (n,l)::p,q,y,h=>by
  simp only[aay,mT,aaj] at h ⊢;obtain⟨f,j⟩:=h;obtain⟨k,e⟩:=tI j;have c:=aas.1 f;refine⟨⟨aas.2 fun z a=>c z ?_,k⟩,fun x b=>?_⟩
  ·rcases aah.1 a with a | a
   ·exact aah.2 (.inl a)
   ·exact aah.2 (.inr (aaH _ a))
  ·rcases aal.1 b with rfl | b
   ·have:=c y (aah.2 (.inr (by simp)));simp only[aaM] at this;rcases this with h | h
    ·exact .inl h
    ·exact .inr (cT.1 h)
   ·exact e x b
theorem Lp {p q:List aA}{y:aA}(h:(DA (p++y::q)).Nodup):(DA (p++q)).Nodup/\∀k,yK y=some k->∀z∈p++q,tH z≠some k:=by
 have e:DA (p++y::q)=DA p++((yK y).toList++DA q):=by
  unfold DA;rw[List.filterMap_append,List.filterMap_cons];cases yK y<;>rfl
 rw[e] at h;have c:(DA p++DA q).Nodup:=by
  refine List.Sublist.nodup ?_ h;exact List.Sublist.append (List.Sublist.refl _) (List.sublist_append_right _ _)
 refine⟨by unfold DA at c ⊢;rw[List.filterMap_append];exact c,fun k f z a j=>?_⟩;have b:=B0 j;rw[f] at h;have d:k∉DA p++DA q:=by
  have:(DA p++k::DA q).Nodup:=h;have:=(List.perm_middle.nodup_iff).1 this;rw[List.nodup_cons] at this;exact this.1
 apply d;rcases aah.1 a with a | a
 ·exact aah.2 (.inl (List.mem_filterMap.2 ⟨z,a,b⟩))
 ·exact aah.2 (.inr (List.mem_filterMap.2 ⟨z,a,b⟩))
theorem H6 {A:cH}{i:Nat}{s:aA}(a:Aq P A ops i=some s):(ops[i]?).bind (·.dst)=yK s:=by
 unfold Aq at a;split at a
 case h_1=>cases a
 rename_i o b;rw[b];split at a
 case h_2=>cases a
 split at a
 ·split at a
  ·injection a with a;subst a;rfl
  ·injection a with a;subst a;rfl
  ·cases a
 ·split at a
  ·split at a
   ·injection a with a;subst a;rfl
   ·cases a
  ·split at a
   ·split at a
    ·injection a with a;subst a;rfl
    ·cases a
   ·cases a
theorem DC {A:cH}{cl:List (List Nat)}(bp:HT ops cl=true):∀(fuel:Nat) (l:List Nat) (ss:List aA) (b:Array Bool) (F:aD) (L:Loc) (ρ:Env) (a:Act) (w:World),
  fC P A ops l=some ss->b.size=ops.size->l.Nodup->(∀i,i∈l↔i<ops.size/\b.getD i true=false)->l.length<=fuel->mT fb cl (l.zip ss)=true ->
  (∀i,i<ops.size->b.getD i true=true->∀z∈direct ops i,b.getD z true=true) ->
  (∀s∈ss,S1 s=true)->(DA ss).Nodup->(∀s∈ss,∀k,tH s=some k->L.get k=none) ->
  St F L w->aG L ρ a->a.tmps.size=A.n->br P PX fb ss F L ρ K ->
  (∀a' w',eY A.n F L w a (dstsOf ops (List.range ops.size)) K a' w'->Q .normal a' w') ->
  (∀v ch a' w' F' L',Dj v ch->St F' L' w'->Step F L w F' L' w'->a'.tmps.size=A.n->a'.defers=a.defers->(∀j,j∉dstsOf ops (List.range ops.size)->a'.tmps.getD j undef=a.tmps.getD j undef)->PX F' L' v->Q (.panic ch) a' w')->wpAny P .any ops Q fuel b a w:=by
 have m:∀y z,y<ops.size->z∈direct ops y->z<y:=by
  intro y z hy r;have h:=aas.1 bp y (List.mem_range.2 hy);simp only[Av,aaj] at h;have h3:Nat.blt z y=true:=aas.1 h.1 z r;simpa using h3
 intro fuel
 induction fuel with
 | zero =>
  intro l ss b F L ρ a w hl av bl f ad hp c ap bk ar hs he hn hK hQ hP;have:l=[]:=aaG (by omega);subst this;simp only[fC,yo] at hl;subst hl;refine⟨?_,hQ a w ⟨F,L,ρ,hs,he,hn,rfl,Step.refl _ _ _,fun _ _=>rfl,hK⟩⟩;apply List.eq_nil_iff_forall_not_mem.2;intro i hi;rw[mem_ready] at hi;obtain⟨h1,o,h2,_⟩:=hi;have:=(f i).2 ⟨(Array.getElem?_eq_some_iff.1 h2).1,h1⟩;cases this
 | succ fuel ih =>
  intro l ss b F L ρ a w hl av bl f ad hp c ap bk ar hs he hn hK hQ hP;refine⟨fun hr=>?_,fun y hy=>?_⟩
  ·have:l=[]:=by
    refine Classical.byContradiction fun t=>?_;obtain⟨y,h1,h2⟩:=min_mem t;obtain⟨h3,h4⟩:=(f y).1 h1;have ac:y∈Region.ready .any ops b:=by
     rw[mem_ready];refine⟨h4,ops[y],Array.getElem?_eq_getElem h3,fun e aE ax=>?_⟩;have r:e.on∈direct ops y:=(o7 (Array.getElem?_eq_getElem h3)).2 ⟨e,aE,ax,rfl⟩;have ci:=m y e.on h3 r;rw[tG (by omega) false true];cases hd:b.getD e.on true with
     | true=>rfl
     | false =>
      have:=h2 e.on ((f e.on).2 ⟨by omega,hd⟩);omega
    rw[hr] at ac;cases ac
   subst this;simp only[fC,yo] at hl;subst hl;exact hQ a w ⟨F,L,ρ,hs,he,hn,rfl,Step.refl _ _ _,fun _ _=>rfl,hK⟩
  ·rw[mem_ready] at hy;obtain⟨h1,o,ho,ba⟩:=hy;have d:=(Array.getElem?_eq_some_iff.1 ho).1;have az:=(f y).2 ⟨d,h1⟩;obtain⟨p,q,rfl⟩:=List.append_of_mem az;obtain⟨dE,cc⟩:=qq hl;obtain⟨sp,sy,sq,rfl,ae,bx,dg⟩:=cc p q y rfl;have bt:(p++y::q).zip (sp++sy::sq)=p.zip sp++(y,sy)::q.zip sq:=by
    rw[List.zip_append ae.symm];rfl
   rw[bt] at hp;obtain⟨df,cw⟩:=tI hp;have ag:∀z∈direct ops y,b.getD z true=true:=by
    intro z r;have ci:=m y z d r;obtain⟨e,aE,ax,rfl⟩:=(o7 ho).1 r;rw[tG (by omega) true false];exact ba e aE ax
   have ab:∀sx∈sp,gD fb sx sy=true:=by
    intro sx cy;obtain⟨k,hk⟩:=List.getElem?_of_mem cy;have du:=(aai.1 hk).1;have ca:p[k]?=some (p[k]'(by omega)):=aag (by omega);have hm:(p[k]'(by omega),sx)∈p.zip sp:=aam (i:=k) (by rw[List.getElem?_zip_eq_some];exact⟨ca,hk⟩);rcases cw _ hm with h | h
    ·exact h
    ·exfalso;have hd:=vg bp (done:=fun z=>b.getD z true=true) c y d ag _ h;have cr:p[k]'(by omega)∈p++y::q:=aah.2 (.inl (aam ca));have:=((f _).1 cr).2;simp only at hd;rw[hd] at this;cases this
   have dd:=wU sp ab (fun k e=>ar sy (by simp) k e) ⟨w,hs⟩ he.vd hK;obtain⟨bo,da⟩:=Lp bk;have dB:(ops[y]?).bind (·.dst)=yK sy:=H6 bx;refine Ge d bx (ap sy (by simp)) hs he hn dd ?_ (fun v ch w' F' L' hc h1 h2 h3=>hP v ch a w' F' L' hc h1 h2 hn rfl (fun _ _=>rfl) h3);intro a' w' F' L' ρ' g1 g2 g3 g4 g5 g6 g8 g7;have am:(p++q).Nodup/\y∉p++q:=by
    have:=(List.perm_middle.nodup_iff).1 bl;rw[List.nodup_cons] at this;exact⟨this.2,this.1⟩
   have an:∀i,(b.setIfInBounds y true).getD i true=if i=y then true else b.getD i true:=by
    intro i;simp only[aaF,Array.getElem?_setIfInBounds]
    by_cases hi:y=i
    ·subst hi;rw[o6 rfl,o6 rfl];simp[av,d]
    ·rw[vz hi,vz (fun h=>hi h.symm)]
   refine ih (p++q) (sp++sq) _ F' L' ρ' a' w' dg (by simp[av]) am.1 (fun i=>?_) (by simp at ad ⊢;omega) ?_ ?_ (fun z r=>ap z (by rcases aah.1 r with h | h<;>simp[h])) bo (fun z r k e=>g8 k (fun e2=>da k e2 z r e) (ar z (by rcases aah.1 r with h | h<;>simp[h]) k e)) g1 g2 g3 g7 ?_ ?_
   ·rw[an];have h0:=f i;constructor
    ·intro hi;have t:i≠y:=fun e=>am.2 (e▸hi);rw[vz t];refine h0.1 ?_;rcases aah.1 hi with h | h
     ·exact aah.2 (.inl h)
     ·exact aah.2 (.inr (aaH _ h))
    ·rintro⟨cX,aw⟩;split at aw
     ·cases aw
     ·rename_i t;have:=h0.2 ⟨cX,aw⟩;rcases aah.1 this with h | h
      ·exact aah.2 (.inl h)
      ·rcases aal.1 h with h | h
       ·exact vv h t
       ·exact aah.2 (.inr h)
   ·rw[List.zip_append ae.symm];exact df
   ·intro i hi hd z r;rw[an] at hd ⊢;split
    ·rfl
    ·split at hd
     ·rename_i h;subst h;exact ag z r
     ·exact c i hi hd z r
   ·rintro ay ao ⟨F'',L'',bs,k1,k2,k3,k4,k5,k6,k7⟩;refine hQ ay ao ⟨F'',L'',bs,k1,k2,k3,k4.trans g4,g5.trans k5,fun j hj=>?_,k7⟩;rw[k6 j hj,g6 j];intro e;apply hj;have:∀(is:List Nat),y∈is->j∈dstsOf ops is:=by
     intro is
     induction is with
     | nil=>intro h;cases h
     | cons x is u =>
      intro h;simp only[dstsOf];rcases aal.1 h with rfl | h
      ·rw[e];simp
      ·split
       ·exact aaH _ (u h)
       ·exact u h
    exact this _ (List.mem_range.2 d)
   ·intro v ch ay ao F'' L'' kc k1 k2 k3 k4 k5 k6;refine hP v ch ay ao F'' L'' kc k1 (g5.trans k2) k3 (k4.trans g4) (fun j hj=>?_) k6;rw[k5 j hj,g6 j];intro e;apply hj;have:∀(is:List Nat),y∈is->j∈dstsOf ops is:=by
     intro is
     induction is with
     | nil=>intro h;cases h
     | cons x is u =>
      intro h;simp only[dstsOf];rcases aal.1 h with rfl | h
      ·rw[e];simp
      ·split
       ·exact aaH _ (u h)
       ·exact u h
    exact this _ (List.mem_range.2 d)
theorem qt {A:cH}{r:Nat}{is:List Nat}{cl:List (List Nat)}{ss:List aA}{F:aD}{L:Loc}{ρ:Env}{a:Act}{w:World}(hl:fC P A ops is=some ss) (y:Az P ops is cl ss=true)
  (hs:St F L w) (he:aG L ρ a) (hn:a.tmps.size=A.n) (t:∀s∈ss,∀k,tH s=some k->L.get k=none) (hK:br P PX (Ay ss) ss F L ρ K) (hQ:∀c w',eY A.n F L w a (dstsOf ops (List.range ops.size)) K c w'->Q .normal c w')
  (hP:∀v e c w' F' L',Dj v e->St F' L' w'->Step F L w F' L' w'->c.tmps.size=A.n->c.defers=a.defers->(∀j,j∉dstsOf ops (List.range ops.size)->c.tmps.getD j undef=a.tmps.getD j undef)->PX F' L' v->Q (.panic e) c w') :
  (Code.region r ops true).wp P Q a w:=by
 simp only[Az,aaj] at y;obtain⟨⟨⟨⟨⟨⟨⟨⟨h1,h2⟩,u⟩,x⟩,h5⟩,z⟩,h6⟩,h8⟩,h9⟩:=y;have u:=cV u;have x:=xo x;have d:∀i∈is,i<ops.size:=fun i hi=>by
  have h:Nat.blt i ops.size=true:=aas.1 h5 i hi;simpa using h
 refine wp_region_any h1 ?_;show wpAny P .any ops Q ops.size (Array.replicate ops.size false) a w.drew;refine DC h2 ops.size is ss _ F L ρ a w.drew hl (by simp) u (fun i=>?_) (by omega) h6 ?_ (aas.1 h8) (cV h9) t hs.drew he hn hK ?_ ?_
 ·constructor
  ·intro hi;refine⟨d i hi,?_⟩;simp[aaF,d i hi]
  ·rintro⟨hi,_⟩;exact cT.1 (aas.1 z i (List.mem_range.2 hi))
 ·intro i hi p;simp[aaF,hi] at p
 ·rintro c w' ⟨F',L',ρ',m,g2,l,f,b,o,q⟩;refine hQ c w' ⟨F',L',ρ',m,g2,l,f,?_,o,q⟩;exact⟨b.le,b.os,b.tape,b.output,b.size,b.same,b.frz,b.own⟩
 ·intro v e c w' F' L' gc m b l f o q;exact hP v e c w' F' L' gc m ⟨b.le,b.os,b.tape,b.output,b.size,b.same,b.frz,b.own⟩ l f o q
end
def cQ:Code->List Nat
 | .region _ d _=>dstsOf d (List.range d.size)
 | .seq a b=>cQ a++cQ b
 | .cond _ a b=>cQ a++cQ b
 | .block _ c | .loop c | .scope c=>cQ c
 | _=>[]
def yM:List Nat->aH->aH
 | [],x=>x
 | k::l,x=>.seq (.reg (.frz k::l.map .frz)) x
def ED:List aA->Bool
 | []=>true
 | .op _ _ _::l=>ED l
 | _::_=>false
def low (P:Program) (A:cH):Code->Option aH
 | .skip=>some .skip
 | .label _=>some .skip
 | .region r d false=>match qm P A r d (List.range d.size) with | some ss=>some (.reg ss) | none=>none
 | .region r d true=>match HJ A.ord r,fC P A d (tF A.ord r) with
  | some (is,e),some ss=>match ED ss with
   | true=>match Dy P d is e ss with
    | true=>some (yM (HI A.frz r 0) (.regD ss))
    | false=>none
   | false=>match Az P d is e ss with
    | true=>some (.regX ss)
    | false=>none
  | _,_=>none
 | .seq a b=>match low P A a,low P A b with | some x,some y=>some (.seq x y) | _,_=>none
 | .cond c a b=>match bw c,low P A a,low P A b with | some c,some x,some y=>some (.cond c x y) | _,_,_=>none
 | .scope c=>low P A c
 | .block id c=>match low P A c with | some x=>some (.block id x) | none=>none
 | .loop c=>match low P A c with | some x=>some (.loop (cQ c) x) | none=>none
 | .exit id=>some (.exit id)
 | .ret=>some .ret
 | _=>none
section
variable {P:Program}{Q:Exit->Act->World->Prop}
def rT (n:Nat) (F:aD) (L:Loc) (w:World) (a:Act) (asg:List Nat) (PX:aD->Loc->Value->Prop) (v:Value) (b:Act) (w':World):Prop :=
 ∃F' L',St F' L' w'/\Step F L w F' L' w'/\b.tmps.size=n/\b.defers=a.defers/\(∀j,j∉asg->b.tmps.getD j undef=a.tmps.getD j undef)/\PX F' L' v
theorem rT.after {n:Nat}{F F1:aD}{L L1:Loc}{w l:World}{a c:Act}{asg asg1 b:List Nat}{PX PX':aD->Loc->Value->Prop}{v:Value}{k:Act}{w':World}(e:Step F L w F1 L1 l) (f:c.defers=a.defers) (d:∀j,j∉asg1->c.tmps.getD j undef=a.tmps.getD j undef)
  (h:rT n F1 L1 l c b PX v k w') (o:∀j,j∈asg1->j∈asg) (u:∀j,j∈b->j∈asg) (y:∀F L,PX F L v->PX' F L v):rT n F L w a asg PX' v k w':=by
 obtain⟨F',L',r,s,q,p,x,t⟩:=h;exact⟨F',L',r,e.trans s,q,p.trans f,fun j m=>by rw[x j (fun h=>m (u j h)),d j (fun h=>m (o j h))],y _ _ t⟩
theorem rT.mono {n:Nat}{F:aD}{L:Loc}{w:World}{a:Act}{asg b:List Nat}{PX:aD->Loc->Value->Prop}{v:Value}{d:Act}{w':World}(h:rT n F L w a asg PX v d w') (c:∀j,j∈asg->j∈b):rT n F L w a b PX v d w':=by
 obtain⟨F',L',k,l,f,e,p,m⟩:=h;exact⟨F',L',k,l,f,e,fun j o=>p j (fun h=>o (c j h)),m⟩
def QQ (n:Nat) (F:aD) (L:Loc) (w:World) (a:Act) (asg:List Nat) (PX:aD->Loc->Value->Prop) (E:Nat->cS) (R N:cS):Exit->Act->World->Prop
 | .normal,b,w'=>eY n F L w a asg N b w'
 | .exit j,b,w'=>eY n F L w a asg (E j) b w'
 | .ret,b,w'=>eY n F L w a asg R b w'
 | .panic c,b,w'=>∃v,Dj v c/\rT n F L w a asg PX v b w'
 | _,_,_=>False
theorem eY.mono {n:Nat}{F:aD}{L:Loc}{w:World}{a:Act}{asg b:List Nat}{K:cS}{e:Act}{w':World}(h:eY n F L w a asg K e w') (c:∀j,j∈asg->j∈b):eY n F L w a b K e w':=by
 obtain⟨F',L',ρ',m,p,q,k,l,o,f⟩:=h;exact⟨F',L',ρ',m,p,q,k,l,fun j r=>o j (fun d=>r (c j d)),f⟩
theorem eY.after {n:Nat}{F F1:aD}{L L1:Loc}{w l:World}{a c:Act}{asg asg1 b:List Nat}{K:cS}{k:Act}{w':World}(e:Step F L w F1 L1 l) (f:c.defers=a.defers) (d:∀j,j∉asg1->c.tmps.getD j undef=a.tmps.getD j undef)
  (h:eY n F1 L1 l c b K k w') (o:∀j,j∈asg1->j∈asg) (u:∀j,j∈b->j∈asg):eY n F L w a asg K k w':=by
 obtain⟨F',L',ρ',r,s,q,p,x,t,v⟩:=h;exact⟨F',L',ρ',r,s,q,p.trans f,e.trans x,fun j m=>by rw[t j (fun h=>m (u j h)),d j (fun h=>m (o j h))],v⟩
def pO (P:Program):List ResultVar->Option (List RV)
 | []=>some []
 | .tmp t::l=>match pO P l with | some r=>some ((t,none)::r) | none=>none
 | .cell a t::l=>match P.underlying t,P.info? t,pO P l with
  | some d,some i,some r=>some ((a,some (match dM d with | true=>(true,i.size) | false=>(false,1)))::r)
  | _,_,_=>none
def wW (tmps:Array Value):ResultVar->Sem Value
 | .tmp t=>pure (tmps.getD t undef)
 | .cell a t=>do loadVar t (<-asAddr (tmps.getD a undef))
theorem qu {F:aD}{L:Loc}{ρ:Env}{a:Act}{w:World}(hs:St F L w) (x:aG L ρ a):∀{l:List ResultVar}{rs:List RV}{K:List Value->Prop},pO P l=some rs->lR L ρ rs K ->
  ∃vs,(l.mapM (wW a.tmps)).run P w=.ok vs w/\K vs
 | [],rs,K,h,b=>by simp only[pO,yo] at h;subst h;exact⟨[],by simp,b⟩
 | .tmp t::l,rs,K,h,b=>by
  simp only[pO] at h;split at h
  case h_2=>cases h
  rename_i r hr;injection h with h;subst h
  simp only[lR] at b;obtain⟨vs,o,q⟩:=qu hs x hr b;refine⟨_,?_,q⟩;simp only[List.mapM_cons,wW,Sem.run_bind,Sem.run_pure,Result.andThen_ok];rw[o];simp[x.eq t]
 | .cell t ty::l,rs,K,h,b=>by
  simp only[pO] at h;split at h
  case h_2=>cases h
  rename_i d i r hd hi hr;injection h with h;subst h
  generalize c:(match dM d with | true=>(true,i.size) | false=>(false,1):Bool×Nat)=p at b;obtain⟨ag,n⟩:=p;have s:ag=dM d:=by cases e:dM d<;>rw[e] at c<;>injection c with o q<;>exact o.symm
  have hn:n=match dM d with | true=>i.size | false=>1:=by cases e:dM d<;>rw[e] at c<;>injection c with o q<;>exact q.symm
  simp only[lR] at b;split at b
  case h_2=>exact b.elim
  rename_i k off aa;split at b
  case h_2=>exact b.elim
  rename_i g ty' cs hk;split at b
  case h_2=>exact b.elim
  rename_i y;have ad:=vT y;have y:=iT (Ak y);obtain⟨vs,o,q⟩:=qu hs x hr b;refine⟨_,?_,q⟩;have u:=hs.own k _ hk;have m:∀j v,((cs.drop off).take n)[j]?=some v->w.cell? ((⟨g,off,none⟩:Addr).add j)=some v:=by
   intro j v z;rw[cm,nE ad u];have hj:j<n:=by
    have:=aai.1 z;obtain⟨h,_⟩:=this;omega
   rw[List.getElem?_take_of_lt hj,aaL] at z;exact z
  have hy:a.tmps.getD t undef=.pointer (some ⟨g,off,none⟩):=by rw[x.eq t];simp only[aa,conc,hk]
  have f:=oS hd hi m y hn;simp only[Instr.loadAt,Instr.sureAddr,Sem.run_bind,Sem.run_pure,Result.andThen_ok] at f;simp only[List.mapM_cons,wW,hy,asAddr,Sem.run_bind,Sem.run_pure,Result.andThen_ok,f];rw[o,s];simp
theorem sJ (fn:Func) (tmps:Array Value):results fn tmps=(do let vs <-fn.results.mapM (wW tmps);pure (if h:vs.size=1 then vs[0] else .tuple vs)):=by
 unfold results;have h:(fun(r:ResultVar)=>match r with | .tmp t=>(pure (tmps.getD t undef):Sem Value) | .cell a t=>do loadVar t (<-asAddr (tmps.getD a undef)))=wW tmps:=by
  funext r
  cases r<;>rfl
 rw[<-h];rfl
theorem qw:∀(svs:List SV) (k j:Nat),tv k svs j=if k<=j then(svs[j-k]?).getD (.v undef) else .v undef
 | [],k,j=>by simp[tv]
 | v::svs,k,j=>by
  simp only[tv,put_eq]
  by_cases h:j=k
  ·subst h;simp
  ·rw[vz h,qw svs (k+1) j]
   by_cases a:k<=j
   ·rw[o6 (by omega),o6 a,show j-k=(j-(k+1))+1 by omega,aaY]
   ·rw[vz (by omega),vz a]
def aB (P:Program) (A:cH) (fn:Func):Option (aH×Nat×List RV×Bool) :=
 match fn.body with
 | some c=>match low P A c,pO P fn.results.toList with
  | some sc,some rs=>some (sc,fn.ntmps,rs,fn.name == "runtime.NumGoroutine")
  | _,_=>none
 | none=>none
theorem H7 {Lin:List Own}:∀(vs:List Value),∀v∈vs.map SV.v,(∀k off,v=.own k off->∃g ty cs,(inp Lin).get k=some (.box g ty cs))/\(∀a j,v=.el a j->a≠none):=by
 intro vs v b;obtain⟨u,_,rfl⟩:=aaJ.1 b;exact⟨fun _ _ e=>(by cases e),fun _ _ e=>(by cases e)⟩
end
inductive G where
 | int (k:IntKind) (n:Int)
 | bool (b:Bool)
 | str (s:ByteArray)
 | sl (sz:Nat) (l:List G)
 | st (l:List G)
mutual
def Rd (F:aD):G->List Value->Prop
 | .int k n,cs=>cs=[.int k n]/\(Lit.int k n).wf=true
 | .bool b,cs=>cs=[.bool b]
 | .str s,cs=>cs=[.string s]
 | .sl sz l,cs=>∃a c,cs=[.slice a l.length c]/\l.length<=c/\c<=maxLen/\(a=none->l=[]/\c=0)/\tJ F a sz 0 l
 | .st l,cs=>mU F l cs
def tJ (F:aD) (a:Option Addr) (sz:Nat):Nat->List G->Prop
 | _,[]=>True
 | i,x::l=>(∃es,es.length=sz/\bV F a (i*sz) es/\Rd F x es)/\tJ F a sz (i+1) l
def mU (F:aD):List G->List Value->Prop
 | [],cs=>cs=[]
 | x::l,cs=>∃c1 c2,cs=c1++c2/\Rd F x c1/\mU F l c2
end
mutual
theorem Rd.mono {F F':aD}(hle:F.le F'):∀{g:G}{cs:List Value},Rd F g cs->Rd F' g cs
 | .int k n,cs,h=>h
 | .bool b,cs,h=>h
 | .str s,cs,h=>h
 | .sl sz l,cs,h=>by
  simp only[Rd] at h ⊢;obtain⟨a,c,h1,h2,h3,h4,h5⟩:=h;exact⟨a,c,h1,h2,h3,h4,tJ.mono hle h5⟩
 | .st l,cs,h=>by
  simp only[Rd] at h ⊢;exact mU.mono hle h
theorem tJ.mono {F F':aD}(hle:F.le F') {a:Option Addr}{sz:Nat}:∀{i:Nat}{l:List G},tJ F a sz i l->tJ F' a sz i l
 | _,[],h=>by simp only[tJ]
 | i,x::l,h=>by
  simp only[tJ] at h ⊢;obtain⟨⟨es,h1,h2,h3⟩,h4⟩:=h;exact⟨⟨es,h1,h2.mono hle,Rd.mono hle h3⟩,tJ.mono hle h4⟩
theorem mU.mono {F F':aD}(hle:F.le F'):∀{l:List G}{cs:List Value},mU F l cs->mU F' l cs
 | [],cs,h=>by simp only[mU] at h ⊢;exact h
 | x::l,cs,h=>by
  simp only[mU] at h ⊢;obtain⟨c1,c2,h1,h2,h3⟩:=h;exact⟨c1,c2,h1,Rd.mono hle h2,mU.mono hle h3⟩
end
theorem wX {F:aD}{a:Option Addr}{sz:Nat}:∀{l:List G}{i:Nat},tJ F a sz i l↔∀j x,l[j]?=some x->∃es,es.length=sz/\bV F a ((i+j)*sz) es/\Rd F x es
 | [],i=>by simp[tJ]
 | x::l,i=>by
  simp only[tJ,wX (l:=l)];constructor
  ·rintro⟨d,c⟩ j y b;cases j with
   | zero=>simp only[aat,yo] at b;subst b;simpa using d
   | succ j =>
    simp only[aaY] at b;have:=c j y b
    rwa [show i+1+j=i+(j+1) by omega] at this
  ·intro h;refine⟨by simpa using h 0 x (by simp),fun j y b=>?_⟩;have:=h (j+1) y (by simpa using b)
   rwa [show i+(j+1)=i+1+j by omega] at this
structure Sl (F:aD) (sz:Nat) (l:List G) (a:Option Addr) (c:Nat):Prop where
 cap:l.length<=c
 max:c<=maxLen
 nil:a=none->l=[]/\c=0
 elems:∀j x,l[j]?=some x->∃es,es.length=sz/\bV F a (j*sz) es/\Rd F x es
theorem Sl.mono {F F':aD}{sz:Nat}{l:List G}{a:Option Addr}{c:Nat}(h:Sl F sz l a c) (b:F.le F'):Sl F' sz l a c :=
 ⟨h.cap,h.max,h.nil,fun j x d=>let⟨es,h1,h2,h3⟩:=h.elems j x d;⟨es,h1,h2.mono b,h3.mono b⟩⟩
theorem NF {F:aD}{sz:Nat}{l:List G}{cs:List Value}:Rd F (.sl sz l) cs↔∃a c,cs=[.slice a l.length c]/\Sl F sz l a c:=by
 simp only[Rd];constructor
 ·rintro⟨a,c,e,b,h,k,f⟩;exact⟨a,c,e,b,h,k,fun j x d=>by have:=wX.1 f j x d;simpa using this⟩
 ·rintro⟨a,c,e,b⟩;exact⟨a,c,e,b.cap,b.max,b.nil,wX.2 fun j x d=>by have:=b.elems j x d;simpa using this⟩
theorem Sl.ne {F:aD}{sz:Nat}{l:List G}{a:Option Addr}{c:Nat}(h:Sl F sz l a c) (b:l≠[]):a≠none:=fun e=>b (h.nil e).1
theorem Sl.load {F F':aD}{L:Loc}{sz:Nat}{l:List G}{a:Option Addr}{c:Nat}{j:Nat}{x:G}{K:List Value->Prop}(h:Sl F sz l a c) (b:F.le F') (e:l[j]?=some x)
  (f:∀es,es.length=sz->Rd F' x es->K es):jM F' L a (j*sz) sz K:=by
 obtain⟨es,d,m,k⟩:=h.elems j x e;exact⟨es,d,.inl (m.mono b),f es d (k.mono b)⟩
theorem Sl.loadD {F F':aD}{sz:Nat}{l:List G}{a:Option Addr}{c:Nat}{j:Nat}{x:G}{K:List Value->Prop}(h:Sl F sz l a c) (b:F.le F') (e:l[j]?=some x)
  (f:∀es,es.length=sz->Rd F' x es->K es):iS F' a (j*sz) sz K:=by
 obtain⟨es,d,m,k⟩:=h.elems j x e;exact⟨es,d,.inl (m.mono b),f es d (k.mono b)⟩
theorem ah {b:Bool}{A B:Prop}(h:b=true->A) (k:b=false->B):wD b A B:=by cases b;exact k rfl;exact h rfl
theorem aN {p:Prop}[Decidable p] {A B:Prop}(h:p->A) (k:¬p->B):wD (decide p) A B:=by
 by_cases a:p
 ·simp only[a,decide_true];exact h a
 ·simp only[a,decide_false];exact k a
theorem Fit.ZA {n:Int}{K:Int->Prop}(b:-9223372036854775808<=n) (a:n<=9223372036854775807) (h:K n):Fit .i64 n K:=by
 refine⟨?_⟩;have:IntKind.wrap .i64 n=n:=by
  simp only[IntKind.wrap,IntKind.bits,IntKind.signed,aa8,aaU,ge_iff_le,Nat.reduceSub,Int.reducePow];split<;>omega
 rw[this];exact h
def O6 (x:Value):aD->List Own->Value->Prop:=fun _ Lo v=>Lo=[]/\v=x
theorem O6.mono {x:Value}:∀F G L v,aD.le F G->O6 x F L v->O6 x G L v:=fun _ _ _ _ _ h=>h
theorem wf_i64 {n:Int}(h:(Lit.int .i64 n).wf=true):-9223372036854775808<=n/\n<=9223372036854775807:=by
 simpa[Lit.wf,IntKind.min,IntKind.max,IntKind.bits,IntKind.signed] using h
end Go.Fr
namespace Go.Fr.T
open Go Go.RowKit Go.Fr
inductive C where
 | int (k:IntKind) (n:Int)
 | bool (b:Bool)
 | str (s:ByteArray)
 | sl (els:List (List C))
 | slx (els:List (List C))
 | nils
 | rw(k:Nat)
 | own (k off:Nat)
 | ifo (m:Option String) (t:TypeId) (k off:Nat)
 | ownv (k off:Nat)
 | pt (es:List C) (off:Nat)
 | elr (k j off:Nat)
 | slo (k:Nat) (offs:List Nat)
 | slp (k:Nat) (offs:List Nat) (j:Nat)
 | fn (f:Nat) (fi ca:List C)
 | agg (cs:List C)
 | tup (cs:List C)
 | nilp
 | nilf
 | ifc (t:TypeId) (c:C)
 | opq (k:Nat)
 | mval (nm:String) (c:C)
 | mof (t:TypeId) (nm:String)
 | mpr (k:Nat)
 | und
 | any
 deriving Inhabited
inductive TO where
 | box (t:TypeId) (cs:List C)
 | row (t:TypeId) (sz:Nat) (els:List (List C))
 | map (es:List (C×C))
 /-- a part of a box;what stands ahead of it and behind it names nothing of one's own -/
 | win (t:TypeId) (pre cs post:List C)
abbrev TL:=List (Nat×TO)
def TL.get:TL->Nat->Option TO
 | [],_=>none
 | (j,o)::l,k=>match Nat.beq j k with | true=>some o | false=>TL.get l k
def TL.set:TL->Nat->TO->TL
 | [],k,o=>[(k,o)]
 | (j,p)::l,k,o=>match Nat.beq j k with
  | true=>(k,o)::l
  | false=>match Nat.ble j k with
   | true=>(j,p)::TL.set l k o
   | false=>(k,o)::(j,p)::l
def TL.del:TL->Nat->TL
 | [],_=>[]
 | (j,o)::l,k=>match Nat.beq j k with | true=>TL.del l k | false=>(j,o)::TL.del l k
def TL.sub (L:TL):List Nat->Option (List TO)
 | []=>some []
 | k::ks=>match L.get k,TL.sub L ks with
  | some o,some l=>some (o::l)
  | _,_=>none
def TL.ZB (L:TL):List Nat->TL
 | []=>L
 | k::ks=>TL.ZB (L.del k) ks
def TL.puts (L:TL):List Nat->List TO->TL
 | k::ks,o::l=>TL.puts (L.set k o) ks l
 | _,_=>L
def jl:Nat->List TO->TL
 | _,[]=>[]
 | k,o::l=>(k,o)::jl (k+1) l
def jn (l:List TO):TL:=jl 1000 l
def C.one:C->Bool
 | .int _ _=>true
 | .bool _=>true
 | .str _=>true
 | .sl _=>true
 | .slx _=>true
 | .nils=>true
 | .rw _=>true
 | .own _ _=>true
 | .ifo _ _ _ _=>true
 | .pt _ _=>true
 | .fn _ _ _=>true
 | .nilp=>true
 | .nilf=>true
 | .ifc _ _=>true
 | .opq _=>true
 | .mval _ _=>true
 | .mof _ _=>true
 | .mpr _=>true
 | _=>false
def dP:List C->Bool
 | []=>true
 | c::l=>match c.one with | true=>dP l | false=>false
def C.ZH:C->Bool
 | .int _ _=>true
 | .bool _=>true
 | .str _=>true
 | .sl _=>true
 | .slx _=>true
 | .nils=>true
 | .pt _ _=>true
 | .nilp=>true
 | .nilf=>true
 | .ifc _ _=>true
 | .opq _=>true
 | .mval _ _=>true
 | .mof _ _=>true
 | _=>false
def jx:List C->Bool
 | []=>true
 | c::l=>match c.ZH with | true=>jx l | false=>false
def C.pure:C->Bool
 | .fn _ fi ca=>match jx fi with | true=>jx ca | false=>false
 | c=>c.ZH
def dV:List C->Bool
 | []=>true
 | c::l=>match c.pure with | true=>dV l | false=>false
def C.mp (g:C->C):Nat->C->C
 | _,.int k n=>g (.int k n)
 | _,.bool b=>g (.bool b)
 | _,.str s=>g (.str s)
 | _,.sl els=>g (.sl els)
 | _,.slx els=>g (.slx els)
 | _,.nils=>g .nils
 | _,.rw j=>g (.rw j)
 | _,.own j o=>g (.own j o)
 | _,.ifo m t j o=>g (.ifo m t j o)
 | _,.ownv j o=>g (.ownv j o)
 | _,.pt es o=>g (.pt es o)
 | _,.elr j a b=>g (.elr j a b)
 | _,.slo j a=>g (.slo j a)
 | _,.slp j a b=>g (.slp j a b)
 | _,.nilp=>g .nilp
 | _,.nilf=>g .nilf
 | _,.ifc t c=>g (.ifc t c)
 | _,.opq k=>g (.opq k)
 | _,.mval nm c=>g (.mval nm c)
 | _,.mof t nm=>g (.mof t nm)
 | _,.mpr j=>g (.mpr j)
 | _,.und=>g .und
 | _,.any=>g .any
 | 0,.fn _ _ _=>.any
 | 0,.agg _=>.any
 | 0,.tup _=>.any
 | n+1,.fn f fi ca=>.fn f (fi.map (C.mp g n)) (ca.map (C.mp g n))
 | n+1,.agg cs=>.agg (cs.map (C.mp g n))
 | n+1,.tup cs=>.tup (cs.map (C.mp g n))
def gT (k:Nat):C->C
 | .int k n=>.int k n
 | .bool b=>.bool b
 | .str s=>.str s
 | .sl els=>.sl els
 | .slx els=>.slx els
 | .nils=>.nils
 | .rw j=>match Nat.beq j k with | true=>.any | false=>.rw j
 | .own j o=>.own j o
 | .ifo m t j o=>.ifo m t j o
 | .ownv j o=>.ownv j o
 | .pt es o=>.pt es o
 | .elr j a b=>match Nat.beq j k with | true=>.any | false=>.elr j a b
 | .slo j a=>.slo j a
 | .slp j a b=>.any
 | .fn f fi ca=>.fn f fi ca
 | .agg cs=>.agg cs
 | .tup cs=>.tup cs
 | .nilp=>.nilp
 | .nilf=>.nilf
 | .ifc t c=>.ifc t c
 | .opq k=>.opq k
 | .mval nm c=>.mval nm c
 | .mof t nm=>.mof t nm
 | .mpr j=>.mpr j
 | .und=>.und
 | .any=>.any
def C.kill (k:Nat) (c:C):C:=C.mp (gT k) 3 c
def C.kills:List Nat->C->C
 | [],c=>c
 | k::ks,c=>C.kills ks (c.kill k)
def qx:C->C
 | .int k n=>.int k n
 | .bool b=>.bool b
 | .str s=>.str s
 | .sl els=>.sl els
 | .slx els=>.slx els
 | .nils=>.nils
 | .rw j=>.any
 | .own j o=>.own j o
 | .ifo m t j o=>.ifo m t j o
 | .ownv j o=>.ownv j o
 | .pt es o=>.pt es o
 | .elr j a b=>.any
 | .slo j a=>.slo j a
 | .slp j a b=>.any
 | .fn f fi ca=>.fn f fi ca
 | .agg cs=>.agg cs
 | .tup cs=>.tup cs
 | .nilp=>.nilp
 | .nilf=>.nilf
 | .ifc t c=>.ifc t c
 | .opq k=>.opq k
 | .mval nm c=>.mval nm c
 | .mof t nm=>.mof t nm
 | .mpr j=>.mpr j
 | .und=>.und
 | .any=>.any
def C.aae (c:C):C:=C.mp qx 3 c
def nG (k:Nat) (l:List (List C)):C->C
 | .int k n=>.int k n
 | .bool b=>.bool b
 | .str s=>.str s
 | .sl els=>.sl els
 | .slx els=>.slx els
 | .nils=>.nils
 | .rw j=>match Nat.beq j k with | true=>.sl l | false=>.rw j
 | .own j o=>.own j o
 | .ifo m t j o=>.ifo m t j o
 | .ownv j o=>.ownv j o
 | .pt es o=>.pt es o
 | .elr j a b=>match Nat.beq j k with | true=>.any | false=>.elr j a b
 | .slo j a=>.slo j a
 | .slp j a b=>.any
 | .fn f fi ca=>.fn f fi ca
 | .agg cs=>.agg cs
 | .tup cs=>.tup cs
 | .nilp=>.nilp
 | .nilf=>.nilf
 | .ifc t c=>.ifc t c
 | .opq k=>.opq k
 | .mval nm c=>.mval nm c
 | .mof t nm=>.mof t nm
 | .mpr j=>.mpr j
 | .und=>.und
 | .any=>.any
def C.frz (k:Nat) (els:List (List C)) (c:C):C:=C.mp (nG k els) 3 c
def rm (k:Nat) (es:List C):C->C
 | .int k n=>.int k n
 | .bool b=>.bool b
 | .str s=>.str s
 | .sl els=>.sl els
 | .slx els=>.slx els
 | .nils=>.nils
 | .rw j=>.rw j
 | .own j o=>match Nat.beq j k with | true=>.pt es o | false=>.own j o
 | .ifo m t j o=>match Nat.beq j k with | true=>(match m with | none=>.ifc t (.pt es o) | some nm=>.mval nm (.ifc t (.pt es o))) | false=>.ifo m t j o
 | .ownv j o=>match Nat.beq j k with | true=>.pt es o | false=>.ownv j o
 | .pt es o=>.pt es o
 | .elr j a b=>.elr j a b
 | .slo j a=>match Nat.beq j k with | true=>.any | false=>.slo j a
 | .slp j a b=>.any
 | .fn f fi ca=>.fn f fi ca
 | .agg cs=>.agg cs
 | .tup cs=>.tup cs
 | .nilp=>.nilp
 | .nilf=>.nilf
 | .ifc t c=>.ifc t c
 | .opq k=>.opq k
 | .mval nm c=>.mval nm c
 | .mof t nm=>.mof t nm
 | .mpr j=>match Nat.beq j k with | true=>.any | false=>.mpr j
 | .und=>.und
 | .any=>.any
def C.frb (k:Nat) (es:List C) (c:C):C:=C.mp (rm k es) 3 c
def tK (r:Nat->Option Nat):C->C
 | .int k n=>.int k n
 | .bool b=>.bool b
 | .str s=>.str s
 | .sl els=>.sl els
 | .slx els=>.slx els
 | .nils=>.nils
 | .rw j=>match r j with | some i=>.rw i | none=>.any
 | .own j o=>match r j with | some i=>.own i o | none=>.any
 | .ifo m t j o=>match r j with | some i=>.ifo m t i o | none=>.any
 | .ownv j o=>match r j with | some i=>.own i o | none=>.any
 | .pt es o=>.pt es o
 | .elr j a b=>match r j with | some i=>.elr i a b | none=>.any
 | .slo j a=>match r j with | some i=>.slo i a | none=>.any
 | .slp j a b=>.any
 | .fn f fi ca=>.fn f fi ca
 | .agg cs=>.agg cs
 | .tup cs=>.tup cs
 | .nilp=>.nilp
 | .nilf=>.nilf
 | .ifc t c=>.ifc t c
 | .opq k=>.opq k
 | .mval nm c=>.mval nm c
 | .mof t nm=>.mof t nm
 | .mpr j=>match r j with | some i=>.mpr i | none=>.any
 | .und=>.und
 | .any=>.any
def C.ren (f:Nat->Option Nat) (c:C):C:=C.mp (tK f) 3 c
def TO.ZC (g:C->C):TO->TO
 | .box t cs=>.box t (cs.map g)
 | .row t sz els=>.row t sz els
 | .map es=>.map es
 | .win t pre cs post=>.win t pre (cs.map g) post
def TL.ZC (g:C->C):TL->TL
 | []=>[]
 | (k,o)::l=>(k,o.ZC g)::TL.ZC g l
def cD:List Nat->Nat->Nat->Option Nat
 | [],_,_=>none
 | k::ks,i,j=>match Nat.beq j k with | true=>some i | false=>cD ks (i+1) j
def aZ (ko:List Nat) (j:Nat):Option Nat:=match Nat.ble 1000 j with | true=>ko[j-1000]? | false=>none
def C.can:C->C
 | .int k n=>.int k n
 | .bool b=>.bool b
 | .str s=>.str s
 | .sl els=>.sl els
 | .slx els=>.sl els
 | .nils=>.sl []
 | .rw j=>.rw j
 | .own j o=>.own j o
 | .ifo m t j o=>.ifo m t j o
 | .ownv j o=>.ownv j o
 | .pt es o=>.pt es o
 | .elr j a b=>.elr j a b
 | .slo j a=>.slo j a
 | .slp j a b=>.slp j a b
 | .fn f fi ca=>.fn f fi ca
 | .agg cs=>.agg cs
 | .tup cs=>.tup cs
 | .nilp=>.nilp
 | .nilf=>.nilf
 | .ifc t c=>.ifc t c
 | .opq k=>.opq k
 | .mval nm c=>.mval nm c
 | .mof t nm=>.mof t nm
 | .mpr j=>.mpr j
 | .und=>.und
 | .any=>.any
def C.ZG:C->C
 | .int k n=>.int k n
 | .bool b=>.bool b
 | .str s=>.str s
 | .sl els=>.sl els
 | .slx els=>.sl els
 | .nils=>.sl []
 | .rw j=>.rw j
 | .own j o=>.own j o
 | .ifo m t j o=>.ifo m t j o
 | .ownv j o=>.ownv j o
 | .pt es o=>.pt es o
 | .elr j a b=>.elr j a b
 | .slo j a=>.slo j a
 | .slp j a b=>.slp j a b
 | .fn f fi ca=>.fn f fi ca
 | .agg cs=>.agg (cs.map C.can)
 | .tup cs=>.tup cs
 | .nilp=>.nilp
 | .nilf=>.nilf
 | .ifc t c=>.ifc t c
 | .opq k=>.opq k
 | .mval nm c=>.mval nm c
 | .mof t nm=>.mof t nm
 | .mpr j=>.mpr j
 | .und=>.und
 | .any=>.any
def C.ZQ:C->C
 | .int k n=>.int k n
 | .bool b=>.bool b
 | .str s=>.str s
 | .sl els=>.sl els
 | .slx els=>.sl els
 | .nils=>.sl []
 | .rw j=>.rw j
 | .own j o=>.own j o
 | .ifo m t j o=>.ifo m t j o
 | .ownv j o=>.ownv j o
 | .pt es o=>.pt es o
 | .elr j a b=>.elr j a b
 | .slo j a=>.slo j a
 | .slp j a b=>.slp j a b
 | .fn f fi ca=>.fn f fi ca
 | .agg cs=>.agg (cs.map C.can)
 | .tup cs=>.tup (cs.map C.ZG)
 | .nilp=>.nilp
 | .nilf=>.nilf
 | .ifc t c=>.ifc t c
 | .opq k=>.opq k
 | .mval nm c=>.mval nm c
 | .mof t nm=>.mof t nm
 | .mpr j=>.mpr j
 | .und=>.und
 | .any=>.any
abbrev aX:=Nat->C
def bE (d:Option Nat) (c:C) (ρ:aX):aX :=
 match d with
 | some d=>fun j=>match Nat.beq j d with | true=>c | false=>ρ j
 | none=>ρ
def rU:Value->C
 | .int k n=>match(Lit.int k n).wf with | true=>.int k n | false=>.any
 | .bool b=>.bool b
 | .string s=>match Nat.ble s.size maxLen with | true=>.str s | false=>.any
 | .slice none 0 0=>.nils
 | .pointer none=>.nilp
 | .nilFunc=>.nilf
 | .nilIface=>.opq 0
 | .func (.methodOf t nm) ⟨[]⟩ ⟨[]⟩=>.mof t nm
 | _=>.any
def WY (nm:String) (c:C):C :=
 match c with
 | .ifc t c=>.mval nm (.ifc t c)
 | .ifo none t k off=>.ifo (some nm) t k off
 | _=>.any
def cv:Value->C
 | .agg cs=>.agg (cs.toList.map rU)
 | v=>rU v
def cn (ρ:aX):X->C
 | .t n=>ρ n
 | .c v=>cv v
 | .fn f=>.fn f [] []
 | .mt nm n=>WY nm (ρ n)
def C.cel:C->C
 | .int k n=>.int k n
 | .bool b=>.bool b
 | .str s=>.str s
 | .sl els=>.sl els
 | .slx els=>.slx els
 | .nils=>.nils
 | .rw j=>.rw j
 | .own j o=>.own j o
 | .ifo m t j o=>.ifo m t j o
 | .ownv j o=>.own j o
 | .pt es o=>.pt es o
 | .elr j a b=>.elr j a b
 | .slo j a=>.slo j a
 | .slp j a b=>.any
 | .fn f fi ca=>.fn f fi ca
 | .agg cs=>.agg cs
 | .tup cs=>.tup cs
 | .nilp=>.nilp
 | .nilf=>.nilf
 | .ifc t c=>.ifc t c
 | .opq k=>.opq k
 | .mval nm c=>.mval nm c
 | .mof t nm=>.mof t nm
 | .mpr j=>.mpr j
 | .und=>.und
 | .any=>.any
def C.slt:C->C
 | .int k n=>.int k n
 | .bool b=>.bool b
 | .str s=>.str s
 | .sl els=>.sl els
 | .slx els=>.slx els
 | .nils=>.nils
 | .rw j=>.rw j
 | .own j o=>.ownv j o
 | .ifo m t j o=>.ifo m t j o
 | .ownv j o=>.ownv j o
 | .pt es o=>.pt es o
 | .elr j a b=>.any
 | .slo j a=>.slo j a
 | .slp j a b=>.any
 | .fn f fi ca=>.fn f fi ca
 | .agg cs=>.agg cs
 | .tup cs=>.tup cs
 | .nilp=>.nilp
 | .nilf=>.nilf
 | .ifc t c=>.ifc t c
 | .opq k=>.opq k
 | .mval nm c=>.mval nm c
 | .mof t nm=>.mof t nm
 | .mpr j=>.mpr j
 | .und=>.und
 | .any=>.any
def C.Z0:C->C
 | .int k n=>.int k n
 | .bool b=>.bool b
 | .str s=>.str s
 | .sl els=>.sl els
 | .slx els=>.slx els
 | .nils=>.nils
 | .rw j=>.rw j
 | .own j o=>.own j o
 | .ifo m t j o=>.ifo m t j o
 | .ownv j o=>.own j o
 | .pt es o=>.pt es o
 | .elr j a b=>.elr j a b
 | .slo j a=>.slo j a
 | .slp j a b=>.slp j a b
 | .fn f fi ca=>.fn f fi ca
 | .agg cs=>.agg cs
 | .tup cs=>.tup cs
 | .nilp=>.nilp
 | .nilf=>.nilf
 | .ifc t c=>.ifc t c
 | .opq k=>.opq k
 | .mval nm c=>.mval nm c
 | .mof t nm=>.mof t nm
 | .mpr j=>.mpr j
 | .und=>.und
 | .any=>.any
def C.okc:C->Bool
 | .any=>false
 | .und=>false
 | .elr _ _ _=>false
 | .slo _ _=>false
 | .slp _ _ _=>false
 | .tup _=>false
 | _=>true
def cg:C->List C
 | .int k n=>[.int k n]
 | .bool b=>[.bool b]
 | .str s=>[.str s]
 | .sl els=>[.sl els]
 | .slx els=>[.slx els]
 | .nils=>[.nils]
 | .rw j=>[.rw j]
 | .own j o=>[.own j o]
 | .ifo m t j o=>[.ifo m t j o]
 | .ownv j o=>[.own j o]
 | .pt es o=>[.pt es o]
 | .elr j a b=>[.any]
 | .slo j a=>[.any]
 | .slp j a b=>[.any]
 | .fn f fi ca=>[.fn f fi ca]
 | .agg cs=>cs
 | .tup cs=>[.tup cs]
 | .nilp=>[.nilp]
 | .nilf=>[.nilf]
 | .ifc t c=>[.ifc t c]
 | .opq k=>[.opq k]
 | .mval nm c=>[.mval nm c]
 | .mof t nm=>[.mof t nm]
 | .mpr j=>[.mpr j]
 | .und=>[.und]
 | .any=>[.any]
def dD:List C->Nat->Bool
 | [],0=>true
 | _::l,n+1=>dD l n
 | _,_=>false
def AA (agg:Bool) (cs:List C):C :=
 match agg,cs with
 | true,cs=>.agg cs
 | false,[c]=>c.slt
 | false,_=>.any
def eD (ρ:aX):List X->List C
 | []=>[]
 | x::xs=>(cn ρ x).cel::eD ρ xs
def uH (ρ:aX):List X->List (List C)
 | []=>[]
 | x::xs=>(cg (cn ρ x)).map C.can::uH ρ xs
def qy (ρ:aX) (sz:Nat):List X->Bool
 | []=>true
 | x::xs=>match(cn ρ x).okc,dD (cg (cn ρ x)) sz,dP (cg (cn ρ x)),dV (cg (cn ρ x)) with
  | true,true,true,true=>qy ρ sz xs
  | _,_,_,_=>false
def fE (cs:List C) (off:Nat) (vs:List C):List C:=cs.take off++vs++cs.drop (off+vs.length)
def uI (ρ:aX):List C->List (Nat×Nat×X)->Option (List C)
 | zs,[]=>some zs
 | zs,(off,n,x)::ps=>match(cn ρ x).okc,dD (cg (cn ρ x)) n with
  | true,true=>uI ρ (fE zs off (cg (cn ρ x))) ps
  | _,_=>none
def Gf (ρ:aX) (d:Int):Option X->Option Int
 | none=>some d
 | some x=>match cn ρ x with | .int _ i=>some i | _=>none
def SL (mx:Bool):Int->List C->Option Int
 | a,[]=>some a
 | a,.int _ b::l=>SL mx (match mx with | true=>if b>a then b else a | false=>if b<a then b else a) l
 | _,_=>none
abbrev jo (b:UInt8):C:=.int .u8 b.toNat
def af (bs:List UInt8):List (List C):=bs.map fun b=>[jo b]
def fc (c:C) (K:C->Prop):Prop :=
 match c with
 | .int k n=>K (.int k n)
 | .bool b=>K (.bool b)
 | .str s=>K (.str s)
 | .sl els=>K (.sl els)
 | .slx els=>K (.slx els)
 | .nils=>K .nils
 | .rw k=>K (.rw k)
 | .own k off=>K (.own k off)
 | .ifo m t k off=>K (.ifo m t k off)
 | .ownv k off=>K (.ownv k off)
 | .pt es off=>K (.pt es off)
 | .elr k j off=>K (.elr k j off)
 | .slo k a=>K (.slo k a)
 | .slp k a j=>K (.slp k a j)
 | .fn f fi ca=>K (.fn f fi ca)
 | .agg cs=>K (.agg cs)
 | .tup cs=>K (.tup cs)
 | .nilp=>K .nilp
 | .nilf=>K .nilf
 | .ifc t c=>K (.ifc t c)
 | .opq k=>K (.opq k)
 | .mval nm c=>K (.mval nm c)
 | .mof t nm=>K (.mof t nm)
 | .mpr j=>K (.mpr j)
 | .und=>K .und
 | .any=>K .any
def fl:List C->(List C->Prop)->Prop
 | [],K=>K []
 | c::cs,K=>fc c fun c=>fl cs fun cs=>K (c::cs)
def fO:TO->(TO->Prop)->Prop
 | .box t cs,K=>fl cs fun cs=>K (.box t cs)
 | .row t sz els,K=>K (.row t sz els)
 | .map es,K=>K (.map es)
 | .win t pre cs post,K=>fl cs fun cs=>K (.win t pre cs post)
def fT:TL->(TL->Prop)->Prop
 | [],K=>K []
 | (k,o)::l,K=>fO o fun o=>fT l fun l=>K ((k,o)::l)
def vH (c:C) (K:C->Prop):Prop :=
 match c with
 | .agg cs=>fl cs fun cs=>K (.agg cs)
 | c=>fc c K
theorem EF {c:C}{K:C->Prop}:fc c K=K c:=by cases c<;>rfl
theorem eV:∀{cs:List C}{K:List C->Prop},fl cs K=K cs
 | [],K=>rfl
 | c::cs,K=>by simp only[fl,EF,eV]
theorem QY {o:TO}{K:TO->Prop}:fO o K=K o:=by cases o<;>simp only[fO,eV]
theorem fu:∀{L:TL}{K:TL->Prop},fT L K=K L
 | [],K=>rfl
 | (k,o)::l,K=>by simp only[fT,QY,fu]
theorem dX {c:C}{K:C->Prop}:vH c K=K c:=by cases c<;>simp only[vH,eV,EF]
mutual
/-- the bounds that all data of the machine keeps -/
def Wf:C->Prop
 | .int k n=>(Lit.int k n).wf=true
 | .str s=>s.size<=maxLen
 | .sl els=>els.length<=maxLen/\tL els
 | .slx els=>els.length<=maxLen/\tL els
 | .pt es _=>sK es
 | .fn _ fi ca=>sK fi/\sK ca
 | .agg cs=>sK cs
 | .tup cs=>sK cs
 | .slo _ offs=>offs.length<=maxLen
 | _=>True
def sK:List C->Prop
 | []=>True
 | c::l=>Wf c/\sK l
def tL:List (List C)->Prop
 | []=>True
 | es::l=>sK es/\tL l
end
def S2:List (C×C)->Prop
 | []=>True
 | (k,v)::l=>Wf k/\Wf v/\S2 l
def TO.Wf:TO->Prop
 | .box _ cs=>sK cs
 | .row _ _ els=>tL els
 | .map es=>S2 es
 | .win _ _ cs _=>sK cs
structure AB (els:List (List C)) (i:Int) (sz:Nat) (K:List C->Prop):Prop where
 out:∃es,0<=i/\els[i.toNat]?=some es/\dD es sz=true/\K es
structure Lr (els:List (List C)) (j off n:Nat) (K:List C->Prop):Prop where
 out:∃es,els[j]?=some es/\dD ((es.drop off).take n) n=true/\K ((es.drop off).take n)
structure kN (els:List (List C)) (K:List UInt8->Prop):Prop where
 out:∃bs,els=af bs/\K bs
structure Cb (l h:Int) (els:List (List C)) (sz:Nat) (K:Nat->Nat->Prop):Prop where
 lo:0<=l
 le:l<=h
 hi:h<=els.length
 sizes:∀es∈els,es.length=sz
 out:K l.toNat h.toNat
structure sL (els news:List (List C)) (sz bytes:Nat) (K:Prop):Prop where
 sizes:∀es∈news,es.length=sz
 max:els.length+news.length<=maxLen
 room:(els.length+news.length)*bytes<=140737488355328
 out:K
def mV:Bool->C->C->Option Bool
 | false,.int .i64 a,.int .i64 b=>some (decide (a=b))
 | true,.str a,.str b=>some (decide (a.data.toList=b.data.toList))
 | _,_,_=>none
def H8:Bool->C->Bool
 | false,.int .i64 _=>true
 | true,.str _=>true
 | _,_=>false
def zA (str:Bool) (key:C):List (C×C)->Option (Option C)
 | []=>some none
 | (k,v)::l=>match mV str key k with
  | some true=>some (some v)
  | some false=>zA str key l
  | none=>none
def H9 (str:Bool) (key val:C):List (C×C)->Option (List (C×C))
 | []=>some [(key,val)]
 | (k,v)::l=>match mV str key k with
  | some true=>some ((key,val)::l)
  | some false=>match H9 str key val l with | some l'=>some ((k,v)::l') | none=>none
  | none=>none
structure O7 (str:Bool) (es:List (C×C)) (key:C) (Y:C->Prop) (N:Prop):Prop where
 out:(∃v,zA str key es=some (some v)/\Y v)\/(zA str key es=some none/\N)
structure QZ (str:Bool) (es:List (C×C)) (key val:C) (K:List (C×C)->Prop):Prop where
 out:∃es',H9 str key val es=some es'/\K es'
structure Ia (i:Int) (K:Nat->Prop):Prop where
 out:∃m:Nat,i=m/\K m
def wY:List Nat->TL->aX->List C->(TL->aX->List C->Prop)->Prop
 | [],L,ρ,a,K=>K L ρ a
 | k::ks,L,ρ,a,K=>match L.get k with
  | some (.row _ _ els)=>wY ks ((L.del k).ZC (C.frz k els)) (fun j=>(ρ j).frz k els) (a.map (C.frz k els)) K
  | _=>False
def mo (L:TL):C->Bool
 | .rw k=>match L.get k with | some (.row _ _ _)=>true | _=>false
 | .own k _=>match L.get k with | some (.box _ _)=>true | some (.win _ _ _ _)=>true | _=>false
 | .ifo _ _ k _=>match L.get k with | some (.box _ _)=>true | some (.win _ _ _ _)=>true | _=>false
 | .mpr k=>match L.get k with | some (.map _)=>true | _=>false
 | .ownv _ _=>false
 | .elr _ _ _=>false
 | .slo k _=>match L.get k with | some (.box _ _)=>true | some (.win _ _ _ _)=>true | _=>false
 | .slp _ _ _=>false
 | _=>true
def fU (L:TL):Nat->C->Bool
 | n+1,.agg cs=>cs.all (fU L n)
 | n+1,.tup cs=>cs.all (fU L n)
 | n+1,.fn _ fi ca=>fi.all (fU L n)&&ca.all (fU L n)
 | 0,.agg _=>false
 | 0,.tup _=>false
 | 0,.fn _ _ _=>false
 | _,c=>mo L c
def KE (L L1:TL) (c a:C):Prop :=
 a=.any\/(c=a/\fU L1 3 a=true)\/(c=.nils/\a=.sl [])\/(c=.nils/\∃k t sz,a=.rw k/\L.get k=none/\L1.get k=some (.row t sz []))\/∃els,c=.slx els/\a=.sl els
def Ib (L L1:TL):List C->List C->Prop
 | [],l=>l=[]
 | c::cs,l=>∃a cs',l=a::cs'/\KE L L1 c a/\Ib L L1 cs cs'
def Ic (L1:TL):TO->Bool
 | .box _ cs=>cs.all (fU L1 3)
 | .row _ _ _=>true
 | .map _=>true
 | .win _ _ cs _=>cs.all (fU L1 3)
def S3 (L L1:TL) (o o':TO):Prop:=(o=o'/\Ic L1 o'=true)\/∃t cs cs',o=.box t cs/\o'=.box t cs'/\Ib L L1 cs cs'
def gives (L L1:TL):TL->Prop
 | []=>True
 | (k,o)::l=>((∃p,L.get k=some p/\S3 L L1 p o)\/(L.get k=none/\∃t sz,o=.row t sz []))/\gives L L1 l
def nS (L L1:TL):List Nat->List C->aX->Prop
 | k::ks,v::vs,ρ=>KE L L1 (ρ k) v/\nS L L1 ks vs ρ
 | _,_,_=>True
def qz:List Nat->List C->aX->aX
 | k::ks,v::vs,ρ=>bE (some k) v (qz ks vs ρ)
 | _,_,ρ=>ρ
def bJ:List Nat->Bool
 | []=>true
 | k::ks=>match ga ks k with | true=>false | false=>bJ ks
def Ls (F:aD) (b o off:Nat) (vs:List Value):Prop :=
 ∃a c t d,F b=some (.cells c t d)/\o=a+off/\∀(i:Nat) (v:Value),vs[i]?=some v->c[a+i]?=some v/\oP d (a+i)
def Cc:Option String->TypeId->Value->Value
 | none,t,u=>.iface t u
 | some nm,t,u=>.func (.method nm) #[.iface t u] #[]
mutual
def Rel (F:aD):Loc->C->Value->Prop
 | _,.int k n,v=>v=.int k n/\(Lit.int k n).wf=true
 | _,.bool b,v=>v=.bool b
 | _,.str s,v=>v=.string s/\s.size<=maxLen
 | _,.sl els,v=>∃a c,v=.slice a els.length c/\els.length<=c/\els.length<=maxLen/\(a=none->els=[]/\c=0)/\∃sz,gF F a sz 0 els
 | _,.slx els,v=>∃a,v=.slice (some a) els.length els.length/\els.length<=maxLen/\∃sz,gF F (some a) sz 0 els
 | _,.nils,v=>v=.slice none 0 0
 | L,.rw k,v=>∃a c t sz n xs,v=.slice a n c/\L.get k=some (.row v t sz n xs)
 | L,.own k off,v=>∃g t cs,L.get k=some (.box g t cs)/\v=.pointer (some ⟨g,off,none⟩)
 | L,.ifo m ti k off,v=>∃g t cs,L.get k=some (.box g t cs)/\v=Cc m ti (.pointer (some ⟨g,off,none⟩))
 | _,.pt es off,v=>∃b o vs,v=.pointer (some ⟨b,o,none⟩)/\Ls F b o off vs/\dP es=true/\aF F [] es vs
 | L,.fn f fi ca,v=>∃fi' ca',v=.func (.func f) fi'.toArray ca'.toArray/\aF F L fi fi'/\aF F L ca ca'
 | L,.agg cs,v=>∃vs,v=.agg vs.toArray/\aF F L cs vs
 | L,.tup cs,v=>∃vs,v=.tuple vs.toArray/\aF F L cs vs
 | _,.nilp,v=>v=.pointer none
 | _,.nilf,v=>v=.nilFunc
 | _,.ifc t c,v=>∃u,v=.iface t u/\Rel F [] c u
 | _,.opq k,v=>jK k F v
 | _,.mval nm c,v=>∃u,v=.func (.method nm) #[u] #[]/\Rel F [] c u
 | _,.mof t nm,v=>v=.func (.methodOf t nm) #[] #[]
 | L,.mpr k,v=>∃g cs,L.get k=some (.box g 0 cs)/\v=.map (some g)
 | _,.und,v=>v=undef
 | _,.any,_=>True
 | _,.ownv _ _,_=>False
 | L,.elr k j off,v=>∃ad t sz n c xs,v=.pointer (some (ad.add (j*sz+off)))/\L.get k=some (.row (.slice (some ad) n c) t sz n xs)
 | L,.slo k offs,v=>∃g t cs ad,L.get k=some (.box g t cs)/\v=.slice (some ad) offs.length offs.length/\offs.length<=maxLen/\bV F (some ad) 0 (offs.map fun o=>.pointer (some ⟨g,o,none⟩))
 | _,.slp _ _ _,_=>False
def aF (F:aD):Loc->List C->List Value->Prop
 | _,[],vs=>vs=[]
 | L,c::cs,vs=>∃v vs',vs=v::vs'/\Rel F L c v/\aF F L cs vs'
def gF (F:aD) (a:Option Addr) (sz:Nat):Nat->List (List C)->Prop
 | _,[]=>True
 | i,es::l=>(∃vs,vs.length=sz/\bV F a (i*sz) vs/\dP es=true/\aF F [] es vs)/\gF F a sz (i+1) l
end
def aO (F:aD) (sz:Nat):List (List C)->List Value->Prop
 | [],xs=>xs=[]
 | es::l,xs=>∃vs a,xs=vs++a/\vs.length=sz/\dP es=true/\aF F [] es vs/\aO F sz l a
def tyOk (t g a:Nat):Prop:=a<1048576/\(t=a\/t=(g+1)*1048576+a)/\a≠0
def jy (F:aD):List (C×C)->List Value->Prop
 | [],vs=>vs=[]
 | (k,c)::l,vs=>∃kv v a,vs=.agg #[kv,v]::a/\Rel F [] k kv/\Rel F [] c v/\jy F l a
def di (F:aD) (L:Loc):TO->Own->Prop
 | .box t cs,.box g b vs=>tyOk t g b/\aF F L cs vs
 | .row t sz els,.row v b d n xs=>t=b/\sz=d/\n=els.length/\(n<=maxLen/\∃a c,v=.slice a n c/\(a=none->n=0))/\aO F sz els xs
 | .map es,.box g b vs=>b=0/\jy F es vs
 | .win t pre cs post,.box g b vs=>tyOk t g b/\∃v1 e v3,vs=v1++(e++v3)/\aF F [] pre v1/\aF F L cs e/\aF F [] post v3
 | _,_=>False
def Ie (F:aD) (L:Loc):Option TO->Option Own->Prop
 | none,none=>True
 | some to,some o=>di F L to o
 | _,_=>False
def dm (F:aD) (L:Loc) (M:TL):Prop:=∀k,Ie F L (M.get k) (L.get k)
def SM (sv:SV) (v:Value):Prop:=sv=.v v\/∃b o j,sv=.el (some ⟨b,o,none⟩) j/\v=.pointer (some ⟨b,o+j,none⟩)
def aQ (F:aD) (L:Loc):C->SV->Prop
 | .own k off,sv=>sv=.own k off/\∃g t cs,L.get k=some (.box g t cs)
 | .pt es off,sv=>∃b o j vs,(sv=.v (.pointer (some ⟨b,o,none⟩))/\j=0\/sv=.el (some ⟨b,o,none⟩) j)/\Ls F b (o+j) off vs/\dP es=true/\aF F [] es vs
 | .elr k j off,sv=>∃a t sz n c xs,sv=.el (some a) (j*sz+off)/\L.get k=some (.row (.slice (some a) n c) t sz n xs)
 | .ownv k off,sv=>∃v,SM sv v/\Rel F L (.own k off) v
 | .slp k d j,sv=>∃g t cs a,L.get k=some (.box g t cs)/\sv=.el (some a) j/\bV F (some a) 0 (d.map fun o=>.pointer (some ⟨g,o,none⟩))
 | .any,_=>True
 | c,sv=>∃v,sv=.v v/\Rel F L c v
def Kp (G:Nat->Option (Nat×TypeId)) (L:Loc):Prop:=∀k g t,G k=some (g,t)->∃cs,L.get k=some (.box g t cs)
structure TS (G:Nat->Option (Nat×TypeId)) (F:aD) (L:Loc) (ρ:Env) (M:TL) (τ:aX):Prop where
 tl:dm F L M
 env:∀j,aQ F L (τ j) (ρ j)
 kp:Kp G L
 glob:si F
def Own.like:Own->Own->Prop
 | .box g t _,.box c d _=>g=c/\t=d
 | .row v _ sz n _,.row b _ a n' _=>v=b/\sz=a/\n=n'
 | _,_=>False
theorem Own.ZD:∀o:Own,Own.like o o
 | .box ..=>⟨rfl,rfl⟩
 | .row ..=>⟨rfl,rfl,rfl⟩
theorem Ls.mono {F F':aD}(h:F.le F') {b o off:Nat}{vs:List Value}(c:Ls F b o off vs):Ls F' b o off vs:=by
 obtain⟨a,d,t,e,j,f⟩:=c;exact⟨a,d,t,e,h _ _ j,f⟩
mutual
theorem Rel.mono {F F':aD}(h:F.le F'):∀{L:Loc}{c:C}{v:Value},Rel F L c v->Rel F' L c v
 | _,.int k n,v,r=>r
 | _,.bool b,v,r=>r
 | _,.str s,v,r=>r
 | _,.sl els,v,r=>by
  simp only[Rel] at r ⊢;obtain⟨a,c,h1,h2,h3,h4,sz,h5⟩:=r;exact⟨a,c,h1,h2,h3,h4,sz,gF.mono h h5⟩
 | _,.slx els,v,r=>by
  simp only[Rel] at r ⊢;obtain⟨a,h1,h2,sz,h5⟩:=r;exact⟨a,h1,h2,sz,gF.mono h h5⟩
 | _,.nils,v,r=>r
 | L,.rw k,v,r=>by simp only[Rel] at r ⊢;exact r
 | L,.own k off,v,r=>by simp only[Rel] at r ⊢;exact r
 | L,.ifo m ti k off,v,r=>by simp only[Rel] at r ⊢;exact r
 | _,.pt es off,v,r=>by
  simp only[Rel] at r ⊢;obtain⟨b,o,vs,h1,h2,h3,h4⟩:=r;exact⟨b,o,vs,h1,h2.mono h,h3,aF.mono h h4⟩
 | L,.fn f fi ca,v,r=>by
  simp only[Rel] at r ⊢;obtain⟨fi',ca',h1,h2,h3⟩:=r;exact⟨fi',ca',h1,aF.mono h h2,aF.mono h h3⟩
 | L,.agg cs,v,r=>by
  simp only[Rel] at r ⊢;obtain⟨vs,h1,h2⟩:=r;exact⟨vs,h1,aF.mono h h2⟩
 | L,.tup cs,v,r=>by
  simp only[Rel] at r ⊢;obtain⟨vs,h1,h2⟩:=r;exact⟨vs,h1,aF.mono h h2⟩
 | _,.nilp,v,r=>r
 | _,.nilf,v,r=>r
 | _,.ifc t c,v,r=>by
  simp only[Rel] at r ⊢;obtain⟨u,h1,h2⟩:=r;exact⟨u,h1,Rel.mono h h2⟩
 | _,.opq k,v,r=>by
  simp only[Rel] at r ⊢;exact r.mono h
 | _,.mval nm c,v,r=>by
  simp only[Rel] at r ⊢;obtain⟨u,h1,h2⟩:=r;exact⟨u,h1,Rel.mono h h2⟩
 | _,.mof t nm,v,r=>r
 | L,.mpr k,v,r=>by simp only[Rel] at r ⊢;exact r
 | _,.und,v,r=>r
 | _,.any,v,r=>trivial
 | _,.ownv _ _,v,r=>r
 | L,.elr _ _ _,v,r=>by simp only[Rel] at r ⊢;exact r
 | L,.slo _ _,v,r=>by
  simp only[Rel] at r ⊢;obtain⟨g,t,cs,ad,h1,h2,h3,h4⟩:=r;exact⟨g,t,cs,ad,h1,h2,h3,h4.mono h⟩
 | _,.slp _ _ _,v,r=>r
theorem aF.mono {F F':aD}(h:F.le F'):∀{L:Loc}{cs:List C}{vs:List Value},aF F L cs vs->aF F' L cs vs
 | _,[],vs,r=>by simp only[aF] at r ⊢;exact r
 | L,c::cs,vs,r=>by
  simp only[aF] at r ⊢;obtain⟨v,vs',h1,h2,h3⟩:=r;exact⟨v,vs',h1,Rel.mono h h2,aF.mono h h3⟩
theorem gF.mono {F F':aD}(h:F.le F') {a:Option Addr}{sz:Nat}:∀{i:Nat}{l:List (List C)},gF F a sz i l->gF F' a sz i l
 | _,[],r=>by simp only[gF]
 | i,es::l,r=>by
  simp only[gF] at r ⊢;obtain⟨⟨vs,h1,h2,h3,h4⟩,h5⟩:=r;exact⟨⟨vs,h1,h2.mono h,h3,aF.mono h h4⟩,gF.mono h h5⟩
end
theorem aO.mono {F F':aD}(h:F.le F') {sz:Nat}:∀{l:List (List C)}{xs:List Value},aO F sz l xs->aO F' sz l xs
 | [],xs,r=>r
 | es::l,xs,r=>by
  simp only[aO] at r ⊢;obtain⟨vs,a,f,d,c,e,b⟩:=r;exact⟨vs,a,f,d,c,e.mono h,aO.mono h b⟩
theorem jy.mono {F F':aD}(h:F.le F'):∀{l:List (C×C)}{vs:List Value},jy F l vs->jy F' l vs
 | [],vs,r=>r
 | (k,c)::l,vs,r=>by
  simp only[jy] at r ⊢;obtain⟨kv,v,a,f,d,b,e⟩:=r;exact⟨kv,v,a,f,d.mono h,b.mono h,jy.mono h e⟩
theorem di.mono {F F':aD}(h:F.le F') {L:Loc}:∀{o:TO}{p:Own},di F L o p->di F' L o p
 | .box t cs,.box g a vs,r=>⟨r.1,r.2.mono h⟩
 | .row t sz els,.row v a b n xs,r=>⟨r.1,r.2.1,r.2.2.1,r.2.2.2.1,r.2.2.2.2.mono h⟩
 | .box _ _,.row ..,r=>r.elim
 | .row ..,.box ..,r=>r.elim
 | .map _,.row ..,r=>r.elim
 | .map es,.box g a vs,r=>⟨r.1,r.2.mono h⟩
 | .win ..,.row ..,r=>r.elim
 | .win ..,.box ..,⟨k,v1,f,v3,e,c,d,j⟩=>⟨k,v1,f,v3,e,c.mono h,d.mono h,j.mono h⟩
theorem dm.mono {F F':aD}(h:F.le F') {L:Loc}{M:TL}(r:dm F L M):dm F' L M:=by
 intro k;have:=r k
 revert this
 cases M.get k<;>cases L.get k<;>simp only[Ie]<;>first | exact fun h=>h | exact fun r=>r.mono h
theorem aQ.mono {F F':aD}(h:F.le F') {L:Loc}{c:C}{sv:SV}(r:aQ F L c sv):aQ F' L c sv:=by
 cases c<;>simp only[aQ] at r ⊢
 case own=>exact r
 case pt =>
  obtain⟨b,o,j,vs,a,d,e,f⟩:=r;exact⟨b,o,j,vs,a,d.mono h,e,f.mono h⟩
 case elr=>exact r
 case slp =>
  obtain⟨g,t,cs,k,a,d,e⟩:=r;exact⟨g,t,cs,k,a,d,e.mono h⟩
 all_goals
  obtain⟨v,a,d⟩:=r;exact⟨v,a,d.mono h⟩
theorem jU {F:aD}{L:Loc}:∀{cs:List C}{vs:List Value},aF F L cs vs↔vs.length=cs.length/\∀(i:Nat) c v,cs[i]?=some c->vs[i]?=some v->Rel F L c v
 | [],vs=>by
  simp only[aF];constructor
  ·rintro rfl;simp
  ·rintro⟨h,_⟩;exact List.length_eq_zero_iff.1 (by simpa using h)
 | c::cs,vs=>by
  simp only[aF,jU (cs:=cs)];constructor
  ·rintro⟨v,b,rfl,e,f,l⟩;refine⟨by simp[f],fun i j k d a=>?_⟩;cases i with
   | zero=>simp only[aat,yo] at d a;subst d a;exact e
   | succ i=>exact l i j k (by simpa using d) (by simpa using a)
  ·rintro⟨e,f⟩
   match vs,e with
   | v::b,e=>exact⟨v,b,rfl,f 0 c v (by simp) (by simp),by simpa using e,fun i j k d a=>f (i+1) j k (by simpa using d) (by simpa using a)⟩
theorem aF.len {F:aD}{L:Loc}{cs:List C}{vs:List Value}(h:aF F L cs vs):vs.length=cs.length:=(jU.1 h).1
theorem aF.at {F:aD}{L:Loc}{cs:List C}{vs:List Value}(h:aF F L cs vs) {i:Nat}{c:C}{v:Value}(b:cs[i]?=some c) (a:vs[i]?=some v):Rel F L c v:=(jU.1 h).2 i c v b a
theorem aF.append {F:aD}{L:Loc}{cs ds:List C}{vs us:List Value}(h:aF F L cs vs) (k:aF F L ds us):aF F L (cs++ds) (vs++us):=by
 induction cs generalizing vs with
 | nil=>simp only[aF] at h;subst h;exact k
 | cons c cs b =>
  simp only[aF] at h;obtain⟨v,d,rfl,e,a⟩:=h;simp only[aay,aF];exact⟨v,_,rfl,e,b a⟩
theorem aF.drop {F:aD}{L:Loc}{cs:List C}{vs:List Value}(h:aF F L cs vs) (n:Nat):aF F L (cs.drop n) (vs.drop n):=by
 rw[jU] at h ⊢;refine⟨by simp[h.1],fun i c v b a=>?_⟩;rw[aaL] at b a;exact h.2 _ _ _ b a
theorem aF.take {F:aD}{L:Loc}{cs:List C}{vs:List Value}(h:aF F L cs vs) (n:Nat):aF F L (cs.take n) (vs.take n):=by
 rw[jU] at h ⊢;refine⟨by simp[h.1],fun i c v a b=>?_⟩;rw[aaN] at a b;split at a
 ·rw[o6 (by assumption)] at b;exact h.2 _ _ _ a b
 ·cases a
theorem mW {F:aD}{a:Option Addr}{sz:Nat}:∀{l:List (List C)}{i:Nat},gF F a sz i l↔∀(j:Nat) es,l[j]?=some es->∃vs,vs.length=sz/\bV F a ((i+j)*sz) vs/\dP es=true/\aF F [] es vs
 | [],i=>by simp[gF]
 | x::l,i=>by
  simp only[gF,mW (l:=l)];constructor
  ·rintro⟨d,c⟩ j y b;cases j with
   | zero=>simp only[aat,yo] at b;subst b;simpa using d
   | succ j =>
    simp only[aaY] at b;have:=c j y b
    rwa [show i+1+j=i+(j+1) by omega] at this
  ·intro h;refine⟨by simpa using h 0 x (by simp),fun j y b=>?_⟩;have:=h (j+1) y (by simpa using b)
   rwa [show i+(j+1)=i+1+j by omega] at this
theorem iN {F:aD}{sz:Nat}:∀{l:List (List C)}{xs:List Value},aO F sz l xs->xs.length=l.length*sz
 | [],xs,h=>by simp only[aO] at h;subst h;simp
 | es::l,xs,h=>by
  simp only[aO] at h;obtain⟨vs,b,rfl,c,_,_,a⟩:=h;simp only[aak,iN a,c,aau,Nat.add_mul];omega
theorem aO.append {F:aD}{sz:Nat}:∀{l m:List (List C)}{xs ys:List Value},aO F sz l xs->aO F sz m ys->aO F sz (l++m) (xs++ys)
 | [],m,xs,ys,h,k=>by simp only[aO] at h;subst h;exact k
 | es::l,m,xs,ys,h,k=>by
  simp only[aO] at h;obtain⟨vs,a,rfl,d,c,e,b⟩:=h;simp only[aay,aO];exact⟨vs,a++ys,by simp,d,c,e,aO.append b k⟩
theorem aO.at {F:aD}{sz:Nat}:∀{l:List (List C)}{xs:List Value},aO F sz l xs->∀{j:Nat}{es:List C},l[j]?=some es->∃vs,vs.length=sz/\dP es=true/\aF F [] es vs/\∀(i:Nat) v,vs[i]?=some v->xs[j*sz+i]?=some v
 | [],xs,h,j,es,e=>by simp at e
 | x::l,xs,h,j,es,e=>by
  simp only[aO] at h;obtain⟨vs,k,rfl,b,o,d,f⟩:=h;cases j with
  | zero =>
   simp only[aat,yo] at e;subst e;refine⟨vs,b,o,d,fun i v a=>?_⟩;have:i<vs.length:=(aai.1 a).1;rw[Nat.zero_mul,Nat.zero_add,aap this];exact a
  | succ j =>
   obtain⟨us,m,p,c,n⟩:=aO.at f (by simpa using e);refine⟨us,m,p,c,fun i v a=>?_⟩;rw[aaw (by rw[b,Nat.add_mul];omega),show(j+1)*sz+i-vs.length=j*sz+i by rw[b,Nat.add_mul];omega];exact n i v a
theorem aO.frz {F:aD}{sz:Nat}{l:List (List C)}{xs:List Value}(h:aO F sz l xs) {a:Addr}(q:bV F (some a) 0 xs):gF F (some a) sz 0 l:=by
 rw[mW];intro j es f;obtain⟨vs,p,r,s,k⟩:=h.at f;refine⟨vs,p,?_,r,s⟩;obtain⟨n,c,t,m,e,hb,b,o⟩:=q;refine⟨n,c,t,m,e,hb,b,fun i v d=>?_⟩;have:=o (j*sz+i) v (k i v d);simpa[Nat.add_assoc] using this
theorem iX:∀{l:List C},dP l=true↔∀c∈l,c.one=true
 | []=>by simp[dP]
 | c::l=>by
  simp only[dP];cases h:c.one
  ·simp[h]
  ·simp[h,iX]
theorem o9:∀{l:List C},dV l=true↔∀c∈l,c.pure=true
 | []=>by simp[dV]
 | c::l=>by
  simp only[dV];cases h:c.pure
  ·simp[h]
  ·simp[h,o9]
theorem qA:∀{l:List C},jx l=true↔∀c∈l,c.ZH=true
 | []=>by simp[jx]
 | c::l=>by
  simp only[jx];cases h:c.ZH
  ·simp[h]
  ·simp[h,qA]
theorem Rel.one {F:aD}{L:Loc}{c:C}{v:Value}(h:Rel F L c v) (d:c.one=true):v.oneCell'=true:=by
 cases c<;>simp only[C.one,aaq] at d<;>simp only[Rel] at h
 case int=>obtain⟨rfl,_⟩:=h;rfl
 case bool=>subst h;rfl
 case str=>obtain⟨rfl,_⟩:=h;rfl
 case sl=>obtain⟨a,c,rfl,_⟩:=h;rfl
 case slx=>obtain⟨a,rfl,_⟩:=h;rfl
 case nils=>subst h;rfl
 case own=>obtain⟨g,t,cs,_,rfl⟩:=h;rfl
 case ifo m _ _ _=>obtain⟨g,t,cs,_,rfl⟩:=h;cases m<;>rfl
 case pt=>obtain⟨b,o,vs,rfl,_⟩:=h;rfl
 case fn=>obtain⟨a,b,rfl,_⟩:=h;rfl
 case nilp=>subst h;rfl
 case nilf=>subst h;rfl
 case ifc=>obtain⟨u,rfl,_⟩:=h;rfl
 case opq=>exact h.one
 case mval=>obtain⟨u,rfl,_⟩:=h;rfl
 case mof=>subst h;rfl
 case mpr=>obtain⟨g,cs,_,rfl⟩:=h;rfl
 case rw=>obtain⟨a,c,t,sz,n,xs,rfl,_⟩:=h;rfl
mutual
theorem Rel.wf {F:aD}:∀{L:Loc}{c:C}{v:Value},Rel F L c v->Wf c
 | _,.int k n,v,r=>by simp only[Rel] at r;simp only[Wf];exact r.2
 | _,.bool b,v,r=>by simp only[Wf]
 | _,.str s,v,r=>by simp only[Rel] at r;simp only[Wf];exact r.2
 | _,.sl els,v,r=>by
  simp only[Rel] at r;obtain⟨a,c,h1,h2,h3,h4,sz,h5⟩:=r;simp only[Wf];exact⟨h3,gF.wf h5⟩
 | _,.slx els,v,r=>by
  simp only[Rel] at r;obtain⟨a,h1,h2,sz,h5⟩:=r;simp only[Wf];exact⟨h2,gF.wf h5⟩
 | _,.nils,v,r=>by simp only[Wf]
 | L,.rw k,v,r=>by simp only[Wf]
 | L,.own k off,v,r=>by simp only[Wf]
 | L,.ifo _ _ _ _,v,r=>by simp only[Wf]
 | _,.pt es off,v,r=>by
  simp only[Rel] at r;obtain⟨b,o,vs,h1,h2,h3,h4⟩:=r;simp only[Wf];exact aF.wf h4
 | L,.fn f fi ca,v,r=>by
  simp only[Rel] at r;obtain⟨fi',ca',h1,h2,h3⟩:=r;simp only[Wf];exact⟨aF.wf h2,aF.wf h3⟩
 | L,.agg cs,v,r=>by
  simp only[Rel] at r;obtain⟨vs,h1,h2⟩:=r;simp only[Wf];exact aF.wf h2
 | L,.tup cs,v,r=>by
  simp only[Rel] at r;obtain⟨vs,h1,h2⟩:=r;simp only[Wf];exact aF.wf h2
 | _,.nilp,v,r=>by simp only[Wf]
 | _,.nilf,v,r=>by simp only[Wf]
 | _,.ifc _ _,v,r=>by simp only[Wf]
 | _,.opq _,v,r=>by simp only[Wf]
 | _,.mval _ _,v,r=>by simp only[Wf]
 | _,.mof _ _,v,r=>by simp only[Wf]
 | _,.mpr _,v,r=>by simp only[Wf]
 | _,.und,v,r=>by simp only[Wf]
 | _,.any,v,r=>by simp only[Wf]
 | _,.ownv _ _,v,r=>by simp only[Wf]
 | _,.elr _ _ _,v,r=>by simp only[Wf]
 | _,.slo _ _,v,r=>by
  simp only[Rel] at r;obtain⟨g,t,cs,ad,h1,h2,h3,h4⟩:=r;simp only[Wf];exact h3
 | _,.slp _ _ _,v,r=>by simp only[Wf]
theorem aF.wf {F:aD}:∀{L:Loc}{cs:List C}{vs:List Value},aF F L cs vs->sK cs
 | _,[],vs,r=>by simp only[sK]
 | L,c::cs,vs,r=>by
  simp only[aF] at r;obtain⟨v,vs',h1,h2,h3⟩:=r;simp only[sK];exact⟨Rel.wf h2,aF.wf h3⟩
theorem gF.wf {F:aD}{a:Option Addr}{sz:Nat}:∀{i:Nat}{l:List (List C)},gF F a sz i l->tL l
 | _,[],r=>by simp only[tL]
 | i,es::l,r=>by
  simp only[gF] at r;obtain⟨⟨vs,h1,h2,h3,h4⟩,h5⟩:=r;simp only[tL];exact⟨aF.wf h4,gF.wf h5⟩
end
theorem aO.wf {F:aD}{sz:Nat}:∀{l:List (List C)}{xs:List Value},aO F sz l xs->tL l
 | [],xs,r=>by simp only[tL]
 | es::l,xs,r=>by
  simp only[aO] at r;obtain⟨vs,b,f,e,d,c,a⟩:=r;simp only[tL];exact⟨c.wf,a.wf⟩
theorem jy.wf {F:aD}:∀{l:List (C×C)}{vs:List Value},jy F l vs->S2 l
 | [],vs,r=>trivial
 | (k,c)::l,vs,r=>by
  simp only[jy] at r;obtain⟨kv,v,e,f,b,a,d⟩:=r;exact⟨b.wf,a.wf,jy.wf d⟩
theorem di.wf {F:aD}{L:Loc}:∀{o:TO}{p:Own},di F L o p->o.Wf
 | .box t cs,.box g a vs,r=>r.2.wf
 | .row t sz els,.row v a b n xs,r=>r.2.2.2.2.wf
 | .box _ _,.row ..,r=>r.elim
 | .row ..,.box ..,r=>r.elim
 | .map _,.row ..,r=>r.elim
 | .map es,.box g a vs,r=>r.2.wf
 | .win ..,.row ..,r=>r.elim
 | .win ..,.box ..,⟨j,v1,f,v3,e,d,c,h⟩=>c.wf
def C.leaf:C->Bool
 | .fn _ _ _=>false
 | .agg _=>false
 | .tup _=>false
 | _=>true
theorem vX {g:C->C}{n:Nat}{c:C}(h:c.leaf=true):C.mp g n c=g c:=by
 cases c<;>first | (cases n<;>rfl;done) | cases h
theorem aF.map {F F':aD}{L L':Loc}{g:C->C}:∀{cs:List C}{vs:List Value},(∀c∈cs,∀v,Rel F L c v->Rel F' L' (g c) v)->aF F L cs vs->aF F' L' (cs.map g) vs
 | [],vs,a,h=>by simp only[aF] at h;subst h;simp only[abb,aF]
 | c::cs,vs,a,h=>by
  simp only[aF] at h;obtain⟨v,b,rfl,f,e⟩:=h;simp only[aao,aF];exact⟨v,b,rfl,a c (by simp) v f,aF.map (fun c d=>a c (by simp[d])) e⟩
theorem Rel.mp {F F':aD}{L L':Loc}{g:C->C}(b:∀c v,c.leaf=true->Rel F L c v->Rel F' L' (g c) v):∀(n:Nat) {c:C}{v:Value},Rel F L c v->Rel F' L' (C.mp g n c) v
 | 0,c,v,h=>by
  cases a:c.leaf
  ·cases c<;>simp only[C.leaf,Bool.true_eq_false] at a<;>simp only[C.mp,Rel]
  ·rw[vX a];exact b c v a h
 | n+1,c,v,h=>by
  cases a:c.leaf
  ·cases c<;>simp only[C.leaf,Bool.true_eq_false] at a<;>simp only[Rel] at h<;>simp only[C.mp,Rel]
   ·obtain⟨f,j,e,d,k⟩:=h;exact⟨f,j,e,d.map fun c _ v=>Rel.mp b n,k.map fun c _ v=>Rel.mp b n⟩
   ·obtain⟨vs,e,d⟩:=h;exact⟨vs,e,d.map fun c _ v=>Rel.mp b n⟩
   ·obtain⟨vs,e,d⟩:=h;exact⟨vs,e,d.map fun c _ v=>Rel.mp b n⟩
  ·rw[vX a];exact b c v a h
theorem aQ.mp {F F':aD}{L L':Loc}{g:C->C}(b:∀c v,c.leaf=true->Rel F L c v->Rel F' L' (g c) v) (e:∀c sv,c.leaf=true->aQ F L c sv->aQ F' L' (g c) sv) (n:Nat) {c:C}{sv:SV}
  (h:aQ F L c sv):aQ F' L' (C.mp g n c) sv:=by
 cases a:c.leaf
 ·have d:∃v,sv=.v v/\Rel F L c v:=by cases c<;>simp only[C.leaf,Bool.true_eq_false] at a<;>exact h
  obtain⟨v,rfl,f⟩:=d;have j:=Rel.mp b n f;cases n with
  | zero=>cases c<;>simp only[C.leaf,Bool.true_eq_false] at a<;>simp only[C.mp,aQ]
  | succ n=>cases c<;>simp only[C.leaf,Bool.true_eq_false] at a<;>exact⟨v,rfl,j⟩
 ·rw[vX a];exact e c sv a h
def Ext (L L':Loc):Prop:=∀k o,L.get k=some o->∃o',L'.get k=some o'/\Own.like o o'
theorem Ext.refl (L:Loc):Ext L L:=fun k o h=>⟨o,h,Own.ZD o⟩
theorem rp {F F':aD}{L L':Loc}(l:F.le F') {k:Nat}{a:List Nat}{v:Value}(n:∀o,L.get k=some o->∃o',L'.get k=some o'/\Own.like o o') (h:Rel F L (.slo k a) v):Rel F' L' (.slo k a) v:=by
 simp only[Rel] at h ⊢;obtain⟨g,t,cs,d,e,j,m,c⟩:=h;obtain⟨o',f,b⟩:=n _ e;cases o' with
 | row=>exact b.elim
 | box q p cs'=>obtain⟨rfl,rfl⟩:=b;exact⟨_,_,_,d,f,j,m,c.mono l⟩
theorem tM {F F':aD}{L L':Loc}(b:F.le F') {k:Nat}{a:List Nat}{sv:SV}(d:∀o,L.get k=some o->∃o',L'.get k=some o'/\Own.like o o') (h:aQ F L (.slo k a) sv):aQ F' L' (.slo k a) sv:=by
 simp only[aQ] at h ⊢;obtain⟨v,e,c⟩:=h;exact⟨v,e,rp b d c⟩
theorem Ig {F F':aD}{L L':Loc}(l:F.le F') {k j:Nat}{a:List Nat}{sv:SV}(n:∀o,L.get k=some o->∃o',L'.get k=some o'/\Own.like o o') (h:aQ F L (.slp k a j) sv):aQ F' L' (.slp k a j) sv:=by
 simp only[aQ] at h ⊢;obtain⟨g,t,cs,c,d,f,m⟩:=h;obtain⟨o',e,b⟩:=n _ d;cases o' with
 | row=>exact b.elim
 | box q p cs'=>obtain⟨rfl,rfl⟩:=b;exact⟨_,_,_,c,e,f,m.mono l⟩
theorem bC {F F':aD}{L L':Loc}(l:F.le F') {c:C}{v:Value}(q:∀k,(∃off,c=.own k off)\/c=.rw k\/c=.mpr k\/(∃m t off,c=.ifo m t k off)\/(∃j off,c=.elr k j off)->∀o,L.get k=some o->∃o',L'.get k=some o'/\Own.like o o') (hc:c.leaf=true) (h:Rel F L c v) (hs:∀k p,c≠.slo k p:=by exact fun _ _ e=>by cases e):Rel F' L' c v:=by
 cases c<;>simp only[C.leaf,aaq] at hc
 case slo=>exact vv rfl (hs _ _)
 case slp=>exact h.elim
 case rw k =>
  simp only[Rel] at h ⊢;obtain⟨a,c,t,sz,n,xs,rfl,h⟩:=h;obtain⟨o',f,d⟩:=q k (.inr (.inl rfl)) _ h;cases o' with
  | box=>exact d.elim
  | row v' r s n' y=>obtain⟨rfl,rfl,rfl⟩:=d;exact⟨_,_,_,_,_,_,rfl,f⟩
 case mpr k =>
  simp only[Rel] at h ⊢;obtain⟨g,cs,h,rfl⟩:=h;obtain⟨o',f,d⟩:=q k (.inr (.inr (.inl rfl))) _ h;cases o' with
  | row=>exact d.elim
  | box g' r cs'=>obtain⟨rfl,rfl⟩:=d;exact⟨_,_,f,rfl⟩
 case own k off =>
  simp only[Rel] at h ⊢;obtain⟨g,t,cs,h,rfl⟩:=h;obtain⟨o',f,d⟩:=q k (.inl ⟨off,rfl⟩) _ h;cases o' with
  | row=>exact d.elim
  | box g' r cs'=>obtain⟨rfl,rfl⟩:=d;exact⟨_,_,_,f,rfl⟩
 case ifo m ti k off =>
  simp only[Rel] at h ⊢;obtain⟨g,t,cs,h,rfl⟩:=h;obtain⟨o',f,d⟩:=q k (.inr (.inr (.inr (.inl ⟨m,ti,off,rfl⟩)))) _ h;cases o' with
  | row=>exact d.elim
  | box g' r cs'=>obtain⟨rfl,rfl⟩:=d;exact⟨_,_,_,f,rfl⟩
 case elr k j off =>
  simp only[Rel] at h ⊢;obtain⟨ad,t,sz,n,c,xs,rfl,h⟩:=h;obtain⟨o',f,d⟩:=q k (.inr (.inr (.inr (.inr ⟨j,off,rfl⟩)))) _ h;cases o' with
  | box=>exact d.elim
  | row v' r s n' y=>obtain⟨rfl,rfl,rfl⟩:=d;exact⟨_,_,_,_,_,_,rfl,f⟩
 case sl =>
  simp only[Rel] at h ⊢;obtain⟨a,c,f,d,z,w,sz,x⟩:=h;exact⟨a,c,f,d,z,w,sz,x.mono l⟩
 case slx =>
  simp only[Rel] at h ⊢;obtain⟨a,f,d,sz,x⟩:=h;exact⟨a,f,d,sz,x.mono l⟩
 case pt =>
  simp only[Rel] at h ⊢;obtain⟨b,o,vs,f,d,z,w⟩:=h;exact⟨b,o,vs,f,d.mono l,z,w.mono l⟩
 case ifc =>
  simp only[Rel] at h ⊢;obtain⟨u,f,d⟩:=h;exact⟨u,f,d.mono l⟩
 case opq =>
  simp only[Rel] at h ⊢;exact h.mono l
 case mval =>
  simp only[Rel] at h ⊢;obtain⟨u,f,d⟩:=h;exact⟨u,f,d.mono l⟩
 all_goals
  first
   | exact h
   | (simp only[Rel] at h ⊢;done)
mutual
theorem Rel.ext {F F':aD}(hF:F.le F') {L L':Loc}(hk:Ext L L'):∀{c:C}{v:Value},Rel F L c v->Rel F' L' c v
 | .fn f fi ca,v,r=>by
  simp only[Rel] at r ⊢;obtain⟨fi',ca',h1,h2,h3⟩:=r;exact⟨fi',ca',h1,aF.ext hF hk h2,aF.ext hF hk h3⟩
 | .agg cs,v,r=>by
  simp only[Rel] at r ⊢;obtain⟨vs,h1,h2⟩:=r;exact⟨vs,h1,aF.ext hF hk h2⟩
 | .tup cs,v,r=>by
  simp only[Rel] at r ⊢;obtain⟨vs,h1,h2⟩:=r;exact⟨vs,h1,aF.ext hF hk h2⟩
 | .int _ _,v,r=>bC hF (fun k _=>hk k) rfl r
 | .bool _,v,r=>bC hF (fun k _=>hk k) rfl r
 | .str _,v,r=>bC hF (fun k _=>hk k) rfl r
 | .sl _,v,r=>bC hF (fun k _=>hk k) rfl r
 | .slx _,v,r=>bC hF (fun k _=>hk k) rfl r
 | .nils,v,r=>bC hF (fun k _=>hk k) rfl r
 | .rw _,v,r=>bC hF (fun k _=>hk k) rfl r
 | .own _ _,v,r=>bC hF (fun k _=>hk k) rfl r
 | .ifo _ _ _ _,v,r=>bC hF (fun k _=>hk k) rfl r
 | .pt _ _,v,r=>bC hF (fun k _=>hk k) rfl r
 | .nilp,v,r=>bC hF (fun k _=>hk k) rfl r
 | .nilf,v,r=>bC hF (fun k _=>hk k) rfl r
 | .ifc _ _,v,r=>bC hF (fun k _=>hk k) rfl r
 | .opq _,v,r=>bC hF (fun k _=>hk k) rfl r
 | .mval _ _,v,r=>bC hF (fun k _=>hk k) rfl r
 | .mof _ _,v,r=>bC hF (fun k _=>hk k) rfl r
 | .mpr _,v,r=>bC hF (fun k _=>hk k) rfl r
 | .und,v,r=>bC hF (fun k _=>hk k) rfl r
 | .any,v,r=>by simp only[Rel]
 | .ownv _ _,v,r=>r.elim
 | .elr _ _ _,v,r=>bC hF (fun k _=>hk k) rfl r
 | .slo k _,v,r=>rp hF (hk k) r
 | .slp _ _ _,v,r=>r.elim
theorem aF.ext {F F':aD}(hF:F.le F') {L L':Loc}(hk:Ext L L'):∀{cs:List C}{vs:List Value},aF F L cs vs->aF F' L' cs vs
 | [],vs,r=>by simp only[aF] at r ⊢;exact r
 | c::cs,vs,r=>by
  simp only[aF] at r ⊢;obtain⟨v,vs',h1,h2,h3⟩:=r;exact⟨v,vs',h1,Rel.ext hF hk h2,aF.ext hF hk h3⟩
end
theorem Ext.nil (L:Loc):Ext [] L:=fun k o h=>by cases h
theorem aF.lift {F:aD}{L:Loc}{cs:List C}{vs:List Value}(h:aF F [] cs vs):aF F L cs vs:=h.ext (aD.le_refl F) (Ext.nil L)
theorem Rel.lift {F:aD}{L:Loc}{c:C}{v:Value}(h:Rel F [] c v):Rel F L c v:=h.ext (aD.le_refl F) (Ext.nil L)
theorem cW {F F':aD}{L L':Loc}(q:F.le F') {c:C}{sv:SV}(r:∀k,(∃off,c=.own k off)\/(∃off,c=.ownv k off)\/c=.rw k\/(∃j off,c=.elr k j off)\/c=.mpr k\/(∃m t off,c=.ifo m t k off)->∀o,L.get k=some o->∃o',L'.get k=some o'/\Own.like o o') (hc:c.leaf=true) (h:aQ F L c sv) (u:(∀k a,c≠.slo k a)/\(∀k a j,c≠.slp k a j):=by exact⟨fun _ _ e=>(by cases e),fun _ _ _ e=>(by cases e)⟩):aQ F' L' c sv:=by
 cases c<;>simp only[C.leaf,aaq] at hc
 case slo=>exact vv rfl (u.1 _ _)
 case slp=>exact vv rfl (u.2 _ _ _)
 case own k off =>
  simp only[aQ] at h ⊢;obtain⟨rfl,g,t,cs,h⟩:=h;obtain⟨o',p,f⟩:=r k (.inl ⟨off,rfl⟩) _ h;cases o' with
  | row=>exact f.elim
  | box g' z cs'=>exact⟨rfl,_,_,_,p⟩
 case ownv k off =>
  simp only[aQ] at h ⊢;obtain⟨v,w,h⟩:=h;refine⟨v,w,bC q (fun s d=>r s ?_) rfl h⟩;rcases d with⟨l,e⟩ | e | e | ⟨_,_,_,e⟩ | ⟨_,_,e⟩
  ·injection e with e1 e2;subst e1;exact .inr (.inl ⟨off,rfl⟩)
  ·cases e
  ·cases e
  ·cases e
  ·cases e
 case pt =>
  simp only[aQ] at h ⊢;obtain⟨b,o,j,vs,p,f,h3,y⟩:=h;exact⟨b,o,j,vs,p,f.mono q,h3,y.mono q⟩
 case elr k j off =>
  simp only[aQ] at h ⊢;obtain⟨ad,t,sz,n,c,xs,rfl,h⟩:=h;obtain⟨o',p,f⟩:=r k (.inr (.inr (.inr (.inl ⟨_,_,rfl⟩)))) _ h;cases o' with
  | box=>exact f.elim
  | row v' z x n' ab =>
   obtain⟨rfl,rfl,rfl⟩:=f;exact⟨_,_,_,_,_,_,rfl,p⟩
 all_goals first | (simp only[aQ];done) | skip
 all_goals
  simp only[aQ] at h ⊢;obtain⟨v,rfl,h⟩:=h;refine⟨v,rfl,bC q (fun s d=>r s ?_) rfl h⟩;rcases d with⟨l,e⟩ | e | e | ⟨_,_,_,e⟩ | ⟨_,_,e⟩
  ·cases e
  ·first | cases e;exact .inr (.inr (.inl rfl)) | cases e
  ·first | cases e;exact .inr (.inr (.inr (.inr (.inl rfl)))) | cases e
  ·first | cases e;exact .inr (.inr (.inr (.inr (.inr ⟨_,_,_,rfl⟩)))) | cases e
  ·cases e
theorem aQ.ext {F F':aD}{L L':Loc}(f:F.le F') (l:Ext L L') {c:C}{sv:SV}(h:aQ F L c sv):aQ F' L' c sv:=by
 cases m:c.leaf
 ·have n:∃v,sv=.v v/\Rel F L c v:=by cases c<;>simp only[C.leaf,Bool.true_eq_false] at m<;>exact h
  obtain⟨v,rfl,b⟩:=n;have d:=b.ext f l;cases c<;>simp only[C.leaf,Bool.true_eq_false] at m<;>exact⟨v,rfl,d⟩
 ·by_cases b:∃k a,c=.slo k a
  ·obtain⟨k,a,rfl⟩:=b;exact tM f (l k) h
  ·by_cases d:∃k a j,c=.slp k a j
   ·obtain⟨k,a,j,rfl⟩:=d;exact Ig f (l k) h
   ·exact cW f (fun k _=>l k) m h ⟨fun k a e=>b ⟨k,a,e⟩,fun k a j e=>d ⟨k,a,j,e⟩⟩
theorem di.ext {F F':aD}{L L':Loc}(a:F.le F') (c:Ext L L'):∀{o:TO}{p:Own},di F L o p->di F' L' o p
 | .box t cs,.box g b vs,r=>⟨r.1,r.2.ext a c⟩
 | .row t sz els,.row v b d n xs,r=>⟨r.1,r.2.1,r.2.2.1,r.2.2.2.1,r.2.2.2.2.mono a⟩
 | .box _ _,.row ..,r=>r.elim
 | .row ..,.box ..,r=>r.elim
 | .map _,.row ..,r=>r.elim
 | .map es,.box g b vs,r=>⟨r.1,r.2.mono a⟩
 | .win ..,.row ..,r=>r.elim
 | .win ..,.box ..,⟨l,v1,j,v3,e,f,h,k⟩=>⟨l,v1,j,v3,e,f.mono a,h.ext a c,k.mono a⟩
end Go.Fr.T
