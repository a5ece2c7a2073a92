/- Part of the proofs of the statements of this seat. -/
import Derived.Test.YtnlegbokpofcaaaGreatDoorFW0
import Derived.Scope
set_option maxRecDepth 10000
set_option linter.unusedVariables false
set_option linter.unusedSimpArgs false
namespace Go.Fr
open Go Go.RowKit
def bI:eH->List X
 | .mov x | .nilck x | .mkmv _ x | .conv _ x | .un _ x | .eqN _ x | .fieldA _ x | .fieldV _ _ _ x | .extr x _ | .len x | .lenS x | .capa x | .loadD _ _ x | .boxD _ x | .b2sD x | .b2sR x | .loadK _ _ _ x | .loadF _ _ x | .loadR _ _ x | .mlen x | .makeSV _ _ _ _ x=>[x]
 | .mlook _ _ _ x i=>[x,i]
 | .pick c a b=>[c,a,b]
 | .bin _ x y | .eqB _ x y | .eqP _ x y | .eqS _ x y | .eqF _ x y | .eqA _ _ x y | .idxA _ x y | .idxS x y=>[x,y]
 | .build _ ps=>ps.map (·.2.2)
 | .mkfn _ a b=>a++b
 | .slc _ x lo hi | .slcS x lo hi=>x::(lo.toList++hi.toList)
 | .mm _ l | .mkFD _ _ _ l=>l
 | .callD _ l=>l
 | .callVD f l=>f::l
 | .allocD _ _=>[]
 | .appD _ _ _ _ s x=>[s,x]
 | .storeD _ a x=>[a,x]
 | .storeK _ _ a x=>[a,x]
 | _=>[]
def dm:eH->Bool
 | .mov _ | .nilck _ | .mkmv _ _ | .conv _ _ | .un _ _ | .fieldA _ _ | .fieldV _ _ _ _ | .extr _ _ | .len _ | .lenS _ | .capa _ | .loadD _ _ _ | .pick _ _ _
 | .bin _ _ _ | .eqB _ _ _ | .eqP _ _ _ | .eqS _ _ _ | .eqF _ _ _ | .eqN _ _ | .eqA _ _ _ _ | .idxA _ _ _ | .idxS _ _ | .build _ _ | .mkfn _ _ _ | .slc _ _ _ _ | .slcS _ _ _ | .mm _ _ | .b2sD _ | .b2sR _ | .loadK _ _ _ _ | .loadF _ _ _ | .gload _ | .loadR _ _ _ | .mlook _ _ _ _ _ | .mlen _=>true
 | _=>false
def Jr:eH->Bool
 | .b2sR _ | .loadR _ _ _ | .mlook _ _ _ _ _ | .mlen _=>true
 | _=>false
def iz:eH->Bool
 | .callD _ _ | .callVD _ _=>true
 | _=>false
def eW:eH->Bool
 | .mkFD _ _ _ _ | .boxD _ _ | .allocD _ _ | .makeSD _ _ _ _ | .makeSV _ _ _ _ _=>true
 | _=>false
def ql:eH->Bool
 | .appD _ _ _ _ _ _=>true
 | _=>false
def iT:eH->Bool
 | .storeD _ _ _=>true
 | .storeK _ _ _ _=>true
 | _=>false
def CR:eH->Bool
 | .mov _ | .nilck _ | .mkmv _ _ | .conv _ _ | .un _ _ | .fieldA _ _ | .fieldV _ _ _ _ | .extr _ _ | .len _ | .lenS _ | .capa _ | .pick _ _ _
 | .bin _ _ _ | .eqB _ _ _ | .eqP _ _ _ | .eqS _ _ _ | .eqF _ _ _ | .eqN _ _ | .eqA _ _ _ _ | .idxA _ _ _ | .idxS _ _ | .slc _ _ _ _ | .slcS _ _ _ | .mm _ _=>true
 | _=>false
theorem CS {o:eH}(h:CR o=true):dm o=true:=by cases o<;>first | rfl | cases h
theorem Ad {o:eH}(h:CR o=true) {F F':aD}{L L':Loc}{ρ:Env}{V:SV->Prop}(a:aL o F L ρ V):aL o F' L' ρ V:=by
 cases o<;>first | (cases h;done) | exact a
def drawn:eH->Option eH
 | .load a n x=>some (.loadD a n x)
 | .call f l=>some (.callD f l)
 | .callV f l=>some (.callVD f l)
 | .box t x=>some (.boxD t x)
 | .alloc t z=>some (.allocD t z)
 | .mkF e n sz l=>some (.mkFD e n sz l)
 | .app e sz b z s x=>some (.appD e sz b z s x)
 | .store n a x=>some (.storeD n a x)
 | .b2s x=>some (.b2sD x)
 | .boxD _ _ | .allocD _ _ | .mkFD _ _ _ _ | .callD _ _ | .callVD _ _ | .loadD _ _ _ | .appD _ _ _ _ _ _ | .storeD _ _ _ | .boxF _ _ | .callO _ _ | .callVO _ _ | .appX _ _ _ _ _ _ | .b2sD _ | .b2sR _ | .makeSD _ _ _ _ | .makeSV _ _ _ _ _ | .loadK _ _ _ _ | .storeK _ _ _ _ | .copyX _ _ _ _ | .storeX _ _ _ | .look _ _ | .makeS _ _ _ _ _ _ | .loadF _ _ _ | .loadR _ _ _ | .mkmap | .mupd _ _ _ _ | .mrange _ | .mnext _ | .mentry _=>none
 | o=>some o
def Bk:X->Option Int
 | .c (.int _ n)=>some n
 | _=>none
def Rh (b:Nat) (n m:Int):Bool:=Nat.ble (n.toNat*b) 140737488355328&&Nat.ble n.toNat 9223372036854775807&&(match n,m with | .ofNat a,.ofNat b=>Nat.beq a b | _,_=>false)
def og (bx:List Nat):eH->Option eH
 | .makeS e sz b zs l c=>match Bk l,Bk c with
  | some n,some m=>match Rh b n m with
   | true=>some (.makeSD e sz n.toNat zs)
   | false=>none
  | _,_=>match l,c with
   | .t i,.t j=>match Nat.beq i j with
    | true=>some (.makeSV e sz b zs (.t i))
    | false=>none
   | _,_=>none
 | .mkR e 0 sz []=>some (.makeSD e sz 0 (List.replicate sz undef))
 | .load a n (.t i)=>match fW bx i with | true=>some (.loadK i a n (.t i)) | false=>some (.loadD a n (.t i))
 | .store n (.t i) x=>match fW bx i with | true=>some (.storeK i n (.t i) x) | false=>some (.storeD n (.t i) x)
 | o=>drawn o
def PN:List (Nat×Nat)->Nat->Option Nat
 | [],_=>none
 | (i,k)::l,j=>match Nat.beq i j with | true=>some k | false=>PN l j
def u9 (fl:List Nat) (bk:List (Nat×Nat)) (bx:List Nat):eH->Option eH
 | .load a n (.t i)=>match fW fl i with
  | true=>some (.loadF a n (.t i))
  | false=>match PN bk i with
   | some key=>match Nat.beq key 999999 with
    | true=>some (.loadR a n (.t i))
    | false=>some (.loadK key a n (.t i))
   | none=>og bx (.load a n (.t i))
 | .b2s (.t i)=>match fW fl i with
  | true=>some (.b2sR (.t i))
  | false=>og bx (.b2s (.t i))
 | o=>og bx o
def xN:eH->Option eH
 | .call f l=>some (.callO f l)
 | .callV f l=>some (.callVO f l)
 | .app e sz b z s x=>some (.appX e sz b z s x)
 | .copy e sz a b=>some (.copyX e sz a b)
 | .store n a x=>some (.storeX n a x)
 | .mupd str x i v=>some (.mupd str x i v)
 | _=>none
section
variable {P:Program}{F:aD}{L:Loc}{ρ:Env}{K:cQ}
theorem cF {o:eH}(h:dm o=true) (d:Option Nat):evalOp P o d F L ρ K=aL o F L ρ fun v=>K F L (put d v ρ):=by
 cases o<;>first | rfl | cases h
structure One (T:(SV->Prop)->Prop):Prop where
 ex:∀V,T V->∃v,T (fun u=>u=v)/\V v
 mono:∀V V':SV->Prop,(∀v,V v->V' v)->T V->T V'
theorem One.ret (v:SV):One fun V=>V v:=⟨fun V h=>⟨v,rfl,h⟩,fun V V' h k=>h v k⟩
theorem One.no:One fun _=>False:=⟨fun V h=>h.elim,fun V V' h k=>k⟩
theorem One.and {p:Prop}{T:(SV->Prop)->Prop}(h:One T):One fun V=>p/\T V :=
 ⟨fun V ⟨b,a⟩=>let⟨v,h1,h2⟩:=h.ex V a;⟨v,⟨b,h1⟩,h2⟩,fun V V' c ⟨b,a⟩=>⟨b,h.mono V V' c a⟩⟩
theorem One.fit {k:IntKind}{n:Int}{T:Int->(SV->Prop)->Prop}(h:∀m,One (T m)):One fun V=>Fit k n fun m=>T m V :=
 ⟨fun V ⟨a⟩=>let⟨v,h1,h2⟩:=(h _).ex V a;⟨v,⟨h1⟩,h2⟩,fun V V' b ⟨a⟩=>⟨(h _).mono V V' b a⟩⟩
theorem One.nz {n:Int}{T:(SV->Prop)->Prop}(h:One T):One fun V=>mr n (T V) :=
 ⟨fun V ⟨b,a⟩=>let⟨v,h1,h2⟩:=h.ex V a;⟨v,⟨b,h1⟩,h2⟩,fun V V' c ⟨b,a⟩=>⟨b,h.mono V V' c a⟩⟩
theorem One.inb {i n:Int}{T:(SV->Prop)->Prop}(h:One T):One fun V=>Mu i n (T V) :=
 ⟨fun V ⟨c,a,b⟩=>let⟨v,h1,h2⟩:=h.ex V b;⟨v,⟨c,a,h1⟩,h2⟩,fun V V' d ⟨c,a,b⟩=>⟨c,a,h.mono V V' d b⟩⟩
theorem One.idx {a:Option Addr}{i n:Int}{T:(SV->Prop)->Prop}(h:One T):One fun V=>FG a i n (T V) :=
 ⟨fun V ⟨e,b,d,c⟩=>let⟨v,h1,h2⟩:=h.ex V c;⟨v,⟨e,b,d,h1⟩,h2⟩,fun V V' f ⟨e,b,d,c⟩=>⟨e,b,d,h.mono V V' f c⟩⟩
theorem One.slc {l h:Int}{c:Nat}{T:Nat->Nat->(SV->Prop)->Prop}(f:∀l h,One (T l h)):One fun V=>nP l h c fun l h=>T l h V :=
 ⟨fun V ⟨e,a,d,b⟩=>let⟨v,h1,h2⟩:=(f _ _).ex V b;⟨v,⟨e,a,d,h1⟩,h2⟩,fun V V' j ⟨e,a,d,b⟩=>⟨e,a,d,(f _ _).mono V V' j b⟩⟩
theorem One.loadD {a:Option Addr}{j n:Nat}{T:List Value->(SV->Prop)->Prop}(h:∀cs,One (T cs)):One fun V=>iR F a j n fun cs=>T cs V :=
 ⟨fun V ⟨cs,d,b,c⟩=>let⟨v,h1,h2⟩:=(h _).ex V c;⟨v,⟨cs,d,b,h1⟩,h2⟩,fun V V' e ⟨cs,d,b,c⟩=>⟨cs,d,b,(h _).mono V V' e c⟩⟩
theorem One.aaG {a:Option Addr}{j n:Nat}{T:List Value->(SV->Prop)->Prop}(h:∀cs,One (T cs)):One fun V=>jM F L a j n fun cs=>T cs V :=
 ⟨fun V ⟨cs,d,b,c⟩=>let⟨v,h1,h2⟩:=(h _).ex V c;⟨v,⟨cs,d,b,h1⟩,h2⟩,fun V V' e ⟨cs,d,b,c⟩=>⟨cs,d,b,(h _).mono V V' e c⟩⟩
theorem One.aaJ {g:Nat}{T:Nat->List Value->(SV->Prop)->Prop}(h:∀k cs,One (T k cs)):One fun V=>CF L g fun k cs=>T k cs V :=
 ⟨fun V ⟨k,cs,c,a,b⟩=>let⟨v,h1,h2⟩:=(h _ _).ex V b;⟨v,⟨k,cs,c,a,h1⟩,h2⟩,fun V V' d ⟨k,cs,c,a,b⟩=>⟨k,cs,c,a,(h _ _).mono V V' d b⟩⟩
theorem One.mlk {str:Bool}{cs:List Value}{key:Value}{ok:Bool}{z:Value}:One fun V=>FI str cs key ok z fun v=>V (.v v) :=
 ⟨fun V h=>by
  rcases h.out with⟨i,v,a,b⟩ | ⟨a,b⟩
  ·exact⟨_,⟨.inl ⟨i,v,a,rfl⟩⟩,b⟩
  ·exact⟨_,⟨.inr ⟨a,rfl⟩⟩,b⟩,fun V V' c h=>⟨h.out.imp (fun⟨i,v,a,b⟩=>⟨i,v,a,c _ b⟩) fun⟨a,b⟩=>⟨a,c _ b⟩⟩⟩
theorem One.gl {g:Nat}{T:Value->(SV->Prop)->Prop}(h:∀v,One (T v)):One fun V=>Tg F g fun v=>T v V :=
 ⟨fun V ⟨u,t,a,c,b⟩=>let⟨v,h1,h2⟩:=(h _).ex V b;⟨v,⟨u,t,a,c,h1⟩,h2⟩,fun V V' d ⟨u,t,a,c,b⟩=>⟨u,t,a,c,(h _).mono V V' d b⟩⟩
theorem One.bytes {cs:List Value}{T:List UInt8->(SV->Prop)->Prop}(h:∀bs,One (T bs)):One fun V=>Bg cs fun bs=>T bs V :=
 ⟨fun V ⟨bs,b,a⟩=>let⟨v,h1,h2⟩:=(h _).ex V a;⟨v,⟨bs,b,h1⟩,h2⟩,fun V V' c ⟨bs,b,a⟩=>⟨bs,b,(h _).mono V V' c a⟩⟩
theorem One.binI {op:BinOp}{k:IntKind}{a b:Int}:One fun V=>binI op k a b fun v=>V (.v v):=by
 cases op<;>simp only[Fr.binI]<;>first
  | exact One.no
  | exact One.ret _
  | exact One.fit fun _=>One.ret _
  | exact One.nz (One.fit fun _=>One.ret _)
  | exact One.nz (One.ret _)
theorem One.shI {op:BinOp}{k:IntKind}{a b:Int}:One fun V=>shI op k a b fun v=>V (.v v):=by
 cases op<;>simp only[Fr.shI]<;>first
  | exact One.no
  | exact One.and (One.fit fun _=>One.ret _)
  | exact One.and (One.ret _)
theorem One.binS {op:BinOp}{a b:ByteArray}:One fun V=>binS op a b fun v=>V (.v v):=by
 cases op<;>simp only[Fr.binS]<;>first
  | exact One.no
  | exact One.ret _
  | exact One.and (One.ret _)
theorem fM {o:eH}(h:dm o=true):One (aL o F L ρ):=by
 cases o<;>first | (cases h;done) | skip
 case b2sR x =>
  show One fun V=>aL _ F L ρ V;simp only[aL];cases e:ev ρ x with
  | own k off=>exact One.no
  | el a j=>exact One.no
  | v x =>
   cases x<;>try exact One.no
   exact⟨fun V ⟨k,t,c,bs,h1,z,h3,w⟩=>⟨_,⟨k,t,c,bs,h1,z,h3,rfl⟩,w⟩,fun V V' hv ⟨k,t,c,bs,h1,z,h3,w⟩=>⟨k,t,c,bs,h1,z,h3,hv _ w⟩⟩
 case mov x=>exact One.ret _
 case pick c a b =>
  show One fun V=>aL _ F L ρ V;simp only[aL];cases e:ev ρ c with
  | v x =>
    cases x<;>try exact One.no
    rename_i b;cases b<;>exact One.ret _
  | own k off=>exact One.no
  | el a j=>exact One.no
 case build zs ps =>
  show One fun V=>aL _ F L ρ V;simp only[aL];cases e:built L ρ zs ps with
  | none=>exact One.no
  | some cs=>exact One.ret _
 case loadD ag n x =>
  show One fun V=>aL _ F L ρ V;simp only[aL];cases e:ev ρ x with
  | own k off =>
   simp only[];cases m:L.get k with
   | none=>exact One.no
   | some p =>
    cases p with
    | row=>exact One.no
    | box g t cs =>
     simp only[];cases e3:jg t ((cs.drop off).take n) n
     ·exact One.no
     ·exact One.ret _
  | el a j=>exact One.loadD fun _=>One.ret _
  | v x =>
   cases x<;>try exact One.no
   rename_i a;cases a
   ·exact One.no
   ·exact One.loadD fun _=>One.ret _
 case gload g =>
  show One fun V=>aL _ F L ρ V;simp only[aL];exact One.gl fun _=>One.ret _
 case loadR ag n x =>
  show One fun V=>aL _ F L ρ V;simp only[aL];cases e:ev ρ x with
  | own k off =>
   simp only[];cases m:L.get k with
   | none=>exact One.no
   | some p =>
    cases p with
    | row=>exact One.no
    | box g t cs =>
     simp only[];cases e3:jg t ((cs.drop off).take n) n
     ·exact One.no
     ·exact One.ret _
  | el a j=>exact One.aaG fun _=>One.ret _
  | v x =>
   cases x<;>try exact One.no
   rename_i a;cases a
   ·exact One.no
   ·exact One.aaG fun _=>One.ret _
 case mlook str ok z0 x i =>
  show One fun V=>aL _ F L ρ V;simp only[aL];cases e:ev ρ x with
  | own k off=>exact One.no
  | el a j=>exact One.no
  | v x =>
   cases x<;>try exact One.no
   rename_i a;cases a
   ·exact One.no
   ·exact One.aaJ fun k cs=>One.mlk
 case mlen x =>
  show One fun V=>aL _ F L ρ V;simp only[aL];cases e:ev ρ x with
  | own k off=>exact One.no
  | el a j=>exact One.no
  | v x =>
   cases x<;>try exact One.no
   rename_i a;cases a
   ·exact One.no
   ·exact One.aaJ fun k cs=>One.ret _
 case loadF ag n x =>
  show One fun V=>aL _ F L ρ V;simp only[aL];cases e:ev ρ x with
  | own k off=>exact One.no
  | el a j=>exact One.loadD fun _=>One.ret _
  | v x =>
   cases x<;>try exact One.no
   rename_i a;cases a
   ·exact One.no
   ·exact One.loadD fun _=>One.ret _
 case loadK key ag n x =>
  show One fun V=>aL _ F L ρ V;simp only[aL];cases e:ev ρ x with
  | own k off =>
   simp only[];cases e1:Nat.beq k key with
   | false=>exact One.no
   | true =>
    simp only[];cases m:L.get k with
    | none=>exact One.no
    | some p =>
     cases p with
     | row=>exact One.no
     | box g t cs =>
      simp only[];cases e3:jg t ((cs.drop off).take n) n
      ·exact One.no
      ·exact One.ret _
  | el a j=>exact One.no
  | v x=>exact One.no
 case b2sD x =>
  show One fun V=>aL _ F L ρ V;simp only[aL];cases e:ev ρ x with
  | own k off=>exact One.no
  | el a j=>exact One.no
  | v x =>
   cases x<;>try exact One.no
   exact One.loadD fun _=>One.bytes fun _=>One.ret _
 case nilck x =>
  show One fun V=>aL _ F L ρ V;simp only[aL];cases e:ev ρ x with
  | own k off=>exact One.ret _
  | el a j=>exact One.and (One.ret _)
  | v x =>
   cases x<;>try exact One.no
   ·rename_i a;cases a
    ·exact One.no
    ·exact One.ret _
   ·rename_i f a b;cases f<;>first
     | exact One.no
     | exact One.ret _
     | (simp only[]
        split
        ·exact One.and (One.ret _)
        ·exact One.no)
 case mkmv nm x =>
  show One fun V=>aL _ F L ρ V;simp only[aL];cases e:ev ρ x with
  | own k off=>exact One.no
  | el a j=>exact One.no
  | v x=>exact One.ret _
 case bin op x y =>
  show One fun V=>aL _ F L ρ V;simp only[aL];cases e:ev ρ x with
  | own k off=>exact One.no
  | el a j=>exact One.no
  | v u =>
   cases m:ev ρ y with
   | own k off=>cases u<;>exact One.no
   | el a j=>cases u<;>exact One.no
   | v d =>
    cases u<;>cases d<;>try exact One.no
    ·simp only[];cases I4 op
     ·simp only[];rename_i k n k' n';cases qy k k'
      ·exact One.no
      ·exact One.binI
     ·exact One.shI
    ·exact One.binS
 case eqB ng x y =>
  show One fun V=>aL _ F L ρ V;simp only[aL];cases e:ev ρ x with
  | own k off=>exact One.no
  | el a j=>exact One.no
  | v u =>
   cases m:ev ρ y with
   | own k off=>cases u<;>exact One.no
   | el a j=>cases u<;>exact One.no
   | v d=>cases u<;>cases d<;>first | exact One.no | exact One.ret _
 case eqP ng x y =>
  show One fun V=>aL _ F L ρ V;simp only[aL];cases e:ev ρ x with
  | own k off =>
   cases m:ev ρ y with
   | own k off=>exact One.no
   | el a j=>exact One.no
   | v d =>
    cases d<;>try exact One.no
    rename_i p;cases p<;>first | exact One.no | exact One.ret _
  | el a j =>
   cases m:ev ρ y with
   | own k off=>cases a<;>exact One.no
   | el b i=>cases a<;>exact One.no
   | v d =>
    cases a<;>cases d<;>try exact One.no
    rename_i p;cases p<;>first | exact One.no | exact One.ret _
  | v u =>
   cases m:ev ρ y with
   | own k off=>cases u<;>exact One.no
   | el a j=>cases u<;>exact One.no
   | v d =>
    cases u<;>cases d<;>try exact One.no
    rename_i p q;cases q<;>first | exact One.no | exact One.ret _
 case eqS ng x y =>
  show One fun V=>aL _ F L ρ V;simp only[aL];cases e:ev ρ x with
  | own k off=>exact One.no
  | el a j=>exact One.no
  | v u =>
   cases m:ev ρ y with
   | own k off=>cases u<;>exact One.no
   | el a j=>cases u<;>exact One.no
   | v d =>
    cases u<;>cases d<;>try exact One.no
    rename_i a1 l1 c1 a2 l2 c2;cases a2<;>first | exact One.no | exact One.ret _
 case eqF ng x y =>
  show One fun V=>aL _ F L ρ V;simp only[aL];cases e:ev ρ x with
  | own k off=>exact One.no
  | el a j=>exact One.no
  | v u =>
   cases m:ev ρ y with
   | own k off=>cases u<;>exact One.no
   | el a j=>cases u<;>exact One.no
   | v d=>cases u<;>cases d<;>first | exact One.no | exact One.ret _
 case eqN ng x =>
  show One fun V=>aL _ F L ρ V;simp only[aL];cases e:ev ρ x with
  | own k off=>exact One.no
  | el a j=>exact One.no
  | v u=>cases u<;>first | exact One.no | exact One.ret _
 case eqA ng ks x y =>
  show One fun V=>aL _ F L ρ V;simp only[aL];cases e:ev ρ x with
  | own k off=>exact One.no
  | el a j=>exact One.no
  | v u =>
   cases m:ev ρ y with
   | own k off=>cases u<;>exact One.no
   | el a j=>cases u<;>exact One.no
   | v d =>
    cases u<;>cases d<;>try exact One.no
    rename_i cs ds;simp only[];cases jh ks cs.toList ds.toList true<;>first | exact One.no | exact One.ret _
 case un op x =>
  show One fun V=>aL _ F L ρ V;simp only[aL];cases op<;>cases e:ev ρ x<;>first
   | exact One.no
   | (rename_i u;cases u<;>first | exact One.no | exact One.ret _ | exact One.fit fun _=>One.ret _)
 case conv k x =>
  show One fun V=>aL _ F L ρ V;simp only[aL];cases e:ev ρ x<;>first
   | exact One.no
   | (rename_i u;cases u<;>first | exact One.no | exact One.fit fun _=>One.ret _)
 case mkfn f a b=>exact One.ret _
 case slc sz x lo hi =>
  show One fun V=>aL _ F L ρ V;simp only[aL];cases e:ev ρ x<;>try exact One.no
  rename_i u;cases u<;>try exact One.no
  rename_i a n c;simp only[];cases jI ρ 0 lo<;>cases jI ρ n hi<;>first | exact One.no | exact One.slc fun _ _=>One.ret _
 case slcS x lo hi =>
  show One fun V=>aL _ F L ρ V;simp only[aL];cases e:ev ρ x<;>try exact One.no
  rename_i u;cases u<;>try exact One.no
  rename_i s;simp only[];cases jI ρ 0 lo<;>cases jI ρ s.size hi<;>first | exact One.no | exact One.slc fun _ _=>One.ret _
 case fieldA off x =>
  show One fun V=>aL _ F L ρ V;simp only[aL];cases e:ev ρ x with
  | own k off=>exact One.ret _
  | el a j=>exact One.ret _
  | v u =>
   cases u<;>try exact One.no
   rename_i p;cases p<;>first | exact One.no | exact One.ret _
 case fieldV ag off n x =>
  show One fun V=>aL _ F L ρ V;simp only[aL];cases e:ev ρ x<;>try exact One.no
  rename_i u;cases u<;>try exact One.no
  rename_i cs;simp only[];cases fH ((cs.toList.drop off).take n) n<;>first | exact One.no | exact One.ret _
 case idxA sz x i =>
  show One fun V=>aL _ F L ρ V;simp only[aL];cases e:ev ρ x with
  | own k off=>exact One.no
  | el a j=>exact One.no
  | v u =>
   cases m:ev ρ i with
   | own k off=>cases u<;>exact One.no
   | el a j=>cases u<;>exact One.no
   | v d=>cases u<;>cases d<;>first | exact One.no | exact One.idx (One.ret _)
 case idxS x i =>
  show One fun V=>aL _ F L ρ V;simp only[aL];cases e:ev ρ x with
  | own k off=>exact One.no
  | el a j=>exact One.no
  | v u =>
   cases m:ev ρ i with
   | own k off=>cases u<;>exact One.no
   | el a j=>cases u<;>exact One.no
   | v d=>cases u<;>cases d<;>first | exact One.no | exact One.inb (One.ret _)
 case extr x i =>
  show One fun V=>aL _ F L ρ V;simp only[aL];cases e:ev ρ x<;>try exact One.no
  rename_i u;cases u<;>try exact One.no
  rename_i vs;simp only[];cases vs.toList[i]?<;>first | exact One.no | exact One.ret _
 case len x =>
  show One fun V=>aL _ F L ρ V;simp only[aL];cases e:ev ρ x<;>try exact One.no
  rename_i u;cases u<;>first | exact One.no | exact One.ret _
 case lenS x =>
  show One fun V=>aL _ F L ρ V;simp only[aL];cases e:ev ρ x<;>try exact One.no
  rename_i u;cases u<;>first | exact One.no | exact One.ret _
 case capa x =>
  show One fun V=>aL _ F L ρ V;simp only[aL];cases e:ev ρ x<;>try exact One.no
  rename_i u;cases u<;>first | exact One.no | exact One.ret _
 case mm mx l =>
  show One fun V=>aL _ F L ρ V;simp only[aL];cases e:l.map (ev ρ) with
  | nil=>exact One.no
  | cons u r =>
   cases u<;>try exact One.no
   rename_i u;cases u<;>try exact One.no
   rename_i k a0;simp only[];cases PI mx a0 r<;>first | exact One.no | exact One.ret _
end
theorem sW {P:Program}{s s':eH}{d:Option Nat}{F:aD}{L:Loc}{ρ:Env}{K:cQ}(h:drawn s=some s') (ae:(dm s'||iz s'||eW s'||ql s'||iT s')=true) (ab:iz s'=false) (f:evalOp P s' d F L ρ K):evalOp P s d F L ρ (fun F' L' ρ'=>Real F' L'->K F' L' ρ'):=by
 have load:∀{a:Option Addr}{j n:Nat}{KK KK':List Value->Prop},iR F a j n KK->(∀cs,KK cs->KK' cs)->jM F L a j n KK':=by
  rintro a j n KK KK' ⟨cs,p,q,h3⟩ u;exact⟨cs,p,by rcases q with q | q;exact .inl q;exact .inr (.inr (.inl q)),u _ h3⟩
 have app:∀{e sz b:Nat}{sv z:Value}{KK KK':Loc->Value->Prop},qx F L d e sz b sv z KK->(∀L' v,(Real F L'->KK L' v)->KK' L' v)->FH F L e sz b sv z KK':=by
  rintro e sz b sv z KK KK' ⟨kd,n,xs,m,news,p,⟨ad,c,q,h3,u⟩,h5,h6,h7,h8⟩ hk;refine⟨kd,n,xs,m,news,?_,⟨ad,c,q,h3,?_⟩,h5,h6,h7,fun v hv=>hk _ _ (h8 v hv)⟩
  ·rcases p with p | ⟨_,p⟩ | ⟨_,p⟩
   ·exact .inl p
   ·exact .inr (.inl p)
   ·exact .inr (.inr p)
  ·rcases u with u | u
   ·exact .inl u
   ·exact .inr (.inl u)
 by_cases y:dm s'=true
 ·have r:=y;have p:∀V V':SV->Prop,(∀v,V v->V' v)->aL s' F L ρ V->aL s F L ρ V':=by
   intro V V' hV o;have o:=(fM r).mono V V' hV o;cases s<;>simp only[drawn,vz,reduceCtorEq] at h<;>subst h<;>first
    | exact o
    | (simp only[aL] at o ⊢
       split at o
       ·exact o
       ·exact load o fun _ h=>h
       ·exact load o fun _ h=>h
       ·exact o)
    | (simp only[aL] at o ⊢
       split at o
       ·exact load o fun _ h=>h
       ·exact o)
    | (exfalso;revert y;simp[dm];done)
  rw[cF r] at f;have q:=p _ (fun v=>Real F L->K F L (put d v ρ)) (fun v hv _=>hv) f;cases s<;>simp only[drawn,vz,reduceCtorEq] at h<;>subst h<;>first
   | exact q
   | (exfalso;revert y;simp[dm];done)
 ·by_cases w:iT s'=true
  ·cases s<;>simp only[drawn,vz,reduceCtorEq] at h<;>subst h<;>first | (cases w;done) | skip
   rename_i n a x;have l:(match fH (aK (val L ρ x)) n,jz (aK (val L ρ x)),ev ρ a with
    | true,true,.own k off=>match L.get k with
     | some (.box g t cs)=>match jg t ((cs.drop off).take n) n with
      | true=>K F (L.set k (.box g t (aP cs off (aK (val L ρ x))))) (put d (.v undef) ρ)
      | false=>False
     | _=>False
    | _,_,_=>False):=f
   clear f
   split at l
   case h_2=>exact l.elim
   rename_i e1 e2 e3;split at l
   case h_2=>exact l.elim
   rename_i e4;split at l
   case h_2=>exact l.elim
   rename_i e5;simp only[evalOp,e1,e2,e3,e4,e5];exact fun _=>l
  cases s<;>simp only[drawn,vz,reduceCtorEq] at h<;>subst h<;>first
   | (exfalso;revert y ae w;simp[dm,iz,eW,ql,iT];done)
   | (cases ab;done)
   | (simp only[evalOp] at f ⊢
      split at f
      ·exact app f fun _ _ h=>h
      ·exact f)
   | (simp only[evalOp] at f ⊢
      split at f
      ·split at f
       ·exact f
       ·exact f
      ·exact f)
   | (simp only[evalOp] at f ⊢
      split at f
      ·exact fun g F' ag hg hr=>f g F' ag hg hr
      ·exact f)
section
variable {P:Program}{F:aD}{L:Loc}{ρ:Env}{K:cQ}
def Alike (o:eH) (L L':Loc) (ρ ρ':Env):Prop:=∀x∈bI o,ev ρ' x=ev ρ x/\∀k off,ev ρ x=.own k off->L'.get k=L.get k
theorem Alike.val {o:eH}{L L':Loc}{ρ ρ':Env}(h:Alike o L L' ρ ρ') {x:X}(c:x∈bI o):Fr.val L' ρ' x=Fr.val L ρ x:=by
 obtain⟨d,b⟩:=h x c;simp only[Fr.val,d];cases e:ev ρ x with
 | v u=>rfl
 | el a j=>rfl
 | own k off=>simp only[conc,b k off e]
theorem dI {L L':Loc}{ρ ρ':Env}:∀{xs:List X},(∀x∈xs,Fr.val L' ρ' x=Fr.val L ρ x)->bn L' ρ' xs=bn L ρ xs
 | [],_=>rfl
 | x::xs,h=>by simp only[bn,h x (by simp),dI (xs:=xs) (fun y a=>h y (aa8 _ a))]
theorem cG {L L':Loc}{ρ ρ':Env}:∀{xs:List X},(∀x∈xs,Fr.val L' ρ' x=Fr.val L ρ x)->cellsOf L' ρ' xs=cellsOf L ρ xs
 | [],_=>rfl
 | x::xs,h=>by simp only[cellsOf,h x (by simp),cG (xs:=xs) (fun y a=>h y (aa8 _ a))]
theorem nR {L L':Loc}{ρ ρ':Env}{sz:Nat}:∀{xs:List X},(∀x∈xs,Fr.val L' ρ' x=Fr.val L ρ x)->fI L' ρ' sz xs=fI L ρ sz xs
 | [],_=>rfl
 | x::xs,h=>by simp only[fI,h x (by simp),nR (xs:=xs) (fun y a=>h y (aa8 _ a))]
theorem qH {L L':Loc}{ρ ρ':Env}:∀{ps:List (Nat×Nat×X)}{zs:List Value},(∀p∈ps,Fr.val L' ρ' p.2.2=Fr.val L ρ p.2.2)->built L' ρ' zs ps=built L ρ zs ps
 | [],zs,_=>rfl
 | (off,n,x)::ps,zs,h=>by
  have a:=h (off,n,x) (by simp);simp only at a;simp only[built,a];split
  ·exact qH (fun p b=>h p (by simp[b]))
  ·rfl
theorem iR.up {F F':aD}(d:F.le F') {a:Option Addr}{j n:Nat}{K:List Value->Prop}(h:iR F a j n K):iR F' a j n K:=by
 obtain⟨cs,c,b,e⟩:=h;exact⟨cs,c,by rcases b with b | b;exact .inl (b.mono d);exact .inr b,e⟩
theorem jM.upF {F F':aD}(d:F.le F') {L:Loc}{a:Option Addr}{j n:Nat}{K:List Value->Prop}(h:jM F L a j n K):jM F' L a j n K:=by
 obtain⟨cs,c,b,e⟩:=h;exact⟨cs,c,by rcases b with b | b;exact .inl (b.mono d);exact .inr b,e⟩
theorem pJ {ρ ρ':Env}{d:Int}{x:Option X}(h:∀y∈x.toList,ev ρ' y=ev ρ y):jI ρ' d x=jI ρ d x:=by
 cases x with
 | none=>rfl
 | some y=>simp only[jI,h y (by simp)]
theorem rL {o:eH}(w:dm o=true) {F F':aD}{L L':Loc}{ρ ρ':Env}(s:F.le F') (H:Alike o L L' ρ ρ') {V:SV->Prop}(h:aL o F L ρ V) (m:Jr o=false\/L'=L:=by exact .inr rfl):aL o F' L' ρ' V:=by
 cases o<;>first | (cases w;done) | skip
 case build zs ps =>
  have e:=qH (ps:=ps) (zs:=zs) (L:=L) (L':=L') (ρ:=ρ) (ρ':=ρ') (fun p hp=>H.val (abh.2 ⟨p,hp,rfl⟩));simp only[aL,e] at h ⊢;exact h
 case mkfn f a b =>
  have j:=dI (xs:=a) (L:=L) (L':=L') (ρ:=ρ) (ρ':=ρ') (fun x r=>H.val (w8.2 (.inl r)));have q:=dI (xs:=b) (L:=L) (L':=L') (ρ:=ρ) (ρ':=ρ') (fun x r=>H.val (w8.2 (.inr r)));simp only[aL,j,q] at h ⊢;exact h
 case mm mx l =>
  have e:l.map (ev ρ')=l.map (ev ρ):=abH fun x r=>(H x r).1;simp only[aL,e] at h ⊢;exact h
 case slc sz x lo hi =>
  have e:=(H x (by simp[bI])).1;have j:∀d,jI ρ' d lo=jI ρ d lo:=fun d=>pJ fun y v=>(H y (by simp only[bI];exact aa8 _ (w8.2 (.inl v)))).1;have q:∀d,jI ρ' d hi=jI ρ d hi:=fun d=>pJ fun y v=>(H y (by simp only[bI];exact aa8 _ (w8.2 (.inr v)))).1;simp only[aL,e,j,q] at h ⊢;exact h
 case slcS x lo hi =>
  have e:=(H x (by simp[bI])).1;have j:∀d,jI ρ' d lo=jI ρ d lo:=fun d=>pJ fun y v=>(H y (by simp only[bI];exact aa8 _ (w8.2 (.inl v)))).1;have q:∀d,jI ρ' d hi=jI ρ d hi:=fun d=>pJ fun y v=>(H y (by simp only[bI];exact aa8 _ (w8.2 (.inr v)))).1;simp only[aL,e,j,q] at h ⊢;exact h
 case loadD ag n x =>
  obtain⟨e,j⟩:=H x (by simp[bI]);simp only[aL,e] at h ⊢;split at h
  ·rename_i k off r;simp only[j k off r];exact h
  ·exact h.up s
  ·exact h.up s
  ·exact h
 case gload g =>
  simp only[aL] at h ⊢;obtain⟨u,t,fr,h1,z⟩:=h;exact⟨u,t,fr,s _ _ h1,z⟩
 case loadR ag n x =>
  obtain⟨e,j⟩:=H x (by simp[bI]);rcases m with m | rfl
  ·cases m
  ·simp only[aL,e] at h ⊢;split at h
   ·exact h
   ·exact h.upF s
   ·exact h.upF s
   ·exact h
 case mlook str ok z0 x i =>
  obtain⟨e,j⟩:=H x (by simp[bI]);have q:val L' ρ' i=val L ρ i:=H.val (by simp[bI]);rcases m with m | rfl
  ·cases m
  ·simp only[aL,e,q] at h ⊢;exact h
 case mlen x =>
  obtain⟨e,j⟩:=H x (by simp[bI]);rcases m with m | rfl
  ·cases m
  ·simp only[aL,e] at h ⊢;exact h
 case loadF ag n x =>
  obtain⟨e,j⟩:=H x (by simp[bI]);simp only[aL,e] at h ⊢;split at h
  ·exact h.up s
  ·exact h.up s
  ·exact h
 case loadK key ag n x =>
  obtain⟨e,j⟩:=H x (by simp[bI]);simp only[aL,e] at h ⊢;split at h
  ·rename_i k off r;simp only[j k off r];exact h
  ·exact h
 case b2sD x =>
  obtain⟨e,j⟩:=H x (by simp[bI]);simp only[aL,e] at h ⊢;split at h
  ·exact h.up s
  ·exact h
 case b2sR x =>
  obtain⟨e,j⟩:=H x (by simp[bI]);rcases m with m | rfl
  ·cases m
  ·simp only[aL,e] at h ⊢;exact h
 case pick c a b =>
  have j:=(H c (by simp[bI])).1;have q:=(H a (by simp[bI])).1;have e3:=(H b (by simp[bI])).1;simp only[aL,j,q,e3] at h ⊢;exact h
 all_goals first
  | (have j:=(H _ (List.mem_cons_self ..)).1
     simp only[aL,j] at h ⊢;exact h)
  | (have j:=(H _ (List.mem_cons_self ..)).1
     have q:=(H _ (aa8 _ (List.mem_cons_self ..))).1;simp only[aL,j,q] at h ⊢;exact h)
theorem Js {o:eH}(h:dm o=true) {k off:Nat}(d:aL o F L ρ (fun u=>u=.own k off)):∃x∈bI o,∃f,ev ρ x=.own k f:=by
 cases o<;>first | (cases h;done) | skip
 case mov x=>exact⟨x,by simp[bI],off,d⟩
 case pick c a b =>
  simp only[aL] at d;split at d
  ·exact⟨a,by simp[bI],off,d⟩
  ·exact⟨b,by simp[bI],off,d⟩
  ·exact d.elim
 case nilck x =>
  simp only[aL] at d;split at d
  ·rename_i j f e;injection d with h1 h2
   subst h1;exact⟨x,by simp[bI],f,e⟩
  ·cases d.2
  ·cases d
  ·cases d
  ·split at d
   ·cases d.2
   ·exact d.elim
  ·exact d.elim
 case mkmv nm x =>
  simp only[aL] at d;split at d
  ·cases d
  ·exact d.elim
 case fieldA o' x =>
  simp only[aL] at d;split at d
  ·rename_i j f e;injection d with h1 h2
   subst h1;exact⟨x,by simp[bI],f,e⟩
  ·cases d
  ·cases d
  ·exact d.elim
 case bin op x y =>
  simp only[aL] at d;split at d
  ·split at d
   ·cases op<;>simp only[shI] at d<;>first | exact d.elim | (obtain⟨_,⟨d⟩⟩:=d;cases d;done) | (obtain⟨_,d⟩:=d;cases d;done)
   ·split at d
    ·cases op<;>simp only[binI] at d<;>first | exact d.elim | (cases d;done) | (obtain⟨d⟩:=d;cases d;done) | (obtain⟨_,⟨d⟩⟩:=d;cases d;done) | (obtain⟨_,d⟩:=d;cases d;done)
    ·exact d.elim
  ·cases op<;>simp only[binS] at d<;>first | exact d.elim | (cases d;done) | (obtain⟨_,d⟩:=d;cases d;done)
  ·exact d.elim
 case loadD ag n x =>
  simp only[aL] at d;split at d
  ·split at d
   ·split at d
    ·cases d
    ·exact d.elim
   ·exact d.elim
  ·obtain⟨cs,_,_,d⟩:=d;cases d
  ·obtain⟨cs,_,_,d⟩:=d;cases d
  ·exact d.elim
 case gload g =>
  simp only[aL] at d;obtain⟨u,t,l,_,d⟩:=d;cases d
 case loadR ag n x =>
  simp only[aL] at d;split at d
  ·split at d
   ·split at d
    ·cases d
    ·exact d.elim
   ·exact d.elim
  ·obtain⟨cs,_,_,d⟩:=d;cases d
  ·obtain⟨cs,_,_,d⟩:=d;cases d
  ·exact d.elim
 case mlook str ok z0 x i =>
  simp only[aL] at d;split at d
  ·obtain⟨k,cs,_,_,⟨⟨i,v,_,d⟩ | ⟨_,d⟩⟩⟩:=d<;>cases d
  ·exact d.elim
 case mlen x =>
  simp only[aL] at d;split at d
  ·obtain⟨k,cs,_,_,d⟩:=d;cases d
  ·exact d.elim
 case loadF ag n x =>
  simp only[aL] at d;split at d
  ·obtain⟨cs,_,_,d⟩:=d;cases d
  ·obtain⟨cs,_,_,d⟩:=d;cases d
  ·exact d.elim
 case loadK key ag n x =>
  simp only[aL] at d;split at d
  ·split at d
   ·split at d
    ·split at d
     ·cases d
     ·exact d.elim
    ·exact d.elim
   ·exact d.elim
  ·exact d.elim
 case b2sD x =>
  simp only[aL] at d;split at d
  ·obtain⟨cs,_,_,⟨bs,_,d⟩⟩:=d;cases d
  ·exact d.elim
 case b2sR x =>
  simp only[aL] at d;split at d
  ·obtain⟨_,_,_,bs,_,_,_,d⟩:=d;cases d
  ·exact d.elim
 all_goals
  simp only[aL] at d
  repeat' split at d
 all_goals first
  | exact d.elim
  | (cases d;done)
  | (obtain⟨d⟩:=d;cases d;done)
  | (obtain⟨_,_,d⟩:=d;cases d;done)
  | (obtain⟨_,_,_,d⟩:=d;cases d;done)
end
theorem MW {P:Program}{s s':eH}{d:Option Nat}{F:aD}{L:Loc}{ρ:Env}{K:cQ}(h:xN s=some s') (c:evalOp P s' d F L ρ K):evalOp P s d F L ρ (fun F' L' ρ'=>Real F' L'->K F' L' ρ'):=by
 cases s<;>simp only[xN,vz,reduceCtorEq] at h<;>subst h
 case store n a x =>
  simp only[evalOp] at c ⊢;generalize fH (aK (val L ρ x)) n=z1 at c ⊢;generalize jz (aK (val L ρ x))=z2 at c ⊢;generalize ev ρ a=z3 at c ⊢;split at c
  ·rename_i k off;generalize L.get k=z at c ⊢;split at c
   ·rename_i g t cs;generalize jg t ((cs.drop off).take n) n=b at c ⊢;cases b
    ·exact c.elim
    ·exact c
   ·exact c.elim
  ·exact⟨.inl c⟩
  ·exact⟨.inl c⟩
  ·exact c.elim
 case mupd =>
  simp only[evalOp] at c ⊢;split at c
  ·obtain⟨k,cs,q,o,p,cs',l,r⟩:=c;exact⟨k,cs,q,o,p,cs',l,fun _=>r⟩
  ·exact c.elim
 ·simp only[evalOp] at c ⊢;exact c
 ·simp only[evalOp] at c ⊢;split at c
  ·exact c
  ·exact c.elim
 ·simp only[evalOp] at c ⊢;split at c
  ·exact c
  ·exact c.elim
 ·simp only[evalOp] at c ⊢;split at c
  ·rename_i dv f u w;rw[u,w];cases f<;>first
    | exact c
    | (obtain⟨⟨k,n,v,y,xs,ad,cr,cd,j,m,ax,cx,news,_,_,_,_,e,_⟩ | ⟨_,_,_,_,_,_,_,e,_⟩⟩:=c<;>cases e)
  ·exact c.elim
theorem sw {P:Program}{F:aD}{L:Loc}{ρ:Env}{K:cQ}{n:Nat}{a x:X}{d:Option Nat}:evalOp P (.storeD n a x) d F L ρ K=(match fH (aK (val L ρ x)) n,jz (aK (val L ρ x)),ev ρ a with
  | true,true,.own k off=>match L.get k with
   | Option.some (.box g t cs)=>match jg t ((cs.drop off).take n) n with
    | true=>K F (L.set k (.box g t (aP cs off (aK (val L ρ x))))) (put d (.v undef) ρ)
    | false=>False
   | _=>False
  | _,_,_=>False):=rfl
theorem sA {P:Program}{F:aD}{L:Loc}{ρ:Env}{K:cQ}{key n:Nat}{a x:X}{d:Option Nat}:evalOp P (.storeK key n a x) d F L ρ K=(match fH (aK (val L ρ x)) n,jz (aK (val L ρ x)),ev ρ a with
  | true,true,.own k off=>match Nat.beq k key with
   | true=>match L.get k with
    | Option.some (.box g t cs)=>match jg t ((cs.drop off).take n) n with
     | true=>K F (L.set k (.box g t (aP cs off (aK (val L ρ x))))) (put d (.v undef) ρ)
     | false=>False
    | _=>False
   | false=>False
  | _,_,_=>False):=rfl
theorem iU {P:Program}{F:aD}{L:Loc}{ρ:Env}{K:cQ}{o:eH}{d:Option Nat}(m:iT o=true) (b:evalOp P o d F L ρ K) :
  ∃n a x k off g t cs,(o=.storeD n a x\/o=.storeK k n a x)/\fH (aK (val L ρ x)) n=true/\jz (aK (val L ρ x))=true/\ev ρ a=.own k off/\L.get k=some (.box g t cs)/\jg t ((cs.drop off).take n) n=true /\
   K F (L.set k (.box g t (aP cs off (aK (val L ρ x))))) (put d (.v undef) ρ):=by
 cases o<;>first | (cases m;done) | skip
 case storeD n a x =>
  rw[sw] at b;split at b
  case h_2=>exact b.elim
  rename_i k off j e l;split at b
  case h_2=>exact b.elim
  rename_i g t cs h;split at b
  case h_2=>exact b.elim
  rename_i f;exact⟨n,a,x,k,off,g,t,cs,.inl rfl,j,e,l,h,f,b⟩
 case storeK key n a x =>
  rw[sA] at b;split at b
  case h_2=>exact b.elim
  rename_i k off j e l;split at b
  case h_2=>exact b.elim
  rename_i c;have c:=vv c;subst c;split at b
  case h_2=>exact b.elim
  rename_i g t cs h;split at b
  case h_2=>exact b.elim
  rename_i f;exact⟨n,a,x,k,off,g,t,cs,.inr rfl,j,e,l,h,f,b⟩
theorem iG {P:Program}{F:aD}{L:Loc}{ρ:Env}{K:cQ}{o:eH}{d:Option Nat}{n:Nat}{a x:X}{k off g:Nat}{t:TypeId}{cs:List Value}(m:o=.storeD n a x\/o=.storeK k n a x) (f:fH (aK (val L ρ x)) n=true) (b:jz (aK (val L ρ x))=true) (j:ev ρ a=.own k off) (e:L.get k=some (.box g t cs)) (c:jg t ((cs.drop off).take n) n=true)
  (h:K F (L.set k (.box g t (aP cs off (aK (val L ρ x))))) (put d (.v undef) ρ)):evalOp P o d F L ρ K:=by
 rcases m with rfl | rfl
 ·rw[sw];simp only[f,b,j,e,c];exact h
 ·rw[sA];have l:Nat.beq k k=true:=by simp
  simp only[f,b,j,l,e,c];exact h
theorem Ae {x:X}{n:Int}{ρ:Env}(h:Bk x=some n):∃k,ev ρ x=.v (.int k n):=by
 unfold Bk at h;split at h
 ·injection h with h;subst h;exact⟨_,rfl⟩
 ·cases h
theorem MX {L:Loc}{ρ:Env}{x:X}{k:IntKind}{m:Int}(h:val L ρ x=.int k m):ev ρ x=.v (.int k m):=by
 unfold val at h;cases e:ev ρ x with
 | v u=>rw[e] at h;exact j3 SV.v h
 | own j off =>
  rw[e] at h;simp only[conc] at h;split at h<;>cases h
 | el a j =>
  rw[e] at h;cases a<;>cases h
theorem MY {b:Nat}{n m:Int}(h:Rh b n m=true):0<=n/\n=m/\n.toNat*b<=140737488355328/\n.toNat<=maxLen:=by
 simp only[Rh,xo] at h;obtain⟨⟨c,d⟩,a⟩:=h;split at a
 ·have a:=vv a;subst a;exact⟨by simp,rfl,aa1 c,aa1 d⟩
 ·cases a
theorem MZ {P:Program}{bx:List Nat}{s s':eH}{d:Option Nat}{F:aD}{L:Loc}{ρ:Env}{K:cQ}(h:og bx s=some s') (o:(dm s'||iz s'||eW s'||ql s'||iT s')=true) (l:iz s'=false) (b:evalOp P s' d F L ρ K):evalOp P s d F L ρ (fun F' L' ρ'=>Real F' L'->K F' L' ρ'):=by
 unfold og at h;split at h
 ·split at h
  ·rename_i n m f c;split at h
   ·rename_i u;injection h with h
    subst h;obtain⟨k1,f⟩:=Ae (ρ:=ρ) f;obtain⟨k2,c⟩:=Ae (ρ:=ρ) c;obtain⟨z,w,v,y⟩:=MY u;subst w;simp only[evalOp,f,c] at b ⊢;split at b
    ·rename_i k;split at b
     ·rename_i r _ _;simp only[r];exact⟨z,abe _,v,y,b⟩
     ·exact b.elim
    ·exact b.elim
   ·cases h
  ·split at h
   ·rename_i i j _ _;split at h
    ·rename_i p;have p:=vv p;subst p;injection h with h
     subst h;simp only[evalOp] at b ⊢;split at b
     ·rename_i k;split at b
      ·rename_i r _ u;obtain⟨ki,m,f,z,w,v,y⟩:=CG u;have c:=MX f;simp only[c,r];rw[w] at b;exact⟨z,abe _,v,y,b⟩
      ·exact b.elim
     ·exact b.elim
    ·cases h
   ·cases h
 ·rename_i e sz;injection h with h
  subst h;simp only[evalOp] at b ⊢;split at b
  ·rename_i k;split at b
   ·rename_i r _ _;simp only[fI,r];exact b
   ·exact b.elim
  ·exact b.elim
 ·rename_i a n i;split at h
  ·injection h with h
   subst h;refine sW (s:=.load a n (.t i)) (s':=.loadD a n (.t i)) rfl rfl rfl ?_;simp only[evalOp,aL] at b ⊢;split at b
   ·rename_i k off e;simp only[e];split at b
    ·exact b
    ·exact b.elim
   ·exact b.elim
  ·injection h with h
   subst h;exact sW (s:=.load a n (.t i)) rfl o l b
 ·rename_i n i x;split at h
  ·injection h with h
   subst h;obtain⟨n',a',x',k,off,g,t,cs,q,f,c,e3,e4,e5,b⟩:=iU rfl b;rcases q with q | q
   ·cases q
   ·injection q with h1 h2 h3 h4
    subst h1 h2 h3 h4;exact sW (s:=.store n (.t i) x) (s':=.storeD n (.t i) x) rfl rfl rfl (iG (.inl rfl) f c e3 e4 e5 b)
  ·injection h with h
   subst h;exact sW (s:=.store n (.t i) x) rfl o l b
 ·exact sW h o l b
def Loc.sameAs (L L':Loc):Prop:=∀j,L'.get j=L.get j
theorem xO {P:Program}{f:Nat}{args:List Value}{F:aD}{L:Loc}{d:Option Nat}{KK:aD->Loc->Value->Prop}(h:eB P f args F L d KK):dz P f args F L (fun F' L' v=>∃L2,L'.sameAs L2/\(Real F' L2->KK F' L2 v)):=by
 cases h with
 | frz R q r =>
  refine⟨[],[],[],R,rfl,List.nodup_nil,List.nodup_nil,fun _ h=>(by cases h),q,fun v F' Lo a m=>?_⟩;obtain⟨rfl,y⟩:=r v F' Lo a m;exact⟨rfl,fun _ _ _ _ h=>(by cases h),_,fun _=>rfl,y⟩
 | own R k q hd s r =>
  refine⟨[],[k],[],R,rfl,List.nodup_nil,by simp,fun j p=>.inr (by simp at p;rw[p];exact s),q,fun v F' Lo a m=>?_⟩;obtain⟨o,rfl,y⟩:=r v F' Lo a m;exact⟨rfl,fun _ _ _ _ h=>(by cases h),_,fun _=>rfl,y⟩
 | row R x rv t sz n xs q s r =>
  refine⟨[x],[x],[.row rv t sz n xs],fun F Lo v=>Lo=[.row (.slice none 0 0) t sz 0 []]/\R F [] v,?_,by simp,by simp,fun j p=>.inl p,⟨q.ent,fun F G L v a hr=>⟨hr.1,q.mono _ _ _ _ a hr.2⟩,fun w hs=>(q.run w hs).mono ?_⟩,fun v F' Lo a m=>?_⟩
  ·simp only[Loc.sub,s]
  ·rintro e w' ⟨v,F',Lo,rfl,z,l,m⟩;obtain⟨rfl,_⟩:=r v F' Lo l.le m;have hb:(Own.row (.slice none 0 0) t sz 0 []).blk=none:=rfl;have hg:∀j o,Loc.get (inp [.row (.slice none 0 0) t sz 0 []]) j=some o->o=.row (.slice none 0 0) t sz 0 []:=by
    intro j o e;rw[aX] at e;split at e
    ·cases p:j-1000 with
     | zero=>rw[p] at e;simpa using e.symm
     | succ i=>rw[p] at e;simp at e
    ·cases e
   have ac:∀b,¬(inp [.row (.slice none 0 0) t sz 0 []]).owns b:=by
    rintro b ⟨j,o,e,c⟩;rw[hg j o e,hb] at c;cases c
   refine⟨v,F',_,rfl,⟨z.frz,fun j o e=>?_,fun j o g e c=>?_,fun j j' o o' g e e' c=>?_,z.glob⟩,⟨l.le,l.os,l.tape,l.output,l.size,l.same,l.frz,fun b hb=>o4 hb (ac b)⟩,rfl,m⟩
   ·rw[hg j o e];exact World.ownsRow_nil w' 0 t sz
   ·rw[hg j o e,hb] at c;cases c
   ·rw[hg j o e,hb] at c;cases c
  ·obtain⟨rfl,m⟩:=m;obtain⟨_,y⟩:=r v F' [] a m;refine⟨rfl,fun k g t' cs u e=>?_,L.set x (.row (.slice none 0 0) t sz 0 []),fun j=>?_,y⟩
   ·rw[abu.1 u,s] at e;cases e
   ·simp only[Loc.aaf,Loc.puts,Loc.aac,Loc.aai];split<;>rfl
 | lent R x rv t sz n xs q s r =>
  refine⟨[x],[x],[.row rv t sz n xs],_,by simp only[Loc.sub,s],by simp,by simp,fun j p=>.inl p,q,fun v F' Lo a m=>?_⟩;obtain⟨rfl,m⟩:=m;refine⟨rfl,fun k g t' cs u e=>?_,L,fun j=>?_,r v F' a m⟩
  ·rw[abu.1 u,s] at e;cases e
  ·simp only[Loc.aaf,Loc.puts,Loc.aac,Loc.aai];split
   ·rename_i p;rw[p,s]
   ·rfl
theorem M0 {P:Program}{bx:List Nat}{s s':eH}{d:Option Nat}{F:aD}{L:Loc}{ρ:Env}{K:cQ}(h:og bx s=some s') (a:iz s'=true) (b:evalOp P s' d F L ρ K):evalOp P s d F L ρ (fun F' L' ρ'=>∃L2,L'.sameAs L2/\(Real F' L2->K F' L2 ρ')):=by
 unfold og at h;split at h
 ·split at h
  ·split at h
   ·injection h with h;subst h;cases a
   ·cases h
  ·split at h
   ·split at h
    ·injection h with h;subst h;cases a
    ·cases h
   ·cases h
 ·injection h with h;subst h;cases a
 ·split at h
  ·injection h with h;subst h;cases a
  ·injection h with h;subst h;cases a
 ·split at h
  ·injection h with h;subst h;cases a
  ·injection h with h;subst h;cases a
 ·cases s<;>simp only[drawn,vz,reduceCtorEq] at h<;>subst h<;>first | (cases a;done) | skip
  ·simp only[evalOp] at b ⊢;exact xO b
  ·simp only[evalOp] at b ⊢;split at b
   ·exact xO b
   ·exact b.elim
theorem xP {fl bx:List Nat}{bk:List (Nat×Nat)}{s s':eH}(h:u9 fl bk bx s=some s'):og bx s=some s'\/(∃a n i,s=.load a n (.t i)/\s'=.loadF a n (.t i))\/(∃a n i key,s=.load a n (.t i)/\s'=.loadK key a n (.t i))\/(∃a n i,s=.load a n (.t i)/\s'=.loadR a n (.t i))\/∃i,s=.b2s (.t i)/\s'=.b2sR (.t i):=by
 unfold u9 at h;split at h
 ·rename_i a n i;split at h
  ·injection h with h
   exact .inr (.inl ⟨a,n,i,rfl,h.symm⟩)
  ·split at h
   ·rename_i key _;split at h
    ·injection h with h
     exact .inr (.inr (.inr (.inl ⟨a,n,i,rfl,h.symm⟩)))
    ·injection h with h
     exact .inr (.inr (.inl ⟨a,n,i,key,rfl,h.symm⟩))
   ·exact .inl h
 ·rename_i i;split at h
  ·injection h with h
   exact .inr (.inr (.inr (.inr ⟨i,rfl,h.symm⟩)))
  ·exact .inl h
 ·exact .inl h
theorem Hu {o:Bool}{n:Nat}{x:X}{F:aD}{L:Loc}{ρ:Env}{V V':SV->Prop}(h:aL (.load o n x) F L ρ V) (a:∀v,V v->V' v):aL (.load o n x) F L ρ V':=by
 have:=One.mono (T:=fun V=>aL (.loadR o n x) F L ρ V) (fM rfl) V V' a h;exact this
theorem M5 {P:Program}{fl bx:List Nat}{bk:List (Nat×Nat)}{s s':eH}{d:Option Nat}{F:aD}{L:Loc}{ρ:Env}{K:cQ}(h:u9 fl bk bx s=some s') (m:(dm s'||iz s'||eW s'||ql s'||iT s')=true) (l:iz s'=false) (f:evalOp P s' d F L ρ K):evalOp P s d F L ρ (fun F' L' ρ'=>Real F' L'->K F' L' ρ'):=by
 rcases xP h with h | ⟨a,n,i,rfl,rfl⟩ | ⟨a,n,i,key,rfl,rfl⟩ | ⟨a,n,i,rfl,rfl⟩ | ⟨i,rfl,rfl⟩
 rotate_left 3
 ·have f:aL (.load a n (.t i)) F L ρ (fun v=>K F L (put d v ρ)):=f;exact Hu f fun v h _=>h
 rotate_left
 ·exact MZ h m l f
 ·refine sW (s:=.load a n (.t i)) (s':=.loadD a n (.t i)) rfl rfl rfl ?_;simp only[evalOp,aL] at f ⊢;split at f
  ·rename_i e;simp only[e];exact f
  ·rename_i e;simp only[e];exact f
  ·exact f.elim
 ·refine sW (s:=.load a n (.t i)) (s':=.loadD a n (.t i)) rfl rfl rfl ?_;simp only[evalOp,aL] at f ⊢;split at f
  ·rename_i k off e;simp only[e];split at f
   ·exact f
   ·exact f.elim
  ·exact f.elim
 ·have f:aL (.b2sR (.t i)) F L ρ (fun v=>K F L (put d v ρ)):=f;show aL (.b2s (.t i)) F L ρ (fun v=>Real F L->K F L (put d v ρ));unfold aL at f ⊢
  dsimp only at f ⊢
  split at f
  ·rename_i j n c e;obtain⟨k,ty,x,bs,w,p,q,o⟩:=f;refine⟨bs.map fun b=>Value.int .u8 b.toNat,by simp[p],?_,bs,rfl,fun _=>o⟩;cases j with
   | none=>exact .inr (.inr (.inl (q rfl)))
   | some j=>exact .inr (.inl ⟨k,_,ty,1,n,_,j,x,w,rfl,rfl,fun i u r=>by rw[Nat.zero_add];exact r⟩)
  ·exact f.elim
theorem Jt {P:Program}{fl bx:List Nat}{bk:List (Nat×Nat)}{s s':eH}{d:Option Nat}{F:aD}{L:Loc}{ρ:Env}{K:cQ}(h:u9 fl bk bx s=some s') (b:iz s'=true) (c:evalOp P s' d F L ρ K):evalOp P s d F L ρ (fun F' L' ρ'=>∃L2,L'.sameAs L2/\(Real F' L2->K F' L2 ρ')):=by
 rcases xP h with h | ⟨a,n,i,rfl,rfl⟩ | ⟨a,n,i,key,rfl,rfl⟩ | ⟨a,n,i,rfl,rfl⟩ | ⟨i,rfl,rfl⟩
 ·exact M0 h b c
 ·cases b
 ·cases b
 ·cases b
 ·cases b
theorem set_comm:∀(L:Loc) {k f:Nat}(o o':Own),k≠f->(L.set k o).set f o'=(L.set f o').set k o:=by
 intro L k f o o' h;have hb:Nat.beq k f=false:=by cases e:Nat.beq k f with | true=>exact o4 (vv e) h | false=>rfl
 have b:Nat.beq f k=false:=by cases e:Nat.beq f k with | true=>exact o4 (vv e).symm h | false=>rfl
 have a:∀{i j:Nat},Nat.beq i j=false->(Nat.ble i j=true/\Nat.ble j i=false)\/(Nat.ble i j=false/\Nat.ble j i=true):=by
  intro i j x;have v:=fJ x;rcases Nat.lt_or_gt_of_ne v with ae | ab
  ·refine .inl ⟨Nat.ble_eq_true_of_le (by omega),?_⟩;cases e:Nat.ble j i with | true=>have:=aa1 e;omega | false=>rfl
  ·refine .inr ⟨?_,Nat.ble_eq_true_of_le (by omega)⟩;cases e:Nat.ble i j with | true=>have:=aa1 e;omega | false=>rfl
 induction L with
 | nil =>
  simp only[Loc.set,hb,b];rcases a hb with⟨d,n⟩ | ⟨d,n⟩<;>simp only[d,n,Loc.set]
 | cons p l ih =>
  obtain⟨j,q⟩:=p;cases r:Nat.beq j k with
  | true =>
   have:=vv r;subst this;have c:Nat.beq j j=true:=by simp
   simp only[Loc.set,c,hb,b];rcases a hb with⟨d,n⟩ | ⟨d,n⟩
   ·simp only[d,Loc.set,c]
   ·simp only[d,n,Loc.set,c,b]
  | false =>
   cases m:Nat.beq j f with
   | true =>
    have:=vv m;subst this;have c:Nat.beq j j=true:=by simp
    simp only[Loc.set,c,hb,b];rcases a b with⟨d,n⟩ | ⟨d,n⟩
    ·simp only[d,Loc.set,c]
    ·simp only[d,n,Loc.set,c,hb]
   | false =>
    simp only[Loc.set,r,m];rcases a r with⟨s,y⟩ | ⟨s,y⟩<;>rcases a m with⟨t,z⟩ | ⟨t,z⟩
    ·simp only[s,t,Loc.set,r,m,ih]
    ·simp only[s,t,Loc.set,r,m,hb,b];have d:Nat.ble f k=true:=by
      have x1:=aa1 s;have x2:=aa1 z;exact Nat.ble_eq_true_of_le (by omega)
     simp only[d]
    ·simp only[s,t,Loc.set,r,m,hb,b];have d:Nat.ble k f=true:=by
      have x1:=aa1 t;have x2:=aa1 y;exact Nat.ble_eq_true_of_le (by omega)
     simp only[d]
    ·rcases a hb with⟨u,w⟩ | ⟨u,w⟩
     ·simp only[s,t,Loc.set,r,m,hb,b,u,w]
     ·simp only[s,t,Loc.set,r,m,hb,b,u,w]
theorem put_comm {d a:Option Nat}{v u:SV}{ρ:Env}(h:∀k,d=some k->a≠some k):put d v (put a u ρ)=put a u (put d v ρ):=by
 funext t
 simp only[put_eq];cases d with
 | none=>rfl
 | some k =>
  cases a with
  | none=>rfl
  | some e =>
   have:=h k rfl;simp only[];split<;>split
   ·rename_i b c;subst b;subst c;exact o4 rfl this
   ·rfl
   ·rfl
   ·rfl
def cI:List X->List Nat
 | []=>[]
 | .t n::l=>n::cI l
 | .mt _ n::l=>n::cI l
 | _::l=>cI l
theorem mY:∀{l:List X}{n:Nat},X.t n∈l->n∈cI l
 | [],n,h=>by cases h
 | .t m::l,n,h=>by
  simp only[cI,xC];rcases xC.1 h with h | h
  ·injection h with h;exact .inl h
  ·exact .inr (mY h)
 | .c v::l,n,h=>by
  rcases xC.1 h with h | h
  ·cases h
  ·exact mY (l:=l) h
 | .fn f::l,n,h=>by
  rcases xC.1 h with h | h
  ·cases h
  ·exact mY (l:=l) h
 | .mt nm m::l,n,h=>by
  simp only[cI,xC];rcases xC.1 h with h | h
  ·cases h
  ·exact .inr (mY h)
theorem oP:∀{l:List X}{nm:String}{n:Nat},X.mt nm n∈l->n∈cI l
 | [],_,n,h=>by cases h
 | .t m::l,nm,n,h=>by
  simp only[cI,xC];rcases xC.1 h with h | h
  ·cases h
  ·exact .inr (oP h)
 | .c v::l,nm,n,h=>by
  rcases xC.1 h with h | h
  ·cases h
  ·exact oP (l:=l) h
 | .fn f::l,nm,n,h=>by
  rcases xC.1 h with h | h
  ·cases h
  ·exact oP (l:=l) h
 | .mt a m::l,nm,n,h=>by
  simp only[cI,xC];rcases xC.1 h with h | h
  ·injection h with h1 h2;exact .inl h2
  ·exact .inr (oP h)
theorem gI {l:List X}{d:Option Nat}{v:SV}{ρ:Env}(h:∀k,d=some k->k∉cI l):∀x∈l,ev (put d v ρ) x=ev ρ x:=by
 intro x a;cases x with
 | t n =>
  simp only[ev,put_eq];cases d with
  | none=>rfl
  | some k =>
   simp only[];rw[o6];intro e;subst e;exact h n rfl (mY a)
 | c v=>rfl
 | fn f=>rfl
 | mt nm n =>
  simp only[ev,put_eq];cases d with
  | none=>rfl
  | some k =>
   simp only[];rw[o6];intro e;subst e;exact h n rfl (oP a)
def Vd (L:Loc) (ρ:Env):Prop:=∀t k off,ρ t=.own k off->∃g ty cs,L.get k=some (.box g ty cs)
theorem Vd.ev {L:Loc}{ρ:Env}(h:Vd L ρ) {x:X}{k off:Nat}(e:Fr.ev ρ x=.own k off):∃g ty cs,L.get k=some (.box g ty cs):=by
 cases x with
 | t n=>exact h n k off e
 | c v=>cases e
 | fn f=>cases e
 | mt nm n =>
  simp only[Fr.ev,Tf] at e;split at e<;>cases e
def Keeps (L L':Loc):Prop:=∀k g ty cs,L.get k=some (.box g ty cs)->L'.get k=some (.box g ty cs)
theorem Keeps.refl (L:Loc):Keeps L L:=fun _ _ _ _ h=>h
theorem Keeps.trans {L L' L'':Loc}(h:Keeps L L') (a:Keeps L' L''):Keeps L L'':=fun k g ty cs e=>a k g ty cs (h k g ty cs e)
theorem cC {L:Loc}{k j:Nat}{o:Own}(h:j≠k):(L.set k o).get j=L.get j:=by rw[Loc.aac,o6 h]
theorem Keeps.new {L:Loc}{k:Nat}{o:Own}(h:L.get k=none):Keeps L (L.set k o):=fun j g ty cs e=>by
 rw[cC (fun a=>by rw[a,h] at e;cases e)];exact e
theorem Keeps.row {L:Loc}{k:Nat}{v:Value}{t:TypeId}{sz n:Nat}{xs:List Value}{o:Own}(h:L.get k=some (.row v t sz n xs)):Keeps L (L.set k o):=fun j g ty cs e=>by
 rw[cC (fun a=>by rw[a,h] at e;cases e)];exact e
section
variable {P:Program}{F:aD}{L:Loc}{ρ:Env}{K:cQ}
theorem CallsA.up {f:Nat}{args:Array Value}{F F1:aD}{R:aD->List Own->Value->Prop}{Lin:List Own}(h:CallsA P f args F Lin R) (p:F.le F1) (hg:sM F):CallsA P f args F1 Lin R:=by
 refine⟨h.ent,h.mono,fun w n=>?_⟩;have t:St F (inp Lin) w:=⟨fun b o e=>n.frz b o (p b o e),n.own,fun k o g e hb=>(by
  cases d:F g with
  | none=>rfl
  | some o1=>have j:=p g o1 d;rw[n.off k o g e hb] at j;cases j),n.sep,hg⟩
 refine(h.run w t).mono ?_;rintro e w' ⟨v,F',Lo,rfl,c,a,z⟩;have r:∀b o,F1 b=some o->¬(inp Lin).owns b:=by
  rintro b o x ⟨k,o',e,hb⟩;rw[n.off k o' b e hb] at x;cases x
 have q:∀b o,F1 b=some o->w'.heap[b]?=some o:=fun b o e=>by
  have d:=n.frz b o e;rw[a.same b (Array.getElem?_eq_some_iff.1 d).1 (r b o e)];exact d
 have l:F'.le (fun b=>match F' b with | some o=>some o | none=>F1 b):=fun b o e=>by simp only[e]
 refine⟨v,fun b=>match F' b with | some o=>some o | none=>F1 b,Lo,rfl,⟨fun b o e=>?_,c.own,fun k o g e hb=>?_,c.sep,sM.mono l c.glob⟩,⟨fun b o e=>?_,a.os,a.tape,a.output,a.size,a.same,fun b hb=>?_,a.own⟩,h.mono _ _ _ _ l z⟩
 ·split at e
  ·rename_i o' s;injection e with e
   subst e;exact c.frz b _ s
  ·exact q b o e
 ·have d:=c.off k o g e hb;simp only[d];cases j:F1 g with
  | none=>rfl
  | some u =>
   rcases a.own g ⟨k,o,e,hb⟩ with m | m
   ·exact o4 m (r g u j)
   ·have:=(Array.getElem?_eq_some_iff.1 (n.frz g u j)).1;omega
 ·cases d:F' b with
  | none=>exact e
  | some o' =>
   have j:=c.frz b o' d;rw[q b o e] at j;exact j.symm
 ·cases d:F' b with
  | none=>rw[d] at hb;exact .inl hb
  | some o' =>
   rcases a.frz b (by rw[d];simp) with m | m | m
   ·refine .inl (fun h4=>?_);cases y:F b with
    | none=>exact m y
    | some o5=>have:=p b o5 y;rw[h4] at this;cases this
   ·exact .inr (.inl m)
   ·exact .inr (.inr m)
theorem Real.glob {F:aD}{L:Loc}(h:Real F L):sM F:=by obtain⟨w,a⟩:=h;exact a.glob
theorem Real.down {F F':aD}{L L':Loc}(h:Real F' L') (c:F.le F') (j:sM F) (f:L'.part L):Real F L:=by
 obtain⟨w,a⟩:=h;have a:=a.part f;refine⟨w,⟨fun b o e=>a.frz b o (c b o e),a.own,fun k o g e hb=>?_,a.sep,j⟩⟩;cases l:F g with
 | none=>rfl
 | some o'=>have d:=c g o' l;rw[a.off k o g e hb] at d;cases d
theorem Ju {L:Loc}{k:Nat}{o:Own}(h:L.get k=none):(L.set k o).part L:=fun j p e=>by
 rw[cC (fun a=>by rw[a,h] at e;cases e)];exact e
theorem Bl {L L1:Loc}{k:Nat}{o:Own}(h:L1.part L) (b:L.get k=none):(L1.set k o).part (L.set k o):=fun j p e=>by
 rw[Loc.aac] at e ⊢;split
 ·rename_i a;rw[eu a] at e;exact e
 ·rename_i a;rw[o6 a] at e;exact h j p e
def Left (d:Option Nat) (L L':Loc):Prop:=L'=L\/(∃k o,d=some k/\L.get k=none/\L'=L.set k o)\/∃k a t sz n xs,L.get k=some (.row a t sz n xs)/\L'=L.set k (.row (.slice none 0 0) t sz 0 [])
theorem Left.keeps {d:Option Nat}{L L':Loc}(h:Left d L L'):Keeps L L':=by
 rcases h with rfl | ⟨k,o,_,a,rfl⟩ | ⟨k,b,t,sz,n,xs,a,rfl⟩
 ·exact Keeps.refl _
 ·exact Keeps.new a
 ·exact Keeps.row a
theorem zq {L L1:Loc}{k:Nat}{o:Own}(h:L1.part L):(L1.set k o).part (L.set k o):=fun j p e=>by
 rw[Loc.aac] at e ⊢;split
 ·rename_i a;rw[eu a] at e;exact e
 ·rename_i a;rw[o6 a] at e;exact h j p e
theorem eB.imp {f:Nat}{args:List Value}{F:aD}{L:Loc}{d:Option Nat}{K K':aD->Loc->Value->Prop}(h:eB P f args F L d K) (q:∀F' L' v,F.le F'->Left d L L'->Real F' L'->K F' L' v->K' F' L' v):eB P f args F L d K':=by
 cases h with
 | frz R l j=>exact .frz R l fun v F' Lo a e=>⟨(j v F' Lo a e).1,fun b=>q F' L v a (.inl rfl) b ((j v F' Lo a e).2 b)⟩
 | own R k l w m j =>
  refine .own R k l w m fun v F' Lo a e=>?_;obtain⟨o,u,s⟩:=j v F' Lo a e;exact⟨o,u,fun b=>q F' _ v a (.inr (.inl ⟨k,o,w,m,rfl⟩)) b (s b)⟩
 | row R r p t sz n xs l c j =>
  refine .row R r p t sz n xs l c fun v F' Lo a e=>?_;obtain⟨u,s⟩:=j v F' Lo a e;exact⟨u,fun b=>q F' _ v a (.inr (.inr ⟨r,p,t,sz,n,xs,c,rfl⟩)) b (s b)⟩
 | lent R r p t sz n xs l c j=>exact .lent R r p t sz n xs l c fun v F' a e b=>q F' L v a (.inl rfl) b (j v F' a e b)
theorem eB.up {f:Nat}{args:List Value}{F F1:aD}{L L1:Loc}{d:Option Nat}{K:aD->Loc->Value->Prop}(h:eB P f args F L d K) (b:F.le F1) (x:sM F) (r:L1.part L) (y:∀k,d=some k->L.get k=none->L1.get k=none) :
  eB P f args F1 L1 d (fun F' L' v=>F1.le F'/\Real F' L'/\((L'=L1/\K F' L v)\/(∃k o,d=some k/\L.get k=none/\L'=L1.set k o/\K F' (L.set k o) v)\/∃k q t sz n xs,L.get k=some (.row q t sz n xs)/\L'=L1.set k (.row (.slice none 0 0) t sz 0 [])/\K F' (L.set k (.row (.slice none 0 0) t sz 0 [])) v)):=by
 cases h with
 | frz R p l =>
  refine .frz R (p.up b x) fun v F' Lo a j=>?_;obtain⟨w,u⟩:=l v F' Lo (aD.le_trans b a) j;exact⟨w,fun c=>⟨a,c,.inl ⟨rfl,u (c.down (aD.le_refl _) c.glob r)⟩⟩⟩
 | own R k p z m l =>
  refine .own R k (p.up b x) z (y k z m) fun v F' Lo a j=>?_;obtain⟨o,w,u⟩:=l v F' Lo (aD.le_trans b a) j;exact⟨o,w,fun c=>⟨a,c,.inr (.inl ⟨k,o,z,m,rfl,u (c.down (aD.le_refl _) c.glob (Bl r m))⟩)⟩⟩
 | row R s q t sz n xs p e l =>
  refine .row R s q t sz n xs (p.up b x) (r s _ e) fun v F' Lo a j=>?_;obtain⟨w,u⟩:=l v F' Lo (aD.le_trans b a) j;exact⟨w,fun c=>⟨a,c,.inr (.inr ⟨s,q,t,sz,n,xs,e,rfl,u (c.down (aD.le_refl _) c.glob (zq r))⟩)⟩⟩
 | lent R s q t sz n xs p e l =>
  exact .lent R s q t sz n xs (p.up b x) (r s _ e) fun v F' a j c=>⟨a,c,.inl ⟨rfl,l v F' (aD.le_trans b a) j (c.down (aD.le_refl _) c.glob r)⟩⟩
theorem eB.some {f:Nat}{args:List Value}{F:aD}{L:Loc}{d:Option Nat}{K:aD->Loc->Value->Prop}(h:eB P f args F L d K) (hr:Real F L):∃F' L' v,F.le F'/\Left d L L'/\Real F' L'/\K F' L' v:=by
 obtain⟨w,s⟩:=hr;have aa:St F (inp []) w:=⟨s.frz,fun k o e=>(by cases e),fun k o g e=>(by cases e),fun k k' o o' g e=>(by cases e),s.glob⟩;cases h with
 | frz R y x =>
  obtain⟨e,w',fr,⟨v,F',Lo,_,l,b,u⟩,_⟩:=y.run w aa [];obtain⟨rfl,z⟩:=x v F' Lo b.le u;have a:Real F' L:=⟨w',(jA (ks:=[]) (ko:=[]) s rfl List.nodup_nil List.nodup_nil (fun _ h=>(by cases h)) l b rfl).1⟩;exact⟨F',L,v,b.le,.inl rfl,a,z a⟩
 | own R k y hd ab x =>
  obtain⟨e,w',fr,⟨v,F',Lo,_,l,b,u⟩,_⟩:=y.run w aa [];obtain⟨o,rfl,z⟩:=x v F' Lo b.le u;have a:Real F' (L.set k o):=⟨w',(jA (ks:=[]) (ko:=[k]) s rfl List.nodup_nil (by simp) (fun j r=>.inr (by simp at r;rw[r];exact ab)) l b rfl).1⟩;exact⟨F',_,v,b.le,.inr (.inl ⟨k,o,hd,ab,rfl⟩),a,z a⟩
 | row R q rv t sz n xs y m x =>
  have c:L.sub [q]=Option.some [.row rv t sz n xs]:=by simp only[Loc.sub,m]
  obtain⟨e,w',fr,⟨v,F',Lo,_,l,b,u⟩,_⟩:=y.run w (s.handed c (by simp)) [];obtain⟨rfl,z⟩:=x v F' Lo b.le u;have hb:=(jA (ks:=[q]) (ko:=[]) s c (by simp) List.nodup_nil (fun _ h=>(by cases h)) l b rfl).1;have a:Real F' (L.set q (.row (.slice none 0 0) t sz 0 [])):=by
   have h5:((L.aaf [q]).puts [] []).get q=none:=by simp only[Loc.aaf,Loc.puts,Loc.aai,eu]
   have h6:=hb.put h5 (o:=.row (.slice none 0 0) t sz 0 []) (World.ownsRow_nil w' 0 t sz) (fun g hg=>by cases hg);refine⟨w',h6.part fun j p e=>?_⟩;rw[Loc.aac] at e ⊢;split at e
   ·rename_i r;rw[eu r];exact e
   ·rename_i r;rw[o6 r];simp only[Loc.aaf,Loc.puts,Loc.aai,o6 r];exact e
  exact⟨F',_,v,b.le,.inr (.inr ⟨q,rv,t,sz,n,xs,m,rfl⟩),a,z a⟩
 | lent R q rv t sz n xs y m x =>
  have c:L.sub [q]=Option.some [.row rv t sz n xs]:=by simp only[Loc.sub,m]
  obtain⟨e,w',fr,⟨v,F',Lo,_,l,b,⟨rfl,u⟩⟩,_⟩:=y.run w (s.handed c (by simp)) [];have hb:=(jA (ks:=[q]) (ko:=[q]) s c (by simp) (by simp) (fun _ h=>.inl h) l b rfl).1;have a:Real F' L:=by
   refine⟨w',hb.part fun j p e=>?_⟩;simp only[Loc.aaf,Loc.puts,Loc.aac,Loc.aai];split
   ·rename_i r;rw[r,m] at e;exact e
   ·exact e
  exact⟨F',L,v,b.le,.inl rfl,a,x v F' b.le u a⟩
theorem qx.imp {F F':aD}{L:Loc}{d:Option Nat}{e sz b:Nat}{s x:Value}{K K':Loc->Value->Prop}(h:qx F L d e sz b s x K) (o:F.le F')
  (hk:∀j n xs n' k v,(L.get j=some (.row s e sz n xs)\/(d=some j/\L.get j=none))->Real F' (L.set j (.row v e sz n' k))->(Real F (L.set j (.row v e sz n' k))->K (L.set j (.row v e sz n' k)) v)->K' (L.set j (.row v e sz n' k)) v):qx F' L d e sz b s x K':=by
 obtain⟨j,n,xs,m,news,a,⟨p,c,t,y,l⟩,h5,r,q,h8⟩:=h;refine⟨j,n,xs,m,news,?_,⟨p,c,t,y,?_⟩,h5,r,q,fun v hv w=>hk j n xs _ _ v ?_ w (h8 v hv)⟩
 ·rcases a with a | a | ⟨a,f,p,q1,q2,u,z⟩
  ·exact .inl a
  ·exact .inr (.inl a)
  ·exact .inr (.inr ⟨a,f,p,q1,q2,u,z.imp (·.mono o) id⟩)
 ·rcases l with l | l
  ·exact .inl (l.mono o)
  ·exact .inr l
 ·rcases a with a | ⟨a,f,_⟩ | ⟨a,f,_⟩
  ·exact .inl a
  ·exact .inr ⟨a,f⟩
  ·exact .inr ⟨a,f⟩
theorem Hv {L L1:Loc}{k:Nat}{o:Own}(h:L1.part L):(L1.set k o).part (L.set k o):=fun j p e=>by
 rw[Loc.aac] at e ⊢;split
 ·rename_i a;rw[eu a] at e;exact e
 ·rename_i a;rw[o6 a] at e;exact h j p e
theorem CT {e sz b:Nat}{zs:List Value}{s x:X}{d:Option Nat}:evalOp P (.appD e sz b zs s x) d F L ρ K=(match ev ρ s,ev ρ x with
  | .v sv,.v a=>qx F L d e sz b sv a fun L1 v=>K F L1 (put d (.v v) ρ)
  | _,_=>False):=rfl
theorem Real.store {F:aD}{L:Loc}{k g:Nat}{t:TypeId}{cs cs':List Value}(c:t≠0) (n:Real F L) (l:L.get k=Option.some (.box g t cs)):Real F (L.set k (.box g t cs')):=by
 obtain⟨w,j⟩:=n;have a:=mC w g cs'.toArray;refine⟨w.setRow g cs'.toArray,j.turn l ?_ (fun b h f=>a.block b h (fun e=>f (by rw[e];rfl))) (fun o d=>.inl d)⟩;show _=_;have m:w.heap[g]?=Option.some (.cells cs.toArray t (0,0)):=by rw[<-ij c];exact j.own k _ l
 rw[ij c];exact setRow_heap w g cs.toArray _ t _ m
theorem qx.some {F:aD}{L:Loc}{d:Option Nat}{e sz b:Nat}{s x:Value}{K:Loc->Value->Prop}(h:qx F L d e sz b s x K) (hr:Real F L) :
  ∃a v n' o,((∃n xs,L.get a=some (.row s e sz n xs))\/(d=some a/\L.get a=none))/\Real F (L.set a (.row v e sz n' o))/\K (L.set a (.row v e sz n' o)) v:=by
 obtain⟨a,n,xs,m,news,k,⟨ad,c,h2,h3,h4⟩,h5,h6,h7,h8⟩:=h;obtain⟨w,hs⟩:=hr;have u:xs.length=n*sz:=by
  rcases k with k | ⟨_,_,rfl,rfl,_⟩ | ⟨_,_,_,_,_,q,_⟩
  ·exact(hs.own a _ k).1
  ·simp
  ·exact q
 have r:=mB w (xs++news) e (n+m) sz h6 (by rw[yo,u,h3,Nat.add_mul]);have z:St F (L.del a) w:=hs.part (fun j p e=>by rw[Loc.aai] at e;split at e;cases e;exact e);have ab:(L.del a).get a=none:=by rw[Loc.aai,eu rfl]
 have aa:=(kK z ab (cs:=(xs++news).toArray) (t:=e) (e:=.row (.slice (Option.some ⟨w.heap.size,0,none⟩) (n+m) (n+m)) e sz (n+m) (xs++news)) rfl r).1;have f:Real F (L.set a (.row (.slice (Option.some ⟨w.heap.size,0,none⟩) (n+m) (n+m)) e sz (n+m) (xs++news))) :=
  ⟨_,aa.part (fun j p e=>by
   rw[Loc.aac] at e ⊢;split
   ·rename_i y;rw[eu y] at e;exact e
   ·rename_i y;rw[o6 y] at e;rw[Loc.aai,o6 y];exact e)⟩
 refine⟨a,_,n+m,xs++news,?_,f,h8 _ ⟨_,_,rfl,fun e=>(by cases e)⟩ f⟩;rcases k with k | ⟨k,l,_⟩ | ⟨k,l,_⟩
 ·exact .inl ⟨n,xs,k⟩
 ·exact .inr ⟨k,l⟩
 ·exact .inr ⟨k,l⟩
def EC (o:eH):Bool:=dm o||iz o||eW o||ql o
def okD (o:eH):Bool:=EC o||iT o
theorem ve {o:eH}{d:Option Nat}{v:SV}(h:∀k,d=some k->k∉cI (bI o)):Alike o L L ρ (put d v ρ) :=
 fun x a=>⟨gI h x a,fun _ _ _=>rfl⟩
theorem xQ {o:eH}(ho:okD o=true) {d y:Option Nat}{u:SV}(h:∀k,y=some k->k∉cI (bI o)) (q:∀k,d=some k->y≠some k)
  (c:evalOp P o d F L ρ (fun F1 L1 ab=>K F1 L1 (put y u ab))):evalOp P o d F L (put y u ρ) K:=by
 by_cases hs:dm o=true
 ·rw[cF hs] at c ⊢;have:=rL hs (aD.le_refl F) (ve (L:=L) (ρ:=ρ) (v:=u) h) c;refine(fM hs).mono _ _ (fun v r=>?_) this;rw[put_comm q];exact r
 ·have r:∀x∈bI o,val L (put y u ρ) x=val L ρ x:=fun x hx=>by simp only[val,gI h x hx]
  cases o<;>first | (exfalso;revert hs ho;simp[okD,EC,dm,iz,eW,ql,iT];done) | skip
  case boxD t x =>
   have e:=r x (by simp[bI]);simp only[evalOp,e] at c ⊢;split at c
   ·rename_i k;split at c
    ·intro g p;have:=c g p;rw[put_comm q];exact this
    ·exact c
   ·exact c
  case allocD t zs =>
   simp only[evalOp] at c ⊢;split at c
   ·rename_i k;split at c
    ·intro g p;have:=c g p;rw[put_comm q];exact this
    ·exact c
   ·exact c
  case mkFD e n sz xs =>
   have m:=nR (sz:=sz) (xs:=xs) r;have z:=cG (xs:=xs) r;simp only[evalOp,m,z] at c ⊢;split at c
   ·intro g F' ag hg p;rw[put_comm q];exact c g F' ag hg p
   ·exact c
  case callD f args =>
   have m:=dI (xs:=args) r;simp only[evalOp,m] at c ⊢;refine c.imp fun F' L' v _ _ _ h=>?_;rw[put_comm q];exact h
  case callVD f args =>
   have w:=gI (v:=u) (ρ:=ρ) h f (by simp[bI]);have m:=dI (xs:=args) (L:=L) (L':=L) (ρ:=ρ) (ρ':=put y u ρ) (fun x hx=>r x (by simp[bI,hx]));simp only[evalOp,w,m] at c ⊢;split at c
   ·refine c.imp fun F' L' v _ _ _ h=>?_;rw[put_comm q];exact h
   ·exact c
  case appD e sz b zs s x =>
   have w:=gI (v:=u) (ρ:=ρ) h s (by simp[bI]);have m:=gI (v:=u) (ρ:=ρ) h x (by simp[bI]);simp only[evalOp,w,m] at c ⊢;split at c
   ·refine c.imp (aD.le_refl F) fun kd n xs n' an v _ p h=>?_;rw[put_comm q];exact h p
   ·exact c
  case makeSD e sz n zs =>
   simp only[evalOp] at c ⊢;split at c
   ·rename_i k;split at c
    ·intro g p;have:=c g p;rw[put_comm q];exact this
    ·exact c
   ·exact c
  case makeSV e sz b zs x =>
   have m:=r x (by simp[bI]);simp only[evalOp,m] at c ⊢;split at c
   ·rename_i k;split at c
    ·intro g p;have:=c g p;rw[put_comm q];exact this
    ·exact c
   ·exact c
  case storeD n a x =>
   obtain⟨n',a',x',k,off,g,t,cs,j,m,z,e3,e4,e5,c⟩:=iU rfl c;have w:=gI (v:=u) (ρ:=ρ) h a (by simp[bI]);have l:=r x (by simp[bI]);rcases j with j | j
   ·injection j with q1 q2 q3
    subst q1 q2 q3;exact iG (.inl rfl) (by rw[l];exact m) (by rw[l];exact z) (by rw[w];exact e3) e4 e5 (by rw[l,put_comm q];exact c)
   ·cases j
  case storeK key n a x =>
   obtain⟨n',a',x',k,off,g,t,cs,j,m,z,e3,e4,e5,c⟩:=iU rfl c;have w:=gI (v:=u) (ρ:=ρ) h a (by simp[bI]);have l:=r x (by simp[bI]);rcases j with j | j
   ·cases j
   ·injection j with q0 q1 q2 q3
    subst q0 q1 q2 q3;exact iG (.inr rfl) (by rw[l];exact m) (by rw[l];exact z) (by rw[w];exact e3) e4 e5 (by rw[l,put_comm q];exact c)
def vg:eH->eH->Bool
 | .build _ _,_=>true
 | .mkfn _ _ _,_=>true
 | .loadK k _ _ _,.storeK a _ _ _=>match Nat.beq k a with | true=>false | false=>true
 | x,_=>CR x
theorem sB {x y:eH}(h:vg x y=true):dm x=true:=by
 unfold vg at h;split at h
 ·rfl
 ·rfl
 ·rfl
 ·exact CS h
theorem Af {x y:eH}{k n:Nat}{a z:X}{L L':Loc}{V:SV->Prop}(h:vg x y=true) (d:y=.storeD n a z\/y=.storeK k n a z) (o:∀sv,conc L' sv=conc L sv) (s:∀j,j≠k->L'.get j=L.get j) (c:aL x F L ρ V):aL x F L' ρ V:=by
 unfold vg at h;split at h
 ·rename_i zs ps;have e:=qH (ps:=ps) (zs:=zs) (L:=L) (L':=L') (ρ:=ρ) (ρ':=ρ) (fun p _=>o _);simp only[aL,e] at c ⊢;exact c
 ·rename_i f a b;have r:=dI (xs:=a) (L:=L) (L':=L') (ρ:=ρ) (ρ':=ρ) (fun _ _=>o _);have q:=dI (xs:=b) (L:=L) (L':=L') (ρ:=ρ) (ρ':=ρ) (fun _ _=>o _);simp only[aL,r,q] at c ⊢;exact c
 ·rename_i w ag m x u m2 t v;rcases d with d | d
  ·cases d
  ·injection d with q0 q1 q2 q3
   subst q0;split at h
   ·cases h
   ·rename_i hb;have hb:=fJ hb;simp only[aL] at c ⊢;split at c
    ·rename_i k3 off e;split at c
     ·rename_i l;have l:=vv l;subst l;simp only[s _ hb];exact c
     ·exact c.elim
    ·exact c.elim
 ·exact Ad h c
theorem CU {L:Loc}{k g:Nat}{t:TypeId}{cs cs':List Value}(b:L.get k=some (.box g t cs)) (sv:SV):conc (L.set k (.box g t cs')) sv=conc L sv:=by
 cases sv with
 | v u=>rfl
 | el a j=>rfl
 | own j off =>
  simp only[conc,Loc.aac]
  by_cases e:j=k
  ·subst e;rw[eu rfl,b]
  ·rw[o6 e]
def xR (x y:eH):Bool:=(dm x&&EC y&&(!Jr x||dm y))||(iz x&&eW y)||(ql x&&eW y)||(eW x&&eW y)||(vg x y&&iT y)||(iT x&&vg y x)
inductive Made:eH->Option Nat->aD->Loc->Env->aD->Loc->SV->Prop
 | box {t:TypeId}{x:X}{k:Nat}{F:aD}{L:Loc}{ρ:Env}(g:Nat):Made (.boxD t x) (some k) F L ρ F (L.set k (.box g t (aK (val L ρ x)))) (.own k 0)
 | alloc {t:TypeId}{zs:List Value}{k:Nat}{F:aD}{L:Loc}{ρ:Env}(g:Nat):Made (.allocD t zs) (some k) F L ρ F (L.set k (.box g t zs)) (.own k 0)
 | mkS {e:TypeId}{sz n:Nat}{zs:List Value}{k:Nat}{F:aD}{L:Loc}{ρ:Env}(g:Nat):Made (.makeSD e sz n zs) (some k) F L ρ F (L.set k (.row (.slice (some ⟨g,0,none⟩) n n) e sz n (List.replicate n zs).flatten)) (.v (.slice (some ⟨g,0,none⟩) n n))
 | mkV {e:TypeId}{sz b:Nat}{zs:List Value}{x:X}{k:Nat}{F:aD}{L:Loc}{ρ:Env}(g n:Nat) (hn:n=mU (val L ρ x)):Made (.makeSV e sz b zs x) (some k) F L ρ F (L.set k (.row (.slice (some ⟨g,0,none⟩) n n) e sz n (List.replicate n zs).flatten)) (.v (.slice (some ⟨g,0,none⟩) n n))
 | mkF {e:TypeId}{n sz:Nat}{xs:List X}{d:Option Nat}{F:aD}{L:Loc}{ρ:Env}(g:Nat) (F':aD) (hle:F.le F') (hg:F' g=some (.cells (cellsOf L ρ xs).toArray e (0,0))) :
   Made (.mkFD e n sz xs) d F L ρ F' L (.v (.slice (some ⟨g,0,none⟩) n n))
def bP:eH->Option Nat->Loc->Env->Bool
 | .boxD _ _,some k,L,_=>(L.get k).isNone
 | .allocD _ _,some k,L,_=>(L.get k).isNone
 | .makeSD _ sz n zs,some k,L,_=>match L.get k,fH zs sz,Nat.ble n 9223372036854775807 with | none,true,true=>true | _,_,_=>false
 | .makeSV _ sz b zs x,some k,L,ρ=>match L.get k,fH zs sz,tQ b (val L ρ x) with | none,true,true=>true | _,_,_=>false
 | .mkFD _ _ sz xs,_,L,ρ=>fI L ρ sz xs
 | _,_,_,_=>false
theorem bX {o:eH}(h:eW o=true) {d:Option Nat}:evalOp P o d F L ρ K↔bP o d L ρ=true/\∀F' L' v,Made o d F L ρ F' L' v->Real F' L'->K F' L' (put d v ρ):=by
 cases o<;>first | (exfalso;revert h;simp[eW];done) | skip
 case boxD t x =>
  simp only[evalOp];cases d with
  | none=>simp[bP]
  | some k =>
   simp only[bP];cases l:L.get k with
   | none =>
    simp only[Option.isNone_none,true_and];constructor
    ·rintro h F' L' v c a;cases c with
     | box g=>exact h g a
    ·intro h g a;exact h _ _ _ (.box g) a
   | some p=>simp
 case allocD t zs =>
  simp only[evalOp];cases d with
  | none=>simp[bP]
  | some k =>
   simp only[bP];cases l:L.get k with
   | none =>
    simp only[Option.isNone_none,true_and];constructor
    ·rintro h F' L' v c a;cases c with
     | alloc g=>exact h g a
    ·intro h g a;exact h _ _ _ (.alloc g) a
   | some p=>simp
 case makeSD e sz n zs =>
  simp only[evalOp];cases d with
  | none=>simp[bP]
  | some k =>
   simp only[bP];cases l:L.get k with
   | some p=>simp
   | none =>
    cases r:fH zs sz with
    | false=>simp
    | true =>
     cases m:Nat.ble n 9223372036854775807 with
     | false=>simp
     | true =>
      simp only[true_and];constructor
      ·rintro h F' L' v c a;cases c with
       | mkS g=>exact h g a
      ·intro h g a;exact h _ _ _ (.mkS g) a
 case makeSV e sz b zs x =>
  simp only[evalOp];cases d with
  | none=>simp[bP]
  | some k =>
   simp only[bP];cases l:L.get k with
   | some p=>simp
   | none =>
    cases r:fH zs sz with
    | false=>simp
    | true =>
     cases m:tQ b (val L ρ x) with
     | false=>simp
     | true =>
      simp only[true_and];constructor
      ·rintro h F' L' v c a;cases c with
       | mkV g n q=>subst q;exact h g a
      ·intro h g a;exact h _ _ _ (.mkV g _ rfl) a
 case mkFD e n sz xs =>
  simp only[evalOp,bP];cases s:fI L ρ sz xs with
  | false=>simp
  | true =>
   simp only[true_and];constructor
   ·rintro h F' L' v c a;cases c with
    | mkF g F' f j=>exact h g _ f j a
   ·intro h g F' f j a;exact h _ _ _ (.mkF g F' f j) a
theorem Bm:∀{l:List Value}{n:Nat},l.length=n->fH l n=true
 | [],0,_=>rfl
 | _::l,n+1,h=>Bm (l:=l) (by simpa using h)
theorem oQ {e:TypeId}{sz n k:Nat}{zs:List Value}(h:bP (.makeSD e sz n zs) (some k) L ρ=true):L.get k=none/\zs.length=sz/\n<=maxLen:=by
 simp only[bP] at h;split at h
 ·rename_i a b c;exact⟨a,iS b,aa1 c⟩
 ·cases h
theorem oS {e:TypeId}{sz b k:Nat}{zs:List Value}{x:X}(h:bP (.makeSV e sz b zs x) (some k) L ρ=true):L.get k=none/\zs.length=sz/\mU (val L ρ x)<=maxLen/\tQ b (val L ρ x)=true:=by
 simp only[bP] at h;split at h
 ·rename_i c d a;exact⟨c,iS d,Hh a,a⟩
 ·cases h
theorem Ag {o:eH}{d:Option Nat}(y:Real F L) (h:bP o d L ρ=true):∃F' L' v,Made o d F L ρ F' L' v/\F.le F'/\Real F' L':=by
 obtain⟨w,j⟩:=y;have c:∀(e:TypeId) (cs:List Value),∃F',F.le F'/\F' w.heap.size=some (.cells cs.toArray e (0,0))/\Real F' L:=by
  intro e cs;have f:=gP w (.cells cs.toArray e);obtain⟨z,q⟩:=qA j;exact⟨_,aD.aas (j.alloc (.cells cs.toArray e)) f,eu rfl,⟨_,(j.alloc (.cells cs.toArray e)).freeze f q⟩⟩
 cases o<;>cases d<;>simp only[bP] at h<;>try (cases h;done)
 ·rename_i t x k;rw[Option.isNone_iff_eq_none] at h;refine⟨_,_,_,.box w.heap.size,aD.le_refl F,⟨_,(mV j h (ob:=lT t (aK (val L ρ x))) (e:=.box w.heap.size t (aK (val L ρ x))) rfl ?_).1⟩⟩;show _=_;rw[gP]
 ·rename_i t zs k;rw[Option.isNone_iff_eq_none] at h;refine⟨_,_,_,.alloc w.heap.size,aD.le_refl F,⟨_,(mV j h (ob:=lT t zs) (e:=.box w.heap.size t zs) rfl ?_).1⟩⟩;show _=_;rw[gP]
 ·rename_i e n sz xs;obtain⟨F',l,p,r⟩:=c e (cellsOf L ρ xs);exact⟨F',L,_,.mkF w.heap.size F' l p,l,r⟩
 ·rename_i e n sz xs k;obtain⟨F',l,p,r⟩:=c e (cellsOf L ρ xs);exact⟨F',L,_,.mkF w.heap.size F' l p,l,r⟩
 ·rename_i e sz n zs k;obtain⟨s,u,m⟩:=oQ (ρ:=ρ) (e:=e) h;have a:=mB w (List.replicate n zs).flatten e n sz m (by rw[List.length_flatten];simp[u]);refine⟨_,_,_,.mkS w.heap.size,aD.le_refl F,⟨_,(kK j s (cs:=((List.replicate n zs).flatten).toArray) (t:=e) (e:=.row (.slice (some ⟨w.heap.size,0,none⟩) n n) e sz n (List.replicate n zs).flatten) rfl a).1⟩⟩
 ·rename_i e sz b zs x k;obtain⟨s,u,m,_⟩:=oS (e:=e) h;have a:=mB w (List.replicate (mU (val L ρ x)) zs).flatten e (mU (val L ρ x)) sz m (by rw[List.length_flatten];simp[u]);refine⟨_,_,_,.mkV w.heap.size _ rfl,aD.le_refl F,⟨_,(kK j s (cs:=((List.replicate (mU (val L ρ x)) zs).flatten).toArray) (t:=e) (e:=.row (.slice (some ⟨w.heap.size,0,none⟩) (mU (val L ρ x)) (mU (val L ρ x))) e sz (mU (val L ρ x)) (List.replicate (mU (val L ρ x)) zs).flatten) rfl a).1⟩⟩
theorem Made.le {o:eH}{d:Option Nat}{F':aD}{L':Loc}{v:SV}(h:Made o d F L ρ F' L' v):F.le F':=by
 cases h with
 | box g=>exact aD.le_refl _
 | alloc g=>exact aD.le_refl _
 | mkS g=>exact aD.le_refl _
 | mkV g n c=>exact aD.le_refl _
 | mkF g F' a b=>exact a
theorem Made.part {o:eH}{d:Option Nat}{F':aD}{L':Loc}{v:SV}(a:bP o d L ρ=true) (h:Made o d F L ρ F' L' v):L'.part L:=by
 intro j p e;cases h with
 | box g =>
  simp only[bP,Option.isNone_iff_eq_none] at a;rw[cC (fun h=>by rw[h] at e;rw[a] at e;cases e)];exact e
 | alloc g =>
  simp only[bP,Option.isNone_iff_eq_none] at a;rw[cC (fun h=>by rw[h] at e;rw[a] at e;cases e)];exact e
 | mkS g =>
  have a:=(oQ a).1;rw[cC (fun h=>by rw[h] at e;rw[a] at e;cases e)];exact e
 | mkV g n c =>
  have a:=(oS a).1;rw[cC (fun h=>by rw[h] at e;rw[a] at e;cases e)];exact e
 | mkF g F' b f=>exact e
theorem Made.get {o:eH}{d:Option Nat}{F':aD}{L':Loc}{v:SV}(a:bP o d L ρ=true) (h:Made o d F L ρ F' L' v):Keeps L L':=by
 cases h with
 | box g =>
  simp only[bP,Option.isNone_iff_eq_none] at a;exact Keeps.new a
 | alloc g =>
  simp only[bP,Option.isNone_iff_eq_none] at a;exact Keeps.new a
 | mkS g=>exact Keeps.new (oQ a).1
 | mkV g n e=>exact Keeps.new (oS a).1
 | mkF g F' b c=>exact Keeps.refl _
theorem Made.frame {o:eH}{d:Option Nat}{F':aD}{L':Loc}{v:SV}(h:Made o d F L ρ F' L' v):∀j,d≠some j->L'.get j=L.get j:=by
 intro j a;cases h with
 | box g=>exact cC (fun e=>a (by rw[e]))
 | alloc g=>exact cC (fun e=>a (by rw[e]))
 | mkS g=>exact cC (fun e=>a (by rw[e]))
 | mkV g n c=>exact cC (fun e=>a (by rw[e]))
 | mkF g F' b f=>rfl
theorem iV {o:eH}{d:Option Nat}{L L':Loc}{ρ ρ':Env}(j:∀x∈bI o,val L' ρ' x=val L ρ x) (c:∀k,d=some k->(L'.get k=none->L.get k=none)) (h:bP o d L' ρ'=true):bP o d L ρ=true:=by
 cases o<;>cases d<;>simp only[bP] at h ⊢<;>try (cases h;done)
 ·rename_i t x k;rw[Option.isNone_iff_eq_none] at h ⊢;exact c k rfl h
 ·rename_i t zs k;rw[Option.isNone_iff_eq_none] at h ⊢;exact c k rfl h
 ·rename_i e n sz xs;rw[<-nR (xs:=xs) j];exact h
 ·rename_i e n sz xs k;rw[<-nR (xs:=xs) j];exact h
 ·rename_i e sz n zs k;obtain⟨l,f,a⟩:=oQ (L:=L') (ρ:=ρ') (e:=e) h;have a:Nat.ble n 9223372036854775807=true:=Nat.ble_eq_true_of_le a;rw[c k rfl l,Bm f,a]
 ·rename_i e sz b zs x k;obtain⟨l,f,_,a⟩:=oS (L:=L') (ρ:=ρ') (e:=e) h;rw[j x (by simp[bI])] at a;rw[c k rfl l,Bm f,a]
theorem Made.like {o:eH}{d:Option Nat}{ρ ρ':Env}{F':aD}{L':Loc}{v:SV}(a:∀x∈bI o,val L ρ' x=val L ρ x) (h:Made o d F L ρ' F' L' v):Made o d F L ρ F' L' v:=by
 cases h with
 | box g=>rw[a _ (by simp[bI])];exact .box g
 | alloc g=>exact .alloc g
 | mkS g=>exact .mkS g
 | mkV g n e=>exact .mkV g n (by rw[e,a _ (by simp[bI])])
 | mkF g F' b c =>
  rename_i xs;rw[cG (xs:=xs) a] at c;exact .mkF g F' b c
theorem gJ {L L':Loc}{ρ:Env}(b:Vd L ρ) (c:Keeps L L') (x:X):val L' ρ x=val L ρ x:=by
 simp only[val];cases e:ev ρ x with
 | v u=>rfl
 | el a j=>rfl
 | own k off =>
  obtain⟨g,ty,cs,h⟩:=b.ev e;simp only[conc,c k g ty cs h,h]
theorem cT {l:List X}{d:Option Nat}{v:SV}(h:∀k,d=some k->k∉cI l):∀x∈l,val L (put d v ρ) x=val L ρ x:=fun x a=>by simp only[val,gI h x a]
theorem Hw {x y:eH}{dx dy:Option Nat}{F1 F2:aD}{L1 L2:Loc}{v1 v2:SV}(s:bP x dx L ρ=true) (az:bP y dy L ρ=true) (f:∀k,dx=some k->k∉cI (bI y)) (ba:∀k,dy=some k->k∉cI (bI x))
  (d:∀k,dx=some k->dy≠some k) (j:Vd L ρ) (h1:Made y dy F L ρ F1 L1 v1) (h2:Made x dx F1 L1 (put dy v1 ρ) F2 L2 v2) :
  ∃Fa La,Made x dx F L ρ Fa La v2/\Made y dy Fa La (put dx v2 ρ) F2 L2 v1:=by
 have ux:∀z∈bI x,val L1 (put dy v1 ρ) z=val L ρ z:=fun z hz=>by
  rw[cT ba z hz,gJ j (h1.get az)]
 cases h2 with
 | box c =>
  rw[ux _ (by simp[bI])];rename_i t z k;have a:∀{o:Own},Keeps L (L.set k o):=by
   simp only[bP,Option.isNone_iff_eq_none] at s;exact Keeps.new s
  cases h1 with
  | box b =>
   rename_i t' q k';refine⟨F,_,.box c,?_⟩;rw[set_comm L _ _ (fun e=>d k rfl (by rw[e]))];have e:val (L.set k (.box c t (aK (val L ρ z)))) (put (some k) (.own k 0) ρ) q=val L ρ q:=by
    rw[cT f q (by simp[bI]),gJ j (a)]
   rw[<-e];exact .box b
  | alloc b =>
   rename_i t' ag k';refine⟨F,_,.box c,?_⟩;rw[set_comm L _ _ (fun e=>d k rfl (by rw[e]))];exact .alloc b
  | mkS b =>
   refine⟨F,_,.box c,?_⟩;rw[set_comm L _ _ (fun e=>d k rfl (by rw[e]))];exact .mkS b
  | mkV b n1 m =>
   refine⟨F,_,.box c,?_⟩;rw[set_comm L _ _ (fun e=>d k rfl (by rw[e]))];refine .mkV b n1 ?_;rw[m,cT f _ (by simp[bI]),gJ j a]
  | mkF b F' h r =>
   rename_i e' n' ab l;refine⟨F,_,.box c,.mkF b _ h ?_⟩;rw[cG (L:=L) (ρ:=ρ) (xs:=l) (fun u hu=>by rw[cT f u (by simpa[bI] using hu),gJ j a])];exact r
 | alloc c =>
  rename_i t zs k;have a:∀{o:Own},Keeps L (L.set k o):=by
   simp only[bP,Option.isNone_iff_eq_none] at s;exact Keeps.new s
  cases h1 with
  | box b =>
   rename_i t' q k';refine⟨F,_,.alloc c,?_⟩;rw[set_comm L _ _ (fun e=>d k rfl (by rw[e]))];have e:val (L.set k (.box c t zs)) (put (some k) (.own k 0) ρ) q=val L ρ q:=by
    rw[cT f q (by simp[bI]),gJ j (a)]
   rw[<-e];exact .box b
  | alloc b =>
   rename_i t' ag k';refine⟨F,_,.alloc c,?_⟩;rw[set_comm L _ _ (fun e=>d k rfl (by rw[e]))];exact .alloc b
  | mkS b =>
   refine⟨F,_,.alloc c,?_⟩;rw[set_comm L _ _ (fun e=>d k rfl (by rw[e]))];exact .mkS b
  | mkV b n1 m =>
   refine⟨F,_,.alloc c,?_⟩;rw[set_comm L _ _ (fun e=>d k rfl (by rw[e]))];refine .mkV b n1 ?_;rw[m,cT f _ (by simp[bI]),gJ j a]
  | mkF b F' h r =>
   rename_i e' n' ab l;refine⟨F,_,.alloc c,.mkF b _ h ?_⟩;rw[cG (L:=L) (ρ:=ρ) (xs:=l) (fun u hu=>by rw[cT f u (by simpa[bI] using hu),gJ j a])];exact r
 | mkS c =>
  rename_i t am p zs k;have a:∀{o:Own},Keeps L (L.set k o):=by
   exact Keeps.new (oQ s).1
  cases h1 with
  | box b =>
   rename_i t' q k';refine⟨F,_,.mkS c,?_⟩;rw[set_comm L _ _ (fun e=>d k rfl (by rw[e]))];have e:val (L.set k (.row (.slice (some ⟨c,0,none⟩) p p) t am p (List.replicate p zs).flatten)) (put (some k) (.v (.slice (some ⟨c,0,none⟩) p p)) ρ) q=val L ρ q:=by
    rw[cT f q (by simp[bI]),gJ j (a)]
   rw[<-e];exact .box b
  | alloc b =>
   rename_i t' ag k';refine⟨F,_,.mkS c,?_⟩;rw[set_comm L _ _ (fun e=>d k rfl (by rw[e]))];exact .alloc b
  | mkS b =>
   refine⟨F,_,.mkS c,?_⟩;rw[set_comm L _ _ (fun e=>d k rfl (by rw[e]))];exact .mkS b
  | mkV b n1 m =>
   refine⟨F,_,.mkS c,?_⟩;rw[set_comm L _ _ (fun e=>d k rfl (by rw[e]))];refine .mkV b n1 ?_;rw[m,cT f _ (by simp[bI]),gJ j a]
  | mkF b F' h r =>
   rename_i e' n' ab l;refine⟨F,_,.mkS c,.mkF b _ h ?_⟩;rw[cG (L:=L) (ρ:=ρ) (xs:=l) (fun u hu=>by rw[cT f u (by simpa[bI] using hu),gJ j a])];exact r
 | mkV c p ar =>
  rename_i t am b0 zs x0 k;have w:p=mU (val L ρ x0):=by rw[ar,ux _ (by simp[bI])]
  clear ar
  have a:∀{o:Own},Keeps L (L.set k o):=by
   exact Keeps.new (oS s).1
  cases h1 with
  | box b =>
   rename_i t' q k';refine⟨F,_,.mkV c p w,?_⟩;rw[set_comm L _ _ (fun e=>d k rfl (by rw[e]))];have e:val (L.set k (.row (.slice (some ⟨c,0,none⟩) p p) t am p (List.replicate p zs).flatten)) (put (some k) (.v (.slice (some ⟨c,0,none⟩) p p)) ρ) q=val L ρ q:=by
    rw[cT f q (by simp[bI]),gJ j (a)]
   rw[<-e];exact .box b
  | alloc b =>
   rename_i t' ag k';refine⟨F,_,.mkV c p w,?_⟩;rw[set_comm L _ _ (fun e=>d k rfl (by rw[e]))];exact .alloc b
  | mkS b =>
   refine⟨F,_,.mkV c p w,?_⟩;rw[set_comm L _ _ (fun e=>d k rfl (by rw[e]))];exact .mkS b
  | mkV b n1 m =>
   refine⟨F,_,.mkV c p w,?_⟩;rw[set_comm L _ _ (fun e=>d k rfl (by rw[e]))];refine .mkV b n1 ?_;rw[m,cT f _ (by simp[bI]),gJ j a]
  | mkF b F' h r =>
   rename_i e' n' ab l;refine⟨F,_,.mkV c p w,.mkF b _ h ?_⟩;rw[cG (L:=L) (ρ:=ρ) (xs:=l) (fun u hu=>by rw[cT f u (by simpa[bI] using hu),gJ j a])];exact r
 | mkF c F' h r =>
  rename_i e n sz xs;have ax:=cG (xs:=xs) ux;rw[ax] at r;cases h1 with
  | box b =>
   rename_i t' q k';refine⟨F2,L,.mkF c _ h r,?_⟩;have e:=cT (L:=L) (ρ:=ρ) (v:=.v (.slice (some ⟨c,0,none⟩) n n)) f q (by simp[bI]);rw[<-e];exact .box b
  | alloc b=>exact⟨F2,L,.mkF c _ h r,.alloc b⟩
  | mkS b=>exact⟨F2,L,.mkF c _ h r,.mkS b⟩
  | mkV b n1 m=>exact⟨F2,L,.mkF c _ h r,.mkV b n1 (by rw[m,cT f _ (by simp[bI])])⟩
  | mkF b F1' ap ay =>
   rename_i e' n' ab l;refine⟨F2,L,.mkF c _ (aD.le_trans ap h) r,.mkF b _ (aD.le_refl _) ?_⟩;rw[cG (L:=L) (ρ:=ρ) (xs:=l) (fun u hu=>by rw[cT f u (by simpa[bI] using hu)])];exact h _ _ ay
theorem Jv {x y:eH}{dx dy:Option Nat}(hr:Real F L) (hc:xR x y=true) (ac:∀k,dx=some k->k∉cI (bI y)) (am:∀k,dy=some k->k∉cI (bI x)) (d:∀k,dx=some k->dy≠some k)
  (ar:Vd L ρ) (hK:evalOp P x dx F L ρ (fun F1 L1 cd=>evalOp P y dy F1 L1 cd K)):evalOp P y dy F L ρ (fun F1 L1 cd=>evalOp P x dx F1 L1 cd K):=by
 have ec:∀k,dy=some k->dx≠some k:=fun k e e'=>d k e' e;simp only[xR,abl,xo] at hc;rcases hc with((((⟨⟨hx,hy⟩,ds⟩ | ⟨hx,hy⟩) | ⟨hx,hy⟩) | ⟨hx,hy⟩) | ⟨hx,hy⟩) | ⟨hx,hy⟩
 ·rw[cF hx] at hK;obtain⟨v,hT,r⟩:=(fM hx).ex _ hK
  clear hK
  have ao:∀{F':aD}{L':Loc}{u:SV},F.le F'->Keeps L L'->K F' L' (put dy u (put dx v ρ))->(Jr x=false\/L'=L)->evalOp P x dx F' L' (put dy u ρ) K:=by
   intro F' L' u hF hL hk hR;rw[cF hx];have be:Alike x L L' ρ (put dy u ρ):=fun z q=>⟨gI am z q,fun k off e=>by
    obtain⟨g,ty,cs,h⟩:=ar.ev e;rw[hL k g ty cs h,h]⟩
   refine(fM hx).mono _ _ (fun v' dt=>?_) (rL hx hF be hT hR);subst dt;rw[put_comm d];exact hk
  have hv:=cT (L:=L) (ρ:=ρ) (v:=v) ac
  by_cases bd:dm y=true
  ·rw[cF bd] at r ⊢;have be:Alike y L L (put dx v ρ) ρ:=fun z q=>⟨(gI ac z q).symm,fun _ _ _=>rfl⟩;exact(fM bd).mono _ _ (fun u hu=>ao (aD.le_refl F) (Keeps.refl _) hu (.inr rfl)) (rL bd (aD.le_refl F) be r)
  ·have bu:Jr x=false:=by
    rcases ds with h | h
    ·cases e:Jr x with
     | false=>rfl
     | true=>rw[e] at h;cases h
    ·exact o4 h bd
   by_cases cz:eW y=true
   ·rw[bX cz] at r ⊢;obtain⟨l,h2⟩:=r;have p:bP y dy L ρ=true:=iV (L':=L) (ρ':=put dx v ρ) hv (fun k _ e=>e) l;refine⟨p,fun F' L' u hm bk=>ao hm.le (hm.get p) (h2 F' L' u ?_ bk) (.inl bu)⟩;exact hm.like fun z q=>(hv z q).symm
   ·cases y<;>first | (exfalso;revert bd cz hy;simp[EC,dm,iz,eW,ql];done) | skip
    case callD f args =>
     have e1:=dI (xs:=args) hv;simp only[evalOp,e1] at r ⊢;exact r.imp fun F' L' u bc hl _ h=>ao bc hl.keeps h (.inl bu)
    case callVD f args =>
     have e0:=gI (v:=v) (ρ:=ρ) ac f (by simp[bI]);have e1:=dI (xs:=args) (L:=L) (L':=L) (ρ:=ρ) (ρ':=put dx v ρ) (fun z q=>hv z (by simp[bI,q]));simp only[evalOp,e0,e1] at r ⊢;split at r
     ·exact r.imp fun F' L' u bc hl _ h=>ao bc hl.keeps h (.inl bu)
     ·exact r.elim
    case appD e sz b zs s z =>
     have e0:=gI (v:=v) (ρ:=ρ) ac s (by simp[bI]);have e1:=gI (v:=v) (ρ:=ρ) ac z (by simp[bI]);simp only[evalOp,e0,e1] at r ⊢;split at r
     ·refine r.imp (aD.le_refl F) fun kd n xs n' bv u dg bk h=>ao (aD.le_refl F) ?_ (h bk) (.inl bu);rcases dg with h | ⟨_,h⟩
      ·exact Keeps.row h
      ·exact Keeps.new h
     ·exact r.elim
 ·have al:∀{f:Nat}{args:List Value},eB P f args F L dx (fun F' L' v=>evalOp P y dy F' L' (put dx (.v v) ρ) K) ->
    bP y dy L ρ=true/\∀F' L' u,Made y dy F L ρ F' L' u->eB P f args F' L' dx (fun F2 L2 v=>K F2 L2 (put dx (.v v) (put dy u ρ))):=by
   intro f args hC;have up:∀{L1:Loc},Left dx L L1->∀{u:SV},∀z∈bI y,val L1 (put dx u ρ) z=val L ρ z:=by
    intro L1 hl u z q;rw[cT ac z q,gJ ar hl.keeps]
   have p:bP y dy L ρ=true:=by
    obtain⟨F',L',v,bc,hl,_,h⟩:=hC.some hr;rw[bX hy] at h;refine iV (L':=L') (ρ':=put dx (.v v) ρ) (up hl) (fun k hk e=>?_) h.1;rcases hl with rfl | ⟨j,o,hj,hn,rfl⟩ | ⟨j,rv,t,sz,n,xs,hj,rfl⟩
    ·exact e
    ·rw[cC (fun ej=>d j hj (by rw[<-ej];exact hk))] at e;exact e
    ·rw[Loc.aac] at e;split at e
     ·cases e
     ·exact e
   refine⟨p,fun F' L' u hm=>(hC.up hm.le hr.glob (hm.part p) (fun k hk hn=>by rw[hm.frame k (d k hk)];exact hn)).imp fun F2 L2 v bc dd aw h=>?_⟩
   clear dd
   obtain⟨l,dp,h2⟩:=h
   clear dp
   rw[put_comm d];rcases h2 with⟨rfl,h2⟩ | ⟨k,o,hk,hn,rfl,h2⟩ | ⟨kr,rv,t,sz,n,xs,cp,rfl,h2⟩
   ·rw[bX hy] at h2;refine h2.2 F2 L2 u ?_ aw;have w:=up (L1:=L) (.inl rfl) (u:=.v v)
    clear up h2
    cases hm with
    | box g=>rw[<-w _ (by simp[bI])];exact .box g
    | alloc g=>exact .alloc g
    | mkS g=>exact .mkS g
    | mkV g n hn=>exact .mkV g n (by rw[hn,w _ (by simp[bI])])
    | mkF g F' ba hg =>
     rename_i xs;refine .mkF g _ (aD.le_refl _) ?_;rw[cG (L:=L) (ρ:=ρ) (xs:=xs) (fun z q=>w z (by simpa[bI] using q))];exact l _ _ hg
   ·rw[bX hy] at h2;refine h2.2 F2 _ u ?_ aw;have w:=up (L1:=L.set k o) (.inr (.inl ⟨k,o,hk,hn,rfl⟩)) (u:=.v v)
    clear up h2
    cases hm with
    | box g =>
     rw[set_comm L _ _ (fun e=>d k hk (by rw[e])),<-w _ (by simp[bI])];exact .box g
    | alloc g =>
     rw[set_comm L _ _ (fun e=>d k hk (by rw[e]))];exact .alloc g
    | mkS g =>
     rw[set_comm L _ _ (fun e=>d k hk (by rw[e]))];exact .mkS g
    | mkV g n hn =>
     rw[set_comm L _ _ (fun e=>d k hk (by rw[e]))];exact .mkV g n (by rw[hn,w _ (by simp[bI])])
    | mkF g F' ba hg =>
     rename_i xs;refine .mkF g _ (aD.le_refl _) ?_;rw[cG (L:=L) (ρ:=ρ) (xs:=xs) (fun z q=>w z (by simpa[bI] using q))];exact l _ _ hg
   ·rw[bX hy] at h2;refine h2.2 F2 _ u ?_ aw;have w:=up (L1:=L.set kr (.row (.slice none 0 0) t sz 0 [])) (.inr (.inr ⟨kr,rv,t,sz,n,xs,cp,rfl⟩)) (u:=.v v);have ax:∀k,dy=some k->eW y=true->bP y dy L ρ=true->(∀e n' dC bv,y≠.mkFD e n' dC bv)->kr≠k:=by
     intro k hk _ hc dk e;subst hk e;cases y<;>simp only[bP,cp,Option.isNone_some,aaX] at hc;exact dk _ _ _ _ rfl
    clear up h2
    cases hm with
    | box g =>
     rw[set_comm L _ _ (ax _ rfl hy p (fun _ _ _ _=>by simp)).symm,<-w _ (by simp[bI])];exact .box g
    | alloc g =>
     rw[set_comm L _ _ (ax _ rfl hy p (fun _ _ _ _=>by simp)).symm];exact .alloc g
    | mkS g =>
     rw[set_comm L _ _ (ax _ rfl hy p (fun _ _ _ _=>by simp)).symm];exact .mkS g
    | mkV g n hn =>
     rw[set_comm L _ _ (ax _ rfl hy p (fun _ _ _ _=>by simp)).symm];exact .mkV g n (by rw[hn,w _ (by simp[bI])])
    | mkF g F' ba hg =>
     rename_i xs;refine .mkF g _ (aD.le_refl _) ?_;rw[cG (L:=L) (ρ:=ρ) (xs:=xs) (fun z q=>w z (by simpa[bI] using q))];exact l _ _ hg
  cases x<;>first | (exfalso;revert hx;simp[iz];done) | skip
  case callD f args =>
   simp only[evalOp] at hK;obtain⟨l,h2⟩:=al hK;rw[bX hy];refine⟨l,fun F' L' u hm _=>?_⟩;have e1:bn L' (put dy u ρ) args=bn L ρ args:=dI fun z q=>by rw[cT am z (by simpa[bI] using q),gJ ar (hm.get l)]
   simp only[evalOp,e1];exact h2 F' L' u hm
  case callVD f args =>
   simp only[evalOp] at hK;split at hK
   case h_2=>exact hK.elim
   rename_i ek fi ca hf;obtain⟨l,h2⟩:=al hK;rw[bX hy];refine⟨l,fun F' L' u hm _=>?_⟩;have e0:=gI (v:=u) (ρ:=ρ) am f (by simp[bI]);have e1:bn L' (put dy u ρ) args=bn L ρ args:=dI fun z q=>by rw[cT am z (by simp[bI,q]),gJ ar (hm.get l)]
   simp only[evalOp,e0,e1,hf];exact h2 F' L' u hm
 ·cases x<;>first | (exfalso;revert hx;simp[ql];done) | skip
  case appD e sz b zs s z =>
   rw[CT] at hK;split at hK
   case h_2=>exact hK.elim
   rename_i sv xv cr cw;have p:bP y dy L ρ=true:=by
    obtain⟨kd,v,n',bv,l,_,h⟩:=hK.some hr;rw[bX hy] at h;have cc:Keeps L (L.set kd (.row v e sz n' bv)):=by
     rcases l with⟨n,xs,l⟩ | ⟨_,l⟩
     ·exact Keeps.row l
     ·exact Keeps.new l
    refine iV (L':=_) (ρ':=put dx (.v v) ρ) (fun u hu=>by rw[cT ac u hu,gJ ar cc]) (fun k hk e=>?_) h.1;rw[Loc.aac] at e;split at e
    ·cases e
    ·exact e
   rw[bX hy];refine⟨p,fun F' L' u hm dq=>?_⟩
   clear dq
   have e0:=gI (v:=u) (ρ:=ρ) am s (by simp[bI]);have e1:=gI (v:=u) (ρ:=ρ) am z (by simp[bI]);simp only[evalOp,e0,e1,cr,cw];obtain⟨kd,n,xs,m,news,l,⟨ad,c,h2,h3,h4⟩,h5,h6,h7,h8⟩:=hK;have cc:∀{o:Own},Keeps L (L.set kd o):=by
    rcases l with l | ⟨_,l,_⟩ | ⟨_,l,_⟩
    ·exact Keeps.row l
    ·exact Keeps.new l
    ·exact Keeps.new l
   have ax:∀k,dy=some k->L.get k=none->kd≠k:=by
    rintro k hk hn rfl;rcases l with l | ⟨l,_⟩ | ⟨l,_⟩
    ·rw[hn] at l;cases l
    ·exact d kd l hk
    ·exact d kd l hk
   refine⟨kd,n,xs,m,news,?_,⟨ad,c,h2,h3,?_⟩,h5,h6,h7,fun v hv aw=>?_⟩
   ·rcases l with l | ⟨h0,l,dl⟩ | ⟨h0,l,ad,q1,q2,q3,q4⟩
    ·exact .inl (hm.part p kd _ l)
    ·exact .inr (.inl ⟨h0,by rw[hm.frame kd (d kd h0)];exact l,dl⟩)
    ·exact .inr (.inr ⟨h0,by rw[hm.frame kd (d kd h0)];exact l,ad,q1,q2,q3,q4.imp (·.mono hm.le) id⟩)
   ·rcases h4 with h4 | h4
    ·exact .inl (h4.mono hm.le)
    ·exact .inr h4
   ·have h9:=h8 v hv (aw.down hm.le hr.glob (Hv (hm.part p)));rw[bX hy] at h9;rw[put_comm d];refine h9.2 F' _ u ?_ aw;have w:∀z∈bI y,val (L.set kd (.row v e sz (n+m) (xs++news))) (put dx (.v v) ρ) z=val L ρ z:=fun z q=>by
     rw[cT ac z q,gJ ar cc]
    clear h8 h9 cr cw e0 e1
    cases hm with
    | box g =>
     rename_i t x k;simp only[bP,Option.isNone_iff_eq_none] at p;rw[set_comm L _ _ (fun e=>ax k rfl p e.symm),<-w _ (by simp[bI])];exact .box g
    | alloc g =>
     rename_i t zs k;simp only[bP,Option.isNone_iff_eq_none] at p;rw[set_comm L _ _ (fun e=>ax k rfl p e.symm)];exact .alloc g
    | mkS g =>
     rename_i e0 dE n0 zs k;rw[set_comm L _ _ (fun e=>ax k rfl (oQ p).1 e.symm)];exact .mkS g
    | mkV g n hn =>
     rename_i e0 dE b0 zs x0 k;rw[set_comm L _ _ (fun e=>ax k rfl (oS p).1 e.symm)];exact .mkV g n (by rw[hn,w _ (by simp[bI])])
    | mkF g F' ba hg =>
     rename_i dr;refine .mkF g _ ba ?_;rw[cG (L:=L) (ρ:=ρ) (xs:=dr) (fun z q=>w z (by simpa[bI] using q))];exact hg
 ·rw[bX hx] at hK;obtain⟨bj,hK⟩:=hK;have bp:bP y dy L ρ=true:=by
   obtain⟨F',L',v,hm,bc,bk⟩:=Ag hr bj;have h:=hK F' L' v hm bk;rw[bX hy] at h;refine iV (L':=L') (ρ':=put dx v ρ) (fun z q=>by rw[cT ac z q,gJ ar (hm.get bj)]) (fun k hk e=>?_) h.1;rw[hm.frame k (fun e'=>d k e' hk)] at e;exact e
  rw[bX hy];refine⟨bp,fun F1 L1 v1 cb eg=>?_⟩;rw[bX hx];refine⟨iV (L':=L) (ρ':=ρ) (fun z q=>by rw[cT am z q,gJ ar (cb.get bp)]) (fun k hk e=>by rw[cb.frame k (d k hk)];exact e) bj,fun F2 L2 v2 de aw=>?_⟩;obtain⟨Fa,La,ha,hb⟩:=Hw bj bp ac am d ar cb de;have cy:bP y dy La (put dx v2 ρ)=true :=
   iV (L':=L) (ρ':=ρ) (fun z q=>by rw[cT ac z q,gJ ar (ha.get bj)]) (fun k hk e=>by rw[ha.frame k (fun e'=>d k e' hk)];exact e) bp
  have dj:Real Fa La:=aw.down hb.le (hr.glob.mono ha.le) (hb.part cy);have h:=hK Fa La v2 ha dj;rw[bX hy] at h;rw[put_comm d];exact h.2 F2 L2 v1 hb aw
 ·have bl:=sB hx;rw[cF bl] at hK;obtain⟨v,hT,r⟩:=(fM bl).ex _ hK
  clear hK
  obtain⟨n,a,z,k,off,g,t,cs,ho,e1,e2,e3,e4,e5,hK⟩:=iU hy r;have ha:a∈bI y:=by rcases ho with rfl | rfl<;>simp[bI]
  have q:z∈bI y:=by rcases ho with rfl | rfl<;>simp[bI]
  have q0:=gI (v:=v) (ρ:=ρ) ac a ha;have q1:=cT (L:=L) (v:=v) (ρ:=ρ) ac z q;rw[q0] at e3;rw[q1] at e1 e2 hK;refine iG ho e1 e2 e3 e4 e5 ?_;have h3:=(fM bl).mono _ (fun u=>K F _ (put dx u (put dy (.v undef) ρ))) (fun u hu=>by subst hu;rw[put_comm d];exact hK)
   (rL bl (aD.le_refl F) (ve (L:=L) (ρ:=ρ) (v:=.v undef) am) hT)
  rw[cF bl];exact Af hx ho (CU e4) (fun j hj=>cC hj) h3
 ·have bi:=sB hy;obtain⟨n,a,z,k,off,g,t,cs,ho,e1,e2,e3,e4,e5,hK⟩:=iU hx hK;have ha:a∈bI x:=by rcases ho with rfl | rfl<;>simp[bI]
  have q:z∈bI x:=by rcases ho with rfl | rfl<;>simp[bI]
  rw[cF bi] at hK;obtain⟨v,hT,hK⟩:=(fM bi).ex _ hK;have hT:=Af (L':=L) hy ho (fun sv=>(CU e4 sv).symm) (fun j hj=>(cC hj).symm) hT;have be:Alike y L L (put dx (.v undef) ρ) ρ:=fun u hu=>⟨(gI ac u hu).symm,fun _ _ _=>rfl⟩;have hT:=rL bi (aD.le_refl F) be hT;rw[cF bi];refine(fM bi).mono _ _ (fun u hu=>?_) hT;subst hu;have q0:=gI (v:=u) (ρ:=ρ) am a ha;have q1:=cT (L:=L) (v:=u) (ρ:=ρ) am z q;refine iG ho (by rw[q1];exact e1) (by rw[q1];exact e2) (by rw[q0];exact e3) e4 e5 ?_;rw[q1,put_comm d];exact hK
end
section
variable {P:Program}{F:aD}{L:Loc}{ρ:Env}{K K':cQ}
theorem Left.none {d:Option Nat}{L L':Loc}(h:Left d L L') {j:Nat}(f:d≠some j) (e:L.get j=none):L'.get j=none:=by
 rcases h with rfl | ⟨k,o,c,b,rfl⟩ | ⟨k,l,t,sz,n,xs,b,rfl⟩
 ·exact e
 ·rw[cC (fun a=>f (by rw[a];exact c))];exact e
 ·rw[cC (fun a=>by rw[a,b] at e;cases e)];exact e
theorem kX {o:eH}(ho:okD o=true) {d:Option Nat}(hr:Real F L) (w:Vd L ρ) (l:evalOp P o d F L ρ K)
  (hk:∀F1 L1 q,(∃v,q=put d v ρ)->F.le F1->Real F1 L1->Vd L1 q->(∀j,d≠some j->L.get j=none->L1.get j=none)->K F1 L1 q->K' F1 L1 q):evalOp P o d F L ρ K':=by
 have a:∀{L1:Loc}{v:SV},Keeps L L1->(∀k off,v=.own k off->∃g ty cs,L1.get k=some (.box g ty cs))->Vd L1 (put d v ρ):=by
  intro L1 v hL hv t k off e;have p:ρ t=.own k off->∃g ty cs,L1.get k=some (.box g ty cs):=fun e=>by
   obtain⟨g,ty,cs,h⟩:=w t k off e;exact⟨g,ty,cs,hL k g ty cs h⟩
  rw[put_eq] at e;cases d with
  | none=>exact p e
  | some k' =>
   simp only[] at e;split at e
   ·exact hv k off e
   ·exact p e
 by_cases hs:dm o=true
 ·rw[cF hs] at l ⊢;obtain⟨v,hT,hv⟩:=(fM hs).ex _ l;refine(fM hs).mono _ _ (fun u hu=>?_) hT;subst hu;refine hk _ _ _ ⟨_,rfl⟩ (aD.le_refl F) hr (a (Keeps.refl L) fun k off e=>?_) (fun _ _ h=>h) hv;subst e;obtain⟨x,_,m,hx⟩:=Js hs hT;exact w.ev hx
 ·by_cases ha:eW o=true
  ·rw[bX ha] at l ⊢;refine⟨l.1,fun F' L' v hm c=>hk _ _ _ ⟨v,rfl⟩ hm.le c (a (hm.get l.1) fun k off e=>?_) (fun j y e=>by rw[hm.frame j y];exact e) (l.2 F' L' v hm c)⟩;cases hm with
   | box g=>injection e with e1 e2;subst e1;exact⟨_,_,_,by rw[Loc.aac,eu rfl]⟩
   | alloc g=>injection e with e1 e2;subst e1;exact⟨_,_,_,by rw[Loc.aac,eu rfl]⟩
   | mkS g=>cases e
   | mkV g n hn=>cases e
   | mkF g F' r hg=>cases e
  ·cases o<;>first | (exfalso;revert hs ha ho;simp[okD,EC,dm,iz,eW,ql,iT];done) | skip
   case callD f args =>
    simp only[evalOp] at l ⊢;exact l.imp fun F' L' v r hl c h=>hk _ _ _ ⟨_,rfl⟩ r c (a hl.keeps fun k off e=>by cases e) (fun j y e=>hl.none y e) h
   case callVD f args =>
    simp only[evalOp] at l ⊢;split at l
    ·exact l.imp fun F' L' v r hl c h=>hk _ _ _ ⟨_,rfl⟩ r c (a hl.keeps fun k off e=>by cases e) (fun j y e=>hl.none y e) h
    ·exact l.elim
   case appD e sz b zs s z =>
    simp only[evalOp] at l ⊢;split at l
    ·refine l.imp (aD.le_refl F) fun kd n xs n' ba u ad c h=>hk _ _ _ ⟨_,rfl⟩ (aD.le_refl F) c (a ?_ fun k off e=>by cases e) ?_ (h c)
     ·rcases ad with h | ⟨_,h⟩
      ·exact Keeps.row h
      ·exact Keeps.new h
     ·intro j y e;have an:j≠kd:=by
       rintro rfl;rcases ad with h | ⟨h,_⟩
       ·rw[e] at h;cases h
       ·exact y h
      rw[cC an];exact e
    ·exact l.elim
   all_goals
    obtain⟨n',a',x',k,off,g,ty,cs,ao,e1,e2,e3,e4,e5,l⟩:=iU rfl l;refine iG ao e1 e2 e3 e4 e5 (hk _ _ _ ⟨_,rfl⟩ (aD.le_refl F) (Real.store (wG e5) hr e4) ?_ (fun j _ e=>by rw[cC (fun ej=>by rw[ej,e4] at e;cases e)];exact e) l);intro t k' m e;have p:ρ t=.own k' m->∃g' ty' cs',Loc.get (L.set k (.box g ty (aP cs off (aK (val L ρ x'))))) k'=some (.box g' ty' cs'):=fun e=>by
     obtain⟨g',ty',cs',h⟩:=w t k' m e;rw[Loc.aac];split
     ·exact⟨_,_,_,rfl⟩
     ·exact⟨_,_,_,h⟩
    rw[put_eq] at e;cases d with
    | none=>exact p e
    | some k' =>
     simp only[] at e;split at e
     ·cases e
     ·exact p e
theorem jT {o:eH}(f:okD o=true) {d:Option Nat}(j:Real F L) (b:Vd L ρ) (l:evalOp P o d F L ρ K)
  (c:∀F1 L1 a,(∃v,a=put d v ρ)->F.le F1->Real F1 L1->Vd L1 a->K F1 L1 a->K' F1 L1 a):evalOp P o d F L ρ K' :=
 kX f j b l fun F1 L1 a e k m h _ n=>c F1 L1 a e k m h n
theorem vS {o:eH}(t:okD o=true) {d:Option Nat}(c:Real F L) (a:evalOp P o d F L ρ K):∃v F1 L1,K F1 L1 (put d v ρ):=by
 by_cases j:dm o=true
 ·rw[cF j] at a;obtain⟨v,_,r⟩:=(fM j).ex _ a;exact⟨v,F,L,r⟩
 ·by_cases m:eW o=true
  ·rw[bX m] at a;obtain⟨F',L',v,n,_,l⟩:=Ag c a.1;exact⟨v,F',L',a.2 F' L' v n l⟩
  ·cases o<;>first | (exfalso;revert j m t;simp[okD,EC,dm,iz,eW,ql,iT];done) | skip
   case callD f args =>
    simp only[evalOp] at a;obtain⟨F',L',v,_,_,_,h⟩:=a.some c;exact⟨_,F',L',h⟩
   case callVD f args =>
    simp only[evalOp] at a;split at a
    ·obtain⟨F',L',v,_,_,_,h⟩:=a.some c;exact⟨_,F',L',h⟩
    ·exact a.elim
   case appD e sz b zs s z =>
    simp only[evalOp] at a;split at a
    ·obtain⟨kd,v,n',q,_,_,h⟩:=a.some c;exact⟨_,F,_,h⟩
    ·exact a.elim
   all_goals
    obtain⟨n',a',y,k,off,g,ty,cs,p,e1,u,e3,x,w,a⟩:=iU rfl a;exact⟨_,F,_,a⟩
def iH:eH:=.mov (.c undef)
def res (g:Option (Nat×Bool)) (ρ:Env) (o:eH):Option eH :=
 match g with
 | none=>some o
 | some (s,a)=>match ρ s with
  | .v (.bool b)=>some (if b=a then o else iH)
  | .v (.tuple _)=>some iH
  | _=>none
theorem gA {d:Option Nat}{o:eH}{g:Option (Nat×Bool)}{c:List aA} :
  aY P (.op d o g::c) F L ρ K↔∃o',res g ρ o=some o'/\evalOp P o' d F L ρ (fun F1 L1 h=>aY P c F1 L1 h K):=by
 cases g with
 | none=>simp only[aY,res,vz,exists_eq_left']
 | some p =>
  obtain⟨s,f⟩:=p;simp only[aY,res];cases e:ρ s with
  | own k off=>simp
  | el a j=>simp
  | v u =>
   cases u<;>simp only[vz,exists_eq_left',reduceCtorEq,false_and,exists_false]
   case bool b =>
    cases b<;>cases f<;>simp[xk,lm e,iH,evalOp,aL,ev]
   case tuple vs=>rfl
def looks (o:eH) (g:Option (Nat×Bool)):List Nat :=
 match g with
 | none=>cI (bI o)
 | some (s,_)=>s::cI (bI o)
def sZ (d:Option Nat) (l:List Nat):Bool :=
 match d with
 | none=>true
 | some k=>match fW l k with | true=>false | false=>true
def CV:Option Nat->Option Nat->Bool
 | some a,some b=>match Nat.beq a b with | true=>false | false=>true
 | _,_=>true
def lV:aA->aA->Bool
 | .op a x d,.op b y c=>okD x&&okD y&&xR x y&&sZ a (looks y c)&&sZ b (looks x d)&&CV a b
 | _,_=>false
theorem kN {d:Option Nat}{l:List Nat}(h:sZ d l=true):∀k,d=some k->k∉l:=by
 rintro k rfl a;simp only[sZ,cS.2 a] at h;cases h
theorem oU {d a:Option Nat}(h:CV d a=true):∀k,d=some k->a≠some k:=by
 rintro k rfl e;subst e;simp[CV] at h
theorem pK {g:Option (Nat×Bool)}{o:eH}{d:Option Nat}{v:SV}(h:∀k,d=some k->k∉looks o g):res g (put d v ρ) o=res g ρ o:=by
 cases g with
 | none=>rfl
 | some p =>
  obtain⟨s,a⟩:=p;have:put d v ρ s=ρ s:=by
   rw[put_eq];cases d with
   | none=>rfl
   | some k =>
    simp only[];rw[o6];intro e;exact h k rfl (by simp[looks,e])
  simp only[res,this]
theorem dw {g:Option (Nat×Bool)}{o o':eH}(h:res g ρ o=some o'):o'=o\/o'=iH:=by
 cases g with
 | none=>simp only[res,vz] at h;exact .inl h.symm
 | some p =>
  obtain⟨s,a⟩:=p;simp only[res] at h;split at h
  ·injection h with h
   split at h
   ·exact .inl h.symm
   ·exact .inr h.symm
  ·injection h with h;exact .inr h.symm
  ·cases h
theorem oV {o:eH}{g:Option (Nat×Bool)}{k:Nat}(h:k∈cI (bI o)):k∈looks o g:=by
 cases g with
 | none=>exact h
 | some p=>exact aa8 _ h
theorem Jw {x y:aA}{b:List aA}(w:lV x y=true) (hr:Real F L) (t:Vd L ρ) (h:aY P (x::y::b) F L ρ K):aY P (y::x::b) F L ρ K:=by
 cases x with
 | frz k=>exact o4 w (by cases y<;>exact aby)
 | pc d o g=>exact o4 w (by cases y<;>exact aby)
 | op dx x gx =>
  cases y with
  | frz k=>exact o4 w aby
  | pc d o g=>exact o4 w aby
  | op dy y gy =>
   simp only[lV,xo] at w;obtain⟨⟨⟨⟨⟨am,f⟩,hc⟩,h1⟩,h2⟩,h3⟩:=w;have h1:=kN h1;have h2:=kN h2;have h3:=oU h3;have av:∀k,dy=some k->dx≠some k:=fun k e e'=>h3 k e' e;rw[gA] at h;obtain⟨z,s,h⟩:=h;have j:okD iH=true:=rfl;have n:okD z=true:=by rcases dw s with rfl | rfl;exact am;exact j
   -- y's guard
   have hy:∃q,res gy ρ y=some q:=by
    obtain⟨v,F1,L1,c⟩:=vS n hr h;rw[gA] at c;obtain⟨q,a,_⟩:=c;rw[pK h1] at a;exact⟨q,a⟩
   obtain⟨q,a⟩:=hy;have ab:okD q=true:=by rcases dw a with rfl | rfl;exact f;exact j
   have hA:evalOp P z dx F L ρ (fun F1 L1 m=>evalOp P q dy F1 L1 m (fun F2 L2 p=>aY P b F2 L2 p K)):=by
    refine jT n hr t h ?_;rintro F1 L1 m ⟨v,rfl⟩ _ _ _ c;rw[gA] at c;obtain⟨ax,l,c⟩:=c;rw[pK h1,a] at l;injection l with l
    subst l;exact c
   have lx:∀k,dy=some k->k∉cI (bI z):=by
    intro k e c;rcases dw s with rfl | rfl
    ·exact h2 k e (oV c)
    ·simp[iH,bI,cI] at c
   have ly:∀k,dx=some k->k∉cI (bI q):=by
    intro k e c;rcases dw a with rfl | rfl
    ·exact h1 k e (oV c)
    ·simp[iH,bI,cI] at c
   have hB:evalOp P q dy F L ρ (fun F1 L1 m=>evalOp P z dx F1 L1 m (fun F2 L2 p=>aY P b F2 L2 p K)):=by
    by_cases r:q=iH
    ·subst r;simp only[iH,evalOp,aL,ev];exact xQ (K:=fun F2 L2 p=>aY P b F2 L2 p K) (u:=.v undef) n lx h3 hA
    ·have ey:q=y:=by rcases dw a with h | h;exact h;exact o4 h r
     subst ey;refine Jv hr ?_ ly lx h3 t hA;rcases dw s with rfl | rfl
     ·exact hc
     ·simp only[okD,abl] at f;rcases f with f | f
      ·simp only[xR,f,abM,abl];exact .inl (.inl (.inl (.inl (.inl (by rfl)))))
      ·simp only[xR,f,abM,abl];exact .inl (.inr rfl)
   rw[gA];refine⟨q,a,jT ab hr t hB ?_⟩;rintro F1 L1 m ⟨v,rfl⟩ _ _ _ c;rw[gA];exact⟨z,by rw[pK h2];exact s,c⟩
theorem Ah {y:aA}{s:List aA}:∀(p:List aA),(∀x∈p,lV x y=true)->∀{F:aD}{L:Loc}{ρ:Env},Real F L->Vd L ρ->aY P (p++y::s) F L ρ K->aY P (y::(p++s)) F L ρ K
 | [],_,F,L,ρ,_,_,h=>h
 | .frz k::p,b,F,L,ρ,_,_,h=>by
  have:=b (.frz k) (by simp);exact o4 this (by cases y<;>exact aby)
 | .pc d o g::p,b,F,L,ρ,_,_,h=>by
  have:=b (.pc d o g) (by simp);exact o4 this (by cases y<;>exact aby)
 | .op q x t::p,b,F,L,ρ,r,f,h=>by
  have a:=b (.op q x t) (by simp);have v:aY P (.op q x t::y::(p++s)) F L ρ K:=by
   rw[aaT,gA] at h;obtain⟨n,j,h⟩:=h;have m:okD x=true:=by
    cases y with
    | frz k=>exact o4 a aby
    | pc d o g=>exact o4 a aby
    | op dy y gy=>simp only[lV,xo] at a;exact a.1.1.1.1.1
   have c:okD n=true:=by rcases dw j with rfl | rfl;exact m;rfl
   rw[gA];refine⟨n,j,jT c r f h ?_⟩;intro F1 L1 u _ _ l e hk;exact Ah p (fun z w=>b z (by simp[w])) l e hk
  exact Jw a r f v
end
def Vr (A:cK):Op->Bool
 | .store _ (.tmp i) _=>fW A.co (1000000+i)
 | .mapUpdate _ (.tmp i) _ _=>fW A.co (1000000+i)
 | _=>false
def Bn (P:Program) (A:cK) (a:Array Oper) (i:Nat):Option aA :=
 match a[i]? with
 | none=>none
 | some o=>match iF a o.guard,iD P (A.owned o.dst) o.op,PL A.n o.dst with
  | some g,some s,true=>match A.isX o.dst with
   | true=>match g,s with
    | none,.call f l=>some (.pc o.dst (.call f l) none)
    | none,.callV f l=>some (.pc o.dst (.callV f l) none)
    | _,_=>none
   | false=>match A.isO o.dst||Vr A o.op with
    | true=>match xN s with
     | some s'=>some (.op o.dst s' g)
     | none=>none
    | false=>match u9 A.fl A.bk A.bx s with
     | some s'=>match dm s'||iz s'||eW s'||ql s'||iT s' with
      | true=>some (.op o.dst s' g)
      | false=>none
     | none=>none
  | _,_,_=>none
def fp (P:Program) (A:cK) (ops:Array Oper):List Nat->Option (List aA)
 | []=>some []
 | i::is=>match Bn P A ops i,fp P A ops is with
  | some s,some ss=>some (s::ss)
  | _,_=>none
def binding (e:Edge):Bool:=Region.binds .any e
def direct (ops:Array Oper) (i:Nat):List Nat :=
 match ops[i]? with
 | some o=>(o.after.toList.filter binding).map (·.on)
 | none=>[]
def Bo:List (List Nat)->Nat->List Nat
 | [],_=>[]
 | l::_,0=>l
 | _::a,n+1=>Bo a n
def Bp (a:List (List Nat)) (x:Nat):List Nat->Bool
 | []=>false
 | z::zs=>match fW (Bo a z) x with | true=>true | false=>Bp a x zs
def Bq (ops:Array Oper) (a:List (List Nat)) (y:Nat):Bool :=
 (direct ops y).all (fun z=>Nat.blt z y)&&(Bo a y).all (fun x=>fW (direct ops y) x||Bp a x (direct ops y))
def Jy (ops:Array Oper) (a:List (List Nat)):Bool:=(List.range ops.size).all (Bq ops a)
def pL (a:List (List Nat)):List (Nat×aA)->Bool
 | []=>true
 | (x,b)::l=>l.all (fun p=>lV b p.2||fW (Bo a p.1) x)&&pL a l
def bJ:List Nat->Bool
 | []=>true
 | x::l=>!fW l x&&bJ l
def ED (P:Program) (ops:Array Oper) (is:List Nat) (a:List (List Nat)) (ss:List aA):Bool :=
 P.follows .mixedOrders&&Jy ops a&&bJ is&&Nat.beq is.length ops.size&&is.all (fun i=>Nat.blt i ops.size)&&(List.range ops.size).all (fW is)&&pL a (is.zip ss)
theorem cU:∀{l:List Nat},bJ l=true->l.Nodup
 | [],_=>List.nodup_nil
 | x::l,h=>by
  simp only[bJ,xo,Bool.not_eq_true'] at h;refine List.nodup_cons.2 ⟨fun a=>?_,cU h.2⟩;rw[cS.2 a] at h;cases h.1
theorem Ai {a:List (List Nat)}{x:Nat}:∀{l:List Nat},Bp a x l=true->∃z,z∈l/\x∈Bo a z
 | [],h=>by cases h
 | z::zs,h=>by
  simp only[Bp] at h;split at h
  ·rename_i e;exact⟨z,by simp,cS.1 e⟩
  ·obtain⟨c,b,d⟩:=Ai h;exact⟨c,by simp[b],d⟩
section
variable {P:Program}{K:cQ}{Q:Exit->Act->World->Prop}{ops:Array Oper}
theorem vT {j:List (List Nat)}(c:Jy ops j=true) {done:Nat->Prop}(a:∀i,i<ops.size->done i->∀z∈direct ops i,done z):∀y,y<ops.size->(∀z∈direct ops y,done z)->∀x∈Bo j y,done x:=by
 intro y
 induction y using Nat.strongRecOn with
 | _ y l =>
  intro n k x o;have h:=aaZ.1 c y (List.mem_range.2 n);simp only[Bq,xo] at h;have b:=aaZ.1 h.2 x o;simp only[abl] at b;rcases b with b | b
  ·exact k x (cS.1 b)
  ·obtain⟨z,f,e⟩:=Ai b;have d:z<y:=by
    have m:Nat.blt z y=true:=aaZ.1 h.1 z f;simpa using m
   exact l z d (by omega) (a z (by omega) (k z f)) x e
theorem qI {A:cK}:∀{is:List Nat}{ss:List aA},fp P A ops is=some ss->ss.length=is.length/\∀p q y,is=p++y::q->∃a c b,ss=a++c::b/\a.length=p.length/\Bn P A ops y=some c/\fp P A ops (p++q)=some (a++b)
 | [],ss,h=>by
  simp only[fp,vz] at h;subst h;refine⟨rfl,fun p q y e=>?_⟩;cases p<;>cases e
 | i::is,ss,h=>by
  simp only[fp] at h;split at h
  case h_2=>cases h
  rename_i s d j f;injection h with h
  subst h;obtain⟨n,k⟩:=qI f;refine⟨by simp[n],fun p q y e=>?_⟩;cases p with
  | nil =>
   simp only[aa5,List.cons.injEq] at e;obtain⟨rfl,rfl⟩:=e;exact⟨[],s,d,rfl,rfl,j,by simpa using f⟩
  | cons x p =>
   simp only[aaT,List.cons.injEq] at e;obtain⟨rfl,rfl⟩:=e;obtain⟨a,c,b,r,m,l,o⟩:=k p q y rfl;refine⟨s::a,c,b,by simp[r],by simp[m],l,?_⟩;simp only[aaT,fp,j,o]
theorem vU {d:List (List Nat)}:∀{p q:List (Nat×aA)}{y:Nat×aA},pL d (p++y::q)=true->pL d (p++q)=true/\∀x∈p,lV x.2 y.2=true\/x.1∈Bo d y.1
 | [],q,y,h=>by
  obtain⟨n,o⟩:=y;simp only[aa5,pL,xo] at h ⊢;exact⟨h.2,fun x c=>by cases c⟩
 | (l,m)::p,q,y,h=>by
  simp only[aaT,pL,xo] at h ⊢;obtain⟨k,f⟩:=h;obtain⟨j,e⟩:=vU f;have b:=aaZ.1 k;refine⟨⟨aaZ.2 fun z a=>b z ?_,j⟩,fun x c=>?_⟩
  ·rcases w8.1 a with a | a
   ·exact w8.2 (.inl a)
   ·exact w8.2 (.inr (aa8 _ a))
  ·rcases xC.1 c with rfl | c
   ·have:=b y (w8.2 (.inr (by simp)));simp only[abl] at this;rcases this with h | h
    ·exact .inl h
    ·exact .inr (cS.1 h)
   ·exact e x c
theorem aH.same {L L2:Loc}{ρ:Env}{a:Act}(h:aH L ρ a) (b:L.sameAs L2):aH L2 ρ a:=by
 have c:∀sv,conc L2 sv=conc L sv:=by
  intro sv;cases sv with
  | v x=>rfl
  | el a j=>rfl
  | own k off=>simp only[conc,b k]
 exact⟨fun j=>by rw[c];exact h.eq j,fun j k off e=>by rw[b k];exact h.own j k off e,h.el⟩
theorem Step.aaH {F F':aD}{L L' L2:Loc}{w w':World}(h:Step F L w F' L' w') (a:L'.sameAs L2):Step F L w F' L2 w' :=
 ⟨h.le,h.os,h.tape,h.output,h.size,h.same,h.frz,fun b ⟨k,o,e,hb⟩=>h.own b ⟨k,o,by rw[<-a k];exact e,hb⟩⟩
theorem CW {A:cK}{i:Nat}{s:aA}{q:List aA}{F:aD}{L:Loc}{ρ:Env}{a:Act}{w:World}{KK:Act->World->Prop}(hi:i<ops.size) (c:Bn P A ops i=some s) (hs:St F L w) (he:aH L ρ a) (hn:a.tmps.size=A.n)
  (l:aY P (s::q) F L ρ K)
  (hQ:∀z w' F' L' ρ',St F' L' w'->aH L' ρ' z->z.tmps.size=A.n->z.defers=a.defers->Step F L w F' L' w'->(∀j,((ops[i]?).bind (·.dst))≠some j->z.tmps.getD j undef=a.tmps.getD j undef)->aY P q F' L' ρ' K->KK z w') :
  wpOp P ops Q i KK a w:=by
 unfold Bn at c;split at c
 case h_1=>cases c
 rename_i o al;split at c
 case h_2=>cases c
 rename_i g s0 y an ab;split at c
 ·split at c
  ·injection c with c
   subst c;simp only[aY] at l
  ·injection c with c
   subst c;simp only[aY] at l
  ·cases c
 have az:∃s',s=.op o.dst s' g/\((∀{F:aD}{L:Loc}{ρ:Env}{K:cQ},evalOp P s' o.dst F L ρ K->evalOp P s0 o.dst F L ρ (fun F' L' ρ'=>Real F' L'->K F' L' ρ')) \/
   ∀{F:aD}{L:Loc}{ρ:Env}{K:cQ},evalOp P s' o.dst F L ρ K->evalOp P s0 o.dst F L ρ (fun F' L' ρ'=>∃L2,L'.sameAs L2/\(Real F' L2->K F' L2 ρ'))):=by
  split at c
  ·split at c
   case h_2=>cases c
   rename_i s' aa;injection c with c
   exact⟨s',c.symm,.inl fun h=>MW aa h⟩
  ·split at c
   case h_2=>cases c
   rename_i s' aa;split at c
   case h_2=>cases c
   rename_i ad;injection c with c
   cases ag:iz s' with
   | true=>exact⟨s',c.symm,.inr fun h=>Jt aa ag h⟩
   | false=>exact⟨s',c.symm,.inl fun h=>M5 aa ad ag h⟩
 obtain⟨s',ba,t⟩:=az;subst ba;have hd:∀k,o.dst=some k->k<a.tmps.size:=by
  intro k hk;rw[hk] at ab;rw[hn];have h2:Nat.blt k A.n=true:=ab;simpa using h2
 have aw:(ops[i]?).bind (·.dst)=o.dst:=by rw[al];rfl
 rw[aw] at hQ;simp only[wpOp,al];have u:evalOp P s' o.dst F L ρ (fun F' L' ρ'=>aY P q F' L' ρ' K)->o.wp P a w KK Q:=by
  intro l;rcases t with t | t
  ·have h1:=t l;have:=fo (Q:=Q) hs he hd an h1;refine Oper.wp_mono ?_ (qG (asg:=[]) this);rintro z w' ⟨⟨F',L',ρ',g1,g2,g3,g4,g5,g6⟩,ac⟩;exact hQ z w' F' L' ρ' g1 g2 (by rw[g3,hn]) g4 g5 ac (g6 ⟨w',g1⟩)
  ·have h1:=t l;have:=fo (Q:=Q) hs he hd an h1;refine Oper.wp_mono ?_ (qG (asg:=[]) this);rintro z w' ⟨⟨F',L',ρ',g1,g2,g3,g4,g5,L2,g6,g7⟩,ac⟩;have s1:St F' L2 w':=g1.part fun k o e=>by rw[<-g6 k];exact e
   exact hQ z w' F' L2 ρ' s1 (g2.same g6) (by rw[g3,hn]) g4 (g5.aaH g6) ac (g7 ⟨w',s1⟩)
 have skip:aY P q F L (put o.dst (.v undef) ρ) K->KK (a.put o.dst undef) w:=by
  intro l;exact hQ _ w F L _ hs (he.put hd (v:=undef) (x:=.v undef) rfl bS dG (rJ L)) (by rw[lg,hn]) (gY _ _ _) (Step.refl _ _ _) (fun j hj=>kM hj) l
 cases r:o.guard with
 | none =>
  rw[r] at y;simp only[iF,vz] at y;subst y;simp only[aY] at l;rw[eu (by simp[Region.wanted,r])];exact .inl (u l)
 | some p =>
  obtain⟨j,m⟩:=p;rw[r] at y;simp only[iF] at y;split at y
  case h_2=>cases y
  rename_i d ao;injection y with y
  subst y;simp only[aY] at l;split at l
  ·rename_i b hb;have f:=he.eq d;rw[hb] at f;have hy:yielded ops a.tmps j=some b:=by
    simp only[yielded,ao,Option.bind_some,rK f]
   have hw:Region.wanted o (yielded ops a.tmps)=(b == m):=by
    simp only[Region.wanted,r,hy];cases b<;>cases m<;>rfl
   rw[hw];cases b<;>simp only[xk] at l
   ·rw[lm hb] at l;cases m
    ·exact .inl (u l)
    ·exact skip l
   ·rw[lm hb] at l;cases m
    ·exact skip l
    ·exact .inl (u l)
  ·rename_i vs hb;have f:=he.eq d;rw[hb] at f;have hy:yielded ops a.tmps j=none:=by
    simp only[yielded,ao,Option.bind_some];rw[abf] at f;cases e:a.tmps[d]? with
    | none=>rfl
    | some v=>rw[e] at f;simp only[Option.getD_some,conc] at f;rw[f]
   have hw:Region.wanted o (yielded ops a.tmps)=false:=by
    simp only[Region.wanted,r,hy];rfl
   rw[hw];exact skip l
  ·exact l.elim
theorem aH.vd {L:Loc}{ρ:Env}{a:Act}(b:aH L ρ a):Vd L ρ:=by
 intro t k off e;exact b.own t k off e
theorem tZ {l:Array Bool}{z:Nat}(h:z<l.size) (b c:Bool):l.getD z b=l.getD z c:=by
 simp[abf,h]
theorem min_mem:∀{l:List Nat},l≠[]->∃y,y∈l/\∀z∈l,y<=z
 | [],h=>o4 rfl h
 | [x],_=>⟨x,by simp,fun z a=>by simp at a;omega⟩
 | x::d::l,_=>by
  obtain⟨y,c,b⟩:=min_mem (l:=d::l) (by simp)
  by_cases h:x<=y
  ·exact⟨x,by simp,fun z a=>by
    rcases xC.1 a with rfl | a
    ·exact aa7 _
    ·exact abz h (b z a)⟩
  ·exact⟨y,aa8 _ c,fun z a=>by
    rcases xC.1 a with rfl | a
    ·omega
    ·exact b z a⟩
theorem pM {i z:Nat}{o:Oper}(d:ops[i]?=some o):z∈direct ops i↔∃e∈o.after,Region.binds .any e=true/\e.on=z:=by
 simp only[direct,d,abh,List.mem_filter,Array.mem_toList_iff,binding];constructor
 ·rintro⟨e,⟨a,b⟩,c⟩;exact⟨e,a,b,c⟩
 ·rintro⟨e,a,b,c⟩;exact⟨e,⟨a,b⟩,c⟩
theorem Hy {A:cK}{cl:List (List Nat)}(aw:Jy ops cl=true):∀(fuel:Nat) (l:List Nat) (ss:List aA) (b:Array Bool) (F:aD) (L:Loc) (ρ:Env) (a:Act) (w:World),
  fp P A ops l=some ss->b.size=ops.size->l.Nodup->(∀i,i∈l↔i<ops.size/\b.getD i true=false)->l.length<=fuel->pL cl (l.zip ss)=true ->
  (∀i,i<ops.size->b.getD i true=true->∀z∈direct ops i,b.getD z true=true) ->
  St F L w->aH L ρ a->a.tmps.size=A.n->aY P ss F L ρ K ->
  (∀a' w',eS A.n F L w a (dstsOf ops (List.range ops.size)) K a' w'->Q .normal a' w')->wpAny P .any ops Q fuel b a w:=by
 have m:∀y z,y<ops.size->z∈direct ops y->z<y:=by
  intro y z hy s;have h:=aaZ.1 aw y (List.mem_range.2 hy);simp only[Bq,xo] at h;have h3:Nat.blt z y=true:=aaZ.1 h.1 z s;simpa using h3
 intro fuel
 induction fuel with
 | zero =>
  intro l ss b F L ρ a w hl ao ay c ae hp d hs he hn hK hQ;have:l=[]:=abg (by omega);subst this;simp only[fp,vz] at hl;subst hl;refine⟨?_,hQ a w ⟨F,L,ρ,hs,he,hn,rfl,Step.refl _ _ _,fun _ _=>rfl,hK⟩⟩;apply List.eq_nil_iff_forall_not_mem.2;intro i hi;rw[mem_ready] at hi;obtain⟨h1,o,h2,_⟩:=hi;have:=(c i).2 ⟨(Array.getElem?_eq_some_iff.1 h2).1,h1⟩;cases this
 | succ fuel ih =>
  intro l ss b F L ρ a w hl ao ay c ae hp d hs he hn hK hQ;refine⟨fun hr=>?_,fun y hy=>?_⟩
  ·have:l=[]:=by
    refine Classical.byContradiction fun r=>?_;obtain⟨y,h1,h2⟩:=min_mem r;obtain⟨h3,h4⟩:=(c y).1 h1;have u:y∈Region.ready .any ops b:=by
     rw[mem_ready];refine⟨h4,ops[y],Array.getElem?_eq_getElem h3,fun e an ap=>?_⟩;have s:e.on∈direct ops y:=(pM (Array.getElem?_eq_getElem h3)).2 ⟨e,an,ap,rfl⟩;have cb:=m y e.on h3 s;rw[tZ (by omega) false true];cases hd:b.getD e.on true with
     | true=>rfl
     | false =>
      have:=h2 e.on ((c e.on).2 ⟨by omega,hd⟩);omega
    rw[hr] at u;cases u
   subst this;simp only[fp,vz] at hl;subst hl;exact hQ a w ⟨F,L,ρ,hs,he,hn,rfl,Step.refl _ _ _,fun _ _=>rfl,hK⟩
  ·rw[mem_ready] at hy;obtain⟨h1,o,ho,ag⟩:=hy;have f:=(Array.getElem?_eq_some_iff.1 ho).1;have am:=(c y).2 ⟨f,h1⟩;obtain⟨p,q,rfl⟩:=List.append_of_mem am;obtain⟨dr,bd⟩:=qI hl;obtain⟨sp,sy,sq,rfl,ac,ch,bx⟩:=bd p q y rfl;have bb:(p++y::q).zip (sp++sy::sq)=p.zip sp++(y,sy)::q.zip sq:=by
    rw[List.zip_append ac.symm];rfl
   rw[bb] at hp;obtain⟨bt,bs⟩:=vU hp;have ab:∀z∈direct ops y,b.getD z true=true:=by
    intro z s;have cb:=m y z f s;obtain⟨e,an,ap,rfl⟩:=(pM ho).1 s;rw[tZ (by omega) true false];exact ag e an ap
   have t:∀sx∈sp,lV sx sy=true:=by
    intro sx bp;obtain⟨k,hk⟩:=List.getElem?_of_mem bp;have dq:=(w7.1 hk).1;have ax:p[k]?=some (p[k]'(by omega)):=v7 (by omega);have hm:(p[k]'(by omega),sx)∈p.zip sp:=aaQ (i:=k) (by rw[List.getElem?_zip_eq_some];exact⟨ax,hk⟩);rcases bs _ hm with h | h
    ·exact h
    ·exfalso;have hd:=vT aw (done:=fun z=>b.getD z true=true) d y f ab _ h;have ci:p[k]'(by omega)∈p++y::q:=w8.2 (.inl (aaQ ax));have:=((c _).1 ci).2;simp only at hd;rw[hd] at this;cases this
   have bz:=Ah sp t ⟨w,hs⟩ he.vd hK;refine CW f ch hs he hn bz ?_;intro a' w' F' L' ρ' g1 g2 g3 g4 g5 g6 g7;have v:(p++q).Nodup/\y∉p++q:=by
    have:=(List.perm_middle.nodup_iff).1 ay;rw[List.nodup_cons] at this;exact⟨this.2,this.1⟩
   have aa:∀i,(b.setIfInBounds y true).getD i true=if i=y then true else b.getD i true:=by
    intro i;simp only[abf,Array.getElem?_setIfInBounds]
    by_cases hi:y=i
    ·subst hi;rw[eu rfl,eu rfl];simp[ao,f]
    ·rw[o6 hi,o6 (fun h=>hi h.symm)]
   refine ih (p++q) (sp++sq) _ F' L' ρ' a' w' bx (by simp[ao]) v.1 (fun i=>?_) (by simp at ae ⊢;omega) ?_ ?_ g1 g2 g3 g7 ?_
   ·rw[aa];have h0:=c i;constructor
    ·intro hi;have r:i≠y:=fun e=>v.2 (e▸hi);rw[o6 r];refine h0.1 ?_;rcases w8.1 hi with h | h
     ·exact w8.2 (.inl h)
     ·exact w8.2 (.inr (aa8 _ h))
    ·rintro⟨ca,al⟩;split at al
     ·cases al
     ·rename_i r;have:=h0.2 ⟨ca,al⟩;rcases w8.1 this with h | h
      ·exact w8.2 (.inl h)
      ·rcases xC.1 h with h | h
       ·exact o4 h r
       ·exact w8.2 (.inr h)
   ·rw[List.zip_append ac.symm];exact bt
   ·intro i hi hd z s;rw[aa] at hd ⊢;split
    ·rfl
    ·split at hd
     ·rename_i h;subst h;exact ab z s
     ·exact d i hi hd z s
   ·rintro bu cc ⟨F'',L'',aE,k1,k2,k3,k4,k5,k6,k7⟩;refine hQ bu cc ⟨F'',L'',aE,k1,k2,k3,k4.trans g4,g5.trans k5,fun j hj=>?_,k7⟩;rw[k6 j hj,g6 j];intro e;apply hj;have:∀(is:List Nat),y∈is->j∈dstsOf ops is:=by
     intro is
     induction is with
     | nil=>intro h;cases h
     | cons x is az =>
      intro h;simp only[dstsOf];rcases xC.1 h with rfl | h
      ·rw[e];simp
      ·split
       ·exact aa8 _ (az h)
       ·exact az h
    exact this _ (List.mem_range.2 f)
theorem s5 {A:cK}{r:Nat}{is:List Nat}{x:List (List Nat)}{ss:List aA}{F:aD}{L:Loc}{ρ:Env}{a:Act}{w:World}(hl:fp P A ops is=some ss) (k:ED P ops is x ss=true)
  (o:St F L w) (z:aH L ρ a) (t:a.tmps.size=A.n) (hK:aY P ss F L ρ K) (y:∀d w',eS A.n F L w a (dstsOf ops (List.range ops.size)) K d w'->Q .normal d w') :
  (Code.region r ops true).wp P Q a w:=by
 simp only[ED,xo] at k;obtain⟨⟨⟨⟨⟨⟨h1,s⟩,f⟩,j⟩,h5⟩,l⟩,m⟩:=k;have f:=cU f;have j:=vv j;have c:∀i∈is,i<ops.size:=fun i hi=>by
  have h:Nat.blt i ops.size=true:=aaZ.1 h5 i hi;simpa using h
 refine wp_region_any h1 ?_;show wpAny P .any ops Q ops.size (Array.replicate ops.size false) a w.drew;refine Hy s ops.size is ss _ F L ρ a w.drew hl (by simp) f (fun i=>?_) (by omega) m ?_ o.drew z t hK ?_
 ·constructor
  ·intro hi;refine⟨c i hi,?_⟩;simp[abf,c i hi]
  ·rintro⟨hi,_⟩;exact cS.1 (aaZ.1 l i (List.mem_range.2 hi))
 ·intro i hi e;simp[abf,hi] at e
 ·rintro d w' ⟨F',L',ρ',q,g2,g3,v,b,u,p⟩;refine y d w' ⟨F',L',ρ',q,g2,g3,v,?_,u,p⟩;exact⟨b.le,b.os,b.tape,b.output,b.size,b.same,b.frz,b.own⟩
end
def kY (L L':Loc):Prop:=∀k g t cs,L.get k=some (.box g t cs)->∃cs',L'.get k=some (.box g t cs')
def xS (ks:List Nat) (L L':Loc):Prop:=∀k g t cs,L.get k=some (.box g t cs)->∃cs',L'.get k=some (.box g t cs')/\(k∉ks->cs'=cs)
structure fq (P:Program) (PX:aD->Loc->Value->Prop) (f:Nat) (args:List Value) (F:aD) (L:Loc) (K:aD->Loc->Value->Prop):Prop where
 out:∃(ks ko:List Nat) (Lin:List Own) (R:aD->List Own->Value->Prop) (Pp:aD->List Own->Value->Prop),L.sub ks=some Lin/\ks.Nodup/\ko.Nodup/\(∀k,k∈ko->k∈ks\/L.get k=none)/\wF P f args.toArray F Lin R Pp /\
  (∀v F' Lo,F.le F'->ks.length=Lo.length->xS ks L ((L.aaf ks).puts ks Lo)->Pp F' Lo v->PX F' ((L.aaf ks).puts ks Lo) v) /\
  ∀v F' Lo,F.le F'->R F' Lo v->ko.length=Lo.length /\
   (∀k g t cs,k∈ks->L.get k=some (.box g t cs)->∃cs',Loc.get ((L.aaf ks).puts ko Lo) k=some (.box g t cs')) /\
   K F' ((L.aaf ks).puts ko Lo) v
section
variable {P:Program}{F:aD}{L:Loc}{ρ:Env}{a:Act}{w:World}{K:cQ}{o:Oper}{Q:Exit->Act->World->Prop}
theorem fq.imp {PX:aD->Loc->Value->Prop}{f:Nat}{args:List Value}{K K':aD->Loc->Value->Prop}(h:fq P PX f args F L K) (p:∀F' L' v,K F' L' v->K' F' L' v):fq P PX f args F L K':=by
 obtain⟨ks,ko,l,R,Pp,q,m,n,k,s,e,d⟩:=h;exact⟨ks,ko,l,R,Pp,q,m,n,k,s,e,fun v F' Lo r j=>let⟨a,b,c⟩:=d v F' Lo r j;⟨a,b,p _ _ _ c⟩⟩
theorem CX {PX:aD->Loc->Value->Prop}{f:Nat}{args:List Value}(hs:St F L w) (he:aH L ρ a) (hd:∀k,o.dst=some k->k<a.tmps.size)
  (hrun:(∃fn,P.funcs[f]?=some fn/\fn.body.isSome=true/\(fn.name == "runtime.NumGoroutine")=false)->(execOp a.eval o).run P w=.ok (.enter f args.toArray) w)
  (hK:fq P PX f args F L fun F' L' v=>K F' L' (put o.dst (.v v) ρ))
  (hQ:∀v ch w' F' L',Em v ch->St F' L' w'->Step F L w F' L' w'->PX F' L' v->Q (.panic ch) a w'):o.wp P a w (bg F L w a K) Q:=by
 obtain⟨ks,ko,l,R,Pp,hsub,hn,hno,hko,hc,hPX,hK⟩:=hK;unfold Oper.wp;rw[hrun hc.ent];rw[Oper.upon_enter];refine(hc.run w (hs.handed hsub hn)).mono ?_;rintro e w' (⟨v,F',lo,rfl,hs',hst,hR⟩ | ⟨v,ch,F',lo,rfl,hch,hs',hst,hlo,hbx,hp⟩)
 ·obtain⟨hlen,hbox,hK⟩:=hK v F' lo hst.le hR;obtain⟨h1,h2⟩:=jA hs hsub hn hno hko hs' hst hlen;refine⟨F',_,_,h1,he.put hd (x:=.v v) rfl bS dG ?_,lg _ _ _,gY _ _ _,h2,hK⟩;intro k g ty cs e
  by_cases hk:k∈ks
  ·exact hbox k g ty cs hk e
  ·rcases dA ko lo (L.aaf ks) k hno hlen with⟨h1,h2⟩ | ⟨i,h1,h2,h3⟩
   ·rw[h1,fL,o6 hk];exact⟨cs,e⟩
   ·rcases hko k (aaQ h1) with h | h
    ·exact o4 h hk
    ·rw[h] at e;cases e
 ·obtain⟨hl,hg⟩:=eM hsub;have hlen:ks.length=lo.length:=by rw[hlo,hl]
  obtain⟨h1,h2⟩:=jA hs hsub hn hn (fun k hk=>.inl hk) hs' hst hlen;refine hQ v ch w' F' _ hch h1 h2 (hPX v _ _ hst.le hlen ?_ hp);intro k g t cs e;rcases dA ks lo (L.aaf ks) k hn hlen with⟨q1,q2⟩ | ⟨i,q1,q2,q3⟩
  ·rw[q1,fL,o6 q2];exact⟨cs,e,fun _=>rfl⟩
  ·rw[q2];have:=hg i k q1;rw[e] at this;obtain⟨cs',h⟩:=hbx i g t cs this.symm;exact⟨cs',h,fun h=>o4 (aaQ q1) h⟩
end
section
variable {P:Program}
theorem oW {y:Operand}{s:eH}(h:zX y=some s):∃g,s=.gload g:=by
 cases y with
 | global g =>
  simp only[zX] at h;split at h
  ·injection h with h;exact⟨_,h.symm⟩
  ·cases h
 | tmp n=>cases h
 | const v=>cases h
 | func f=>cases h
theorem Jz {own:Bool}{op:Op}{f:Nat}{args:List X}(b:iD P own op=some (.call f args)):∃c,op=.call c/\c.callee=.value (.func f)/\gM c.args.toList=some args:=by
 cases op
 case call c =>
  simp only[iD] at b;split at b
  case h_1=>cases b
  rename_i e d;split at b
  ·rename_i m l;split at b
   case h_2=>cases b
   split at b
   case h_2=>cases b
   injection b with b
   injection b with e1 e2
   subst e1 e2;exact⟨c,rfl,l,d⟩
  all_goals (exfalso;revert b;repeat' split)<;>simp
 all_goals (exfalso;revert b;simp only[iD];repeat' split)<;>first | contradiction | (intro h;obtain⟨k,h⟩:=oW h;cases h;done) | (simp;done) | (rename_i j;obtain⟨k,rfl⟩:=oW j;simp)
theorem Hz {own:Bool}{op:Op}{x:X}{args:List X}(b:iD P own op=some (.callV x args)):∃c,op=.call c/\gM c.args.toList=some args/\((∃y,c.callee=.value y/\br y=some x)\/∃n nm,c.callee=.invoke (.tmp n) nm/\x=.mt nm n):=by
 cases op
 case call c =>
  simp only[iD] at b;split at b
  case h_1=>cases b
  rename_i f d;split at b
  ·exfalso;revert b;(repeat' split)<;>simp
  ·rename_i y _ e;split at b
   case h_2=>cases b
   rename_i l;injection b with b
   injection b with e1 e2
   subst e1 e2;exact⟨c,rfl,d,.inl ⟨y,e,l⟩⟩
  ·rename_i n nm e;injection b with b
   injection b with e1 e2
   subst e1 e2;exact⟨c,rfl,d,.inr ⟨_,_,e,rfl⟩⟩
  all_goals (exfalso;revert b;repeat' split)<;>simp
 all_goals (exfalso;revert b;simp only[iD];repeat' split)<;>first | contradiction | (intro h;obtain⟨k,h⟩:=oW h;cases h;done) | (simp;done) | (rename_i j;obtain⟨k,rfl⟩:=oW j;simp)
theorem M6 {own:Bool}{op:Op}{x:X}(b:iD P own op=some (.pan x)):∃y,op=.panic y/\br y=some x:=by
 cases op
 case panic y =>
  simp only[iD] at b;split at b
  case h_2=>cases b
  rename_i d;injection b with b
  injection b with e1
  subst e1;exact⟨y,rfl,d⟩
 all_goals (exfalso;revert b;simp only[iD];repeat' split)<;>first | contradiction | (intro h;obtain⟨k,h⟩:=oW h;cases h;done) | (simp;done) | (rename_i c;obtain⟨k,rfl⟩:=oW c;simp)
end
section
variable {P:Program}{F:aD}{L:Loc}{ρ:Env}{a:Act}{w:World}{K:cQ}{o:Oper}{Q:Exit->Act->World->Prop}
theorem vV {PX:aD->Loc->Value->Prop}{own:Bool}{f:Nat}{args:List X}(l:St F L w) (j:aH L ρ a) (t:∀k,o.dst=some k->k<a.tmps.size) (s:iD P own o.op=some (.call f args))
  (r:fq P PX f (bn L ρ args) F L fun F' L' v=>K F' L' (put o.dst (.v v) ρ))
  (q:∀v h w' F' L',Em v h->St F' L' w'->Step F L w F' L' w'->PX F' L' v->Q (.panic h) a w'):o.wp P a w (bg F L w a K) Q:=by
 refine CX l j t (fun d=>?_) r q;obtain⟨c,n,p,m⟩:=Jz s;have e:=fK m j;have b:c.args.map a.eval=(bn L ρ args).toArray:=by apply Array.ext';simpa using e
 simp[execOp,n,resolve,p,Deferred.ofValue,Act.eval,invoke,b,jO d]
theorem pO {PX:aD->Loc->Value->Prop}{own:Bool}{f:Nat}{x:X}{fi ca:List Value}{args:List X}(hs:St F L w) (q:aH L ρ a) (hd:∀k,o.dst=some k->k<a.tmps.size) (hl:iD P own o.op=some (.callV x args)) (h:mq P (ev ρ x)=some (f,fi,ca))
  (hK:fq P PX f (fi++bn L ρ args++ca) F L fun F' L' v=>K F' L' (put o.dst (.v v) ρ))
  (hQ:∀v ch w' F' L',Em v ch->St F' L' w'->Step F L w F' L' w'->PX F' L' v->Q (.panic ch) a w'):o.wp P a w (bg F L w a K) Q:=by
 refine CX hs q hd (fun l=>?_) hK hQ;obtain⟨c,ho,ha,⟨y,hc,hy⟩ | ⟨n,nm,hc,rfl⟩⟩:=Hz hl
 ·have ey:=aI hy q;have m:=fK ha q;have d:c.args.map a.eval=(bn L ρ args).toArray:=by apply Array.ext';simpa using m
  have p:∀z,ev ρ x=.v z->a.eval y=z:=fun z e=>by rw[ey,bH e]
  have:=CP (w:=w) (args:=bn L ρ args) h p l;simp only[execOp,ho,resolve,hc,d];exact this
 ·have m:=fK ha q;have d:c.args.map a.eval=(bn L ρ args).toArray:=by apply Array.ext';simpa using m
  simp only[ev] at h;cases r:ρ n with
  | own k off=>rw[r] at h;cases h
  | el b j=>rw[r] at h;cases h
  | v z =>
   rw[r] at h;have hz:a.eval (.tmp n)=z:=by
    have:=q.eq n;rw[r] at this;exact this
   simp only[Tf,mq] at h;split at h
   case h_2=>cases h
   rename_i t u ac;split at h
   case h_2=>cases h
   rename_i f' hm;injection h with h
   injection h with e1 e2
   injection e2 with e2 e3
   subst e1 e2 e3;have aa:z=.iface t u:=by simpa using ac
   subst aa;have s:(#[Value.iface t u]++(bn L ρ args).toArray).extract 1 (#[Value.iface t u]++(bn L ρ args).toArray).size=(bn L ρ args).toArray:=by apply Array.ext';simp
   have h0:(#[Value.iface t u]++(bn L ρ args).toArray)[0]?=some (.iface t u):=by simp
   have:=jP (w:=w) (u:=u) (args:=(bn L ρ args).toArray) hm l;simp only[execOp,ho,resolve,hc,d,hz,Sem.run_bind,Sem.run_pure,Result.andThen_ok,invoke,h0,s,this];simp
theorem HA {PX:aD->Loc->Value->Prop}{own:Bool}{x:X}(d:St F L w) (l:aH L ρ a) (m:iD P own o.op=some (.pan x)) {t:TypeId}{u:Value}(h:val L ρ x=.iface t u) (k:PX F L (.iface t u))
  (j:∀v c w' F' L',Em v c->St F' L' w'->Step F L w F' L' w'->PX F' L' v->Q (.panic c) a w'):o.wp P a w (bg F L w a K) Q:=by
 obtain⟨y,f,e⟩:=M6 m;have n:=aI e l;unfold Oper.wp;have b:(execOp a.eval o).run P w=.halt (.panic (.iface t u)) w:=by
  simp[execOp,f,n,h,Instr.panic,goPanic]
 rw[b];exact j _ _ w F L (Em.one _) d (Step.refl _ _ _) k
end
structure CallXDPt (P:Program) (PX:aD->Loc->Value->Prop) (fb:List Nat) (f:Nat) (args:List Value) (F:aD) (L:Loc) (K:aD->Loc->Value->Prop):Prop where
 out:∃(ks:List Nat) (Lin:List Own) (R:aD->List Own->Value->Prop) (Pp:aD->List Own->Value->Prop),L.sub ks=some Lin/\ks.Nodup/\(∀k∈ks,k∉fb)/\wF P f args.toArray F Lin R Pp /\
  (∀v F' L' Lo,F.le F'->L'.sub ks=some Lo->xS ks L L'->Pp F' Lo v->PX F' L' v) /\
  ∀v F' Lo,F.le F'->R F' Lo v->ks.length=Lo.length/\(∀(i:Nat) g t cs,Lin[i]?=some (.box g t cs)->∃cs',Lo[i]?=some (.box g t cs')) /\
   (Real F' (L.puts ks Lo)->K F' (L.puts ks Lo) v)
def rX (P:Program) (L:Loc) (ρ:Env):eH->Option (Nat×List Value)
 | .call f args=>some (f,bn L ρ args)
 | .callV f args=>match mq P (ev ρ f) with
  | some (f,fi,ca)=>some (f,fi++bn L ρ args++ca)
  | none=>none
 | _=>none
def Br:eH->List Nat
 | .call _ args=>cI args
 | .callV f args=>cI (f::args)
 | _=>[]
def CY:eH->Bool
 | .call _ _=>true
 | .callV _ _=>true
 | _=>false
def bq (P:Program) (PX:aD->Loc->Value->Prop) (fb:List Nat):List aA->aD->Loc->Env->cQ->Prop
 | [],F,L,ρ,K=>K F L ρ
 | .op d o g::a,F,L,ρ,K=>∃o',res g ρ o=some o'/\evalOp P o' d F L ρ fun F' L' ρ'=>bq P PX fb a F' L' ρ' K
 | .frz _::_,_,_,_,_=>False
 | .pc d o g::a,F,L,ρ,K=>match rX P L ρ o,g with
  | some (f,vs),none=>CallXDPt P PX fb f vs F L fun F' L' v=>bq P PX fb a F' L' (put d (.v v) ρ) K
  | _,_=>False
def JA:eH->Bool
 | .loadF _ _ _=>true
 | .gload _=>true
 | _=>false
def PO:eH->Bool
 | .mkfn _ _ _=>true
 | _=>false
def Ta (o:eH):Bool:=CR o||JA o||PO o
def Tj (fb:List Nat):eH->Bool
 | .loadK key _ _ _=>fW fb key
 | _=>false
theorem kO {fb:List Nat}{o:eH}(h:(Ta o||Tj fb o)=true):dm o=true:=by cases o<;>first | rfl | (exact o4 h (by decide)) | (simp[Ta,Tj,CR,JA,PO] at h)
def uc:aA->Option Nat
 | .op d (.allocD _ _) none=>d
 | _=>none
def zu:aA->Option Nat
 | .op d _ _=>d
 | .frz _=>none
 | .pc d _ _=>d
def gB (fb:List Nat):aA->aA->Bool
 | .op a x c,.op b y d=>lV (.op a x c) (.op b y d)
 | .op a x c,.pc b y none=>CY y&&(Ta x||Tj fb x)&&sZ a (Br y)&&sZ b (looks x c)&&CV a b
 | .pc a x none,.op (some k) (.allocD _ _) none=>CY x&&sZ (some k) (Br x)&&CV a (some k)
 | _,_=>false
def FN:eH->Bool
 | .copyX _ _ _ _=>true
 | _=>false
def Vs:aA->Bool
 | .op _ o _=>okD o||FN o
 | .pc _ o none=>CY o
 | _=>false
section
variable {P:Program}{PX:aD->Loc->Value->Prop}{fb:List Nat}{F F':aD}{L L':Loc}{ρ:Env}{K K':cQ}
theorem HB {sv:SV}(hb:kY L L') (b:∀k off,sv=.own k off->∃g t cs,L.get k=some (.box g t cs)):conc L' sv=conc L sv:=by
 cases sv with
 | v x=>rfl
 | el a j=>rfl
 | own k off =>
  obtain⟨g,t,cs,e⟩:=b k off rfl;obtain⟨cs',c⟩:=hb k g t cs e;simp only[conc,e,c]
theorem JB (hb:kY L L') (a:Vd L ρ) (x:X):val L' ρ x=val L ρ x:=HB hb fun k off e=>a.ev e
theorem s6 (hb:kY L L') (a:Vd L ρ) (xs:List X):bn L' ρ xs=bn L ρ xs:=dI fun x _=>JB hb a x
theorem xT {d:Option Nat}{v:SV}{xs:List X}(h:∀k,d=some k->k∉cI xs):bn L (put d v ρ) xs=bn L ρ xs:=dI fun x a=>by simp only[val,gI h x a]
theorem M7 {o:eH}(h:(Ta o||Tj fb o)=true) (c:∀j∈fb,L'.get j=L.get j) (f:F.le F') (hb:kY L L') (d:Vd L ρ) {V:SV->Prop}(a:aL o F L ρ V):aL o F' L' ρ V:=by
 simp only[Ta,abl] at h;rcases h with((h | h) | h) | h
 rotate_right
 ·cases o<;>first | (cases h;done) | skip
  rename_i key r n x;have p:=c key (cS.1 h);simp only[aL] at a ⊢;split at a
  ·rename_i k off e;split at a
   ·rename_i b;have b:=vv b;subst b;rw[p];exact a
   ·exact a.elim
  ·exact a.elim
 ·exact Ad h a
 ·cases o<;>first | (cases h;done) | skip
  ·simp only[aL] at a ⊢;obtain⟨u,t,m,q,l⟩:=a;exact⟨u,t,m,f _ _ q,l⟩
  ·simp only[aL] at a ⊢;split at a
   ·exact a.up f
   ·exact a.up f
   ·exact a.elim
 ·cases o<;>first | (cases h;done) | skip
  simp only[aL,s6 hb d] at a ⊢;exact a
theorem kY.vd (hb:kY L L') (a:Vd L ρ):Vd L' ρ:=fun t k off e=>let⟨g,ty,cs,h⟩:=a t k off e;let⟨cs',h'⟩:=hb k g ty cs h;⟨g,ty,cs',h'⟩
theorem Vd.aaN (a:Vd L ρ) (d:Option Nat) (v:Value):Vd L (put d (.v v) ρ):=by
 intro t k off e;rw[put_eq] at e;cases d with
 | none=>exact a t k off e
 | some j =>
  simp only[] at e;split at e
  ·cases e
  ·exact a t k off e
theorem vh {ks:List Nat}{Lin Lo:List Own}(d:L.sub ks=some Lin) (f:ks.Nodup) (a:ks.length=Lo.length) (h:∀(i:Nat) g t cs,Lin[i]?=some (.box g t cs)->∃cs',Lo[i]?=some (.box g t cs')) :
  kY L (L.puts ks Lo)/\(∀j,L.get j=none->(L.puts ks Lo).get j=none)/\∀j,j∉ks->(L.puts ks Lo).get j=L.get j:=by
 obtain⟨p,m⟩:=eM d;refine⟨fun k g t cs e=>?_,fun j e=>?_,fun j n=>?_⟩
 ·rcases dA ks Lo L k f a with⟨b,c⟩ | ⟨i,b,c,l⟩
  ·rw[b];exact⟨cs,e⟩
  ·rw[c];have:=m i k b;rw[e] at this;exact h i g t cs this.symm
 ·rcases dA ks Lo L j f a with⟨b,c⟩ | ⟨i,b,c,l⟩
  ·rw[b];exact e
  ·have:=m i j b;rw[e] at this;have o:=abC.1 this.symm;omega
 ·rcases dA ks Lo L j f a with⟨b,c⟩ | ⟨i,b,c,l⟩
  ·exact b
  ·exact o4 (aaQ b) n
theorem CallXDPt.imp {f:Nat}{args:List Value}{K K':aD->Loc->Value->Prop}(h:CallXDPt P PX fb f args F L K)
  (u:∀F' L' v,F.le F'->kY L L'->(∀j,L.get j=none->L'.get j=none)->(∀j∈fb,L'.get j=L.get j)->Real F' L'->K F' L' v->K' F' L' v):CallXDPt P PX fb f args F L K':=by
 obtain⟨ks,l,R,Pp,m,d,e,r,p,x⟩:=h;refine⟨ks,l,R,Pp,m,d,e,r,p,fun v F' Lo n o=>?_⟩;obtain⟨a,b,c⟩:=x v F' Lo n o;obtain⟨s,q,t⟩:=vh m d a b;exact⟨a,b,fun k=>u _ _ _ n s q (fun j w=>t j fun h=>e j h w) k (c k)⟩
theorem ji {d:Option Nat}{o:eH}{g:Option (Nat×Bool)}{a:List aA} :
  bq P PX fb (.op d o g::a) F L ρ K↔∃o',res g ρ o=some o'/\evalOp P o' d F L ρ (fun F1 L1 b=>bq P PX fb a F1 L1 b K):=Iff.rfl
theorem sD:∀(ks:List Nat) (Lo:List Own) (L:Loc) {k:Nat}{o:Own},k∉ks->(L.set k o).puts ks Lo=(L.puts ks Lo).set k o
 | [],Lo,L,k,o,_=>by cases Lo<;>rfl
 | j::ks,[],L,k,o,_=>rfl
 | j::ks,p::Lo,L,k,o,h=>by
  simp only[Loc.puts];rw[set_comm L o p (fun e=>h (by simp[e])),sD ks Lo (L.set j p) (fun a=>h (by simp[a]))]
theorem FO:∀{ks:List Nat}{L:Loc}{k:Nat}{o:Own},k∉ks->(L.set k o).sub ks=L.sub ks
 | [],L,k,o,_=>rfl
 | j::ks,L,k,o,h=>by
  simp only[Loc.sub];rw[cC (fun e=>h (by simp[e])),FO (fun a=>h (by simp[a]))]
theorem Ri {r s:Option Nat}{x y:eH}{gx gy:Option (Nat×Bool)}{b:List aA}(hp:lV (.op r x gx) (.op s y gy)=true) (hr:Real F L) (t:Vd L ρ) (h:bq P PX fb (.op r x gx::.op s y gy::b) F L ρ K):bq P PX fb (.op s y gy::.op r x gx::b) F L ρ K:=by
  simp only[lV,xo] at hp;obtain⟨⟨⟨⟨⟨ag,d⟩,hc⟩,h1⟩,h2⟩,z⟩:=hp;have h1:=kN h1;have h2:=kN h2;have z:=oU z;have av:∀k,s=some k->r≠some k:=fun k e e'=>z k e' e;rw[ji] at h;obtain⟨w,q,h⟩:=h;have f:okD iH=true:=rfl;have m:okD w=true:=by rcases dw q with rfl | rfl;exact ag;exact f
  have hy:∃o,res gy ρ y=some o:=by
   obtain⟨v,F1,L1,c⟩:=vS m hr h;rw[ji] at c;obtain⟨o,a,_⟩:=c;rw[pK h1] at a;exact⟨o,a⟩
  obtain⟨o,a⟩:=hy;have aa:okD o=true:=by rcases dw a with rfl | rfl;exact d;exact f
  have hA:evalOp P w r F L ρ (fun F1 L1 l=>evalOp P o s F1 L1 l (fun F2 L2 n=>bq P PX fb b F2 L2 n K)):=by
   refine jT m hr t h ?_;rintro F1 L1 l ⟨v,rfl⟩ _ _ _ c;rw[ji] at c;obtain⟨aw,j,c⟩:=c;rw[pK h1,a] at j;injection j with j
   subst j;exact c
  have lx:∀k,s=some k->k∉cI (bI w):=by
   intro k e c;rcases dw q with rfl | rfl
   ·exact h2 k e (oV c)
   ·simp[iH,bI,cI] at c
  have ly:∀k,r=some k->k∉cI (bI o):=by
   intro k e c;rcases dw a with rfl | rfl
   ·exact h1 k e (oV c)
   ·simp[iH,bI,cI] at c
  have hB:evalOp P o s F L ρ (fun F1 L1 l=>evalOp P w r F1 L1 l (fun F2 L2 n=>bq P PX fb b F2 L2 n K)):=by
   by_cases p:o=iH
   ·subst p;simp only[iH,evalOp,aL,ev];exact xQ (K:=fun F2 L2 n=>bq P PX fb b F2 L2 n K) (u:=.v undef) m lx z hA
   ·have ey:o=y:=by rcases dw a with h | h;exact h;exact o4 h p
    subst ey;refine Jv hr ?_ ly lx z t hA;rcases dw q with rfl | rfl
    ·exact hc
    ·simp only[okD,abl] at d;rcases d with d | d
     ·simp only[xR,d,abM,abl];exact .inl (.inl (.inl (.inl (.inl rfl))))
     ·simp only[xR,d,abM,abl];exact .inl (.inr rfl)
  rw[ji];refine⟨o,a,jT aa hr t hB ?_⟩;rintro F1 L1 l ⟨v,rfl⟩ _ _ _ c;rw[ji];exact⟨w,by rw[pK h2];exact q,c⟩
theorem EF {f:X}{args:List X}{k:Nat}(h:k∈cI args):k∈cI (f::args):=by
 cases f<;>simp[cI,h]
theorem CZ {d:Option Nat}{v:SV}{o:eH}(h:∀k,d=some k->k∉Br o):rX P L (put d v ρ) o=rX P L ρ o:=by
 cases o<;>try rfl
 ·rename_i f args;simp only[rX,xT h]
 ·rename_i f args;have a:∀k,d=some k->k∉cI args:=fun k e c=>h k e (EF c);have b:ev (put d v ρ) f=ev ρ f:=gI h f (by simp);simp only[rX,xT a,b]
theorem HC (hb:kY L L') (a:Vd L ρ) (o:eH):rX P L' ρ o=rX P L ρ o:=by
 cases o<;>try rfl
 ·simp only[rX,s6 hb a]
 ·simp only[rX,s6 hb a]
theorem Rj {l d:Option Nat}{x y:eH}{t:Option (Nat×Bool)}{b:List aA}(hp:gB fb (.op l x t) (.pc d y none)=true) (hr:Real F L) (s:Vd L ρ)
  (h:bq P PX fb (.op l x t::.pc d y none::b) F L ρ K):bq P PX fb (.pc d y none::.op l x t::b) F L ρ K:=by
 simp only[gB,xo] at hp;obtain⟨⟨⟨⟨_,r⟩,w⟩,f⟩,m⟩:=hp;have w:=kN w;have f:=kN f;have m:=oU m;have ad:∀k,d=some k->l≠some k:=fun k e e'=>m k e' e;obtain⟨j,c,h⟩:=h;have a:(Ta j||Tj fb j)=true:=by rcases dw c with rfl | rfl;exact r;rfl
 rw[cF (kO a)] at h;obtain⟨v,hT,n⟩:=(fM (kO a)).ex _ h;simp only[bq,CZ w] at n ⊢;split at n
 case h_2=>exact n.elim
 refine n.imp fun F' L' u z aa _ q ag o=>⟨j,by rw[pK f];exact c,?_⟩;rw[cF (kO a)];have lx:∀k,d=some k->k∉cI (bI j):=by
  intro k e o;rcases dw c with rfl | rfl
  ·exact f k e (oV o)
  ·simp[iH,bI,cI] at o
 have p:=rL (kO a) (aD.le_refl F') (ve (L:=L') (ρ:=ρ) (v:=.v u) lx) (M7 a q z aa s hT);refine(fM (kO a)).mono _ _ (fun v' e=>?_) p;subst e;rw[put_comm m];exact o
theorem Rk {dx:Option Nat}{k:Nat}{t:TypeId}{zs:List Value}{x:eH}{n:List aA}(y:gB fb (.pc dx x none) (.op (some k) (.allocD t zs) none)=true) (p:L.get k=none) (hr:Real F L) (ac:Vd L ρ)
  (h:bq P PX fb (.pc dx x none::.op (some k) (.allocD t zs) none::n) F L ρ K):bq P PX fb (.op (some k) (.allocD t zs) none::.pc dx x none::n) F L ρ K:=by
 simp only[gB,xo] at y;have h1:=kN y.1.2;have h3:=oU y.2;simp only[bq,res,vz,exists_eq_left',evalOp,p] at h ⊢;intro g az;split at h
 case h_2=>exact h.elim
 rename_i _ _ f vs z _;obtain⟨ks,l,R,Pp,e1,e2,e0,e3,e4,e5⟩:=h;have s:k∉ks:=by
  intro s;obtain⟨hl,hg⟩:=eM e1;obtain⟨i,hi⟩:=List.getElem?_of_mem s;have:=hg i k hi;rw[p] at this;have h5:=(w7.1 hi).1;have h6:=abC.1 this.symm;omega
 have o:kY L (L.set k (.box g t zs)):=fun j r u cs e=>⟨cs,Keeps.new p j r u cs e⟩;have ea:rX P (L.set k (.box g t zs)) (put (some k) (.own k 0) ρ) x=some (f,vs):=by
  rw[CZ h1,HC o ac,z]
 rw[ea];refine⟨ks,l,R,Pp,by rw[FO s];exact e1,e2,e0,e3,fun v F0 L' Lo hF w hb=>e4 v F0 L' Lo hF w fun j r u cs e=>hb j r u cs (Keeps.new p j r u cs e),fun v F' Lo hF hR=>?_⟩;obtain⟨a,b,c⟩:=e5 v F' Lo hF hR;refine⟨a,b,fun m=>?_⟩;rw[sD ks Lo L s] at m ⊢;obtain⟨k1,k2,_⟩:=vh e1 e2 a b;have q:=k2 k p;have c:=c (m.down (aD.le_refl _) m.glob (Ju q));simp only[q] at c;rw[<-put_comm (d:=some k) (fun j e e'=>h3 j e' e)];exact c g m
theorem HE {x y:aA}{a:List aA}(c:gB fb x y=true) (e:∀k,uc y=some k->L.get k=none) (d:Real F L) (b:Vd L ρ) (h:bq P PX fb (x::y::a) F L ρ K):bq P PX fb (y::x::a) F L ρ K:=by
 unfold gB at c;split at c
 ·exact Ri c d b h
 ·exact Rj c d b h
 ·exact Rk c (e _ rfl) d b h
 ·cases c
theorem C0 {y:aA}{k:Nat}(h:uc y=some k):zu y=some k:=by
 unfold uc at h;split at h
 ·exact h
 ·cases h
theorem JC {x y:aA}(a:gB fb x y=true) {k:Nat}(h:uc y=some k):zu x≠some k:=by
 have b:=C0 h;unfold gB at a;split at a
 ·simp only[lV,xo] at a;intro e;exact oU a.2 k e b
 ·simp[uc] at h
 ·simp only[xo] at a;intro e;exact oU a.2 k e b
 ·cases a
theorem JD {b:Option Nat}{x:eH}{h:Option (Nat×Bool)}{y:aA}(a:gB fb (.op b x h) y=true):okD x=true:=by
 cases y with
 | frz k=>cases a
 | op d y f=>simp only[gB,lV,xo] at a;exact a.1.1.1.1.1
 | pc d y f =>
  unfold gB at a;split at a
  ·rename_i e;cases e
  ·rename_i c j;injection c with q1 q2 q3
   subst q2;simp only[xo] at a;have:=kO a.1.1.1.2;simp[okD,EC,this]
  ·rename_i e _;cases e
  ·cases a
def Tl:aA->Bool
 | .op _ o _=>okD o
 | .pc _ o none=>CY o
 | _=>false
theorem HF {x y:aA}(a:gB fb x y=true):Tl x=true:=by
 cases x with
 | op d o g=>exact JD a
 | frz k=>cases y<;>cases a
 | pc d o g =>
  cases g with
  | none =>
   cases y with
   | op c y b =>
    cases c with
    | none=>cases y<;>cases b<;>cases a
    | some k =>
     cases b with
     | some q=>cases y<;>cases a
     | none =>
      cases y<;>first
       | (cases a;done)
       | (simp only[gB,xo] at a;exact a.1.1)
   | frz k=>cases a
   | pc c y b=>cases b<;>cases a
  | some q=>cases y<;>cases a
theorem zw {x:aA}{c b:List aA}(t:Tl x=true) (y:Real F L) (m:Vd L ρ) (h:bq P PX fb (x::c) F L ρ K)
  (u:∀F1 L1 a,F.le F1->Real F1 L1->Vd L1 a->(∀j,zu x≠some j->L.get j=none->L1.get j=none)->bq P PX fb c F1 L1 a K->bq P PX fb b F1 L1 a K):bq P PX fb (x::b) F L ρ K:=by
 cases x with
 | frz k=>cases t
 | op d o g =>
  obtain⟨o',l,h⟩:=h;have r:okD o'=true:=by rcases dw l with rfl | rfl;exact t;rfl
  exact⟨o',l,kX r y m h fun F1 L1 a _ p q n s w=>u F1 L1 a p q n s w⟩
 | pc d o g =>
  unfold bq at h ⊢;split at h
  ·rename_i f args;refine h.imp fun F' L' v z p q _ n s=>u _ _ _ z n ((p.vd m).aaN d v) (fun j _ e=>q j e) s
  ·exact h.elim
theorem xU {y:aA}{s:List aA}:∀(p:List aA),(∀x∈p,gB fb x y=true)->∀{F:aD}{L:Loc}{ρ:Env},(∀k,uc y=some k->L.get k=none)->Real F L->Vd L ρ->bq P PX fb (p++y::s) F L ρ K->bq P PX fb (y::(p++s)) F L ρ K
 | [],_,F,L,ρ,_,_,_,h=>h
 | x::p,c,F,L,ρ,j,l,b,h=>by
  refine HE (c x (by simp)) j l b ?_;refine zw (HF (c x (by simp))) l b h fun F1 L1 m _ d a f o=>?_;exact xU p (fun z n=>c z (by simp[n])) (fun k e=>f k (JC (c x (by simp)) e) (j k e)) d a o
end
section
variable {P:Program}{PX:aD->Loc->Value->Prop}{fb:List Nat}{K:cQ}{Q:Exit->Act->World->Prop}{ops:Array Oper}
theorem Aj {ks:List Nat}(b:ks.Nodup) {i j:Nat}{hi:i<ks.length}{c:j<ks.length}(h:ks[i]=ks[j]):i=j:=by
 rw[List.nodup_iff_pairwise_ne,List.pairwise_iff_getElem] at b;rcases Nat.lt_trichotomy i j with a | d | a
 ·exact o4 h (b i j hi c a)
 ·exact d
 ·exact o4 h.symm (b j i c hi a)
theorem mQ {L:Loc}{ks:List Nat}{Lo:List Own}(h:ks.Nodup) (a:ks.length=Lo.length):((L.aaf ks).puts ks Lo).sameAs (L.puts ks Lo):=by
 intro j;rcases dA ks Lo L j h a with⟨c,d⟩ | ⟨i,c,d,o⟩<;>rcases dA ks Lo (L.aaf ks) j h a with⟨b,e⟩ | ⟨n,b,e,p⟩
 ·rw[c,b,fL,o6 d]
 ·exact o4 (aaQ b) d
 ·exact o4 (aaQ c) e
 ·have:i=n:=by
   have l:=(w7.1 c);have m:=(w7.1 b);obtain⟨l,f⟩:=l;obtain⟨m,k⟩:=m;exact Aj h (f.trans k.symm)
  subst this;rw[d,e]
theorem xV:∀{ks:List Nat}{L:Loc}{Lo:List Own},ks.length=Lo.length->(∀(i:Nat) k,ks[i]?=some k->L.get k=Lo[i]?)->L.sub ks=some Lo
 | [],L,[],_,_=>rfl
 | [],L,_::_,h,_=>by simp at h
 | _::_,L,[],h,_=>by simp at h
 | k::ks,L,o::Lo,h,b=>by
  have a:=b 0 k rfl;have c:L.sub ks=some Lo:=xV (by simpa using h) fun i j e=>by
   have:=b (i+1) j (by rw[abx];exact e);rw[abx] at this;exact this
  have a:L.get k=some o:=a;simp only[Loc.sub,a,c]
theorem JE {L:Loc}{ks:List Nat}{Lo:List Own}(h:ks.Nodup) (a:ks.length=Lo.length):(L.puts ks Lo).sub ks=some Lo:=by
 refine xV a fun i k e=>?_;rcases dA ks Lo L k h a with⟨f,b⟩ | ⟨j,f,b,l⟩
 ·exact o4 (aaQ e) b
 ·have hi:=w7.1 e;have m:=w7.1 f;obtain⟨n,c⟩:=hi;obtain⟨o,d⟩:=m;have:i=j:=Aj h (c.trans d.symm);subst this;rw[b,v7 l]
theorem CallXDPt.toX {f:Nat}{args:List Value}{F:aD}{L:Loc}{K:aD->Loc->Value->Prop}(h:CallXDPt P PX fb f args F L K):fq P PX f args F L fun F' L' v=>∃L2,L'.sameAs L2/\(Real F' L2->K F' L2 v):=by
 obtain⟨ks,l,R,Pp,n,d,y,r,p,w⟩:=h;refine⟨ks,ks,l,R,Pp,n,d,d,fun k u=>.inl u,r,fun v F' Lo m j hb q=>p v F' _ Lo m (JE d j) hb q,fun v F' Lo m o=>?_⟩;obtain⟨a,b,c⟩:=w v F' Lo m o;obtain⟨s,x,_⟩:=vh n d a b;refine⟨a,fun k g t cs _ e=>?_,_,mQ d a,c⟩;rw[<-mQ d a];exact s k g t cs e
theorem C2 {own:Bool}{o:Oper}{s:eH}{f:Nat}{vs:List Value}{F:aD}{L:Loc}{ρ:Env}{a:Act}{w:World}{K:cQ}(c:St F L w) (h:aH L ρ a) (m:∀k,o.dst=some k->k<a.tmps.size) (l:iD P own o.op=some s) (b:rX P L ρ s=some (f,vs))
  (j:fq P PX f vs F L fun F' L' v=>K F' L' (put o.dst (.v v) ρ))
  (e:∀v d w' F' L',Em v d->St F' L' w'->Step F L w F' L' w'->PX F' L' v->Q (.panic d) a w'):o.wp P a w (bg F L w a K) Q:=by
 cases s with
 | call n args =>
  simp only[rX,vz,Prod.mk.injEq] at b;obtain⟨rfl,rfl⟩:=b;exact vV c h m l j e
 | callV x args =>
  simp only[rX] at b;split at b
  case h_2=>cases b
  rename_i n fi ca p;simp only[vz,Prod.mk.injEq] at b;obtain⟨rfl,rfl⟩:=b;exact pO c h m l p j e
 | _=>cases b
theorem C3 {o:eH}(ho:FN o=true) {d:Option Nat}{F:aD}{L:Loc}{ρ:Env}{K:cQ}(h:evalOp P o d F L ρ K):evalOp P o d F L ρ fun F' L' ρ'=>(∀j,d≠some j->L.get j=none->L'.get j=none)/\K F' L' ρ':=by
 cases o<;>simp only[FN,aaX] at ho;rename_i e sz dd x;simp only[evalOp] at h ⊢;generalize ev ρ dd=z1 at h ⊢;generalize ev ρ x=z2 at h ⊢;split at h
 ·obtain⟨⟨k,n,v,s,xs,z,w,q,j,m,a,c,news,b,f,p,y,h5,u,t,h8,l⟩ | ⟨da,n,q,a,m,c,b,f,p,l⟩⟩:=h
  ·refine⟨.inl ⟨k,n,v,s,xs,z,w,q,j,m,a,c,news,b,f,p,y,h5,u,t,h8,fun r=>⟨fun i _ hi=>?_,l r⟩⟩⟩;rw[Loc.aac];split
   ·rename_i e;subst e;rw[b] at hi;cases hi
   ·exact hi
  ·exact⟨.inr ⟨da,n,q,a,m,c,b,f,p,fun r=>⟨fun i _ hi=>hi,l r⟩⟩⟩
 ·exact h.elim
theorem HG {A:cK}{i:Nat}{s:aA}{l:List aA}{F:aD}{L:Loc}{ρ:Env}{a:Act}{w:World}{KK:Act->World->Prop}(hi:i<ops.size) (c:Bn P A ops i=some s) (q:Vs s=true) (hs:St F L w) (he:aH L ρ a) (hn:a.tmps.size=A.n)
  (x:bq P PX fb (s::l) F L ρ K)
  (hQ:∀m w' F' L' ρ',St F' L' w'->aH L' ρ' m->m.tmps.size=A.n->m.defers=a.defers->Step F L w F' L' w'->(∀j,((ops[i]?).bind (·.dst))≠some j->m.tmps.getD j undef=a.tmps.getD j undef) ->
   (∀j,zu s≠some j->L.get j=none->L'.get j=none)->bq P PX fb l F' L' ρ' K->KK m w')
  (hP:∀v ch w' F' L',Em v ch->St F' L' w'->Step F L w F' L' w'->PX F' L' v->Q (.panic ch) a w') :
  wpOp P ops Q i KK a w:=by
 cases s with
 | frz k=>cases q
 | op d o g =>
  obtain⟨o',t,h⟩:=x;have h2:aY P [.op d o g] F L ρ (fun F' L' ρ'=>(∀j,d≠some j->L.get j=none->L'.get j=none)/\bq P PX fb l F' L' ρ' K):=by
   refine gA.2 ⟨o',t,?_⟩;have q:(okD o||FN o)=true:=q;rw[abl] at q;rcases q with q | q
   ·have ay:okD o'=true:=by rcases dw t with rfl | rfl;exact q;rfl
    exact kX ay ⟨w,hs⟩ he.vd h fun F1 L1 aE _ _ _ _ z h6=>⟨z,h6⟩
   ·rcases dw t with rfl | rfl
    ·exact C3 q h
    ·exact kX rfl ⟨w,hs⟩ he.vd h fun F1 L1 aE _ _ _ _ z h6=>⟨z,h6⟩
  exact CW hi c hs he hn h2 fun m w' F' L' ρ' g1 g2 g3 g4 g5 y g7=>hQ m w' F' L' ρ' g1 g2 g3 g4 g5 y g7.1 g7.2
 | pc d o g =>
  unfold bq at x;split at x
  case h_2=>exact x.elim
  rename_i f vs bc;unfold Bn at c;split at c
  case h_1=>cases c
  rename_i o u;split at c
  case h_2=>cases c
  rename_i g s0 hg am r;rename_i o0 _ _ _ _ _ _;have aw:o.dst=d/\s0=o0/\g=none:=by
   split at c
   ·split at c
    ·injection c with c
     injection c with q1 q2 q3
     exact⟨q1,q2,rfl⟩
    ·injection c with c
     injection c with q1 q2 q3
     exact⟨q1,q2,rfl⟩
    ·cases c
   ·split at c
    ·split at c
     ·cases c
     ·cases c
    ·split at c
     ·split at c<;>cases c
     ·cases c
  obtain⟨rfl,rfl,rfl⟩:=aw;have hd:∀k,o.dst=some k->k<a.tmps.size:=by
   intro k hk;rw[hk] at r;rw[hn];have h2:Nat.blt k A.n=true:=r;simpa using h2
  have az:(ops[i]?).bind (·.dst)=o.dst:=by rw[u];rfl
  rw[az] at hQ;simp only[wpOp,u];have bd:o.guard=none:=by
   cases e:o.guard with
   | none=>rfl
   | some p=>obtain⟨j,b⟩:=p;rw[e] at hg;simp only[iF] at hg;split at hg<;>cases hg
  rw[eu (by simp[Region.wanted,bd])];refine .inl ?_;have ag:=x.imp (K':=fun F' L' v=>(∀j,L.get j=none->L'.get j=none)/\bq P PX fb l F' L' (put o.dst (.v v) ρ) K) fun F' L' v _ _ h3 _ _ z=>⟨h3,z⟩;have:=C2 (K:=fun F' L' ρ'=>∃L2,L'.sameAs L2/\(Real F' L2->(∀j,L.get j=none->L2.get j=none)/\bq P PX fb l F' L2 ρ' K)) hs he hd am bc ag.toX hP;refine Oper.wp_mono ?_ (qG (asg:=[]) this);rintro m w' ⟨⟨F',L',ρ',g1,g2,g3,g4,g5,L2,y,g7⟩,ba⟩;have s1:St F' L2 w':=g1.part fun k o e=>by rw[<-y k];exact e
  obtain⟨g8,g9⟩:=g7 ⟨w',s1⟩;exact hQ m w' F' L2 ρ' s1 (g2.same y) (by rw[g3,hn]) g4 (g5.aaH y) ba (fun j _ e=>g8 j e) g9
def mZ (fb:List Nat) (a:List (List Nat)):List (Nat×aA)->Bool
 | []=>true
 | (x,b)::l=>l.all (fun p=>gB fb b p.2||fW (Bo a p.1) x)&&mZ fb a l
def EG (ss:List aA):List Nat:=ss.filterMap zu
def Bs (ss:List aA):List Nat:=ss.filterMap fun s=>match s with | .op _ (.loadK key _ _ _) _=>some key | _=>none
def Bt (P:Program) (ops:Array Oper) (is:List Nat) (a:List (List Nat)) (ss:List aA):Bool :=
 P.follows .mixedOrders&&Jy ops a&&bJ is&&Nat.beq is.length ops.size&&is.all (fun i=>Nat.blt i ops.size)&&(List.range ops.size).all (fW is)&&mZ (Bs ss) a (is.zip ss)&&ss.all Vs&&bJ (EG ss)
theorem ud {d:List (List Nat)}:∀{p q:List (Nat×aA)}{y:Nat×aA},mZ fb d (p++y::q)=true->mZ fb d (p++q)=true/\∀x∈p,gB fb x.2 y.2=true\/x.1∈Bo d y.1
 | [],q,y,h=>by
  obtain⟨n,o⟩:=y;simp only[aa5,mZ,xo] at h ⊢;exact⟨h.2,fun x c=>by cases c⟩
 | (l,m)::p,q,y,h=>by
  simp only[aaT,mZ,xo] at h ⊢;obtain⟨k,f⟩:=h;obtain⟨j,e⟩:=ud f;have b:=aaZ.1 k;refine⟨⟨aaZ.2 fun z a=>b z ?_,j⟩,fun x c=>?_⟩
  ·rcases w8.1 a with a | a
   ·exact w8.2 (.inl a)
   ·exact w8.2 (.inr (aa8 _ a))
  ·rcases xC.1 c with rfl | c
   ·have:=b y (w8.2 (.inr (by simp)));simp only[abl] at this;rcases this with h | h
    ·exact .inl h
    ·exact .inr (cS.1 h)
   ·exact e x c
theorem M8 {p q:List aA}{y:aA}(h:(EG (p++y::q)).Nodup):(EG (p++q)).Nodup/\∀k,zu y=some k->∀z∈p++q,uc z≠some k:=by
 have e:EG (p++y::q)=EG p++((zu y).toList++EG q):=by
  unfold EG;rw[List.filterMap_append,List.filterMap_cons];cases zu y<;>rfl
 rw[e] at h;have c:(EG p++EG q).Nodup:=by
  refine List.Sublist.nodup ?_ h;exact List.Sublist.append (List.Sublist.refl _) (List.sublist_append_right _ _)
 refine⟨by unfold EG at c ⊢;rw[List.filterMap_append];exact c,fun k j z a d=>?_⟩;have b:=C0 d;rw[j] at h;have f:k∉EG p++EG q:=by
  have:(EG p++k::EG q).Nodup:=h;have:=(List.perm_middle.nodup_iff).1 this;rw[List.nodup_cons] at this;exact this.1
 apply f;rcases w8.1 a with a | a
 ·exact w8.2 (.inl (List.mem_filterMap.2 ⟨z,a,b⟩))
 ·exact w8.2 (.inr (List.mem_filterMap.2 ⟨z,a,b⟩))
theorem JF {A:cK}{i:Nat}{s:aA}(a:Bn P A ops i=some s):(ops[i]?).bind (·.dst)=zu s:=by
 unfold Bn at a;split at a
 case h_1=>cases a
 rename_i o b;rw[b];split at a
 case h_2=>cases a
 split at a
 ·split at a
  ·injection a with a;subst a;rfl
  ·injection a with a;subst a;rfl
  ·cases a
 ·split at a
  ·split at a
   ·injection a with a;subst a;rfl
   ·cases a
  ·split at a
   ·split at a
    ·injection a with a;subst a;rfl
    ·cases a
   ·cases a
theorem EH {A:cK}{cl:List (List Nat)}(bk:Jy ops cl=true):∀(fuel:Nat) (l:List Nat) (ss:List aA) (b:Array Bool) (F:aD) (L:Loc) (ρ:Env) (a:Act) (w:World),
  fp P A ops l=some ss->b.size=ops.size->l.Nodup->(∀i,i∈l↔i<ops.size/\b.getD i true=false)->l.length<=fuel->mZ fb cl (l.zip ss)=true ->
  (∀i,i<ops.size->b.getD i true=true->∀z∈direct ops i,b.getD z true=true) ->
  (∀s∈ss,Vs s=true)->(EG ss).Nodup->(∀s∈ss,∀k,uc s=some k->L.get k=none) ->
  St F L w->aH L ρ a->a.tmps.size=A.n->bq P PX fb ss F L ρ K ->
  (∀a' w',eS A.n F L w a (dstsOf ops (List.range ops.size)) K a' w'->Q .normal a' w') ->
  (∀v ch a' w' F' L',Em v ch->St F' L' w'->Step F L w F' L' w'->a'.tmps.size=A.n->a'.defers=a.defers->(∀j,j∉dstsOf ops (List.range ops.size)->a'.tmps.getD j undef=a.tmps.getD j undef)->PX F' L' v->Q (.panic ch) a' w')->wpAny P .any ops Q fuel b a w:=by
 have r:∀y z,y<ops.size->z∈direct ops y->z<y:=by
  intro y z hy m;have h:=aaZ.1 bk y (List.mem_range.2 hy);simp only[Bq,xo] at h;have h3:Nat.blt z y=true:=aaZ.1 h.1 z m;simpa using h3
 intro fuel
 induction fuel with
 | zero =>
  intro l ss b F L ρ a w hl aE bm d an hp f aw bu ax hs he hn hK hQ hP;have:l=[]:=abg (by omega);subst this;simp only[fp,vz] at hl;subst hl;refine⟨?_,hQ a w ⟨F,L,ρ,hs,he,hn,rfl,Step.refl _ _ _,fun _ _=>rfl,hK⟩⟩;apply List.eq_nil_iff_forall_not_mem.2;intro i hi;rw[mem_ready] at hi;obtain⟨h1,o,h2,_⟩:=hi;have:=(d i).2 ⟨(Array.getElem?_eq_some_iff.1 h2).1,h1⟩;cases this
 | succ fuel ih =>
  intro l ss b F L ρ a w hl aE bm d an hp f aw bu ax hs he hn hK hQ hP;refine⟨fun hr=>?_,fun y hy=>?_⟩
  ·have:l=[]:=by
    refine Classical.byContradiction fun u=>?_;obtain⟨y,h1,h2⟩:=min_mem u;obtain⟨h3,h4⟩:=(d y).1 h1;have ac:y∈Region.ready .any ops b:=by
     rw[mem_ready];refine⟨h4,ops[y],Array.getElem?_eq_getElem h3,fun e az bc=>?_⟩;have m:e.on∈direct ops y:=(pM (Array.getElem?_eq_getElem h3)).2 ⟨e,az,bc,rfl⟩;have da:=r y e.on h3 m;rw[tZ (by omega) false true];cases hd:b.getD e.on true with
     | true=>rfl
     | false =>
      have:=h2 e.on ((d e.on).2 ⟨by omega,hd⟩);omega
    rw[hr] at ac;cases ac
   subst this;simp only[fp,vz] at hl;subst hl;exact hQ a w ⟨F,L,ρ,hs,he,hn,rfl,Step.refl _ _ _,fun _ _=>rfl,hK⟩
  ·rw[mem_ready] at hy;obtain⟨h1,o,ho,ao⟩:=hy;have c:=(Array.getElem?_eq_some_iff.1 ho).1;have av:=(d y).2 ⟨c,h1⟩;obtain⟨p,q,rfl⟩:=List.append_of_mem av;obtain⟨eg,bz⟩:=qI hl;obtain⟨sp,sy,sq,rfl,al,cb,ct⟩:=bz p q y rfl;have bt:(p++y::q).zip (sp++sy::sq)=p.zip sp++(y,sy)::q.zip sq:=by
    rw[List.zip_append al.symm];rfl
   rw[bt] at hp;obtain⟨cr,co⟩:=ud hp;have ag:∀z∈direct ops y,b.getD z true=true:=by
    intro z m;have da:=r y z c m;obtain⟨e,az,bc,rfl⟩:=(pM ho).1 m;rw[tZ (by omega) true false];exact ao e az bc
   have aa:∀sx∈sp,gB fb sx sy=true:=by
    intro sx ci;obtain⟨k,hk⟩:=List.getElem?_of_mem ci;have ec:=(w7.1 hk).1;have bl:p[k]?=some (p[k]'(by omega)):=v7 (by omega);have hm:(p[k]'(by omega),sx)∈p.zip sp:=aaQ (i:=k) (by rw[List.getElem?_zip_eq_some];exact⟨bl,hk⟩);rcases co _ hm with h | h
    ·exact h
    ·exfalso;have hd:=vT bk (done:=fun z=>b.getD z true=true) f y c ag _ h;have df:p[k]'(by omega)∈p++y::q:=w8.2 (.inl (aaQ bl));have:=((d _).1 df).2;simp only at hd;rw[hd] at this;cases this
   have cx:=xU sp aa (fun k e=>ax sy (by simp) k e) ⟨w,hs⟩ he.vd hK;obtain⟨ca,de⟩:=M8 bu;have dB:(ops[y]?).bind (·.dst)=zu sy:=JF cb;refine HG c cb (aw sy (by simp)) hs he hn cx ?_ (fun v ch w' F' L' hc h1 h2 h3=>hP v ch a w' F' L' hc h1 h2 hn rfl (fun _ _=>rfl) h3);intro a' w' F' L' ρ' g1 g2 g3 g4 g5 g6 g8 g7;have ad:(p++q).Nodup/\y∉p++q:=by
    have:=(List.perm_middle.nodup_iff).1 bm;rw[List.nodup_cons] at this;exact⟨this.2,this.1⟩
   have ae:∀i,(b.setIfInBounds y true).getD i true=if i=y then true else b.getD i true:=by
    intro i;simp only[abf,Array.getElem?_setIfInBounds]
    by_cases hi:y=i
    ·subst hi;rw[eu rfl,eu rfl];simp[aE,c]
    ·rw[o6 hi,o6 (fun h=>hi h.symm)]
   refine ih (p++q) (sp++sq) _ F' L' ρ' a' w' ct (by simp[aE]) ad.1 (fun i=>?_) (by simp at an ⊢;omega) ?_ ?_ (fun z m=>aw z (by rcases w8.1 m with h | h<;>simp[h])) ca (fun z m k e=>g8 k (fun e2=>de k e2 z m e) (ax z (by rcases w8.1 m with h | h<;>simp[h]) k e)) g1 g2 g3 g7 ?_ ?_
   ·rw[ae];have h0:=d i;constructor
    ·intro hi;have u:i≠y:=fun e=>ad.2 (e▸hi);rw[o6 u];refine h0.1 ?_;rcases w8.1 hi with h | h
     ·exact w8.2 (.inl h)
     ·exact w8.2 (.inr (aa8 _ h))
    ·rintro⟨cy,ap⟩;split at ap
     ·cases ap
     ·rename_i u;have:=h0.2 ⟨cy,ap⟩;rcases w8.1 this with h | h
      ·exact w8.2 (.inl h)
      ·rcases xC.1 h with h | h
       ·exact o4 h u
       ·exact w8.2 (.inr h)
   ·rw[List.zip_append al.symm];exact cr
   ·intro i hi hd z m;rw[ae] at hd ⊢;split
    ·rfl
    ·split at hd
     ·rename_i h;subst h;exact ag z m
     ·exact f i hi hd z m
   ·rintro ar ay ⟨F'',L'',bo,k1,k2,k3,k4,k5,k6,k7⟩;refine hQ ar ay ⟨F'',L'',bo,k1,k2,k3,k4.trans g4,g5.trans k5,fun j hj=>?_,k7⟩;rw[k6 j hj,g6 j];intro e;apply hj;have:∀(is:List Nat),y∈is->j∈dstsOf ops is:=by
     intro is
     induction is with
     | nil=>intro h;cases h
     | cons x is t =>
      intro h;simp only[dstsOf];rcases xC.1 h with rfl | h
      ·rw[e];simp
      ·split
       ·exact aa8 _ (t h)
       ·exact t h
    exact this _ (List.mem_range.2 c)
   ·intro v ch ar ay F'' L'' kc k1 k2 k3 k4 k5 k6;refine hP v ch ar ay F'' L'' kc k1 (g5.trans k2) k3 (k4.trans g4) (fun j hj=>?_) k6;rw[k5 j hj,g6 j];intro e;apply hj;have:∀(is:List Nat),y∈is->j∈dstsOf ops is:=by
     intro is
     induction is with
     | nil=>intro h;cases h
     | cons x is t =>
      intro h;simp only[dstsOf];rcases xC.1 h with rfl | h
      ·rw[e];simp
      ·split
       ·exact aa8 _ (t h)
       ·exact t h
    exact this _ (List.mem_range.2 c)
theorem qJ {A:cK}{r:Nat}{is:List Nat}{cl:List (List Nat)}{ss:List aA}{F:aD}{L:Loc}{ρ:Env}{a:Act}{w:World}(hl:fp P A ops is=some ss) (y:Bt P ops is cl ss=true)
  (hs:St F L w) (he:aH L ρ a) (hn:a.tmps.size=A.n) (u:∀s∈ss,∀k,uc s=some k->L.get k=none) (hK:bq P PX (Bs ss) ss F L ρ K) (hQ:∀c w',eS A.n F L w a (dstsOf ops (List.range ops.size)) K c w'->Q .normal c w')
  (hP:∀v e c w' F' L',Em v e->St F' L' w'->Step F L w F' L' w'->c.tmps.size=A.n->c.defers=a.defers->(∀j,j∉dstsOf ops (List.range ops.size)->c.tmps.getD j undef=a.tmps.getD j undef)->PX F' L' v->Q (.panic e) c w') :
  (Code.region r ops true).wp P Q a w:=by
 simp only[Bt,xo] at y;obtain⟨⟨⟨⟨⟨⟨⟨⟨h1,h2⟩,p⟩,x⟩,h5⟩,z⟩,h6⟩,h8⟩,h9⟩:=y;have p:=cU p;have x:=vv x;have d:∀i∈is,i<ops.size:=fun i hi=>by
  have h:Nat.blt i ops.size=true:=aaZ.1 h5 i hi;simpa using h
 refine wp_region_any h1 ?_;show wpAny P .any ops Q ops.size (Array.replicate ops.size false) a w.drew;refine EH h2 ops.size is ss _ F L ρ a w.drew hl (by simp) p (fun i=>?_) (by omega) h6 ?_ (aaZ.1 h8) (cU h9) u hs.drew he hn hK ?_ ?_
 ·constructor
  ·intro hi;refine⟨d i hi,?_⟩;simp[abf,d i hi]
  ·rintro⟨hi,_⟩;exact cS.1 (aaZ.1 z i (List.mem_range.2 hi))
 ·intro i hi m;simp[abf,hi] at m
 ·rintro c w' ⟨F',L',ρ',l,g2,t,q,b,o,f⟩;refine hQ c w' ⟨F',L',ρ',l,g2,t,q,?_,o,f⟩;exact⟨b.le,b.os,b.tape,b.output,b.size,b.same,b.frz,b.own⟩
 ·intro v e c w' F' L' gc l b t q o f;exact hP v e c w' F' L' gc l ⟨b.le,b.os,b.tape,b.output,b.size,b.same,b.frz,b.own⟩ t q o f
end
def cP:Code->List Nat
 | .region _ d _=>dstsOf d (List.range d.size)
 | .seq a b=>cP a++cP b
 | .cond _ a b=>cP a++cP b
 | .block _ c | .loop c | .scope c=>cP c
 | _=>[]
def zx:List Nat->aJ->aJ
 | [],x=>x
 | k::l,x=>.seq (.reg (.frz k::l.map .frz)) x
def FP:List aA->Bool
 | []=>true
 | .op _ _ _::l=>FP l
 | _::_=>false
def low (P:Program) (A:cK):Code->Option aJ
 | .skip=>some .skip
 | .label _=>some .skip
 | .region r d false=>match qF P A r d (List.range d.size) with | some ss=>some (.reg ss) | none=>none
 | .region r d true=>match Jq A.ord r,fp P A d (tY A.ord r) with
  | some (is,e),some ss=>match FP ss with
   | true=>match ED P d is e ss with
    | true=>some (zx (Jp A.frz r 0) (.regD ss))
    | false=>none
   | false=>match Bt P d is e ss with
    | true=>some (.regX ss)
    | false=>none
  | _,_=>none
 | .seq a b=>match low P A a,low P A b with | some x,some y=>some (.seq x y) | _,_=>none
 | .cond c a b=>match br c,low P A a,low P A b with | some c,some x,some y=>some (.cond c x y) | _,_,_=>none
 | .scope c=>low P A c
 | .block id c=>match low P A c with | some x=>some (.block id x) | none=>none
 | .loop c=>match low P A c with | some x=>some (.loop (cP c) x) | none=>none
 | .exit id=>some (.exit id)
 | .ret=>some .ret
 | _=>none
section
variable {P:Program}{Q:Exit->Act->World->Prop}
def sF (n:Nat) (F:aD) (L:Loc) (w:World) (a:Act) (asg:List Nat) (PX:aD->Loc->Value->Prop) (v:Value) (b:Act) (w':World):Prop :=
 ∃F' L',St F' L' w'/\Step F L w F' L' w'/\b.tmps.size=n/\b.defers=a.defers/\(∀j,j∉asg->b.tmps.getD j undef=a.tmps.getD j undef)/\PX F' L' v
theorem sF.after {n:Nat}{F F1:aD}{L L1:Loc}{w l:World}{a f:Act}{asg asg1 b:List Nat}{PX PX':aD->Loc->Value->Prop}{v:Value}{k:Act}{w':World}(e:Step F L w F1 L1 l) (d:f.defers=a.defers) (c:∀j,j∉asg1->f.tmps.getD j undef=a.tmps.getD j undef)
  (h:sF n F1 L1 l f b PX v k w') (x:∀j,j∈asg1->j∈asg) (p:∀j,j∈b->j∈asg) (t:∀F L,PX F L v->PX' F L v):sF n F L w a asg PX' v k w':=by
 obtain⟨F',L',o,u,y,s,q,r⟩:=h;exact⟨F',L',o,e.trans u,y,s.trans d,fun j m=>by rw[q j (fun h=>m (p j h)),c j (fun h=>m (x j h))],t _ _ r⟩
theorem sF.mono {n:Nat}{F:aD}{L:Loc}{w:World}{a:Act}{asg b:List Nat}{PX:aD->Loc->Value->Prop}{v:Value}{d:Act}{w':World}(h:sF n F L w a asg PX v d w') (c:∀j,j∈asg->j∈b):sF n F L w a b PX v d w':=by
 obtain⟨F',L',e,m,o,l,f,k⟩:=h;exact⟨F',L',e,m,o,l,fun j p=>f j (fun h=>p (c j h)),k⟩
def QQ (n:Nat) (F:aD) (L:Loc) (w:World) (a:Act) (asg:List Nat) (PX:aD->Loc->Value->Prop) (E:Nat->cQ) (R N:cQ):Exit->Act->World->Prop
 | .normal,b,w'=>eS n F L w a asg N b w'
 | .exit j,b,w'=>eS n F L w a asg (E j) b w'
 | .ret,b,w'=>eS n F L w a asg R b w'
 | .panic c,b,w'=>∃v,Em v c/\sF n F L w a asg PX v b w'
 | _,_,_=>False
theorem eS.mono {n:Nat}{F:aD}{L:Loc}{w:World}{a:Act}{asg b:List Nat}{K:cQ}{e:Act}{w':World}(h:eS n F L w a asg K e w') (c:∀j,j∈asg->j∈b):eS n F L w a b K e w':=by
 obtain⟨F',L',ρ',p,m,o,l,r,k,f⟩:=h;exact⟨F',L',ρ',p,m,o,l,r,fun j q=>k j (fun d=>q (c j d)),f⟩
theorem eS.after {n:Nat}{F F1:aD}{L L1:Loc}{w l:World}{a f:Act}{asg asg1 b:List Nat}{K:cQ}{k:Act}{w':World}(e:Step F L w F1 L1 l) (d:f.defers=a.defers) (c:∀j,j∉asg1->f.tmps.getD j undef=a.tmps.getD j undef)
  (h:eS n F1 L1 l f b K k w') (v:∀j,j∈asg1->j∈asg) (q:∀j,j∈b->j∈asg):eS n F L w a asg K k w':=by
 obtain⟨F',L',ρ',p,u,x,t,r,s,o⟩:=h;exact⟨F',L',ρ',p,u,x,t.trans d,e.trans r,fun j m=>by rw[s j (fun h=>m (q j h)),c j (fun h=>m (v j h))],o⟩
def qm (P:Program):List ResultVar->Option (List RV)
 | []=>some []
 | .tmp t::l=>match qm P l with | some r=>some ((t,none)::r) | none=>none
 | .cell a t::l=>match P.underlying t,P.info? t,qm P l with
  | some d,some i,some r=>some ((a,some (match dH d with | true=>(true,i.size) | false=>(false,1)))::r)
  | _,_,_=>none
def xW (tmps:Array Value):ResultVar->Sem Value
 | .tmp t=>pure (tmps.getD t undef)
 | .cell a t=>do loadVar t (<-asAddr (tmps.getD a undef))
theorem qK {F:aD}{L:Loc}{ρ:Env}{a:Act}{w:World}(hs:St F L w) (x:aH L ρ a):∀{l:List ResultVar}{rs:List RV}{K:List Value->Prop},qm P l=some rs->lU L ρ rs K ->
  ∃vs,(l.mapM (xW a.tmps)).run P w=.ok vs w/\K vs
 | [],rs,K,h,b=>by simp only[qm,vz] at h;subst h;exact⟨[],by simp,b⟩
 | .tmp t::l,rs,K,h,b=>by
  simp only[qm] at h;split at h
  case h_2=>cases h
  rename_i r hr;injection h with h;subst h
  simp only[lU] at b;obtain⟨vs,q,o⟩:=qK hs x hr b;refine⟨_,?_,o⟩;simp only[List.mapM_cons,xW,Sem.run_bind,Sem.run_pure,Result.andThen_ok];rw[q];simp[x.eq t]
 | .cell t ty::l,rs,K,h,b=>by
  simp only[qm] at h;split at h
  case h_2=>cases h
  rename_i d i r hd hi hr;injection h with h;subst h
  generalize c:(match dH d with | true=>(true,i.size) | false=>(false,1):Bool×Nat)=p at b;obtain⟨ag,n⟩:=p;have s:ag=dH d:=by cases e:dH d<;>rw[e] at c<;>injection c with q o<;>exact q.symm
  have hn:n=match dH d with | true=>i.size | false=>1:=by cases e:dH d<;>rw[e] at c<;>injection c with q o<;>exact o.symm
  simp only[lU] at b;split at b
  case h_2=>exact b.elim
  rename_i k off z;split at b
  case h_2=>exact b.elim
  rename_i g ty' cs hk;split at b
  case h_2=>exact b.elim
  rename_i y;have ac:=wG y;have y:=iS (Bh y);obtain⟨vs,q,o⟩:=qK hs x hr b;refine⟨_,?_,o⟩;have u:=hs.own k _ hk;have m:∀j v,((cs.drop off).take n)[j]?=some v->w.cell? ((⟨g,off,none⟩:Addr).add j)=some v:=by
   intro j v hv;rw[ck,nQ ac u];have hj:j<n:=by
    have:=w7.1 hv;obtain⟨h,_⟩:=this;omega
   rw[List.getElem?_take_of_lt hj,abj] at hv;exact hv
  have hy:a.tmps.getD t undef=.pointer (some ⟨g,off,none⟩):=by rw[x.eq t];simp only[z,conc,hk]
  have f:=pH hd hi m y hn;simp only[Instr.loadAt,Instr.sureAddr,Sem.run_bind,Sem.run_pure,Result.andThen_ok] at f;simp only[List.mapM_cons,xW,hy,asAddr,Sem.run_bind,Sem.run_pure,Result.andThen_ok,f];rw[q,s];simp
theorem s8 (fn:Func) (tmps:Array Value):results fn tmps=(do let vs <-fn.results.mapM (xW tmps);pure (if h:vs.size=1 then vs[0] else .tuple vs)):=by
 unfold results;have h:(fun(r:ResultVar)=>match r with | .tmp t=>(pure (tmps.getD t undef):Sem Value) | .cell a t=>do loadVar t (<-asAddr (tmps.getD a undef)))=xW tmps:=by
  funext r
  cases r<;>rfl
 rw[<-h];rfl
theorem qL:∀(svs:List SV) (k j:Nat),tT k svs j=if k<=j then(svs[j-k]?).getD (.v undef) else .v undef
 | [],k,j=>by simp[tT]
 | v::svs,k,j=>by
  simp only[tT,put_eq]
  by_cases h:j=k
  ·subst h;simp
  ·rw[o6 h,qL svs (k+1) j]
   by_cases a:k<=j
   ·rw[eu (by omega),eu a,show j-k=(j-(k+1))+1 by omega,abx]
   ·rw[o6 (by omega),o6 a]
def aC (P:Program) (A:cK) (fn:Func):Option (aJ×Nat×List RV×Bool) :=
 match fn.body with
 | some c=>match low P A c,qm P fn.results.toList with
  | some sc,some rs=>some (sc,fn.ntmps,rs,fn.name == "runtime.NumGoroutine")
  | _,_=>none
 | none=>none
theorem JG {Lin:List Own}:∀(vs:List Value),∀v∈vs.map SV.v,(∀k off,v=.own k off->∃g ty cs,(inp Lin).get k=some (.box g ty cs))/\(∀a j,v=.el a j->a≠none):=by
 intro vs v b;obtain⟨u,_,rfl⟩:=abh.1 b;exact⟨fun _ _ e=>(by cases e),fun _ _ e=>(by cases e)⟩
end
inductive G where
 | int (k:IntKind) (n:Int)
 | bool (b:Bool)
 | str (s:ByteArray)
 | sl (sz:Nat) (l:List G)
 | st (l:List G)
mutual
def Rd (F:aD):G->List Value->Prop
 | .int k n,cs=>cs=[.int k n]/\(Lit.int k n).wf=true
 | .bool b,cs=>cs=[.bool b]
 | .str s,cs=>cs=[.string s]
 | .sl sz l,cs=>∃a c,cs=[.slice a l.length c]/\l.length<=c/\c<=maxLen/\(a=none->l=[]/\c=0)/\uf F a sz 0 l
 | .st l,cs=>m5 F l cs
def uf (F:aD) (a:Option Addr) (sz:Nat):Nat->List G->Prop
 | _,[]=>True
 | i,x::l=>(∃es,es.length=sz/\bU F a (i*sz) es/\Rd F x es)/\uf F a sz (i+1) l
def m5 (F:aD):List G->List Value->Prop
 | [],cs=>cs=[]
 | x::l,cs=>∃c1 c2,cs=c1++c2/\Rd F x c1/\m5 F l c2
end
mutual
theorem Rd.mono {F F':aD}(hle:F.le F'):∀{g:G}{cs:List Value},Rd F g cs->Rd F' g cs
 | .int k n,cs,h=>h
 | .bool b,cs,h=>h
 | .str s,cs,h=>h
 | .sl sz l,cs,h=>by
  simp only[Rd] at h ⊢;obtain⟨a,c,h1,h2,h3,h4,h5⟩:=h;exact⟨a,c,h1,h2,h3,h4,uf.mono hle h5⟩
 | .st l,cs,h=>by
  simp only[Rd] at h ⊢;exact m5.mono hle h
theorem uf.mono {F F':aD}(hle:F.le F') {a:Option Addr}{sz:Nat}:∀{i:Nat}{l:List G},uf F a sz i l->uf F' a sz i l
 | _,[],h=>by simp only[uf]
 | i,x::l,h=>by
  simp only[uf] at h ⊢;obtain⟨⟨es,h1,h2,h3⟩,h4⟩:=h;exact⟨⟨es,h1,h2.mono hle,Rd.mono hle h3⟩,uf.mono hle h4⟩
theorem m5.mono {F F':aD}(hle:F.le F'):∀{l:List G}{cs:List Value},m5 F l cs->m5 F' l cs
 | [],cs,h=>by simp only[m5] at h ⊢;exact h
 | x::l,cs,h=>by
  simp only[m5] at h ⊢;obtain⟨c1,c2,h1,h2,h3⟩:=h;exact⟨c1,c2,h1,Rd.mono hle h2,m5.mono hle h3⟩
end
theorem xX {F:aD}{a:Option Addr}{sz:Nat}:∀{l:List G}{i:Nat},uf F a sz i l↔∀j x,l[j]?=some x->∃es,es.length=sz/\bU F a ((i+j)*sz) es/\Rd F x es
 | [],i=>by simp[uf]
 | x::l,i=>by
  simp only[uf,xX (l:=l)];constructor
  ·rintro⟨c,d⟩ j y b;cases j with
   | zero=>simp only[aa0,vz] at b;subst b;simpa using c
   | succ j =>
    simp only[abx] at b;have:=d j y b
    rwa [show i+1+j=i+(j+1) by omega] at this
  ·intro h;refine⟨by simpa using h 0 x (by simp),fun j y b=>?_⟩;have:=h (j+1) y (by simpa using b)
   rwa [show i+(j+1)=i+1+j by omega] at this
structure Sl (F:aD) (sz:Nat) (l:List G) (a:Option Addr) (c:Nat):Prop where
 cap:l.length<=c
 max:c<=maxLen
 nil:a=none->l=[]/\c=0
 elems:∀j x,l[j]?=some x->∃es,es.length=sz/\bU F a (j*sz) es/\Rd F x es
theorem Sl.mono {F F':aD}{sz:Nat}{l:List G}{a:Option Addr}{c:Nat}(h:Sl F sz l a c) (b:F.le F'):Sl F' sz l a c :=
 ⟨h.cap,h.max,h.nil,fun j x d=>let⟨es,h1,h2,h3⟩:=h.elems j x d;⟨es,h1,h2.mono b,h3.mono b⟩⟩
theorem PU {F:aD}{sz:Nat}{l:List G}{cs:List Value}:Rd F (.sl sz l) cs↔∃a c,cs=[.slice a l.length c]/\Sl F sz l a c:=by
 simp only[Rd];constructor
 ·rintro⟨a,c,d,b,h,f,k⟩;exact⟨a,c,d,b,h,f,fun j x e=>by have:=xX.1 k j x e;simpa using this⟩
 ·rintro⟨a,c,d,b⟩;exact⟨a,c,d,b.cap,b.max,b.nil,xX.2 fun j x e=>by have:=b.elems j x e;simpa using this⟩
theorem Sl.ne {F:aD}{sz:Nat}{l:List G}{a:Option Addr}{c:Nat}(h:Sl F sz l a c) (b:l≠[]):a≠none:=fun e=>b (h.nil e).1
theorem Sl.load {F F':aD}{L:Loc}{sz:Nat}{l:List G}{a:Option Addr}{c:Nat}{j:Nat}{x:G}{K:List Value->Prop}(h:Sl F sz l a c) (b:F.le F') (e:l[j]?=some x)
  (k:∀es,es.length=sz->Rd F' x es->K es):jM F' L a (j*sz) sz K:=by
 obtain⟨es,d,f,m⟩:=h.elems j x e;exact⟨es,d,.inl (f.mono b),k es d (m.mono b)⟩
theorem Sl.loadD {F F':aD}{sz:Nat}{l:List G}{a:Option Addr}{c:Nat}{j:Nat}{x:G}{K:List Value->Prop}(h:Sl F sz l a c) (b:F.le F') (e:l[j]?=some x)
  (k:∀es,es.length=sz->Rd F' x es->K es):iR F' a (j*sz) sz K:=by
 obtain⟨es,d,f,m⟩:=h.elems j x e;exact⟨es,d,.inl (f.mono b),k es d (m.mono b)⟩
theorem aB {b:Bool}{A B:Prop}(h:b=true->A) (k:b=false->B):xk b A B:=by cases b;exact k rfl;exact h rfl
theorem aM {p:Prop}[Decidable p] {A B:Prop}(h:p->A) (k:¬p->B):xk (decide p) A B:=by
 by_cases a:p
 ·simp only[a,decide_true];exact h a
 ·simp only[a,decide_false];exact k a
theorem Fit.aae {n:Int}{K:Int->Prop}(a:-9223372036854775808<=n) (b:n<=9223372036854775807) (h:K n):Fit .i64 n K:=by
 refine⟨?_⟩;have:IntKind.wrap .i64 n=n:=by
  simp only[IntKind.wrap,IntKind.bits,IntKind.signed,abG,abo,ge_iff_le,Nat.reduceSub,Int.reducePow];split<;>omega
 rw[this];exact h
def Rl (x:Value):aD->List Own->Value->Prop:=fun _ Lo v=>Lo=[]/\v=x
theorem Rl.mono {x:Value}:∀F G L v,aD.le F G->Rl x F L v->Rl x G L v:=fun _ _ _ _ _ h=>h
theorem wf_i64 {n:Int}(h:(Lit.int .i64 n).wf=true):-9223372036854775808<=n/\n<=9223372036854775807:=by
 simpa[Lit.wf,IntKind.min,IntKind.max,IntKind.bits,IntKind.signed] using h
end Go.Fr
namespace Go.Fr.T
open Go Go.RowKit Go.Fr
inductive C where
 | int (k:IntKind) (n:Int)
 | bool (b:Bool)
 | str (s:ByteArray)
 | sl (els:List (List C))
 | slx (els:List (List C))
 | nils
 | rw(k:Nat)
 | own (k off:Nat)
 | ifo (m:Option String) (t:TypeId) (k off:Nat)
 | ownv (k off:Nat)
 | pt (es:List C) (off:Nat)
 | elr (k j off:Nat)
 | slo (k:Nat) (offs:List Nat)
 | slp (k:Nat) (offs:List Nat) (j:Nat)
 | fn (f:Nat) (fi ca:List C)
 | agg (cs:List C)
 | tup (cs:List C)
 | nilp
 | nilf
 | ifc (t:TypeId) (c:C)
 | opq (k:Nat)
 | mval (nm:String) (c:C)
 | mof (t:TypeId) (nm:String)
 | mpr (k:Nat)
 | und
 | any
 deriving Inhabited
inductive TO where
 | box (t:TypeId) (cs:List C)
 | row (t:TypeId) (sz:Nat) (els:List (List C))
 | map (es:List (C×C))
 /-- a part of a box;what stands ahead of it and behind it names nothing of one's own -/
 | win (t:TypeId) (pre cs post:List C)
abbrev TL:=List (Nat×TO)
def TL.get:TL->Nat->Option TO
 | [],_=>none
 | (j,o)::l,k=>match Nat.beq j k with | true=>some o | false=>TL.get l k
def TL.set:TL->Nat->TO->TL
 | [],k,o=>[(k,o)]
 | (j,p)::l,k,o=>match Nat.beq j k with
  | true=>(k,o)::l
  | false=>match Nat.ble j k with
   | true=>(j,p)::TL.set l k o
   | false=>(k,o)::(j,p)::l
def TL.del:TL->Nat->TL
 | [],_=>[]
 | (j,o)::l,k=>match Nat.beq j k with | true=>TL.del l k | false=>(j,o)::TL.del l k
def TL.sub (L:TL):List Nat->Option (List TO)
 | []=>some []
 | k::ks=>match L.get k,TL.sub L ks with
  | some o,some l=>some (o::l)
  | _,_=>none
def TL.aaf (L:TL):List Nat->TL
 | []=>L
 | k::ks=>TL.aaf (L.del k) ks
def TL.puts (L:TL):List Nat->List TO->TL
 | k::ks,o::l=>TL.puts (L.set k o) ks l
 | _,_=>L
def jl:Nat->List TO->TL
 | _,[]=>[]
 | k,o::l=>(k,o)::jl (k+1) l
def jm (l:List TO):TL:=jl 1000 l
def C.one:C->Bool
 | .int _ _=>true
 | .bool _=>true
 | .str _=>true
 | .sl _=>true
 | .slx _=>true
 | .nils=>true
 | .rw _=>true
 | .own _ _=>true
 | .ifo _ _ _ _=>true
 | .pt _ _=>true
 | .fn _ _ _=>true
 | .nilp=>true
 | .nilf=>true
 | .ifc _ _=>true
 | .opq _=>true
 | .mval _ _=>true
 | .mof _ _=>true
 | .mpr _=>true
 | _=>false
def dJ:List C->Bool
 | []=>true
 | c::l=>match c.one with | true=>dJ l | false=>false
def C.aak:C->Bool
 | .int _ _=>true
 | .bool _=>true
 | .str _=>true
 | .sl _=>true
 | .slx _=>true
 | .nils=>true
 | .pt _ _=>true
 | .nilp=>true
 | .nilf=>true
 | .ifc _ _=>true
 | .opq _=>true
 | .mval _ _=>true
 | .mof _ _=>true
 | _=>false
def jv:List C->Bool
 | []=>true
 | c::l=>match c.aak with | true=>jv l | false=>false
def C.pure:C->Bool
 | .fn _ fi ca=>match jv fi with | true=>jv ca | false=>false
 | c=>c.aak
def dP:List C->Bool
 | []=>true
 | c::l=>match c.pure with | true=>dP l | false=>false
def C.mp (g:C->C):Nat->C->C
 | _,.int k n=>g (.int k n)
 | _,.bool b=>g (.bool b)
 | _,.str s=>g (.str s)
 | _,.sl els=>g (.sl els)
 | _,.slx els=>g (.slx els)
 | _,.nils=>g .nils
 | _,.rw j=>g (.rw j)
 | _,.own j o=>g (.own j o)
 | _,.ifo m t j o=>g (.ifo m t j o)
 | _,.ownv j o=>g (.ownv j o)
 | _,.pt es o=>g (.pt es o)
 | _,.elr j a b=>g (.elr j a b)
 | _,.slo j a=>g (.slo j a)
 | _,.slp j a b=>g (.slp j a b)
 | _,.nilp=>g .nilp
 | _,.nilf=>g .nilf
 | _,.ifc t c=>g (.ifc t c)
 | _,.opq k=>g (.opq k)
 | _,.mval nm c=>g (.mval nm c)
 | _,.mof t nm=>g (.mof t nm)
 | _,.mpr j=>g (.mpr j)
 | _,.und=>g .und
 | _,.any=>g .any
 | 0,.fn _ _ _=>.any
 | 0,.agg _=>.any
 | 0,.tup _=>.any
 | n+1,.fn f fi ca=>.fn f (fi.map (C.mp g n)) (ca.map (C.mp g n))
 | n+1,.agg cs=>.agg (cs.map (C.mp g n))
 | n+1,.tup cs=>.tup (cs.map (C.mp g n))
def gQ (k:Nat):C->C
 | .int k n=>.int k n
 | .bool b=>.bool b
 | .str s=>.str s
 | .sl els=>.sl els
 | .slx els=>.slx els
 | .nils=>.nils
 | .rw j=>match Nat.beq j k with | true=>.any | false=>.rw j
 | .own j o=>.own j o
 | .ifo m t j o=>.ifo m t j o
 | .ownv j o=>.ownv j o
 | .pt es o=>.pt es o
 | .elr j a b=>match Nat.beq j k with | true=>.any | false=>.elr j a b
 | .slo j a=>.slo j a
 | .slp j a b=>.any
 | .fn f fi ca=>.fn f fi ca
 | .agg cs=>.agg cs
 | .tup cs=>.tup cs
 | .nilp=>.nilp
 | .nilf=>.nilf
 | .ifc t c=>.ifc t c
 | .opq k=>.opq k
 | .mval nm c=>.mval nm c
 | .mof t nm=>.mof t nm
 | .mpr j=>.mpr j
 | .und=>.und
 | .any=>.any
def C.kill (k:Nat) (c:C):C:=C.mp (gQ k) 3 c
def C.kills:List Nat->C->C
 | [],c=>c
 | k::ks,c=>C.kills ks (c.kill k)
def qM:C->C
 | .int k n=>.int k n
 | .bool b=>.bool b
 | .str s=>.str s
 | .sl els=>.sl els
 | .slx els=>.slx els
 | .nils=>.nils
 | .rw j=>.any
 | .own j o=>.own j o
 | .ifo m t j o=>.ifo m t j o
 | .ownv j o=>.ownv j o
 | .pt es o=>.pt es o
 | .elr j a b=>.any
 | .slo j a=>.slo j a
 | .slp j a b=>.any
 | .fn f fi ca=>.fn f fi ca
 | .agg cs=>.agg cs
 | .tup cs=>.tup cs
 | .nilp=>.nilp
 | .nilf=>.nilf
 | .ifc t c=>.ifc t c
 | .opq k=>.opq k
 | .mval nm c=>.mval nm c
 | .mof t nm=>.mof t nm
 | .mpr j=>.mpr j
 | .und=>.und
 | .any=>.any
def C.aaO (c:C):C:=C.mp qM 3 c
def nS (k:Nat) (l:List (List C)):C->C
 | .int k n=>.int k n
 | .bool b=>.bool b
 | .str s=>.str s
 | .sl els=>.sl els
 | .slx els=>.slx els
 | .nils=>.nils
 | .rw j=>match Nat.beq j k with | true=>.sl l | false=>.rw j
 | .own j o=>.own j o
 | .ifo m t j o=>.ifo m t j o
 | .ownv j o=>.ownv j o
 | .pt es o=>.pt es o
 | .elr j a b=>match Nat.beq j k with | true=>.any | false=>.elr j a b
 | .slo j a=>.slo j a
 | .slp j a b=>.any
 | .fn f fi ca=>.fn f fi ca
 | .agg cs=>.agg cs
 | .tup cs=>.tup cs
 | .nilp=>.nilp
 | .nilf=>.nilf
 | .ifc t c=>.ifc t c
 | .opq k=>.opq k
 | .mval nm c=>.mval nm c
 | .mof t nm=>.mof t nm
 | .mpr j=>.mpr j
 | .und=>.und
 | .any=>.any
def C.frz (k:Nat) (els:List (List C)) (c:C):C:=C.mp (nS k els) 3 c
def rM (k:Nat) (es:List C):C->C
 | .int k n=>.int k n
 | .bool b=>.bool b
 | .str s=>.str s
 | .sl els=>.sl els
 | .slx els=>.slx els
 | .nils=>.nils
 | .rw j=>.rw j
 | .own j o=>match Nat.beq j k with | true=>.pt es o | false=>.own j o
 | .ifo m t j o=>match Nat.beq j k with | true=>(match m with | none=>.ifc t (.pt es o) | some nm=>.mval nm (.ifc t (.pt es o))) | false=>.ifo m t j o
 | .ownv j o=>match Nat.beq j k with | true=>.pt es o | false=>.ownv j o
 | .pt es o=>.pt es o
 | .elr j a b=>.elr j a b
 | .slo j a=>match Nat.beq j k with | true=>.any | false=>.slo j a
 | .slp j a b=>.any
 | .fn f fi ca=>.fn f fi ca
 | .agg cs=>.agg cs
 | .tup cs=>.tup cs
 | .nilp=>.nilp
 | .nilf=>.nilf
 | .ifc t c=>.ifc t c
 | .opq k=>.opq k
 | .mval nm c=>.mval nm c
 | .mof t nm=>.mof t nm
 | .mpr j=>match Nat.beq j k with | true=>.any | false=>.mpr j
 | .und=>.und
 | .any=>.any
def C.frb (k:Nat) (es:List C) (c:C):C:=C.mp (rM k es) 3 c
def ug (r:Nat->Option Nat):C->C
 | .int k n=>.int k n
 | .bool b=>.bool b
 | .str s=>.str s
 | .sl els=>.sl els
 | .slx els=>.slx els
 | .nils=>.nils
 | .rw j=>match r j with | some i=>.rw i | none=>.any
 | .own j o=>match r j with | some i=>.own i o | none=>.any
 | .ifo m t j o=>match r j with | some i=>.ifo m t i o | none=>.any
 | .ownv j o=>match r j with | some i=>.own i o | none=>.any
 | .pt es o=>.pt es o
 | .elr j a b=>match r j with | some i=>.elr i a b | none=>.any
 | .slo j a=>match r j with | some i=>.slo i a | none=>.any
 | .slp j a b=>.any
 | .fn f fi ca=>.fn f fi ca
 | .agg cs=>.agg cs
 | .tup cs=>.tup cs
 | .nilp=>.nilp
 | .nilf=>.nilf
 | .ifc t c=>.ifc t c
 | .opq k=>.opq k
 | .mval nm c=>.mval nm c
 | .mof t nm=>.mof t nm
 | .mpr j=>match r j with | some i=>.mpr i | none=>.any
 | .und=>.und
 | .any=>.any
def C.ren (f:Nat->Option Nat) (c:C):C:=C.mp (ug f) 3 c
def TO.aag (g:C->C):TO->TO
 | .box t cs=>.box t (cs.map g)
 | .row t sz els=>.row t sz els
 | .map es=>.map es
 | .win t pre cs post=>.win t pre (cs.map g) post
def TL.aag (g:C->C):TL->TL
 | []=>[]
 | (k,o)::l=>(k,o.aag g)::TL.aag g l
def bZ:List Nat->Nat->Nat->Option Nat
 | [],_,_=>none
 | k::ks,i,j=>match Nat.beq j k with | true=>some i | false=>bZ ks (i+1) j
def aZ (ko:List Nat) (j:Nat):Option Nat:=match Nat.ble 1000 j with | true=>ko[j-1000]? | false=>none
def C.can:C->C
 | .int k n=>.int k n
 | .bool b=>.bool b
 | .str s=>.str s
 | .sl els=>.sl els
 | .slx els=>.sl els
 | .nils=>.sl []
 | .rw j=>.rw j
 | .own j o=>.own j o
 | .ifo m t j o=>.ifo m t j o
 | .ownv j o=>.ownv j o
 | .pt es o=>.pt es o
 | .elr j a b=>.elr j a b
 | .slo j a=>.slo j a
 | .slp j a b=>.slp j a b
 | .fn f fi ca=>.fn f fi ca
 | .agg cs=>.agg cs
 | .tup cs=>.tup cs
 | .nilp=>.nilp
 | .nilf=>.nilf
 | .ifc t c=>.ifc t c
 | .opq k=>.opq k
 | .mval nm c=>.mval nm c
 | .mof t nm=>.mof t nm
 | .mpr j=>.mpr j
 | .und=>.und
 | .any=>.any
def C.aaj:C->C
 | .int k n=>.int k n
 | .bool b=>.bool b
 | .str s=>.str s
 | .sl els=>.sl els
 | .slx els=>.sl els
 | .nils=>.sl []
 | .rw j=>.rw j
 | .own j o=>.own j o
 | .ifo m t j o=>.ifo m t j o
 | .ownv j o=>.ownv j o
 | .pt es o=>.pt es o
 | .elr j a b=>.elr j a b
 | .slo j a=>.slo j a
 | .slp j a b=>.slp j a b
 | .fn f fi ca=>.fn f fi ca
 | .agg cs=>.agg (cs.map C.can)
 | .tup cs=>.tup cs
 | .nilp=>.nilp
 | .nilf=>.nilf
 | .ifc t c=>.ifc t c
 | .opq k=>.opq k
 | .mval nm c=>.mval nm c
 | .mof t nm=>.mof t nm
 | .mpr j=>.mpr j
 | .und=>.und
 | .any=>.any
def C.aar:C->C
 | .int k n=>.int k n
 | .bool b=>.bool b
 | .str s=>.str s
 | .sl els=>.sl els
 | .slx els=>.sl els
 | .nils=>.sl []
 | .rw j=>.rw j
 | .own j o=>.own j o
 | .ifo m t j o=>.ifo m t j o
 | .ownv j o=>.ownv j o
 | .pt es o=>.pt es o
 | .elr j a b=>.elr j a b
 | .slo j a=>.slo j a
 | .slp j a b=>.slp j a b
 | .fn f fi ca=>.fn f fi ca
 | .agg cs=>.agg (cs.map C.can)
 | .tup cs=>.tup (cs.map C.aaj)
 | .nilp=>.nilp
 | .nilf=>.nilf
 | .ifc t c=>.ifc t c
 | .opq k=>.opq k
 | .mval nm c=>.mval nm c
 | .mof t nm=>.mof t nm
 | .mpr j=>.mpr j
 | .und=>.und
 | .any=>.any
abbrev aV:=Nat->C
def bD (d:Option Nat) (c:C) (ρ:aV):aV :=
 match d with
 | some d=>fun j=>match Nat.beq j d with | true=>c | false=>ρ j
 | none=>ρ
def sG:Value->C
 | .int k n=>match(Lit.int k n).wf with | true=>.int k n | false=>.any
 | .bool b=>.bool b
 | .string s=>match Nat.ble s.size maxLen with | true=>.str s | false=>.any
 | .slice none 0 0=>.nils
 | .pointer none=>.nilp
 | .nilFunc=>.nilf
 | .nilIface=>.opq 0
 | .func (.methodOf t nm) ⟨[]⟩ ⟨[]⟩=>.mof t nm
 | _=>.any
def YO (nm:String) (c:C):C :=
 match c with
 | .ifc t c=>.mval nm (.ifc t c)
 | .ifo none t k off=>.ifo (some nm) t k off
 | _=>.any
def cv:Value->C
 | .agg cs=>.agg (cs.toList.map sG)
 | v=>sG v
def cm (ρ:aV):X->C
 | .t n=>ρ n
 | .c v=>cv v
 | .fn f=>.fn f [] []
 | .mt nm n=>YO nm (ρ n)
def C.cel:C->C
 | .int k n=>.int k n
 | .bool b=>.bool b
 | .str s=>.str s
 | .sl els=>.sl els
 | .slx els=>.slx els
 | .nils=>.nils
 | .rw j=>.rw j
 | .own j o=>.own j o
 | .ifo m t j o=>.ifo m t j o
 | .ownv j o=>.own j o
 | .pt es o=>.pt es o
 | .elr j a b=>.elr j a b
 | .slo j a=>.slo j a
 | .slp j a b=>.any
 | .fn f fi ca=>.fn f fi ca
 | .agg cs=>.agg cs
 | .tup cs=>.tup cs
 | .nilp=>.nilp
 | .nilf=>.nilf
 | .ifc t c=>.ifc t c
 | .opq k=>.opq k
 | .mval nm c=>.mval nm c
 | .mof t nm=>.mof t nm
 | .mpr j=>.mpr j
 | .und=>.und
 | .any=>.any
def C.slt:C->C
 | .int k n=>.int k n
 | .bool b=>.bool b
 | .str s=>.str s
 | .sl els=>.sl els
 | .slx els=>.slx els
 | .nils=>.nils
 | .rw j=>.rw j
 | .own j o=>.ownv j o
 | .ifo m t j o=>.ifo m t j o
 | .ownv j o=>.ownv j o
 | .pt es o=>.pt es o
 | .elr j a b=>.any
 | .slo j a=>.slo j a
 | .slp j a b=>.any
 | .fn f fi ca=>.fn f fi ca
 | .agg cs=>.agg cs
 | .tup cs=>.tup cs
 | .nilp=>.nilp
 | .nilf=>.nilf
 | .ifc t c=>.ifc t c
 | .opq k=>.opq k
 | .mval nm c=>.mval nm c
 | .mof t nm=>.mof t nm
 | .mpr j=>.mpr j
 | .und=>.und
 | .any=>.any
def C.aaC:C->C
 | .int k n=>.int k n
 | .bool b=>.bool b
 | .str s=>.str s
 | .sl els=>.sl els
 | .slx els=>.slx els
 | .nils=>.nils
 | .rw j=>.rw j
 | .own j o=>.own j o
 | .ifo m t j o=>.ifo m t j o
 | .ownv j o=>.own j o
 | .pt es o=>.pt es o
 | .elr j a b=>.elr j a b
 | .slo j a=>.slo j a
 | .slp j a b=>.slp j a b
 | .fn f fi ca=>.fn f fi ca
 | .agg cs=>.agg cs
 | .tup cs=>.tup cs
 | .nilp=>.nilp
 | .nilf=>.nilf
 | .ifc t c=>.ifc t c
 | .opq k=>.opq k
 | .mval nm c=>.mval nm c
 | .mof t nm=>.mof t nm
 | .mpr j=>.mpr j
 | .und=>.und
 | .any=>.any
def C.okc:C->Bool
 | .any=>false
 | .und=>false
 | .elr _ _ _=>false
 | .slo _ _=>false
 | .slp _ _ _=>false
 | .tup _=>false
 | _=>true
def cg:C->List C
 | .int k n=>[.int k n]
 | .bool b=>[.bool b]
 | .str s=>[.str s]
 | .sl els=>[.sl els]
 | .slx els=>[.slx els]
 | .nils=>[.nils]
 | .rw j=>[.rw j]
 | .own j o=>[.own j o]
 | .ifo m t j o=>[.ifo m t j o]
 | .ownv j o=>[.own j o]
 | .pt es o=>[.pt es o]
 | .elr j a b=>[.any]
 | .slo j a=>[.any]
 | .slp j a b=>[.any]
 | .fn f fi ca=>[.fn f fi ca]
 | .agg cs=>cs
 | .tup cs=>[.tup cs]
 | .nilp=>[.nilp]
 | .nilf=>[.nilf]
 | .ifc t c=>[.ifc t c]
 | .opq k=>[.opq k]
 | .mval nm c=>[.mval nm c]
 | .mof t nm=>[.mof t nm]
 | .mpr j=>[.mpr j]
 | .und=>[.und]
 | .any=>[.any]
def cR:List C->Nat->Bool
 | [],0=>true
 | _::l,n+1=>cR l n
 | _,_=>false
def Bu (agg:Bool) (cs:List C):C :=
 match agg,cs with
 | true,cs=>.agg cs
 | false,[c]=>c.slt
 | false,_=>.any
def dZ (ρ:aV):List X->List C
 | []=>[]
 | x::xs=>(cm ρ x).cel::dZ ρ xs
def vk (ρ:aV):List X->List (List C)
 | []=>[]
 | x::xs=>(cg (cm ρ x)).map C.can::vk ρ xs
def qN (ρ:aV) (sz:Nat):List X->Bool
 | []=>true
 | x::xs=>match(cm ρ x).okc,cR (cg (cm ρ x)) sz,dJ (cg (cm ρ x)),dP (cg (cm ρ x)) with
  | true,true,true,true=>qN ρ sz xs
  | _,_,_,_=>false
def fu (cs:List C) (off:Nat) (vs:List C):List C:=cs.take off++vs++cs.drop (off+vs.length)
def vn (ρ:aV):List C->List (Nat×Nat×X)->Option (List C)
 | zs,[]=>some zs
 | zs,(off,n,x)::ps=>match(cm ρ x).okc,cR (cg (cm ρ x)) n with
  | true,true=>vn ρ (fu zs off (cg (cm ρ x))) ps
  | _,_=>none
def HI (ρ:aV) (d:Int):Option X->Option Int
 | none=>some d
 | some x=>match cm ρ x with | .int _ i=>some i | _=>none
def Ve (mx:Bool):Int->List C->Option Int
 | a,[]=>some a
 | a,.int _ b::l=>Ve mx (match mx with | true=>if b>a then b else a | false=>if b<a then b else a) l
 | _,_=>none
abbrev gR (b:UInt8):C:=.int .u8 b.toNat
def af (bs:List UInt8):List (List C):=bs.map fun b=>[gR b]
def fc (c:C) (K:C->Prop):Prop :=
 match c with
 | .int k n=>K (.int k n)
 | .bool b=>K (.bool b)
 | .str s=>K (.str s)
 | .sl els=>K (.sl els)
 | .slx els=>K (.slx els)
 | .nils=>K .nils
 | .rw k=>K (.rw k)
 | .own k off=>K (.own k off)
 | .ifo m t k off=>K (.ifo m t k off)
 | .ownv k off=>K (.ownv k off)
 | .pt es off=>K (.pt es off)
 | .elr k j off=>K (.elr k j off)
 | .slo k a=>K (.slo k a)
 | .slp k a j=>K (.slp k a j)
 | .fn f fi ca=>K (.fn f fi ca)
 | .agg cs=>K (.agg cs)
 | .tup cs=>K (.tup cs)
 | .nilp=>K .nilp
 | .nilf=>K .nilf
 | .ifc t c=>K (.ifc t c)
 | .opq k=>K (.opq k)
 | .mval nm c=>K (.mval nm c)
 | .mof t nm=>K (.mof t nm)
 | .mpr j=>K (.mpr j)
 | .und=>K .und
 | .any=>K .any
def fl:List C->(List C->Prop)->Prop
 | [],K=>K []
 | c::cs,K=>fc c fun c=>fl cs fun cs=>K (c::cs)
def fO:TO->(TO->Prop)->Prop
 | .box t cs,K=>fl cs fun cs=>K (.box t cs)
 | .row t sz els,K=>K (.row t sz els)
 | .map es,K=>K (.map es)
 | .win t pre cs post,K=>fl cs fun cs=>K (.win t pre cs post)
def fT:TL->(TL->Prop)->Prop
 | [],K=>K []
 | (k,o)::l,K=>fO o fun o=>fT l fun l=>K ((k,o)::l)
def wo (c:C) (K:C->Prop):Prop :=
 match c with
 | .agg cs=>fl cs fun cs=>K (.agg cs)
 | c=>fc c K
theorem FQ {c:C}{K:C->Prop}:fc c K=K c:=by cases c<;>rfl
theorem eL:∀{cs:List C}{K:List C->Prop},fl cs K=K cs
 | [],K=>rfl
 | c::cs,K=>by simp only[fl,FQ,eL]
theorem Tm {o:TO}{K:TO->Prop}:fO o K=K o:=by cases o<;>simp only[fO,eL]
theorem fe:∀{L:TL}{K:TL->Prop},fT L K=K L
 | [],K=>rfl
 | (k,o)::l,K=>by simp only[fT,Tm,fe]
theorem dR {c:C}{K:C->Prop}:wo c K=K c:=by cases c<;>simp only[wo,eL,FQ]
mutual
/-- the bounds that all data of the machine keeps -/
def Wf:C->Prop
 | .int k n=>(Lit.int k n).wf=true
 | .str s=>s.size<=maxLen
 | .sl els=>els.length<=maxLen/\uh els
 | .slx els=>els.length<=maxLen/\uh els
 | .pt es _=>tL es
 | .fn _ fi ca=>tL fi/\tL ca
 | .agg cs=>tL cs
 | .tup cs=>tL cs
 | .slo _ offs=>offs.length<=maxLen
 | _=>True
def tL:List C->Prop
 | []=>True
 | c::l=>Wf c/\tL l
def uh:List (List C)->Prop
 | []=>True
 | es::l=>tL es/\uh l
end
def Vt:List (C×C)->Prop
 | []=>True
 | (k,v)::l=>Wf k/\Wf v/\Vt l
def TO.Wf:TO->Prop
 | .box _ cs=>tL cs
 | .row _ _ els=>uh els
 | .map es=>Vt es
 | .win _ _ cs _=>tL cs
structure Bv (els:List (List C)) (i:Int) (sz:Nat) (K:List C->Prop):Prop where
 out:∃es,0<=i/\els[i.toNat]?=some es/\cR es sz=true/\K es
structure HJ (els:List (List C)) (j off n:Nat) (K:List C->Prop):Prop where
 out:∃es,els[j]?=some es/\cR ((es.drop off).take n) n=true/\K ((es.drop off).take n)
structure m6 (els:List (List C)) (K:List UInt8->Prop):Prop where
 out:∃bs,els=af bs/\K bs
structure Bw (l h:Int) (els:List (List C)) (sz:Nat) (K:Nat->Nat->Prop):Prop where
 lo:0<=l
 le:l<=h
 hi:h<=els.length
 sizes:∀es∈els,es.length=sz
 out:K l.toNat h.toNat
structure rY (els news:List (List C)) (sz bytes:Nat) (K:Prop):Prop where
 sizes:∀es∈news,es.length=sz
 max:els.length+news.length<=maxLen
 room:(els.length+news.length)*bytes<=140737488355328
 out:K
def m7:Bool->C->C->Option Bool
 | false,.int .i64 a,.int .i64 b=>some (decide (a=b))
 | true,.str a,.str b=>some (decide (a.data.toList=b.data.toList))
 | _,_,_=>none
def JH:Bool->C->Bool
 | false,.int .i64 _=>true
 | true,.str _=>true
 | _,_=>false
def Ak (str:Bool) (key:C):List (C×C)->Option (Option C)
 | []=>some none
 | (k,v)::l=>match m7 str key k with
  | some true=>some (some v)
  | some false=>Ak str key l
  | none=>none
def JI (str:Bool) (key val:C):List (C×C)->Option (List (C×C))
 | []=>some [(key,val)]
 | (k,v)::l=>match m7 str key k with
  | some true=>some ((key,val)::l)
  | some false=>match JI str key val l with | some l'=>some ((k,v)::l') | none=>none
  | none=>none
structure Rm (str:Bool) (es:List (C×C)) (key:C) (Y:C->Prop) (N:Prop):Prop where
 out:(∃v,Ak str key es=some (some v)/\Y v)\/(Ak str key es=some none/\N)
structure Tn (str:Bool) (es:List (C×C)) (key val:C) (K:List (C×C)->Prop):Prop where
 out:∃es',JI str key val es=some es'/\K es'
structure JJ (i:Int) (K:Nat->Prop):Prop where
 out:∃m:Nat,i=m/\K m
def xY:List Nat->TL->aV->List C->(TL->aV->List C->Prop)->Prop
 | [],L,ρ,a,K=>K L ρ a
 | k::ks,L,ρ,a,K=>match L.get k with
  | some (.row _ _ els)=>xY ks ((L.del k).aag (C.frz k els)) (fun j=>(ρ j).frz k els) (a.map (C.frz k els)) K
  | _=>False
def mD (L:TL):C->Bool
 | .rw k=>match L.get k with | some (.row _ _ _)=>true | _=>false
 | .own k _=>match L.get k with | some (.box _ _)=>true | some (.win _ _ _ _)=>true | _=>false
 | .ifo _ _ k _=>match L.get k with | some (.box _ _)=>true | some (.win _ _ _ _)=>true | _=>false
 | .mpr k=>match L.get k with | some (.map _)=>true | _=>false
 | .ownv _ _=>false
 | .elr _ _ _=>false
 | .slo k _=>match L.get k with | some (.box _ _)=>true | some (.win _ _ _ _)=>true | _=>false
 | .slp _ _ _=>false
 | _=>true
def fN (L:TL):Nat->C->Bool
 | n+1,.agg cs=>cs.all (fN L n)
 | n+1,.tup cs=>cs.all (fN L n)
 | n+1,.fn _ fi ca=>fi.all (fN L n)&&ca.all (fN L n)
 | 0,.agg _=>false
 | 0,.tup _=>false
 | 0,.fn _ _ _=>false
 | _,c=>mD L c
def Ml (L L1:TL) (c a:C):Prop :=
 a=.any\/(c=a/\fN L1 3 a=true)\/(c=.nils/\a=.sl [])\/(c=.nils/\∃k t sz,a=.rw k/\L.get k=none/\L1.get k=some (.row t sz []))\/∃els,c=.slx els/\a=.sl els
def JK (L L1:TL):List C->List C->Prop
 | [],l=>l=[]
 | c::cs,l=>∃a cs',l=a::cs'/\Ml L L1 c a/\JK L L1 cs cs'
def JL (L1:TL):TO->Bool
 | .box _ cs=>cs.all (fN L1 3)
 | .row _ _ _=>true
 | .map _=>true
 | .win _ _ cs _=>cs.all (fN L1 3)
def Vu (L L1:TL) (o o':TO):Prop:=(o=o'/\JL L1 o'=true)\/∃t cs cs',o=.box t cs/\o'=.box t cs'/\JK L L1 cs cs'
def gives (L L1:TL):TL->Prop
 | []=>True
 | (k,o)::l=>((∃p,L.get k=some p/\Vu L L1 p o)\/(L.get k=none/\∃t sz,o=.row t sz []))/\gives L L1 l
def oh (L L1:TL):List Nat->List C->aV->Prop
 | k::ks,v::vs,ρ=>Ml L L1 (ρ k) v/\oh L L1 ks vs ρ
 | _,_,_=>True
def qO:List Nat->List C->aV->aV
 | k::ks,v::vs,ρ=>bD (some k) v (qO ks vs ρ)
 | _,_,ρ=>ρ
def bJ:List Nat->Bool
 | []=>true
 | k::ks=>match fW ks k with | true=>false | false=>bJ ks
def M9 (F:aD) (b o off:Nat) (vs:List Value):Prop :=
 ∃a c t d,F b=some (.cells c t d)/\o=a+off/\∀(i:Nat) (v:Value),vs[i]?=some v->c[a+i]?=some v/\pF d (a+i)
def C4:Option String->TypeId->Value->Value
 | none,t,u=>.iface t u
 | some nm,t,u=>.func (.method nm) #[.iface t u] #[]
mutual
def Rel (F:aD):Loc->C->Value->Prop
 | _,.int k n,v=>v=.int k n/\(Lit.int k n).wf=true
 | _,.bool b,v=>v=.bool b
 | _,.str s,v=>v=.string s/\s.size<=maxLen
 | _,.sl els,v=>∃a c,v=.slice a els.length c/\els.length<=c/\els.length<=maxLen/\(a=none->els=[]/\c=0)/\∃sz,gC F a sz 0 els
 | _,.slx els,v=>∃a,v=.slice (some a) els.length els.length/\els.length<=maxLen/\∃sz,gC F (some a) sz 0 els
 | _,.nils,v=>v=.slice none 0 0
 | L,.rw k,v=>∃a c t sz n xs,v=.slice a n c/\L.get k=some (.row v t sz n xs)
 | L,.own k off,v=>∃g t cs,L.get k=some (.box g t cs)/\v=.pointer (some ⟨g,off,none⟩)
 | L,.ifo m ti k off,v=>∃g t cs,L.get k=some (.box g t cs)/\v=C4 m ti (.pointer (some ⟨g,off,none⟩))
 | _,.pt es off,v=>∃b o vs,v=.pointer (some ⟨b,o,none⟩)/\M9 F b o off vs/\dJ es=true/\aF F [] es vs
 | L,.fn f fi ca,v=>∃fi' ca',v=.func (.func f) fi'.toArray ca'.toArray/\aF F L fi fi'/\aF F L ca ca'
 | L,.agg cs,v=>∃vs,v=.agg vs.toArray/\aF F L cs vs
 | L,.tup cs,v=>∃vs,v=.tuple vs.toArray/\aF F L cs vs
 | _,.nilp,v=>v=.pointer none
 | _,.nilf,v=>v=.nilFunc
 | _,.ifc t c,v=>∃u,v=.iface t u/\Rel F [] c u
 | _,.opq k,v=>jK k F v
 | _,.mval nm c,v=>∃u,v=.func (.method nm) #[u] #[]/\Rel F [] c u
 | _,.mof t nm,v=>v=.func (.methodOf t nm) #[] #[]
 | L,.mpr k,v=>∃g cs,L.get k=some (.box g 0 cs)/\v=.map (some g)
 | _,.und,v=>v=undef
 | _,.any,_=>True
 | _,.ownv _ _,_=>False
 | L,.elr k j off,v=>∃ad t sz n c xs,v=.pointer (some (ad.add (j*sz+off)))/\L.get k=some (.row (.slice (some ad) n c) t sz n xs)
 | L,.slo k offs,v=>∃g t cs ad,L.get k=some (.box g t cs)/\v=.slice (some ad) offs.length offs.length/\offs.length<=maxLen/\bU F (some ad) 0 (offs.map fun o=>.pointer (some ⟨g,o,none⟩))
 | _,.slp _ _ _,_=>False
def aF (F:aD):Loc->List C->List Value->Prop
 | _,[],vs=>vs=[]
 | L,c::cs,vs=>∃v vs',vs=v::vs'/\Rel F L c v/\aF F L cs vs'
def gC (F:aD) (a:Option Addr) (sz:Nat):Nat->List (List C)->Prop
 | _,[]=>True
 | i,es::l=>(∃vs,vs.length=sz/\bU F a (i*sz) vs/\dJ es=true/\aF F [] es vs)/\gC F a sz (i+1) l
end
def aN (F:aD) (sz:Nat):List (List C)->List Value->Prop
 | [],xs=>xs=[]
 | es::l,xs=>∃vs a,xs=vs++a/\vs.length=sz/\dJ es=true/\aF F [] es vs/\aN F sz l a
def tyOk (t g a:Nat):Prop:=a<1048576/\(t=a\/t=(g+1)*1048576+a)/\a≠0
def jw (F:aD):List (C×C)->List Value->Prop
 | [],vs=>vs=[]
 | (k,c)::l,vs=>∃kv v a,vs=.agg #[kv,v]::a/\Rel F [] k kv/\Rel F [] c v/\jw F l a
def cZ (F:aD) (L:Loc):TO->Own->Prop
 | .box t cs,.box g b vs=>tyOk t g b/\aF F L cs vs
 | .row t sz els,.row v b d n xs=>t=b/\sz=d/\n=els.length/\(n<=maxLen/\∃a c,v=.slice a n c/\(a=none->n=0))/\aN F sz els xs
 | .map es,.box g b vs=>b=0/\jw F es vs
 | .win t pre cs post,.box g b vs=>tyOk t g b/\∃v1 e v3,vs=v1++(e++v3)/\aF F [] pre v1/\aF F L cs e/\aF F [] post v3
 | _,_=>False
def JM (F:aD) (L:Loc):Option TO->Option Own->Prop
 | none,none=>True
 | some to,some o=>cZ F L to o
 | _,_=>False
def dc (F:aD) (L:Loc) (M:TL):Prop:=∀k,JM F L (M.get k) (L.get k)
def Vf (sv:SV) (v:Value):Prop:=sv=.v v\/∃b o j,sv=.el (some ⟨b,o,none⟩) j/\v=.pointer (some ⟨b,o+j,none⟩)
def aQ (F:aD) (L:Loc):C->SV->Prop
 | .own k off,sv=>sv=.own k off/\∃g t cs,L.get k=some (.box g t cs)
 | .pt es off,sv=>∃b o j vs,(sv=.v (.pointer (some ⟨b,o,none⟩))/\j=0\/sv=.el (some ⟨b,o,none⟩) j)/\M9 F b (o+j) off vs/\dJ es=true/\aF F [] es vs
 | .elr k j off,sv=>∃a t sz n c xs,sv=.el (some a) (j*sz+off)/\L.get k=some (.row (.slice (some a) n c) t sz n xs)
 | .ownv k off,sv=>∃v,Vf sv v/\Rel F L (.own k off) v
 | .slp k d j,sv=>∃g t cs a,L.get k=some (.box g t cs)/\sv=.el (some a) j/\bU F (some a) 0 (d.map fun o=>.pointer (some ⟨g,o,none⟩))
 | .any,_=>True
 | c,sv=>∃v,sv=.v v/\Rel F L c v
def Kp (G:Nat->Option (Nat×TypeId)) (L:Loc):Prop:=∀k g t,G k=some (g,t)->∃cs,L.get k=some (.box g t cs)
structure TS (G:Nat->Option (Nat×TypeId)) (F:aD) (L:Loc) (ρ:Env) (M:TL) (τ:aV):Prop where
 tl:dc F L M
 env:∀j,aQ F L (τ j) (ρ j)
 kp:Kp G L
 glob:sM F
def Own.like:Own->Own->Prop
 | .box g t _,.box b c _=>g=b/\t=c
 | .row v _ sz n _,.row d _ a n' _=>v=d/\sz=a/\n=n'
 | _,_=>False
theorem Own.aah:∀o:Own,Own.like o o
 | .box ..=>⟨rfl,rfl⟩
 | .row ..=>⟨rfl,rfl,rfl⟩
theorem M9.mono {F F':aD}(h:F.le F') {b o off:Nat}{vs:List Value}(c:M9 F b o off vs):M9 F' b o off vs:=by
 obtain⟨a,d,t,e,f,j⟩:=c;exact⟨a,d,t,e,h _ _ f,j⟩
mutual
theorem Rel.mono {F F':aD}(h:F.le F'):∀{L:Loc}{c:C}{v:Value},Rel F L c v->Rel F' L c v
 | _,.int k n,v,r=>r
 | _,.bool b,v,r=>r
 | _,.str s,v,r=>r
 | _,.sl els,v,r=>by
  simp only[Rel] at r ⊢;obtain⟨a,c,h1,h2,h3,h4,sz,h5⟩:=r;exact⟨a,c,h1,h2,h3,h4,sz,gC.mono h h5⟩
 | _,.slx els,v,r=>by
  simp only[Rel] at r ⊢;obtain⟨a,h1,h2,sz,h5⟩:=r;exact⟨a,h1,h2,sz,gC.mono h h5⟩
 | _,.nils,v,r=>r
 | L,.rw k,v,r=>by simp only[Rel] at r ⊢;exact r
 | L,.own k off,v,r=>by simp only[Rel] at r ⊢;exact r
 | L,.ifo m ti k off,v,r=>by simp only[Rel] at r ⊢;exact r
 | _,.pt es off,v,r=>by
  simp only[Rel] at r ⊢;obtain⟨b,o,vs,h1,h2,h3,h4⟩:=r;exact⟨b,o,vs,h1,h2.mono h,h3,aF.mono h h4⟩
 | L,.fn f fi ca,v,r=>by
  simp only[Rel] at r ⊢;obtain⟨fi',ca',h1,h2,h3⟩:=r;exact⟨fi',ca',h1,aF.mono h h2,aF.mono h h3⟩
 | L,.agg cs,v,r=>by
  simp only[Rel] at r ⊢;obtain⟨vs,h1,h2⟩:=r;exact⟨vs,h1,aF.mono h h2⟩
 | L,.tup cs,v,r=>by
  simp only[Rel] at r ⊢;obtain⟨vs,h1,h2⟩:=r;exact⟨vs,h1,aF.mono h h2⟩
 | _,.nilp,v,r=>r
 | _,.nilf,v,r=>r
 | _,.ifc t c,v,r=>by
  simp only[Rel] at r ⊢;obtain⟨u,h1,h2⟩:=r;exact⟨u,h1,Rel.mono h h2⟩
 | _,.opq k,v,r=>by
  simp only[Rel] at r ⊢;exact r.mono h
 | _,.mval nm c,v,r=>by
  simp only[Rel] at r ⊢;obtain⟨u,h1,h2⟩:=r;exact⟨u,h1,Rel.mono h h2⟩
 | _,.mof t nm,v,r=>r
 | L,.mpr k,v,r=>by simp only[Rel] at r ⊢;exact r
 | _,.und,v,r=>r
 | _,.any,v,r=>trivial
 | _,.ownv _ _,v,r=>r
 | L,.elr _ _ _,v,r=>by simp only[Rel] at r ⊢;exact r
 | L,.slo _ _,v,r=>by
  simp only[Rel] at r ⊢;obtain⟨g,t,cs,ad,h1,h2,h3,h4⟩:=r;exact⟨g,t,cs,ad,h1,h2,h3,h4.mono h⟩
 | _,.slp _ _ _,v,r=>r
theorem aF.mono {F F':aD}(h:F.le F'):∀{L:Loc}{cs:List C}{vs:List Value},aF F L cs vs->aF F' L cs vs
 | _,[],vs,r=>by simp only[aF] at r ⊢;exact r
 | L,c::cs,vs,r=>by
  simp only[aF] at r ⊢;obtain⟨v,vs',h1,h2,h3⟩:=r;exact⟨v,vs',h1,Rel.mono h h2,aF.mono h h3⟩
theorem gC.mono {F F':aD}(h:F.le F') {a:Option Addr}{sz:Nat}:∀{i:Nat}{l:List (List C)},gC F a sz i l->gC F' a sz i l
 | _,[],r=>by simp only[gC]
 | i,es::l,r=>by
  simp only[gC] at r ⊢;obtain⟨⟨vs,h1,h2,h3,h4⟩,h5⟩:=r;exact⟨⟨vs,h1,h2.mono h,h3,aF.mono h h4⟩,gC.mono h h5⟩
end
theorem aN.mono {F F':aD}(h:F.le F') {sz:Nat}:∀{l:List (List C)}{xs:List Value},aN F sz l xs->aN F' sz l xs
 | [],xs,r=>r
 | es::l,xs,r=>by
  simp only[aN] at r ⊢;obtain⟨vs,a,b,d,e,c,f⟩:=r;exact⟨vs,a,b,d,e,c.mono h,aN.mono h f⟩
theorem jw.mono {F F':aD}(h:F.le F'):∀{l:List (C×C)}{vs:List Value},jw F l vs->jw F' l vs
 | [],vs,r=>r
 | (k,c)::l,vs,r=>by
  simp only[jw] at r ⊢;obtain⟨kv,v,a,b,e,f,d⟩:=r;exact⟨kv,v,a,b,e.mono h,f.mono h,jw.mono h d⟩
theorem cZ.mono {F F':aD}(h:F.le F') {L:Loc}:∀{o:TO}{p:Own},cZ F L o p->cZ F' L o p
 | .box t cs,.box g a vs,r=>⟨r.1,r.2.mono h⟩
 | .row t sz els,.row v a f n xs,r=>⟨r.1,r.2.1,r.2.2.1,r.2.2.2.1,r.2.2.2.2.mono h⟩
 | .box _ _,.row ..,r=>r.elim
 | .row ..,.box ..,r=>r.elim
 | .map _,.row ..,r=>r.elim
 | .map es,.box g a vs,r=>⟨r.1,r.2.mono h⟩
 | .win ..,.row ..,r=>r.elim
 | .win ..,.box ..,⟨j,v1,b,v3,e,k,c,d⟩=>⟨j,v1,b,v3,e,k.mono h,c.mono h,d.mono h⟩
theorem dc.mono {F F':aD}(h:F.le F') {L:Loc}{M:TL}(r:dc F L M):dc F' L M:=by
 intro k;have:=r k
 revert this
 cases M.get k<;>cases L.get k<;>simp only[JM]<;>first | exact fun h=>h | exact fun r=>r.mono h
theorem aQ.mono {F F':aD}(h:F.le F') {L:Loc}{c:C}{sv:SV}(r:aQ F L c sv):aQ F' L c sv:=by
 cases c<;>simp only[aQ] at r ⊢
 case own=>exact r
 case pt =>
  obtain⟨b,o,j,vs,d,a,e,f⟩:=r;exact⟨b,o,j,vs,d,a.mono h,e,f.mono h⟩
 case elr=>exact r
 case slp =>
  obtain⟨g,t,cs,k,d,a,e⟩:=r;exact⟨g,t,cs,k,d,a,e.mono h⟩
 all_goals
  obtain⟨v,d,a⟩:=r;exact⟨v,d,a.mono h⟩
theorem jU {F:aD}{L:Loc}:∀{cs:List C}{vs:List Value},aF F L cs vs↔vs.length=cs.length/\∀(i:Nat) c v,cs[i]?=some c->vs[i]?=some v->Rel F L c v
 | [],vs=>by
  simp only[aF];constructor
  ·rintro rfl;simp
  ·rintro⟨h,_⟩;exact List.length_eq_zero_iff.1 (by simpa using h)
 | c::cs,vs=>by
  simp only[aF,jU (cs:=cs)];constructor
  ·rintro⟨v,a,rfl,e,f,l⟩;refine⟨by simp[f],fun i k j d b=>?_⟩;cases i with
   | zero=>simp only[aa0,vz] at d b;subst d b;exact e
   | succ i=>exact l i k j (by simpa using d) (by simpa using b)
  ·rintro⟨e,f⟩
   match vs,e with
   | v::a,e=>exact⟨v,a,rfl,f 0 c v (by simp) (by simp),by simpa using e,fun i k j d b=>f (i+1) k j (by simpa using d) (by simpa using b)⟩
theorem aF.len {F:aD}{L:Loc}{cs:List C}{vs:List Value}(h:aF F L cs vs):vs.length=cs.length:=(jU.1 h).1
theorem aF.at {F:aD}{L:Loc}{cs:List C}{vs:List Value}(h:aF F L cs vs) {i:Nat}{c:C}{v:Value}(b:cs[i]?=some c) (a:vs[i]?=some v):Rel F L c v:=(jU.1 h).2 i c v b a
theorem aF.append {F:aD}{L:Loc}{cs ds:List C}{vs us:List Value}(h:aF F L cs vs) (k:aF F L ds us):aF F L (cs++ds) (vs++us):=by
 induction cs generalizing vs with
 | nil=>simp only[aF] at h;subst h;exact k
 | cons c cs b =>
  simp only[aF] at h;obtain⟨v,a,rfl,d,e⟩:=h;simp only[aaT,aF];exact⟨v,_,rfl,d,b e⟩
theorem aF.drop {F:aD}{L:Loc}{cs:List C}{vs:List Value}(h:aF F L cs vs) (n:Nat):aF F L (cs.drop n) (vs.drop n):=by
 rw[jU] at h ⊢;refine⟨by simp[h.1],fun i c v b a=>?_⟩;rw[abj] at b a;exact h.2 _ _ _ b a
theorem aF.take {F:aD}{L:Loc}{cs:List C}{vs:List Value}(h:aF F L cs vs) (n:Nat):aF F L (cs.take n) (vs.take n):=by
 rw[jU] at h ⊢;refine⟨by simp[h.1],fun i c v a b=>?_⟩;rw[abm] at a b;split at a
 ·rw[eu (by assumption)] at b;exact h.2 _ _ _ a b
 ·cases a
theorem m8 {F:aD}{a:Option Addr}{sz:Nat}:∀{l:List (List C)}{i:Nat},gC F a sz i l↔∀(j:Nat) es,l[j]?=some es->∃vs,vs.length=sz/\bU F a ((i+j)*sz) vs/\dJ es=true/\aF F [] es vs
 | [],i=>by simp[gC]
 | x::l,i=>by
  simp only[gC,m8 (l:=l)];constructor
  ·rintro⟨c,d⟩ j y b;cases j with
   | zero=>simp only[aa0,vz] at b;subst b;simpa using c
   | succ j =>
    simp only[abx] at b;have:=d j y b
    rwa [show i+1+j=i+(j+1) by omega] at this
  ·intro h;refine⟨by simpa using h 0 x (by simp),fun j y b=>?_⟩;have:=h (j+1) y (by simpa using b)
   rwa [show i+(j+1)=i+1+j by omega] at this
theorem iI {F:aD}{sz:Nat}:∀{l:List (List C)}{xs:List Value},aN F sz l xs->xs.length=l.length*sz
 | [],xs,h=>by simp only[aN] at h;subst h;simp
 | es::l,xs,h=>by
  simp only[aN] at h;obtain⟨vs,c,rfl,a,_,_,b⟩:=h;simp only[yo,iI b,a,aaV,Nat.add_mul];omega
theorem aN.append {F:aD}{sz:Nat}:∀{l m:List (List C)}{xs ys:List Value},aN F sz l xs->aN F sz m ys->aN F sz (l++m) (xs++ys)
 | [],m,xs,ys,h,k=>by simp only[aN] at h;subst h;exact k
 | es::l,m,xs,ys,h,k=>by
  simp only[aN] at h;obtain⟨vs,a,rfl,c,d,b,e⟩:=h;simp only[aaT,aN];exact⟨vs,a++ys,by simp,c,d,b,aN.append e k⟩
theorem aN.at {F:aD}{sz:Nat}:∀{l:List (List C)}{xs:List Value},aN F sz l xs->∀{j:Nat}{es:List C},l[j]?=some es->∃vs,vs.length=sz/\dJ es=true/\aF F [] es vs/\∀(i:Nat) v,vs[i]?=some v->xs[j*sz+i]?=some v
 | [],xs,h,j,es,e=>by simp at e
 | x::l,xs,h,j,es,e=>by
  simp only[aN] at h;obtain⟨vs,d,rfl,b,n,c,p⟩:=h;cases j with
  | zero =>
   simp only[aa0,vz] at e;subst e;refine⟨vs,b,n,c,fun i v a=>?_⟩;have:i<vs.length:=(w7.1 a).1;rw[Nat.zero_mul,Nat.zero_add,aaW this];exact a
  | succ j =>
   obtain⟨us,m,f,o,k⟩:=aN.at p (by simpa using e);refine⟨us,m,f,o,fun i v a=>?_⟩;rw[aa2 (by rw[b,Nat.add_mul];omega),show(j+1)*sz+i-vs.length=j*sz+i by rw[b,Nat.add_mul];omega];exact k i v a
theorem aN.frz {F:aD}{sz:Nat}{l:List (List C)}{xs:List Value}(h:aN F sz l xs) {a:Addr}(q:bU F (some a) 0 xs):gC F (some a) sz 0 l:=by
 rw[m8];intro j es r;obtain⟨vs,s,f,m,d⟩:=h.at r;refine⟨vs,s,?_,f,m⟩;obtain⟨k,b,t,n,e,hb,c,p⟩:=q;refine⟨k,b,t,n,e,hb,c,fun i v o=>?_⟩;have:=p (j*sz+i) v (d i v o);simpa[Nat.add_assoc] using this
theorem iW:∀{l:List C},dJ l=true↔∀c∈l,c.one=true
 | []=>by simp[dJ]
 | c::l=>by
  simp only[dJ];cases h:c.one
  ·simp[h]
  ·simp[h,iW]
theorem pQ:∀{l:List C},dP l=true↔∀c∈l,c.pure=true
 | []=>by simp[dP]
 | c::l=>by
  simp only[dP];cases h:c.pure
  ·simp[h]
  ·simp[h,pQ]
theorem qP:∀{l:List C},jv l=true↔∀c∈l,c.aak=true
 | []=>by simp[jv]
 | c::l=>by
  simp only[jv];cases h:c.aak
  ·simp[h]
  ·simp[h,qP]
theorem Rel.one {F:aD}{L:Loc}{c:C}{v:Value}(h:Rel F L c v) (d:c.one=true):v.oneCell'=true:=by
 cases c<;>simp only[C.one,aaX] at d<;>simp only[Rel] at h
 case int=>obtain⟨rfl,_⟩:=h;rfl
 case bool=>subst h;rfl
 case str=>obtain⟨rfl,_⟩:=h;rfl
 case sl=>obtain⟨a,c,rfl,_⟩:=h;rfl
 case slx=>obtain⟨a,rfl,_⟩:=h;rfl
 case nils=>subst h;rfl
 case own=>obtain⟨g,t,cs,_,rfl⟩:=h;rfl
 case ifo m _ _ _=>obtain⟨g,t,cs,_,rfl⟩:=h;cases m<;>rfl
 case pt=>obtain⟨b,o,vs,rfl,_⟩:=h;rfl
 case fn=>obtain⟨a,b,rfl,_⟩:=h;rfl
 case nilp=>subst h;rfl
 case nilf=>subst h;rfl
 case ifc=>obtain⟨u,rfl,_⟩:=h;rfl
 case opq=>exact h.one
 case mval=>obtain⟨u,rfl,_⟩:=h;rfl
 case mof=>subst h;rfl
 case mpr=>obtain⟨g,cs,_,rfl⟩:=h;rfl
 case rw=>obtain⟨a,c,t,sz,n,xs,rfl,_⟩:=h;rfl
mutual
theorem Rel.wf {F:aD}:∀{L:Loc}{c:C}{v:Value},Rel F L c v->Wf c
 | _,.int k n,v,r=>by simp only[Rel] at r;simp only[Wf];exact r.2
 | _,.bool b,v,r=>by simp only[Wf]
 | _,.str s,v,r=>by simp only[Rel] at r;simp only[Wf];exact r.2
 | _,.sl els,v,r=>by
  simp only[Rel] at r;obtain⟨a,c,h1,h2,h3,h4,sz,h5⟩:=r;simp only[Wf];exact⟨h3,gC.wf h5⟩
 | _,.slx els,v,r=>by
  simp only[Rel] at r;obtain⟨a,h1,h2,sz,h5⟩:=r;simp only[Wf];exact⟨h2,gC.wf h5⟩
 | _,.nils,v,r=>by simp only[Wf]
 | L,.rw k,v,r=>by simp only[Wf]
 | L,.own k off,v,r=>by simp only[Wf]
 | L,.ifo _ _ _ _,v,r=>by simp only[Wf]
 | _,.pt es off,v,r=>by
  simp only[Rel] at r;obtain⟨b,o,vs,h1,h2,h3,h4⟩:=r;simp only[Wf];exact aF.wf h4
 | L,.fn f fi ca,v,r=>by
  simp only[Rel] at r;obtain⟨fi',ca',h1,h2,h3⟩:=r;simp only[Wf];exact⟨aF.wf h2,aF.wf h3⟩
 | L,.agg cs,v,r=>by
  simp only[Rel] at r;obtain⟨vs,h1,h2⟩:=r;simp only[Wf];exact aF.wf h2
 | L,.tup cs,v,r=>by
  simp only[Rel] at r;obtain⟨vs,h1,h2⟩:=r;simp only[Wf];exact aF.wf h2
 | _,.nilp,v,r=>by simp only[Wf]
 | _,.nilf,v,r=>by simp only[Wf]
 | _,.ifc _ _,v,r=>by simp only[Wf]
 | _,.opq _,v,r=>by simp only[Wf]
 | _,.mval _ _,v,r=>by simp only[Wf]
 | _,.mof _ _,v,r=>by simp only[Wf]
 | _,.mpr _,v,r=>by simp only[Wf]
 | _,.und,v,r=>by simp only[Wf]
 | _,.any,v,r=>by simp only[Wf]
 | _,.ownv _ _,v,r=>by simp only[Wf]
 | _,.elr _ _ _,v,r=>by simp only[Wf]
 | _,.slo _ _,v,r=>by
  simp only[Rel] at r;obtain⟨g,t,cs,ad,h1,h2,h3,h4⟩:=r;simp only[Wf];exact h3
 | _,.slp _ _ _,v,r=>by simp only[Wf]
theorem aF.wf {F:aD}:∀{L:Loc}{cs:List C}{vs:List Value},aF F L cs vs->tL cs
 | _,[],vs,r=>by simp only[tL]
 | L,c::cs,vs,r=>by
  simp only[aF] at r;obtain⟨v,vs',h1,h2,h3⟩:=r;simp only[tL];exact⟨Rel.wf h2,aF.wf h3⟩
theorem gC.wf {F:aD}{a:Option Addr}{sz:Nat}:∀{i:Nat}{l:List (List C)},gC F a sz i l->uh l
 | _,[],r=>by simp only[uh]
 | i,es::l,r=>by
  simp only[gC] at r;obtain⟨⟨vs,h1,h2,h3,h4⟩,h5⟩:=r;simp only[uh];exact⟨aF.wf h4,gC.wf h5⟩
end
theorem aN.wf {F:aD}{sz:Nat}:∀{l:List (List C)}{xs:List Value},aN F sz l xs->uh l
 | [],xs,r=>by simp only[uh]
 | es::l,xs,r=>by
  simp only[aN] at r;obtain⟨vs,c,d,e,f,a,b⟩:=r;simp only[uh];exact⟨a.wf,b.wf⟩
theorem jw.wf {F:aD}:∀{l:List (C×C)}{vs:List Value},jw F l vs->Vt l
 | [],vs,r=>trivial
 | (k,c)::l,vs,r=>by
  simp only[jw] at r;obtain⟨kv,v,a,f,d,e,b⟩:=r;exact⟨d.wf,e.wf,jw.wf b⟩
theorem cZ.wf {F:aD}{L:Loc}:∀{o:TO}{p:Own},cZ F L o p->o.Wf
 | .box t cs,.box g a vs,r=>r.2.wf
 | .row t sz els,.row v a c n xs,r=>r.2.2.2.2.wf
 | .box _ _,.row ..,r=>r.elim
 | .row ..,.box ..,r=>r.elim
 | .map _,.row ..,r=>r.elim
 | .map es,.box g a vs,r=>r.2.wf
 | .win ..,.row ..,r=>r.elim
 | .win ..,.box ..,⟨h,v1,d,v3,e,j,b,f⟩=>b.wf
def C.leaf:C->Bool
 | .fn _ _ _=>false
 | .agg _=>false
 | .tup _=>false
 | _=>true
theorem wL {g:C->C}{n:Nat}{c:C}(h:c.leaf=true):C.mp g n c=g c:=by
 cases c<;>first | (cases n<;>rfl;done) | cases h
theorem aF.map {F F':aD}{L L':Loc}{g:C->C}:∀{cs:List C}{vs:List Value},(∀c∈cs,∀v,Rel F L c v->Rel F' L' (g c) v)->aF F L cs vs->aF F' L' (cs.map g) vs
 | [],vs,b,h=>by simp only[aF] at h;subst h;simp only[abI,aF]
 | c::cs,vs,b,h=>by
  simp only[aF] at h;obtain⟨v,a,rfl,d,e⟩:=h;simp only[aaS,aF];exact⟨v,a,rfl,b c (by simp) v d,aF.map (fun c f=>b c (by simp[f])) e⟩
theorem Rel.mp {F F':aD}{L L':Loc}{g:C->C}(b:∀c v,c.leaf=true->Rel F L c v->Rel F' L' (g c) v):∀(n:Nat) {c:C}{v:Value},Rel F L c v->Rel F' L' (C.mp g n c) v
 | 0,c,v,h=>by
  cases a:c.leaf
  ·cases c<;>simp only[C.leaf,Bool.true_eq_false] at a<;>simp only[C.mp,Rel]
  ·rw[wL a];exact b c v a h
 | n+1,c,v,h=>by
  cases a:c.leaf
  ·cases c<;>simp only[C.leaf,Bool.true_eq_false] at a<;>simp only[Rel] at h<;>simp only[C.mp,Rel]
   ·obtain⟨j,f,d,e,k⟩:=h;exact⟨j,f,d,e.map fun c _ v=>Rel.mp b n,k.map fun c _ v=>Rel.mp b n⟩
   ·obtain⟨vs,d,e⟩:=h;exact⟨vs,d,e.map fun c _ v=>Rel.mp b n⟩
   ·obtain⟨vs,d,e⟩:=h;exact⟨vs,d,e.map fun c _ v=>Rel.mp b n⟩
  ·rw[wL a];exact b c v a h
theorem aQ.mp {F F':aD}{L L':Loc}{g:C->C}(f:∀c v,c.leaf=true->Rel F L c v->Rel F' L' (g c) v) (b:∀c sv,c.leaf=true->aQ F L c sv->aQ F' L' (g c) sv) (n:Nat) {c:C}{sv:SV}
  (h:aQ F L c sv):aQ F' L' (C.mp g n c) sv:=by
 cases a:c.leaf
 ·have e:∃v,sv=.v v/\Rel F L c v:=by cases c<;>simp only[C.leaf,Bool.true_eq_false] at a<;>exact h
  obtain⟨v,rfl,j⟩:=e;have d:=Rel.mp f n j;cases n with
  | zero=>cases c<;>simp only[C.leaf,Bool.true_eq_false] at a<;>simp only[C.mp,aQ]
  | succ n=>cases c<;>simp only[C.leaf,Bool.true_eq_false] at a<;>exact⟨v,rfl,d⟩
 ·rw[wL a];exact b c sv a h
def Ext (L L':Loc):Prop:=∀k o,L.get k=some o->∃o',L'.get k=some o'/\Own.like o o'
theorem Ext.refl (L:Loc):Ext L L:=fun k o h=>⟨o,h,Own.aah o⟩
theorem rN {F F':aD}{L L':Loc}(n:F.le F') {k:Nat}{a:List Nat}{v:Value}(l:∀o,L.get k=some o->∃o',L'.get k=some o'/\Own.like o o') (h:Rel F L (.slo k a) v):Rel F' L' (.slo k a) v:=by
 simp only[Rel] at h ⊢;obtain⟨g,t,cs,e,m,d,f,c⟩:=h;obtain⟨o',j,b⟩:=l _ m;cases o' with
 | row=>exact b.elim
 | box p q cs'=>obtain⟨rfl,rfl⟩:=b;exact⟨_,_,_,e,j,d,f,c.mono n⟩
theorem uj {F F':aD}{L L':Loc}(c:F.le F') {k:Nat}{a:List Nat}{sv:SV}(e:∀o,L.get k=some o->∃o',L'.get k=some o'/\Own.like o o') (h:aQ F L (.slo k a) sv):aQ F' L' (.slo k a) sv:=by
 simp only[aQ] at h ⊢;obtain⟨v,b,d⟩:=h;exact⟨v,b,rN c e d⟩
theorem JN {F F':aD}{L L':Loc}(n:F.le F') {k j:Nat}{a:List Nat}{sv:SV}(l:∀o,L.get k=some o->∃o',L'.get k=some o'/\Own.like o o') (h:aQ F L (.slp k a j) sv):aQ F' L' (.slp k a j) sv:=by
 simp only[aQ] at h ⊢;obtain⟨g,t,cs,d,m,c,e⟩:=h;obtain⟨o',f,b⟩:=l _ m;cases o' with
 | row=>exact b.elim
 | box p q cs'=>obtain⟨rfl,rfl⟩:=b;exact⟨_,_,_,d,f,c,e.mono n⟩
theorem bB {F F':aD}{L L':Loc}(l:F.le F') {c:C}{v:Value}(q:∀k,(∃off,c=.own k off)\/c=.rw k\/c=.mpr k\/(∃m t off,c=.ifo m t k off)\/(∃j off,c=.elr k j off)->∀o,L.get k=some o->∃o',L'.get k=some o'/\Own.like o o') (hc:c.leaf=true) (h:Rel F L c v) (hs:∀k p,c≠.slo k p:=by exact fun _ _ e=>by cases e):Rel F' L' c v:=by
 cases c<;>simp only[C.leaf,aaX] at hc
 case slo=>exact o4 rfl (hs _ _)
 case slp=>exact h.elim
 case rw k =>
  simp only[Rel] at h ⊢;obtain⟨a,c,t,sz,n,xs,rfl,h⟩:=h;obtain⟨o',f,d⟩:=q k (.inr (.inl rfl)) _ h;cases o' with
  | box=>exact d.elim
  | row v' r y n' w=>obtain⟨rfl,rfl,rfl⟩:=d;exact⟨_,_,_,_,_,_,rfl,f⟩
 case mpr k =>
  simp only[Rel] at h ⊢;obtain⟨g,cs,h,rfl⟩:=h;obtain⟨o',f,d⟩:=q k (.inr (.inr (.inl rfl))) _ h;cases o' with
  | row=>exact d.elim
  | box g' r cs'=>obtain⟨rfl,rfl⟩:=d;exact⟨_,_,f,rfl⟩
 case own k off =>
  simp only[Rel] at h ⊢;obtain⟨g,t,cs,h,rfl⟩:=h;obtain⟨o',f,d⟩:=q k (.inl ⟨off,rfl⟩) _ h;cases o' with
  | row=>exact d.elim
  | box g' r cs'=>obtain⟨rfl,rfl⟩:=d;exact⟨_,_,_,f,rfl⟩
 case ifo m ti k off =>
  simp only[Rel] at h ⊢;obtain⟨g,t,cs,h,rfl⟩:=h;obtain⟨o',f,d⟩:=q k (.inr (.inr (.inr (.inl ⟨m,ti,off,rfl⟩)))) _ h;cases o' with
  | row=>exact d.elim
  | box g' r cs'=>obtain⟨rfl,rfl⟩:=d;exact⟨_,_,_,f,rfl⟩
 case elr k j off =>
  simp only[Rel] at h ⊢;obtain⟨ad,t,sz,n,c,xs,rfl,h⟩:=h;obtain⟨o',f,d⟩:=q k (.inr (.inr (.inr (.inr ⟨j,off,rfl⟩)))) _ h;cases o' with
  | box=>exact d.elim
  | row v' r y n' w=>obtain⟨rfl,rfl,rfl⟩:=d;exact⟨_,_,_,_,_,_,rfl,f⟩
 case sl =>
  simp only[Rel] at h ⊢;obtain⟨a,c,f,d,x,s,sz,z⟩:=h;exact⟨a,c,f,d,x,s,sz,z.mono l⟩
 case slx =>
  simp only[Rel] at h ⊢;obtain⟨a,f,d,sz,z⟩:=h;exact⟨a,f,d,sz,z.mono l⟩
 case pt =>
  simp only[Rel] at h ⊢;obtain⟨b,o,vs,f,d,x,s⟩:=h;exact⟨b,o,vs,f,d.mono l,x,s.mono l⟩
 case ifc =>
  simp only[Rel] at h ⊢;obtain⟨u,f,d⟩:=h;exact⟨u,f,d.mono l⟩
 case opq =>
  simp only[Rel] at h ⊢;exact h.mono l
 case mval =>
  simp only[Rel] at h ⊢;obtain⟨u,f,d⟩:=h;exact⟨u,f,d.mono l⟩
 all_goals
  first
   | exact h
   | (simp only[Rel] at h ⊢;done)
mutual
theorem Rel.ext {F F':aD}(hF:F.le F') {L L':Loc}(hk:Ext L L'):∀{c:C}{v:Value},Rel F L c v->Rel F' L' c v
 | .fn f fi ca,v,r=>by
  simp only[Rel] at r ⊢;obtain⟨fi',ca',h1,h2,h3⟩:=r;exact⟨fi',ca',h1,aF.ext hF hk h2,aF.ext hF hk h3⟩
 | .agg cs,v,r=>by
  simp only[Rel] at r ⊢;obtain⟨vs,h1,h2⟩:=r;exact⟨vs,h1,aF.ext hF hk h2⟩
 | .tup cs,v,r=>by
  simp only[Rel] at r ⊢;obtain⟨vs,h1,h2⟩:=r;exact⟨vs,h1,aF.ext hF hk h2⟩
 | .int _ _,v,r=>bB hF (fun k _=>hk k) rfl r
 | .bool _,v,r=>bB hF (fun k _=>hk k) rfl r
 | .str _,v,r=>bB hF (fun k _=>hk k) rfl r
 | .sl _,v,r=>bB hF (fun k _=>hk k) rfl r
 | .slx _,v,r=>bB hF (fun k _=>hk k) rfl r
 | .nils,v,r=>bB hF (fun k _=>hk k) rfl r
 | .rw _,v,r=>bB hF (fun k _=>hk k) rfl r
 | .own _ _,v,r=>bB hF (fun k _=>hk k) rfl r
 | .ifo _ _ _ _,v,r=>bB hF (fun k _=>hk k) rfl r
 | .pt _ _,v,r=>bB hF (fun k _=>hk k) rfl r
 | .nilp,v,r=>bB hF (fun k _=>hk k) rfl r
 | .nilf,v,r=>bB hF (fun k _=>hk k) rfl r
 | .ifc _ _,v,r=>bB hF (fun k _=>hk k) rfl r
 | .opq _,v,r=>bB hF (fun k _=>hk k) rfl r
 | .mval _ _,v,r=>bB hF (fun k _=>hk k) rfl r
 | .mof _ _,v,r=>bB hF (fun k _=>hk k) rfl r
 | .mpr _,v,r=>bB hF (fun k _=>hk k) rfl r
 | .und,v,r=>bB hF (fun k _=>hk k) rfl r
 | .any,v,r=>by simp only[Rel]
 | .ownv _ _,v,r=>r.elim
 | .elr _ _ _,v,r=>bB hF (fun k _=>hk k) rfl r
 | .slo k _,v,r=>rN hF (hk k) r
 | .slp _ _ _,v,r=>r.elim
theorem aF.ext {F F':aD}(hF:F.le F') {L L':Loc}(hk:Ext L L'):∀{cs:List C}{vs:List Value},aF F L cs vs->aF F' L' cs vs
 | [],vs,r=>by simp only[aF] at r ⊢;exact r
 | c::cs,vs,r=>by
  simp only[aF] at r ⊢;obtain⟨v,vs',h1,h2,h3⟩:=r;exact⟨v,vs',h1,Rel.ext hF hk h2,aF.ext hF hk h3⟩
end
theorem Ext.nil (L:Loc):Ext [] L:=fun k o h=>by cases h
theorem aF.lift {F:aD}{L:Loc}{cs:List C}{vs:List Value}(h:aF F [] cs vs):aF F L cs vs:=h.ext (aD.le_refl F) (Ext.nil L)
theorem Rel.lift {F:aD}{L:Loc}{c:C}{v:Value}(h:Rel F [] c v):Rel F L c v:=h.ext (aD.le_refl F) (Ext.nil L)
theorem cV {F F':aD}{L L':Loc}(r:F.le F') {c:C}{sv:SV}(q:∀k,(∃off,c=.own k off)\/(∃off,c=.ownv k off)\/c=.rw k\/(∃j off,c=.elr k j off)\/c=.mpr k\/(∃m t off,c=.ifo m t k off)->∀o,L.get k=some o->∃o',L'.get k=some o'/\Own.like o o') (hc:c.leaf=true) (h:aQ F L c sv) (u:(∀k a,c≠.slo k a)/\(∀k a j,c≠.slp k a j):=by exact⟨fun _ _ e=>(by cases e),fun _ _ _ e=>(by cases e)⟩):aQ F' L' c sv:=by
 cases c<;>simp only[C.leaf,aaX] at hc
 case slo=>exact o4 rfl (u.1 _ _)
 case slp=>exact o4 rfl (u.2 _ _ _)
 case own k off =>
  simp only[aQ] at h ⊢;obtain⟨rfl,g,t,cs,h⟩:=h;obtain⟨o',p,f⟩:=q k (.inl ⟨off,rfl⟩) _ h;cases o' with
  | row=>exact f.elim
  | box g' t' cs'=>exact⟨rfl,_,_,_,p⟩
 case ownv k off =>
  simp only[aQ] at h ⊢;obtain⟨v,hv,h⟩:=h;refine⟨v,hv,bB r (fun s d=>q s ?_) rfl h⟩;rcases d with⟨l,e⟩ | e | e | ⟨_,_,_,e⟩ | ⟨_,_,e⟩
  ·injection e with e1 e2;subst e1;exact .inr (.inl ⟨off,rfl⟩)
  ·cases e
  ·cases e
  ·cases e
  ·cases e
 case pt =>
  simp only[aQ] at h ⊢;obtain⟨b,o,j,vs,p,f,y,w⟩:=h;exact⟨b,o,j,vs,p,f.mono r,y,w.mono r⟩
 case elr k j off =>
  simp only[aQ] at h ⊢;obtain⟨ad,t,sz,n,c,xs,rfl,h⟩:=h;obtain⟨o',p,f⟩:=q k (.inr (.inr (.inr (.inl ⟨_,_,rfl⟩)))) _ h;cases o' with
  | box=>exact f.elim
  | row v' t' z n' x =>
   obtain⟨rfl,rfl,rfl⟩:=f;exact⟨_,_,_,_,_,_,rfl,p⟩
 all_goals first | (simp only[aQ];done) | skip
 all_goals
  simp only[aQ] at h ⊢;obtain⟨v,rfl,h⟩:=h;refine⟨v,rfl,bB r (fun s d=>q s ?_) rfl h⟩;rcases d with⟨l,e⟩ | e | e | ⟨_,_,_,e⟩ | ⟨_,_,e⟩
  ·cases e
  ·first | cases e;exact .inr (.inr (.inl rfl)) | cases e
  ·first | cases e;exact .inr (.inr (.inr (.inr (.inl rfl)))) | cases e
  ·first | cases e;exact .inr (.inr (.inr (.inr (.inr ⟨_,_,_,rfl⟩)))) | cases e
  ·cases e
theorem aQ.ext {F F':aD}{L L':Loc}(l:F.le F') (d:Ext L L') {c:C}{sv:SV}(h:aQ F L c sv):aQ F' L' c sv:=by
 cases m:c.leaf
 ·have n:∃v,sv=.v v/\Rel F L c v:=by cases c<;>simp only[C.leaf,Bool.true_eq_false] at m<;>exact h
  obtain⟨v,rfl,f⟩:=n;have b:=f.ext l d;cases c<;>simp only[C.leaf,Bool.true_eq_false] at m<;>exact⟨v,rfl,b⟩
 ·by_cases f:∃k a,c=.slo k a
  ·obtain⟨k,a,rfl⟩:=f;exact uj l (d k) h
  ·by_cases b:∃k a j,c=.slp k a j
   ·obtain⟨k,a,j,rfl⟩:=b;exact JN l (d k) h
   ·exact cV l (fun k _=>d k) m h ⟨fun k a e=>f ⟨k,a,e⟩,fun k a j e=>b ⟨k,a,j,e⟩⟩
theorem cZ.ext {F F':aD}{L L':Loc}(a:F.le F') (b:Ext L L'):∀{o:TO}{p:Own},cZ F L o p->cZ F' L' o p
 | .box t cs,.box g c vs,r=>⟨r.1,r.2.ext a b⟩
 | .row t sz els,.row v c j n xs,r=>⟨r.1,r.2.1,r.2.2.1,r.2.2.2.1,r.2.2.2.2.mono a⟩
 | .box _ _,.row ..,r=>r.elim
 | .row ..,.box ..,r=>r.elim
 | .map _,.row ..,r=>r.elim
 | .map es,.box g c vs,r=>⟨r.1,r.2.mono a⟩
 | .win ..,.row ..,r=>r.elim
 | .win ..,.box ..,⟨k,v1,d,v3,e,l,f,h⟩=>⟨k,v1,d,v3,e,l.mono a,f.ext a b,h.mono a⟩
end Go.Fr.T
