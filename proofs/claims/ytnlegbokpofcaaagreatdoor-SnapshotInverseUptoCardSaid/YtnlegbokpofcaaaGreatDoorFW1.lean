/- Part of the proofs of the statements of this seat. -/
import Derived.Test.YtnlegbokpofcaaaGreatDoorFW0
import Derived.Scope
set_option maxRecDepth 10000
set_option linter.unusedVariables false
set_option linter.unusedSimpArgs false
namespace Go.Fr
open Go Go.RowKit
def bO:eY->List X
 | .mov x | .nilck x | .mkmv _ x | .conv _ x | .un _ x | .eqN _ x | .fieldA _ x | .fieldV _ _ _ x | .extr x _ | .len x | .lenS x | .capa x | .loadD _ _ x | .boxD _ x | .b2sD x | .b2sR x | .loadK _ _ _ x | .loadF _ _ x | .loadR _ _ x | .mlen x | .makeSV _ _ _ _ x=>[x]
 | .mlook _ _ _ x i=>[x,i]
 | .pick c a b=>[c,a,b]
 | .bin _ x y | .eqB _ x y | .eqP _ x y | .eqS _ x y | .eqF _ x y | .eqA _ _ x y | .idxA _ x y | .idxS x y=>[x,y]
 | .build _ ps=>ps.map (·.2.2)
 | .mkfn _ a b=>a++b
 | .slc _ x lo hi | .slcS x lo hi=>x::(lo.toList++hi.toList)
 | .mm _ l | .mkFD _ _ _ l=>l
 | .callD _ l=>l
 | .callVD f l=>f::l
 | .allocD _ _=>[]
 | .appD _ _ _ _ s x=>[s,x]
 | .storeD _ a x=>[a,x]
 | .storeK _ _ a x=>[a,x]
 | _=>[]
def dL:eY->Bool
 | .mov _ | .nilck _ | .mkmv _ _ | .conv _ _ | .un _ _ | .fieldA _ _ | .fieldV _ _ _ _ | .extr _ _ | .len _ | .lenS _ | .capa _ | .loadD _ _ _ | .pick _ _ _
 | .bin _ _ _ | .eqB _ _ _ | .eqP _ _ _ | .eqS _ _ _ | .eqF _ _ _ | .eqN _ _ | .eqA _ _ _ _ | .idxA _ _ _ | .idxS _ _ | .build _ _ | .mkfn _ _ _ | .slc _ _ _ _ | .slcS _ _ _ | .mm _ _ | .b2sD _ | .b2sR _ | .loadK _ _ _ _ | .loadF _ _ _ | .gload _ | .loadR _ _ _ | .mlook _ _ _ _ _ | .mlen _=>true
 | _=>false
def JB:eY->Bool
 | .b2sR _ | .loadR _ _ _ | .mlook _ _ _ _ _ | .mlen _=>true
 | _=>false
def iQ:eY->Bool
 | .callD _ _ | .callVD _ _=>true
 | _=>false
def fF:eY->Bool
 | .mkFD _ _ _ _ | .boxD _ _ | .allocD _ _ | .makeSD _ _ _ _ | .makeSV _ _ _ _ _=>true
 | _=>false
def qB:eY->Bool
 | .appD _ _ _ _ _ _=>true
 | _=>false
def ji:eY->Bool
 | .storeD _ _ _=>true
 | .storeK _ _ _ _=>true
 | _=>false
def C6:eY->Bool
 | .mov _ | .nilck _ | .mkmv _ _ | .conv _ _ | .un _ _ | .fieldA _ _ | .fieldV _ _ _ _ | .extr _ _ | .len _ | .lenS _ | .capa _ | .pick _ _ _
 | .bin _ _ _ | .eqB _ _ _ | .eqP _ _ _ | .eqS _ _ _ | .eqF _ _ _ | .eqN _ _ | .eqA _ _ _ _ | .idxA _ _ _ | .idxS _ _ | .slc _ _ _ _ | .slcS _ _ _ | .mm _ _=>true
 | _=>false
theorem C8 {o:eY}(h:C6 o=true):dL o=true:=by cases o<;>first | rfl | cases h
theorem AB {o:eY}(h:C6 o=true) {F F':aF}{L L':Loc}{ρ:Env}{V:SV->Prop}(a:aN o F L ρ V):aN o F' L' ρ V:=by
 cases o<;>first | (cases h;done) | exact a
def drawn:eY->Option eY
 | .load a n x=>some (.loadD a n x)
 | .call f l=>some (.callD f l)
 | .callV f l=>some (.callVD f l)
 | .box t x=>some (.boxD t x)
 | .alloc t z=>some (.allocD t z)
 | .mkF e n sz l=>some (.mkFD e n sz l)
 | .app e sz b z s x=>some (.appD e sz b z s x)
 | .store n a x=>some (.storeD n a x)
 | .b2s x=>some (.b2sD x)
 | .boxD _ _ | .allocD _ _ | .mkFD _ _ _ _ | .callD _ _ | .callVD _ _ | .loadD _ _ _ | .appD _ _ _ _ _ _ | .storeD _ _ _ | .boxF _ _ | .callO _ _ | .callVO _ _ | .appX _ _ _ _ _ _ | .b2sD _ | .b2sR _ | .makeSD _ _ _ _ | .makeSV _ _ _ _ _ | .loadK _ _ _ _ | .storeK _ _ _ _ | .copyX _ _ _ _ | .storeX _ _ _ | .look _ _ | .makeS _ _ _ _ _ _ | .loadF _ _ _ | .loadR _ _ _ | .mkmap | .mupd _ _ _ _ | .mrange _ | .mnext _ | .mentry _=>none
 | o=>some o
def BD:X->Option Int
 | .c (.int _ n)=>some n
 | _=>none
def Rt (b:Nat) (n m:Int):Bool:=Nat.ble (n.toNat*b) 140737488355328&&Nat.ble n.toNat 9223372036854775807&&(match n,m with | .ofNat a,.ofNat b=>Nat.beq a b | _,_=>false)
def oI (bx:List Nat):eY->Option eY
 | .makeS e sz b zs l c=>match BD l,BD c with
  | some n,some m=>match Rt b n m with
   | true=>some (.makeSD e sz n.toNat zs)
   | false=>none
  | _,_=>match l,c with
   | .t i,.t j=>match Nat.beq i j with
    | true=>some (.makeSV e sz b zs (.t i))
    | false=>none
   | _,_=>none
 | .mkR e 0 sz []=>some (.makeSD e sz 0 (List.replicate sz undef))
 | .load a n (.t i)=>match gI bx i with | true=>some (.loadK i a n (.t i)) | false=>some (.loadD a n (.t i))
 | .store n (.t i) x=>match gI bx i with | true=>some (.storeK i n (.t i) x) | false=>some (.storeD n (.t i) x)
 | o=>drawn o
def P5:List (Nat×Nat)->Nat->Option Nat
 | [],_=>none
 | (i,k)::l,j=>match Nat.beq i j with | true=>some k | false=>P5 l j
def vo (fl:List Nat) (bk:List (Nat×Nat)) (bx:List Nat):eY->Option eY
 | .load a n (.t i)=>match gI fl i with
  | true=>some (.loadF a n (.t i))
  | false=>match P5 bk i with
   | some key=>match Nat.beq key 999999 with
    | true=>some (.loadR a n (.t i))
    | false=>some (.loadK key a n (.t i))
   | none=>oI bx (.load a n (.t i))
 | .b2s (.t i)=>match gI fl i with
  | true=>some (.b2sR (.t i))
  | false=>oI bx (.b2s (.t i))
 | o=>oI bx o
def x9:eY->Option eY
 | .call f l=>some (.callO f l)
 | .callV f l=>some (.callVO f l)
 | .app e sz b z s x=>some (.appX e sz b z s x)
 | .copy e sz a b=>some (.copyX e sz a b)
 | .store n a x=>some (.storeX n a x)
 | .mupd str x i v=>some (.mupd str x i v)
 | _=>none
section
variable {P:Program}{F:aF}{L:Loc}{ρ:Env}{K:dm}
theorem cO {o:eY}(h:dL o=true) (d:Option Nat):evalOp P o d F L ρ K=aN o F L ρ fun v=>K F L (put d v ρ):=by
 cases o<;>first | rfl | cases h
structure One (T:(SV->Prop)->Prop):Prop where
 ex:∀V,T V->∃v,T (fun u=>u=v)/\V v
 mono:∀V V':SV->Prop,(∀v,V v->V' v)->T V->T V'
theorem One.ret (v:SV):One fun V=>V v:=⟨fun V h=>⟨v,rfl,h⟩,fun V V' h k=>h v k⟩
theorem One.no:One fun _=>False:=⟨fun V h=>h.elim,fun V V' h k=>k⟩
theorem One.and {p:Prop}{T:(SV->Prop)->Prop}(h:One T):One fun V=>p/\T V :=
 ⟨fun V ⟨a,b⟩=>let⟨v,h1,h2⟩:=h.ex V b;⟨v,⟨a,h1⟩,h2⟩,fun V V' c ⟨a,b⟩=>⟨a,h.mono V V' c b⟩⟩
theorem One.fit {k:IntKind}{n:Int}{T:Int->(SV->Prop)->Prop}(h:∀m,One (T m)):One fun V=>Fit k n fun m=>T m V :=
 ⟨fun V ⟨a⟩=>let⟨v,h1,h2⟩:=(h _).ex V a;⟨v,⟨h1⟩,h2⟩,fun V V' b ⟨a⟩=>⟨(h _).mono V V' b a⟩⟩
theorem One.nz {n:Int}{T:(SV->Prop)->Prop}(h:One T):One fun V=>oG n (T V) :=
 ⟨fun V ⟨a,b⟩=>let⟨v,h1,h2⟩:=h.ex V b;⟨v,⟨a,h1⟩,h2⟩,fun V V' c ⟨a,b⟩=>⟨a,h.mono V V' c b⟩⟩
theorem One.inb {i n:Int}{T:(SV->Prop)->Prop}(h:One T):One fun V=>QY i n (T V) :=
 ⟨fun V ⟨a,b,c⟩=>let⟨v,h1,h2⟩:=h.ex V c;⟨v,⟨a,b,h1⟩,h2⟩,fun V V' d ⟨a,b,c⟩=>⟨a,b,h.mono V V' d c⟩⟩
theorem One.idx {a:Option Addr}{i n:Int}{T:(SV->Prop)->Prop}(h:One T):One fun V=>FO a i n (T V) :=
 ⟨fun V ⟨b,d,c,e⟩=>let⟨v,h1,h2⟩:=h.ex V e;⟨v,⟨b,d,c,h1⟩,h2⟩,fun V V' f ⟨b,d,c,e⟩=>⟨b,d,c,h.mono V V' f e⟩⟩
theorem One.slc {l h:Int}{c:Nat}{T:Nat->Nat->(SV->Prop)->Prop}(f:∀l h,One (T l h)):One fun V=>oh l h c fun l h=>T l h V :=
 ⟨fun V ⟨a,d,b,e⟩=>let⟨v,h1,h2⟩:=(f _ _).ex V e;⟨v,⟨a,d,b,h1⟩,h2⟩,fun V V' j ⟨a,d,b,e⟩=>⟨a,d,b,(f _ _).mono V V' j e⟩⟩
theorem One.loadD {a:Option Addr}{j n:Nat}{T:List Value->(SV->Prop)->Prop}(h:∀cs,One (T cs)):One fun V=>jg F a j n fun cs=>T cs V :=
 ⟨fun V ⟨cs,b,c,d⟩=>let⟨v,h1,h2⟩:=(h _).ex V d;⟨v,⟨cs,b,c,h1⟩,h2⟩,fun V V' e ⟨cs,b,c,d⟩=>⟨cs,b,c,(h _).mono V V' e d⟩⟩
theorem One.aaG {a:Option Addr}{j n:Nat}{T:List Value->(SV->Prop)->Prop}(h:∀cs,One (T cs)):One fun V=>j8 F L a j n fun cs=>T cs V :=
 ⟨fun V ⟨cs,b,c,d⟩=>let⟨v,h1,h2⟩:=(h _).ex V d;⟨v,⟨cs,b,c,h1⟩,h2⟩,fun V V' e ⟨cs,b,c,d⟩=>⟨cs,b,c,(h _).mono V V' e d⟩⟩
theorem One.aaJ {g:Nat}{T:Nat->List Value->(SV->Prop)->Prop}(h:∀k cs,One (T k cs)):One fun V=>CU L g fun k cs=>T k cs V :=
 ⟨fun V ⟨k,cs,a,b,c⟩=>let⟨v,h1,h2⟩:=(h _ _).ex V c;⟨v,⟨k,cs,a,b,h1⟩,h2⟩,fun V V' d ⟨k,cs,a,b,c⟩=>⟨k,cs,a,b,(h _ _).mono V V' d c⟩⟩
theorem One.mlk {str:Bool}{cs:List Value}{key:Value}{ok:Bool}{z:Value}:One fun V=>FQ str cs key ok z fun v=>V (.v v) :=
 ⟨fun V h=>by
  rcases h.out with⟨i,v,b,a⟩ | ⟨b,a⟩
  ·exact⟨_,⟨.inl ⟨i,v,b,rfl⟩⟩,a⟩
  ·exact⟨_,⟨.inr ⟨b,rfl⟩⟩,a⟩,fun V V' c h=>⟨h.out.imp (fun⟨i,v,b,a⟩=>⟨i,v,b,c _ a⟩) fun⟨b,a⟩=>⟨b,c _ a⟩⟩⟩
theorem One.gl {g:Nat}{T:Value->(SV->Prop)->Prop}(h:∀v,One (T v)):One fun V=>Tv F g fun v=>T v V :=
 ⟨fun V ⟨u,t,b,a,c⟩=>let⟨v,h1,h2⟩:=(h _).ex V c;⟨v,⟨u,t,b,a,h1⟩,h2⟩,fun V V' d ⟨u,t,b,a,c⟩=>⟨u,t,b,a,(h _).mono V V' d c⟩⟩
theorem One.bytes {cs:List Value}{T:List UInt8->(SV->Prop)->Prop}(h:∀bs,One (T bs)):One fun V=>Bz cs fun bs=>T bs V :=
 ⟨fun V ⟨bs,a,b⟩=>let⟨v,h1,h2⟩:=(h _).ex V b;⟨v,⟨bs,a,h1⟩,h2⟩,fun V V' c ⟨bs,a,b⟩=>⟨bs,a,(h _).mono V V' c b⟩⟩
theorem One.binI {op:BinOp}{k:IntKind}{a b:Int}:One fun V=>binI op k a b fun v=>V (.v v):=by
 cases op<;>simp only[Fr.binI]<;>first
  | exact One.no
  | exact One.ret _
  | exact One.fit fun _=>One.ret _
  | exact One.nz (One.fit fun _=>One.ret _)
  | exact One.nz (One.ret _)
theorem One.shI {op:BinOp}{k:IntKind}{a b:Int}:One fun V=>shI op k a b fun v=>V (.v v):=by
 cases op<;>simp only[Fr.shI]<;>first
  | exact One.no
  | exact One.and (One.fit fun _=>One.ret _)
  | exact One.and (One.ret _)
theorem One.binS {op:BinOp}{a b:ByteArray}:One fun V=>binS op a b fun v=>V (.v v):=by
 cases op<;>simp only[Fr.binS]<;>first
  | exact One.no
  | exact One.ret _
  | exact One.and (One.ret _)
theorem gq {o:eY}(h:dL o=true):One (aN o F L ρ):=by
 cases o<;>first | (cases h;done) | skip
 case b2sR x =>
  show One fun V=>aN _ F L ρ V;simp only[aN];cases e:ev ρ x with
  | own k off=>exact One.no
  | el a j=>exact One.no
  | v x =>
   cases x<;>try exact One.no
   exact⟨fun V ⟨k,t,c,bs,z,w,h3,h4⟩=>⟨_,⟨k,t,c,bs,z,w,h3,rfl⟩,h4⟩,fun V V' hv ⟨k,t,c,bs,z,w,h3,h4⟩=>⟨k,t,c,bs,z,w,h3,hv _ h4⟩⟩
 case mov x=>exact One.ret _
 case pick c a b =>
  show One fun V=>aN _ F L ρ V;simp only[aN];cases e:ev ρ c with
  | v x =>
    cases x<;>try exact One.no
    rename_i b;cases b<;>exact One.ret _
  | own k off=>exact One.no
  | el a j=>exact One.no
 case build zs ps =>
  show One fun V=>aN _ F L ρ V;simp only[aN];cases e:built L ρ zs ps with
  | none=>exact One.no
  | some cs=>exact One.ret _
 case loadD ag n x =>
  show One fun V=>aN _ F L ρ V;simp only[aN];cases e:ev ρ x with
  | own k off =>
   simp only[];cases m:L.get k with
   | none=>exact One.no
   | some p =>
    cases p with
    | row=>exact One.no
    | box g t cs =>
     simp only[];cases e3:jz t ((cs.drop off).take n) n
     ·exact One.no
     ·exact One.ret _
  | el a j=>exact One.loadD fun _=>One.ret _
  | v x =>
   cases x<;>try exact One.no
   rename_i a;cases a
   ·exact One.no
   ·exact One.loadD fun _=>One.ret _
 case gload g =>
  show One fun V=>aN _ F L ρ V;simp only[aN];exact One.gl fun _=>One.ret _
 case loadR ag n x =>
  show One fun V=>aN _ F L ρ V;simp only[aN];cases e:ev ρ x with
  | own k off =>
   simp only[];cases m:L.get k with
   | none=>exact One.no
   | some p =>
    cases p with
    | row=>exact One.no
    | box g t cs =>
     simp only[];cases e3:jz t ((cs.drop off).take n) n
     ·exact One.no
     ·exact One.ret _
  | el a j=>exact One.aaG fun _=>One.ret _
  | v x =>
   cases x<;>try exact One.no
   rename_i a;cases a
   ·exact One.no
   ·exact One.aaG fun _=>One.ret _
 case mlook str ok z0 x i =>
  show One fun V=>aN _ F L ρ V;simp only[aN];cases e:ev ρ x with
  | own k off=>exact One.no
  | el a j=>exact One.no
  | v x =>
   cases x<;>try exact One.no
   rename_i a;cases a
   ·exact One.no
   ·exact One.aaJ fun k cs=>One.mlk
 case mlen x =>
  show One fun V=>aN _ F L ρ V;simp only[aN];cases e:ev ρ x with
  | own k off=>exact One.no
  | el a j=>exact One.no
  | v x =>
   cases x<;>try exact One.no
   rename_i a;cases a
   ·exact One.no
   ·exact One.aaJ fun k cs=>One.ret _
 case loadF ag n x =>
  show One fun V=>aN _ F L ρ V;simp only[aN];cases e:ev ρ x with
  | own k off=>exact One.no
  | el a j=>exact One.loadD fun _=>One.ret _
  | v x =>
   cases x<;>try exact One.no
   rename_i a;cases a
   ·exact One.no
   ·exact One.loadD fun _=>One.ret _
 case loadK key ag n x =>
  show One fun V=>aN _ F L ρ V;simp only[aN];cases e:ev ρ x with
  | own k off =>
   simp only[];cases e1:Nat.beq k key with
   | false=>exact One.no
   | true =>
    simp only[];cases m:L.get k with
    | none=>exact One.no
    | some p =>
     cases p with
     | row=>exact One.no
     | box g t cs =>
      simp only[];cases e3:jz t ((cs.drop off).take n) n
      ·exact One.no
      ·exact One.ret _
  | el a j=>exact One.no
  | v x=>exact One.no
 case b2sD x =>
  show One fun V=>aN _ F L ρ V;simp only[aN];cases e:ev ρ x with
  | own k off=>exact One.no
  | el a j=>exact One.no
  | v x =>
   cases x<;>try exact One.no
   exact One.loadD fun _=>One.bytes fun _=>One.ret _
 case nilck x =>
  show One fun V=>aN _ F L ρ V;simp only[aN];cases e:ev ρ x with
  | own k off=>exact One.ret _
  | el a j=>exact One.and (One.ret _)
  | v x =>
   cases x<;>try exact One.no
   ·rename_i a;cases a
    ·exact One.no
    ·exact One.ret _
   ·rename_i f a b;cases f<;>first
     | exact One.no
     | exact One.ret _
     | (simp only[]
        split
        ·exact One.and (One.ret _)
        ·exact One.no)
 case mkmv nm x =>
  show One fun V=>aN _ F L ρ V;simp only[aN];cases e:ev ρ x with
  | own k off=>exact One.no
  | el a j=>exact One.no
  | v x=>exact One.ret _
 case bin op x y =>
  show One fun V=>aN _ F L ρ V;simp only[aN];cases e:ev ρ x with
  | own k off=>exact One.no
  | el a j=>exact One.no
  | v u =>
   cases m:ev ρ y with
   | own k off=>cases u<;>exact One.no
   | el a j=>cases u<;>exact One.no
   | v d =>
    cases u<;>cases d<;>try exact One.no
    ·simp only[];cases Jd op
     ·simp only[];rename_i k n k' n';cases qM k k'
      ·exact One.no
      ·exact One.binI
     ·exact One.shI
    ·exact One.binS
 case eqB ng x y =>
  show One fun V=>aN _ F L ρ V;simp only[aN];cases e:ev ρ x with
  | own k off=>exact One.no
  | el a j=>exact One.no
  | v u =>
   cases m:ev ρ y with
   | own k off=>cases u<;>exact One.no
   | el a j=>cases u<;>exact One.no
   | v d=>cases u<;>cases d<;>first | exact One.no | exact One.ret _
 case eqP ng x y =>
  show One fun V=>aN _ F L ρ V;simp only[aN];cases e:ev ρ x with
  | own k off =>
   cases m:ev ρ y with
   | own k off=>exact One.no
   | el a j=>exact One.no
   | v d =>
    cases d<;>try exact One.no
    rename_i p;cases p<;>first | exact One.no | exact One.ret _
  | el a j =>
   cases m:ev ρ y with
   | own k off=>cases a<;>exact One.no
   | el b i=>cases a<;>exact One.no
   | v d =>
    cases a<;>cases d<;>try exact One.no
    rename_i p;cases p<;>first | exact One.no | exact One.ret _
  | v u =>
   cases m:ev ρ y with
   | own k off=>cases u<;>exact One.no
   | el a j=>cases u<;>exact One.no
   | v d =>
    cases u<;>cases d<;>try exact One.no
    rename_i p q;cases q<;>first | exact One.no | exact One.ret _
 case eqS ng x y =>
  show One fun V=>aN _ F L ρ V;simp only[aN];cases e:ev ρ x with
  | own k off=>exact One.no
  | el a j=>exact One.no
  | v u =>
   cases m:ev ρ y with
   | own k off=>cases u<;>exact One.no
   | el a j=>cases u<;>exact One.no
   | v d =>
    cases u<;>cases d<;>try exact One.no
    rename_i a1 l1 c1 a2 l2 c2;cases a2<;>first | exact One.no | exact One.ret _
 case eqF ng x y =>
  show One fun V=>aN _ F L ρ V;simp only[aN];cases e:ev ρ x with
  | own k off=>exact One.no
  | el a j=>exact One.no
  | v u =>
   cases m:ev ρ y with
   | own k off=>cases u<;>exact One.no
   | el a j=>cases u<;>exact One.no
   | v d=>cases u<;>cases d<;>first | exact One.no | exact One.ret _
 case eqN ng x =>
  show One fun V=>aN _ F L ρ V;simp only[aN];cases e:ev ρ x with
  | own k off=>exact One.no
  | el a j=>exact One.no
  | v u=>cases u<;>first | exact One.no | exact One.ret _
 case eqA ng ks x y =>
  show One fun V=>aN _ F L ρ V;simp only[aN];cases e:ev ρ x with
  | own k off=>exact One.no
  | el a j=>exact One.no
  | v u =>
   cases m:ev ρ y with
   | own k off=>cases u<;>exact One.no
   | el a j=>cases u<;>exact One.no
   | v d =>
    cases u<;>cases d<;>try exact One.no
    rename_i cs ds;simp only[];cases jA ks cs.toList ds.toList true<;>first | exact One.no | exact One.ret _
 case un op x =>
  show One fun V=>aN _ F L ρ V;simp only[aN];cases op<;>cases e:ev ρ x<;>first
   | exact One.no
   | (rename_i u;cases u<;>first | exact One.no | exact One.ret _ | exact One.fit fun _=>One.ret _)
 case conv k x =>
  show One fun V=>aN _ F L ρ V;simp only[aN];cases e:ev ρ x<;>first
   | exact One.no
   | (rename_i u;cases u<;>first | exact One.no | exact One.fit fun _=>One.ret _)
 case mkfn f a b=>exact One.ret _
 case slc sz x lo hi =>
  show One fun V=>aN _ F L ρ V;simp only[aN];cases e:ev ρ x<;>try exact One.no
  rename_i u;cases u<;>try exact One.no
  rename_i a n c;simp only[];cases jZ ρ 0 lo<;>cases jZ ρ n hi<;>first | exact One.no | exact One.slc fun _ _=>One.ret _
 case slcS x lo hi =>
  show One fun V=>aN _ F L ρ V;simp only[aN];cases e:ev ρ x<;>try exact One.no
  rename_i u;cases u<;>try exact One.no
  rename_i s;simp only[];cases jZ ρ 0 lo<;>cases jZ ρ s.size hi<;>first | exact One.no | exact One.slc fun _ _=>One.ret _
 case fieldA off x =>
  show One fun V=>aN _ F L ρ V;simp only[aN];cases e:ev ρ x with
  | own k off=>exact One.ret _
  | el a j=>exact One.ret _
  | v u =>
   cases u<;>try exact One.no
   rename_i p;cases p<;>first | exact One.no | exact One.ret _
 case fieldV ag off n x =>
  show One fun V=>aN _ F L ρ V;simp only[aN];cases e:ev ρ x<;>try exact One.no
  rename_i u;cases u<;>try exact One.no
  rename_i cs;simp only[];cases fZ ((cs.toList.drop off).take n) n<;>first | exact One.no | exact One.ret _
 case idxA sz x i =>
  show One fun V=>aN _ F L ρ V;simp only[aN];cases e:ev ρ x with
  | own k off=>exact One.no
  | el a j=>exact One.no
  | v u =>
   cases m:ev ρ i with
   | own k off=>cases u<;>exact One.no
   | el a j=>cases u<;>exact One.no
   | v d=>cases u<;>cases d<;>first | exact One.no | exact One.idx (One.ret _)
 case idxS x i =>
  show One fun V=>aN _ F L ρ V;simp only[aN];cases e:ev ρ x with
  | own k off=>exact One.no
  | el a j=>exact One.no
  | v u =>
   cases m:ev ρ i with
   | own k off=>cases u<;>exact One.no
   | el a j=>cases u<;>exact One.no
   | v d=>cases u<;>cases d<;>first | exact One.no | exact One.inb (One.ret _)
 case extr x i =>
  show One fun V=>aN _ F L ρ V;simp only[aN];cases e:ev ρ x<;>try exact One.no
  rename_i u;cases u<;>try exact One.no
  rename_i vs;simp only[];cases vs.toList[i]?<;>first | exact One.no | exact One.ret _
 case len x =>
  show One fun V=>aN _ F L ρ V;simp only[aN];cases e:ev ρ x<;>try exact One.no
  rename_i u;cases u<;>first | exact One.no | exact One.ret _
 case lenS x =>
  show One fun V=>aN _ F L ρ V;simp only[aN];cases e:ev ρ x<;>try exact One.no
  rename_i u;cases u<;>first | exact One.no | exact One.ret _
 case capa x =>
  show One fun V=>aN _ F L ρ V;simp only[aN];cases e:ev ρ x<;>try exact One.no
  rename_i u;cases u<;>first | exact One.no | exact One.ret _
 case mm mx l =>
  show One fun V=>aN _ F L ρ V;simp only[aN];cases e:l.map (ev ρ) with
  | nil=>exact One.no
  | cons u r =>
   cases u<;>try exact One.no
   rename_i u;cases u<;>try exact One.no
   rename_i k a0;simp only[];cases P1 mx a0 r<;>first | exact One.no | exact One.ret _
end
theorem tF {P:Program}{s s':eY}{d:Option Nat}{F:aF}{L:Loc}{ρ:Env}{K:dm}(h:drawn s=some s') (ab:(dL s'||iQ s'||fF s'||qB s'||ji s')=true) (ag:iQ s'=false) (f:evalOp P s' d F L ρ K):evalOp P s d F L ρ (fun F' L' ρ'=>Real F' L'->K F' L' ρ'):=by
 have load:∀{a:Option Addr}{j n:Nat}{KK KK':List Value->Prop},jg F a j n KK->(∀cs,KK cs->KK' cs)->j8 F L a j n KK':=by
  rintro a j n KK KK' ⟨cs,p,q,h3⟩ u;exact⟨cs,p,by rcases q with q | q;exact .inl q;exact .inr (.inr (.inl q)),u _ h3⟩
 have app:∀{e sz b:Nat}{sv z:Value}{KK KK':Loc->Value->Prop},qL F L d e sz b sv z KK->(∀L' v,(Real F L'->KK L' v)->KK' L' v)->FP F L e sz b sv z KK':=by
  rintro e sz b sv z KK KK' ⟨kd,n,xs,m,news,p,⟨ad,c,q,h3,u⟩,h5,h6,h7,h8⟩ hk;refine⟨kd,n,xs,m,news,?_,⟨ad,c,q,h3,?_⟩,h5,h6,h7,fun v hv=>hk _ _ (h8 v hv)⟩
  ·rcases p with p | ⟨_,p⟩ | ⟨_,p⟩
   ·exact .inl p
   ·exact .inr (.inl p)
   ·exact .inr (.inr p)
  ·rcases u with u | u
   ·exact .inl u
   ·exact .inr (.inl u)
 by_cases y:dL s'=true
 ·have r:=y;have p:∀V V':SV->Prop,(∀v,V v->V' v)->aN s' F L ρ V->aN s F L ρ V':=by
   intro V V' hV o;have o:=(gq r).mono V V' hV o;cases s<;>simp only[drawn,w7,reduceCtorEq] at h<;>subst h<;>first
    | exact o
    | (simp only[aN] at o ⊢
       split at o
       ·exact o
       ·exact load o fun _ h=>h
       ·exact load o fun _ h=>h
       ·exact o)
    | (simp only[aN] at o ⊢
       split at o
       ·exact load o fun _ h=>h
       ·exact o)
    | (exfalso;revert y;simp[dL];done)
  rw[cO r] at f;have q:=p _ (fun v=>Real F L->K F L (put d v ρ)) (fun v hv _=>hv) f;cases s<;>simp only[drawn,w7,reduceCtorEq] at h<;>subst h<;>first
   | exact q
   | (exfalso;revert y;simp[dL];done)
 ·by_cases w:ji s'=true
  ·cases s<;>simp only[drawn,w7,reduceCtorEq] at h<;>subst h<;>first | (cases w;done) | skip
   rename_i n a x;have l:(match fZ (aM (val L ρ x)) n,jQ (aM (val L ρ x)),ev ρ a with
    | true,true,.own k off=>match L.get k with
     | some (.box g t cs)=>match jz t ((cs.drop off).take n) n with
      | true=>K F (L.set k (.box g t (aR cs off (aM (val L ρ x))))) (put d (.v undef) ρ)
      | false=>False
     | _=>False
    | _,_,_=>False):=f
   clear f
   split at l
   case h_2=>exact l.elim
   rename_i e1 e2 e3;split at l
   case h_2=>exact l.elim
   rename_i e4;split at l
   case h_2=>exact l.elim
   rename_i e5;simp only[evalOp,e1,e2,e3,e4,e5];exact fun _=>l
  cases s<;>simp only[drawn,w7,reduceCtorEq] at h<;>subst h<;>first
   | (exfalso;revert y ab w;simp[dL,iQ,fF,qB,ji];done)
   | (cases ag;done)
   | (simp only[evalOp] at f ⊢
      split at f
      ·exact app f fun _ _ h=>h
      ·exact f)
   | (simp only[evalOp] at f ⊢
      split at f
      ·split at f
       ·exact f
       ·exact f
      ·exact f)
   | (simp only[evalOp] at f ⊢
      split at f
      ·exact fun g F' aa hg hr=>f g F' aa hg hr
      ·exact f)
section
variable {P:Program}{F:aF}{L:Loc}{ρ:Env}{K:dm}
def Alike (o:eY) (L L':Loc) (ρ ρ':Env):Prop:=∀x∈bO o,ev ρ' x=ev ρ x/\∀k off,ev ρ x=.own k off->L'.get k=L.get k
theorem Alike.val {o:eY}{L L':Loc}{ρ ρ':Env}(h:Alike o L L' ρ ρ') {x:X}(c:x∈bO o):Fr.val L' ρ' x=Fr.val L ρ x:=by
 obtain⟨d,b⟩:=h x c;simp only[Fr.val,d];cases e:ev ρ x with
 | v u=>rfl
 | el a j=>rfl
 | own k off=>simp only[conc,b k off e]
theorem dY {L L':Loc}{ρ ρ':Env}:∀{xs:List X},(∀x∈xs,Fr.val L' ρ' x=Fr.val L ρ x)->bE L' ρ' xs=bE L ρ xs
 | [],_=>rfl
 | x::xs,h=>by simp only[bE,h x (by simp),dY (xs:=xs) (fun y a=>h y (abb _ a))]
theorem cP {L L':Loc}{ρ ρ':Env}:∀{xs:List X},(∀x∈xs,Fr.val L' ρ' x=Fr.val L ρ x)->cellsOf L' ρ' xs=cellsOf L ρ xs
 | [],_=>rfl
 | x::xs,h=>by simp only[cellsOf,h x (by simp),cP (xs:=xs) (fun y a=>h y (abb _ a))]
theorem om {L L':Loc}{ρ ρ':Env}{sz:Nat}:∀{xs:List X},(∀x∈xs,Fr.val L' ρ' x=Fr.val L ρ x)->ga L' ρ' sz xs=ga L ρ sz xs
 | [],_=>rfl
 | x::xs,h=>by simp only[ga,h x (by simp),om (xs:=xs) (fun y a=>h y (abb _ a))]
theorem qX {L L':Loc}{ρ ρ':Env}:∀{ps:List (Nat×Nat×X)}{zs:List Value},(∀p∈ps,Fr.val L' ρ' p.2.2=Fr.val L ρ p.2.2)->built L' ρ' zs ps=built L ρ zs ps
 | [],zs,_=>rfl
 | (off,n,x)::ps,zs,h=>by
  have a:=h (off,n,x) (by simp);simp only at a;simp only[built,a];split
  ·exact qX (fun p b=>h p (by simp[b]))
  ·rfl
theorem jg.up {F F':aF}(c:F.le F') {a:Option Addr}{j n:Nat}{K:List Value->Prop}(h:jg F a j n K):jg F' a j n K:=by
 obtain⟨cs,e,b,d⟩:=h;exact⟨cs,e,by rcases b with b | b;exact .inl (b.mono c);exact .inr b,d⟩
theorem j8.upF {F F':aF}(c:F.le F') {L:Loc}{a:Option Addr}{j n:Nat}{K:List Value->Prop}(h:j8 F L a j n K):j8 F' L a j n K:=by
 obtain⟨cs,e,b,d⟩:=h;exact⟨cs,e,by rcases b with b | b;exact .inl (b.mono c);exact .inr b,d⟩
theorem pX {ρ ρ':Env}{d:Int}{x:Option X}(h:∀y∈x.toList,ev ρ' y=ev ρ y):jZ ρ' d x=jZ ρ d x:=by
 cases x with
 | none=>rfl
 | some y=>simp only[jZ,h y (by simp)]
theorem rY {o:eY}(w:dL o=true) {F F':aF}{L L':Loc}{ρ ρ':Env}(s:F.le F') (H:Alike o L L' ρ ρ') {V:SV->Prop}(h:aN o F L ρ V) (m:JB o=false\/L'=L:=by exact .inr rfl):aN o F' L' ρ' V:=by
 cases o<;>first | (cases w;done) | skip
 case build zs ps =>
  have e:=qX (ps:=ps) (zs:=zs) (L:=L) (L':=L') (ρ:=ρ) (ρ':=ρ') (fun p hp=>H.val (abk.2 ⟨p,hp,rfl⟩));simp only[aN,e] at h ⊢;exact h
 case mkfn f a b =>
  have j:=dY (xs:=a) (L:=L) (L':=L') (ρ:=ρ) (ρ':=ρ') (fun x r=>H.val (xo.2 (.inl r)));have q:=dY (xs:=b) (L:=L) (L':=L') (ρ:=ρ) (ρ':=ρ') (fun x r=>H.val (xo.2 (.inr r)));simp only[aN,j,q] at h ⊢;exact h
 case mm mx l =>
  have e:l.map (ev ρ')=l.map (ev ρ):=abK fun x r=>(H x r).1;simp only[aN,e] at h ⊢;exact h
 case slc sz x lo hi =>
  have e:=(H x (by simp[bO])).1;have j:∀d,jZ ρ' d lo=jZ ρ d lo:=fun d=>pX fun y v=>(H y (by simp only[bO];exact abb _ (xo.2 (.inl v)))).1;have q:∀d,jZ ρ' d hi=jZ ρ d hi:=fun d=>pX fun y v=>(H y (by simp only[bO];exact abb _ (xo.2 (.inr v)))).1;simp only[aN,e,j,q] at h ⊢;exact h
 case slcS x lo hi =>
  have e:=(H x (by simp[bO])).1;have j:∀d,jZ ρ' d lo=jZ ρ d lo:=fun d=>pX fun y v=>(H y (by simp only[bO];exact abb _ (xo.2 (.inl v)))).1;have q:∀d,jZ ρ' d hi=jZ ρ d hi:=fun d=>pX fun y v=>(H y (by simp only[bO];exact abb _ (xo.2 (.inr v)))).1;simp only[aN,e,j,q] at h ⊢;exact h
 case loadD ag n x =>
  obtain⟨e,j⟩:=H x (by simp[bO]);simp only[aN,e] at h ⊢;split at h
  ·rename_i k off r;simp only[j k off r];exact h
  ·exact h.up s
  ·exact h.up s
  ·exact h
 case gload g =>
  simp only[aN] at h ⊢;obtain⟨u,t,fr,h1,z⟩:=h;exact⟨u,t,fr,s _ _ h1,z⟩
 case loadR ag n x =>
  obtain⟨e,j⟩:=H x (by simp[bO]);rcases m with m | rfl
  ·cases m
  ·simp only[aN,e] at h ⊢;split at h
   ·exact h
   ·exact h.upF s
   ·exact h.upF s
   ·exact h
 case mlook str ok z0 x i =>
  obtain⟨e,j⟩:=H x (by simp[bO]);have q:val L' ρ' i=val L ρ i:=H.val (by simp[bO]);rcases m with m | rfl
  ·cases m
  ·simp only[aN,e,q] at h ⊢;exact h
 case mlen x =>
  obtain⟨e,j⟩:=H x (by simp[bO]);rcases m with m | rfl
  ·cases m
  ·simp only[aN,e] at h ⊢;exact h
 case loadF ag n x =>
  obtain⟨e,j⟩:=H x (by simp[bO]);simp only[aN,e] at h ⊢;split at h
  ·exact h.up s
  ·exact h.up s
  ·exact h
 case loadK key ag n x =>
  obtain⟨e,j⟩:=H x (by simp[bO]);simp only[aN,e] at h ⊢;split at h
  ·rename_i k off r;simp only[j k off r];exact h
  ·exact h
 case b2sD x =>
  obtain⟨e,j⟩:=H x (by simp[bO]);simp only[aN,e] at h ⊢;split at h
  ·exact h.up s
  ·exact h
 case b2sR x =>
  obtain⟨e,j⟩:=H x (by simp[bO]);rcases m with m | rfl
  ·cases m
  ·simp only[aN,e] at h ⊢;exact h
 case pick c a b =>
  have j:=(H c (by simp[bO])).1;have q:=(H a (by simp[bO])).1;have e3:=(H b (by simp[bO])).1;simp only[aN,j,q,e3] at h ⊢;exact h
 all_goals first
  | (have j:=(H _ (List.mem_cons_self ..)).1
     simp only[aN,j] at h ⊢;exact h)
  | (have j:=(H _ (List.mem_cons_self ..)).1
     have q:=(H _ (abb _ (List.mem_cons_self ..))).1;simp only[aN,j,q] at h ⊢;exact h)
theorem JC {o:eY}(h:dL o=true) {k off:Nat}(d:aN o F L ρ (fun u=>u=.own k off)):∃x∈bO o,∃f,ev ρ x=.own k f:=by
 cases o<;>first | (cases h;done) | skip
 case mov x=>exact⟨x,by simp[bO],off,d⟩
 case pick c a b =>
  simp only[aN] at d;split at d
  ·exact⟨a,by simp[bO],off,d⟩
  ·exact⟨b,by simp[bO],off,d⟩
  ·exact d.elim
 case nilck x =>
  simp only[aN] at d;split at d
  ·rename_i j f e;injection d with h1 h2
   subst h1;exact⟨x,by simp[bO],f,e⟩
  ·cases d.2
  ·cases d
  ·cases d
  ·split at d
   ·cases d.2
   ·exact d.elim
  ·exact d.elim
 case mkmv nm x =>
  simp only[aN] at d;split at d
  ·cases d
  ·exact d.elim
 case fieldA o' x =>
  simp only[aN] at d;split at d
  ·rename_i j f e;injection d with h1 h2
   subst h1;exact⟨x,by simp[bO],f,e⟩
  ·cases d
  ·cases d
  ·exact d.elim
 case bin op x y =>
  simp only[aN] at d;split at d
  ·split at d
   ·cases op<;>simp only[shI] at d<;>first | exact d.elim | (obtain⟨_,⟨d⟩⟩:=d;cases d;done) | (obtain⟨_,d⟩:=d;cases d;done)
   ·split at d
    ·cases op<;>simp only[binI] at d<;>first | exact d.elim | (cases d;done) | (obtain⟨d⟩:=d;cases d;done) | (obtain⟨_,⟨d⟩⟩:=d;cases d;done) | (obtain⟨_,d⟩:=d;cases d;done)
    ·exact d.elim
  ·cases op<;>simp only[binS] at d<;>first | exact d.elim | (cases d;done) | (obtain⟨_,d⟩:=d;cases d;done)
  ·exact d.elim
 case loadD ag n x =>
  simp only[aN] at d;split at d
  ·split at d
   ·split at d
    ·cases d
    ·exact d.elim
   ·exact d.elim
  ·obtain⟨cs,_,_,d⟩:=d;cases d
  ·obtain⟨cs,_,_,d⟩:=d;cases d
  ·exact d.elim
 case gload g =>
  simp only[aN] at d;obtain⟨u,t,l,_,d⟩:=d;cases d
 case loadR ag n x =>
  simp only[aN] at d;split at d
  ·split at d
   ·split at d
    ·cases d
    ·exact d.elim
   ·exact d.elim
  ·obtain⟨cs,_,_,d⟩:=d;cases d
  ·obtain⟨cs,_,_,d⟩:=d;cases d
  ·exact d.elim
 case mlook str ok z0 x i =>
  simp only[aN] at d;split at d
  ·obtain⟨k,cs,_,_,⟨⟨i,v,_,d⟩ | ⟨_,d⟩⟩⟩:=d<;>cases d
  ·exact d.elim
 case mlen x =>
  simp only[aN] at d;split at d
  ·obtain⟨k,cs,_,_,d⟩:=d;cases d
  ·exact d.elim
 case loadF ag n x =>
  simp only[aN] at d;split at d
  ·obtain⟨cs,_,_,d⟩:=d;cases d
  ·obtain⟨cs,_,_,d⟩:=d;cases d
  ·exact d.elim
 case loadK key ag n x =>
  simp only[aN] at d;split at d
  ·split at d
   ·split at d
    ·split at d
     ·cases d
     ·exact d.elim
    ·exact d.elim
   ·exact d.elim
  ·exact d.elim
 case b2sD x =>
  simp only[aN] at d;split at d
  ·obtain⟨cs,_,_,⟨bs,_,d⟩⟩:=d;cases d
  ·exact d.elim
 case b2sR x =>
  simp only[aN] at d;split at d
  ·obtain⟨_,_,_,bs,_,_,_,d⟩:=d;cases d
  ·exact d.elim
 all_goals
  simp only[aN] at d
  repeat' split at d
 all_goals first
  | exact d.elim
  | (cases d;done)
  | (obtain⟨d⟩:=d;cases d;done)
  | (obtain⟨_,_,d⟩:=d;cases d;done)
  | (obtain⟨_,_,_,d⟩:=d;cases d;done)
end
theorem M7 {P:Program}{s s':eY}{d:Option Nat}{F:aF}{L:Loc}{ρ:Env}{K:dm}(h:x9 s=some s') (c:evalOp P s' d F L ρ K):evalOp P s d F L ρ (fun F' L' ρ'=>Real F' L'->K F' L' ρ'):=by
 cases s<;>simp only[x9,w7,reduceCtorEq] at h<;>subst h
 case store n a x =>
  simp only[evalOp] at c ⊢;generalize fZ (aM (val L ρ x)) n=z1 at c ⊢;generalize jQ (aM (val L ρ x))=z2 at c ⊢;generalize ev ρ a=z3 at c ⊢;split at c
  ·rename_i k off;generalize L.get k=z at c ⊢;split at c
   ·rename_i g t cs;generalize jz t ((cs.drop off).take n) n=b at c ⊢;cases b
    ·exact c.elim
    ·exact c
   ·exact c.elim
  ·exact⟨.inl c⟩
  ·exact⟨.inl c⟩
  ·exact c.elim
 case mupd =>
  simp only[evalOp] at c ⊢;split at c
  ·obtain⟨k,cs,l,f,q,cs',w,u⟩:=c;exact⟨k,cs,l,f,q,cs',w,fun _=>u⟩
  ·exact c.elim
 ·simp only[evalOp] at c ⊢;exact c
 ·simp only[evalOp] at c ⊢;split at c
  ·exact c
  ·exact c.elim
 ·simp only[evalOp] at c ⊢;split at c
  ·exact c
  ·exact c.elim
 ·simp only[evalOp] at c ⊢;split at c
  ·rename_i dv o r p;rw[r,p];cases o<;>first
    | exact c
    | (obtain⟨⟨k,n,v,nr,xs,y,cr,cd,j,m,ax,cx,news,_,_,_,_,e,_⟩ | ⟨_,_,_,_,_,_,_,e,_⟩⟩:=c<;>cases e)
  ·exact c.elim
theorem sM {P:Program}{F:aF}{L:Loc}{ρ:Env}{K:dm}{n:Nat}{a x:X}{d:Option Nat}:evalOp P (.storeD n a x) d F L ρ K=(match fZ (aM (val L ρ x)) n,jQ (aM (val L ρ x)),ev ρ a with
  | true,true,.own k off=>match L.get k with
   | Option.some (.box g t cs)=>match jz t ((cs.drop off).take n) n with
    | true=>K F (L.set k (.box g t (aR cs off (aM (val L ρ x))))) (put d (.v undef) ρ)
    | false=>False
   | _=>False
  | _,_,_=>False):=rfl
theorem sN {P:Program}{F:aF}{L:Loc}{ρ:Env}{K:dm}{key n:Nat}{a x:X}{d:Option Nat}:evalOp P (.storeK key n a x) d F L ρ K=(match fZ (aM (val L ρ x)) n,jQ (aM (val L ρ x)),ev ρ a with
  | true,true,.own k off=>match Nat.beq k key with
   | true=>match L.get k with
    | Option.some (.box g t cs)=>match jz t ((cs.drop off).take n) n with
     | true=>K F (L.set k (.box g t (aR cs off (aM (val L ρ x))))) (put d (.v undef) ρ)
     | false=>False
    | _=>False
   | false=>False
  | _,_,_=>False):=rfl
theorem jl {P:Program}{F:aF}{L:Loc}{ρ:Env}{K:dm}{o:eY}{d:Option Nat}(m:ji o=true) (b:evalOp P o d F L ρ K) :
  ∃n a x k off g t cs,(o=.storeD n a x\/o=.storeK k n a x)/\fZ (aM (val L ρ x)) n=true/\jQ (aM (val L ρ x))=true/\ev ρ a=.own k off/\L.get k=some (.box g t cs)/\jz t ((cs.drop off).take n) n=true /\
   K F (L.set k (.box g t (aR cs off (aM (val L ρ x))))) (put d (.v undef) ρ):=by
 cases o<;>first | (cases m;done) | skip
 case storeD n a x =>
  rw[sM] at b;split at b
  case h_2=>exact b.elim
  rename_i k off e f l;split at b
  case h_2=>exact b.elim
  rename_i g t cs h;split at b
  case h_2=>exact b.elim
  rename_i j;exact⟨n,a,x,k,off,g,t,cs,.inl rfl,e,f,l,h,j,b⟩
 case storeK key n a x =>
  rw[sN] at b;split at b
  case h_2=>exact b.elim
  rename_i k off e f l;split at b
  case h_2=>exact b.elim
  rename_i c;have c:=v8 c;subst c;split at b
  case h_2=>exact b.elim
  rename_i g t cs h;split at b
  case h_2=>exact b.elim
  rename_i j;exact⟨n,a,x,k,off,g,t,cs,.inr rfl,e,f,l,h,j,b⟩
theorem i9 {P:Program}{F:aF}{L:Loc}{ρ:Env}{K:dm}{o:eY}{d:Option Nat}{n:Nat}{a x:X}{k off g:Nat}{t:TypeId}{cs:List Value}(m:o=.storeD n a x\/o=.storeK k n a x) (b:fZ (aM (val L ρ x)) n=true) (c:jQ (aM (val L ρ x))=true) (h:ev ρ a=.own k off) (e:L.get k=some (.box g t cs)) (f:jz t ((cs.drop off).take n) n=true)
  (j:K F (L.set k (.box g t (aR cs off (aM (val L ρ x))))) (put d (.v undef) ρ)):evalOp P o d F L ρ K:=by
 rcases m with rfl | rfl
 ·rw[sM];simp only[b,c,h,e,f];exact j
 ·rw[sN];have l:Nat.beq k k=true:=by simp
  simp only[b,c,h,l,e,f];exact j
theorem AE {x:X}{n:Int}{ρ:Env}(h:BD x=some n):∃k,ev ρ x=.v (.int k n):=by
 unfold BD at h;split at h
 ·injection h with h;subst h;exact⟨_,rfl⟩
 ·cases h
theorem M8 {L:Loc}{ρ:Env}{x:X}{k:IntKind}{m:Int}(h:val L ρ x=.int k m):ev ρ x=.v (.int k m):=by
 unfold val at h;cases e:ev ρ x with
 | v u=>rw[e] at h;exact j3 SV.v h
 | own j off =>
  rw[e] at h;simp only[conc] at h;split at h<;>cases h
 | el a j =>
  rw[e] at h;cases a<;>cases h
theorem M9 {b:Nat}{n m:Int}(h:Rt b n m=true):0<=n/\n=m/\n.toNat*b<=140737488355328/\n.toNat<=maxLen:=by
 simp only[Rt,yo] at h;obtain⟨⟨d,c⟩,a⟩:=h;split at a
 ·have a:=v8 a;subst a;exact⟨by simp,rfl,aa3 d,aa3 c⟩
 ·cases a
theorem Na {P:Program}{bx:List Nat}{s s':eY}{d:Option Nat}{F:aF}{L:Loc}{ρ:Env}{K:dm}(h:oI bx s=some s') (o:(dL s'||iQ s'||fF s'||qB s'||ji s')=true) (p:iQ s'=false) (b:evalOp P s' d F L ρ K):evalOp P s d F L ρ (fun F' L' ρ'=>Real F' L'->K F' L' ρ'):=by
 unfold oI at h;split at h
 ·split at h
  ·rename_i n m f l;split at h
   ·rename_i u;injection h with h
    subst h;obtain⟨k1,f⟩:=AE (ρ:=ρ) f;obtain⟨k2,l⟩:=AE (ρ:=ρ) l;obtain⟨y,w,z,v⟩:=M9 u;subst w;simp only[evalOp,f,l] at b ⊢;split at b
    ·rename_i k;split at b
     ·rename_i q _ _;simp only[q];exact⟨y,abj _,z,v,b⟩
     ·exact b.elim
    ·exact b.elim
   ·cases h
  ·split at h
   ·rename_i i j _ _;split at h
    ·rename_i c;have c:=v8 c;subst c;injection h with h
     subst h;simp only[evalOp] at b ⊢;split at b
     ·rename_i k;split at b
      ·rename_i q _ u;obtain⟨ki,m,f,y,w,z,v⟩:=CV u;have l:=M8 f;simp only[l,q];rw[w] at b;exact⟨y,abj _,z,v,b⟩
      ·exact b.elim
     ·exact b.elim
    ·cases h
   ·cases h
 ·rename_i e sz;injection h with h
  subst h;simp only[evalOp] at b ⊢;split at b
  ·rename_i k;split at b
   ·rename_i q _ _;simp only[ga,q];exact b
   ·exact b.elim
  ·exact b.elim
 ·rename_i a n i;split at h
  ·injection h with h
   subst h;refine tF (s:=.load a n (.t i)) (s':=.loadD a n (.t i)) rfl rfl rfl ?_;simp only[evalOp,aN] at b ⊢;split at b
   ·rename_i k off e;simp only[e];split at b
    ·exact b
    ·exact b.elim
   ·exact b.elim
  ·injection h with h
   subst h;exact tF (s:=.load a n (.t i)) rfl o p b
 ·rename_i n i x;split at h
  ·injection h with h
   subst h;obtain⟨n',a',x',k,off,g,t,cs,r,f,l,e3,e4,e5,b⟩:=jl rfl b;rcases r with r | r
   ·cases r
   ·injection r with h1 h2 h3 h4
    subst h1 h2 h3 h4;exact tF (s:=.store n (.t i) x) (s':=.storeD n (.t i) x) rfl rfl rfl (i9 (.inl rfl) f l e3 e4 e5 b)
  ·injection h with h
   subst h;exact tF (s:=.store n (.t i) x) rfl o p b
 ·exact tF h o p b
def Loc.sameAs (L L':Loc):Prop:=∀j,L'.get j=L.get j
theorem yc {P:Program}{f:Nat}{args:List Value}{F:aF}{L:Loc}{d:Option Nat}{KK:aF->Loc->Value->Prop}(h:eV P f args F L d KK):dQ P f args F L (fun F' L' v=>∃L2,L'.sameAs L2/\(Real F' L2->KK F' L2 v)):=by
 cases h with
 | frz R q r =>
  refine⟨[],[],[],R,rfl,List.nodup_nil,List.nodup_nil,fun _ h=>(by cases h),q,fun v F' Lo a m=>?_⟩;obtain⟨rfl,z⟩:=r v F' Lo a m;exact⟨rfl,fun _ _ _ _ h=>(by cases h),_,fun _=>rfl,z⟩
 | own R k q hd s r =>
  refine⟨[],[k],[],R,rfl,List.nodup_nil,by simp,fun j p=>.inr (by simp at p;rw[p];exact s),q,fun v F' Lo a m=>?_⟩;obtain⟨o,rfl,z⟩:=r v F' Lo a m;exact⟨rfl,fun _ _ _ _ h=>(by cases h),_,fun _=>rfl,z⟩
 | row R x rv t sz n xs q s r =>
  refine⟨[x],[x],[.row rv t sz n xs],fun F Lo v=>Lo=[.row (.slice none 0 0) t sz 0 []]/\R F [] v,?_,by simp,by simp,fun j p=>.inl p,⟨q.ent,fun F G L v a hr=>⟨hr.1,q.mono _ _ _ _ a hr.2⟩,fun w hs=>(q.run w hs).mono ?_⟩,fun v F' Lo a m=>?_⟩
  ·simp only[Loc.sub,s]
  ·rintro e w' ⟨v,F',Lo,rfl,y,l,m⟩;obtain⟨rfl,_⟩:=r v F' Lo l.le m;have hb:(Own.row (.slice none 0 0) t sz 0 []).blk=none:=rfl;have hg:∀j o,Loc.get (inp [.row (.slice none 0 0) t sz 0 []]) j=some o->o=.row (.slice none 0 0) t sz 0 []:=by
    intro j o e;rw[bg] at e;split at e
    ·cases p:j-1000 with
     | zero=>rw[p] at e;simpa using e.symm
     | succ i=>rw[p] at e;simp at e
    ·cases e
   have ac:∀b,¬(inp [.row (.slice none 0 0) t sz 0 []]).owns b:=by
    rintro b ⟨j,o,e,c⟩;rw[hg j o e,hb] at c;cases c
   refine⟨v,F',_,rfl,⟨y.frz,fun j o e=>?_,fun j o g e c=>?_,fun j j' o o' g e e' c=>?_,y.glob⟩,⟨l.le,l.os,l.tape,l.output,l.size,l.same,l.frz,fun b hb=>p7 hb (ac b)⟩,rfl,m⟩
   ·rw[hg j o e];exact World.ownsRow_nil w' 0 t sz
   ·rw[hg j o e,hb] at c;cases c
   ·rw[hg j o e,hb] at c;cases c
  ·obtain⟨rfl,m⟩:=m;obtain⟨_,z⟩:=r v F' [] a m;refine⟨rfl,fun k g t' cs u e=>?_,L.set x (.row (.slice none 0 0) t sz 0 []),fun j=>?_,z⟩
   ·rw[abv.1 u,s] at e;cases e
   ·simp only[Loc.aaf,Loc.puts,Loc.aac,Loc.aai];split<;>rfl
 | lent R x rv t sz n xs q s r =>
  refine⟨[x],[x],[.row rv t sz n xs],_,by simp only[Loc.sub,s],by simp,by simp,fun j p=>.inl p,q,fun v F' Lo a m=>?_⟩;obtain⟨rfl,m⟩:=m;refine⟨rfl,fun k g t' cs u e=>?_,L,fun j=>?_,r v F' a m⟩
  ·rw[abv.1 u,s] at e;cases e
  ·simp only[Loc.aaf,Loc.puts,Loc.aac,Loc.aai];split
   ·rename_i p;rw[p,s]
   ·rfl
theorem Nb {P:Program}{bx:List Nat}{s s':eY}{d:Option Nat}{F:aF}{L:Loc}{ρ:Env}{K:dm}(h:oI bx s=some s') (a:iQ s'=true) (b:evalOp P s' d F L ρ K):evalOp P s d F L ρ (fun F' L' ρ'=>∃L2,L'.sameAs L2/\(Real F' L2->K F' L2 ρ')):=by
 unfold oI at h;split at h
 ·split at h
  ·split at h
   ·injection h with h;subst h;cases a
   ·cases h
  ·split at h
   ·split at h
    ·injection h with h;subst h;cases a
    ·cases h
   ·cases h
 ·injection h with h;subst h;cases a
 ·split at h
  ·injection h with h;subst h;cases a
  ·injection h with h;subst h;cases a
 ·split at h
  ·injection h with h;subst h;cases a
  ·injection h with h;subst h;cases a
 ·cases s<;>simp only[drawn,w7,reduceCtorEq] at h<;>subst h<;>first | (cases a;done) | skip
  ·simp only[evalOp] at b ⊢;exact yc b
  ·simp only[evalOp] at b ⊢;split at b
   ·exact yc b
   ·exact b.elim
theorem yd {fl bx:List Nat}{bk:List (Nat×Nat)}{s s':eY}(h:vo fl bk bx s=some s'):oI bx s=some s'\/(∃a n i,s=.load a n (.t i)/\s'=.loadF a n (.t i))\/(∃a n i key,s=.load a n (.t i)/\s'=.loadK key a n (.t i))\/(∃a n i,s=.load a n (.t i)/\s'=.loadR a n (.t i))\/∃i,s=.b2s (.t i)/\s'=.b2sR (.t i):=by
 unfold vo at h;split at h
 ·rename_i a n i;split at h
  ·injection h with h
   exact .inr (.inl ⟨a,n,i,rfl,h.symm⟩)
  ·split at h
   ·rename_i key _;split at h
    ·injection h with h
     exact .inr (.inr (.inr (.inl ⟨a,n,i,rfl,h.symm⟩)))
    ·injection h with h
     exact .inr (.inr (.inl ⟨a,n,i,key,rfl,h.symm⟩))
   ·exact .inl h
 ·rename_i i;split at h
  ·injection h with h
   exact .inr (.inr (.inr (.inr ⟨i,rfl,h.symm⟩)))
  ·exact .inl h
 ·exact .inl h
theorem HB {o:Bool}{n:Nat}{x:X}{F:aF}{L:Loc}{ρ:Env}{V V':SV->Prop}(h:aN (.load o n x) F L ρ V) (a:∀v,V v->V' v):aN (.load o n x) F L ρ V':=by
 have:=One.mono (T:=fun V=>aN (.loadR o n x) F L ρ V) (gq rfl) V V' a h;exact this
theorem Nc {P:Program}{fl bx:List Nat}{bk:List (Nat×Nat)}{s s':eY}{d:Option Nat}{F:aF}{L:Loc}{ρ:Env}{K:dm}(h:vo fl bk bx s=some s') (l:(dL s'||iQ s'||fF s'||qB s'||ji s')=true) (m:iQ s'=false) (f:evalOp P s' d F L ρ K):evalOp P s d F L ρ (fun F' L' ρ'=>Real F' L'->K F' L' ρ'):=by
 rcases yd h with h | ⟨a,n,i,rfl,rfl⟩ | ⟨a,n,i,key,rfl,rfl⟩ | ⟨a,n,i,rfl,rfl⟩ | ⟨i,rfl,rfl⟩
 rotate_left 3
 ·have f:aN (.load a n (.t i)) F L ρ (fun v=>K F L (put d v ρ)):=f;exact HB f fun v h _=>h
 rotate_left
 ·exact Na h l m f
 ·refine tF (s:=.load a n (.t i)) (s':=.loadD a n (.t i)) rfl rfl rfl ?_;simp only[evalOp,aN] at f ⊢;split at f
  ·rename_i e;simp only[e];exact f
  ·rename_i e;simp only[e];exact f
  ·exact f.elim
 ·refine tF (s:=.load a n (.t i)) (s':=.loadD a n (.t i)) rfl rfl rfl ?_;simp only[evalOp,aN] at f ⊢;split at f
  ·rename_i k off e;simp only[e];split at f
   ·exact f
   ·exact f.elim
  ·exact f.elim
 ·have f:aN (.b2sR (.t i)) F L ρ (fun v=>K F L (put d v ρ)):=f;show aN (.b2s (.t i)) F L ρ (fun v=>Real F L->K F L (put d v ρ));unfold aN at f ⊢
  dsimp only at f ⊢
  split at f
  ·rename_i j n c e;obtain⟨k,ty,q,bs,p,o,w,x⟩:=f;refine⟨bs.map fun b=>Value.int .u8 b.toNat,by simp[o],?_,bs,rfl,fun _=>x⟩;cases j with
   | none=>exact .inr (.inr (.inl (w rfl)))
   | some j=>exact .inr (.inl ⟨k,_,ty,1,n,_,j,q,p,rfl,rfl,fun i u r=>by rw[Nat.zero_add];exact r⟩)
  ·exact f.elim
theorem JD {P:Program}{fl bx:List Nat}{bk:List (Nat×Nat)}{s s':eY}{d:Option Nat}{F:aF}{L:Loc}{ρ:Env}{K:dm}(h:vo fl bk bx s=some s') (b:iQ s'=true) (c:evalOp P s' d F L ρ K):evalOp P s d F L ρ (fun F' L' ρ'=>∃L2,L'.sameAs L2/\(Real F' L2->K F' L2 ρ')):=by
 rcases yd h with h | ⟨a,n,i,rfl,rfl⟩ | ⟨a,n,i,key,rfl,rfl⟩ | ⟨a,n,i,rfl,rfl⟩ | ⟨i,rfl,rfl⟩
 ·exact Nb h b c
 ·cases b
 ·cases b
 ·cases b
 ·cases b
theorem set_comm:∀(L:Loc) {k f:Nat}(o o':Own),k≠f->(L.set k o).set f o'=(L.set f o').set k o:=by
 intro L k f o o' h;have hb:Nat.beq k f=false:=by cases e:Nat.beq k f with | true=>exact p7 (v8 e) h | false=>rfl
 have b:Nat.beq f k=false:=by cases e:Nat.beq f k with | true=>exact p7 (v8 e).symm h | false=>rfl
 have a:∀{i j:Nat},Nat.beq i j=false->(Nat.ble i j=true/\Nat.ble j i=false)\/(Nat.ble i j=false/\Nat.ble j i=true):=by
  intro i j v;have u:=gh v;rcases Nat.lt_or_gt_of_ne u with ae | aa
  ·refine .inl ⟨Nat.ble_eq_true_of_le (by omega),?_⟩;cases e:Nat.ble j i with | true=>have:=aa3 e;omega | false=>rfl
  ·refine .inr ⟨?_,Nat.ble_eq_true_of_le (by omega)⟩;cases e:Nat.ble i j with | true=>have:=aa3 e;omega | false=>rfl
 induction L with
 | nil =>
  simp only[Loc.set,hb,b];rcases a hb with⟨d,m⟩ | ⟨d,m⟩<;>simp only[d,m,Loc.set]
 | cons p l ih =>
  obtain⟨j,q⟩:=p;cases n:Nat.beq j k with
  | true =>
   have:=v8 n;subst this;have c:Nat.beq j j=true:=by simp
   simp only[Loc.set,c,hb,b];rcases a hb with⟨d,m⟩ | ⟨d,m⟩
   ·simp only[d,Loc.set,c]
   ·simp only[d,m,Loc.set,c,b]
  | false =>
   cases r:Nat.beq j f with
   | true =>
    have:=v8 r;subst this;have c:Nat.beq j j=true:=by simp
    simp only[Loc.set,c,hb,b];rcases a b with⟨d,m⟩ | ⟨d,m⟩
    ·simp only[d,Loc.set,c]
    ·simp only[d,m,Loc.set,c,hb]
   | false =>
    simp only[Loc.set,n,r];rcases a n with⟨s,y⟩ | ⟨s,y⟩<;>rcases a r with⟨t,z⟩ | ⟨t,z⟩
    ·simp only[s,t,Loc.set,n,r,ih]
    ·simp only[s,t,Loc.set,n,r,hb,b];have d:Nat.ble f k=true:=by
      have x1:=aa3 s;have x2:=aa3 z;exact Nat.ble_eq_true_of_le (by omega)
     simp only[d]
    ·simp only[s,t,Loc.set,n,r,hb,b];have d:Nat.ble k f=true:=by
      have x1:=aa3 t;have x2:=aa3 y;exact Nat.ble_eq_true_of_le (by omega)
     simp only[d]
    ·rcases a hb with⟨x,w⟩ | ⟨x,w⟩
     ·simp only[s,t,Loc.set,n,r,hb,b,x,w]
     ·simp only[s,t,Loc.set,n,r,hb,b,x,w]
theorem put_comm {d a:Option Nat}{v u:SV}{ρ:Env}(h:∀k,d=some k->a≠some k):put d v (put a u ρ)=put a u (put d v ρ):=by
 funext t
 simp only[put_eq];cases d with
 | none=>rfl
 | some k =>
  cases a with
  | none=>rfl
  | some e =>
   have:=h k rfl;simp only[];split<;>split
   ·rename_i c b;subst c;subst b;exact p7 rfl this
   ·rfl
   ·rfl
   ·rfl
def cR:List X->List Nat
 | []=>[]
 | .t n::l=>n::cR l
 | .mt _ n::l=>n::cR l
 | _::l=>cR l
theorem nD:∀{l:List X}{n:Nat},X.t n∈l->n∈cR l
 | [],n,h=>by cases h
 | .t m::l,n,h=>by
  simp only[cR,aaQ];rcases aaQ.1 h with h | h
  ·injection h with h;exact .inl h
  ·exact .inr (nD h)
 | .c v::l,n,h=>by
  rcases aaQ.1 h with h | h
  ·cases h
  ·exact nD (l:=l) h
 | .fn f::l,n,h=>by
  rcases aaQ.1 h with h | h
  ·cases h
  ·exact nD (l:=l) h
 | .mt nm m::l,n,h=>by
  simp only[cR,aaQ];rcases aaQ.1 h with h | h
  ·cases h
  ·exact .inr (nD h)
theorem pu:∀{l:List X}{nm:String}{n:Nat},X.mt nm n∈l->n∈cR l
 | [],_,n,h=>by cases h
 | .t m::l,nm,n,h=>by
  simp only[cR,aaQ];rcases aaQ.1 h with h | h
  ·cases h
  ·exact .inr (pu h)
 | .c v::l,nm,n,h=>by
  rcases aaQ.1 h with h | h
  ·cases h
  ·exact pu (l:=l) h
 | .fn f::l,nm,n,h=>by
  rcases aaQ.1 h with h | h
  ·cases h
  ·exact pu (l:=l) h
 | .mt a m::l,nm,n,h=>by
  simp only[cR,aaQ];rcases aaQ.1 h with h | h
  ·injection h with h1 h2;exact .inl h2
  ·exact .inr (pu h)
theorem gW {l:List X}{d:Option Nat}{v:SV}{ρ:Env}(h:∀k,d=some k->k∉cR l):∀x∈l,ev (put d v ρ) x=ev ρ x:=by
 intro x a;cases x with
 | t n =>
  simp only[ev,put_eq];cases d with
  | none=>rfl
  | some k =>
   simp only[];rw[vv];intro e;subst e;exact h n rfl (nD a)
 | c v=>rfl
 | fn f=>rfl
 | mt nm n =>
  simp only[ev,put_eq];cases d with
  | none=>rfl
  | some k =>
   simp only[];rw[vv];intro e;subst e;exact h n rfl (pu a)
def Vd (L:Loc) (ρ:Env):Prop:=∀t k off,ρ t=.own k off->∃g ty cs,L.get k=some (.box g ty cs)
theorem Vd.ev {L:Loc}{ρ:Env}(h:Vd L ρ) {x:X}{k off:Nat}(e:Fr.ev ρ x=.own k off):∃g ty cs,L.get k=some (.box g ty cs):=by
 cases x with
 | t n=>exact h n k off e
 | c v=>cases e
 | fn f=>cases e
 | mt nm n =>
  simp only[Fr.ev,Tt] at e;split at e<;>cases e
def Keeps (L L':Loc):Prop:=∀k g ty cs,L.get k=some (.box g ty cs)->L'.get k=some (.box g ty cs)
theorem Keeps.refl (L:Loc):Keeps L L:=fun _ _ _ _ h=>h
theorem Keeps.trans {L L' L'':Loc}(h:Keeps L L') (a:Keeps L' L''):Keeps L L'':=fun k g ty cs e=>a k g ty cs (h k g ty cs e)
theorem cK {L:Loc}{k j:Nat}{o:Own}(h:j≠k):(L.set k o).get j=L.get j:=by rw[Loc.aac,vv h]
theorem Keeps.new {L:Loc}{k:Nat}{o:Own}(h:L.get k=none):Keeps L (L.set k o):=fun j g ty cs e=>by
 rw[cK (fun a=>by rw[a,h] at e;cases e)];exact e
theorem Keeps.row {L:Loc}{k:Nat}{v:Value}{t:TypeId}{sz n:Nat}{xs:List Value}{o:Own}(h:L.get k=some (.row v t sz n xs)):Keeps L (L.set k o):=fun j g ty cs e=>by
 rw[cK (fun a=>by rw[a,h] at e;cases e)];exact e
section
variable {P:Program}{F:aF}{L:Loc}{ρ:Env}{K:dm}
theorem CallsA.up {f:Nat}{args:Array Value}{F F1:aF}{R:aF->List Own->Value->Prop}{Lin:List Own}(h:CallsA P f args F Lin R) (p:F.le F1) (hg:tj F):CallsA P f args F1 Lin R:=by
 refine⟨h.ent,h.mono,fun w n=>?_⟩;have s:St F (inp Lin) w:=⟨fun b o e=>n.frz b o (p b o e),n.own,fun k o g e hb=>(by
  cases d:F g with
  | none=>rfl
  | some o1=>have j:=p g o1 d;rw[n.off k o g e hb] at j;cases j),n.sep,hg⟩
 refine(h.run w s).mono ?_;rintro e w' ⟨v,F',Lo,rfl,c,a,hR⟩;have q:∀b o,F1 b=some o->¬(inp Lin).owns b:=by
  rintro b o x ⟨k,o',e,hb⟩;rw[n.off k o' b e hb] at x;cases x
 have r:∀b o,F1 b=some o->w'.heap[b]?=some o:=fun b o e=>by
  have d:=n.frz b o e;rw[a.same b (Array.getElem?_eq_some_iff.1 d).1 (q b o e)];exact d
 have l:F'.le (fun b=>match F' b with | some o=>some o | none=>F1 b):=fun b o e=>by simp only[e]
 refine⟨v,fun b=>match F' b with | some o=>some o | none=>F1 b,Lo,rfl,⟨fun b o e=>?_,c.own,fun k o g e hb=>?_,c.sep,tj.mono l c.glob⟩,⟨fun b o e=>?_,a.os,a.tape,a.output,a.size,a.same,fun b hb=>?_,a.own⟩,h.mono _ _ _ _ l hR⟩
 ·split at e
  ·rename_i o' t;injection e with e
   subst e;exact c.frz b _ t
  ·exact r b o e
 ·have d:=c.off k o g e hb;simp only[d];cases j:F1 g with
  | none=>rfl
  | some u =>
   rcases a.own g ⟨k,o,e,hb⟩ with m | m
   ·exact p7 m (q g u j)
   ·have:=(Array.getElem?_eq_some_iff.1 (n.frz g u j)).1;omega
 ·cases d:F' b with
  | none=>exact e
  | some o' =>
   have j:=c.frz b o' d;rw[r b o e] at j;exact j.symm
 ·cases d:F' b with
  | none=>rw[d] at hb;exact .inl hb
  | some o' =>
   rcases a.frz b (by rw[d];simp) with m | m | m
   ·refine .inl (fun h4=>?_);cases y:F b with
    | none=>exact m y
    | some z=>have:=p b z y;rw[h4] at this;cases this
   ·exact .inr (.inl m)
   ·exact .inr (.inr m)
theorem Real.glob {F:aF}{L:Loc}(h:Real F L):tj F:=by obtain⟨w,a⟩:=h;exact a.glob
theorem Real.down {F F':aF}{L L':Loc}(h:Real F' L') (c:F.le F') (j:tj F) (f:L'.part L):Real F L:=by
 obtain⟨w,a⟩:=h;have a:=a.part f;refine⟨w,⟨fun b o e=>a.frz b o (c b o e),a.own,fun k o g e hb=>?_,a.sep,j⟩⟩;cases l:F g with
 | none=>rfl
 | some o'=>have d:=c g o' l;rw[a.off k o g e hb] at d;cases d
theorem JE {L:Loc}{k:Nat}{o:Own}(h:L.get k=none):(L.set k o).part L:=fun j p e=>by
 rw[cK (fun a=>by rw[a,h] at e;cases e)];exact e
theorem BF {L L1:Loc}{k:Nat}{o:Own}(h:L1.part L) (b:L.get k=none):(L1.set k o).part (L.set k o):=fun j p e=>by
 rw[Loc.aac] at e ⊢;split
 ·rename_i a;rw[o6 a] at e;exact e
 ·rename_i a;rw[vv a] at e;exact h j p e
def Left (d:Option Nat) (L L':Loc):Prop:=L'=L\/(∃k o,d=some k/\L.get k=none/\L'=L.set k o)\/∃k a t sz n xs,L.get k=some (.row a t sz n xs)/\L'=L.set k (.row (.slice none 0 0) t sz 0 [])
theorem Left.keeps {d:Option Nat}{L L':Loc}(h:Left d L L'):Keeps L L':=by
 rcases h with rfl | ⟨k,o,_,a,rfl⟩ | ⟨k,b,t,sz,n,xs,a,rfl⟩
 ·exact Keeps.refl _
 ·exact Keeps.new a
 ·exact Keeps.row a
theorem zQ {L L1:Loc}{k:Nat}{o:Own}(h:L1.part L):(L1.set k o).part (L.set k o):=fun j p e=>by
 rw[Loc.aac] at e ⊢;split
 ·rename_i a;rw[o6 a] at e;exact e
 ·rename_i a;rw[vv a] at e;exact h j p e
theorem eV.imp {f:Nat}{args:List Value}{F:aF}{L:Loc}{d:Option Nat}{K K':aF->Loc->Value->Prop}(h:eV P f args F L d K) (r:∀F' L' v,F.le F'->Left d L L'->Real F' L'->K F' L' v->K' F' L' v):eV P f args F L d K':=by
 cases h with
 | frz R l e=>exact .frz R l fun v F' Lo a j=>⟨(e v F' Lo a j).1,fun b=>r F' L v a (.inl rfl) b ((e v F' Lo a j).2 b)⟩
 | own R k l w m e =>
  refine .own R k l w m fun v F' Lo a j=>?_;obtain⟨o,s,u⟩:=e v F' Lo a j;exact⟨o,s,fun b=>r F' _ v a (.inr (.inl ⟨k,o,w,m,rfl⟩)) b (u b)⟩
 | row R q p t sz n xs l c e =>
  refine .row R q p t sz n xs l c fun v F' Lo a j=>?_;obtain⟨s,u⟩:=e v F' Lo a j;exact⟨s,fun b=>r F' _ v a (.inr (.inr ⟨q,p,t,sz,n,xs,c,rfl⟩)) b (u b)⟩
 | lent R q p t sz n xs l c e=>exact .lent R q p t sz n xs l c fun v F' a j b=>r F' L v a (.inl rfl) b (e v F' a j b)
theorem eV.up {f:Nat}{args:List Value}{F F1:aF}{L L1:Loc}{d:Option Nat}{K:aF->Loc->Value->Prop}(h:eV P f args F L d K) (b:F.le F1) (x:tj F) (s:L1.part L) (y:∀k,d=some k->L.get k=none->L1.get k=none) :
  eV P f args F1 L1 d (fun F' L' v=>F1.le F'/\Real F' L'/\((L'=L1/\K F' L v)\/(∃k o,d=some k/\L.get k=none/\L'=L1.set k o/\K F' (L.set k o) v)\/∃k q t sz n xs,L.get k=some (.row q t sz n xs)/\L'=L1.set k (.row (.slice none 0 0) t sz 0 [])/\K F' (L.set k (.row (.slice none 0 0) t sz 0 [])) v)):=by
 cases h with
 | frz R m j =>
  refine .frz R (m.up b x) fun v F' Lo a p=>?_;obtain⟨u,w⟩:=j v F' Lo (aF.le_trans b a) p;exact⟨u,fun c=>⟨a,c,.inl ⟨rfl,w (c.down (aF.le_refl _) c.glob s)⟩⟩⟩
 | own R k m z l j =>
  refine .own R k (m.up b x) z (y k z l) fun v F' Lo a p=>?_;obtain⟨o,u,w⟩:=j v F' Lo (aF.le_trans b a) p;exact⟨o,u,fun c=>⟨a,c,.inr (.inl ⟨k,o,z,l,rfl,w (c.down (aF.le_refl _) c.glob (BF s l))⟩)⟩⟩
 | row R r q t sz n xs m e j =>
  refine .row R r q t sz n xs (m.up b x) (s r _ e) fun v F' Lo a p=>?_;obtain⟨u,w⟩:=j v F' Lo (aF.le_trans b a) p;exact⟨u,fun c=>⟨a,c,.inr (.inr ⟨r,q,t,sz,n,xs,e,rfl,w (c.down (aF.le_refl _) c.glob (zQ s))⟩)⟩⟩
 | lent R r q t sz n xs m e j =>
  exact .lent R r q t sz n xs (m.up b x) (s r _ e) fun v F' a p c=>⟨a,c,.inl ⟨rfl,j v F' (aF.le_trans b a) p (c.down (aF.le_refl _) c.glob s)⟩⟩
theorem eV.some {f:Nat}{args:List Value}{F:aF}{L:Loc}{d:Option Nat}{K:aF->Loc->Value->Prop}(h:eV P f args F L d K) (hr:Real F L):∃F' L' v,F.le F'/\Left d L L'/\Real F' L'/\K F' L' v:=by
 obtain⟨w,s⟩:=hr;have z:St F (inp []) w:=⟨s.frz,fun k o e=>(by cases e),fun k o g e=>(by cases e),fun k k' o o' g e=>(by cases e),s.glob⟩;cases h with
 | frz R x u =>
  obtain⟨e,w',fr,⟨v,F',Lo,_,l,b,y⟩,_⟩:=x.run w z [];obtain⟨rfl,h3⟩:=u v F' Lo b.le y;have a:Real F' L:=⟨w',(jT (ks:=[]) (ko:=[]) s rfl List.nodup_nil List.nodup_nil (fun _ h=>(by cases h)) l b rfl).1⟩;exact⟨F',L,v,b.le,.inl rfl,a,h3 a⟩
 | own R k x hd aa u =>
  obtain⟨e,w',fr,⟨v,F',Lo,_,l,b,y⟩,_⟩:=x.run w z [];obtain⟨o,rfl,h3⟩:=u v F' Lo b.le y;have a:Real F' (L.set k o):=⟨w',(jT (ks:=[]) (ko:=[k]) s rfl List.nodup_nil (by simp) (fun j r=>.inr (by simp at r;rw[r];exact aa)) l b rfl).1⟩;exact⟨F',_,v,b.le,.inr (.inl ⟨k,o,hd,aa,rfl⟩),a,h3 a⟩
 | row R q rv t sz n xs x m u =>
  have c:L.sub [q]=Option.some [.row rv t sz n xs]:=by simp only[Loc.sub,m]
  obtain⟨e,w',fr,⟨v,F',Lo,_,l,b,y⟩,_⟩:=x.run w (s.handed c (by simp)) [];obtain⟨rfl,h3⟩:=u v F' Lo b.le y;have hb:=(jT (ks:=[q]) (ko:=[]) s c (by simp) List.nodup_nil (fun _ h=>(by cases h)) l b rfl).1;have a:Real F' (L.set q (.row (.slice none 0 0) t sz 0 [])):=by
   have h5:((L.aaf [q]).puts [] []).get q=none:=by simp only[Loc.aaf,Loc.puts,Loc.aai,o6]
   have h6:=hb.put h5 (o:=.row (.slice none 0 0) t sz 0 []) (World.ownsRow_nil w' 0 t sz) (fun g hg=>by cases hg);refine⟨w',h6.part fun j p e=>?_⟩;rw[Loc.aac] at e ⊢;split at e
   ·rename_i r;rw[o6 r];exact e
   ·rename_i r;rw[vv r];simp only[Loc.aaf,Loc.puts,Loc.aai,vv r];exact e
  exact⟨F',_,v,b.le,.inr (.inr ⟨q,rv,t,sz,n,xs,m,rfl⟩),a,h3 a⟩
 | lent R q rv t sz n xs x m u =>
  have c:L.sub [q]=Option.some [.row rv t sz n xs]:=by simp only[Loc.sub,m]
  obtain⟨e,w',fr,⟨v,F',Lo,_,l,b,⟨rfl,y⟩⟩,_⟩:=x.run w (s.handed c (by simp)) [];have hb:=(jT (ks:=[q]) (ko:=[q]) s c (by simp) (by simp) (fun _ h=>.inl h) l b rfl).1;have a:Real F' L:=by
   refine⟨w',hb.part fun j p e=>?_⟩;simp only[Loc.aaf,Loc.puts,Loc.aac,Loc.aai];split
   ·rename_i r;rw[r,m] at e;exact e
   ·exact e
  exact⟨F',L,v,b.le,.inl rfl,a,u v F' b.le y a⟩
theorem qL.imp {F F':aF}{L:Loc}{d:Option Nat}{e sz b:Nat}{s x:Value}{K K':Loc->Value->Prop}(h:qL F L d e sz b s x K) (l:F.le F')
  (y:∀j n xs n' k v,(L.get j=some (.row s e sz n xs)\/(d=some j/\L.get j=none))->Real F' (L.set j (.row v e sz n' k))->(Real F (L.set j (.row v e sz n' k))->K (L.set j (.row v e sz n' k)) v)->K' (L.set j (.row v e sz n' k)) v):qL F' L d e sz b s x K':=by
 obtain⟨j,n,xs,m,news,a,⟨p,c,r,h3,o⟩,h5,t,u,w⟩:=h;refine⟨j,n,xs,m,news,?_,⟨p,c,r,h3,?_⟩,h5,t,u,fun v hv z=>y j n xs _ _ v ?_ z (w v hv)⟩
 ·rcases a with a | a | ⟨a,f,p,q1,q2,q3,q⟩
  ·exact .inl a
  ·exact .inr (.inl a)
  ·exact .inr (.inr ⟨a,f,p,q1,q2,q3,q.imp (·.mono l) id⟩)
 ·rcases o with o | o
  ·exact .inl (o.mono l)
  ·exact .inr o
 ·rcases a with a | ⟨a,f,_⟩ | ⟨a,f,_⟩
  ·exact .inl a
  ·exact .inr ⟨a,f⟩
  ·exact .inr ⟨a,f⟩
theorem HC {L L1:Loc}{k:Nat}{o:Own}(h:L1.part L):(L1.set k o).part (L.set k o):=fun j p e=>by
 rw[Loc.aac] at e ⊢;split
 ·rename_i a;rw[o6 a] at e;exact e
 ·rename_i a;rw[vv a] at e;exact h j p e
theorem C9 {e sz b:Nat}{zs:List Value}{s x:X}{d:Option Nat}:evalOp P (.appD e sz b zs s x) d F L ρ K=(match ev ρ s,ev ρ x with
  | .v sv,.v a=>qL F L d e sz b sv a fun L1 v=>K F L1 (put d (.v v) ρ)
  | _,_=>False):=rfl
theorem Real.store {F:aF}{L:Loc}{k g:Nat}{t:TypeId}{cs cs':List Value}(c:t≠0) (n:Real F L) (l:L.get k=Option.some (.box g t cs)):Real F (L.set k (.box g t cs')):=by
 obtain⟨w,j⟩:=n;have a:=mN w g cs'.toArray;refine⟨w.setRow g cs'.toArray,j.turn l ?_ (fun b d f=>a.block b d (fun e=>f (by rw[e];rfl))) (fun o h=>.inl h)⟩;show _=_;have m:w.heap[g]?=Option.some (.cells cs.toArray t (0,0)):=by rw[<-iN c];exact j.own k _ l
 rw[iN c];exact setRow_heap w g cs.toArray _ t _ m
theorem qL.some {F:aF}{L:Loc}{d:Option Nat}{e sz b:Nat}{s x:Value}{K:Loc->Value->Prop}(h:qL F L d e sz b s x K) (hr:Real F L) :
  ∃a v n' o,((∃n xs,L.get a=some (.row s e sz n xs))\/(d=some a/\L.get a=none))/\Real F (L.set a (.row v e sz n' o))/\K (L.set a (.row v e sz n' o)) v:=by
 obtain⟨a,n,xs,m,news,k,⟨ad,c,h2,h3,h4⟩,h5,h6,h7,h8⟩:=h;obtain⟨w,hs⟩:=hr;have r:xs.length=n*sz:=by
  rcases k with k | ⟨_,_,rfl,rfl,_⟩ | ⟨_,_,_,_,_,q,_⟩
  ·exact(hs.own a _ k).1
  ·simp
  ·exact q
 have u:=mM w (xs++news) e (n+m) sz h6 (by rw[aaR,r,h3,Nat.add_mul]);have z:St F (L.del a) w:=hs.part (fun j p e=>by rw[Loc.aai] at e;split at e;cases e;exact e);have aa:(L.del a).get a=none:=by rw[Loc.aai,o6 rfl]
 have ab:=(ld z aa (cs:=(xs++news).toArray) (t:=e) (e:=.row (.slice (Option.some ⟨w.heap.size,0,none⟩) (n+m) (n+m)) e sz (n+m) (xs++news)) rfl u).1;have f:Real F (L.set a (.row (.slice (Option.some ⟨w.heap.size,0,none⟩) (n+m) (n+m)) e sz (n+m) (xs++news))) :=
  ⟨_,ab.part (fun j p e=>by
   rw[Loc.aac] at e ⊢;split
   ·rename_i y;rw[o6 y] at e;exact e
   ·rename_i y;rw[vv y] at e;rw[Loc.aai,vv y];exact e)⟩
 refine⟨a,_,n+m,xs++news,?_,f,h8 _ ⟨_,_,rfl,fun e=>(by cases e)⟩ f⟩;rcases k with k | ⟨k,l,_⟩ | ⟨k,l,_⟩
 ·exact .inl ⟨n,xs,k⟩
 ·exact .inr ⟨k,l⟩
 ·exact .inr ⟨k,l⟩
def ER (o:eY):Bool:=dL o||iQ o||fF o||qB o
def okD (o:eY):Bool:=ER o||ji o
theorem vp {o:eY}{d:Option Nat}{v:SV}(h:∀k,d=some k->k∉cR (bO o)):Alike o L L ρ (put d v ρ) :=
 fun x a=>⟨gW h x a,fun _ _ _=>rfl⟩
theorem ye {o:eY}(ho:okD o=true) {d y:Option Nat}{u:SV}(h:∀k,y=some k->k∉cR (bO o)) (p:∀k,d=some k->y≠some k)
  (c:evalOp P o d F L ρ (fun F1 L1 ac=>K F1 L1 (put y u ac))):evalOp P o d F L (put y u ρ) K:=by
 by_cases hs:dL o=true
 ·rw[cO hs] at c ⊢;have:=rY hs (aF.le_refl F) (vp (L:=L) (ρ:=ρ) (v:=u) h) c;refine(gq hs).mono _ _ (fun v r=>?_) this;rw[put_comm p];exact r
 ·have r:∀x∈bO o,val L (put y u ρ) x=val L ρ x:=fun x hx=>by simp only[val,gW h x hx]
  cases o<;>first | (exfalso;revert hs ho;simp[okD,ER,dL,iQ,fF,qB,ji];done) | skip
  case boxD t x =>
   have e:=r x (by simp[bO]);simp only[evalOp,e] at c ⊢;split at c
   ·rename_i k;split at c
    ·intro g q;have:=c g q;rw[put_comm p];exact this
    ·exact c
   ·exact c
  case allocD t zs =>
   simp only[evalOp] at c ⊢;split at c
   ·rename_i k;split at c
    ·intro g q;have:=c g q;rw[put_comm p];exact this
    ·exact c
   ·exact c
  case mkFD e n sz xs =>
   have m:=om (sz:=sz) (xs:=xs) r;have z:=cP (xs:=xs) r;simp only[evalOp,m,z] at c ⊢;split at c
   ·intro g F' ad hg q;rw[put_comm p];exact c g F' ad hg q
   ·exact c
  case callD f args =>
   have m:=dY (xs:=args) r;simp only[evalOp,m] at c ⊢;refine c.imp fun F' L' v _ _ _ h=>?_;rw[put_comm p];exact h
  case callVD f args =>
   have w:=gW (v:=u) (ρ:=ρ) h f (by simp[bO]);have m:=dY (xs:=args) (L:=L) (L':=L) (ρ:=ρ) (ρ':=put y u ρ) (fun x hx=>r x (by simp[bO,hx]));simp only[evalOp,w,m] at c ⊢;split at c
   ·refine c.imp fun F' L' v _ _ _ h=>?_;rw[put_comm p];exact h
   ·exact c
  case appD e sz b zs s x =>
   have w:=gW (v:=u) (ρ:=ρ) h s (by simp[bO]);have m:=gW (v:=u) (ρ:=ρ) h x (by simp[bO]);simp only[evalOp,w,m] at c ⊢;split at c
   ·refine c.imp (aF.le_refl F) fun kd n xs n' am v _ q h=>?_;rw[put_comm p];exact h q
   ·exact c
  case makeSD e sz n zs =>
   simp only[evalOp] at c ⊢;split at c
   ·rename_i k;split at c
    ·intro g q;have:=c g q;rw[put_comm p];exact this
    ·exact c
   ·exact c
  case makeSV e sz b zs x =>
   have m:=r x (by simp[bO]);simp only[evalOp,m] at c ⊢;split at c
   ·rename_i k;split at c
    ·intro g q;have:=c g q;rw[put_comm p];exact this
    ·exact c
   ·exact c
  case storeD n a x =>
   obtain⟨n',a',x',k,off,g,t,cs,j,m,z,e3,e4,e5,c⟩:=jl rfl c;have w:=gW (v:=u) (ρ:=ρ) h a (by simp[bO]);have l:=r x (by simp[bO]);rcases j with j | j
   ·injection j with q1 q2 q3
    subst q1 q2 q3;exact i9 (.inl rfl) (by rw[l];exact m) (by rw[l];exact z) (by rw[w];exact e3) e4 e5 (by rw[l,put_comm p];exact c)
   ·cases j
  case storeK key n a x =>
   obtain⟨n',a',x',k,off,g,t,cs,j,m,z,e3,e4,e5,c⟩:=jl rfl c;have w:=gW (v:=u) (ρ:=ρ) h a (by simp[bO]);have l:=r x (by simp[bO]);rcases j with j | j
   ·cases j
   ·injection j with q0 q1 q2 q3
    subst q0 q1 q2 q3;exact i9 (.inr rfl) (by rw[l];exact m) (by rw[l];exact z) (by rw[w];exact e3) e4 e5 (by rw[l,put_comm p];exact c)
def vq:eY->eY->Bool
 | .build _ _,_=>true
 | .mkfn _ _ _,_=>true
 | .loadK k _ _ _,.storeK a _ _ _=>match Nat.beq k a with | true=>false | false=>true
 | x,_=>C6 x
theorem sO {x y:eY}(h:vq x y=true):dL x=true:=by
 unfold vq at h;split at h
 ·rfl
 ·rfl
 ·rfl
 ·exact C8 h
theorem AF {x y:eY}{k n:Nat}{a z:X}{L L':Loc}{V:SV->Prop}(h:vq x y=true) (d:y=.storeD n a z\/y=.storeK k n a z) (o:∀sv,conc L' sv=conc L sv) (s:∀j,j≠k->L'.get j=L.get j) (c:aN x F L ρ V):aN x F L' ρ V:=by
 unfold vq at h;split at h
 ·rename_i zs ps;have e:=qX (ps:=ps) (zs:=zs) (L:=L) (L':=L') (ρ:=ρ) (ρ':=ρ) (fun p _=>o _);simp only[aN,e] at c ⊢;exact c
 ·rename_i f a b;have q:=dY (xs:=a) (L:=L) (L':=L') (ρ:=ρ) (ρ':=ρ) (fun _ _=>o _);have r:=dY (xs:=b) (L:=L) (L':=L') (ρ:=ρ) (ρ':=ρ) (fun _ _=>o _);simp only[aN,q,r] at c ⊢;exact c
 ·rename_i k1 w m x k2 u t x2;rcases d with d | d
  ·cases d
  ·injection d with q0 q1 q2 q3
   subst q0;split at h
   ·cases h
   ·rename_i hb;have hb:=gh hb;simp only[aN] at c ⊢;split at c
    ·rename_i v off e;split at c
     ·rename_i l;have l:=v8 l;subst l;simp only[s _ hb];exact c
     ·exact c.elim
    ·exact c.elim
 ·exact AB h c
theorem Da {L:Loc}{k g:Nat}{t:TypeId}{cs cs':List Value}(b:L.get k=some (.box g t cs)) (sv:SV):conc (L.set k (.box g t cs')) sv=conc L sv:=by
 cases sv with
 | v u=>rfl
 | el a j=>rfl
 | own j off =>
  simp only[conc,Loc.aac]
  by_cases e:j=k
  ·subst e;rw[o6 rfl,b]
  ·rw[vv e]
def yg (x y:eY):Bool:=(dL x&&ER y&&(!JB x||dL y))||(iQ x&&fF y)||(qB x&&fF y)||(fF x&&fF y)||(vq x y&&ji y)||(ji x&&vq y x)
inductive Made:eY->Option Nat->aF->Loc->Env->aF->Loc->SV->Prop
 | box {t:TypeId}{x:X}{k:Nat}{F:aF}{L:Loc}{ρ:Env}(g:Nat):Made (.boxD t x) (some k) F L ρ F (L.set k (.box g t (aM (val L ρ x)))) (.own k 0)
 | alloc {t:TypeId}{zs:List Value}{k:Nat}{F:aF}{L:Loc}{ρ:Env}(g:Nat):Made (.allocD t zs) (some k) F L ρ F (L.set k (.box g t zs)) (.own k 0)
 | mkS {e:TypeId}{sz n:Nat}{zs:List Value}{k:Nat}{F:aF}{L:Loc}{ρ:Env}(g:Nat):Made (.makeSD e sz n zs) (some k) F L ρ F (L.set k (.row (.slice (some ⟨g,0,none⟩) n n) e sz n (List.replicate n zs).flatten)) (.v (.slice (some ⟨g,0,none⟩) n n))
 | mkV {e:TypeId}{sz b:Nat}{zs:List Value}{x:X}{k:Nat}{F:aF}{L:Loc}{ρ:Env}(g n:Nat) (hn:n=nu (val L ρ x)):Made (.makeSV e sz b zs x) (some k) F L ρ F (L.set k (.row (.slice (some ⟨g,0,none⟩) n n) e sz n (List.replicate n zs).flatten)) (.v (.slice (some ⟨g,0,none⟩) n n))
 | mkF {e:TypeId}{n sz:Nat}{xs:List X}{d:Option Nat}{F:aF}{L:Loc}{ρ:Env}(g:Nat) (F':aF) (hle:F.le F') (hg:F' g=some (.cells (cellsOf L ρ xs).toArray e (0,0))) :
   Made (.mkFD e n sz xs) d F L ρ F' L (.v (.slice (some ⟨g,0,none⟩) n n))
def bU:eY->Option Nat->Loc->Env->Bool
 | .boxD _ _,some k,L,_=>(L.get k).isNone
 | .allocD _ _,some k,L,_=>(L.get k).isNone
 | .makeSD _ sz n zs,some k,L,_=>match L.get k,fZ zs sz,Nat.ble n 9223372036854775807 with | none,true,true=>true | _,_,_=>false
 | .makeSV _ sz b zs x,some k,L,ρ=>match L.get k,fZ zs sz,uh b (val L ρ x) with | none,true,true=>true | _,_,_=>false
 | .mkFD _ _ sz xs,_,L,ρ=>ga L ρ sz xs
 | _,_,_,_=>false
theorem cm {o:eY}(h:fF o=true) {d:Option Nat}:evalOp P o d F L ρ K↔bU o d L ρ=true/\∀F' L' v,Made o d F L ρ F' L' v->Real F' L'->K F' L' (put d v ρ):=by
 cases o<;>first | (exfalso;revert h;simp[fF];done) | skip
 case boxD t x =>
  simp only[evalOp];cases d with
  | none=>simp[bU]
  | some k =>
   simp only[bU];cases j:L.get k with
   | none =>
    simp only[Option.isNone_none,true_and];constructor
    ·rintro h F' L' v c a;cases c with
     | box g=>exact h g a
    ·intro h g a;exact h _ _ _ (.box g) a
   | some p=>simp
 case allocD t zs =>
  simp only[evalOp];cases d with
  | none=>simp[bU]
  | some k =>
   simp only[bU];cases j:L.get k with
   | none =>
    simp only[Option.isNone_none,true_and];constructor
    ·rintro h F' L' v c a;cases c with
     | alloc g=>exact h g a
    ·intro h g a;exact h _ _ _ (.alloc g) a
   | some p=>simp
 case makeSD e sz n zs =>
  simp only[evalOp];cases d with
  | none=>simp[bU]
  | some k =>
   simp only[bU];cases j:L.get k with
   | some p=>simp
   | none =>
    cases q:fZ zs sz with
    | false=>simp
    | true =>
     cases m:Nat.ble n 9223372036854775807 with
     | false=>simp
     | true =>
      simp only[true_and];constructor
      ·rintro h F' L' v c a;cases c with
       | mkS g=>exact h g a
      ·intro h g a;exact h _ _ _ (.mkS g) a
 case makeSV e sz b zs x =>
  simp only[evalOp];cases d with
  | none=>simp[bU]
  | some k =>
   simp only[bU];cases j:L.get k with
   | some p=>simp
   | none =>
    cases q:fZ zs sz with
    | false=>simp
    | true =>
     cases m:uh b (val L ρ x) with
     | false=>simp
     | true =>
      simp only[true_and];constructor
      ·rintro h F' L' v c a;cases c with
       | mkV g n r=>subst r;exact h g a
      ·intro h g a;exact h _ _ _ (.mkV g _ rfl) a
 case mkFD e n sz xs =>
  simp only[evalOp,bU];cases s:ga L ρ sz xs with
  | false=>simp
  | true =>
   simp only[true_and];constructor
   ·rintro h F' L' v c a;cases c with
    | mkF g F' f l=>exact h g _ f l a
   ·intro h g F' f l a;exact h _ _ _ (.mkF g F' f l) a
theorem BG:∀{l:List Value}{n:Nat},l.length=n->fZ l n=true
 | [],0,_=>rfl
 | _::l,n+1,h=>BG (l:=l) (by simpa using h)
theorem py {e:TypeId}{sz n k:Nat}{zs:List Value}(h:bU (.makeSD e sz n zs) (some k) L ρ=true):L.get k=none/\zs.length=sz/\n<=maxLen:=by
 simp only[bU] at h;split at h
 ·rename_i c b a;exact⟨c,jh b,aa3 a⟩
 ·cases h
theorem pz {e:TypeId}{sz b k:Nat}{zs:List Value}{x:X}(h:bU (.makeSV e sz b zs x) (some k) L ρ=true):L.get k=none/\zs.length=sz/\nu (val L ρ x)<=maxLen/\uh b (val L ρ x)=true:=by
 simp only[bU] at h;split at h
 ·rename_i d c a;exact⟨d,jh c,Hr a,a⟩
 ·cases h
theorem AG {o:eY}{d:Option Nat}(y:Real F L) (c:bU o d L ρ=true):∃F' L' v,Made o d F L ρ F' L' v/\F.le F'/\Real F' L':=by
 obtain⟨w,j⟩:=y;have f:∀(e:TypeId) (cs:List Value),∃F',F.le F'/\F' w.heap.size=some (.cells cs.toArray e (0,0))/\Real F' L:=by
  intro e cs;have h:=ia w (.cells cs.toArray e);obtain⟨z,m⟩:=qO j;exact⟨_,aF.aas (j.alloc (.cells cs.toArray e)) h,o6 rfl,⟨_,(j.alloc (.cells cs.toArray e)).freeze h m⟩⟩
 cases o<;>cases d<;>simp only[bU] at c<;>try (cases c;done)
 ·rename_i t x k;rw[Option.isNone_iff_eq_none] at c;refine⟨_,_,_,.box w.heap.size,aF.le_refl F,⟨_,(nA j c (ob:=mC t (aM (val L ρ x))) (e:=.box w.heap.size t (aM (val L ρ x))) rfl ?_).1⟩⟩;show _=_;rw[ia]
 ·rename_i t zs k;rw[Option.isNone_iff_eq_none] at c;refine⟨_,_,_,.alloc w.heap.size,aF.le_refl F,⟨_,(nA j c (ob:=mC t zs) (e:=.box w.heap.size t zs) rfl ?_).1⟩⟩;show _=_;rw[ia]
 ·rename_i e n sz xs;obtain⟨F',l,p,u⟩:=f e (cellsOf L ρ xs);exact⟨F',L,_,.mkF w.heap.size F' l p,l,u⟩
 ·rename_i e n sz xs k;obtain⟨F',l,p,u⟩:=f e (cellsOf L ρ xs);exact⟨F',L,_,.mkF w.heap.size F' l p,l,u⟩
 ·rename_i e sz n zs k;obtain⟨s,r,q⟩:=py (ρ:=ρ) (e:=e) c;have a:=mM w (List.replicate n zs).flatten e n sz q (by rw[List.length_flatten];simp[r]);refine⟨_,_,_,.mkS w.heap.size,aF.le_refl F,⟨_,(ld j s (cs:=((List.replicate n zs).flatten).toArray) (t:=e) (e:=.row (.slice (some ⟨w.heap.size,0,none⟩) n n) e sz n (List.replicate n zs).flatten) rfl a).1⟩⟩
 ·rename_i e sz b zs x k;obtain⟨s,r,q,_⟩:=pz (e:=e) c;have a:=mM w (List.replicate (nu (val L ρ x)) zs).flatten e (nu (val L ρ x)) sz q (by rw[List.length_flatten];simp[r]);refine⟨_,_,_,.mkV w.heap.size _ rfl,aF.le_refl F,⟨_,(ld j s (cs:=((List.replicate (nu (val L ρ x)) zs).flatten).toArray) (t:=e) (e:=.row (.slice (some ⟨w.heap.size,0,none⟩) (nu (val L ρ x)) (nu (val L ρ x))) e sz (nu (val L ρ x)) (List.replicate (nu (val L ρ x)) zs).flatten) rfl a).1⟩⟩
theorem Made.le {o:eY}{d:Option Nat}{F':aF}{L':Loc}{v:SV}(h:Made o d F L ρ F' L' v):F.le F':=by
 cases h with
 | box g=>exact aF.le_refl _
 | alloc g=>exact aF.le_refl _
 | mkS g=>exact aF.le_refl _
 | mkV g n b=>exact aF.le_refl _
 | mkF g F' a c=>exact a
theorem Made.part {o:eY}{d:Option Nat}{F':aF}{L':Loc}{v:SV}(a:bU o d L ρ=true) (h:Made o d F L ρ F' L' v):L'.part L:=by
 intro j p e;cases h with
 | box g =>
  simp only[bU,Option.isNone_iff_eq_none] at a;rw[cK (fun h=>by rw[h] at e;rw[a] at e;cases e)];exact e
 | alloc g =>
  simp only[bU,Option.isNone_iff_eq_none] at a;rw[cK (fun h=>by rw[h] at e;rw[a] at e;cases e)];exact e
 | mkS g =>
  have a:=(py a).1;rw[cK (fun h=>by rw[h] at e;rw[a] at e;cases e)];exact e
 | mkV g n f =>
  have a:=(pz a).1;rw[cK (fun h=>by rw[h] at e;rw[a] at e;cases e)];exact e
 | mkF g F' b c=>exact e
theorem Made.get {o:eY}{d:Option Nat}{F':aF}{L':Loc}{v:SV}(a:bU o d L ρ=true) (h:Made o d F L ρ F' L' v):Keeps L L':=by
 cases h with
 | box g =>
  simp only[bU,Option.isNone_iff_eq_none] at a;exact Keeps.new a
 | alloc g =>
  simp only[bU,Option.isNone_iff_eq_none] at a;exact Keeps.new a
 | mkS g=>exact Keeps.new (py a).1
 | mkV g n c=>exact Keeps.new (pz a).1
 | mkF g F' b e=>exact Keeps.refl _
theorem Made.frame {o:eY}{d:Option Nat}{F':aF}{L':Loc}{v:SV}(h:Made o d F L ρ F' L' v):∀j,d≠some j->L'.get j=L.get j:=by
 intro j a;cases h with
 | box g=>exact cK (fun e=>a (by rw[e]))
 | alloc g=>exact cK (fun e=>a (by rw[e]))
 | mkS g=>exact cK (fun e=>a (by rw[e]))
 | mkV g n f=>exact cK (fun e=>a (by rw[e]))
 | mkF g F' b c=>rfl
theorem jn {o:eY}{d:Option Nat}{L L':Loc}{ρ ρ':Env}(l:∀x∈bO o,val L' ρ' x=val L ρ x) (c:∀k,d=some k->(L'.get k=none->L.get k=none)) (h:bU o d L' ρ'=true):bU o d L ρ=true:=by
 cases o<;>cases d<;>simp only[bU] at h ⊢<;>try (cases h;done)
 ·rename_i t x k;rw[Option.isNone_iff_eq_none] at h ⊢;exact c k rfl h
 ·rename_i t zs k;rw[Option.isNone_iff_eq_none] at h ⊢;exact c k rfl h
 ·rename_i e n sz xs;rw[<-om (xs:=xs) l];exact h
 ·rename_i e n sz xs k;rw[<-om (xs:=xs) l];exact h
 ·rename_i e sz n zs k;obtain⟨j,f,a⟩:=py (L:=L') (ρ:=ρ') (e:=e) h;have a:Nat.ble n 9223372036854775807=true:=Nat.ble_eq_true_of_le a;rw[c k rfl j,BG f,a]
 ·rename_i e sz b zs x k;obtain⟨j,f,_,a⟩:=pz (L:=L') (ρ:=ρ') (e:=e) h;rw[l x (by simp[bO])] at a;rw[c k rfl j,BG f,a]
theorem Made.like {o:eY}{d:Option Nat}{ρ ρ':Env}{F':aF}{L':Loc}{v:SV}(b:∀x∈bO o,val L ρ' x=val L ρ x) (h:Made o d F L ρ' F' L' v):Made o d F L ρ F' L' v:=by
 cases h with
 | box g=>rw[b _ (by simp[bO])];exact .box g
 | alloc g=>exact .alloc g
 | mkS g=>exact .mkS g
 | mkV g n e=>exact .mkV g n (by rw[e,b _ (by simp[bO])])
 | mkF g F' a c =>
  rename_i xs;rw[cP (xs:=xs) b] at c;exact .mkF g F' a c
theorem gX {L L':Loc}{ρ:Env}(b:Vd L ρ) (c:Keeps L L') (x:X):val L' ρ x=val L ρ x:=by
 simp only[val];cases e:ev ρ x with
 | v u=>rfl
 | el a j=>rfl
 | own k off =>
  obtain⟨g,ty,cs,h⟩:=b.ev e;simp only[conc,c k g ty cs h,h]
theorem dw {l:List X}{d:Option Nat}{v:SV}(h:∀k,d=some k->k∉cR l):∀x∈l,val L (put d v ρ) x=val L ρ x:=fun x a=>by simp only[val,gW h x a]
theorem HE {x y:eY}{dx dy:Option Nat}{F1 F2:aF}{L1 L2:Loc}{v1 v2:SV}(s:bU x dx L ρ=true) (ba:bU y dy L ρ=true) (f:∀k,dx=some k->k∉cR (bO y)) (aw:∀k,dy=some k->k∉cR (bO x))
  (d:∀k,dx=some k->dy≠some k) (j:Vd L ρ) (h1:Made y dy F L ρ F1 L1 v1) (h2:Made x dx F1 L1 (put dy v1 ρ) F2 L2 v2) :
  ∃Fa La,Made x dx F L ρ Fa La v2/\Made y dy Fa La (put dx v2 ρ) F2 L2 v1:=by
 have ux:∀z∈bO x,val L1 (put dy v1 ρ) z=val L ρ z:=fun z hz=>by
  rw[dw aw z hz,gX j (h1.get ba)]
 cases h2 with
 | box c =>
  rw[ux _ (by simp[bO])];rename_i t z k;have a:∀{o:Own},Keeps L (L.set k o):=by
   simp only[bU,Option.isNone_iff_eq_none] at s;exact Keeps.new s
  cases h1 with
  | box b =>
   rename_i t' q k';refine⟨F,_,.box c,?_⟩;rw[set_comm L _ _ (fun e=>d k rfl (by rw[e]))];have e:val (L.set k (.box c t (aM (val L ρ z)))) (put (some k) (.own k 0) ρ) q=val L ρ q:=by
    rw[dw f q (by simp[bO]),gX j (a)]
   rw[<-e];exact .box b
  | alloc b =>
   rename_i t' ag k';refine⟨F,_,.box c,?_⟩;rw[set_comm L _ _ (fun e=>d k rfl (by rw[e]))];exact .alloc b
  | mkS b =>
   refine⟨F,_,.box c,?_⟩;rw[set_comm L _ _ (fun e=>d k rfl (by rw[e]))];exact .mkS b
  | mkV b n1 m =>
   refine⟨F,_,.box c,?_⟩;rw[set_comm L _ _ (fun e=>d k rfl (by rw[e]))];refine .mkV b n1 ?_;rw[m,dw f _ (by simp[bO]),gX j a]
  | mkF b F' h r =>
   rename_i e' n' aa l;refine⟨F,_,.box c,.mkF b _ h ?_⟩;rw[cP (L:=L) (ρ:=ρ) (xs:=l) (fun u hu=>by rw[dw f u (by simpa[bO] using hu),gX j a])];exact r
 | alloc c =>
  rename_i t zs k;have a:∀{o:Own},Keeps L (L.set k o):=by
   simp only[bU,Option.isNone_iff_eq_none] at s;exact Keeps.new s
  cases h1 with
  | box b =>
   rename_i t' q k';refine⟨F,_,.alloc c,?_⟩;rw[set_comm L _ _ (fun e=>d k rfl (by rw[e]))];have e:val (L.set k (.box c t zs)) (put (some k) (.own k 0) ρ) q=val L ρ q:=by
    rw[dw f q (by simp[bO]),gX j (a)]
   rw[<-e];exact .box b
  | alloc b =>
   rename_i t' ag k';refine⟨F,_,.alloc c,?_⟩;rw[set_comm L _ _ (fun e=>d k rfl (by rw[e]))];exact .alloc b
  | mkS b =>
   refine⟨F,_,.alloc c,?_⟩;rw[set_comm L _ _ (fun e=>d k rfl (by rw[e]))];exact .mkS b
  | mkV b n1 m =>
   refine⟨F,_,.alloc c,?_⟩;rw[set_comm L _ _ (fun e=>d k rfl (by rw[e]))];refine .mkV b n1 ?_;rw[m,dw f _ (by simp[bO]),gX j a]
  | mkF b F' h r =>
   rename_i e' n' aa l;refine⟨F,_,.alloc c,.mkF b _ h ?_⟩;rw[cP (L:=L) (ρ:=ρ) (xs:=l) (fun u hu=>by rw[dw f u (by simpa[bO] using hu),gX j a])];exact r
 | mkS c =>
  rename_i t al p zs k;have a:∀{o:Own},Keeps L (L.set k o):=by
   exact Keeps.new (py s).1
  cases h1 with
  | box b =>
   rename_i t' q k';refine⟨F,_,.mkS c,?_⟩;rw[set_comm L _ _ (fun e=>d k rfl (by rw[e]))];have e:val (L.set k (.row (.slice (some ⟨c,0,none⟩) p p) t al p (List.replicate p zs).flatten)) (put (some k) (.v (.slice (some ⟨c,0,none⟩) p p)) ρ) q=val L ρ q:=by
    rw[dw f q (by simp[bO]),gX j (a)]
   rw[<-e];exact .box b
  | alloc b =>
   rename_i t' ag k';refine⟨F,_,.mkS c,?_⟩;rw[set_comm L _ _ (fun e=>d k rfl (by rw[e]))];exact .alloc b
  | mkS b =>
   refine⟨F,_,.mkS c,?_⟩;rw[set_comm L _ _ (fun e=>d k rfl (by rw[e]))];exact .mkS b
  | mkV b n1 m =>
   refine⟨F,_,.mkS c,?_⟩;rw[set_comm L _ _ (fun e=>d k rfl (by rw[e]))];refine .mkV b n1 ?_;rw[m,dw f _ (by simp[bO]),gX j a]
  | mkF b F' h r =>
   rename_i e' n' aa l;refine⟨F,_,.mkS c,.mkF b _ h ?_⟩;rw[cP (L:=L) (ρ:=ρ) (xs:=l) (fun u hu=>by rw[dw f u (by simpa[bO] using hu),gX j a])];exact r
 | mkV c p ap =>
  rename_i t al b0 zs x0 k;have w:p=nu (val L ρ x0):=by rw[ap,ux _ (by simp[bO])]
  clear ap
  have a:∀{o:Own},Keeps L (L.set k o):=by
   exact Keeps.new (pz s).1
  cases h1 with
  | box b =>
   rename_i t' q k';refine⟨F,_,.mkV c p w,?_⟩;rw[set_comm L _ _ (fun e=>d k rfl (by rw[e]))];have e:val (L.set k (.row (.slice (some ⟨c,0,none⟩) p p) t al p (List.replicate p zs).flatten)) (put (some k) (.v (.slice (some ⟨c,0,none⟩) p p)) ρ) q=val L ρ q:=by
    rw[dw f q (by simp[bO]),gX j (a)]
   rw[<-e];exact .box b
  | alloc b =>
   rename_i t' ag k';refine⟨F,_,.mkV c p w,?_⟩;rw[set_comm L _ _ (fun e=>d k rfl (by rw[e]))];exact .alloc b
  | mkS b =>
   refine⟨F,_,.mkV c p w,?_⟩;rw[set_comm L _ _ (fun e=>d k rfl (by rw[e]))];exact .mkS b
  | mkV b n1 m =>
   refine⟨F,_,.mkV c p w,?_⟩;rw[set_comm L _ _ (fun e=>d k rfl (by rw[e]))];refine .mkV b n1 ?_;rw[m,dw f _ (by simp[bO]),gX j a]
  | mkF b F' h r =>
   rename_i e' n' aa l;refine⟨F,_,.mkV c p w,.mkF b _ h ?_⟩;rw[cP (L:=L) (ρ:=ρ) (xs:=l) (fun u hu=>by rw[dw f u (by simpa[bO] using hu),gX j a])];exact r
 | mkF c F' h r =>
  rename_i e n sz xs;have ay:=cP (xs:=xs) ux;rw[ay] at r;cases h1 with
  | box b =>
   rename_i t' q k';refine⟨F2,L,.mkF c _ h r,?_⟩;have e:=dw (L:=L) (ρ:=ρ) (v:=.v (.slice (some ⟨c,0,none⟩) n n)) f q (by simp[bO]);rw[<-e];exact .box b
  | alloc b=>exact⟨F2,L,.mkF c _ h r,.alloc b⟩
  | mkS b=>exact⟨F2,L,.mkF c _ h r,.mkS b⟩
  | mkV b n1 m=>exact⟨F2,L,.mkF c _ h r,.mkV b n1 (by rw[m,dw f _ (by simp[bO])])⟩
  | mkF b F1' ar ax =>
   rename_i e' n' aa l;refine⟨F2,L,.mkF c _ (aF.le_trans ar h) r,.mkF b _ (aF.le_refl _) ?_⟩;rw[cP (L:=L) (ρ:=ρ) (xs:=l) (fun u hu=>by rw[dw f u (by simpa[bO] using hu)])];exact h _ _ ax
theorem JF {x y:eY}{dx dy:Option Nat}(hr:Real F L) (hc:yg x y=true) (ab:∀k,dx=some k->k∉cR (bO y)) (an:∀k,dy=some k->k∉cR (bO x)) (d:∀k,dx=some k->dy≠some k)
  (av:Vd L ρ) (hK:evalOp P x dx F L ρ (fun F1 L1 cb=>evalOp P y dy F1 L1 cb K)):evalOp P y dy F L ρ (fun F1 L1 cb=>evalOp P x dx F1 L1 cb K):=by
 have ee:∀k,dy=some k->dx≠some k:=fun k e e'=>d k e' e;simp only[yg,abn,yo] at hc;rcases hc with((((⟨⟨hx,hy⟩,dk⟩ | ⟨hx,hy⟩) | ⟨hx,hy⟩) | ⟨hx,hy⟩) | ⟨hx,hy⟩) | ⟨hx,hy⟩
 ·rw[cO hx] at hK;obtain⟨v,hT,q⟩:=(gq hx).ex _ hK
  clear hK
  have ag:∀{F':aF}{L':Loc}{u:SV},F.le F'->Keeps L L'->K F' L' (put dy u (put dx v ρ))->(JB x=false\/L'=L)->evalOp P x dx F' L' (put dy u ρ) K:=by
   intro F' L' u hF hL hk hR;rw[cO hx];have bj:Alike x L L' ρ (put dy u ρ):=fun z r=>⟨gW an z r,fun k off e=>by
    obtain⟨g,ty,cs,h⟩:=av.ev e;rw[hL k g ty cs h,h]⟩
   refine(gq hx).mono _ _ (fun v' dT=>?_) (rY hx hF bj hT hR);subst dT;rw[put_comm d];exact hk
  have hv:=dw (L:=L) (ρ:=ρ) (v:=v) ab
  by_cases bi:dL y=true
  ·rw[cO bi] at q ⊢;have bj:Alike y L L (put dx v ρ) ρ:=fun z r=>⟨(gW ab z r).symm,fun _ _ _=>rfl⟩;exact(gq bi).mono _ _ (fun u hu=>ag (aF.le_refl F) (Keeps.refl _) hu (.inr rfl)) (rY bi (aF.le_refl F) bj q)
  ·have bo:JB x=false:=by
    rcases dk with h | h
    ·cases e:JB x with
     | false=>rfl
     | true=>rw[e] at h;cases h
    ·exact p7 h bi
   by_cases cM:fF y=true
   ·rw[cm cM] at q ⊢;obtain⟨l,h2⟩:=q;have p:bU y dy L ρ=true:=jn (L':=L) (ρ':=put dx v ρ) hv (fun k _ e=>e) l;refine⟨p,fun F' L' u hm bk=>ag hm.le (hm.get p) (h2 F' L' u ?_ bk) (.inl bo)⟩;exact hm.like fun z r=>(hv z r).symm
   ·cases y<;>first | (exfalso;revert bi cM hy;simp[ER,dL,iQ,fF,qB];done) | skip
    case callD f args =>
     have e1:=dY (xs:=args) hv;simp only[evalOp,e1] at q ⊢;exact q.imp fun F' L' u bc hl _ h=>ag bc hl.keeps h (.inl bo)
    case callVD f args =>
     have e0:=gW (v:=v) (ρ:=ρ) ab f (by simp[bO]);have e1:=dY (xs:=args) (L:=L) (L':=L) (ρ:=ρ) (ρ':=put dx v ρ) (fun z r=>hv z (by simp[bO,r]));simp only[evalOp,e0,e1] at q ⊢;split at q
     ·exact q.imp fun F' L' u bc hl _ h=>ag bc hl.keeps h (.inl bo)
     ·exact q.elim
    case appD e sz b zs s z =>
     have e0:=gW (v:=v) (ρ:=ρ) ab s (by simp[bO]);have e1:=gW (v:=v) (ρ:=ρ) ab z (by simp[bO]);simp only[evalOp,e0,e1] at q ⊢;split at q
     ·refine q.imp (aF.le_refl F) fun kd n xs n' bp u ea bk h=>ag (aF.le_refl F) ?_ (h bk) (.inl bo);rcases ea with h | ⟨_,h⟩
      ·exact Keeps.row h
      ·exact Keeps.new h
     ·exact q.elim
 ·have ap:∀{f:Nat}{args:List Value},eV P f args F L dx (fun F' L' v=>evalOp P y dy F' L' (put dx (.v v) ρ) K) ->
    bU y dy L ρ=true/\∀F' L' u,Made y dy F L ρ F' L' u->eV P f args F' L' dx (fun F2 L2 v=>K F2 L2 (put dx (.v v) (put dy u ρ))):=by
   intro f args hC;have up:∀{L1:Loc},Left dx L L1->∀{u:SV},∀z∈bO y,val L1 (put dx u ρ) z=val L ρ z:=by
    intro L1 hl u z r;rw[dw ab z r,gX av hl.keeps]
   have p:bU y dy L ρ=true:=by
    obtain⟨F',L',v,bc,hl,_,h⟩:=hC.some hr;rw[cm hy] at h;refine jn (L':=L') (ρ':=put dx (.v v) ρ) (up hl) (fun k hk e=>?_) h.1;rcases hl with rfl | ⟨j,o,hj,hn,rfl⟩ | ⟨j,rv,t,sz,n,xs,hj,rfl⟩
    ·exact e
    ·rw[cK (fun ej=>d j hj (by rw[<-ej];exact hk))] at e;exact e
    ·rw[Loc.aac] at e;split at e
     ·cases e
     ·exact e
   refine⟨p,fun F' L' u hm=>(hC.up hm.le hr.glob (hm.part p) (fun k hk hn=>by rw[hm.frame k (d k hk)];exact hn)).imp fun F2 L2 v bc dE ax h=>?_⟩
   clear dE
   obtain⟨l,dq,h2⟩:=h
   clear dq
   rw[put_comm d];rcases h2 with⟨rfl,h2⟩ | ⟨k,o,hk,hn,rfl,h2⟩ | ⟨kr,rv,t,sz,n,xs,cx,rfl,h2⟩
   ·rw[cm hy] at h2;refine h2.2 F2 L2 u ?_ ax;have w:=up (L1:=L) (.inl rfl) (u:=.v v)
    clear up h2
    cases hm with
    | box g=>rw[<-w _ (by simp[bO])];exact .box g
    | alloc g=>exact .alloc g
    | mkS g=>exact .mkS g
    | mkV g n hn=>exact .mkV g n (by rw[hn,w _ (by simp[bO])])
    | mkF g F' ba hg =>
     rename_i xs;refine .mkF g _ (aF.le_refl _) ?_;rw[cP (L:=L) (ρ:=ρ) (xs:=xs) (fun z r=>w z (by simpa[bO] using r))];exact l _ _ hg
   ·rw[cm hy] at h2;refine h2.2 F2 _ u ?_ ax;have w:=up (L1:=L.set k o) (.inr (.inl ⟨k,o,hk,hn,rfl⟩)) (u:=.v v)
    clear up h2
    cases hm with
    | box g =>
     rw[set_comm L _ _ (fun e=>d k hk (by rw[e])),<-w _ (by simp[bO])];exact .box g
    | alloc g =>
     rw[set_comm L _ _ (fun e=>d k hk (by rw[e]))];exact .alloc g
    | mkS g =>
     rw[set_comm L _ _ (fun e=>d k hk (by rw[e]))];exact .mkS g
    | mkV g n hn =>
     rw[set_comm L _ _ (fun e=>d k hk (by rw[e]))];exact .mkV g n (by rw[hn,w _ (by simp[bO])])
    | mkF g F' ba hg =>
     rename_i xs;refine .mkF g _ (aF.le_refl _) ?_;rw[cP (L:=L) (ρ:=ρ) (xs:=xs) (fun z r=>w z (by simpa[bO] using r))];exact l _ _ hg
   ·rw[cm hy] at h2;refine h2.2 F2 _ u ?_ ax;have w:=up (L1:=L.set kr (.row (.slice none 0 0) t sz 0 [])) (.inr (.inr ⟨kr,rv,t,sz,n,xs,cx,rfl⟩)) (u:=.v v);have aw:∀k,dy=some k->fF y=true->bU y dy L ρ=true->(∀e n' dg bp,y≠.mkFD e n' dg bp)->kr≠k:=by
     intro k hk _ hc dr e;subst hk e;cases y<;>simp only[bU,cx,Option.isNone_some,aaZ] at hc;exact dr _ _ _ _ rfl
    clear up h2
    cases hm with
    | box g =>
     rw[set_comm L _ _ (aw _ rfl hy p (fun _ _ _ _=>by simp)).symm,<-w _ (by simp[bO])];exact .box g
    | alloc g =>
     rw[set_comm L _ _ (aw _ rfl hy p (fun _ _ _ _=>by simp)).symm];exact .alloc g
    | mkS g =>
     rw[set_comm L _ _ (aw _ rfl hy p (fun _ _ _ _=>by simp)).symm];exact .mkS g
    | mkV g n hn =>
     rw[set_comm L _ _ (aw _ rfl hy p (fun _ _ _ _=>by simp)).symm];exact .mkV g n (by rw[hn,w _ (by simp[bO])])
    | mkF g F' ba hg =>
     rename_i xs;refine .mkF g _ (aF.le_refl _) ?_;rw[cP (L:=L) (ρ:=ρ) (xs:=xs) (fun z r=>w z (by simpa[bO] using r))];exact l _ _ hg
  cases x<;>first | (exfalso;revert hx;simp[iQ];done) | skip
  case callD f args =>
   simp only[evalOp] at hK;obtain⟨l,h2⟩:=ap hK;rw[cm hy];refine⟨l,fun F' L' u hm _=>?_⟩;have e1:bE L' (put dy u ρ) args=bE L ρ args:=dY fun z r=>by rw[dw an z (by simpa[bO] using r),gX av (hm.get l)]
   simp only[evalOp,e1];exact h2 F' L' u hm
  case callVD f args =>
   simp only[evalOp] at hK;split at hK
   case h_2=>exact hK.elim
   rename_i er fi ca hf;obtain⟨l,h2⟩:=ap hK;rw[cm hy];refine⟨l,fun F' L' u hm _=>?_⟩;have e0:=gW (v:=u) (ρ:=ρ) an f (by simp[bO]);have e1:bE L' (put dy u ρ) args=bE L ρ args:=dY fun z r=>by rw[dw an z (by simp[bO,r]),gX av (hm.get l)]
   simp only[evalOp,e0,e1,hf];exact h2 F' L' u hm
 ·cases x<;>first | (exfalso;revert hx;simp[qB];done) | skip
  case appD e sz b zs s z =>
   rw[C9] at hK;split at hK
   case h_2=>exact hK.elim
   rename_i sv xv cp cw;have p:bU y dy L ρ=true:=by
    obtain⟨kd,v,n',bp,l,_,h⟩:=hK.some hr;rw[cm hy] at h;have cd:Keeps L (L.set kd (.row v e sz n' bp)):=by
     rcases l with⟨n,xs,l⟩ | ⟨_,l⟩
     ·exact Keeps.row l
     ·exact Keeps.new l
    refine jn (L':=_) (ρ':=put dx (.v v) ρ) (fun u hu=>by rw[dw ab u hu,gX av cd]) (fun k hk e=>?_) h.1;rw[Loc.aac] at e;split at e
    ·cases e
    ·exact e
   rw[cm hy];refine⟨p,fun F' L' u hm dp=>?_⟩
   clear dp
   have e0:=gW (v:=u) (ρ:=ρ) an s (by simp[bO]);have e1:=gW (v:=u) (ρ:=ρ) an z (by simp[bO]);simp only[evalOp,e0,e1,cp,cw];obtain⟨kd,n,xs,m,news,l,⟨ad,c,h2,h3,h4⟩,h5,h6,h7,h8⟩:=hK;have cd:∀{o:Own},Keeps L (L.set kd o):=by
    rcases l with l | ⟨_,l,_⟩ | ⟨_,l,_⟩
    ·exact Keeps.row l
    ·exact Keeps.new l
    ·exact Keeps.new l
   have aw:∀k,dy=some k->L.get k=none->kd≠k:=by
    rintro k hk hn rfl;rcases l with l | ⟨l,_⟩ | ⟨l,_⟩
    ·rw[hn] at l;cases l
    ·exact d kd l hk
    ·exact d kd l hk
   refine⟨kd,n,xs,m,news,?_,⟨ad,c,h2,h3,?_⟩,h5,h6,h7,fun v hv ax=>?_⟩
   ·rcases l with l | ⟨h0,l,dv⟩ | ⟨h0,l,ad,q1,q2,q3,q4⟩
    ·exact .inl (hm.part p kd _ l)
    ·exact .inr (.inl ⟨h0,by rw[hm.frame kd (d kd h0)];exact l,dv⟩)
    ·exact .inr (.inr ⟨h0,by rw[hm.frame kd (d kd h0)];exact l,ad,q1,q2,q3,q4.imp (·.mono hm.le) id⟩)
   ·rcases h4 with h4 | h4
    ·exact .inl (h4.mono hm.le)
    ·exact .inr h4
   ·have h9:=h8 v hv (ax.down hm.le hr.glob (HC (hm.part p)));rw[cm hy] at h9;rw[put_comm d];refine h9.2 F' _ u ?_ ax;have w:∀z∈bO y,val (L.set kd (.row v e sz (n+m) (xs++news))) (put dx (.v v) ρ) z=val L ρ z:=fun z r=>by
     rw[dw ab z r,gX av cd]
    clear h8 h9 cp cw e0 e1
    cases hm with
    | box g =>
     rename_i t x k;simp only[bU,Option.isNone_iff_eq_none] at p;rw[set_comm L _ _ (fun e=>aw k rfl p e.symm),<-w _ (by simp[bO])];exact .box g
    | alloc g =>
     rename_i t zs k;simp only[bU,Option.isNone_iff_eq_none] at p;rw[set_comm L _ _ (fun e=>aw k rfl p e.symm)];exact .alloc g
    | mkS g =>
     rename_i e0 ds n0 zs k;rw[set_comm L _ _ (fun e=>aw k rfl (py p).1 e.symm)];exact .mkS g
    | mkV g n hn =>
     rename_i e0 ds b0 zs x0 k;rw[set_comm L _ _ (fun e=>aw k rfl (pz p).1 e.symm)];exact .mkV g n (by rw[hn,w _ (by simp[bO])])
    | mkF g F' ba hg =>
     rename_i dB;refine .mkF g _ ba ?_;rw[cP (L:=L) (ρ:=ρ) (xs:=dB) (fun z r=>w z (by simpa[bO] using r))];exact hg
 ·rw[cm hx] at hK;obtain⟨bl,hK⟩:=hK;have bu:bU y dy L ρ=true:=by
   obtain⟨F',L',v,hm,bc,bk⟩:=AG hr bl;have h:=hK F' L' v hm bk;rw[cm hy] at h;refine jn (L':=L') (ρ':=put dx v ρ) (fun z r=>by rw[dw ab z r,gX av (hm.get bl)]) (fun k hk e=>?_) h.1;rw[hm.frame k (fun e'=>d k e' hk)] at e;exact e
  rw[cm hy];refine⟨bu,fun F1 L1 v1 ce el=>?_⟩;rw[cm hx];refine⟨jn (L':=L) (ρ':=ρ) (fun z r=>by rw[dw an z r,gX av (ce.get bu)]) (fun k hk e=>by rw[ce.frame k (d k hk)];exact e) bl,fun F2 L2 v2 df ax=>?_⟩;obtain⟨Fa,La,ha,hb⟩:=HE bl bu ab an d av ce df;have cX:bU y dy La (put dx v2 ρ)=true :=
   jn (L':=L) (ρ':=ρ) (fun z r=>by rw[dw ab z r,gX av (ha.get bl)]) (fun k hk e=>by rw[ha.frame k (fun e'=>d k e' hk)];exact e) bu
  have dd:Real Fa La:=ax.down hb.le (hr.glob.mono ha.le) (hb.part cX);have h:=hK Fa La v2 ha dd;rw[cm hy] at h;rw[put_comm d];exact h.2 F2 L2 v1 hb ax
 ·have be:=sO hx;rw[cO be] at hK;obtain⟨v,hT,q⟩:=(gq be).ex _ hK
  clear hK
  obtain⟨n,a,z,k,off,g,t,cs,ho,e1,e2,e3,e4,e5,hK⟩:=jl hy q;have ha:a∈bO y:=by rcases ho with rfl | rfl<;>simp[bO]
  have r:z∈bO y:=by rcases ho with rfl | rfl<;>simp[bO]
  have q0:=gW (v:=v) (ρ:=ρ) ab a ha;have q1:=dw (L:=L) (v:=v) (ρ:=ρ) ab z r;rw[q0] at e3;rw[q1] at e1 e2 hK;refine i9 ho e1 e2 e3 e4 e5 ?_;have h3:=(gq be).mono _ (fun u=>K F _ (put dx u (put dy (.v undef) ρ))) (fun u hu=>by subst hu;rw[put_comm d];exact hK)
   (rY be (aF.le_refl F) (vp (L:=L) (ρ:=ρ) (v:=.v undef) an) hT)
  rw[cO be];exact AF hx ho (Da e4) (fun j hj=>cK hj) h3
 ·have bd:=sO hy;obtain⟨n,a,z,k,off,g,t,cs,ho,e1,e2,e3,e4,e5,hK⟩:=jl hx hK;have ha:a∈bO x:=by rcases ho with rfl | rfl<;>simp[bO]
  have r:z∈bO x:=by rcases ho with rfl | rfl<;>simp[bO]
  rw[cO bd] at hK;obtain⟨v,hT,hK⟩:=(gq bd).ex _ hK;have hT:=AF (L':=L) hy ho (fun sv=>(Da e4 sv).symm) (fun j hj=>(cK hj).symm) hT;have bj:Alike y L L (put dx (.v undef) ρ) ρ:=fun u hu=>⟨(gW ab u hu).symm,fun _ _ _=>rfl⟩;have hT:=rY bd (aF.le_refl F) bj hT;rw[cO bd];refine(gq bd).mono _ _ (fun u hu=>?_) hT;subst hu;have q0:=gW (v:=u) (ρ:=ρ) an a ha;have q1:=dw (L:=L) (v:=u) (ρ:=ρ) an z r;refine i9 ho (by rw[q1];exact e1) (by rw[q1];exact e2) (by rw[q0];exact e3) e4 e5 ?_;rw[q1,put_comm d];exact hK
end
section
variable {P:Program}{F:aF}{L:Loc}{ρ:Env}{K K':dm}
theorem Left.none {d:Option Nat}{L L':Loc}(h:Left d L L') {j:Nat}(f:d≠some j) (e:L.get j=none):L'.get j=none:=by
 rcases h with rfl | ⟨k,o,c,b,rfl⟩ | ⟨k,l,t,sz,n,xs,b,rfl⟩
 ·exact e
 ·rw[cK (fun a=>f (by rw[a];exact c))];exact e
 ·rw[cK (fun a=>by rw[a,b] at e;cases e)];exact e
theorem lM {o:eY}(ho:okD o=true) {d:Option Nat}(hr:Real F L) (w:Vd L ρ) (l:evalOp P o d F L ρ K)
  (hk:∀F1 L1 q,(∃v,q=put d v ρ)->F.le F1->Real F1 L1->Vd L1 q->(∀j,d≠some j->L.get j=none->L1.get j=none)->K F1 L1 q->K' F1 L1 q):evalOp P o d F L ρ K':=by
 have a:∀{L1:Loc}{v:SV},Keeps L L1->(∀k off,v=.own k off->∃g ty cs,L1.get k=some (.box g ty cs))->Vd L1 (put d v ρ):=by
  intro L1 v hL hv t k off e;have p:ρ t=.own k off->∃g ty cs,L1.get k=some (.box g ty cs):=fun e=>by
   obtain⟨g,ty,cs,h⟩:=w t k off e;exact⟨g,ty,cs,hL k g ty cs h⟩
  rw[put_eq] at e;cases d with
  | none=>exact p e
  | some k' =>
   simp only[] at e;split at e
   ·exact hv k off e
   ·exact p e
 by_cases hs:dL o=true
 ·rw[cO hs] at l ⊢;obtain⟨v,hT,hv⟩:=(gq hs).ex _ l;refine(gq hs).mono _ _ (fun u hu=>?_) hT;subst hu;refine hk _ _ _ ⟨_,rfl⟩ (aF.le_refl F) hr (a (Keeps.refl L) fun k off e=>?_) (fun _ _ h=>h) hv;subst e;obtain⟨x,_,m,hx⟩:=JC hs hT;exact w.ev hx
 ·by_cases ha:fF o=true
  ·rw[cm ha] at l ⊢;refine⟨l.1,fun F' L' v hm c=>hk _ _ _ ⟨v,rfl⟩ hm.le c (a (hm.get l.1) fun k off e=>?_) (fun j y e=>by rw[hm.frame j y];exact e) (l.2 F' L' v hm c)⟩;cases hm with
   | box g=>injection e with e1 e2;subst e1;exact⟨_,_,_,by rw[Loc.aac,o6 rfl]⟩
   | alloc g=>injection e with e1 e2;subst e1;exact⟨_,_,_,by rw[Loc.aac,o6 rfl]⟩
   | mkS g=>cases e
   | mkV g n hn=>cases e
   | mkF g F' r hg=>cases e
  ·cases o<;>first | (exfalso;revert hs ha ho;simp[okD,ER,dL,iQ,fF,qB,ji];done) | skip
   case callD f args =>
    simp only[evalOp] at l ⊢;exact l.imp fun F' L' v r hl c h=>hk _ _ _ ⟨_,rfl⟩ r c (a hl.keeps fun k off e=>by cases e) (fun j y e=>hl.none y e) h
   case callVD f args =>
    simp only[evalOp] at l ⊢;split at l
    ·exact l.imp fun F' L' v r hl c h=>hk _ _ _ ⟨_,rfl⟩ r c (a hl.keeps fun k off e=>by cases e) (fun j y e=>hl.none y e) h
    ·exact l.elim
   case appD e sz b zs s z =>
    simp only[evalOp] at l ⊢;split at l
    ·refine l.imp (aF.le_refl F) fun kd n xs n' aE u ag c h=>hk _ _ _ ⟨_,rfl⟩ (aF.le_refl F) c (a ?_ fun k off e=>by cases e) ?_ (h c)
     ·rcases ag with h | ⟨_,h⟩
      ·exact Keeps.row h
      ·exact Keeps.new h
     ·intro j y e;have am:j≠kd:=by
       rintro rfl;rcases ag with h | ⟨h,_⟩
       ·rw[e] at h;cases h
       ·exact y h
      rw[cK am];exact e
    ·exact l.elim
   all_goals
    obtain⟨n',a',x',k,off,g,ty,cs,ap,e1,e2,e3,e4,e5,l⟩:=jl rfl l;refine i9 ap e1 e2 e3 e4 e5 (hk _ _ _ ⟨_,rfl⟩ (aF.le_refl F) (Real.store (wW e5) hr e4) ?_ (fun j _ e=>by rw[cK (fun ej=>by rw[ej,e4] at e;cases e)];exact e) l);intro t k' m e;have p:ρ t=.own k' m->∃g' ty' cs',Loc.get (L.set k (.box g ty (aR cs off (aM (val L ρ x'))))) k'=some (.box g' ty' cs'):=fun e=>by
     obtain⟨g',ty',cs',h⟩:=w t k' m e;rw[Loc.aac];split
     ·exact⟨_,_,_,rfl⟩
     ·exact⟨_,_,_,h⟩
    rw[put_eq] at e;cases d with
    | none=>exact p e
    | some k' =>
     simp only[] at e;split at e
     ·cases e
     ·exact p e
theorem kF {o:eY}(k:okD o=true) {d:Option Nat}(l:Real F L) (b:Vd L ρ) (n:evalOp P o d F L ρ K)
  (c:∀F1 L1 a,(∃v,a=put d v ρ)->F.le F1->Real F1 L1->Vd L1 a->K F1 L1 a->K' F1 L1 a):evalOp P o d F L ρ K' :=
 lM k l b n fun F1 L1 a m f e h _ j=>c F1 L1 a m f e h j
theorem wg {o:eY}(r:okD o=true) {d:Option Nat}(c:Real F L) (a:evalOp P o d F L ρ K):∃v F1 L1,K F1 L1 (put d v ρ):=by
 by_cases j:dL o=true
 ·rw[cO j] at a;obtain⟨v,_,t⟩:=(gq j).ex _ a;exact⟨v,F,L,t⟩
 ·by_cases m:fF o=true
  ·rw[cm m] at a;obtain⟨F',L',v,p,_,l⟩:=AG c a.1;exact⟨v,F',L',a.2 F' L' v p l⟩
  ·cases o<;>first | (exfalso;revert j m r;simp[okD,ER,dL,iQ,fF,qB,ji];done) | skip
   case callD f args =>
    simp only[evalOp] at a;obtain⟨F',L',v,_,_,_,h⟩:=a.some c;exact⟨_,F',L',h⟩
   case callVD f args =>
    simp only[evalOp] at a;split at a
    ·obtain⟨F',L',v,_,_,_,h⟩:=a.some c;exact⟨_,F',L',h⟩
    ·exact a.elim
   case appD e sz b zs s z =>
    simp only[evalOp] at a;split at a
    ·obtain⟨kd,v,n',n,_,_,h⟩:=a.some c;exact⟨_,F,_,h⟩
    ·exact a.elim
   all_goals
    obtain⟨n',a',u,k,off,g,ty,cs,q,w,x,e3,y,e5,a⟩:=jl rfl a;exact⟨_,F,_,a⟩
def ja:eY:=.mov (.c undef)
def res (g:Option (Nat×Bool)) (ρ:Env) (o:eY):Option eY :=
 match g with
 | none=>some o
 | some (s,a)=>match ρ s with
  | .v (.bool b)=>some (if b=a then o else ja)
  | .v (.tuple _)=>some ja
  | _=>none
theorem gQ {d:Option Nat}{o:eY}{g:Option (Nat×Bool)}{c:List aB} :
  bh P (.op d o g::c) F L ρ K↔∃o',res g ρ o=some o'/\evalOp P o' d F L ρ (fun F1 L1 h=>bh P c F1 L1 h K):=by
 cases g with
 | none=>simp only[bh,res,w7,exists_eq_left']
 | some p =>
  obtain⟨s,f⟩:=p;simp only[bh,res];cases e:ρ s with
  | own k off=>simp
  | el a j=>simp
  | v u =>
   cases u<;>simp only[w7,exists_eq_left',reduceCtorEq,false_and,exists_false]
   case bool b =>
    cases b<;>cases f<;>simp[xS,lU e,ja,evalOp,aN,ev]
   case tuple vs=>rfl
def looks (o:eY) (g:Option (Nat×Bool)):List Nat :=
 match g with
 | none=>cR (bO o)
 | some (s,_)=>s::cR (bO o)
def tG (d:Option Nat) (l:List Nat):Bool :=
 match d with
 | none=>true
 | some k=>match gI l k with | true=>false | false=>true
def Db:Option Nat->Option Nat->Bool
 | some a,some b=>match Nat.beq a b with | true=>false | false=>true
 | _,_=>true
def mE:aB->aB->Bool
 | .op b x c,.op a y d=>okD x&&okD y&&yg x y&&tG b (looks y d)&&tG a (looks x c)&&Db b a
 | _,_=>false
theorem lg {d:Option Nat}{l:List Nat}(h:tG d l=true):∀k,d=some k->k∉l:=by
 rintro k rfl a;simp only[tG,dn.2 a] at h;cases h
theorem pA {d a:Option Nat}(h:Db d a=true):∀k,d=some k->a≠some k:=by
 rintro k rfl e;subst e;simp[Db] at h
theorem pY {g:Option (Nat×Bool)}{o:eY}{d:Option Nat}{v:SV}(h:∀k,d=some k->k∉looks o g):res g (put d v ρ) o=res g ρ o:=by
 cases g with
 | none=>rfl
 | some p =>
  obtain⟨s,a⟩:=p;have:put d v ρ s=ρ s:=by
   rw[put_eq];cases d with
   | none=>rfl
   | some k =>
    simp only[];rw[vv];intro e;exact h k rfl (by simp[looks,e])
  simp only[res,this]
theorem dP {g:Option (Nat×Bool)}{o o':eY}(h:res g ρ o=some o'):o'=o\/o'=ja:=by
 cases g with
 | none=>simp only[res,w7] at h;exact .inl h.symm
 | some p =>
  obtain⟨s,a⟩:=p;simp only[res] at h;split at h
  ·injection h with h
   split at h
   ·exact .inl h.symm
   ·exact .inr h.symm
  ·injection h with h;exact .inr h.symm
  ·cases h
theorem pB {o:eY}{g:Option (Nat×Bool)}{k:Nat}(h:k∈cR (bO o)):k∈looks o g:=by
 cases g with
 | none=>exact h
 | some p=>exact abb _ h
theorem JG {x y:aB}{a:List aB}(w:mE x y=true) (hr:Real F L) (t:Vd L ρ) (h:bh P (x::y::a) F L ρ K):bh P (y::x::a) F L ρ K:=by
 cases x with
 | frz k=>exact p7 w (by cases y<;>exact abA)
 | pc d o g=>exact p7 w (by cases y<;>exact abA)
 | op dx x gx =>
  cases y with
  | frz k=>exact p7 w abA
  | pc d o g=>exact p7 w abA
  | op dy y gy =>
   simp only[mE,yo] at w;obtain⟨⟨⟨⟨⟨am,c⟩,hc⟩,h1⟩,h2⟩,h3⟩:=w;have h1:=lg h1;have h2:=lg h2;have h3:=pA h3;have az:∀k,dy=some k->dx≠some k:=fun k e e'=>h3 k e' e;rw[gQ] at h;obtain⟨x',s,h⟩:=h;have j:okD ja=true:=rfl;have n:okD x'=true:=by rcases dP s with rfl | rfl;exact am;exact j
   -- y's guard
   have hy:∃r,res gy ρ y=some r:=by
    obtain⟨v,F1,L1,f⟩:=wg n hr h;rw[gQ] at f;obtain⟨r,b,_⟩:=f;rw[pY h1] at b;exact⟨r,b⟩
   obtain⟨r,b⟩:=hy;have z:okD r=true:=by rcases dP b with rfl | rfl;exact c;exact j
   have hA:evalOp P x' dx F L ρ (fun F1 L1 q=>evalOp P r dy F1 L1 q (fun F2 L2 p=>bh P a F2 L2 p K)):=by
    refine kF n hr t h ?_;rintro F1 L1 q ⟨v,rfl⟩ _ _ _ f;rw[gQ] at f;obtain⟨aE,l,f⟩:=f;rw[pY h1,b] at l;injection l with l
    subst l;exact f
   have lx:∀k,dy=some k->k∉cR (bO x'):=by
    intro k e f;rcases dP s with rfl | rfl
    ·exact h2 k e (pB f)
    ·simp[ja,bO,cR] at f
   have ly:∀k,dx=some k->k∉cR (bO r):=by
    intro k e f;rcases dP b with rfl | rfl
    ·exact h1 k e (pB f)
    ·simp[ja,bO,cR] at f
   have hB:evalOp P r dy F L ρ (fun F1 L1 q=>evalOp P x' dx F1 L1 q (fun F2 L2 p=>bh P a F2 L2 p K)):=by
    by_cases m:r=ja
    ·subst m;simp only[ja,evalOp,aN,ev];exact ye (K:=fun F2 L2 p=>bh P a F2 L2 p K) (u:=.v undef) n lx h3 hA
    ·have ey:r=y:=by rcases dP b with h | h;exact h;exact p7 h m
     subst ey;refine JF hr ?_ ly lx h3 t hA;rcases dP s with rfl | rfl
     ·exact hc
     ·simp only[okD,abn] at c;rcases c with c | c
      ·simp only[yg,c,abO,abn];exact .inl (.inl (.inl (.inl (.inl (by rfl)))))
      ·simp only[yg,c,abO,abn];exact .inl (.inr rfl)
   rw[gQ];refine⟨r,b,kF z hr t hB ?_⟩;rintro F1 L1 q ⟨v,rfl⟩ _ _ _ f;rw[gQ];exact⟨x',by rw[pY h2];exact s,f⟩
theorem AH {y:aB}{s:List aB}:∀(p:List aB),(∀x∈p,mE x y=true)->∀{F:aF}{L:Loc}{ρ:Env},Real F L->Vd L ρ->bh P (p++y::s) F L ρ K->bh P (y::(p++s)) F L ρ K
 | [],_,F,L,ρ,_,_,h=>h
 | .frz k::p,b,F,L,ρ,_,_,h=>by
  have:=b (.frz k) (by simp);exact p7 this (by cases y<;>exact abA)
 | .pc d o g::p,b,F,L,ρ,_,_,h=>by
  have:=b (.pc d o g) (by simp);exact p7 this (by cases y<;>exact abA)
 | .op q x t::p,b,F,L,ρ,r,c,h=>by
  have a:=b (.op q x t) (by simp);have u:bh P (.op q x t::y::(p++s)) F L ρ K:=by
   rw[aaV,gQ] at h;obtain⟨n,f,h⟩:=h;have l:okD x=true:=by
    cases y with
    | frz k=>exact p7 a abA
    | pc d o g=>exact p7 a abA
    | op dy y gy=>simp only[mE,yo] at a;exact a.1.1.1.1.1
   have e:okD n=true:=by rcases dP f with rfl | rfl;exact l;rfl
   rw[gQ];refine⟨n,f,kF e r c h ?_⟩;intro F1 L1 w _ _ m j v;exact AH p (fun z hz=>b z (by simp[hz])) m j v
  exact JG a r c u
end
def VE (A:cF):Op->Bool
 | .store _ (.tmp i) _=>gI A.co (1000000+i)
 | .mapUpdate _ (.tmp i) _ _=>gI A.co (1000000+i)
 | _=>false
def BH (P:Program) (A:cF) (a:Array Oper) (i:Nat):Option aB :=
 match a[i]? with
 | none=>none
 | some o=>match iZ a o.guard,iX P (A.owned o.dst) o.op,P4 A.n o.dst with
  | some g,some s,true=>match A.isX o.dst with
   | true=>match g,s with
    | none,.call f l=>some (.pc o.dst (.call f l) none)
    | none,.callV f l=>some (.pc o.dst (.callV f l) none)
    | _,_=>none
   | false=>match A.isO o.dst||VE A o.op with
    | true=>match x9 s with
     | some s'=>some (.op o.dst s' g)
     | none=>none
    | false=>match vo A.fl A.bk A.bx s with
     | some s'=>match dL s'||iQ s'||fF s'||qB s'||ji s' with
      | true=>some (.op o.dst s' g)
      | false=>none
     | none=>none
  | _,_,_=>none
def fL (P:Program) (A:cF) (ops:Array Oper):List Nat->Option (List aB)
 | []=>some []
 | i::is=>match BH P A ops i,fL P A ops is with
  | some s,some ss=>some (s::ss)
  | _,_=>none
def binding (e:Edge):Bool:=Region.binds .any e
def direct (ops:Array Oper) (i:Nat):List Nat :=
 match ops[i]? with
 | some o=>(o.after.toList.filter binding).map (·.on)
 | none=>[]
def BI:List (List Nat)->Nat->List Nat
 | [],_=>[]
 | l::_,0=>l
 | _::a,n+1=>BI a n
def BJ (a:List (List Nat)) (x:Nat):List Nat->Bool
 | []=>false
 | z::zs=>match gI (BI a z) x with | true=>true | false=>BJ a x zs
def BK (ops:Array Oper) (a:List (List Nat)) (y:Nat):Bool :=
 (direct ops y).all (fun z=>Nat.blt z y)&&(BI a y).all (fun x=>gI (direct ops y) x||BJ a x (direct ops y))
def JH (ops:Array Oper) (a:List (List Nat)):Bool:=(List.range ops.size).all (BK ops a)
def qa (a:List (List Nat)):List (Nat×aB)->Bool
 | []=>true
 | (x,b)::l=>l.all (fun p=>mE b p.2||gI (BI a p.1) x)&&qa a l
def bP:List Nat->Bool
 | []=>true
 | x::l=>!gI l x&&bP l
def ES (P:Program) (ops:Array Oper) (is:List Nat) (a:List (List Nat)) (ss:List aB):Bool :=
 P.follows .mixedOrders&&JH ops a&&bP is&&Nat.beq is.length ops.size&&is.all (fun i=>Nat.blt i ops.size)&&(List.range ops.size).all (gI is)&&qa a (is.zip ss)
theorem dz:∀{l:List Nat},bP l=true->l.Nodup
 | [],_=>List.nodup_nil
 | x::l,h=>by
  simp only[bP,yo,Bool.not_eq_true'] at h;refine List.nodup_cons.2 ⟨fun a=>?_,dz h.2⟩;rw[dn.2 a] at h;cases h.1
theorem AJ {a:List (List Nat)}{x:Nat}:∀{l:List Nat},BJ a x l=true->∃z,z∈l/\x∈BI a z
 | [],h=>by cases h
 | z::zs,h=>by
  simp only[BJ] at h;split at h
  ·rename_i e;exact⟨z,by simp,dn.1 e⟩
  ·obtain⟨b,d,c⟩:=AJ h;exact⟨b,by simp[d],c⟩
section
variable {P:Program}{K:dm}{Q:Exit->Act->World->Prop}{ops:Array Oper}
theorem wh {j:List (List Nat)}(c:JH ops j=true) {done:Nat->Prop}(a:∀i,i<ops.size->done i->∀z∈direct ops i,done z):∀y,y<ops.size->(∀z∈direct ops y,done z)->∀x∈BI j y,done x:=by
 intro y
 induction y using Nat.strongRecOn with
 | _ y n =>
  intro l f x m;have h:=aa1.1 c y (List.mem_range.2 l);simp only[BK,yo] at h;have b:=aa1.1 h.2 x m;simp only[abn] at b;rcases b with b | b
  ·exact f x (dn.1 b)
  ·obtain⟨z,k,d⟩:=AJ b;have e:z<y:=by
    have o:Nat.blt z y=true:=aa1.1 h.1 z k;simpa using o
   exact n z e (by omega) (a z (by omega) (f z k)) x d
theorem qY {A:cF}:∀{is:List Nat}{ss:List aB},fL P A ops is=some ss->ss.length=is.length/\∀p q y,is=p++y::q->∃a b c,ss=a++b::c/\a.length=p.length/\BH P A ops y=some b/\fL P A ops (p++q)=some (a++c)
 | [],ss,h=>by
  simp only[fL,w7] at h;subst h;refine⟨rfl,fun p q y e=>?_⟩;cases p<;>cases e
 | i::is,ss,h=>by
  simp only[fL] at h;split at h
  case h_2=>cases h
  rename_i s d j f;injection h with h
  subst h;obtain⟨k,l⟩:=qY f;refine⟨by simp[k],fun p q y e=>?_⟩;cases p with
  | nil =>
   simp only[aa5,List.cons.injEq] at e;obtain⟨rfl,rfl⟩:=e;exact⟨[],s,d,rfl,rfl,j,by simpa using f⟩
  | cons x p =>
   simp only[aaV,List.cons.injEq] at e;obtain⟨rfl,rfl⟩:=e;obtain⟨a,b,c,r,m,o,n⟩:=l p q y rfl;refine⟨s::a,b,c,by simp[r],by simp[m],o,?_⟩;simp only[aaV,fL,j,n]
theorem wj {d:List (List Nat)}:∀{p q:List (Nat×aB)}{y:Nat×aB},qa d (p++y::q)=true->qa d (p++q)=true/\∀x∈p,mE x.2 y.2=true\/x.1∈BI d y.1
 | [],q,y,h=>by
  obtain⟨l,n⟩:=y;simp only[aa5,qa,yo] at h ⊢;exact⟨h.2,fun x a=>by cases a⟩
 | (m,o)::p,q,y,h=>by
  simp only[aaV,qa,yo] at h ⊢;obtain⟨f,e⟩:=h;obtain⟨j,k⟩:=wj e;have b:=aa1.1 f;refine⟨⟨aa1.2 fun z c=>b z ?_,j⟩,fun x a=>?_⟩
  ·rcases xo.1 c with c | c
   ·exact xo.2 (.inl c)
   ·exact xo.2 (.inr (abb _ c))
  ·rcases aaQ.1 a with rfl | a
   ·have:=b y (xo.2 (.inr (by simp)));simp only[abn] at this;rcases this with h | h
    ·exact .inl h
    ·exact .inr (dn.1 h)
   ·exact k x a
theorem aJ.same {L L2:Loc}{ρ:Env}{a:Act}(h:aJ L ρ a) (b:L.sameAs L2):aJ L2 ρ a:=by
 have c:∀sv,conc L2 sv=conc L sv:=by
  intro sv;cases sv with
  | v x=>rfl
  | el a j=>rfl
  | own k off=>simp only[conc,b k]
 exact⟨fun j=>by rw[c];exact h.eq j,fun j k off e=>by rw[b k];exact h.own j k off e,h.el⟩
theorem Step.aaH {F F':aF}{L L' L2:Loc}{w w':World}(h:Step F L w F' L' w') (a:L'.sameAs L2):Step F L w F' L2 w' :=
 ⟨h.le,h.os,h.tape,h.output,h.size,h.same,h.frz,fun b ⟨k,o,e,hb⟩=>h.own b ⟨k,o,by rw[<-a k];exact e,hb⟩⟩
theorem Dc {A:cF}{i:Nat}{s:aB}{m:List aB}{F:aF}{L:Loc}{ρ:Env}{a:Act}{w:World}{KK:Act->World->Prop}(hi:i<ops.size) (c:BH P A ops i=some s) (hs:St F L w) (he:aJ L ρ a) (hn:a.tmps.size=A.n)
  (l:bh P (s::m) F L ρ K)
  (hQ:∀a' w' F' L' ρ',St F' L' w'->aJ L' ρ' a'->a'.tmps.size=A.n->a'.defers=a.defers->Step F L w F' L' w'->(∀j,((ops[i]?).bind (·.dst))≠some j->a'.tmps.getD j undef=a.tmps.getD j undef)->bh P m F' L' ρ' K->KK a' w') :
  wpOp P ops Q i KK a w:=by
 unfold BH at c;split at c
 case h_1=>cases c
 rename_i o an;split at c
 case h_2=>cases c
 rename_i g s0 y am ab;split at c
 ·split at c
  ·injection c with c
   subst c;simp only[bh] at l
  ·injection c with c
   subst c;simp only[bh] at l
  ·cases c
 have ay:∃s',s=.op o.dst s' g/\((∀{F:aF}{L:Loc}{ρ:Env}{K:dm},evalOp P s' o.dst F L ρ K->evalOp P s0 o.dst F L ρ (fun F' L' ρ'=>Real F' L'->K F' L' ρ')) \/
   ∀{F:aF}{L:Loc}{ρ:Env}{K:dm},evalOp P s' o.dst F L ρ K->evalOp P s0 o.dst F L ρ (fun F' L' ρ'=>∃L2,L'.sameAs L2/\(Real F' L2->K F' L2 ρ'))):=by
  split at c
  ·split at c
   case h_2=>cases c
   rename_i s' z;injection c with c
   exact⟨s',c.symm,.inl fun h=>M7 z h⟩
  ·split at c
   case h_2=>cases c
   rename_i s' z;split at c
   case h_2=>cases c
   rename_i ao;injection c with c
   cases ae:iQ s' with
   | true=>exact⟨s',c.symm,.inr fun h=>JD z ae h⟩
   | false=>exact⟨s',c.symm,.inl fun h=>Nc z ao ae h⟩
 obtain⟨s',be,t⟩:=ay;subst be;have hd:∀k,o.dst=some k->k<a.tmps.size:=by
  intro k hk;rw[hk] at ab;rw[hn];have h2:Nat.blt k A.n=true:=ab;simpa using h2
 have az:(ops[i]?).bind (·.dst)=o.dst:=by rw[an];rfl
 rw[az] at hQ;simp only[wpOp,an];have r:evalOp P s' o.dst F L ρ (fun F' L' ρ'=>bh P m F' L' ρ' K)->o.wp P a w KK Q:=by
  intro l;rcases t with t | t
  ·have h1:=t l;have:=fK (Q:=Q) hs he hd am h1;refine Oper.wp_mono ?_ (qW (asg:=[]) this);rintro a' w' ⟨⟨F',L',ρ',g1,g2,g3,g4,g5,g6⟩,ac⟩;exact hQ a' w' F' L' ρ' g1 g2 (by rw[g3,hn]) g4 g5 ac (g6 ⟨w',g1⟩)
  ·have h1:=t l;have:=fK (Q:=Q) hs he hd am h1;refine Oper.wp_mono ?_ (qW (asg:=[]) this);rintro a' w' ⟨⟨F',L',ρ',g1,g2,g3,g4,g5,L2,g6,g7⟩,ac⟩;have s1:St F' L2 w':=g1.part fun k o e=>by rw[<-g6 k];exact e
   exact hQ a' w' F' L2 ρ' s1 (g2.same g6) (by rw[g3,hn]) g4 (g5.aaH g6) ac (g7 ⟨w',s1⟩)
 have skip:bh P m F L (put o.dst (.v undef) ρ) K->KK (a.put o.dst undef) w:=by
  intro l;exact hQ _ w F L _ hs (he.put hd (v:=undef) (x:=.v undef) rfl bY dV (rW L)) (by rw[lT,hn]) (iD _ _ _) (Step.refl _ _ _) (fun j hj=>lf hj) l
 cases u:o.guard with
 | none =>
  rw[u] at y;simp only[iZ,w7] at y;subst y;simp only[bh] at l;rw[o6 (by simp[Region.wanted,u])];exact .inl (r l)
 | some p =>
  obtain⟨j,q⟩:=p;rw[u] at y;simp only[iZ] at y;split at y
  case h_2=>cases y
  rename_i d ag;injection y with y
  subst y;simp only[bh] at l;split at l
  ·rename_i b hb;have f:=he.eq d;rw[hb] at f;have hy:yielded ops a.tmps j=some b:=by
    simp only[yielded,ag,Option.bind_some,rX f]
   have hw:Region.wanted o (yielded ops a.tmps)=(b == q):=by
    simp only[Region.wanted,u,hy];cases b<;>cases q<;>rfl
   rw[hw];cases b<;>simp only[xS] at l
   ·rw[lU hb] at l;cases q
    ·exact .inl (r l)
    ·exact skip l
   ·rw[lU hb] at l;cases q
    ·exact skip l
    ·exact .inl (r l)
  ·rename_i vs hb;have f:=he.eq d;rw[hb] at f;have hy:yielded ops a.tmps j=none:=by
    simp only[yielded,ag,Option.bind_some];rw[abg] at f;cases e:a.tmps[d]? with
    | none=>rfl
    | some v=>rw[e] at f;simp only[Option.getD_some,conc] at f;rw[f]
   have hw:Region.wanted o (yielded ops a.tmps)=false:=by
    simp only[Region.wanted,u,hy];rfl
   rw[hw];exact skip l
  ·exact l.elim
theorem aJ.vd {L:Loc}{ρ:Env}{a:Act}(b:aJ L ρ a):Vd L ρ:=by
 intro t k off e;exact b.own t k off e
theorem uw {l:Array Bool}{z:Nat}(h:z<l.size) (b c:Bool):l.getD z b=l.getD z c:=by
 simp[abg,h]
theorem min_mem:∀{l:List Nat},l≠[]->∃y,y∈l/\∀z∈l,y<=z
 | [],h=>p7 rfl h
 | [x],_=>⟨x,by simp,fun z a=>by simp at a;omega⟩
 | x::c::l,_=>by
  obtain⟨y,d,b⟩:=min_mem (l:=c::l) (by simp)
  by_cases h:x<=y
  ·exact⟨x,by simp,fun z a=>by
    rcases aaQ.1 a with rfl | a
    ·exact aa8 _
    ·exact abB h (b z a)⟩
  ·exact⟨y,abb _ d,fun z a=>by
    rcases aaQ.1 a with rfl | a
    ·omega
    ·exact b z a⟩
theorem qb {i z:Nat}{o:Oper}(d:ops[i]?=some o):z∈direct ops i↔∃e∈o.after,Region.binds .any e=true/\e.on=z:=by
 simp only[direct,d,abk,List.mem_filter,Array.mem_toList_iff,binding];constructor
 ·rintro⟨e,⟨c,b⟩,a⟩;exact⟨e,c,b,a⟩
 ·rintro⟨e,c,b,a⟩;exact⟨e,⟨c,b⟩,a⟩
theorem HF {A:cF}{cl:List (List Nat)}(aw:JH ops cl=true):∀(fuel:Nat) (l:List Nat) (ss:List aB) (b:Array Bool) (F:aF) (L:Loc) (ρ:Env) (a:Act) (w:World),
  fL P A ops l=some ss->b.size=ops.size->l.Nodup->(∀i,i∈l↔i<ops.size/\b.getD i true=false)->l.length<=fuel->qa cl (l.zip ss)=true ->
  (∀i,i<ops.size->b.getD i true=true->∀z∈direct ops i,b.getD z true=true) ->
  St F L w->aJ L ρ a->a.tmps.size=A.n->bh P ss F L ρ K ->
  (∀a' w',fw A.n F L w a (dstsOf ops (List.range ops.size)) K a' w'->Q .normal a' w')->wpAny P .any ops Q fuel b a w:=by
 have m:∀y z,y<ops.size->z∈direct ops y->z<y:=by
  intro y z hy t;have h:=aa1.1 aw y (List.mem_range.2 hy);simp only[BK,yo] at h;have h3:Nat.blt z y=true:=aa1.1 h.1 z t;simpa using h3
 intro fuel
 induction fuel with
 | zero =>
  intro l ss b F L ρ a w hl an bb c v hp d hs he hn hK hQ;have:l=[]:=abh (by omega);subst this;simp only[fL,w7] at hl;subst hl;refine⟨?_,hQ a w ⟨F,L,ρ,hs,he,hn,rfl,Step.refl _ _ _,fun _ _=>rfl,hK⟩⟩;apply List.eq_nil_iff_forall_not_mem.2;intro i hi;rw[mem_ready] at hi;obtain⟨h1,o,h2,_⟩:=hi;have:=(c i).2 ⟨(Array.getElem?_eq_some_iff.1 h2).1,h1⟩;cases this
 | succ fuel ih =>
  intro l ss b F L ρ a w hl an bb c v hp d hs he hn hK hQ;refine⟨fun hr=>?_,fun y hy=>?_⟩
  ·have:l=[]:=by
    refine Classical.byContradiction fun r=>?_;obtain⟨y,h1,h2⟩:=min_mem r;obtain⟨h3,h4⟩:=(c y).1 h1;have ad:y∈Region.ready .any ops b:=by
     rw[mem_ready];refine⟨h4,ops[y],Array.getElem?_eq_getElem h3,fun e ao am=>?_⟩;have t:e.on∈direct ops y:=(qb (Array.getElem?_eq_getElem h3)).2 ⟨e,ao,am,rfl⟩;have bx:=m y e.on h3 t;rw[uw (by omega) false true];cases hd:b.getD e.on true with
     | true=>rfl
     | false =>
      have:=h2 e.on ((c e.on).2 ⟨by omega,hd⟩);omega
    rw[hr] at ad;cases ad
   subst this;simp only[fL,w7] at hl;subst hl;exact hQ a w ⟨F,L,ρ,hs,he,hn,rfl,Step.refl _ _ _,fun _ _=>rfl,hK⟩
  ·rw[mem_ready] at hy;obtain⟨h1,o,ho,ag⟩:=hy;have f:=(Array.getElem?_eq_some_iff.1 ho).1;have ap:=(c y).2 ⟨f,h1⟩;obtain⟨p,q,rfl⟩:=List.append_of_mem ap;obtain⟨cy,bc⟩:=qY hl;obtain⟨sp,sy,sq,rfl,ac,bv,bz⟩:=bc p q y rfl;have aE:(p++y::q).zip (sp++sy::sq)=p.zip sp++(y,sy)::q.zip sq:=by
    rw[List.zip_append ac.symm];rfl
   rw[aE] at hp;obtain⟨cb,bs⟩:=wj hp;have ab:∀z∈direct ops y,b.getD z true=true:=by
    intro z t;have bx:=m y z f t;obtain⟨e,ao,am,rfl⟩:=(qb ho).1 t;rw[uw (by omega) true false];exact ag e ao am
   have s:∀sx∈sp,mE sx sy=true:=by
    intro sx cd;obtain⟨k,hk⟩:=List.getElem?_of_mem cd;have dq:=(xD.1 hk).1;have ay:p[k]?=some (p[k]'(by omega)):=w8 (by omega);have hm:(p[k]'(by omega),sx)∈p.zip sp:=aaS (i:=k) (by rw[List.getElem?_zip_eq_some];exact⟨ay,hk⟩);rcases bs _ hm with h | h
    ·exact h
    ·exfalso;have hd:=wh aw (done:=fun z=>b.getD z true=true) d y f ab _ h;have ch:p[k]'(by omega)∈p++y::q:=xo.2 (.inl (aaS ay));have:=((c _).1 ch).2;simp only at hd;rw[hd] at this;cases this
   have ci:=AH sp s ⟨w,hs⟩ he.vd hK;refine Dc f bv hs he hn ci ?_;intro a' w' F' L' ρ' g1 g2 g3 g4 g5 g6 g7;have ae:(p++q).Nodup/\y∉p++q:=by
    have:=(List.perm_middle.nodup_iff).1 bb;rw[List.nodup_cons] at this;exact⟨this.2,this.1⟩
   have u:∀i,(b.setIfInBounds y true).getD i true=if i=y then true else b.getD i true:=by
    intro i;simp only[abg,Array.getElem?_setIfInBounds]
    by_cases hi:y=i
    ·subst hi;rw[o6 rfl,o6 rfl];simp[an,f]
    ·rw[vv hi,vv (fun h=>hi h.symm)]
   refine ih (p++q) (sp++sq) _ F' L' ρ' a' w' bz (by simp[an]) ae.1 (fun i=>?_) (by simp at v ⊢;omega) ?_ ?_ g1 g2 g3 g7 ?_
   ·rw[u];have h0:=c i;constructor
    ·intro hi;have r:i≠y:=fun e=>ae.2 (e▸hi);rw[vv r];refine h0.1 ?_;rcases xo.1 hi with h | h
     ·exact xo.2 (.inl h)
     ·exact xo.2 (.inr (abb _ h))
    ·rintro⟨ce,al⟩;split at al
     ·cases al
     ·rename_i r;have:=h0.2 ⟨ce,al⟩;rcases xo.1 this with h | h
      ·exact xo.2 (.inl h)
      ·rcases aaQ.1 h with h | h
       ·exact p7 h r
       ·exact xo.2 (.inr h)
   ·rw[List.zip_append ac.symm];exact cb
   ·intro i hi hd z t;rw[u] at hd ⊢;split
    ·rfl
    ·split at hd
     ·rename_i h;subst h;exact ab z t
     ·exact d i hi hd z t
   ·rintro bu cf ⟨F'',L'',be,k1,k2,k3,k4,k5,k6,k7⟩;refine hQ bu cf ⟨F'',L'',be,k1,k2,k3,k4.trans g4,g5.trans k5,fun j hj=>?_,k7⟩;rw[k6 j hj,g6 j];intro e;apply hj;have:∀(is:List Nat),y∈is->j∈dstsOf ops is:=by
     intro is
     induction is with
     | nil=>intro h;cases h
     | cons x is az =>
      intro h;simp only[dstsOf];rcases aaQ.1 h with rfl | h
      ·rw[e];simp
      ·split
       ·exact abb _ (az h)
       ·exact az h
    exact this _ (List.mem_range.2 f)
theorem tH {A:cF}{r:Nat}{is:List Nat}{cl:List (List Nat)}{ss:List aB}{F:aF}{L:Loc}{ρ:Env}{a:Act}{w:World}(t:fL P A ops is=some ss) (j:ES P ops is cl ss=true)
  (p:St F L w) (he:aJ L ρ a) (z:a.tmps.size=A.n) (hK:bh P ss F L ρ K) (hQ:∀d w',fw A.n F L w a (dstsOf ops (List.range ops.size)) K d w'->Q .normal d w') :
  (Code.region r ops true).wp P Q a w:=by
 simp only[ES,yo] at j;obtain⟨⟨⟨⟨⟨⟨x,m⟩,f⟩,k⟩,h5⟩,q⟩,o⟩:=j;have f:=dz f;have k:=v8 k;have c:∀i∈is,i<ops.size:=fun i hi=>by
  have h:Nat.blt i ops.size=true:=aa1.1 h5 i hi;simpa using h
 refine wp_region_any x ?_;show wpAny P .any ops Q ops.size (Array.replicate ops.size false) a w.drew;refine HF m ops.size is ss _ F L ρ a w.drew t (by simp) f (fun i=>?_) (by omega) o ?_ p.drew he z hK ?_
 ·constructor
  ·intro hi;refine⟨c i hi,?_⟩;simp[abg,c i hi]
  ·rintro⟨hi,_⟩;exact dn.1 (aa1.1 q i (List.mem_range.2 hi))
 ·intro i hi e;simp[abg,hi] at e
 ·rintro d w' ⟨F',L',ρ',y,g2,l,s,b,v,u⟩;refine hQ d w' ⟨F',L',ρ',y,g2,l,s,?_,v,u⟩;exact⟨b.le,b.os,b.tape,b.output,b.size,b.same,b.frz,b.own⟩
end
def lN (L L':Loc):Prop:=∀k g t cs,L.get k=some (.box g t cs)->∃cs',L'.get k=some (.box g t cs')
def yh (ks:List Nat) (L L':Loc):Prop:=∀k g t cs,L.get k=some (.box g t cs)->∃cs',L'.get k=some (.box g t cs')/\(k∉ks->cs'=cs)
structure fM (P:Program) (PX:aF->Loc->Value->Prop) (f:Nat) (args:List Value) (F:aF) (L:Loc) (K:aF->Loc->Value->Prop):Prop where
 out:∃(ks ko:List Nat) (Lin:List Own) (R:aF->List Own->Value->Prop) (Pp:aF->List Own->Value->Prop),L.sub ks=some Lin/\ks.Nodup/\ko.Nodup/\(∀k,k∈ko->k∈ks\/L.get k=none)/\wV P f args.toArray F Lin R Pp /\
  (∀v F' Lo,F.le F'->ks.length=Lo.length->yh ks L ((L.aaf ks).puts ks Lo)->Pp F' Lo v->PX F' ((L.aaf ks).puts ks Lo) v) /\
  ∀v F' Lo,F.le F'->R F' Lo v->ko.length=Lo.length /\
   (∀k g t cs,k∈ks->L.get k=some (.box g t cs)->∃cs',Loc.get ((L.aaf ks).puts ko Lo) k=some (.box g t cs')) /\
   K F' ((L.aaf ks).puts ko Lo) v
section
variable {P:Program}{F:aF}{L:Loc}{ρ:Env}{a:Act}{w:World}{K:dm}{o:Oper}{Q:Exit->Act->World->Prop}
theorem fM.imp {PX:aF->Loc->Value->Prop}{f:Nat}{args:List Value}{K K':aF->Loc->Value->Prop}(h:fM P PX f args F L K) (m:∀F' L' v,K F' L' v->K' F' L' v):fM P PX f args F L K':=by
 obtain⟨ks,ko,l,R,Pp,k,d,p,s,r,e,j⟩:=h;exact⟨ks,ko,l,R,Pp,k,d,p,s,r,e,fun v F' Lo n q=>let⟨a,b,c⟩:=j v F' Lo n q;⟨a,b,m _ _ _ c⟩⟩
theorem Df {PX:aF->Loc->Value->Prop}{f:Nat}{args:List Value}(hs:St F L w) (he:aJ L ρ a) (hd:∀k,o.dst=some k->k<a.tmps.size)
  (hrun:(∃fn,P.funcs[f]?=some fn/\fn.body.isSome=true/\(fn.name == "runtime.NumGoroutine")=false)->(execOp a.eval o).run P w=.ok (.enter f args.toArray) w)
  (hK:fM P PX f args F L fun F' L' v=>K F' L' (put o.dst (.v v) ρ))
  (hQ:∀v ch w' F' L',EC v ch->St F' L' w'->Step F L w F' L' w'->PX F' L' v->Q (.panic ch) a w'):o.wp P a w (bC F L w a K) Q:=by
 obtain⟨ks,ko,l,R,Pp,hsub,hn,hno,hko,hc,hPX,hK⟩:=hK;unfold Oper.wp;rw[hrun hc.ent];rw[Oper.upon_enter];refine(hc.run w (hs.handed hsub hn)).mono ?_;rintro e w' (⟨v,F',lo,rfl,hs',hst,hR⟩ | ⟨v,ch,F',lo,rfl,hch,hs',hst,hlo,hbx,hp⟩)
 ·obtain⟨hlen,hbox,hK⟩:=hK v F' lo hst.le hR;obtain⟨h1,h2⟩:=jT hs hsub hn hno hko hs' hst hlen;refine⟨F',_,_,h1,he.put hd (x:=.v v) rfl bY dV ?_,lT _ _ _,iD _ _ _,h2,hK⟩;intro k g ty cs e
  by_cases hk:k∈ks
  ·exact hbox k g ty cs hk e
  ·rcases dR ko lo (L.aaf ks) k hno hlen with⟨h1,h2⟩ | ⟨i,h1,h2,h3⟩
   ·rw[h1,gk,vv hk];exact⟨cs,e⟩
   ·rcases hko k (aaS h1) with h | h
    ·exact p7 h hk
    ·rw[h] at e;cases e
 ·obtain⟨hl,hg⟩:=fo hsub;have hlen:ks.length=lo.length:=by rw[hlo,hl]
  obtain⟨h1,h2⟩:=jT hs hsub hn hn (fun k hk=>.inl hk) hs' hst hlen;refine hQ v ch w' F' _ hch h1 h2 (hPX v _ _ hst.le hlen ?_ hp);intro k g t cs e;rcases dR ks lo (L.aaf ks) k hn hlen with⟨q1,q2⟩ | ⟨i,q1,q2,q3⟩
  ·rw[q1,gk,vv q2];exact⟨cs,e,fun _=>rfl⟩
  ·rw[q2];have:=hg i k q1;rw[e] at this;obtain⟨cs',h⟩:=hbx i g t cs this.symm;exact⟨cs',h,fun h=>p7 (aaS q1) h⟩
end
section
variable {P:Program}
theorem pD {y:Operand}{s:eY}(h:Ao y=some s):∃g,s=.gload g:=by
 cases y with
 | global g =>
  simp only[Ao] at h;split at h
  ·injection h with h;exact⟨_,h.symm⟩
  ·cases h
 | tmp n=>cases h
 | const v=>cases h
 | func f=>cases h
theorem JI {own:Bool}{op:Op}{f:Nat}{args:List X}(b:iX P own op=some (.call f args)):∃c,op=.call c/\c.callee=.value (.func f)/\hO c.args.toList=some args:=by
 cases op
 case call c =>
  simp only[iX] at b;split at b
  case h_1=>cases b
  rename_i e d;split at b
  ·rename_i m l;split at b
   case h_2=>cases b
   split at b
   case h_2=>cases b
   injection b with b
   injection b with e1 e2
   subst e1 e2;exact⟨c,rfl,l,d⟩
  all_goals (exfalso;revert b;repeat' split)<;>simp
 all_goals (exfalso;revert b;simp only[iX];repeat' split)<;>first | contradiction | (intro h;obtain⟨k,h⟩:=pD h;cases h;done) | (simp;done) | (rename_i j;obtain⟨k,rfl⟩:=pD j;simp)
theorem HG {own:Bool}{op:Op}{x:X}{args:List X}(b:iX P own op=some (.callV x args)):∃c,op=.call c/\hO c.args.toList=some args/\((∃y,c.callee=.value y/\bG y=some x)\/∃n nm,c.callee=.invoke (.tmp n) nm/\x=.mt nm n):=by
 cases op
 case call c =>
  simp only[iX] at b;split at b
  case h_1=>cases b
  rename_i f d;split at b
  ·exfalso;revert b;(repeat' split)<;>simp
  ·rename_i y _ e;split at b
   case h_2=>cases b
   rename_i l;injection b with b
   injection b with e1 e2
   subst e1 e2;exact⟨c,rfl,d,.inl ⟨y,e,l⟩⟩
  ·rename_i n nm e;injection b with b
   injection b with e1 e2
   subst e1 e2;exact⟨c,rfl,d,.inr ⟨_,_,e,rfl⟩⟩
  all_goals (exfalso;revert b;repeat' split)<;>simp
 all_goals (exfalso;revert b;simp only[iX];repeat' split)<;>first | contradiction | (intro h;obtain⟨k,h⟩:=pD h;cases h;done) | (simp;done) | (rename_i j;obtain⟨k,rfl⟩:=pD j;simp)
theorem Nd {own:Bool}{op:Op}{x:X}(b:iX P own op=some (.pan x)):∃y,op=.panic y/\bG y=some x:=by
 cases op
 case panic y =>
  simp only[iX] at b;split at b
  case h_2=>cases b
  rename_i d;injection b with b
  injection b with e1
  subst e1;exact⟨y,rfl,d⟩
 all_goals (exfalso;revert b;simp only[iX];repeat' split)<;>first | contradiction | (intro h;obtain⟨k,h⟩:=pD h;cases h;done) | (simp;done) | (rename_i c;obtain⟨k,rfl⟩:=pD c;simp)
end
section
variable {P:Program}{F:aF}{L:Loc}{ρ:Env}{a:Act}{w:World}{K:dm}{o:Oper}{Q:Exit->Act->World->Prop}
theorem wk {PX:aF->Loc->Value->Prop}{own:Bool}{f:Nat}{args:List X}(l:St F L w) (h:aJ L ρ a) (p:∀k,o.dst=some k->k<a.tmps.size) (m:iX P own o.op=some (.call f args))
  (r:fM P PX f (bE L ρ args) F L fun F' L' v=>K F' L' (put o.dst (.v v) ρ))
  (t:∀v j w' F' L',EC v j->St F' L' w'->Step F L w F' L' w'->PX F' L' v->Q (.panic j) a w'):o.wp P a w (bC F L w a K) Q:=by
 refine Df l h p (fun d=>?_) r t;obtain⟨c,q,n,s⟩:=JI m;have e:=gj s h;have b:c.args.map a.eval=(bE L ρ args).toArray:=by apply Array.ext';simpa using e
 simp[execOp,q,resolve,n,Deferred.ofValue,Act.eval,invoke,b,kg d]
theorem qd {PX:aF->Loc->Value->Prop}{own:Bool}{f:Nat}{x:X}{fi ca:List Value}{args:List X}(hs:St F L w) (q:aJ L ρ a) (hd:∀k,o.dst=some k->k<a.tmps.size) (hl:iX P own o.op=some (.callV x args)) (d:mK P (ev ρ x)=some (f,fi,ca))
  (hK:fM P PX f (fi++bE L ρ args++ca) F L fun F' L' v=>K F' L' (put o.dst (.v v) ρ))
  (hQ:∀v ch w' F' L',EC v ch->St F' L' w'->Step F L w F' L' w'->PX F' L' v->Q (.panic ch) a w'):o.wp P a w (bC F L w a K) Q:=by
 refine Df hs q hd (fun l=>?_) hK hQ;obtain⟨c,ho,ha,⟨y,hc,hy⟩ | ⟨n,nm,hc,rfl⟩⟩:=HG hl
 ·have ey:=aL hy q;have m:=gj ha q;have h:c.args.map a.eval=(bE L ρ args).toArray:=by apply Array.ext';simpa using m
  have p:∀z,ev ρ x=.v z->a.eval y=z:=fun z e=>by rw[ey,bN e]
  have:=C4 (w:=w) (args:=bE L ρ args) d p l;simp only[execOp,ho,resolve,hc,h];exact this
 ·have m:=gj ha q;have h:c.args.map a.eval=(bE L ρ args).toArray:=by apply Array.ext';simpa using m
  simp only[ev] at d;cases r:ρ n with
  | own k off=>rw[r] at d;cases d
  | el b j=>rw[r] at d;cases d
  | v z =>
   rw[r] at d;have hz:a.eval (.tmp n)=z:=by
    have:=q.eq n;rw[r] at this;exact this
   simp only[Tt,mK] at d;split at d
   case h_2=>cases d
   rename_i t u ac;split at d
   case h_2=>cases d
   rename_i f' hm;injection d with d
   injection d with e1 e2
   injection e2 with e2 e3
   subst e1 e2 e3;have ab:z=.iface t u:=by simpa using ac
   subst ab;have s:(#[Value.iface t u]++(bE L ρ args).toArray).extract 1 (#[Value.iface t u]++(bE L ρ args).toArray).size=(bE L ρ args).toArray:=by apply Array.ext';simp
   have h0:(#[Value.iface t u]++(bE L ρ args).toArray)[0]?=some (.iface t u):=by simp
   have:=kh (w:=w) (u:=u) (args:=(bE L ρ args).toArray) hm l;simp only[execOp,ho,resolve,hc,h,hz,Sem.run_bind,Sem.run_pure,Result.andThen_ok,invoke,h0,s,this];simp
theorem HI {PX:aF->Loc->Value->Prop}{own:Bool}{x:X}(e:St F L w) (m:aJ L ρ a) (h:iX P own o.op=some (.pan x)) {t:TypeId}{u:Value}(f:val L ρ x=.iface t u) (l:PX F L (.iface t u))
  (n:∀v c w' F' L',EC v c->St F' L' w'->Step F L w F' L' w'->PX F' L' v->Q (.panic c) a w'):o.wp P a w (bC F L w a K) Q:=by
 obtain⟨y,k,d⟩:=Nd h;have j:=aL d m;unfold Oper.wp;have b:(execOp a.eval o).run P w=.halt (.panic (.iface t u)) w:=by
  simp[execOp,k,j,f,Instr.panic,goPanic]
 rw[b];exact n _ _ w F L (EC.one _) e (Step.refl _ _ _) l
end
structure CallXDPt (P:Program) (PX:aF->Loc->Value->Prop) (fb:List Nat) (f:Nat) (args:List Value) (F:aF) (L:Loc) (K:aF->Loc->Value->Prop):Prop where
 out:∃(ks:List Nat) (Lin:List Own) (R:aF->List Own->Value->Prop) (Pp:aF->List Own->Value->Prop),L.sub ks=some Lin/\ks.Nodup/\(∀k∈ks,k∉fb)/\wV P f args.toArray F Lin R Pp /\
  (∀v F' L' Lo,F.le F'->L'.sub ks=some Lo->yh ks L L'->Pp F' Lo v->PX F' L' v) /\
  ∀v F' Lo,F.le F'->R F' Lo v->ks.length=Lo.length/\(∀(i:Nat) g t cs,Lin[i]?=some (.box g t cs)->∃cs',Lo[i]?=some (.box g t cs')) /\
   (Real F' (L.puts ks Lo)->K F' (L.puts ks Lo) v)
def sH (P:Program) (L:Loc) (ρ:Env):eY->Option (Nat×List Value)
 | .call f args=>some (f,bE L ρ args)
 | .callV f args=>match mK P (ev ρ f) with
  | some (f,fi,ca)=>some (f,fi++bE L ρ args++ca)
  | none=>none
 | _=>none
def BL:eY->List Nat
 | .call _ args=>cR args
 | .callV f args=>cR (f::args)
 | _=>[]
def Dg:eY->Bool
 | .call _ _=>true
 | .callV _ _=>true
 | _=>false
def bF (P:Program) (PX:aF->Loc->Value->Prop) (fb:List Nat):List aB->aF->Loc->Env->dm->Prop
 | [],F,L,ρ,K=>K F L ρ
 | .op d o g::a,F,L,ρ,K=>∃o',res g ρ o=some o'/\evalOp P o' d F L ρ fun F' L' ρ'=>bF P PX fb a F' L' ρ' K
 | .frz _::_,_,_,_,_=>False
 | .pc d o g::a,F,L,ρ,K=>match sH P L ρ o,g with
  | some (f,vs),none=>CallXDPt P PX fb f vs F L fun F' L' v=>bF P PX fb a F' L' (put d (.v v) ρ) K
  | _,_=>False
def JJ:eY->Bool
 | .loadF _ _ _=>true
 | .gload _=>true
 | _=>false
def P6:eY->Bool
 | .mkfn _ _ _=>true
 | _=>false
def Tm (o:eY):Bool:=C6 o||JJ o||P6 o
def Tx (fb:List Nat):eY->Bool
 | .loadK key _ _ _=>gI fb key
 | _=>false
theorem lm {fb:List Nat}{o:eY}(h:(Tm o||Tx fb o)=true):dL o=true:=by cases o<;>first | rfl | (exact p7 h (by decide)) | (simp[Tm,Tx,C6,JJ,P6] at h)
def uy:aB->Option Nat
 | .op d (.allocD _ _) none=>d
 | _=>none
def zR:aB->Option Nat
 | .op d _ _=>d
 | .frz _=>none
 | .pc d _ _=>d
def gR (fb:List Nat):aB->aB->Bool
 | .op a x c,.op b y d=>mE (.op a x c) (.op b y d)
 | .op a x c,.pc b y none=>Dg y&&(Tm x||Tx fb x)&&tG a (BL y)&&tG b (looks x c)&&Db a b
 | .pc a x none,.op (some k) (.allocD _ _) none=>Dg x&&tG (some k) (BL x)&&Db a (some k)
 | _,_=>false
def FW:eY->Bool
 | .copyX _ _ _ _=>true
 | _=>false
def VF:aB->Bool
 | .op _ o _=>okD o||FW o
 | .pc _ o none=>Dg o
 | _=>false
section
variable {P:Program}{PX:aF->Loc->Value->Prop}{fb:List Nat}{F F':aF}{L L':Loc}{ρ:Env}{K K':dm}
theorem HJ {sv:SV}(hb:lN L L') (c:∀k off,sv=.own k off->∃g t cs,L.get k=some (.box g t cs)):conc L' sv=conc L sv:=by
 cases sv with
 | v x=>rfl
 | el a j=>rfl
 | own k off =>
  obtain⟨g,t,cs,e⟩:=c k off rfl;obtain⟨cs',b⟩:=hb k g t cs e;simp only[conc,e,b]
theorem JK (hb:lN L L') (a:Vd L ρ) (x:X):val L' ρ x=val L ρ x:=HJ hb fun k off e=>a.ev e
theorem tI (hb:lN L L') (a:Vd L ρ) (xs:List X):bE L' ρ xs=bE L ρ xs:=dY fun x _=>JK hb a x
theorem yj {d:Option Nat}{v:SV}{xs:List X}(h:∀k,d=some k->k∉cR xs):bE L (put d v ρ) xs=bE L ρ xs:=dY fun x a=>by simp only[val,gW h x a]
theorem Nf {o:eY}(h:(Tm o||Tx fb o)=true) (d:∀j∈fb,L'.get j=L.get j) (f:F.le F') (hb:lN L L') (c:Vd L ρ) {V:SV->Prop}(a:aN o F L ρ V):aN o F' L' ρ V:=by
 simp only[Tm,abn] at h;rcases h with((h | h) | h) | h
 rotate_right
 ·cases o<;>first | (cases h;done) | skip
  rename_i key r n x;have p:=d key (dn.1 h);simp only[aN] at a ⊢;split at a
  ·rename_i k off e;split at a
   ·rename_i b;have b:=v8 b;subst b;rw[p];exact a
   ·exact a.elim
  ·exact a.elim
 ·exact AB h a
 ·cases o<;>first | (cases h;done) | skip
  ·simp only[aN] at a ⊢;obtain⟨u,t,q,m,l⟩:=a;exact⟨u,t,q,f _ _ m,l⟩
  ·simp only[aN] at a ⊢;split at a
   ·exact a.up f
   ·exact a.up f
   ·exact a.elim
 ·cases o<;>first | (cases h;done) | skip
  simp only[aN,tI hb c] at a ⊢;exact a
theorem lN.vd (hb:lN L L') (a:Vd L ρ):Vd L' ρ:=fun t k off e=>let⟨g,ty,cs,h⟩:=a t k off e;let⟨cs',h'⟩:=hb k g ty cs h;⟨g,ty,cs',h'⟩
theorem Vd.aaN (a:Vd L ρ) (d:Option Nat) (v:Value):Vd L (put d (.v v) ρ):=by
 intro t k off e;rw[put_eq] at e;cases d with
 | none=>exact a t k off e
 | some j =>
  simp only[] at e;split at e
  ·cases e
  ·exact a t k off e
theorem vu {ks:List Nat}{Lin Lo:List Own}(d:L.sub ks=some Lin) (f:ks.Nodup) (a:ks.length=Lo.length) (h:∀(i:Nat) g t cs,Lin[i]?=some (.box g t cs)->∃cs',Lo[i]?=some (.box g t cs')) :
  lN L (L.puts ks Lo)/\(∀j,L.get j=none->(L.puts ks Lo).get j=none)/\∀j,j∉ks->(L.puts ks Lo).get j=L.get j:=by
 obtain⟨p,l⟩:=fo d;refine⟨fun k g t cs e=>?_,fun j e=>?_,fun j n=>?_⟩
 ·rcases dR ks Lo L k f a with⟨b,c⟩ | ⟨i,b,c,m⟩
  ·rw[b];exact⟨cs,e⟩
  ·rw[c];have:=l i k b;rw[e] at this;exact h i g t cs this.symm
 ·rcases dR ks Lo L j f a with⟨b,c⟩ | ⟨i,b,c,m⟩
  ·rw[b];exact e
  ·have:=l i j b;rw[e] at this;have o:=abE.1 this.symm;omega
 ·rcases dR ks Lo L j f a with⟨b,c⟩ | ⟨i,b,c,m⟩
  ·exact b
  ·exact p7 (aaS b) n
theorem CallXDPt.imp {f:Nat}{args:List Value}{K K':aF->Loc->Value->Prop}(h:CallXDPt P PX fb f args F L K)
  (q:∀F' L' v,F.le F'->lN L L'->(∀j,L.get j=none->L'.get j=none)->(∀j∈fb,L'.get j=L.get j)->Real F' L'->K F' L' v->K' F' L' v):CallXDPt P PX fb f args F L K':=by
 obtain⟨ks,l,R,Pp,k,e,d,t,x,w⟩:=h;refine⟨ks,l,R,Pp,k,e,d,t,x,fun v F' Lo n u=>?_⟩;obtain⟨a,b,c⟩:=w v F' Lo n u;obtain⟨s,r,p⟩:=vu k e a b;exact⟨a,b,fun m=>q _ _ _ n s r (fun j o=>p j fun h=>d j h o) m (c m)⟩
theorem jE {d:Option Nat}{o:eY}{g:Option (Nat×Bool)}{a:List aB} :
  bF P PX fb (.op d o g::a) F L ρ K↔∃o',res g ρ o=some o'/\evalOp P o' d F L ρ (fun F1 L1 b=>bF P PX fb a F1 L1 b K):=Iff.rfl
theorem sP:∀(ks:List Nat) (Lo:List Own) (L:Loc) {k:Nat}{o:Own},k∉ks->(L.set k o).puts ks Lo=(L.puts ks Lo).set k o
 | [],Lo,L,k,o,_=>by cases Lo<;>rfl
 | j::ks,[],L,k,o,_=>rfl
 | j::ks,p::Lo,L,k,o,h=>by
  simp only[Loc.puts];rw[set_comm L o p (fun e=>h (by simp[e])),sP ks Lo (L.set j p) (fun a=>h (by simp[a]))]
theorem FX:∀{ks:List Nat}{L:Loc}{k:Nat}{o:Own},k∉ks->(L.set k o).sub ks=L.sub ks
 | [],L,k,o,_=>rfl
 | j::ks,L,k,o,h=>by
  simp only[Loc.sub];rw[cK (fun e=>h (by simp[e])),FX (fun a=>h (by simp[a]))]
theorem Ru {t s:Option Nat}{x y:eY}{gx gy:Option (Nat×Bool)}{a:List aB}(hp:mE (.op t x gx) (.op s y gy)=true) (hr:Real F L) (r:Vd L ρ) (h:bF P PX fb (.op t x gx::.op s y gy::a) F L ρ K):bF P PX fb (.op s y gy::.op t x gx::a) F L ρ K:=by
  simp only[mE,yo] at hp;obtain⟨⟨⟨⟨⟨ag,c⟩,hc⟩,h1⟩,h2⟩,h3⟩:=hp;have h1:=lg h1;have h2:=lg h2;have h3:=pA h3;have ay:∀k,s=some k->t≠some k:=fun k e e'=>h3 k e' e;rw[jE] at h;obtain⟨z,q,h⟩:=h;have f:okD ja=true:=rfl;have m:okD z=true:=by rcases dP q with rfl | rfl;exact ag;exact f
  have hy:∃p,res gy ρ y=some p:=by
   obtain⟨v,F1,L1,d⟩:=wg m hr h;rw[jE] at d;obtain⟨p,b,_⟩:=d;rw[pY h1] at b;exact⟨p,b⟩
  obtain⟨p,b⟩:=hy;have w:okD p=true:=by rcases dP b with rfl | rfl;exact c;exact f
  have hA:evalOp P z t F L ρ (fun F1 L1 o=>evalOp P p s F1 L1 o (fun F2 L2 n=>bF P PX fb a F2 L2 n K)):=by
   refine kF m hr r h ?_;rintro F1 L1 o ⟨v,rfl⟩ _ _ _ d;rw[jE] at d;obtain⟨az,j,d⟩:=d;rw[pY h1,b] at j;injection j with j
   subst j;exact d
  have lx:∀k,s=some k->k∉cR (bO z):=by
   intro k e d;rcases dP q with rfl | rfl
   ·exact h2 k e (pB d)
   ·simp[ja,bO,cR] at d
  have ly:∀k,t=some k->k∉cR (bO p):=by
   intro k e d;rcases dP b with rfl | rfl
   ·exact h1 k e (pB d)
   ·simp[ja,bO,cR] at d
  have hB:evalOp P p s F L ρ (fun F1 L1 o=>evalOp P z t F1 L1 o (fun F2 L2 n=>bF P PX fb a F2 L2 n K)):=by
   by_cases l:p=ja
   ·subst l;simp only[ja,evalOp,aN,ev];exact ye (K:=fun F2 L2 n=>bF P PX fb a F2 L2 n K) (u:=.v undef) m lx h3 hA
   ·have ey:p=y:=by rcases dP b with h | h;exact h;exact p7 h l
    subst ey;refine JF hr ?_ ly lx h3 r hA;rcases dP q with rfl | rfl
    ·exact hc
    ·simp only[okD,abn] at c;rcases c with c | c
     ·simp only[yg,c,abO,abn];exact .inl (.inl (.inl (.inl (.inl rfl))))
     ·simp only[yg,c,abO,abn];exact .inl (.inr rfl)
  rw[jE];refine⟨p,b,kF w hr r hB ?_⟩;rintro F1 L1 o ⟨v,rfl⟩ _ _ _ d;rw[jE];exact⟨z,by rw[pY h2];exact q,d⟩
theorem ET {f:X}{args:List X}{k:Nat}(h:k∈cR args):k∈cR (f::args):=by
 cases f<;>simp[cR,h]
theorem Dh {d:Option Nat}{v:SV}{o:eY}(h:∀k,d=some k->k∉BL o):sH P L (put d v ρ) o=sH P L ρ o:=by
 cases o<;>try rfl
 ·rename_i f args;simp only[sH,yj h]
 ·rename_i f args;have c:∀k,d=some k->k∉cR args:=fun k e a=>h k e (ET a);have b:ev (put d v ρ) f=ev ρ f:=gW h f (by simp);simp only[sH,yj c,b]
theorem HK (hb:lN L L') (a:Vd L ρ) (o:eY):sH P L' ρ o=sH P L ρ o:=by
 cases o<;>try rfl
 ·simp only[sH,tI hb a]
 ·simp only[sH,tI hb a]
theorem Rv {l d:Option Nat}{x y:eY}{gx:Option (Nat×Bool)}{b:List aB}(hp:gR fb (.op l x gx) (.pc d y none)=true) (hr:Real F L) (p:Vd L ρ)
  (h:bF P PX fb (.op l x gx::.pc d y none::b) F L ρ K):bF P PX fb (.pc d y none::.op l x gx::b) F L ρ K:=by
 simp only[gR,yo] at hp;obtain⟨⟨⟨⟨_,z⟩,r⟩,f⟩,n⟩:=hp;have r:=lg r;have f:=lg f;have n:=pA n;have ag:∀k,d=some k->l≠some k:=fun k e e'=>n k e' e;obtain⟨j,c,h⟩:=h;have a:(Tm j||Tx fb j)=true:=by rcases dP c with rfl | rfl;exact z;rfl
 rw[cO (lm a)] at h;obtain⟨v,hT,o⟩:=(gq (lm a)).ex _ h;simp only[bF,Dh r] at o ⊢;split at o
 case h_2=>exact o.elim
 refine o.imp fun F' L' u s w _ t ad m=>⟨j,by rw[pY f];exact c,?_⟩;rw[cO (lm a)];have lx:∀k,d=some k->k∉cR (bO j):=by
  intro k e m;rcases dP c with rfl | rfl
  ·exact f k e (pB m)
  ·simp[ja,bO,cR] at m
 have q:=rY (lm a) (aF.le_refl F') (vp (L:=L') (ρ:=ρ) (v:=.v u) lx) (Nf a t s w p hT);refine(gq (lm a)).mono _ _ (fun v' e=>?_) q;subst e;rw[put_comm n];exact m
theorem Rw {z:Option Nat}{k:Nat}{t:TypeId}{zs:List Value}{x:eY}{n:List aB}(hp:gR fb (.pc z x none) (.op (some k) (.allocD t zs) none)=true) (p:L.get k=none) (hr:Real F L) (w:Vd L ρ)
  (h:bF P PX fb (.pc z x none::.op (some k) (.allocD t zs) none::n) F L ρ K):bF P PX fb (.op (some k) (.allocD t zs) none::.pc z x none::n) F L ρ K:=by
 simp only[gR,yo] at hp;have h1:=lg hp.1.2;have h3:=pA hp.2;simp only[bF,res,w7,exists_eq_left',evalOp,p] at h ⊢;intro g ao;split at h
 case h_2=>exact h.elim
 rename_i _ _ f vs ab _;obtain⟨ks,l,R,Pp,y,e2,e0,e3,e4,e5⟩:=h;have s:k∉ks:=by
  intro s;obtain⟨hl,hg⟩:=fo y;obtain⟨i,hi⟩:=List.getElem?_of_mem s;have:=hg i k hi;rw[p] at this;have h5:=(xD.1 hi).1;have h6:=abE.1 this.symm;omega
 have o:lN L (L.set k (.box g t zs)):=fun j u r cs e=>⟨cs,Keeps.new p j u r cs e⟩;have ea:sH P (L.set k (.box g t zs)) (put (some k) (.own k 0) ρ) x=some (f,vs):=by
  rw[Dh h1,HK o w,ab]
 rw[ea];refine⟨ks,l,R,Pp,by rw[FX s];exact y,e2,e0,e3,fun v F0 L' Lo hF ad hb=>e4 v F0 L' Lo hF ad fun j u r cs e=>hb j u r cs (Keeps.new p j u r cs e),fun v F' Lo hF hR=>?_⟩;obtain⟨a,b,c⟩:=e5 v F' Lo hF hR;refine⟨a,b,fun m=>?_⟩;rw[sP ks Lo L s] at m ⊢;obtain⟨k1,k2,_⟩:=vu y e2 a b;have q:=k2 k p;have c:=c (m.down (aF.le_refl _) m.glob (JE q));simp only[q] at c;rw[<-put_comm (d:=some k) (fun j e e'=>h3 j e' e)];exact c g m
theorem HL {x y:aB}{a:List aB}(c:gR fb x y=true) (e:∀k,uy y=some k->L.get k=none) (d:Real F L) (b:Vd L ρ) (h:bF P PX fb (x::y::a) F L ρ K):bF P PX fb (y::x::a) F L ρ K:=by
 unfold gR at c;split at c
 ·exact Ru c d b h
 ·exact Rv c d b h
 ·exact Rw c (e _ rfl) d b h
 ·cases c
theorem Di {y:aB}{k:Nat}(h:uy y=some k):zR y=some k:=by
 unfold uy at h;split at h
 ·exact h
 ·cases h
theorem JL {x y:aB}(a:gR fb x y=true) {k:Nat}(h:uy y=some k):zR x≠some k:=by
 have b:=Di h;unfold gR at a;split at a
 ·simp only[mE,yo] at a;intro e;exact pA a.2 k e b
 ·simp[uy] at h
 ·simp only[yo] at a;intro e;exact pA a.2 k e b
 ·cases a
theorem JM {h:Option Nat}{x:eY}{c:Option (Nat×Bool)}{y:aB}(a:gR fb (.op h x c) y=true):okD x=true:=by
 cases y with
 | frz k=>cases a
 | op f y d=>simp only[gR,mE,yo] at a;exact a.1.1.1.1.1
 | pc f y d =>
  unfold gR at a;split at a
  ·rename_i e;cases e
  ·rename_i b j;injection b with q1 q2 q3
   subst q2;simp only[yo] at a;have:=lm a.1.1.1.2;simp[okD,ER,this]
  ·rename_i e _;cases e
  ·cases a
def Tz:aB->Bool
 | .op _ o _=>okD o
 | .pc _ o none=>Dg o
 | _=>false
theorem HM {x y:aB}(a:gR fb x y=true):Tz x=true:=by
 cases x with
 | op d o g=>exact JM a
 | frz k=>cases y<;>cases a
 | pc d o g =>
  cases g with
  | none =>
   cases y with
   | op c y b =>
    cases c with
    | none=>cases y<;>cases b<;>cases a
    | some k =>
     cases b with
     | some q=>cases y<;>cases a
     | none =>
      cases y<;>first
       | (cases a;done)
       | (simp only[gR,yo] at a;exact a.1.1)
   | frz k=>cases a
   | pc c y b=>cases b<;>cases a
  | some q=>cases y<;>cases a
theorem zS {x:aB}{c a:List aB}(t:Tz x=true) (z:Real F L) (l:Vd L ρ) (h:bF P PX fb (x::c) F L ρ K)
  (u:∀F1 L1 b,F.le F1->Real F1 L1->Vd L1 b->(∀j,zR x≠some j->L.get j=none->L1.get j=none)->bF P PX fb c F1 L1 b K->bF P PX fb a F1 L1 b K):bF P PX fb (x::a) F L ρ K:=by
 cases x with
 | frz k=>cases t
 | op d o g =>
  obtain⟨o',m,h⟩:=h;have p:okD o'=true:=by rcases dP m with rfl | rfl;exact t;rfl
  exact⟨o',m,lM p z l h fun F1 L1 b _ n q s r w=>u F1 L1 b n q s r w⟩
 | pc d o g =>
  unfold bF at h ⊢;split at h
  ·rename_i f args;refine h.imp fun F' L' v y n q _ s r=>u _ _ _ y s ((n.vd l).aaN d v) (fun j _ e=>q j e) r
  ·exact h.elim
theorem yp {y:aB}{s:List aB}:∀(p:List aB),(∀x∈p,gR fb x y=true)->∀{F:aF}{L:Loc}{ρ:Env},(∀k,uy y=some k->L.get k=none)->Real F L->Vd L ρ->bF P PX fb (p++y::s) F L ρ K->bF P PX fb (y::(p++s)) F L ρ K
 | [],_,F,L,ρ,_,_,_,h=>h
 | x::p,c,F,L,ρ,j,l,a,h=>by
  refine HL (c x (by simp)) j l a ?_;refine zS (HM (c x (by simp))) l a h fun F1 L1 n _ f b d m=>?_;exact yp p (fun z o=>c z (by simp[o])) (fun k e=>d k (JL (c x (by simp)) e) (j k e)) f b m
end
section
variable {P:Program}{PX:aF->Loc->Value->Prop}{fb:List Nat}{K:dm}{Q:Exit->Act->World->Prop}{ops:Array Oper}
theorem AK {ks:List Nat}(b:ks.Nodup) {i j:Nat}{hi:i<ks.length}{c:j<ks.length}(h:ks[i]=ks[j]):i=j:=by
 rw[List.nodup_iff_pairwise_ne,List.pairwise_iff_getElem] at b;rcases Nat.lt_trichotomy i j with a | d | a
 ·exact p7 h (b i j hi c a)
 ·exact d
 ·exact p7 h.symm (b j i c hi a)
theorem m9 {L:Loc}{ks:List Nat}{Lo:List Own}(h:ks.Nodup) (a:ks.length=Lo.length):((L.aaf ks).puts ks Lo).sameAs (L.puts ks Lo):=by
 intro j;rcases dR ks Lo L j h a with⟨c,d⟩ | ⟨i,c,d,o⟩<;>rcases dR ks Lo (L.aaf ks) j h a with⟨b,e⟩ | ⟨n,b,e,p⟩
 ·rw[c,b,gk,vv d]
 ·exact p7 (aaS b) d
 ·exact p7 (aaS c) e
 ·have:i=n:=by
   have m:=(xD.1 c);have l:=(xD.1 b);obtain⟨m,f⟩:=m;obtain⟨l,k⟩:=l;exact AK h (f.trans k.symm)
  subst this;rw[d,e]
theorem yq:∀{ks:List Nat}{L:Loc}{Lo:List Own},ks.length=Lo.length->(∀(i:Nat) k,ks[i]?=some k->L.get k=Lo[i]?)->L.sub ks=some Lo
 | [],L,[],_,_=>rfl
 | [],L,_::_,h,_=>by simp at h
 | _::_,L,[],h,_=>by simp at h
 | k::ks,L,o::Lo,h,b=>by
  have a:=b 0 k rfl;have c:L.sub ks=some Lo:=yq (by simpa using h) fun i j e=>by
   have:=b (i+1) j (by rw[aby];exact e);rw[aby] at this;exact this
  have a:L.get k=some o:=a;simp only[Loc.sub,a,c]
theorem JN {L:Loc}{ks:List Nat}{Lo:List Own}(f:ks.Nodup) (a:ks.length=Lo.length):(L.puts ks Lo).sub ks=some Lo:=by
 refine yq a fun i k e=>?_;rcases dR ks Lo L k f a with⟨h,c⟩ | ⟨j,h,c,m⟩
 ·exact p7 (aaS e) c
 ·have hi:=xD.1 e;have l:=xD.1 h;obtain⟨o,b⟩:=hi;obtain⟨n,d⟩:=l;have:i=j:=AK f (b.trans d.symm);subst this;rw[c,w8 m]
theorem CallXDPt.toX {f:Nat}{args:List Value}{F:aF}{L:Loc}{K:aF->Loc->Value->Prop}(h:CallXDPt P PX fb f args F L K):fM P PX f args F L fun F' L' v=>∃L2,L'.sameAs L2/\(Real F' L2->K F' L2 v):=by
 obtain⟨ks,l,R,Pp,n,d,x,r,w,u⟩:=h;refine⟨ks,ks,l,R,Pp,n,d,d,fun k o=>.inl o,r,fun v F' Lo m j hb p=>w v F' _ Lo m (JN d j) hb p,fun v F' Lo m s=>?_⟩;obtain⟨a,b,c⟩:=u v F' Lo m s;obtain⟨q,y,_⟩:=vu n d a b;refine⟨a,fun k g t cs _ e=>?_,_,m9 d a,c⟩;rw[<-m9 d a];exact q k g t cs e
theorem Dj {own:Bool}{o:Oper}{s:eY}{f:Nat}{vs:List Value}{F:aF}{L:Loc}{ρ:Env}{a:Act}{w:World}{K:dm}(c:St F L w) (j:aJ L ρ a) (e:∀k,o.dst=some k->k<a.tmps.size) (d:iX P own o.op=some s) (b:sH P L ρ s=some (f,vs))
  (h:fM P PX f vs F L fun F' L' v=>K F' L' (put o.dst (.v v) ρ))
  (m:∀v l w' F' L',EC v l->St F' L' w'->Step F L w F' L' w'->PX F' L' v->Q (.panic l) a w'):o.wp P a w (bC F L w a K) Q:=by
 cases s with
 | call n args =>
  simp only[sH,w7,Prod.mk.injEq] at b;obtain⟨rfl,rfl⟩:=b;exact wk c j e d h m
 | callV x args =>
  simp only[sH] at b;split at b
  case h_2=>cases b
  rename_i n fi ca p;simp only[w7,Prod.mk.injEq] at b;obtain⟨rfl,rfl⟩:=b;exact qd c j e d p h m
 | _=>cases b
theorem Dk {o:eY}(ho:FW o=true) {d:Option Nat}{F:aF}{L:Loc}{ρ:Env}{K:dm}(h:evalOp P o d F L ρ K):evalOp P o d F L ρ fun F' L' ρ'=>(∀j,d≠some j->L.get j=none->L'.get j=none)/\K F' L' ρ':=by
 cases o<;>simp only[FW,aaZ] at ho;rename_i e sz w x;simp only[evalOp] at h ⊢;generalize ev ρ w=z1 at h ⊢;generalize ev ρ x=z2 at h ⊢;split at h
 ·obtain⟨⟨k,n,v,nr,xs,s,t,p,j,m,a,c,news,b,f,q,h4,h5,y,z,h8,l⟩ | ⟨u,n,p,a,m,c,b,f,q,l⟩⟩:=h
  ·refine⟨.inl ⟨k,n,v,nr,xs,s,t,p,j,m,a,c,news,b,f,q,h4,h5,y,z,h8,fun r=>⟨fun i _ hi=>?_,l r⟩⟩⟩;rw[Loc.aac];split
   ·rename_i e;subst e;rw[b] at hi;cases hi
   ·exact hi
  ·exact⟨.inr ⟨u,n,p,a,m,c,b,f,q,fun r=>⟨fun i _ hi=>hi,l r⟩⟩⟩
 ·exact h.elim
theorem HN {A:cF}{i:Nat}{s:aB}{l:List aB}{F:aF}{L:Loc}{ρ:Env}{a:Act}{w:World}{KK:Act->World->Prop}(hi:i<ops.size) (c:BH P A ops i=some s) (m:VF s=true) (hs:St F L w) (he:aJ L ρ a) (hn:a.tmps.size=A.n)
  (u:bF P PX fb (s::l) F L ρ K)
  (hQ:∀q w' F' L' ρ',St F' L' w'->aJ L' ρ' q->q.tmps.size=A.n->q.defers=a.defers->Step F L w F' L' w'->(∀j,((ops[i]?).bind (·.dst))≠some j->q.tmps.getD j undef=a.tmps.getD j undef) ->
   (∀j,zR s≠some j->L.get j=none->L'.get j=none)->bF P PX fb l F' L' ρ' K->KK q w')
  (hP:∀v ch w' F' L',EC v ch->St F' L' w'->Step F L w F' L' w'->PX F' L' v->Q (.panic ch) a w') :
  wpOp P ops Q i KK a w:=by
 cases s with
 | frz k=>cases m
 | op d o g =>
  obtain⟨o',t,h⟩:=u;have h2:bh P [.op d o g] F L ρ (fun F' L' ρ'=>(∀j,d≠some j->L.get j=none->L'.get j=none)/\bF P PX fb l F' L' ρ' K):=by
   refine gQ.2 ⟨o',t,?_⟩;have m:(okD o||FW o)=true:=m;rw[abn] at m;rcases m with m | m
   ·have am:okD o'=true:=by rcases dP t with rfl | rfl;exact m;rfl
    exact lM am ⟨w,hs⟩ he.vd h fun F1 L1 ap _ _ _ _ z h6=>⟨z,h6⟩
   ·rcases dP t with rfl | rfl
    ·exact Dk m h
    ·exact lM rfl ⟨w,hs⟩ he.vd h fun F1 L1 ap _ _ _ _ z h6=>⟨z,h6⟩
  exact Dc hi c hs he hn h2 fun q w' F' L' ρ' g1 g2 g3 g4 g5 x g7=>hQ q w' F' L' ρ' g1 g2 g3 g4 g5 x g7.1 g7.2
 | pc d o g =>
  unfold bF at u;split at u
  case h_2=>exact u.elim
  rename_i f vs an;unfold BH at c;split at c
  case h_1=>cases c
  rename_i o y;split at c
  case h_2=>cases c
  rename_i g s0 hg ay r;rename_i o0 _ _ _ _ _ _;have ag:o.dst=d/\s0=o0/\g=none:=by
   split at c
   ·split at c
    ·injection c with c
     injection c with q1 q2 q3
     exact⟨q1,q2,rfl⟩
    ·injection c with c
     injection c with q1 q2 q3
     exact⟨q1,q2,rfl⟩
    ·cases c
   ·split at c
    ·split at c
     ·cases c
     ·cases c
    ·split at c
     ·split at c<;>cases c
     ·cases c
  obtain⟨rfl,rfl,rfl⟩:=ag;have hd:∀k,o.dst=some k->k<a.tmps.size:=by
   intro k hk;rw[hk] at r;rw[hn];have h2:Nat.blt k A.n=true:=r;simpa using h2
  have ba:(ops[i]?).bind (·.dst)=o.dst:=by rw[y];rfl
  rw[ba] at hQ;simp only[wpOp,y];have ax:o.guard=none:=by
   cases e:o.guard with
   | none=>rfl
   | some p=>obtain⟨j,b⟩:=p;rw[e] at hg;simp only[iZ] at hg;split at hg<;>cases hg
  rw[o6 (by simp[Region.wanted,ax])];refine .inl ?_;have av:=u.imp (K':=fun F' L' v=>(∀j,L.get j=none->L'.get j=none)/\bF P PX fb l F' L' (put o.dst (.v v) ρ) K) fun F' L' v _ _ h3 _ _ z=>⟨h3,z⟩;have:=Dj (K:=fun F' L' ρ'=>∃L2,L'.sameAs L2/\(Real F' L2->(∀j,L.get j=none->L2.get j=none)/\bF P PX fb l F' L2 ρ' K)) hs he hd ay an av.toX hP;refine Oper.wp_mono ?_ (qW (asg:=[]) this);rintro q w' ⟨⟨F',L',ρ',g1,g2,g3,g4,g5,L2,x,g7⟩,al⟩;have s1:St F' L2 w':=g1.part fun k o e=>by rw[<-x k];exact e
  obtain⟨g8,g9⟩:=g7 ⟨w',s1⟩;exact hQ q w' F' L2 ρ' s1 (g2.same x) (by rw[g3,hn]) g4 (g5.aaH x) al (fun j _ e=>g8 j e) g9
def nE (fb:List Nat) (a:List (List Nat)):List (Nat×aB)->Bool
 | []=>true
 | (x,b)::l=>l.all (fun p=>gR fb b p.2||gI (BI a p.1) x)&&nE fb a l
def EU (ss:List aB):List Nat:=ss.filterMap zR
def BM (ss:List aB):List Nat:=ss.filterMap fun s=>match s with | .op _ (.loadK key _ _ _) _=>some key | _=>none
def BN (P:Program) (ops:Array Oper) (is:List Nat) (a:List (List Nat)) (ss:List aB):Bool :=
 P.follows .mixedOrders&&JH ops a&&bP is&&Nat.beq is.length ops.size&&is.all (fun i=>Nat.blt i ops.size)&&(List.range ops.size).all (gI is)&&nE (BM ss) a (is.zip ss)&&ss.all VF&&bP (EU ss)
theorem uz {d:List (List Nat)}:∀{p q:List (Nat×aB)}{y:Nat×aB},nE fb d (p++y::q)=true->nE fb d (p++q)=true/\∀x∈p,gR fb x.2 y.2=true\/x.1∈BI d y.1
 | [],q,y,h=>by
  obtain⟨l,n⟩:=y;simp only[aa5,nE,yo] at h ⊢;exact⟨h.2,fun x a=>by cases a⟩
 | (m,o)::p,q,y,h=>by
  simp only[aaV,nE,yo] at h ⊢;obtain⟨f,e⟩:=h;obtain⟨j,k⟩:=uz e;have b:=aa1.1 f;refine⟨⟨aa1.2 fun z c=>b z ?_,j⟩,fun x a=>?_⟩
  ·rcases xo.1 c with c | c
   ·exact xo.2 (.inl c)
   ·exact xo.2 (.inr (abb _ c))
  ·rcases aaQ.1 a with rfl | a
   ·have:=b y (xo.2 (.inr (by simp)));simp only[abn] at this;rcases this with h | h
    ·exact .inl h
    ·exact .inr (dn.1 h)
   ·exact k x a
theorem Ng {p q:List aB}{y:aB}(h:(EU (p++y::q)).Nodup):(EU (p++q)).Nodup/\∀k,zR y=some k->∀z∈p++q,uy z≠some k:=by
 have e:EU (p++y::q)=EU p++((zR y).toList++EU q):=by
  unfold EU;rw[List.filterMap_append,List.filterMap_cons];cases zR y<;>rfl
 rw[e] at h;have c:(EU p++EU q).Nodup:=by
  refine List.Sublist.nodup ?_ h;exact List.Sublist.append (List.Sublist.refl _) (List.sublist_append_right _ _)
 refine⟨by unfold EU at c ⊢;rw[List.filterMap_append];exact c,fun k d z a j=>?_⟩;have b:=Di j;rw[d] at h;have f:k∉EU p++EU q:=by
  have:(EU p++k::EU q).Nodup:=h;have:=(List.perm_middle.nodup_iff).1 this;rw[List.nodup_cons] at this;exact this.1
 apply f;rcases xo.1 a with a | a
 ·exact xo.2 (.inl (List.mem_filterMap.2 ⟨z,a,b⟩))
 ·exact xo.2 (.inr (List.mem_filterMap.2 ⟨z,a,b⟩))
theorem JO {A:cF}{i:Nat}{s:aB}(a:BH P A ops i=some s):(ops[i]?).bind (·.dst)=zR s:=by
 unfold BH at a;split at a
 case h_1=>cases a
 rename_i o b;rw[b];split at a
 case h_2=>cases a
 split at a
 ·split at a
  ·injection a with a;subst a;rfl
  ·injection a with a;subst a;rfl
  ·cases a
 ·split at a
  ·split at a
   ·injection a with a;subst a;rfl
   ·cases a
  ·split at a
   ·split at a
    ·injection a with a;subst a;rfl
    ·cases a
   ·cases a
theorem EV {A:cF}{cl:List (List Nat)}(bl:JH ops cl=true):∀(fuel:Nat) (l:List Nat) (ss:List aB) (b:Array Bool) (F:aF) (L:Loc) (ρ:Env) (a:Act) (w:World),
  fL P A ops l=some ss->b.size=ops.size->l.Nodup->(∀i,i∈l↔i<ops.size/\b.getD i true=false)->l.length<=fuel->nE fb cl (l.zip ss)=true ->
  (∀i,i<ops.size->b.getD i true=true->∀z∈direct ops i,b.getD z true=true) ->
  (∀s∈ss,VF s=true)->(EU ss).Nodup->(∀s∈ss,∀k,uy s=some k->L.get k=none) ->
  St F L w->aJ L ρ a->a.tmps.size=A.n->bF P PX fb ss F L ρ K ->
  (∀a' w',fw A.n F L w a (dstsOf ops (List.range ops.size)) K a' w'->Q .normal a' w') ->
  (∀v ch a' w' F' L',EC v ch->St F' L' w'->Step F L w F' L' w'->a'.tmps.size=A.n->a'.defers=a.defers->(∀j,j∉dstsOf ops (List.range ops.size)->a'.tmps.getD j undef=a.tmps.getD j undef)->PX F' L' v->Q (.panic ch) a' w')->wpAny P .any ops Q fuel b a w:=by
 have m:∀y z,y<ops.size->z∈direct ops y->z<y:=by
  intro y z hy r;have h:=aa1.1 bl y (List.mem_range.2 hy);simp only[BK,yo] at h;have h3:Nat.blt z y=true:=aa1.1 h.1 z r;simpa using h3
 intro fuel
 induction fuel with
 | zero =>
  intro l ss b F L ρ a w hl ba bv c ad hp d ao bs av hs he hn hK hQ hP;have:l=[]:=abh (by omega);subst this;simp only[fL,w7] at hl;subst hl;refine⟨?_,hQ a w ⟨F,L,ρ,hs,he,hn,rfl,Step.refl _ _ _,fun _ _=>rfl,hK⟩⟩;apply List.eq_nil_iff_forall_not_mem.2;intro i hi;rw[mem_ready] at hi;obtain⟨h1,o,h2,_⟩:=hi;have:=(c i).2 ⟨(Array.getElem?_eq_some_iff.1 h2).1,h1⟩;cases this
 | succ fuel ih =>
  intro l ss b F L ρ a w hl ba bv c ad hp d ao bs av hs he hn hK hQ hP;refine⟨fun hr=>?_,fun y hy=>?_⟩
  ·have:l=[]:=by
    refine Classical.byContradiction fun u=>?_;obtain⟨y,h1,h2⟩:=min_mem u;obtain⟨h3,h4⟩:=(c y).1 h1;have am:y∈Region.ready .any ops b:=by
     rw[mem_ready];refine⟨h4,ops[y],Array.getElem?_eq_getElem h3,fun e bb aE=>?_⟩;have r:e.on∈direct ops y:=(qb (Array.getElem?_eq_getElem h3)).2 ⟨e,bb,aE,rfl⟩;have cp:=m y e.on h3 r;rw[uw (by omega) false true];cases hd:b.getD e.on true with
     | true=>rfl
     | false =>
      have:=h2 e.on ((c e.on).2 ⟨by omega,hd⟩);omega
    rw[hr] at am;cases am
   subst this;simp only[fL,w7] at hl;subst hl;exact hQ a w ⟨F,L,ρ,hs,he,hn,rfl,Step.refl _ _ _,fun _ _=>rfl,hK⟩
  ·rw[mem_ready] at hy;obtain⟨h1,o,ho,aw⟩:=hy;have f:=(Array.getElem?_eq_some_iff.1 ho).1;have bc:=(c y).2 ⟨f,h1⟩;obtain⟨p,q,rfl⟩:=List.append_of_mem bc;obtain⟨du,bx⟩:=qY hl;obtain⟨sp,sy,sq,rfl,al,bm,cr⟩:=bx p q y rfl;have bt:(p++y::q).zip (sp++sy::sq)=p.zip sp++(y,sy)::q.zip sq:=by
    rw[List.zip_append al.symm];rfl
   rw[bt] at hp;obtain⟨cx,ci⟩:=uz hp;have ag:∀z∈direct ops y,b.getD z true=true:=by
    intro z r;have cp:=m y z f r;obtain⟨e,bb,aE,rfl⟩:=(qb ho).1 r;rw[uw (by omega) true false];exact aw e bb aE
   have aa:∀sx∈sp,gR fb sx sy=true:=by
    intro sx cy;obtain⟨k,hk⟩:=List.getElem?_of_mem cy;have ee:=(xD.1 hk).1;have bo:p[k]?=some (p[k]'(by omega)):=w8 (by omega);have hm:(p[k]'(by omega),sx)∈p.zip sp:=aaS (i:=k) (by rw[List.getElem?_zip_eq_some];exact⟨bo,hk⟩);rcases ci _ hm with h | h
    ·exact h
    ·exfalso;have hd:=wh bl (done:=fun z=>b.getD z true=true) d y f ag _ h;have da:p[k]'(by omega)∈p++y::q:=xo.2 (.inl (aaS bo));have:=((c _).1 da).2;simp only at hd;rw[hd] at this;cases this
   have dd:=yp sp aa (fun k e=>av sy (by simp) k e) ⟨w,hs⟩ he.vd hK;obtain⟨bp,cM⟩:=Ng bs;have dy:(ops[y]?).bind (·.dst)=zR sy:=JO bm;refine HN f bm (ao sy (by simp)) hs he hn dd ?_ (fun v ch w' F' L' hc h1 h2 h3=>hP v ch a w' F' L' hc h1 h2 hn rfl (fun _ _=>rfl) h3);intro a' w' F' L' ρ' g1 g2 g3 g4 g5 g6 g8 g7;have an:(p++q).Nodup/\y∉p++q:=by
    have:=(List.perm_middle.nodup_iff).1 bv;rw[List.nodup_cons] at this;exact⟨this.2,this.1⟩
   have ac:∀i,(b.setIfInBounds y true).getD i true=if i=y then true else b.getD i true:=by
    intro i;simp only[abg,Array.getElem?_setIfInBounds]
    by_cases hi:y=i
    ·subst hi;rw[o6 rfl,o6 rfl];simp[ba,f]
    ·rw[vv hi,vv (fun h=>hi h.symm)]
   refine ih (p++q) (sp++sq) _ F' L' ρ' a' w' cr (by simp[ba]) an.1 (fun i=>?_) (by simp at ad ⊢;omega) ?_ ?_ (fun z r=>ao z (by rcases xo.1 r with h | h<;>simp[h])) bp (fun z r k e=>g8 k (fun e2=>cM k e2 z r e) (av z (by rcases xo.1 r with h | h<;>simp[h]) k e)) g1 g2 g3 g7 ?_ ?_
   ·rw[ac];have h0:=c i;constructor
    ·intro hi;have u:i≠y:=fun e=>an.2 (e▸hi);rw[vv u];refine h0.1 ?_;rcases xo.1 hi with h | h
     ·exact xo.2 (.inl h)
     ·exact xo.2 (.inr (abb _ h))
    ·rintro⟨cX,ay⟩;split at ay
     ·cases ay
     ·rename_i u;have:=h0.2 ⟨cX,ay⟩;rcases xo.1 this with h | h
      ·exact xo.2 (.inl h)
      ·rcases aaQ.1 h with h | h
       ·exact p7 h u
       ·exact xo.2 (.inr h)
   ·rw[List.zip_append al.symm];exact cx
   ·intro i hi hd z r;rw[ac] at hd ⊢;split
    ·rfl
    ·split at hd
     ·rename_i h;subst h;exact ag z r
     ·exact d i hi hd z r
   ·rintro ar ax ⟨F'',L'',bz,k1,k2,k3,k4,k5,k6,k7⟩;refine hQ ar ax ⟨F'',L'',bz,k1,k2,k3,k4.trans g4,g5.trans k5,fun j hj=>?_,k7⟩;rw[k6 j hj,g6 j];intro e;apply hj;have:∀(is:List Nat),y∈is->j∈dstsOf ops is:=by
     intro is
     induction is with
     | nil=>intro h;cases h
     | cons x is t =>
      intro h;simp only[dstsOf];rcases aaQ.1 h with rfl | h
      ·rw[e];simp
      ·split
       ·exact abb _ (t h)
       ·exact t h
    exact this _ (List.mem_range.2 f)
   ·intro v ch ar ax F'' L'' kc k1 k2 k3 k4 k5 k6;refine hP v ch ar ax F'' L'' kc k1 (g5.trans k2) k3 (k4.trans g4) (fun j hj=>?_) k6;rw[k5 j hj,g6 j];intro e;apply hj;have:∀(is:List Nat),y∈is->j∈dstsOf ops is:=by
     intro is
     induction is with
     | nil=>intro h;cases h
     | cons x is t =>
      intro h;simp only[dstsOf];rcases aaQ.1 h with rfl | h
      ·rw[e];simp
      ·split
       ·exact abb _ (t h)
       ·exact t h
    exact this _ (List.mem_range.2 f)
theorem qZ {A:cF}{r:Nat}{is:List Nat}{cl:List (List Nat)}{ss:List aB}{F:aF}{L:Loc}{ρ:Env}{a:Act}{w:World}(hl:fL P A ops is=some ss) (x:BN P ops is cl ss=true)
  (hs:St F L w) (he:aJ L ρ a) (hn:a.tmps.size=A.n) (q:∀s∈ss,∀k,uy s=some k->L.get k=none) (hK:bF P PX (BM ss) ss F L ρ K) (hQ:∀c w',fw A.n F L w a (dstsOf ops (List.range ops.size)) K c w'->Q .normal c w')
  (hP:∀v e c w' F' L',EC v e->St F' L' w'->Step F L w F' L' w'->c.tmps.size=A.n->c.defers=a.defers->(∀j,j∉dstsOf ops (List.range ops.size)->c.tmps.getD j undef=a.tmps.getD j undef)->PX F' L' v->Q (.panic e) c w') :
  (Code.region r ops true).wp P Q a w:=by
 simp only[BN,yo] at x;obtain⟨⟨⟨⟨⟨⟨⟨⟨h1,z⟩,u⟩,y⟩,h5⟩,h7⟩,h6⟩,h8⟩,h9⟩:=x;have u:=dz u;have y:=v8 y;have d:∀i∈is,i<ops.size:=fun i hi=>by
  have h:Nat.blt i ops.size=true:=aa1.1 h5 i hi;simpa using h
 refine wp_region_any h1 ?_;show wpAny P .any ops Q ops.size (Array.replicate ops.size false) a w.drew;refine EV z ops.size is ss _ F L ρ a w.drew hl (by simp) u (fun i=>?_) (by omega) h6 ?_ (aa1.1 h8) (dz h9) q hs.drew he hn hK ?_ ?_
 ·constructor
  ·intro hi;refine⟨d i hi,?_⟩;simp[abg,d i hi]
  ·rintro⟨hi,_⟩;exact dn.1 (aa1.1 h7 i (List.mem_range.2 hi))
 ·intro i hi t;simp[abg,hi] at t
 ·rintro c w' ⟨F',L',ρ',p,g2,f,l,b,o,m⟩;refine hQ c w' ⟨F',L',ρ',p,g2,f,l,?_,o,m⟩;exact⟨b.le,b.os,b.tape,b.output,b.size,b.same,b.frz,b.own⟩
 ·intro v e c w' F' L' gc p b f l o m;exact hP v e c w' F' L' gc p ⟨b.le,b.os,b.tape,b.output,b.size,b.same,b.frz,b.own⟩ f l o m
end
def dh:Code->List Nat
 | .region _ d _=>dstsOf d (List.range d.size)
 | .seq a b=>dh a++dh b
 | .cond _ a b=>dh a++dh b
 | .block _ c | .loop c | .scope c=>dh c
 | _=>[]
def zT:List Nat->aI->aI
 | [],x=>x
 | k::l,x=>.seq (.reg (.frz k::l.map .frz)) x
def FY:List aB->Bool
 | []=>true
 | .op _ _ _::l=>FY l
 | _::_=>false
def low (P:Program) (A:cF):Code->Option aI
 | .skip=>some .skip
 | .label _=>some .skip
 | .region r d false=>match qV P A r d (List.range d.size) with | some ss=>some (.reg ss) | none=>none
 | .region r d true=>match JA A.ord r,fL P A d (ur A.ord r) with
  | some (is,e),some ss=>match FY ss with
   | true=>match ES P d is e ss with
    | true=>some (zT (Jz A.frz r 0) (.regD ss))
    | false=>none
   | false=>match BN P d is e ss with
    | true=>some (.regX ss)
    | false=>none
  | _,_=>none
 | .seq a b=>match low P A a,low P A b with | some x,some y=>some (.seq x y) | _,_=>none
 | .cond c a b=>match bG c,low P A a,low P A b with | some c,some x,some y=>some (.cond c x y) | _,_,_=>none
 | .scope c=>low P A c
 | .block id c=>match low P A c with | some x=>some (.block id x) | none=>none
 | .loop c=>match low P A c with | some x=>some (.loop (dh c) x) | none=>none
 | .exit id=>some (.exit id)
 | .ret=>some .ret
 | _=>none
section
variable {P:Program}{Q:Exit->Act->World->Prop}
def sQ (n:Nat) (F:aF) (L:Loc) (w:World) (a:Act) (asg:List Nat) (PX:aF->Loc->Value->Prop) (v:Value) (b:Act) (w':World):Prop :=
 ∃F' L',St F' L' w'/\Step F L w F' L' w'/\b.tmps.size=n/\b.defers=a.defers/\(∀j,j∉asg->b.tmps.getD j undef=a.tmps.getD j undef)/\PX F' L' v
theorem sQ.after {n:Nat}{F F1:aF}{L L1:Loc}{w k:World}{a d:Act}{asg asg1 b:List Nat}{PX PX':aF->Loc->Value->Prop}{v:Value}{m:Act}{w':World}(f:Step F L w F1 L1 k) (c:d.defers=a.defers) (e:∀j,j∉asg1->d.tmps.getD j undef=a.tmps.getD j undef)
  (h:sQ n F1 L1 k d b PX v m w') (s:∀j,j∈asg1->j∈asg) (p:∀j,j∈b->j∈asg) (u:∀F L,PX F L v->PX' F L v):sQ n F L w a asg PX' v m w':=by
 obtain⟨F',L',t,y,o,q,x,r⟩:=h;exact⟨F',L',t,f.trans y,o,q.trans c,fun j l=>by rw[x j (fun h=>l (p j h)),e j (fun h=>l (s j h))],u _ _ r⟩
theorem sQ.mono {n:Nat}{F:aF}{L:Loc}{w:World}{a:Act}{asg b:List Nat}{PX:aF->Loc->Value->Prop}{v:Value}{d:Act}{w':World}(h:sQ n F L w a asg PX v d w') (c:∀j,j∈asg->j∈b):sQ n F L w a b PX v d w':=by
 obtain⟨F',L',m,p,e,f,o,l⟩:=h;exact⟨F',L',m,p,e,f,fun j k=>o j (fun h=>k (c j h)),l⟩
def QQ (n:Nat) (F:aF) (L:Loc) (w:World) (a:Act) (asg:List Nat) (PX:aF->Loc->Value->Prop) (E:Nat->dm) (R N:dm):Exit->Act->World->Prop
 | .normal,b,w'=>fw n F L w a asg N b w'
 | .exit j,b,w'=>fw n F L w a asg (E j) b w'
 | .ret,b,w'=>fw n F L w a asg R b w'
 | .panic c,b,w'=>∃v,EC v c/\sQ n F L w a asg PX v b w'
 | _,_,_=>False
theorem fw.mono {n:Nat}{F:aF}{L:Loc}{w:World}{a:Act}{asg b:List Nat}{K:dm}{e:Act}{w':World}(h:fw n F L w a asg K e w') (c:∀j,j∈asg->j∈b):fw n F L w a b K e w':=by
 obtain⟨F',L',ρ',o,f,p,r,q,k,l⟩:=h;exact⟨F',L',ρ',o,f,p,r,q,fun j m=>k j (fun d=>m (c j d)),l⟩
theorem fw.after {n:Nat}{F F1:aF}{L L1:Loc}{w k:World}{a d:Act}{asg asg1 b:List Nat}{K:dm}{m:Act}{w':World}(f:Step F L w F1 L1 k) (c:d.defers=a.defers) (e:∀j,j∉asg1->d.tmps.getD j undef=a.tmps.getD j undef)
  (h:fw n F1 L1 k d b K m w') (t:∀j,j∈asg1->j∈asg) (p:∀j,j∈b->j∈asg):fw n F L w a asg K m w':=by
 obtain⟨F',L',ρ',u,x,o,q,v,s,r⟩:=h;exact⟨F',L',ρ',u,x,o,q.trans c,f.trans v,fun j l=>by rw[s j (fun h=>l (p j h)),e j (fun h=>l (t j h))],r⟩
def qC (P:Program):List ResultVar->Option (List RV)
 | []=>some []
 | .tmp t::l=>match qC P l with | some r=>some ((t,none)::r) | none=>none
 | .cell a t::l=>match P.underlying t,P.info? t,qC P l with
  | some d,some i,some r=>some ((a,some (match dX d with | true=>(true,i.size) | false=>(false,1)))::r)
  | _,_,_=>none
def yt (tmps:Array Value):ResultVar->Sem Value
 | .tmp t=>pure (tmps.getD t undef)
 | .cell a t=>do loadVar t (<-asAddr (tmps.getD a undef))
theorem q9 {F:aF}{L:Loc}{ρ:Env}{a:Act}{w:World}(hs:St F L w) (y:aJ L ρ a):∀{l:List ResultVar}{rs:List RV}{K:List Value->Prop},qC P l=some rs->mD L ρ rs K ->
  ∃vs,(l.mapM (yt a.tmps)).run P w=.ok vs w/\K vs
 | [],rs,K,h,b=>by simp only[qC,w7] at h;subst h;exact⟨[],by simp,b⟩
 | .tmp t::l,rs,K,h,b=>by
  simp only[qC] at h;split at h
  case h_2=>cases h
  rename_i r hr;injection h with h;subst h
  simp only[mD] at b;obtain⟨vs,q,o⟩:=q9 hs y hr b;refine⟨_,?_,o⟩;simp only[List.mapM_cons,yt,Sem.run_bind,Sem.run_pure,Result.andThen_ok];rw[q];simp[y.eq t]
 | .cell t ty::l,rs,K,h,b=>by
  simp only[qC] at h;split at h
  case h_2=>cases h
  rename_i d i r hd hi hr;injection h with h;subst h
  generalize c:(match dX d with | true=>(true,i.size) | false=>(false,1):Bool×Nat)=p at b;obtain⟨ag,n⟩:=p;have s:ag=dX d:=by cases e:dX d<;>rw[e] at c<;>injection c with q o<;>exact q.symm
  have hn:n=match dX d with | true=>i.size | false=>1:=by cases e:dX d<;>rw[e] at c<;>injection c with q o<;>exact o.symm
  simp only[mD] at b;split at b
  case h_2=>exact b.elim
  rename_i k off aa;split at b
  case h_2=>exact b.elim
  rename_i g ty' cs hk;split at b
  case h_2=>exact b.elim
  rename_i x;have z:=wW x;have x:=jh (BA x);obtain⟨vs,q,o⟩:=q9 hs y hr b;refine⟨_,?_,o⟩;have u:=hs.own k _ hk;have m:∀j v,((cs.drop off).take n)[j]?=some v->w.cell? ((⟨g,off,none⟩:Addr).add j)=some v:=by
   intro j v hv;rw[cA,ol z u];have hj:j<n:=by
    have:=xD.1 hv;obtain⟨h,_⟩:=this;omega
   rw[List.getElem?_take_of_lt hj,abm] at hv;exact hv
  have hy:a.tmps.getD t undef=.pointer (some ⟨g,off,none⟩):=by rw[y.eq t];simp only[aa,conc,hk]
  have f:=pV hd hi m x hn;simp only[Instr.loadAt,Instr.sureAddr,Sem.run_bind,Sem.run_pure,Result.andThen_ok] at f;simp only[List.mapM_cons,yt,hy,asAddr,Sem.run_bind,Sem.run_pure,Result.andThen_ok,f];rw[q,s];simp
theorem tJ (fn:Func) (tmps:Array Value):results fn tmps=(do let vs <-fn.results.mapM (yt tmps);pure (if h:vs.size=1 then vs[0] else .tuple vs)):=by
 unfold results;have h:(fun(r:ResultVar)=>match r with | .tmp t=>(pure (tmps.getD t undef):Sem Value) | .cell a t=>do loadVar t (<-asAddr (tmps.getD a undef)))=yt tmps:=by
  funext r
  cases r<;>rfl
 rw[<-h];rfl
theorem rf:∀(svs:List SV) (k j:Nat),uj k svs j=if k<=j then(svs[j-k]?).getD (.v undef) else .v undef
 | [],k,j=>by simp[uj]
 | v::svs,k,j=>by
  simp only[uj,put_eq]
  by_cases h:j=k
  ·subst h;simp
  ·rw[vv h,rf svs (k+1) j]
   by_cases a:k<=j
   ·rw[o6 (by omega),o6 a,show j-k=(j-(k+1))+1 by omega,aby]
   ·rw[vv (by omega),vv a]
def aC (P:Program) (A:cF) (fn:Func):Option (aI×Nat×List RV×Bool) :=
 match fn.body with
 | some c=>match low P A c,qC P fn.results.toList with
  | some sc,some rs=>some (sc,fn.ntmps,rs,fn.name == "runtime.NumGoroutine")
  | _,_=>none
 | none=>none
theorem JP {Lin:List Own}:∀(vs:List Value),∀v∈vs.map SV.v,(∀k off,v=.own k off->∃g ty cs,(inp Lin).get k=some (.box g ty cs))/\(∀a j,v=.el a j->a≠none):=by
 intro vs v b;obtain⟨u,_,rfl⟩:=abk.1 b;exact⟨fun _ _ e=>(by cases e),fun _ _ e=>(by cases e)⟩
end
inductive G where
 | int (k:IntKind) (n:Int)
 | bool (b:Bool)
 | str (s:ByteArray)
 | sl (sz:Nat) (l:List G)
 | st (l:List G)
mutual
def Rd (F:aF):G->List Value->Prop
 | .int k n,cs=>cs=[.int k n]/\(Lit.int k n).wf=true
 | .bool b,cs=>cs=[.bool b]
 | .str s,cs=>cs=[.string s]
 | .sl sz l,cs=>∃a c,cs=[.slice a l.length c]/\l.length<=c/\c<=maxLen/\(a=none->l=[]/\c=0)/\uD F a sz 0 l
 | .st l,cs=>nF F l cs
def uD (F:aF) (a:Option Addr) (sz:Nat):Nat->List G->Prop
 | _,[]=>True
 | i,x::l=>(∃es,es.length=sz/\cg F a (i*sz) es/\Rd F x es)/\uD F a sz (i+1) l
def nF (F:aF):List G->List Value->Prop
 | [],cs=>cs=[]
 | x::l,cs=>∃c1 c2,cs=c1++c2/\Rd F x c1/\nF F l c2
end
mutual
theorem Rd.mono {F F':aF}(hle:F.le F'):∀{g:G}{cs:List Value},Rd F g cs->Rd F' g cs
 | .int k n,cs,h=>h
 | .bool b,cs,h=>h
 | .str s,cs,h=>h
 | .sl sz l,cs,h=>by
  simp only[Rd] at h ⊢;obtain⟨a,c,h1,h2,h3,h4,h5⟩:=h;exact⟨a,c,h1,h2,h3,h4,uD.mono hle h5⟩
 | .st l,cs,h=>by
  simp only[Rd] at h ⊢;exact nF.mono hle h
theorem uD.mono {F F':aF}(hle:F.le F') {a:Option Addr}{sz:Nat}:∀{i:Nat}{l:List G},uD F a sz i l->uD F' a sz i l
 | _,[],h=>by simp only[uD]
 | i,x::l,h=>by
  simp only[uD] at h ⊢;obtain⟨⟨es,h1,h2,h3⟩,h4⟩:=h;exact⟨⟨es,h1,h2.mono hle,Rd.mono hle h3⟩,uD.mono hle h4⟩
theorem nF.mono {F F':aF}(hle:F.le F'):∀{l:List G}{cs:List Value},nF F l cs->nF F' l cs
 | [],cs,h=>by simp only[nF] at h ⊢;exact h
 | x::l,cs,h=>by
  simp only[nF] at h ⊢;obtain⟨c1,c2,h1,h2,h3⟩:=h;exact⟨c1,c2,h1,Rd.mono hle h2,nF.mono hle h3⟩
end
theorem yu {F:aF}{a:Option Addr}{sz:Nat}:∀{l:List G}{i:Nat},uD F a sz i l↔∀j x,l[j]?=some x->∃es,es.length=sz/\cg F a ((i+j)*sz) es/\Rd F x es
 | [],i=>by simp[uD]
 | x::l,i=>by
  simp only[uD,yu (l:=l)];constructor
  ·rintro⟨d,c⟩ j y b;cases j with
   | zero=>simp only[aa2,w7] at b;subst b;simpa using d
   | succ j =>
    simp only[aby] at b;have:=c j y b
    rwa [show i+1+j=i+(j+1) by omega] at this
  ·intro h;refine⟨by simpa using h 0 x (by simp),fun j y b=>?_⟩;have:=h (j+1) y (by simpa using b)
   rwa [show i+(j+1)=i+1+j by omega] at this
structure Sl (F:aF) (sz:Nat) (l:List G) (a:Option Addr) (c:Nat):Prop where
 cap:l.length<=c
 max:c<=maxLen
 nil:a=none->l=[]/\c=0
 elems:∀j x,l[j]?=some x->∃es,es.length=sz/\cg F a (j*sz) es/\Rd F x es
theorem Sl.mono {F F':aF}{sz:Nat}{l:List G}{a:Option Addr}{c:Nat}(h:Sl F sz l a c) (b:F.le F'):Sl F' sz l a c :=
 ⟨h.cap,h.max,h.nil,fun j x d=>let⟨es,h1,h2,h3⟩:=h.elems j x d;⟨es,h1,h2.mono b,h3.mono b⟩⟩
theorem P7 {F:aF}{sz:Nat}{l:List G}{cs:List Value}:Rd F (.sl sz l) cs↔∃a c,cs=[.slice a l.length c]/\Sl F sz l a c:=by
 simp only[Rd];constructor
 ·rintro⟨a,c,d,b,f,k,h⟩;exact⟨a,c,d,b,f,k,fun j x e=>by have:=yu.1 h j x e;simpa using this⟩
 ·rintro⟨a,c,d,b⟩;exact⟨a,c,d,b.cap,b.max,b.nil,yu.2 fun j x e=>by have:=b.elems j x e;simpa using this⟩
theorem Sl.ne {F:aF}{sz:Nat}{l:List G}{a:Option Addr}{c:Nat}(h:Sl F sz l a c) (b:l≠[]):a≠none:=fun e=>b (h.nil e).1
theorem Sl.load {F F':aF}{L:Loc}{sz:Nat}{l:List G}{a:Option Addr}{c:Nat}{j:Nat}{x:G}{K:List Value->Prop}(h:Sl F sz l a c) (b:F.le F') (e:l[j]?=some x)
  (m:∀es,es.length=sz->Rd F' x es->K es):j8 F' L a (j*sz) sz K:=by
 obtain⟨es,d,k,f⟩:=h.elems j x e;exact⟨es,d,.inl (k.mono b),m es d (f.mono b)⟩
theorem Sl.loadD {F F':aF}{sz:Nat}{l:List G}{a:Option Addr}{c:Nat}{j:Nat}{x:G}{K:List Value->Prop}(h:Sl F sz l a c) (b:F.le F') (e:l[j]?=some x)
  (m:∀es,es.length=sz->Rd F' x es->K es):jg F' a (j*sz) sz K:=by
 obtain⟨es,d,k,f⟩:=h.elems j x e;exact⟨es,d,.inl (k.mono b),m es d (f.mono b)⟩
theorem af {b:Bool}{A B:Prop}(h:b=true->A) (k:b=false->B):xS b A B:=by cases b;exact k rfl;exact h rfl
theorem aK {p:Prop}[Decidable p] {A B:Prop}(h:p->A) (k:¬p->B):xS (decide p) A B:=by
 by_cases a:p
 ·simp only[a,decide_true];exact h a
 ·simp only[a,decide_false];exact k a
theorem Fit.aad {n:Int}{K:Int->Prop}(b:-9223372036854775808<=n) (a:n<=9223372036854775807) (h:K n):Fit .i64 n K:=by
 refine⟨?_⟩;have:IntKind.wrap .i64 n=n:=by
  simp only[IntKind.wrap,IntKind.bits,IntKind.signed,abJ,abw,ge_iff_le,Nat.reduceSub,Int.reducePow];split<;>omega
 rw[this];exact h
def Rx (x:Value):aF->List Own->Value->Prop:=fun _ Lo v=>Lo=[]/\v=x
theorem Rx.mono {x:Value}:∀F G L v,aF.le F G->Rx x F L v->Rx x G L v:=fun _ _ _ _ _ h=>h
theorem wf_i64 {n:Int}(h:(Lit.int .i64 n).wf=true):-9223372036854775808<=n/\n<=9223372036854775807:=by
 simpa[Lit.wf,IntKind.min,IntKind.max,IntKind.bits,IntKind.signed] using h
end Go.Fr
namespace Go.Fr.T
open Go Go.RowKit Go.Fr
inductive C where
 | int (k:IntKind) (n:Int)
 | bool (b:Bool)
 | str (s:ByteArray)
 | sl (els:List (List C))
 | slx (els:List (List C))
 | nils
 | rw(k:Nat)
 | own (k off:Nat)
 | ifo (m:Option String) (t:TypeId) (k off:Nat)
 | ownv (k off:Nat)
 | pt (es:List C) (off:Nat)
 | elr (k j off:Nat)
 | slo (k:Nat) (offs:List Nat)
 | slp (k:Nat) (offs:List Nat) (j:Nat)
 | fn (f:Nat) (fi ca:List C)
 | agg (cs:List C)
 | tup (cs:List C)
 | nilp
 | nilf
 | ifc (t:TypeId) (c:C)
 | opq (k:Nat)
 | mval (nm:String) (c:C)
 | mof (t:TypeId) (nm:String)
 | mpr (k:Nat)
 | und
 | any
 deriving Inhabited
inductive TO where
 | box (t:TypeId) (cs:List C)
 | row (t:TypeId) (sz:Nat) (els:List (List C))
 | map (es:List (C×C))
 /-- a part of a box;what stands ahead of it and behind it names nothing of one's own -/
 | win (t:TypeId) (pre cs post:List C)
abbrev TL:=List (Nat×TO)
def TL.get:TL->Nat->Option TO
 | [],_=>none
 | (j,o)::l,k=>match Nat.beq j k with | true=>some o | false=>TL.get l k
def TL.set:TL->Nat->TO->TL
 | [],k,o=>[(k,o)]
 | (j,p)::l,k,o=>match Nat.beq j k with
  | true=>(k,o)::l
  | false=>match Nat.ble j k with
   | true=>(j,p)::TL.set l k o
   | false=>(k,o)::(j,p)::l
def TL.del:TL->Nat->TL
 | [],_=>[]
 | (j,o)::l,k=>match Nat.beq j k with | true=>TL.del l k | false=>(j,o)::TL.del l k
def TL.sub (L:TL):List Nat->Option (List TO)
 | []=>some []
 | k::ks=>match L.get k,TL.sub L ks with
  | some o,some l=>some (o::l)
  | _,_=>none
def TL.aaf (L:TL):List Nat->TL
 | []=>L
 | k::ks=>TL.aaf (L.del k) ks
def TL.puts (L:TL):List Nat->List TO->TL
 | k::ks,o::l=>TL.puts (L.set k o) ks l
 | _,_=>L
def jF:Nat->List TO->TL
 | _,[]=>[]
 | k,o::l=>(k,o)::jF (k+1) l
def jG (l:List TO):TL:=jF 1000 l
def C.one:C->Bool
 | .int _ _=>true
 | .bool _=>true
 | .str _=>true
 | .sl _=>true
 | .slx _=>true
 | .nils=>true
 | .rw _=>true
 | .own _ _=>true
 | .ifo _ _ _ _=>true
 | .pt _ _=>true
 | .fn _ _ _=>true
 | .nilp=>true
 | .nilf=>true
 | .ifc _ _=>true
 | .opq _=>true
 | .mval _ _=>true
 | .mof _ _=>true
 | .mpr _=>true
 | _=>false
def dZ:List C->Bool
 | []=>true
 | c::l=>match c.one with | true=>dZ l | false=>false
def C.aak:C->Bool
 | .int _ _=>true
 | .bool _=>true
 | .str _=>true
 | .sl _=>true
 | .slx _=>true
 | .nils=>true
 | .pt _ _=>true
 | .nilp=>true
 | .nilf=>true
 | .ifc _ _=>true
 | .opq _=>true
 | .mval _ _=>true
 | .mof _ _=>true
 | _=>false
def jN:List C->Bool
 | []=>true
 | c::l=>match c.aak with | true=>jN l | false=>false
def C.pure:C->Bool
 | .fn _ fi ca=>match jN fi with | true=>jN ca | false=>false
 | c=>c.aak
def eH:List C->Bool
 | []=>true
 | c::l=>match c.pure with | true=>eH l | false=>false
def C.mp (g:C->C):Nat->C->C
 | _,.int k n=>g (.int k n)
 | _,.bool b=>g (.bool b)
 | _,.str s=>g (.str s)
 | _,.sl els=>g (.sl els)
 | _,.slx els=>g (.slx els)
 | _,.nils=>g .nils
 | _,.rw j=>g (.rw j)
 | _,.own j o=>g (.own j o)
 | _,.ifo m t j o=>g (.ifo m t j o)
 | _,.ownv j o=>g (.ownv j o)
 | _,.pt es o=>g (.pt es o)
 | _,.elr j a b=>g (.elr j a b)
 | _,.slo j a=>g (.slo j a)
 | _,.slp j a b=>g (.slp j a b)
 | _,.nilp=>g .nilp
 | _,.nilf=>g .nilf
 | _,.ifc t c=>g (.ifc t c)
 | _,.opq k=>g (.opq k)
 | _,.mval nm c=>g (.mval nm c)
 | _,.mof t nm=>g (.mof t nm)
 | _,.mpr j=>g (.mpr j)
 | _,.und=>g .und
 | _,.any=>g .any
 | 0,.fn _ _ _=>.any
 | 0,.agg _=>.any
 | 0,.tup _=>.any
 | n+1,.fn f fi ca=>.fn f (fi.map (C.mp g n)) (ca.map (C.mp g n))
 | n+1,.agg cs=>.agg (cs.map (C.mp g n))
 | n+1,.tup cs=>.tup (cs.map (C.mp g n))
def ic (k:Nat):C->C
 | .int k n=>.int k n
 | .bool b=>.bool b
 | .str s=>.str s
 | .sl els=>.sl els
 | .slx els=>.slx els
 | .nils=>.nils
 | .rw j=>match Nat.beq j k with | true=>.any | false=>.rw j
 | .own j o=>.own j o
 | .ifo m t j o=>.ifo m t j o
 | .ownv j o=>.ownv j o
 | .pt es o=>.pt es o
 | .elr j a b=>match Nat.beq j k with | true=>.any | false=>.elr j a b
 | .slo j a=>.slo j a
 | .slp j a b=>.any
 | .fn f fi ca=>.fn f fi ca
 | .agg cs=>.agg cs
 | .tup cs=>.tup cs
 | .nilp=>.nilp
 | .nilf=>.nilf
 | .ifc t c=>.ifc t c
 | .opq k=>.opq k
 | .mval nm c=>.mval nm c
 | .mof t nm=>.mof t nm
 | .mpr j=>.mpr j
 | .und=>.und
 | .any=>.any
def C.kill (k:Nat) (c:C):C:=C.mp (ic k) 3 c
def C.kills:List Nat->C->C
 | [],c=>c
 | k::ks,c=>C.kills ks (c.kill k)
def ri:C->C
 | .int k n=>.int k n
 | .bool b=>.bool b
 | .str s=>.str s
 | .sl els=>.sl els
 | .slx els=>.slx els
 | .nils=>.nils
 | .rw j=>.any
 | .own j o=>.own j o
 | .ifo m t j o=>.ifo m t j o
 | .ownv j o=>.ownv j o
 | .pt es o=>.pt es o
 | .elr j a b=>.any
 | .slo j a=>.slo j a
 | .slp j a b=>.any
 | .fn f fi ca=>.fn f fi ca
 | .agg cs=>.agg cs
 | .tup cs=>.tup cs
 | .nilp=>.nilp
 | .nilf=>.nilf
 | .ifc t c=>.ifc t c
 | .opq k=>.opq k
 | .mval nm c=>.mval nm c
 | .mof t nm=>.mof t nm
 | .mpr j=>.mpr j
 | .und=>.und
 | .any=>.any
def C.aaO (c:C):C:=C.mp ri 3 c
def oq (k:Nat) (l:List (List C)):C->C
 | .int k n=>.int k n
 | .bool b=>.bool b
 | .str s=>.str s
 | .sl els=>.sl els
 | .slx els=>.slx els
 | .nils=>.nils
 | .rw j=>match Nat.beq j k with | true=>.sl l | false=>.rw j
 | .own j o=>.own j o
 | .ifo m t j o=>.ifo m t j o
 | .ownv j o=>.ownv j o
 | .pt es o=>.pt es o
 | .elr j a b=>match Nat.beq j k with | true=>.any | false=>.elr j a b
 | .slo j a=>.slo j a
 | .slp j a b=>.any
 | .fn f fi ca=>.fn f fi ca
 | .agg cs=>.agg cs
 | .tup cs=>.tup cs
 | .nilp=>.nilp
 | .nilf=>.nilf
 | .ifc t c=>.ifc t c
 | .opq k=>.opq k
 | .mval nm c=>.mval nm c
 | .mof t nm=>.mof t nm
 | .mpr j=>.mpr j
 | .und=>.und
 | .any=>.any
def C.frz (k:Nat) (els:List (List C)) (c:C):C:=C.mp (oq k els) 3 c
def rZ (k:Nat) (es:List C):C->C
 | .int k n=>.int k n
 | .bool b=>.bool b
 | .str s=>.str s
 | .sl els=>.sl els
 | .slx els=>.slx els
 | .nils=>.nils
 | .rw j=>.rw j
 | .own j o=>match Nat.beq j k with | true=>.pt es o | false=>.own j o
 | .ifo m t j o=>match Nat.beq j k with | true=>(match m with | none=>.ifc t (.pt es o) | some nm=>.mval nm (.ifc t (.pt es o))) | false=>.ifo m t j o
 | .ownv j o=>match Nat.beq j k with | true=>.pt es o | false=>.ownv j o
 | .pt es o=>.pt es o
 | .elr j a b=>.elr j a b
 | .slo j a=>match Nat.beq j k with | true=>.any | false=>.slo j a
 | .slp j a b=>.any
 | .fn f fi ca=>.fn f fi ca
 | .agg cs=>.agg cs
 | .tup cs=>.tup cs
 | .nilp=>.nilp
 | .nilf=>.nilf
 | .ifc t c=>.ifc t c
 | .opq k=>.opq k
 | .mval nm c=>.mval nm c
 | .mof t nm=>.mof t nm
 | .mpr j=>match Nat.beq j k with | true=>.any | false=>.mpr j
 | .und=>.und
 | .any=>.any
def C.frb (k:Nat) (es:List C) (c:C):C:=C.mp (rZ k es) 3 c
def uE (r:Nat->Option Nat):C->C
 | .int k n=>.int k n
 | .bool b=>.bool b
 | .str s=>.str s
 | .sl els=>.sl els
 | .slx els=>.slx els
 | .nils=>.nils
 | .rw j=>match r j with | some i=>.rw i | none=>.any
 | .own j o=>match r j with | some i=>.own i o | none=>.any
 | .ifo m t j o=>match r j with | some i=>.ifo m t i o | none=>.any
 | .ownv j o=>match r j with | some i=>.own i o | none=>.any
 | .pt es o=>.pt es o
 | .elr j a b=>match r j with | some i=>.elr i a b | none=>.any
 | .slo j a=>match r j with | some i=>.slo i a | none=>.any
 | .slp j a b=>.any
 | .fn f fi ca=>.fn f fi ca
 | .agg cs=>.agg cs
 | .tup cs=>.tup cs
 | .nilp=>.nilp
 | .nilf=>.nilf
 | .ifc t c=>.ifc t c
 | .opq k=>.opq k
 | .mval nm c=>.mval nm c
 | .mof t nm=>.mof t nm
 | .mpr j=>match r j with | some i=>.mpr i | none=>.any
 | .und=>.und
 | .any=>.any
def C.ren (f:Nat->Option Nat) (c:C):C:=C.mp (uE f) 3 c
def TO.aag (g:C->C):TO->TO
 | .box t cs=>.box t (cs.map g)
 | .row t sz els=>.row t sz els
 | .map es=>.map es
 | .win t pre cs post=>.win t pre (cs.map g) post
def TL.aag (g:C->C):TL->TL
 | []=>[]
 | (k,o)::l=>(k,o.aag g)::TL.aag g l
def cn:List Nat->Nat->Nat->Option Nat
 | [],_,_=>none
 | k::ks,i,j=>match Nat.beq j k with | true=>some i | false=>cn ks (i+1) j
def br (ko:List Nat) (j:Nat):Option Nat:=match Nat.ble 1000 j with | true=>ko[j-1000]? | false=>none
def C.can:C->C
 | .int k n=>.int k n
 | .bool b=>.bool b
 | .str s=>.str s
 | .sl els=>.sl els
 | .slx els=>.sl els
 | .nils=>.sl []
 | .rw j=>.rw j
 | .own j o=>.own j o
 | .ifo m t j o=>.ifo m t j o
 | .ownv j o=>.ownv j o
 | .pt es o=>.pt es o
 | .elr j a b=>.elr j a b
 | .slo j a=>.slo j a
 | .slp j a b=>.slp j a b
 | .fn f fi ca=>.fn f fi ca
 | .agg cs=>.agg cs
 | .tup cs=>.tup cs
 | .nilp=>.nilp
 | .nilf=>.nilf
 | .ifc t c=>.ifc t c
 | .opq k=>.opq k
 | .mval nm c=>.mval nm c
 | .mof t nm=>.mof t nm
 | .mpr j=>.mpr j
 | .und=>.und
 | .any=>.any
def C.aaj:C->C
 | .int k n=>.int k n
 | .bool b=>.bool b
 | .str s=>.str s
 | .sl els=>.sl els
 | .slx els=>.sl els
 | .nils=>.sl []
 | .rw j=>.rw j
 | .own j o=>.own j o
 | .ifo m t j o=>.ifo m t j o
 | .ownv j o=>.ownv j o
 | .pt es o=>.pt es o
 | .elr j a b=>.elr j a b
 | .slo j a=>.slo j a
 | .slp j a b=>.slp j a b
 | .fn f fi ca=>.fn f fi ca
 | .agg cs=>.agg (cs.map C.can)
 | .tup cs=>.tup cs
 | .nilp=>.nilp
 | .nilf=>.nilf
 | .ifc t c=>.ifc t c
 | .opq k=>.opq k
 | .mval nm c=>.mval nm c
 | .mof t nm=>.mof t nm
 | .mpr j=>.mpr j
 | .und=>.und
 | .any=>.any
def C.aar:C->C
 | .int k n=>.int k n
 | .bool b=>.bool b
 | .str s=>.str s
 | .sl els=>.sl els
 | .slx els=>.sl els
 | .nils=>.sl []
 | .rw j=>.rw j
 | .own j o=>.own j o
 | .ifo m t j o=>.ifo m t j o
 | .ownv j o=>.ownv j o
 | .pt es o=>.pt es o
 | .elr j a b=>.elr j a b
 | .slo j a=>.slo j a
 | .slp j a b=>.slp j a b
 | .fn f fi ca=>.fn f fi ca
 | .agg cs=>.agg (cs.map C.can)
 | .tup cs=>.tup (cs.map C.aaj)
 | .nilp=>.nilp
 | .nilf=>.nilf
 | .ifc t c=>.ifc t c
 | .opq k=>.opq k
 | .mval nm c=>.mval nm c
 | .mof t nm=>.mof t nm
 | .mpr j=>.mpr j
 | .und=>.und
 | .any=>.any
abbrev aY:=Nat->C
def bL (d:Option Nat) (c:C) (ρ:aY):aY :=
 match d with
 | some d=>fun j=>match Nat.beq j d with | true=>c | false=>ρ j
 | none=>ρ
def sS:Value->C
 | .int k n=>match(Lit.int k n).wf with | true=>.int k n | false=>.any
 | .bool b=>.bool b
 | .string s=>match Nat.ble s.size maxLen with | true=>.str s | false=>.any
 | .slice none 0 0=>.nils
 | .pointer none=>.nilp
 | .nilFunc=>.nilf
 | .nilIface=>.opq 0
 | .func (.methodOf t nm) ⟨[]⟩ ⟨[]⟩=>.mof t nm
 | _=>.any
def Zn (nm:String) (c:C):C :=
 match c with
 | .ifc t c=>.mval nm (.ifc t c)
 | .ifo none t k off=>.ifo (some nm) t k off
 | _=>.any
def cv:Value->C
 | .agg cs=>.agg (cs.toList.map sS)
 | v=>sS v
def cB (ρ:aY):X->C
 | .t n=>ρ n
 | .c v=>cv v
 | .fn f=>.fn f [] []
 | .mt nm n=>Zn nm (ρ n)
def C.cel:C->C
 | .int k n=>.int k n
 | .bool b=>.bool b
 | .str s=>.str s
 | .sl els=>.sl els
 | .slx els=>.slx els
 | .nils=>.nils
 | .rw j=>.rw j
 | .own j o=>.own j o
 | .ifo m t j o=>.ifo m t j o
 | .ownv j o=>.own j o
 | .pt es o=>.pt es o
 | .elr j a b=>.elr j a b
 | .slo j a=>.slo j a
 | .slp j a b=>.any
 | .fn f fi ca=>.fn f fi ca
 | .agg cs=>.agg cs
 | .tup cs=>.tup cs
 | .nilp=>.nilp
 | .nilf=>.nilf
 | .ifc t c=>.ifc t c
 | .opq k=>.opq k
 | .mval nm c=>.mval nm c
 | .mof t nm=>.mof t nm
 | .mpr j=>.mpr j
 | .und=>.und
 | .any=>.any
def C.slt:C->C
 | .int k n=>.int k n
 | .bool b=>.bool b
 | .str s=>.str s
 | .sl els=>.sl els
 | .slx els=>.slx els
 | .nils=>.nils
 | .rw j=>.rw j
 | .own j o=>.ownv j o
 | .ifo m t j o=>.ifo m t j o
 | .ownv j o=>.ownv j o
 | .pt es o=>.pt es o
 | .elr j a b=>.any
 | .slo j a=>.slo j a
 | .slp j a b=>.any
 | .fn f fi ca=>.fn f fi ca
 | .agg cs=>.agg cs
 | .tup cs=>.tup cs
 | .nilp=>.nilp
 | .nilf=>.nilf
 | .ifc t c=>.ifc t c
 | .opq k=>.opq k
 | .mval nm c=>.mval nm c
 | .mof t nm=>.mof t nm
 | .mpr j=>.mpr j
 | .und=>.und
 | .any=>.any
def C.aaC:C->C
 | .int k n=>.int k n
 | .bool b=>.bool b
 | .str s=>.str s
 | .sl els=>.sl els
 | .slx els=>.slx els
 | .nils=>.nils
 | .rw j=>.rw j
 | .own j o=>.own j o
 | .ifo m t j o=>.ifo m t j o
 | .ownv j o=>.own j o
 | .pt es o=>.pt es o
 | .elr j a b=>.elr j a b
 | .slo j a=>.slo j a
 | .slp j a b=>.slp j a b
 | .fn f fi ca=>.fn f fi ca
 | .agg cs=>.agg cs
 | .tup cs=>.tup cs
 | .nilp=>.nilp
 | .nilf=>.nilf
 | .ifc t c=>.ifc t c
 | .opq k=>.opq k
 | .mval nm c=>.mval nm c
 | .mof t nm=>.mof t nm
 | .mpr j=>.mpr j
 | .und=>.und
 | .any=>.any
def C.okc:C->Bool
 | .any=>false
 | .und=>false
 | .elr _ _ _=>false
 | .slo _ _=>false
 | .slp _ _ _=>false
 | .tup _=>false
 | _=>true
def ct:C->List C
 | .int k n=>[.int k n]
 | .bool b=>[.bool b]
 | .str s=>[.str s]
 | .sl els=>[.sl els]
 | .slx els=>[.slx els]
 | .nils=>[.nils]
 | .rw j=>[.rw j]
 | .own j o=>[.own j o]
 | .ifo m t j o=>[.ifo m t j o]
 | .ownv j o=>[.own j o]
 | .pt es o=>[.pt es o]
 | .elr j a b=>[.any]
 | .slo j a=>[.any]
 | .slp j a b=>[.any]
 | .fn f fi ca=>[.fn f fi ca]
 | .agg cs=>cs
 | .tup cs=>[.tup cs]
 | .nilp=>[.nilp]
 | .nilf=>[.nilf]
 | .ifc t c=>[.ifc t c]
 | .opq k=>[.opq k]
 | .mval nm c=>[.mval nm c]
 | .mof t nm=>[.mof t nm]
 | .mpr j=>[.mpr j]
 | .und=>[.und]
 | .any=>[.any]
def dM:List C->Nat->Bool
 | [],0=>true
 | _::l,n+1=>dM l n
 | _,_=>false
def BP (agg:Bool) (cs:List C):C :=
 match agg,cs with
 | true,cs=>.agg cs
 | false,[c]=>c.slt
 | false,_=>.any
def eP (ρ:aY):List X->List C
 | []=>[]
 | x::xs=>(cB ρ x).cel::eP ρ xs
def vA (ρ:aY):List X->List (List C)
 | []=>[]
 | x::xs=>(ct (cB ρ x)).map C.can::vA ρ xs
def rj (ρ:aY) (sz:Nat):List X->Bool
 | []=>true
 | x::xs=>match(cB ρ x).okc,dM (ct (cB ρ x)) sz,dZ (ct (cB ρ x)),eH (ct (cB ρ x)) with
  | true,true,true,true=>rj ρ sz xs
  | _,_,_,_=>false
def fN (cs:List C) (off:Nat) (vs:List C):List C:=cs.take off++vs++cs.drop (off+vs.length)
def vB (ρ:aY):List C->List (Nat×Nat×X)->Option (List C)
 | zs,[]=>some zs
 | zs,(off,n,x)::ps=>match(cB ρ x).okc,dM (ct (cB ρ x)) n with
  | true,true=>vB ρ (fN zs off (ct (cB ρ x))) ps
  | _,_=>none
def HO (ρ:aY) (d:Int):Option X->Option Int
 | none=>some d
 | some x=>match cB ρ x with | .int _ i=>some i | _=>none
def Vs (mx:Bool):Int->List C->Option Int
 | a,[]=>some a
 | a,.int _ b::l=>Vs mx (match mx with | true=>if b>a then b else a | false=>if b<a then b else a) l
 | _,_=>none
abbrev jU (b:UInt8):C:=.int .u8 b.toNat
def ak (bs:List UInt8):List (List C):=bs.map fun b=>[jU b]
def fc (c:C) (K:C->Prop):Prop :=
 match c with
 | .int k n=>K (.int k n)
 | .bool b=>K (.bool b)
 | .str s=>K (.str s)
 | .sl els=>K (.sl els)
 | .slx els=>K (.slx els)
 | .nils=>K .nils
 | .rw k=>K (.rw k)
 | .own k off=>K (.own k off)
 | .ifo m t k off=>K (.ifo m t k off)
 | .ownv k off=>K (.ownv k off)
 | .pt es off=>K (.pt es off)
 | .elr k j off=>K (.elr k j off)
 | .slo k a=>K (.slo k a)
 | .slp k a j=>K (.slp k a j)
 | .fn f fi ca=>K (.fn f fi ca)
 | .agg cs=>K (.agg cs)
 | .tup cs=>K (.tup cs)
 | .nilp=>K .nilp
 | .nilf=>K .nilf
 | .ifc t c=>K (.ifc t c)
 | .opq k=>K (.opq k)
 | .mval nm c=>K (.mval nm c)
 | .mof t nm=>K (.mof t nm)
 | .mpr j=>K (.mpr j)
 | .und=>K .und
 | .any=>K .any
def fl:List C->(List C->Prop)->Prop
 | [],K=>K []
 | c::cs,K=>fc c fun c=>fl cs fun cs=>K (c::cs)
def fO:TO->(TO->Prop)->Prop
 | .box t cs,K=>fl cs fun cs=>K (.box t cs)
 | .row t sz els,K=>K (.row t sz els)
 | .map es,K=>K (.map es)
 | .win t pre cs post,K=>fl cs fun cs=>K (.win t pre cs post)
def fT:TL->(TL->Prop)->Prop
 | [],K=>K []
 | (k,o)::l,K=>fO o fun o=>fT l fun l=>K ((k,o)::l)
def wJ (c:C) (K:C->Prop):Prop :=
 match c with
 | .agg cs=>fl cs fun cs=>K (.agg cs)
 | c=>fc c K
theorem FZ {c:C}{K:C->Prop}:fc c K=K c:=by cases c<;>rfl
theorem fk:∀{cs:List C}{K:List C->Prop},fl cs K=K cs
 | [],K=>rfl
 | c::cs,K=>by simp only[fl,FZ,fk]
theorem TA {o:TO}{K:TO->Prop}:fO o K=K o:=by cases o<;>simp only[fO,fk]
theorem fI:∀{L:TL}{K:TL->Prop},fT L K=K L
 | [],K=>rfl
 | (k,o)::l,K=>by simp only[fT,TA,fI]
theorem eI {c:C}{K:C->Prop}:wJ c K=K c:=by cases c<;>simp only[wJ,fk,FZ]
mutual
/-- the bounds that all data of the machine keeps -/
def Wf:C->Prop
 | .int k n=>(Lit.int k n).wf=true
 | .str s=>s.size<=maxLen
 | .sl els=>els.length<=maxLen/\uF els
 | .slx els=>els.length<=maxLen/\uF els
 | .pt es _=>sU es
 | .fn _ fi ca=>sU fi/\sU ca
 | .agg cs=>sU cs
 | .tup cs=>sU cs
 | .slo _ offs=>offs.length<=maxLen
 | _=>True
def sU:List C->Prop
 | []=>True
 | c::l=>Wf c/\sU l
def uF:List (List C)->Prop
 | []=>True
 | es::l=>sU es/\uF l
end
def VG:List (C×C)->Prop
 | []=>True
 | (k,v)::l=>Wf k/\Wf v/\VG l
def TO.Wf:TO->Prop
 | .box _ cs=>sU cs
 | .row _ _ els=>uF els
 | .map es=>VG es
 | .win _ _ cs _=>sU cs
structure BQ (els:List (List C)) (i:Int) (sz:Nat) (K:List C->Prop):Prop where
 out:∃es,0<=i/\els[i.toNat]?=some es/\dM es sz=true/\K es
structure Nh (els:List (List C)) (j off n:Nat) (K:List C->Prop):Prop where
 out:∃es,els[j]?=some es/\dM ((es.drop off).take n) n=true/\K ((es.drop off).take n)
structure nG (els:List (List C)) (K:List UInt8->Prop):Prop where
 out:∃bs,els=ak bs/\K bs
structure Dl (l h:Int) (els:List (List C)) (sz:Nat) (K:Nat->Nat->Prop):Prop where
 lo:0<=l
 le:l<=h
 hi:h<=els.length
 sizes:∀es∈els,es.length=sz
 out:K l.toNat h.toNat
structure tK (els news:List (List C)) (sz bytes:Nat) (K:Prop):Prop where
 sizes:∀es∈news,es.length=sz
 max:els.length+news.length<=maxLen
 room:(els.length+news.length)*bytes<=140737488355328
 out:K
def nH:Bool->C->C->Option Bool
 | false,.int .i64 a,.int .i64 b=>some (decide (a=b))
 | true,.str a,.str b=>some (decide (a.data.toList=b.data.toList))
 | _,_,_=>none
def JQ:Bool->C->Bool
 | false,.int .i64 _=>true
 | true,.str _=>true
 | _,_=>false
def AL (str:Bool) (key:C):List (C×C)->Option (Option C)
 | []=>some none
 | (k,v)::l=>match nH str key k with
  | some true=>some (some v)
  | some false=>AL str key l
  | none=>none
def JR (str:Bool) (key val:C):List (C×C)->Option (List (C×C))
 | []=>some [(key,val)]
 | (k,v)::l=>match nH str key k with
  | some true=>some ((key,val)::l)
  | some false=>match JR str key val l with | some l'=>some ((k,v)::l') | none=>none
  | none=>none
structure Ry (str:Bool) (es:List (C×C)) (key:C) (Y:C->Prop) (N:Prop):Prop where
 out:(∃v,AL str key es=some (some v)/\Y v)\/(AL str key es=some none/\N)
structure TB (str:Bool) (es:List (C×C)) (key val:C) (K:List (C×C)->Prop):Prop where
 out:∃es',JR str key val es=some es'/\K es'
structure JS (i:Int) (K:Nat->Prop):Prop where
 out:∃m:Nat,i=m/\K m
def yw:List Nat->TL->aY->List C->(TL->aY->List C->Prop)->Prop
 | [],L,ρ,a,K=>K L ρ a
 | k::ks,L,ρ,a,K=>match L.get k with
  | some (.row _ _ els)=>yw ks ((L.del k).aag (C.frz k els)) (fun j=>(ρ j).frz k els) (a.map (C.frz k els)) K
  | _=>False
def mO (L:TL):C->Bool
 | .rw k=>match L.get k with | some (.row _ _ _)=>true | _=>false
 | .own k _=>match L.get k with | some (.box _ _)=>true | some (.win _ _ _ _)=>true | _=>false
 | .ifo _ _ k _=>match L.get k with | some (.box _ _)=>true | some (.win _ _ _ _)=>true | _=>false
 | .mpr k=>match L.get k with | some (.map _)=>true | _=>false
 | .ownv _ _=>false
 | .elr _ _ _=>false
 | .slo k _=>match L.get k with | some (.box _ _)=>true | some (.win _ _ _ _)=>true | _=>false
 | .slp _ _ _=>false
 | _=>true
def gu (L:TL):Nat->C->Bool
 | n+1,.agg cs=>cs.all (gu L n)
 | n+1,.tup cs=>cs.all (gu L n)
 | n+1,.fn _ fi ca=>fi.all (gu L n)&&ca.all (gu L n)
 | 0,.agg _=>false
 | 0,.tup _=>false
 | 0,.fn _ _ _=>false
 | _,c=>mO L c
def Mw (L L1:TL) (c a:C):Prop :=
 a=.any\/(c=a/\gu L1 3 a=true)\/(c=.nils/\a=.sl [])\/(c=.nils/\∃k t sz,a=.rw k/\L.get k=none/\L1.get k=some (.row t sz []))\/∃els,c=.slx els/\a=.sl els
def JT (L L1:TL):List C->List C->Prop
 | [],l=>l=[]
 | c::cs,l=>∃a cs',l=a::cs'/\Mw L L1 c a/\JT L L1 cs cs'
def JU (L1:TL):TO->Bool
 | .box _ cs=>cs.all (gu L1 3)
 | .row _ _ _=>true
 | .map _=>true
 | .win _ _ cs _=>cs.all (gu L1 3)
def VH (L L1:TL) (o o':TO):Prop:=(o=o'/\JU L1 o'=true)\/∃t cs cs',o=.box t cs/\o'=.box t cs'/\JT L L1 cs cs'
def gives (L L1:TL):TL->Prop
 | []=>True
 | (k,o)::l=>((∃p,L.get k=some p/\VH L L1 p o)\/(L.get k=none/\∃t sz,o=.row t sz []))/\gives L L1 l
def oJ (L L1:TL):List Nat->List C->aY->Prop
 | k::ks,v::vs,ρ=>Mw L L1 (ρ k) v/\oJ L L1 ks vs ρ
 | _,_,_=>True
def rm:List Nat->List C->aY->aY
 | k::ks,v::vs,ρ=>bL (some k) v (rm ks vs ρ)
 | _,_,ρ=>ρ
def bP:List Nat->Bool
 | []=>true
 | k::ks=>match gI ks k with | true=>false | false=>bP ks
def Ni (F:aF) (b o off:Nat) (vs:List Value):Prop :=
 ∃a c t d,F b=some (.cells c t d)/\o=a+off/\∀(i:Nat) (v:Value),vs[i]?=some v->c[a+i]?=some v/\pT d (a+i)
def Dn:Option String->TypeId->Value->Value
 | none,t,u=>.iface t u
 | some nm,t,u=>.func (.method nm) #[.iface t u] #[]
mutual
def Rel (F:aF):Loc->C->Value->Prop
 | _,.int k n,v=>v=.int k n/\(Lit.int k n).wf=true
 | _,.bool b,v=>v=.bool b
 | _,.str s,v=>v=.string s/\s.size<=maxLen
 | _,.sl els,v=>∃a c,v=.slice a els.length c/\els.length<=c/\els.length<=maxLen/\(a=none->els=[]/\c=0)/\∃sz,gS F a sz 0 els
 | _,.slx els,v=>∃a,v=.slice (some a) els.length els.length/\els.length<=maxLen/\∃sz,gS F (some a) sz 0 els
 | _,.nils,v=>v=.slice none 0 0
 | L,.rw k,v=>∃a c t sz n xs,v=.slice a n c/\L.get k=some (.row v t sz n xs)
 | L,.own k off,v=>∃g t cs,L.get k=some (.box g t cs)/\v=.pointer (some ⟨g,off,none⟩)
 | L,.ifo m ti k off,v=>∃g t cs,L.get k=some (.box g t cs)/\v=Dn m ti (.pointer (some ⟨g,off,none⟩))
 | _,.pt es off,v=>∃b o vs,v=.pointer (some ⟨b,o,none⟩)/\Ni F b o off vs/\dZ es=true/\aG F [] es vs
 | L,.fn f fi ca,v=>∃fi' ca',v=.func (.func f) fi'.toArray ca'.toArray/\aG F L fi fi'/\aG F L ca ca'
 | L,.agg cs,v=>∃vs,v=.agg vs.toArray/\aG F L cs vs
 | L,.tup cs,v=>∃vs,v=.tuple vs.toArray/\aG F L cs vs
 | _,.nilp,v=>v=.pointer none
 | _,.nilf,v=>v=.nilFunc
 | _,.ifc t c,v=>∃u,v=.iface t u/\Rel F [] c u
 | _,.opq k,v=>j7 k F v
 | _,.mval nm c,v=>∃u,v=.func (.method nm) #[u] #[]/\Rel F [] c u
 | _,.mof t nm,v=>v=.func (.methodOf t nm) #[] #[]
 | L,.mpr k,v=>∃g cs,L.get k=some (.box g 0 cs)/\v=.map (some g)
 | _,.und,v=>v=undef
 | _,.any,_=>True
 | _,.ownv _ _,_=>False
 | L,.elr k j off,v=>∃ad t sz n c xs,v=.pointer (some (ad.add (j*sz+off)))/\L.get k=some (.row (.slice (some ad) n c) t sz n xs)
 | L,.slo k offs,v=>∃g t cs ad,L.get k=some (.box g t cs)/\v=.slice (some ad) offs.length offs.length/\offs.length<=maxLen/\cg F (some ad) 0 (offs.map fun o=>.pointer (some ⟨g,o,none⟩))
 | _,.slp _ _ _,_=>False
def aG (F:aF):Loc->List C->List Value->Prop
 | _,[],vs=>vs=[]
 | L,c::cs,vs=>∃v vs',vs=v::vs'/\Rel F L c v/\aG F L cs vs'
def gS (F:aF) (a:Option Addr) (sz:Nat):Nat->List (List C)->Prop
 | _,[]=>True
 | i,es::l=>(∃vs,vs.length=sz/\cg F a (i*sz) vs/\dZ es=true/\aG F [] es vs)/\gS F a sz (i+1) l
end
def aP (F:aF) (sz:Nat):List (List C)->List Value->Prop
 | [],xs=>xs=[]
 | es::l,xs=>∃vs a,xs=vs++a/\vs.length=sz/\dZ es=true/\aG F [] es vs/\aP F sz l a
def tyOk (t g a:Nat):Prop:=a<1048576/\(t=a\/t=(g+1)*1048576+a)/\a≠0
def jO (F:aF):List (C×C)->List Value->Prop
 | [],vs=>vs=[]
 | (k,c)::l,vs=>∃kv v a,vs=.agg #[kv,v]::a/\Rel F [] k kv/\Rel F [] c v/\jO F l a
def dG (F:aF) (L:Loc):TO->Own->Prop
 | .box t cs,.box g b vs=>tyOk t g b/\aG F L cs vs
 | .row t sz els,.row v b d n xs=>t=b/\sz=d/\n=els.length/\(n<=maxLen/\∃a c,v=.slice a n c/\(a=none->n=0))/\aP F sz els xs
 | .map es,.box g b vs=>b=0/\jO F es vs
 | .win t pre cs post,.box g b vs=>tyOk t g b/\∃v1 e v3,vs=v1++(e++v3)/\aG F [] pre v1/\aG F L cs e/\aG F [] post v3
 | _,_=>False
def JV (F:aF) (L:Loc):Option TO->Option Own->Prop
 | none,none=>True
 | some to,some o=>dG F L to o
 | _,_=>False
def dH (F:aF) (L:Loc) (M:TL):Prop:=∀k,JV F L (M.get k) (L.get k)
def Vt (sv:SV) (v:Value):Prop:=sv=.v v\/∃b o j,sv=.el (some ⟨b,o,none⟩) j/\v=.pointer (some ⟨b,o+j,none⟩)
def aT (F:aF) (L:Loc):C->SV->Prop
 | .own k off,sv=>sv=.own k off/\∃g t cs,L.get k=some (.box g t cs)
 | .pt es off,sv=>∃b o j vs,(sv=.v (.pointer (some ⟨b,o,none⟩))/\j=0\/sv=.el (some ⟨b,o,none⟩) j)/\Ni F b (o+j) off vs/\dZ es=true/\aG F [] es vs
 | .elr k j off,sv=>∃a t sz n c xs,sv=.el (some a) (j*sz+off)/\L.get k=some (.row (.slice (some a) n c) t sz n xs)
 | .ownv k off,sv=>∃v,Vt sv v/\Rel F L (.own k off) v
 | .slp k d j,sv=>∃g t cs a,L.get k=some (.box g t cs)/\sv=.el (some a) j/\cg F (some a) 0 (d.map fun o=>.pointer (some ⟨g,o,none⟩))
 | .any,_=>True
 | c,sv=>∃v,sv=.v v/\Rel F L c v
def Kp (G:Nat->Option (Nat×TypeId)) (L:Loc):Prop:=∀k g t,G k=some (g,t)->∃cs,L.get k=some (.box g t cs)
structure TS (G:Nat->Option (Nat×TypeId)) (F:aF) (L:Loc) (ρ:Env) (M:TL) (τ:aY):Prop where
 tl:dH F L M
 env:∀j,aT F L (τ j) (ρ j)
 kp:Kp G L
 glob:tj F
def Own.like:Own->Own->Prop
 | .box g t _,.box c b _=>g=c/\t=b
 | .row v _ sz n _,.row d _ a n' _=>v=d/\sz=a/\n=n'
 | _,_=>False
theorem Own.aah:∀o:Own,Own.like o o
 | .box ..=>⟨rfl,rfl⟩
 | .row ..=>⟨rfl,rfl,rfl⟩
theorem Ni.mono {F F':aF}(h:F.le F') {b o off:Nat}{vs:List Value}(c:Ni F b o off vs):Ni F' b o off vs:=by
 obtain⟨a,d,t,f,j,e⟩:=c;exact⟨a,d,t,f,h _ _ j,e⟩
mutual
theorem Rel.mono {F F':aF}(h:F.le F'):∀{L:Loc}{c:C}{v:Value},Rel F L c v->Rel F' L c v
 | _,.int k n,v,r=>r
 | _,.bool b,v,r=>r
 | _,.str s,v,r=>r
 | _,.sl els,v,r=>by
  simp only[Rel] at r ⊢;obtain⟨a,c,h1,h2,h3,h4,sz,h5⟩:=r;exact⟨a,c,h1,h2,h3,h4,sz,gS.mono h h5⟩
 | _,.slx els,v,r=>by
  simp only[Rel] at r ⊢;obtain⟨a,h1,h2,sz,h5⟩:=r;exact⟨a,h1,h2,sz,gS.mono h h5⟩
 | _,.nils,v,r=>r
 | L,.rw k,v,r=>by simp only[Rel] at r ⊢;exact r
 | L,.own k off,v,r=>by simp only[Rel] at r ⊢;exact r
 | L,.ifo m ti k off,v,r=>by simp only[Rel] at r ⊢;exact r
 | _,.pt es off,v,r=>by
  simp only[Rel] at r ⊢;obtain⟨b,o,vs,h1,h2,h3,h4⟩:=r;exact⟨b,o,vs,h1,h2.mono h,h3,aG.mono h h4⟩
 | L,.fn f fi ca,v,r=>by
  simp only[Rel] at r ⊢;obtain⟨fi',ca',h1,h2,h3⟩:=r;exact⟨fi',ca',h1,aG.mono h h2,aG.mono h h3⟩
 | L,.agg cs,v,r=>by
  simp only[Rel] at r ⊢;obtain⟨vs,h1,h2⟩:=r;exact⟨vs,h1,aG.mono h h2⟩
 | L,.tup cs,v,r=>by
  simp only[Rel] at r ⊢;obtain⟨vs,h1,h2⟩:=r;exact⟨vs,h1,aG.mono h h2⟩
 | _,.nilp,v,r=>r
 | _,.nilf,v,r=>r
 | _,.ifc t c,v,r=>by
  simp only[Rel] at r ⊢;obtain⟨u,h1,h2⟩:=r;exact⟨u,h1,Rel.mono h h2⟩
 | _,.opq k,v,r=>by
  simp only[Rel] at r ⊢;exact r.mono h
 | _,.mval nm c,v,r=>by
  simp only[Rel] at r ⊢;obtain⟨u,h1,h2⟩:=r;exact⟨u,h1,Rel.mono h h2⟩
 | _,.mof t nm,v,r=>r
 | L,.mpr k,v,r=>by simp only[Rel] at r ⊢;exact r
 | _,.und,v,r=>r
 | _,.any,v,r=>trivial
 | _,.ownv _ _,v,r=>r
 | L,.elr _ _ _,v,r=>by simp only[Rel] at r ⊢;exact r
 | L,.slo _ _,v,r=>by
  simp only[Rel] at r ⊢;obtain⟨g,t,cs,ad,h1,h2,h3,h4⟩:=r;exact⟨g,t,cs,ad,h1,h2,h3,h4.mono h⟩
 | _,.slp _ _ _,v,r=>r
theorem aG.mono {F F':aF}(h:F.le F'):∀{L:Loc}{cs:List C}{vs:List Value},aG F L cs vs->aG F' L cs vs
 | _,[],vs,r=>by simp only[aG] at r ⊢;exact r
 | L,c::cs,vs,r=>by
  simp only[aG] at r ⊢;obtain⟨v,vs',h1,h2,h3⟩:=r;exact⟨v,vs',h1,Rel.mono h h2,aG.mono h h3⟩
theorem gS.mono {F F':aF}(h:F.le F') {a:Option Addr}{sz:Nat}:∀{i:Nat}{l:List (List C)},gS F a sz i l->gS F' a sz i l
 | _,[],r=>by simp only[gS]
 | i,es::l,r=>by
  simp only[gS] at r ⊢;obtain⟨⟨vs,h1,h2,h3,h4⟩,h5⟩:=r;exact⟨⟨vs,h1,h2.mono h,h3,aG.mono h h4⟩,gS.mono h h5⟩
end
theorem aP.mono {F F':aF}(h:F.le F') {sz:Nat}:∀{l:List (List C)}{xs:List Value},aP F sz l xs->aP F' sz l xs
 | [],xs,r=>r
 | es::l,xs,r=>by
  simp only[aP] at r ⊢;obtain⟨vs,a,f,c,b,e,d⟩:=r;exact⟨vs,a,f,c,b,e.mono h,aP.mono h d⟩
theorem jO.mono {F F':aF}(h:F.le F'):∀{l:List (C×C)}{vs:List Value},jO F l vs->jO F' l vs
 | [],vs,r=>r
 | (k,c)::l,vs,r=>by
  simp only[jO] at r ⊢;obtain⟨kv,v,a,f,d,b,e⟩:=r;exact⟨kv,v,a,f,d.mono h,b.mono h,jO.mono h e⟩
theorem dG.mono {F F':aF}(h:F.le F') {L:Loc}:∀{o:TO}{p:Own},dG F L o p->dG F' L o p
 | .box t cs,.box g a vs,r=>⟨r.1,r.2.mono h⟩
 | .row t sz els,.row v a d n xs,r=>⟨r.1,r.2.1,r.2.2.1,r.2.2.2.1,r.2.2.2.2.mono h⟩
 | .box _ _,.row ..,r=>r.elim
 | .row ..,.box ..,r=>r.elim
 | .map _,.row ..,r=>r.elim
 | .map es,.box g a vs,r=>⟨r.1,r.2.mono h⟩
 | .win ..,.row ..,r=>r.elim
 | .win ..,.box ..,⟨j,v1,f,v3,e,c,b,k⟩=>⟨j,v1,f,v3,e,c.mono h,b.mono h,k.mono h⟩
theorem dH.mono {F F':aF}(h:F.le F') {L:Loc}{M:TL}(r:dH F L M):dH F' L M:=by
 intro k;have:=r k
 revert this
 cases M.get k<;>cases L.get k<;>simp only[JV]<;>first | exact fun h=>h | exact fun r=>r.mono h
theorem aT.mono {F F':aF}(h:F.le F') {L:Loc}{c:C}{sv:SV}(r:aT F L c sv):aT F' L c sv:=by
 cases c<;>simp only[aT] at r ⊢
 case own=>exact r
 case pt =>
  obtain⟨b,o,j,vs,d,a,e,k⟩:=r;exact⟨b,o,j,vs,d,a.mono h,e,k.mono h⟩
 case elr=>exact r
 case slp =>
  obtain⟨g,t,cs,f,d,a,e⟩:=r;exact⟨g,t,cs,f,d,a,e.mono h⟩
 all_goals
  obtain⟨v,d,a⟩:=r;exact⟨v,d,a.mono h⟩
theorem kH {F:aF}{L:Loc}:∀{cs:List C}{vs:List Value},aG F L cs vs↔vs.length=cs.length/\∀(i:Nat) c v,cs[i]?=some c->vs[i]?=some v->Rel F L c v
 | [],vs=>by
  simp only[aG];constructor
  ·rintro rfl;simp
  ·rintro⟨h,_⟩;exact List.length_eq_zero_iff.1 (by simpa using h)
 | c::cs,vs=>by
  simp only[aG,kH (cs:=cs)];constructor
  ·rintro⟨v,d,rfl,b,f,l⟩;refine⟨by simp[f],fun i k j a e=>?_⟩;cases i with
   | zero=>simp only[aa2,w7] at a e;subst a e;exact b
   | succ i=>exact l i k j (by simpa using a) (by simpa using e)
  ·rintro⟨b,f⟩
   match vs,b with
   | v::d,b=>exact⟨v,d,rfl,f 0 c v (by simp) (by simp),by simpa using b,fun i k j a e=>f (i+1) k j (by simpa using a) (by simpa using e)⟩
theorem aG.len {F:aF}{L:Loc}{cs:List C}{vs:List Value}(h:aG F L cs vs):vs.length=cs.length:=(kH.1 h).1
theorem aG.at {F:aF}{L:Loc}{cs:List C}{vs:List Value}(h:aG F L cs vs) {i:Nat}{c:C}{v:Value}(a:cs[i]?=some c) (b:vs[i]?=some v):Rel F L c v:=(kH.1 h).2 i c v a b
theorem aG.append {F:aF}{L:Loc}{cs ds:List C}{vs us:List Value}(h:aG F L cs vs) (k:aG F L ds us):aG F L (cs++ds) (vs++us):=by
 induction cs generalizing vs with
 | nil=>simp only[aG] at h;subst h;exact k
 | cons c cs d =>
  simp only[aG] at h;obtain⟨v,a,rfl,e,b⟩:=h;simp only[aaV,aG];exact⟨v,_,rfl,e,d b⟩
theorem aG.drop {F:aF}{L:Loc}{cs:List C}{vs:List Value}(h:aG F L cs vs) (n:Nat):aG F L (cs.drop n) (vs.drop n):=by
 rw[kH] at h ⊢;refine⟨by simp[h.1],fun i c v b a=>?_⟩;rw[abm] at b a;exact h.2 _ _ _ b a
theorem aG.take {F:aF}{L:Loc}{cs:List C}{vs:List Value}(h:aG F L cs vs) (n:Nat):aG F L (cs.take n) (vs.take n):=by
 rw[kH] at h ⊢;refine⟨by simp[h.1],fun i c v a b=>?_⟩;rw[abo] at a b;split at a
 ·rw[o6 (by assumption)] at b;exact h.2 _ _ _ a b
 ·cases a
theorem nI {F:aF}{a:Option Addr}{sz:Nat}:∀{l:List (List C)}{i:Nat},gS F a sz i l↔∀(j:Nat) es,l[j]?=some es->∃vs,vs.length=sz/\cg F a ((i+j)*sz) vs/\dZ es=true/\aG F [] es vs
 | [],i=>by simp[gS]
 | x::l,i=>by
  simp only[gS,nI (l:=l)];constructor
  ·rintro⟨d,c⟩ j y b;cases j with
   | zero=>simp only[aa2,w7] at b;subst b;simpa using d
   | succ j =>
    simp only[aby] at b;have:=c j y b
    rwa [show i+1+j=i+(j+1) by omega] at this
  ·intro h;refine⟨by simpa using h 0 x (by simp),fun j y b=>?_⟩;have:=h (j+1) y (by simpa using b)
   rwa [show i+(j+1)=i+1+j by omega] at this
theorem jb {F:aF}{sz:Nat}:∀{l:List (List C)}{xs:List Value},aP F sz l xs->xs.length=l.length*sz
 | [],xs,h=>by simp only[aP] at h;subst h;simp
 | es::l,xs,h=>by
  simp only[aP] at h;obtain⟨vs,a,rfl,b,_,_,c⟩:=h;simp only[aaR,jb c,b,aaW,Nat.add_mul];omega
theorem aP.append {F:aF}{sz:Nat}:∀{l m:List (List C)}{xs ys:List Value},aP F sz l xs->aP F sz m ys->aP F sz (l++m) (xs++ys)
 | [],m,xs,ys,h,k=>by simp only[aP] at h;subst h;exact k
 | es::l,m,xs,ys,h,k=>by
  simp only[aP] at h;obtain⟨vs,a,rfl,c,b,e,d⟩:=h;simp only[aaV,aP];exact⟨vs,a++ys,by simp,c,b,e,aP.append d k⟩
theorem aP.at {F:aF}{sz:Nat}:∀{l:List (List C)}{xs:List Value},aP F sz l xs->∀{j:Nat}{es:List C},l[j]?=some es->∃vs,vs.length=sz/\dZ es=true/\aG F [] es vs/\∀(i:Nat) v,vs[i]?=some v->xs[j*sz+i]?=some v
 | [],xs,h,j,es,e=>by simp at e
 | x::l,xs,h,j,es,e=>by
  simp only[aP] at h;obtain⟨vs,c,rfl,b,n,p,o⟩:=h;cases j with
  | zero =>
   simp only[aa2,w7] at e;subst e;refine⟨vs,b,n,p,fun i v a=>?_⟩;have:i<vs.length:=(xD.1 a).1;rw[Nat.zero_mul,Nat.zero_add,aaY this];exact a
  | succ j =>
   obtain⟨us,m,k,f,d⟩:=aP.at o (by simpa using e);refine⟨us,m,k,f,fun i v a=>?_⟩;rw[aa4 (by rw[b,Nat.add_mul];omega),show(j+1)*sz+i-vs.length=j*sz+i by rw[b,Nat.add_mul];omega];exact d i v a
theorem aP.frz {F:aF}{sz:Nat}{l:List (List C)}{xs:List Value}(h:aP F sz l xs) {a:Addr}(n:cg F (some a) 0 xs):gS F (some a) sz 0 l:=by
 rw[nI];intro j es o;obtain⟨vs,m,f,p,r⟩:=h.at o;refine⟨vs,m,?_,f,p⟩;obtain⟨d,b,t,q,e,hb,c,k⟩:=n;refine⟨d,b,t,q,e,hb,c,fun i v s=>?_⟩;have:=k (j*sz+i) v (r i v s);simpa[Nat.add_assoc] using this
theorem jo:∀{l:List C},dZ l=true↔∀c∈l,c.one=true
 | []=>by simp[dZ]
 | c::l=>by
  simp only[dZ];cases h:c.one
  ·simp[h]
  ·simp[h,jo]
theorem qe:∀{l:List C},eH l=true↔∀c∈l,c.pure=true
 | []=>by simp[eH]
 | c::l=>by
  simp only[eH];cases h:c.pure
  ·simp[h]
  ·simp[h,qe]
theorem rp:∀{l:List C},jN l=true↔∀c∈l,c.aak=true
 | []=>by simp[jN]
 | c::l=>by
  simp only[jN];cases h:c.aak
  ·simp[h]
  ·simp[h,rp]
theorem Rel.one {F:aF}{L:Loc}{c:C}{v:Value}(h:Rel F L c v) (d:c.one=true):v.oneCell'=true:=by
 cases c<;>simp only[C.one,aaZ] at d<;>simp only[Rel] at h
 case int=>obtain⟨rfl,_⟩:=h;rfl
 case bool=>subst h;rfl
 case str=>obtain⟨rfl,_⟩:=h;rfl
 case sl=>obtain⟨a,c,rfl,_⟩:=h;rfl
 case slx=>obtain⟨a,rfl,_⟩:=h;rfl
 case nils=>subst h;rfl
 case own=>obtain⟨g,t,cs,_,rfl⟩:=h;rfl
 case ifo m _ _ _=>obtain⟨g,t,cs,_,rfl⟩:=h;cases m<;>rfl
 case pt=>obtain⟨b,o,vs,rfl,_⟩:=h;rfl
 case fn=>obtain⟨a,b,rfl,_⟩:=h;rfl
 case nilp=>subst h;rfl
 case nilf=>subst h;rfl
 case ifc=>obtain⟨u,rfl,_⟩:=h;rfl
 case opq=>exact h.one
 case mval=>obtain⟨u,rfl,_⟩:=h;rfl
 case mof=>subst h;rfl
 case mpr=>obtain⟨g,cs,_,rfl⟩:=h;rfl
 case rw=>obtain⟨a,c,t,sz,n,xs,rfl,_⟩:=h;rfl
mutual
theorem Rel.wf {F:aF}:∀{L:Loc}{c:C}{v:Value},Rel F L c v->Wf c
 | _,.int k n,v,r=>by simp only[Rel] at r;simp only[Wf];exact r.2
 | _,.bool b,v,r=>by simp only[Wf]
 | _,.str s,v,r=>by simp only[Rel] at r;simp only[Wf];exact r.2
 | _,.sl els,v,r=>by
  simp only[Rel] at r;obtain⟨a,c,h1,h2,h3,h4,sz,h5⟩:=r;simp only[Wf];exact⟨h3,gS.wf h5⟩
 | _,.slx els,v,r=>by
  simp only[Rel] at r;obtain⟨a,h1,h2,sz,h5⟩:=r;simp only[Wf];exact⟨h2,gS.wf h5⟩
 | _,.nils,v,r=>by simp only[Wf]
 | L,.rw k,v,r=>by simp only[Wf]
 | L,.own k off,v,r=>by simp only[Wf]
 | L,.ifo _ _ _ _,v,r=>by simp only[Wf]
 | _,.pt es off,v,r=>by
  simp only[Rel] at r;obtain⟨b,o,vs,h1,h2,h3,h4⟩:=r;simp only[Wf];exact aG.wf h4
 | L,.fn f fi ca,v,r=>by
  simp only[Rel] at r;obtain⟨fi',ca',h1,h2,h3⟩:=r;simp only[Wf];exact⟨aG.wf h2,aG.wf h3⟩
 | L,.agg cs,v,r=>by
  simp only[Rel] at r;obtain⟨vs,h1,h2⟩:=r;simp only[Wf];exact aG.wf h2
 | L,.tup cs,v,r=>by
  simp only[Rel] at r;obtain⟨vs,h1,h2⟩:=r;simp only[Wf];exact aG.wf h2
 | _,.nilp,v,r=>by simp only[Wf]
 | _,.nilf,v,r=>by simp only[Wf]
 | _,.ifc _ _,v,r=>by simp only[Wf]
 | _,.opq _,v,r=>by simp only[Wf]
 | _,.mval _ _,v,r=>by simp only[Wf]
 | _,.mof _ _,v,r=>by simp only[Wf]
 | _,.mpr _,v,r=>by simp only[Wf]
 | _,.und,v,r=>by simp only[Wf]
 | _,.any,v,r=>by simp only[Wf]
 | _,.ownv _ _,v,r=>by simp only[Wf]
 | _,.elr _ _ _,v,r=>by simp only[Wf]
 | _,.slo _ _,v,r=>by
  simp only[Rel] at r;obtain⟨g,t,cs,ad,h1,h2,h3,h4⟩:=r;simp only[Wf];exact h3
 | _,.slp _ _ _,v,r=>by simp only[Wf]
theorem aG.wf {F:aF}:∀{L:Loc}{cs:List C}{vs:List Value},aG F L cs vs->sU cs
 | _,[],vs,r=>by simp only[sU]
 | L,c::cs,vs,r=>by
  simp only[aG] at r;obtain⟨v,vs',h1,h2,h3⟩:=r;simp only[sU];exact⟨Rel.wf h2,aG.wf h3⟩
theorem gS.wf {F:aF}{a:Option Addr}{sz:Nat}:∀{i:Nat}{l:List (List C)},gS F a sz i l->uF l
 | _,[],r=>by simp only[uF]
 | i,es::l,r=>by
  simp only[gS] at r;obtain⟨⟨vs,h1,h2,h3,h4⟩,h5⟩:=r;simp only[uF];exact⟨aG.wf h4,gS.wf h5⟩
end
theorem aP.wf {F:aF}{sz:Nat}:∀{l:List (List C)}{xs:List Value},aP F sz l xs->uF l
 | [],xs,r=>by simp only[uF]
 | es::l,xs,r=>by
  simp only[aP] at r;obtain⟨vs,a,f,e,d,c,b⟩:=r;simp only[uF];exact⟨c.wf,b.wf⟩
theorem jO.wf {F:aF}:∀{l:List (C×C)}{vs:List Value},jO F l vs->VG l
 | [],vs,r=>trivial
 | (k,c)::l,vs,r=>by
  simp only[jO] at r;obtain⟨kv,v,a,f,d,b,e⟩:=r;exact⟨d.wf,b.wf,jO.wf e⟩
theorem dG.wf {F:aF}{L:Loc}:∀{o:TO}{p:Own},dG F L o p->o.Wf
 | .box t cs,.box g a vs,r=>r.2.wf
 | .row t sz els,.row v a c n xs,r=>r.2.2.2.2.wf
 | .box _ _,.row ..,r=>r.elim
 | .row ..,.box ..,r=>r.elim
 | .map _,.row ..,r=>r.elim
 | .map es,.box g a vs,r=>r.2.wf
 | .win ..,.row ..,r=>r.elim
 | .win ..,.box ..,⟨h,v1,f,v3,e,d,b,j⟩=>b.wf
def C.leaf:C->Bool
 | .fn _ _ _=>false
 | .agg _=>false
 | .tup _=>false
 | _=>true
theorem xg {g:C->C}{n:Nat}{c:C}(h:c.leaf=true):C.mp g n c=g c:=by
 cases c<;>first | (cases n<;>rfl;done) | cases h
theorem aG.map {F F':aF}{L L':Loc}{g:C->C}:∀{cs:List C}{vs:List Value},(∀c∈cs,∀v,Rel F L c v->Rel F' L' (g c) v)->aG F L cs vs->aG F' L' (cs.map g) vs
 | [],vs,b,h=>by simp only[aG] at h;subst h;simp only[abL,aG]
 | c::cs,vs,b,h=>by
  simp only[aG] at h;obtain⟨v,a,rfl,f,d⟩:=h;simp only[aaU,aG];exact⟨v,a,rfl,b c (by simp) v f,aG.map (fun c e=>b c (by simp[e])) d⟩
theorem Rel.mp {F F':aF}{L L':Loc}{g:C->C}(b:∀c v,c.leaf=true->Rel F L c v->Rel F' L' (g c) v):∀(n:Nat) {c:C}{v:Value},Rel F L c v->Rel F' L' (C.mp g n c) v
 | 0,c,v,h=>by
  cases a:c.leaf
  ·cases c<;>simp only[C.leaf,Bool.true_eq_false] at a<;>simp only[C.mp,Rel]
  ·rw[xg a];exact b c v a h
 | n+1,c,v,h=>by
  cases a:c.leaf
  ·cases c<;>simp only[C.leaf,Bool.true_eq_false] at a<;>simp only[Rel] at h<;>simp only[C.mp,Rel]
   ·obtain⟨j,f,e,d,k⟩:=h;exact⟨j,f,e,d.map fun c _ v=>Rel.mp b n,k.map fun c _ v=>Rel.mp b n⟩
   ·obtain⟨vs,e,d⟩:=h;exact⟨vs,e,d.map fun c _ v=>Rel.mp b n⟩
   ·obtain⟨vs,e,d⟩:=h;exact⟨vs,e,d.map fun c _ v=>Rel.mp b n⟩
  ·rw[xg a];exact b c v a h
theorem aT.mp {F F':aF}{L L':Loc}{g:C->C}(j:∀c v,c.leaf=true->Rel F L c v->Rel F' L' (g c) v) (d:∀c sv,c.leaf=true->aT F L c sv->aT F' L' (g c) sv) (n:Nat) {c:C}{sv:SV}
  (h:aT F L c sv):aT F' L' (C.mp g n c) sv:=by
 cases a:c.leaf
 ·have e:∃v,sv=.v v/\Rel F L c v:=by cases c<;>simp only[C.leaf,Bool.true_eq_false] at a<;>exact h
  obtain⟨v,rfl,f⟩:=e;have b:=Rel.mp j n f;cases n with
  | zero=>cases c<;>simp only[C.leaf,Bool.true_eq_false] at a<;>simp only[C.mp,aT]
  | succ n=>cases c<;>simp only[C.leaf,Bool.true_eq_false] at a<;>exact⟨v,rfl,b⟩
 ·rw[xg a];exact d c sv a h
def Ext (L L':Loc):Prop:=∀k o,L.get k=some o->∃o',L'.get k=some o'/\Own.like o o'
theorem Ext.refl (L:Loc):Ext L L:=fun k o h=>⟨o,h,Own.aah o⟩
theorem r9 {F F':aF}{L L':Loc}(l:F.le F') {k:Nat}{a:List Nat}{v:Value}(f:∀o,L.get k=some o->∃o',L'.get k=some o'/\Own.like o o') (h:Rel F L (.slo k a) v):Rel F' L' (.slo k a) v:=by
 simp only[Rel] at h ⊢;obtain⟨g,t,cs,c,e,d,m,n⟩:=h;obtain⟨o',j,b⟩:=f _ e;cases o' with
 | row=>exact b.elim
 | box q p cs'=>obtain⟨rfl,rfl⟩:=b;exact⟨_,_,_,c,j,d,m,n.mono l⟩
theorem uG {F F':aF}{L L':Loc}(c:F.le F') {k:Nat}{a:List Nat}{sv:SV}(b:∀o,L.get k=some o->∃o',L'.get k=some o'/\Own.like o o') (h:aT F L (.slo k a) sv):aT F' L' (.slo k a) sv:=by
 simp only[aT] at h ⊢;obtain⟨v,e,d⟩:=h;exact⟨v,e,r9 c b d⟩
theorem JW {F F':aF}{L L':Loc}(m:F.le F') {k j:Nat}{a:List Nat}{sv:SV}(f:∀o,L.get k=some o->∃o',L'.get k=some o'/\Own.like o o') (h:aT F L (.slp k a j) sv):aT F' L' (.slp k a j) sv:=by
 simp only[aT] at h ⊢;obtain⟨g,t,cs,c,e,d,n⟩:=h;obtain⟨o',l,b⟩:=f _ e;cases o' with
 | row=>exact b.elim
 | box q p cs'=>obtain⟨rfl,rfl⟩:=b;exact⟨_,_,_,c,l,d,n.mono m⟩
theorem bI {F F':aF}{L L':Loc}(l:F.le F') {c:C}{v:Value}(p:∀k,(∃off,c=.own k off)\/c=.rw k\/c=.mpr k\/(∃m t off,c=.ifo m t k off)\/(∃j off,c=.elr k j off)->∀o,L.get k=some o->∃o',L'.get k=some o'/\Own.like o o') (hc:c.leaf=true) (h:Rel F L c v) (hs:∀k q,c≠.slo k q:=by exact fun _ _ e=>by cases e):Rel F' L' c v:=by
 cases c<;>simp only[C.leaf,aaZ] at hc
 case slo=>exact p7 rfl (hs _ _)
 case slp=>exact h.elim
 case rw k =>
  simp only[Rel] at h ⊢;obtain⟨a,c,t,sz,n,xs,rfl,h⟩:=h;obtain⟨o',f,d⟩:=p k (.inr (.inl rfl)) _ h;cases o' with
  | box=>exact d.elim
  | row v' r w n' s=>obtain⟨rfl,rfl,rfl⟩:=d;exact⟨_,_,_,_,_,_,rfl,f⟩
 case mpr k =>
  simp only[Rel] at h ⊢;obtain⟨g,cs,h,rfl⟩:=h;obtain⟨o',f,d⟩:=p k (.inr (.inr (.inl rfl))) _ h;cases o' with
  | row=>exact d.elim
  | box g' r cs'=>obtain⟨rfl,rfl⟩:=d;exact⟨_,_,f,rfl⟩
 case own k off =>
  simp only[Rel] at h ⊢;obtain⟨g,t,cs,h,rfl⟩:=h;obtain⟨o',f,d⟩:=p k (.inl ⟨off,rfl⟩) _ h;cases o' with
  | row=>exact d.elim
  | box g' r cs'=>obtain⟨rfl,rfl⟩:=d;exact⟨_,_,_,f,rfl⟩
 case ifo m ti k off =>
  simp only[Rel] at h ⊢;obtain⟨g,t,cs,h,rfl⟩:=h;obtain⟨o',f,d⟩:=p k (.inr (.inr (.inr (.inl ⟨m,ti,off,rfl⟩)))) _ h;cases o' with
  | row=>exact d.elim
  | box g' r cs'=>obtain⟨rfl,rfl⟩:=d;exact⟨_,_,_,f,rfl⟩
 case elr k j off =>
  simp only[Rel] at h ⊢;obtain⟨ad,t,sz,n,c,xs,rfl,h⟩:=h;obtain⟨o',f,d⟩:=p k (.inr (.inr (.inr (.inr ⟨j,off,rfl⟩)))) _ h;cases o' with
  | box=>exact d.elim
  | row v' r w n' s=>obtain⟨rfl,rfl,rfl⟩:=d;exact⟨_,_,_,_,_,_,rfl,f⟩
 case sl =>
  simp only[Rel] at h ⊢;obtain⟨a,c,f,d,x,z,sz,y⟩:=h;exact⟨a,c,f,d,x,z,sz,y.mono l⟩
 case slx =>
  simp only[Rel] at h ⊢;obtain⟨a,f,d,sz,y⟩:=h;exact⟨a,f,d,sz,y.mono l⟩
 case pt =>
  simp only[Rel] at h ⊢;obtain⟨b,o,vs,f,d,x,z⟩:=h;exact⟨b,o,vs,f,d.mono l,x,z.mono l⟩
 case ifc =>
  simp only[Rel] at h ⊢;obtain⟨u,f,d⟩:=h;exact⟨u,f,d.mono l⟩
 case opq =>
  simp only[Rel] at h ⊢;exact h.mono l
 case mval =>
  simp only[Rel] at h ⊢;obtain⟨u,f,d⟩:=h;exact⟨u,f,d.mono l⟩
 all_goals
  first
   | exact h
   | (simp only[Rel] at h ⊢;done)
mutual
theorem Rel.ext {F F':aF}(hF:F.le F') {L L':Loc}(hk:Ext L L'):∀{c:C}{v:Value},Rel F L c v->Rel F' L' c v
 | .fn f fi ca,v,r=>by
  simp only[Rel] at r ⊢;obtain⟨fi',ca',h1,h2,h3⟩:=r;exact⟨fi',ca',h1,aG.ext hF hk h2,aG.ext hF hk h3⟩
 | .agg cs,v,r=>by
  simp only[Rel] at r ⊢;obtain⟨vs,h1,h2⟩:=r;exact⟨vs,h1,aG.ext hF hk h2⟩
 | .tup cs,v,r=>by
  simp only[Rel] at r ⊢;obtain⟨vs,h1,h2⟩:=r;exact⟨vs,h1,aG.ext hF hk h2⟩
 | .int _ _,v,r=>bI hF (fun k _=>hk k) rfl r
 | .bool _,v,r=>bI hF (fun k _=>hk k) rfl r
 | .str _,v,r=>bI hF (fun k _=>hk k) rfl r
 | .sl _,v,r=>bI hF (fun k _=>hk k) rfl r
 | .slx _,v,r=>bI hF (fun k _=>hk k) rfl r
 | .nils,v,r=>bI hF (fun k _=>hk k) rfl r
 | .rw _,v,r=>bI hF (fun k _=>hk k) rfl r
 | .own _ _,v,r=>bI hF (fun k _=>hk k) rfl r
 | .ifo _ _ _ _,v,r=>bI hF (fun k _=>hk k) rfl r
 | .pt _ _,v,r=>bI hF (fun k _=>hk k) rfl r
 | .nilp,v,r=>bI hF (fun k _=>hk k) rfl r
 | .nilf,v,r=>bI hF (fun k _=>hk k) rfl r
 | .ifc _ _,v,r=>bI hF (fun k _=>hk k) rfl r
 | .opq _,v,r=>bI hF (fun k _=>hk k) rfl r
 | .mval _ _,v,r=>bI hF (fun k _=>hk k) rfl r
 | .mof _ _,v,r=>bI hF (fun k _=>hk k) rfl r
 | .mpr _,v,r=>bI hF (fun k _=>hk k) rfl r
 | .und,v,r=>bI hF (fun k _=>hk k) rfl r
 | .any,v,r=>by simp only[Rel]
 | .ownv _ _,v,r=>r.elim
 | .elr _ _ _,v,r=>bI hF (fun k _=>hk k) rfl r
 | .slo k _,v,r=>r9 hF (hk k) r
 | .slp _ _ _,v,r=>r.elim
theorem aG.ext {F F':aF}(hF:F.le F') {L L':Loc}(hk:Ext L L'):∀{cs:List C}{vs:List Value},aG F L cs vs->aG F' L' cs vs
 | [],vs,r=>by simp only[aG] at r ⊢;exact r
 | c::cs,vs,r=>by
  simp only[aG] at r ⊢;obtain⟨v,vs',h1,h2,h3⟩:=r;exact⟨v,vs',h1,Rel.ext hF hk h2,aG.ext hF hk h3⟩
end
theorem Ext.nil (L:Loc):Ext [] L:=fun k o h=>by cases h
theorem aG.lift {F:aF}{L:Loc}{cs:List C}{vs:List Value}(h:aG F [] cs vs):aG F L cs vs:=h.ext (aF.le_refl F) (Ext.nil L)
theorem Rel.lift {F:aF}{L:Loc}{c:C}{v:Value}(h:Rel F [] c v):Rel F L c v:=h.ext (aF.le_refl F) (Ext.nil L)
theorem dA {F F':aF}{L L':Loc}(r:F.le F') {c:C}{sv:SV}(q:∀k,(∃off,c=.own k off)\/(∃off,c=.ownv k off)\/c=.rw k\/(∃j off,c=.elr k j off)\/c=.mpr k\/(∃m t off,c=.ifo m t k off)->∀o,L.get k=some o->∃o',L'.get k=some o'/\Own.like o o') (y:c.leaf=true) (h:aT F L c sv) (u:(∀k a,c≠.slo k a)/\(∀k a j,c≠.slp k a j):=by exact⟨fun _ _ e=>(by cases e),fun _ _ _ e=>(by cases e)⟩):aT F' L' c sv:=by
 cases c<;>simp only[C.leaf,aaZ] at y
 case slo=>exact p7 rfl (u.1 _ _)
 case slp=>exact p7 rfl (u.2 _ _ _)
 case own k off =>
  simp only[aT] at h ⊢;obtain⟨rfl,g,t,cs,h⟩:=h;obtain⟨o',l,f⟩:=q k (.inl ⟨off,rfl⟩) _ h;cases o' with
  | row=>exact f.elim
  | box g' x cs'=>exact⟨rfl,_,_,_,l⟩
 case ownv k off =>
  simp only[aT] at h ⊢;obtain⟨v,hv,h⟩:=h;refine⟨v,hv,bI r (fun s d=>q s ?_) rfl h⟩;rcases d with⟨p,e⟩ | e | e | ⟨_,_,_,e⟩ | ⟨_,_,e⟩
  ·injection e with e1 e2;subst e1;exact .inr (.inl ⟨off,rfl⟩)
  ·cases e
  ·cases e
  ·cases e
  ·cases e
 case pt =>
  simp only[aT] at h ⊢;obtain⟨b,o,j,vs,l,f,h3,h4⟩:=h;exact⟨b,o,j,vs,l,f.mono r,h3,h4.mono r⟩
 case elr k j off =>
  simp only[aT] at h ⊢;obtain⟨ad,t,sz,n,c,xs,rfl,h⟩:=h;obtain⟨o',l,f⟩:=q k (.inr (.inr (.inr (.inl ⟨_,_,rfl⟩)))) _ h;cases o' with
  | box=>exact f.elim
  | row v' x z n' w =>
   obtain⟨rfl,rfl,rfl⟩:=f;exact⟨_,_,_,_,_,_,rfl,l⟩
 all_goals first | (simp only[aT];done) | skip
 all_goals
  simp only[aT] at h ⊢;obtain⟨v,rfl,h⟩:=h;refine⟨v,rfl,bI r (fun s d=>q s ?_) rfl h⟩;rcases d with⟨p,e⟩ | e | e | ⟨_,_,_,e⟩ | ⟨_,_,e⟩
  ·cases e
  ·first | cases e;exact .inr (.inr (.inl rfl)) | cases e
  ·first | cases e;exact .inr (.inr (.inr (.inr (.inl rfl)))) | cases e
  ·first | cases e;exact .inr (.inr (.inr (.inr (.inr ⟨_,_,_,rfl⟩)))) | cases e
  ·cases e
theorem aT.ext {F F':aF}{L L':Loc}(l:F.le F') (f:Ext L L') {c:C}{sv:SV}(h:aT F L c sv):aT F' L' c sv:=by
 cases m:c.leaf
 ·have n:∃v,sv=.v v/\Rel F L c v:=by cases c<;>simp only[C.leaf,Bool.true_eq_false] at m<;>exact h
  obtain⟨v,rfl,d⟩:=n;have b:=d.ext l f;cases c<;>simp only[C.leaf,Bool.true_eq_false] at m<;>exact⟨v,rfl,b⟩
 ·by_cases d:∃k a,c=.slo k a
  ·obtain⟨k,a,rfl⟩:=d;exact uG l (f k) h
  ·by_cases b:∃k a j,c=.slp k a j
   ·obtain⟨k,a,j,rfl⟩:=b;exact JW l (f k) h
   ·exact dA l (fun k _=>f k) m h ⟨fun k a e=>d ⟨k,a,e⟩,fun k a j e=>b ⟨k,a,j,e⟩⟩
theorem dG.ext {F F':aF}{L L':Loc}(a:F.le F') (c:Ext L L'):∀{o:TO}{p:Own},dG F L o p->dG F' L' o p
 | .box t cs,.box g b vs,r=>⟨r.1,r.2.ext a c⟩
 | .row t sz els,.row v b h n xs,r=>⟨r.1,r.2.1,r.2.2.1,r.2.2.2.1,r.2.2.2.2.mono a⟩
 | .box _ _,.row ..,r=>r.elim
 | .row ..,.box ..,r=>r.elim
 | .map _,.row ..,r=>r.elim
 | .map es,.box g b vs,r=>⟨r.1,r.2.mono a⟩
 | .win ..,.row ..,r=>r.elim
 | .win ..,.box ..,⟨k,v1,j,v3,e,f,d,l⟩=>⟨k,v1,j,v3,e,f.mono a,d.ext a c,l.mono a⟩
end Go.Fr.T
