/- Part of the proofs of the statements of this seat. -/
import Derived.Test.YtnlegbokpofcaaaDoorFW0
import Derived.Scope
set_option maxRecDepth 10000
set_option linter.unusedVariables false
set_option linter.unusedSimpArgs false
namespace Go.Fr
open Go Go.RowKit
def bD:dS->List X
 | .mov x | .nilck x | .mkmv _ x | .conv _ x | .un _ x | .eqN _ x | .fieldA _ x | .fieldV _ _ _ x | .extr x _ | .len x | .lenS x | .capa x | .loadD _ _ x | .boxD _ x | .b2sD x | .b2sR x | .loadK _ _ _ x | .loadF _ _ x | .loadR _ _ x | .mlen x | .makeSV _ _ _ _ x=>[x]
 | .mlook _ _ _ x i=>[x,i]
 | .pick c a b=>[c,a,b]
 | .bin _ x y | .eqB _ x y | .eqP _ x y | .eqS _ x y | .eqF _ x y | .eqA _ _ x y | .idxA _ x y | .idxS x y=>[x,y]
 | .build _ ps=>ps.map (·.2.2)
 | .mkfn _ a b=>a++b
 | .slc _ x lo hi | .slcS x lo hi=>x::(lo.toList++hi.toList)
 | .mm _ l | .mkFD _ _ _ l=>l
 | .callD _ l=>l
 | .callVD f l=>f::l
 | .allocD _ _=>[]
 | .appD _ _ _ _ s x=>[s,x]
 | .storeD _ a x=>[a,x]
 | .storeK _ _ a x=>[a,x]
 | _=>[]
def cS:dS->Bool
 | .mov _ | .nilck _ | .mkmv _ _ | .conv _ _ | .un _ _ | .fieldA _ _ | .fieldV _ _ _ _ | .extr _ _ | .len _ | .lenS _ | .capa _ | .loadD _ _ _ | .pick _ _ _
 | .bin _ _ _ | .eqB _ _ _ | .eqP _ _ _ | .eqS _ _ _ | .eqF _ _ _ | .eqN _ _ | .eqA _ _ _ _ | .idxA _ _ _ | .idxS _ _ | .build _ _ | .mkfn _ _ _ | .slc _ _ _ _ | .slcS _ _ _ | .mm _ _ | .b2sD _ | .b2sR _ | .loadK _ _ _ _ | .loadF _ _ _ | .gload _ | .loadR _ _ _ | .mlook _ _ _ _ _ | .mlen _=>true
 | _=>false
def Gl:dS->Bool
 | .b2sR _ | .loadR _ _ _ | .mlook _ _ _ _ _ | .mlen _=>true
 | _=>false
def gH:dS->Bool
 | .callD _ _ | .callVD _ _=>true
 | _=>false
def ef:dS->Bool
 | .mkFD _ _ _ _ | .boxD _ _ | .allocD _ _ | .makeSD _ _ _ _ | .makeSV _ _ _ _ _=>true
 | _=>false
def oJ:dS->Bool
 | .appD _ _ _ _ _ _=>true
 | _=>false
def hO:dS->Bool
 | .storeD _ _ _=>true
 | .storeK _ _ _ _=>true
 | _=>false
def AJ:dS->Bool
 | .mov _ | .nilck _ | .mkmv _ _ | .conv _ _ | .un _ _ | .fieldA _ _ | .fieldV _ _ _ _ | .extr _ _ | .len _ | .lenS _ | .capa _ | .pick _ _ _
 | .bin _ _ _ | .eqB _ _ _ | .eqP _ _ _ | .eqS _ _ _ | .eqF _ _ _ | .eqN _ _ | .eqA _ _ _ _ | .idxA _ _ _ | .idxS _ _ | .slc _ _ _ _ | .slcS _ _ _ | .mm _ _=>true
 | _=>false
theorem AK {o:dS}(h:AJ o=true):cS o=true:=by cases o<;>first | rfl | cases h
theorem yh {o:dS}(h:AJ o=true) {F F':aA}{L L':Loc}{ρ:Env}{V:SV->Prop}(a:aI o F L ρ V):aI o F' L' ρ V:=by
 cases o<;>first | (cases h;done) | exact a
def drawn:dS->Option dS
 | .load a n x=>some (.loadD a n x)
 | .call f l=>some (.callD f l)
 | .callV f l=>some (.callVD f l)
 | .box t x=>some (.boxD t x)
 | .alloc t z=>some (.allocD t z)
 | .mkF e n sz l=>some (.mkFD e n sz l)
 | .app e sz b z s x=>some (.appD e sz b z s x)
 | .store n a x=>some (.storeD n a x)
 | .b2s x=>some (.b2sD x)
 | .boxD _ _ | .allocD _ _ | .mkFD _ _ _ _ | .callD _ _ | .callVD _ _ | .loadD _ _ _ | .appD _ _ _ _ _ _ | .storeD _ _ _ | .boxF _ _ | .callO _ _ | .callVO _ _ | .appX _ _ _ _ _ _ | .b2sD _ | .b2sR _ | .makeSD _ _ _ _ | .makeSV _ _ _ _ _ | .loadK _ _ _ _ | .storeK _ _ _ _ | .copyX _ _ _ _ | .storeX _ _ _ | .look _ _ | .makeS _ _ _ _ _ _ | .loadF _ _ _ | .loadR _ _ _ | .mkmap | .mupd _ _ _ _ | .mrange _ | .mnext _ | .mentry _=>none
 | o=>some o
def zj:X->Option Int
 | .c (.int _ n)=>some n
 | _=>none
def MI (b:Nat) (n m:Int):Bool:=Nat.ble (n.toNat*b) 140737488355328&&Nat.ble n.toNat 9223372036854775807&&(match n,m with | .ofNat a,.ofNat b=>Nat.beq a b | _,_=>false)
def mW (bx:List Nat):dS->Option dS
 | .makeS e sz b zs l c=>match zj l,zj c with
  | some n,some m=>match MI b n m with
   | true=>some (.makeSD e sz n.toNat zs)
   | false=>none
  | _,_=>match l,c with
   | .t i,.t j=>match Nat.beq i j with
    | true=>some (.makeSV e sz b zs (.t i))
    | false=>none
   | _,_=>none
 | .mkR e 0 sz []=>some (.makeSD e sz 0 (List.replicate sz undef))
 | .load a n (.t i)=>match fo bx i with | true=>some (.loadK i a n (.t i)) | false=>some (.loadD a n (.t i))
 | .store n (.t i) x=>match fo bx i with | true=>some (.storeK i n (.t i) x) | false=>some (.storeD n (.t i) x)
 | o=>drawn o
def LN:List (Nat×Nat)->Nat->Option Nat
 | [],_=>none
 | (i,k)::l,j=>match Nat.beq i j with | true=>some k | false=>LN l j
def sV (fl:List Nat) (bk:List (Nat×Nat)) (bx:List Nat):dS->Option dS
 | .load a n (.t i)=>match fo fl i with
  | true=>some (.loadF a n (.t i))
  | false=>match LN bk i with
   | some key=>match Nat.beq key 999999 with
    | true=>some (.loadR a n (.t i))
    | false=>some (.loadK key a n (.t i))
   | none=>mW bx (.load a n (.t i))
 | .b2s (.t i)=>match fo fl i with
  | true=>some (.b2sR (.t i))
  | false=>mW bx (.b2s (.t i))
 | o=>mW bx o
def vD:dS->Option dS
 | .call f l=>some (.callO f l)
 | .callV f l=>some (.callVO f l)
 | .app e sz b z s x=>some (.appX e sz b z s x)
 | .copy e sz a b=>some (.copyX e sz a b)
 | .store n a x=>some (.storeX n a x)
 | .mupd str x i v=>some (.mupd str x i v)
 | _=>none
section
variable {P:Program}{F:aA}{L:Loc}{ρ:Env}{K:cE}
theorem cn {o:dS}(h:cS o=true) (d:Option Nat):evalOp P o d F L ρ K=aI o F L ρ fun v=>K F L (put d v ρ):=by
 cases o<;>first | rfl | cases h
structure One (T:(SV->Prop)->Prop):Prop where
 ex:∀V,T V->∃v,T (fun u=>u=v)/\V v
 mono:∀V V':SV->Prop,(∀v,V v->V' v)->T V->T V'
theorem One.ret (v:SV):One fun V=>V v:=⟨fun V h=>⟨v,rfl,h⟩,fun V V' h k=>h v k⟩
theorem One.no:One fun _=>False:=⟨fun V h=>h.elim,fun V V' h k=>k⟩
theorem One.and {p:Prop}{T:(SV->Prop)->Prop}(h:One T):One fun V=>p/\T V :=
 ⟨fun V ⟨a,b⟩=>let⟨v,h1,h2⟩:=h.ex V b;⟨v,⟨a,h1⟩,h2⟩,fun V V' c ⟨a,b⟩=>⟨a,h.mono V V' c b⟩⟩
theorem One.fit {k:IntKind}{n:Int}{T:Int->(SV->Prop)->Prop}(h:∀m,One (T m)):One fun V=>Fit k n fun m=>T m V :=
 ⟨fun V ⟨a⟩=>let⟨v,h1,h2⟩:=(h _).ex V a;⟨v,⟨h1⟩,h2⟩,fun V V' b ⟨a⟩=>⟨(h _).mono V V' b a⟩⟩
theorem One.nz {n:Int}{T:(SV->Prop)->Prop}(h:One T):One fun V=>mT n (T V) :=
 ⟨fun V ⟨a,b⟩=>let⟨v,h1,h2⟩:=h.ex V b;⟨v,⟨a,h1⟩,h2⟩,fun V V' c ⟨a,b⟩=>⟨a,h.mono V V' c b⟩⟩
theorem One.inb {i n:Int}{T:(SV->Prop)->Prop}(h:One T):One fun V=>Mj i n (T V) :=
 ⟨fun V ⟨b,a,c⟩=>let⟨v,h1,h2⟩:=h.ex V c;⟨v,⟨b,a,h1⟩,h2⟩,fun V V' d ⟨b,a,c⟩=>⟨b,a,h.mono V V' d c⟩⟩
theorem One.idx {a:Option Addr}{i n:Int}{T:(SV->Prop)->Prop}(h:One T):One fun V=>Da a i n (T V) :=
 ⟨fun V ⟨d,b,c,e⟩=>let⟨v,h1,h2⟩:=h.ex V e;⟨v,⟨d,b,c,h1⟩,h2⟩,fun V V' f ⟨d,b,c,e⟩=>⟨d,b,c,h.mono V V' f e⟩⟩
theorem One.slc {l h:Int}{c:Nat}{T:Nat->Nat->(SV->Prop)->Prop}(f:∀l h,One (T l h)):One fun V=>mJ l h c fun l h=>T l h V :=
 ⟨fun V ⟨d,a,b,e⟩=>let⟨v,h1,h2⟩:=(f _ _).ex V e;⟨v,⟨d,a,b,h1⟩,h2⟩,fun V V' j ⟨d,a,b,e⟩=>⟨d,a,b,(f _ _).mono V V' j e⟩⟩
theorem One.loadD {a:Option Addr}{j n:Nat}{T:List Value->(SV->Prop)->Prop}(h:∀cs,One (T cs)):One fun V=>gY F a j n fun cs=>T cs V :=
 ⟨fun V ⟨cs,c,b,d⟩=>let⟨v,h1,h2⟩:=(h _).ex V d;⟨v,⟨cs,c,b,h1⟩,h2⟩,fun V V' e ⟨cs,c,b,d⟩=>⟨cs,c,b,(h _).mono V V' e d⟩⟩
theorem One.WN {a:Option Addr}{j n:Nat}{T:List Value->(SV->Prop)->Prop}(h:∀cs,One (T cs)):One fun V=>ja F L a j n fun cs=>T cs V :=
 ⟨fun V ⟨cs,c,b,d⟩=>let⟨v,h1,h2⟩:=(h _).ex V d;⟨v,⟨cs,c,b,h1⟩,h2⟩,fun V V' e ⟨cs,c,b,d⟩=>⟨cs,c,b,(h _).mono V V' e d⟩⟩
theorem One.WR {g:Nat}{T:Nat->List Value->(SV->Prop)->Prop}(h:∀k cs,One (T k cs)):One fun V=>Au L g fun k cs=>T k cs V :=
 ⟨fun V ⟨k,cs,b,a,c⟩=>let⟨v,h1,h2⟩:=(h _ _).ex V c;⟨v,⟨k,cs,b,a,h1⟩,h2⟩,fun V V' d ⟨k,cs,b,a,c⟩=>⟨k,cs,b,a,(h _ _).mono V V' d c⟩⟩
theorem One.mlk {str:Bool}{cs:List Value}{key:Value}{ok:Bool}{z:Value}:One fun V=>Dc str cs key ok z fun v=>V (.v v) :=
 ⟨fun V h=>by
  rcases h.out with⟨i,v,b,a⟩ | ⟨b,a⟩
  ·exact⟨_,⟨.inl ⟨i,v,b,rfl⟩⟩,a⟩
  ·exact⟨_,⟨.inr ⟨b,rfl⟩⟩,a⟩,fun V V' c h=>⟨h.out.imp (fun⟨i,v,b,a⟩=>⟨i,v,b,c _ a⟩) fun⟨b,a⟩=>⟨b,c _ a⟩⟩⟩
theorem One.gl {g:Nat}{T:Value->(SV->Prop)->Prop}(h:∀v,One (T v)):One fun V=>Oh F g fun v=>T v V :=
 ⟨fun V ⟨u,t,a,b,c⟩=>let⟨v,h1,h2⟩:=(h _).ex V c;⟨v,⟨u,t,a,b,h1⟩,h2⟩,fun V V' d ⟨u,t,a,b,c⟩=>⟨u,t,a,b,(h _).mono V V' d c⟩⟩
theorem One.bytes {cs:List Value}{T:List UInt8->(SV->Prop)->Prop}(h:∀bs,One (T bs)):One fun V=>zf cs fun bs=>T bs V :=
 ⟨fun V ⟨bs,a,b⟩=>let⟨v,h1,h2⟩:=(h _).ex V b;⟨v,⟨bs,a,h1⟩,h2⟩,fun V V' c ⟨bs,a,b⟩=>⟨bs,a,(h _).mono V V' c b⟩⟩
theorem One.binI {op:BinOp}{k:IntKind}{a b:Int}:One fun V=>binI op k a b fun v=>V (.v v):=by
 cases op<;>simp only[Fr.binI]<;>first
  | exact One.no
  | exact One.ret _
  | exact One.fit fun _=>One.ret _
  | exact One.nz (One.fit fun _=>One.ret _)
  | exact One.nz (One.ret _)
theorem One.shI {op:BinOp}{k:IntKind}{a b:Int}:One fun V=>shI op k a b fun v=>V (.v v):=by
 cases op<;>simp only[Fr.shI]<;>first
  | exact One.no
  | exact One.and (One.fit fun _=>One.ret _)
  | exact One.and (One.ret _)
theorem One.binS {op:BinOp}{a b:ByteArray}:One fun V=>binS op a b fun v=>V (.v v):=by
 cases op<;>simp only[Fr.binS]<;>first
  | exact One.no
  | exact One.ret _
  | exact One.and (One.ret _)
theorem eY {o:dS}(h:cS o=true):One (aI o F L ρ):=by
 cases o<;>first | (cases h;done) | skip
 case b2sR x =>
  show One fun V=>aI _ F L ρ V;simp only[aI];cases e:ev ρ x with
  | own k off=>exact One.no
  | el a j=>exact One.no
  | v x =>
   cases x<;>try exact One.no
   exact⟨fun V ⟨k,t,c,bs,w,h2,h3,z⟩=>⟨_,⟨k,t,c,bs,w,h2,h3,rfl⟩,z⟩,fun V V' hv ⟨k,t,c,bs,w,h2,h3,z⟩=>⟨k,t,c,bs,w,h2,h3,hv _ z⟩⟩
 case mov x=>exact One.ret _
 case pick c a b =>
  show One fun V=>aI _ F L ρ V;simp only[aI];cases e:ev ρ c with
  | v x =>
    cases x<;>try exact One.no
    rename_i b;cases b<;>exact One.ret _
  | own k off=>exact One.no
  | el a j=>exact One.no
 case build zs ps =>
  show One fun V=>aI _ F L ρ V;simp only[aI];cases e:built L ρ zs ps with
  | none=>exact One.no
  | some cs=>exact One.ret _
 case loadD ag n x =>
  show One fun V=>aI _ F L ρ V;simp only[aI];cases e:ev ρ x with
  | own k off =>
   simp only[];cases m:L.get k with
   | none=>exact One.no
   | some p =>
    cases p with
    | row=>exact One.no
    | box g t cs =>
     simp only[];cases e3:iB t ((cs.drop off).take n) n
     ·exact One.no
     ·exact One.ret _
  | el a j=>exact One.loadD fun _=>One.ret _
  | v x =>
   cases x<;>try exact One.no
   rename_i a;cases a
   ·exact One.no
   ·exact One.loadD fun _=>One.ret _
 case gload g =>
  show One fun V=>aI _ F L ρ V;simp only[aI];exact One.gl fun _=>One.ret _
 case loadR ag n x =>
  show One fun V=>aI _ F L ρ V;simp only[aI];cases e:ev ρ x with
  | own k off =>
   simp only[];cases m:L.get k with
   | none=>exact One.no
   | some p =>
    cases p with
    | row=>exact One.no
    | box g t cs =>
     simp only[];cases e3:iB t ((cs.drop off).take n) n
     ·exact One.no
     ·exact One.ret _
  | el a j=>exact One.WN fun _=>One.ret _
  | v x =>
   cases x<;>try exact One.no
   rename_i a;cases a
   ·exact One.no
   ·exact One.WN fun _=>One.ret _
 case mlook str ok z0 x i =>
  show One fun V=>aI _ F L ρ V;simp only[aI];cases e:ev ρ x with
  | own k off=>exact One.no
  | el a j=>exact One.no
  | v x =>
   cases x<;>try exact One.no
   rename_i a;cases a
   ·exact One.no
   ·exact One.WR fun k cs=>One.mlk
 case mlen x =>
  show One fun V=>aI _ F L ρ V;simp only[aI];cases e:ev ρ x with
  | own k off=>exact One.no
  | el a j=>exact One.no
  | v x =>
   cases x<;>try exact One.no
   rename_i a;cases a
   ·exact One.no
   ·exact One.WR fun k cs=>One.ret _
 case loadF ag n x =>
  show One fun V=>aI _ F L ρ V;simp only[aI];cases e:ev ρ x with
  | own k off=>exact One.no
  | el a j=>exact One.loadD fun _=>One.ret _
  | v x =>
   cases x<;>try exact One.no
   rename_i a;cases a
   ·exact One.no
   ·exact One.loadD fun _=>One.ret _
 case loadK key ag n x =>
  show One fun V=>aI _ F L ρ V;simp only[aI];cases e:ev ρ x with
  | own k off =>
   simp only[];cases e1:Nat.beq k key with
   | false=>exact One.no
   | true =>
    simp only[];cases m:L.get k with
    | none=>exact One.no
    | some p =>
     cases p with
     | row=>exact One.no
     | box g t cs =>
      simp only[];cases e3:iB t ((cs.drop off).take n) n
      ·exact One.no
      ·exact One.ret _
  | el a j=>exact One.no
  | v x=>exact One.no
 case b2sD x =>
  show One fun V=>aI _ F L ρ V;simp only[aI];cases e:ev ρ x with
  | own k off=>exact One.no
  | el a j=>exact One.no
  | v x =>
   cases x<;>try exact One.no
   exact One.loadD fun _=>One.bytes fun _=>One.ret _
 case nilck x =>
  show One fun V=>aI _ F L ρ V;simp only[aI];cases e:ev ρ x with
  | own k off=>exact One.ret _
  | el a j=>exact One.and (One.ret _)
  | v x =>
   cases x<;>try exact One.no
   ·rename_i a;cases a
    ·exact One.no
    ·exact One.ret _
   ·rename_i f a b;cases f<;>first
     | exact One.no
     | exact One.ret _
     | (simp only[]
        split
        ·exact One.and (One.ret _)
        ·exact One.no)
 case mkmv nm x =>
  show One fun V=>aI _ F L ρ V;simp only[aI];cases e:ev ρ x with
  | own k off=>exact One.no
  | el a j=>exact One.no
  | v x=>exact One.ret _
 case bin op x y =>
  show One fun V=>aI _ F L ρ V;simp only[aI];cases e:ev ρ x with
  | own k off=>exact One.no
  | el a j=>exact One.no
  | v u =>
   cases m:ev ρ y with
   | own k off=>cases u<;>exact One.no
   | el a j=>cases u<;>exact One.no
   | v d =>
    cases u<;>cases d<;>try exact One.no
    ·simp only[];cases FT op
     ·simp only[];rename_i k n k' n';cases oZ k k'
      ·exact One.no
      ·exact One.binI
     ·exact One.shI
    ·exact One.binS
 case eqB ng x y =>
  show One fun V=>aI _ F L ρ V;simp only[aI];cases e:ev ρ x with
  | own k off=>exact One.no
  | el a j=>exact One.no
  | v u =>
   cases m:ev ρ y with
   | own k off=>cases u<;>exact One.no
   | el a j=>cases u<;>exact One.no
   | v d=>cases u<;>cases d<;>first | exact One.no | exact One.ret _
 case eqP ng x y =>
  show One fun V=>aI _ F L ρ V;simp only[aI];cases e:ev ρ x with
  | own k off =>
   cases m:ev ρ y with
   | own k off=>exact One.no
   | el a j=>exact One.no
   | v d =>
    cases d<;>try exact One.no
    rename_i p;cases p<;>first | exact One.no | exact One.ret _
  | el a j =>
   cases m:ev ρ y with
   | own k off=>cases a<;>exact One.no
   | el b i=>cases a<;>exact One.no
   | v d =>
    cases a<;>cases d<;>try exact One.no
    rename_i p;cases p<;>first | exact One.no | exact One.ret _
  | v u =>
   cases m:ev ρ y with
   | own k off=>cases u<;>exact One.no
   | el a j=>cases u<;>exact One.no
   | v d =>
    cases u<;>cases d<;>try exact One.no
    rename_i p q;cases q<;>first | exact One.no | exact One.ret _
 case eqS ng x y =>
  show One fun V=>aI _ F L ρ V;simp only[aI];cases e:ev ρ x with
  | own k off=>exact One.no
  | el a j=>exact One.no
  | v u =>
   cases m:ev ρ y with
   | own k off=>cases u<;>exact One.no
   | el a j=>cases u<;>exact One.no
   | v d =>
    cases u<;>cases d<;>try exact One.no
    rename_i a1 l1 c1 a2 l2 c2;cases a2<;>first | exact One.no | exact One.ret _
 case eqF ng x y =>
  show One fun V=>aI _ F L ρ V;simp only[aI];cases e:ev ρ x with
  | own k off=>exact One.no
  | el a j=>exact One.no
  | v u =>
   cases m:ev ρ y with
   | own k off=>cases u<;>exact One.no
   | el a j=>cases u<;>exact One.no
   | v d=>cases u<;>cases d<;>first | exact One.no | exact One.ret _
 case eqN ng x =>
  show One fun V=>aI _ F L ρ V;simp only[aI];cases e:ev ρ x with
  | own k off=>exact One.no
  | el a j=>exact One.no
  | v u=>cases u<;>first | exact One.no | exact One.ret _
 case eqA ng ks x y =>
  show One fun V=>aI _ F L ρ V;simp only[aI];cases e:ev ρ x with
  | own k off=>exact One.no
  | el a j=>exact One.no
  | v u =>
   cases m:ev ρ y with
   | own k off=>cases u<;>exact One.no
   | el a j=>cases u<;>exact One.no
   | v d =>
    cases u<;>cases d<;>try exact One.no
    rename_i cs ds;simp only[];cases iC ks cs.toList ds.toList true<;>first | exact One.no | exact One.ret _
 case un op x =>
  show One fun V=>aI _ F L ρ V;simp only[aI];cases op<;>cases e:ev ρ x<;>first
   | exact One.no
   | (rename_i u;cases u<;>first | exact One.no | exact One.ret _ | exact One.fit fun _=>One.ret _)
 case conv k x =>
  show One fun V=>aI _ F L ρ V;simp only[aI];cases e:ev ρ x<;>first
   | exact One.no
   | (rename_i u;cases u<;>first | exact One.no | exact One.fit fun _=>One.ret _)
 case mkfn f a b=>exact One.ret _
 case slc sz x lo hi =>
  show One fun V=>aI _ F L ρ V;simp only[aI];cases e:ev ρ x<;>try exact One.no
  rename_i u;cases u<;>try exact One.no
  rename_i a n c;simp only[];cases iY ρ 0 lo<;>cases iY ρ n hi<;>first | exact One.no | exact One.slc fun _ _=>One.ret _
 case slcS x lo hi =>
  show One fun V=>aI _ F L ρ V;simp only[aI];cases e:ev ρ x<;>try exact One.no
  rename_i u;cases u<;>try exact One.no
  rename_i s;simp only[];cases iY ρ 0 lo<;>cases iY ρ s.size hi<;>first | exact One.no | exact One.slc fun _ _=>One.ret _
 case fieldA off x =>
  show One fun V=>aI _ F L ρ V;simp only[aI];cases e:ev ρ x with
  | own k off=>exact One.ret _
  | el a j=>exact One.ret _
  | v u =>
   cases u<;>try exact One.no
   rename_i p;cases p<;>first | exact One.no | exact One.ret _
 case fieldV ag off n x =>
  show One fun V=>aI _ F L ρ V;simp only[aI];cases e:ev ρ x<;>try exact One.no
  rename_i u;cases u<;>try exact One.no
  rename_i cs;simp only[];cases eT ((cs.toList.drop off).take n) n<;>first | exact One.no | exact One.ret _
 case idxA sz x i =>
  show One fun V=>aI _ F L ρ V;simp only[aI];cases e:ev ρ x with
  | own k off=>exact One.no
  | el a j=>exact One.no
  | v u =>
   cases m:ev ρ i with
   | own k off=>cases u<;>exact One.no
   | el a j=>cases u<;>exact One.no
   | v d=>cases u<;>cases d<;>first | exact One.no | exact One.idx (One.ret _)
 case idxS x i =>
  show One fun V=>aI _ F L ρ V;simp only[aI];cases e:ev ρ x with
  | own k off=>exact One.no
  | el a j=>exact One.no
  | v u =>
   cases m:ev ρ i with
   | own k off=>cases u<;>exact One.no
   | el a j=>cases u<;>exact One.no
   | v d=>cases u<;>cases d<;>first | exact One.no | exact One.inb (One.ret _)
 case extr x i =>
  show One fun V=>aI _ F L ρ V;simp only[aI];cases e:ev ρ x<;>try exact One.no
  rename_i u;cases u<;>try exact One.no
  rename_i vs;simp only[];cases vs.toList[i]?<;>first | exact One.no | exact One.ret _
 case len x =>
  show One fun V=>aI _ F L ρ V;simp only[aI];cases e:ev ρ x<;>try exact One.no
  rename_i u;cases u<;>first | exact One.no | exact One.ret _
 case lenS x =>
  show One fun V=>aI _ F L ρ V;simp only[aI];cases e:ev ρ x<;>try exact One.no
  rename_i u;cases u<;>first | exact One.no | exact One.ret _
 case capa x =>
  show One fun V=>aI _ F L ρ V;simp only[aI];cases e:ev ρ x<;>try exact One.no
  rename_i u;cases u<;>first | exact One.no | exact One.ret _
 case mm mx l =>
  show One fun V=>aI _ F L ρ V;simp only[aI];cases e:l.map (ev ρ) with
  | nil=>exact One.no
  | cons u r =>
   cases u<;>try exact One.no
   rename_i u;cases u<;>try exact One.no
   rename_i k a0;simp only[];cases LJ mx a0 r<;>first | exact One.no | exact One.ret _
end
theorem qY {P:Program}{s s':dS}{d:Option Nat}{F:aA}{L:Loc}{ρ:Env}{K:cE}(h:drawn s=some s') (ab:(cS s'||gH s'||ef s'||oJ s'||hO s')=true) (ae:gH s'=false) (f:evalOp P s' d F L ρ K):evalOp P s d F L ρ (fun F' L' ρ'=>Real F' L'->K F' L' ρ'):=by
 have load:∀{a:Option Addr}{j n:Nat}{KK KK':List Value->Prop},gY F a j n KK->(∀cs,KK cs->KK' cs)->ja F L a j n KK':=by
  rintro a j n KK KK' ⟨cs,p,q,h3⟩ u;exact⟨cs,p,by rcases q with q | q;exact .inl q;exact .inr (.inr (.inl q)),u _ h3⟩
 have app:∀{e sz b:Nat}{sv xv:Value}{KK KK':Loc->Value->Prop},oW F L d e sz b sv xv KK->(∀L' v,(Real F L'->KK L' v)->KK' L' v)->Db F L e sz b sv xv KK':=by
  rintro e sz b sv xv KK KK' ⟨kd,n,xs,m,news,p,⟨ad,c,q,h3,u⟩,h5,h6,h7,h8⟩ hk;refine⟨kd,n,xs,m,news,?_,⟨ad,c,q,h3,?_⟩,h5,h6,h7,fun v hv=>hk _ _ (h8 v hv)⟩
  ·rcases p with p | ⟨_,p⟩ | ⟨_,p⟩
   ·exact .inl p
   ·exact .inr (.inl p)
   ·exact .inr (.inr p)
  ·rcases u with u | u
   ·exact .inl u
   ·exact .inr (.inl u)
 by_cases y:cS s'=true
 ·have r:=y;have p:∀V V':SV->Prop,(∀v,V v->V' v)->aI s' F L ρ V->aI s F L ρ V':=by
   intro V V' hV o;have o:=(eY r).mono V V' hV o;cases s<;>simp only[drawn,WY,reduceCtorEq] at h<;>subst h<;>first
    | exact o
    | (simp only[aI] at o ⊢
       split at o
       ·exact o
       ·exact load o fun _ h=>h
       ·exact load o fun _ h=>h
       ·exact o)
    | (simp only[aI] at o ⊢
       split at o
       ·exact load o fun _ h=>h
       ·exact o)
    | (exfalso;revert y;simp[cS];done)
  rw[cn r] at f;have q:=p _ (fun v=>Real F L->K F L (put d v ρ)) (fun v hv _=>hv) f;cases s<;>simp only[drawn,WY,reduceCtorEq] at h<;>subst h<;>first
   | exact q
   | (exfalso;revert y;simp[cS];done)
 ·by_cases w:hO s'=true
  ·cases s<;>simp only[drawn,WY,reduceCtorEq] at h<;>subst h<;>first | (cases w;done) | skip
   rename_i n a x;have l:(match eT (aH (val L ρ x)) n,iS (aH (val L ρ x)),ev ρ a with
    | true,true,.own k off=>match L.get k with
     | some (.box g t cs)=>match iB t ((cs.drop off).take n) n with
      | true=>K F (L.set k (.box g t (aM cs off (aH (val L ρ x))))) (put d (.v undef) ρ)
      | false=>False
     | _=>False
    | _,_,_=>False):=f
   clear f
   split at l
   case h_2=>exact l.elim
   rename_i e1 e2 e3;split at l
   case h_2=>exact l.elim
   rename_i e4;split at l
   case h_2=>exact l.elim
   rename_i e5;simp only[evalOp,e1,e2,e3,e4,e5];exact fun _=>l
  cases s<;>simp only[drawn,WY,reduceCtorEq] at h<;>subst h<;>first
   | (exfalso;revert y ab w;simp[cS,gH,ef,oJ,hO];done)
   | (cases ae;done)
   | (simp only[evalOp] at f ⊢
      split at f
      ·exact app f fun _ _ h=>h
      ·exact f)
   | (simp only[evalOp] at f ⊢
      split at f
      ·split at f
       ·exact f
       ·exact f
      ·exact f)
   | (simp only[evalOp] at f ⊢
      split at f
      ·exact fun g F' z hg hr=>f g F' z hg hr
      ·exact f)
section
variable {P:Program}{F:aA}{L:Loc}{ρ:Env}{K:cE}
def Alike (o:dS) (L L':Loc) (ρ ρ':Env):Prop:=∀x∈bD o,ev ρ' x=ev ρ x/\∀k off,ev ρ x=.own k off->L'.get k=L.get k
theorem Alike.val {o:dS}{L L':Loc}{ρ ρ':Env}(h:Alike o L L' ρ ρ') {x:X}(b:x∈bD o):Fr.val L' ρ' x=Fr.val L ρ x:=by
 obtain⟨c,d⟩:=h x b;simp only[Fr.val,c];cases e:ev ρ x with
 | v u=>rfl
 | el a j=>rfl
 | own k off=>simp only[conc,d k off e]
theorem di {L L':Loc}{ρ ρ':Env}:∀{xs:List X},(∀x∈xs,Fr.val L' ρ' x=Fr.val L ρ x)->bf L' ρ' xs=bf L ρ xs
 | [],_=>rfl
 | x::xs,h=>by simp only[bf,h x (by simp),di (xs:=xs) (fun y a=>h y (Xv _ a))]
theorem cq {L L':Loc}{ρ ρ':Env}:∀{xs:List X},(∀x∈xs,Fr.val L' ρ' x=Fr.val L ρ x)->cellsOf L' ρ' xs=cellsOf L ρ xs
 | [],_=>rfl
 | x::xs,h=>by simp only[cellsOf,h x (by simp),cq (xs:=xs) (fun y a=>h y (Xv _ a))]
theorem mL {L L':Loc}{ρ ρ':Env}{sz:Nat}:∀{xs:List X},(∀x∈xs,Fr.val L' ρ' x=Fr.val L ρ x)->eU L' ρ' sz xs=eU L ρ sz xs
 | [],_=>rfl
 | x::xs,h=>by simp only[eU,h x (by simp),mL (xs:=xs) (fun y a=>h y (Xv _ a))]
theorem pB {L L':Loc}{ρ ρ':Env}:∀{ps:List (Nat×Nat×X)}{zs:List Value},(∀p∈ps,Fr.val L' ρ' p.2.2=Fr.val L ρ p.2.2)->built L' ρ' zs ps=built L ρ zs ps
 | [],zs,_=>rfl
 | (off,n,x)::ps,zs,h=>by
  have a:=h (off,n,x) (by simp);simp only at a;simp only[built,a];split
  ·exact pB (fun p b=>h p (by simp[b]))
  ·rfl
theorem gY.up {F F':aA}(e:F.le F') {a:Option Addr}{j n:Nat}{K:List Value->Prop}(h:gY F a j n K):gY F' a j n K:=by
 obtain⟨cs,c,b,d⟩:=h;exact⟨cs,c,by rcases b with b | b;exact .inl (b.mono e);exact .inr b,d⟩
theorem ja.upF {F F':aA}(e:F.le F') {L:Loc}{a:Option Addr}{j n:Nat}{K:List Value->Prop}(h:ja F L a j n K):ja F' L a j n K:=by
 obtain⟨cs,c,b,d⟩:=h;exact⟨cs,c,by rcases b with b | b;exact .inl (b.mono e);exact .inr b,d⟩
theorem nV {ρ ρ':Env}{d:Int}{x:Option X}(h:∀y∈x.toList,ev ρ' y=ev ρ y):iY ρ' d x=iY ρ d x:=by
 cases x with
 | none=>rfl
 | some y=>simp only[iY,h y (by simp)]
theorem qk {o:dS}(w:cS o=true) {F F':aA}{L L':Loc}{ρ ρ':Env}(s:F.le F') (H:Alike o L L' ρ ρ') {V:SV->Prop}(h:aI o F L ρ V) (m:Gl o=false\/L'=L:=by exact .inr rfl):aI o F' L' ρ' V:=by
 cases o<;>first | (cases w;done) | skip
 case build zs ps =>
  have e:=pB (ps:=ps) (zs:=zs) (L:=L) (L':=L') (ρ:=ρ) (ρ':=ρ') (fun p hp=>H.val (Xz.2 ⟨p,hp,rfl⟩));simp only[aI,e] at h ⊢;exact h
 case mkfn f a b =>
  have j:=di (xs:=a) (L:=L) (L':=L') (ρ:=ρ) (ρ':=ρ') (fun x r=>H.val (W4.2 (.inl r)));have q:=di (xs:=b) (L:=L) (L':=L') (ρ:=ρ) (ρ':=ρ') (fun x r=>H.val (W4.2 (.inr r)));simp only[aI,j,q] at h ⊢;exact h
 case mm mx l =>
  have e:l.map (ev ρ')=l.map (ev ρ):=XZ fun x r=>(H x r).1;simp only[aI,e] at h ⊢;exact h
 case slc sz x lo hi =>
  have e:=(H x (by simp[bD])).1;have j:∀d,iY ρ' d lo=iY ρ d lo:=fun d=>nV fun y v=>(H y (by simp only[bD];exact Xv _ (W4.2 (.inl v)))).1;have q:∀d,iY ρ' d hi=iY ρ d hi:=fun d=>nV fun y v=>(H y (by simp only[bD];exact Xv _ (W4.2 (.inr v)))).1;simp only[aI,e,j,q] at h ⊢;exact h
 case slcS x lo hi =>
  have e:=(H x (by simp[bD])).1;have j:∀d,iY ρ' d lo=iY ρ d lo:=fun d=>nV fun y v=>(H y (by simp only[bD];exact Xv _ (W4.2 (.inl v)))).1;have q:∀d,iY ρ' d hi=iY ρ d hi:=fun d=>nV fun y v=>(H y (by simp only[bD];exact Xv _ (W4.2 (.inr v)))).1;simp only[aI,e,j,q] at h ⊢;exact h
 case loadD ag n x =>
  obtain⟨e,j⟩:=H x (by simp[bD]);simp only[aI,e] at h ⊢;split at h
  ·rename_i k off r;simp only[j k off r];exact h
  ·exact h.up s
  ·exact h.up s
  ·exact h
 case gload g =>
  simp only[aI] at h ⊢;obtain⟨u,t,fr,z,h2⟩:=h;exact⟨u,t,fr,s _ _ z,h2⟩
 case loadR ag n x =>
  obtain⟨e,j⟩:=H x (by simp[bD]);rcases m with m | rfl
  ·cases m
  ·simp only[aI,e] at h ⊢;split at h
   ·exact h
   ·exact h.upF s
   ·exact h.upF s
   ·exact h
 case mlook str ok z0 x i =>
  obtain⟨e,j⟩:=H x (by simp[bD]);have q:val L' ρ' i=val L ρ i:=H.val (by simp[bD]);rcases m with m | rfl
  ·cases m
  ·simp only[aI,e,q] at h ⊢;exact h
 case mlen x =>
  obtain⟨e,j⟩:=H x (by simp[bD]);rcases m with m | rfl
  ·cases m
  ·simp only[aI,e] at h ⊢;exact h
 case loadF ag n x =>
  obtain⟨e,j⟩:=H x (by simp[bD]);simp only[aI,e] at h ⊢;split at h
  ·exact h.up s
  ·exact h.up s
  ·exact h
 case loadK key ag n x =>
  obtain⟨e,j⟩:=H x (by simp[bD]);simp only[aI,e] at h ⊢;split at h
  ·rename_i k off r;simp only[j k off r];exact h
  ·exact h
 case b2sD x =>
  obtain⟨e,j⟩:=H x (by simp[bD]);simp only[aI,e] at h ⊢;split at h
  ·exact h.up s
  ·exact h
 case b2sR x =>
  obtain⟨e,j⟩:=H x (by simp[bD]);rcases m with m | rfl
  ·cases m
  ·simp only[aI,e] at h ⊢;exact h
 case pick c a b =>
  have j:=(H c (by simp[bD])).1;have q:=(H a (by simp[bD])).1;have e3:=(H b (by simp[bD])).1;simp only[aI,j,q,e3] at h ⊢;exact h
 all_goals first
  | (have j:=(H _ (List.mem_cons_self ..)).1
     simp only[aI,j] at h ⊢;exact h)
  | (have j:=(H _ (List.mem_cons_self ..)).1
     have q:=(H _ (Xv _ (List.mem_cons_self ..))).1;simp only[aI,j,q] at h ⊢;exact h)
theorem Gm {o:dS}(h:cS o=true) {k off:Nat}(d:aI o F L ρ (fun u=>u=.own k off)):∃x∈bD o,∃f,ev ρ x=.own k f:=by
 cases o<;>first | (cases h;done) | skip
 case mov x=>exact⟨x,by simp[bD],off,d⟩
 case pick c a b =>
  simp only[aI] at d;split at d
  ·exact⟨a,by simp[bD],off,d⟩
  ·exact⟨b,by simp[bD],off,d⟩
  ·exact d.elim
 case nilck x =>
  simp only[aI] at d;split at d
  ·rename_i j f e;injection d with h1 h2
   subst h1;exact⟨x,by simp[bD],f,e⟩
  ·cases d.2
  ·cases d
  ·cases d
  ·split at d
   ·cases d.2
   ·exact d.elim
  ·exact d.elim
 case mkmv nm x =>
  simp only[aI] at d;split at d
  ·cases d
  ·exact d.elim
 case fieldA o' x =>
  simp only[aI] at d;split at d
  ·rename_i j f e;injection d with h1 h2
   subst h1;exact⟨x,by simp[bD],f,e⟩
  ·cases d
  ·cases d
  ·exact d.elim
 case bin op x y =>
  simp only[aI] at d;split at d
  ·split at d
   ·cases op<;>simp only[shI] at d<;>first | exact d.elim | (obtain⟨_,⟨d⟩⟩:=d;cases d;done) | (obtain⟨_,d⟩:=d;cases d;done)
   ·split at d
    ·cases op<;>simp only[binI] at d<;>first | exact d.elim | (cases d;done) | (obtain⟨d⟩:=d;cases d;done) | (obtain⟨_,⟨d⟩⟩:=d;cases d;done) | (obtain⟨_,d⟩:=d;cases d;done)
    ·exact d.elim
  ·cases op<;>simp only[binS] at d<;>first | exact d.elim | (cases d;done) | (obtain⟨_,d⟩:=d;cases d;done)
  ·exact d.elim
 case loadD ag n x =>
  simp only[aI] at d;split at d
  ·split at d
   ·split at d
    ·cases d
    ·exact d.elim
   ·exact d.elim
  ·obtain⟨cs,_,_,d⟩:=d;cases d
  ·obtain⟨cs,_,_,d⟩:=d;cases d
  ·exact d.elim
 case gload g =>
  simp only[aI] at d;obtain⟨u,t,l,_,d⟩:=d;cases d
 case loadR ag n x =>
  simp only[aI] at d;split at d
  ·split at d
   ·split at d
    ·cases d
    ·exact d.elim
   ·exact d.elim
  ·obtain⟨cs,_,_,d⟩:=d;cases d
  ·obtain⟨cs,_,_,d⟩:=d;cases d
  ·exact d.elim
 case mlook str ok z0 x i =>
  simp only[aI] at d;split at d
  ·obtain⟨k,cs,_,_,⟨⟨i,v,_,d⟩ | ⟨_,d⟩⟩⟩:=d<;>cases d
  ·exact d.elim
 case mlen x =>
  simp only[aI] at d;split at d
  ·obtain⟨k,cs,_,_,d⟩:=d;cases d
  ·exact d.elim
 case loadF ag n x =>
  simp only[aI] at d;split at d
  ·obtain⟨cs,_,_,d⟩:=d;cases d
  ·obtain⟨cs,_,_,d⟩:=d;cases d
  ·exact d.elim
 case loadK key ag n x =>
  simp only[aI] at d;split at d
  ·split at d
   ·split at d
    ·split at d
     ·cases d
     ·exact d.elim
    ·exact d.elim
   ·exact d.elim
  ·exact d.elim
 case b2sD x =>
  simp only[aI] at d;split at d
  ·obtain⟨cs,_,_,⟨bs,_,d⟩⟩:=d;cases d
  ·exact d.elim
 case b2sR x =>
  simp only[aI] at d;split at d
  ·obtain⟨_,_,_,bs,_,_,_,d⟩:=d;cases d
  ·exact d.elim
 all_goals
  simp only[aI] at d
  repeat' split at d
 all_goals first
  | exact d.elim
  | (cases d;done)
  | (obtain⟨d⟩:=d;cases d;done)
  | (obtain⟨_,_,d⟩:=d;cases d;done)
  | (obtain⟨_,_,_,d⟩:=d;cases d;done)
end
theorem Jc {P:Program}{s s':dS}{d:Option Nat}{F:aA}{L:Loc}{ρ:Env}{K:cE}(h:vD s=some s') (c:evalOp P s' d F L ρ K):evalOp P s d F L ρ (fun F' L' ρ'=>Real F' L'->K F' L' ρ'):=by
 cases s<;>simp only[vD,WY,reduceCtorEq] at h<;>subst h
 case store n a x =>
  simp only[evalOp] at c ⊢;generalize eT (aH (val L ρ x)) n=z1 at c ⊢;generalize iS (aH (val L ρ x))=z2 at c ⊢;generalize ev ρ a=z3 at c ⊢;split at c
  ·rename_i k off;generalize L.get k=z at c ⊢;split at c
   ·rename_i g t cs;generalize iB t ((cs.drop off).take n) n=b at c ⊢;cases b
    ·exact c.elim
    ·exact c
   ·exact c.elim
  ·exact⟨.inl c⟩
  ·exact⟨.inl c⟩
  ·exact c.elim
 case mupd =>
  simp only[evalOp] at c ⊢;split at c
  ·obtain⟨k,cs,o,u,r,cs',p,w⟩:=c;exact⟨k,cs,o,u,r,cs',p,fun _=>w⟩
  ·exact c.elim
 ·simp only[evalOp] at c ⊢;exact c
 ·simp only[evalOp] at c ⊢;split at c
  ·exact c
  ·exact c.elim
 ·simp only[evalOp] at c ⊢;split at c
  ·exact c
  ·exact c.elim
 ·simp only[evalOp] at c ⊢;split at c
  ·rename_i dv l f q;rw[f,q];cases l<;>first
    | exact c
    | (obtain⟨⟨k,n,v,nr,xs,ad,cr,cd,j,m,y,cx,news,_,_,_,_,e,_⟩ | ⟨_,_,_,_,_,_,_,e,_⟩⟩:=c<;>cases e)
  ·exact c.elim
theorem qD {P:Program}{F:aA}{L:Loc}{ρ:Env}{K:cE}{n:Nat}{a x:X}{d:Option Nat}:evalOp P (.storeD n a x) d F L ρ K=(match eT (aH (val L ρ x)) n,iS (aH (val L ρ x)),ev ρ a with
  | true,true,.own k off=>match L.get k with
   | Option.some (.box g t cs)=>match iB t ((cs.drop off).take n) n with
    | true=>K F (L.set k (.box g t (aM cs off (aH (val L ρ x))))) (put d (.v undef) ρ)
    | false=>False
   | _=>False
  | _,_,_=>False):=rfl
theorem qE {P:Program}{F:aA}{L:Loc}{ρ:Env}{K:cE}{key n:Nat}{a x:X}{d:Option Nat}:evalOp P (.storeK key n a x) d F L ρ K=(match eT (aH (val L ρ x)) n,iS (aH (val L ρ x)),ev ρ a with
  | true,true,.own k off=>match Nat.beq k key with
   | true=>match L.get k with
    | Option.some (.box g t cs)=>match iB t ((cs.drop off).take n) n with
     | true=>K F (L.set k (.box g t (aM cs off (aH (val L ρ x))))) (put d (.v undef) ρ)
     | false=>False
    | _=>False
   | false=>False
  | _,_,_=>False):=rfl
theorem hU {P:Program}{F:aA}{L:Loc}{ρ:Env}{K:cE}{o:dS}{d:Option Nat}(m:hO o=true) (b:evalOp P o d F L ρ K) :
  ∃n a x k off g t cs,(o=.storeD n a x\/o=.storeK k n a x)/\eT (aH (val L ρ x)) n=true/\iS (aH (val L ρ x))=true/\ev ρ a=.own k off/\L.get k=some (.box g t cs)/\iB t ((cs.drop off).take n) n=true /\
   K F (L.set k (.box g t (aM cs off (aH (val L ρ x))))) (put d (.v undef) ρ):=by
 cases o<;>first | (cases m;done) | skip
 case storeD n a x =>
  rw[qD] at b;split at b
  case h_2=>exact b.elim
  rename_i k off f j l;split at b
  case h_2=>exact b.elim
  rename_i g t cs h;split at b
  case h_2=>exact b.elim
  rename_i c;exact⟨n,a,x,k,off,g,t,cs,.inl rfl,f,j,l,h,c,b⟩
 case storeK key n a x =>
  rw[qE] at b;split at b
  case h_2=>exact b.elim
  rename_i k off f j l;split at b
  case h_2=>exact b.elim
  rename_i e;have e:=yo e;subst e;split at b
  case h_2=>exact b.elim
  rename_i g t cs h;split at b
  case h_2=>exact b.elim
  rename_i c;exact⟨n,a,x,k,off,g,t,cs,.inr rfl,f,j,l,h,c,b⟩
theorem gP {P:Program}{F:aA}{L:Loc}{ρ:Env}{K:cE}{o:dS}{d:Option Nat}{n:Nat}{a x:X}{k off g:Nat}{t:TypeId}{cs:List Value}(m:o=.storeD n a x\/o=.storeK k n a x) (e:eT (aH (val L ρ x)) n=true) (h:iS (aH (val L ρ x))=true) (j:ev ρ a=.own k off) (f:L.get k=some (.box g t cs)) (b:iB t ((cs.drop off).take n) n=true)
  (c:K F (L.set k (.box g t (aM cs off (aH (val L ρ x))))) (put d (.v undef) ρ)):evalOp P o d F L ρ K:=by
 rcases m with rfl | rfl
 ·rw[qD];simp only[e,h,j,f,b];exact c
 ·rw[qE];have l:Nat.beq k k=true:=by simp
  simp only[e,h,j,l,f,b];exact c
theorem yj {x:X}{n:Int}{ρ:Env}(h:zj x=some n):∃k,ev ρ x=.v (.int k n):=by
 unfold zj at h;split at h
 ·injection h with h;subst h;exact⟨_,rfl⟩
 ·cases h
theorem Jd {L:Loc}{ρ:Env}{x:X}{k:IntKind}{m:Int}(h:val L ρ x=.int k m):ev ρ x=.v (.int k m):=by
 unfold val at h;cases e:ev ρ x with
 | v u=>rw[e] at h;exact p7 SV.v h
 | own j off =>
  rw[e] at h;simp only[conc] at h;split at h<;>cases h
 | el a j =>
  rw[e] at h;cases a<;>cases h
theorem Je {b:Nat}{n m:Int}(h:MI b n m=true):0<=n/\n=m/\n.toNat*b<=140737488355328/\n.toNat<=maxLen:=by
 simp only[MI,W6] at h;obtain⟨⟨d,c⟩,a⟩:=h;split at a
 ·have a:=yo a;subst a;exact⟨by simp,rfl,Xh d,Xh c⟩
 ·cases a
theorem Jf {P:Program}{bx:List Nat}{s s':dS}{d:Option Nat}{F:aA}{L:Loc}{ρ:Env}{K:cE}(h:mW bx s=some s') (f:(cS s'||gH s'||ef s'||oJ s'||hO s')=true) (o:gH s'=false) (b:evalOp P s' d F L ρ K):evalOp P s d F L ρ (fun F' L' ρ'=>Real F' L'->K F' L' ρ'):=by
 unfold mW at h;split at h
 ·split at h
  ·rename_i n m l p;split at h
   ·rename_i z;injection h with h
    subst h;obtain⟨k1,l⟩:=yj (ρ:=ρ) l;obtain⟨k2,p⟩:=yj (ρ:=ρ) p;obtain⟨u,v,y,w⟩:=Je z;subst v;simp only[evalOp,l,p] at b ⊢;split at b
    ·rename_i k;split at b
     ·rename_i q _ _;simp only[q];exact⟨u,Xw _,y,w,b⟩
     ·exact b.elim
    ·exact b.elim
   ·cases h
  ·split at h
   ·rename_i i j _ _;split at h
    ·rename_i c;have c:=yo c;subst c;injection h with h
     subst h;simp only[evalOp] at b ⊢;split at b
     ·rename_i k;split at b
      ·rename_i q _ z;obtain⟨ki,m,l,u,v,y,w⟩:=Av z;have p:=Jd l;simp only[p,q];rw[v] at b;exact⟨u,Xw _,y,w,b⟩
      ·exact b.elim
     ·exact b.elim
    ·cases h
   ·cases h
 ·rename_i e sz;injection h with h
  subst h;simp only[evalOp] at b ⊢;split at b
  ·rename_i k;split at b
   ·rename_i q _ _;simp only[eU,q];exact b
   ·exact b.elim
  ·exact b.elim
 ·rename_i a n i;split at h
  ·injection h with h
   subst h;refine qY (s:=.load a n (.t i)) (s':=.loadD a n (.t i)) rfl rfl rfl ?_;simp only[evalOp,aI] at b ⊢;split at b
   ·rename_i k off e;simp only[e];split at b
    ·exact b
    ·exact b.elim
   ·exact b.elim
  ·injection h with h
   subst h;exact qY (s:=.load a n (.t i)) rfl f o b
 ·rename_i n i x;split at h
  ·injection h with h
   subst h;obtain⟨n',a',x',k,off,g,t,cs,r,l,p,e3,e4,e5,b⟩:=hU rfl b;rcases r with r | r
   ·cases r
   ·injection r with h1 h2 h3 h4
    subst h1 h2 h3 h4;exact qY (s:=.store n (.t i) x) (s':=.storeD n (.t i) x) rfl rfl rfl (gP (.inl rfl) l p e3 e4 e5 b)
  ·injection h with h
   subst h;exact qY (s:=.store n (.t i) x) rfl f o b
 ·exact qY h f o b
def Loc.sameAs (L L':Loc):Prop:=∀j,L'.get j=L.get j
theorem vE {P:Program}{f:Nat}{args:List Value}{F:aA}{L:Loc}{d:Option Nat}{KK:aA->Loc->Value->Prop}(h:dP P f args F L d KK):cV P f args F L (fun F' L' v=>∃L2,L'.sameAs L2/\(Real F' L2->KK F' L2 v)):=by
 cases h with
 | frz R q s =>
  refine⟨[],[],[],R,rfl,List.nodup_nil,List.nodup_nil,fun _ h=>(by cases h),q,fun v F' Lo a m=>?_⟩;obtain⟨rfl,z⟩:=s v F' Lo a m;exact⟨rfl,fun _ _ _ _ h=>(by cases h),_,fun _=>rfl,z⟩
 | own R k q hd r s =>
  refine⟨[],[k],[],R,rfl,List.nodup_nil,by simp,fun j p=>.inr (by simp at p;rw[p];exact r),q,fun v F' Lo a m=>?_⟩;obtain⟨o,rfl,z⟩:=s v F' Lo a m;exact⟨rfl,fun _ _ _ _ h=>(by cases h),_,fun _=>rfl,z⟩
 | row R x rv t sz n xs q r s =>
  refine⟨[x],[x],[.row rv t sz n xs],fun F Lo v=>Lo=[.row (.slice none 0 0) t sz 0 []]/\R F [] v,?_,by simp,by simp,fun j p=>.inl p,⟨q.ent,fun F G L v a hr=>⟨hr.1,q.mono _ _ _ _ a hr.2⟩,fun w hs=>(q.run w hs).mono ?_⟩,fun v F' Lo a m=>?_⟩
  ·simp only[Loc.sub,r]
  ·rintro e w' ⟨v,F',Lo,rfl,y,c,m⟩;obtain⟨rfl,_⟩:=s v F' Lo c.le m;have hb:(Own.row (.slice none 0 0) t sz 0 []).blk=none:=rfl;have hg:∀j o,Loc.get (inp [.row (.slice none 0 0) t sz 0 []]) j=some o->o=.row (.slice none 0 0) t sz 0 []:=by
    intro j o e;rw[aS] at e;split at e
    ·cases p:j-1000 with
     | zero=>rw[p] at e;simpa using e.symm
     | succ i=>rw[p] at e;simp at e
    ·cases e
   have ac:∀b,¬(inp [.row (.slice none 0 0) t sz 0 []]).owns b:=by
    rintro b ⟨j,o,e,l⟩;rw[hg j o e,hb] at l;cases l
   refine⟨v,F',_,rfl,⟨y.frz,fun j o e=>?_,fun j o g e l=>?_,fun j j' o o' g e e' l=>?_,y.glob⟩,⟨c.le,c.os,c.tape,c.output,c.size,c.same,c.frz,fun b hb=>xo hb (ac b)⟩,rfl,m⟩
   ·rw[hg j o e];exact World.ownsRow_nil w' 0 t sz
   ·rw[hg j o e,hb] at l;cases l
   ·rw[hg j o e,hb] at l;cases l
  ·obtain⟨rfl,m⟩:=m;obtain⟨_,z⟩:=s v F' [] a m;refine⟨rfl,fun k g t' cs u e=>?_,L.set x (.row (.slice none 0 0) t sz 0 []),fun j=>?_,z⟩
   ·rw[XJ.1 u,r] at e;cases e
   ·simp only[Loc.Wi,Loc.puts,Loc.Wh,Loc.Wm];split<;>rfl
 | lent R x rv t sz n xs q r s =>
  refine⟨[x],[x],[.row rv t sz n xs],_,by simp only[Loc.sub,r],by simp,by simp,fun j p=>.inl p,q,fun v F' Lo a m=>?_⟩;obtain⟨rfl,m⟩:=m;refine⟨rfl,fun k g t' cs u e=>?_,L,fun j=>?_,s v F' a m⟩
  ·rw[XJ.1 u,r] at e;cases e
  ·simp only[Loc.Wi,Loc.puts,Loc.Wh,Loc.Wm];split
   ·rename_i p;rw[p,r]
   ·rfl
theorem Jg {P:Program}{bx:List Nat}{s s':dS}{d:Option Nat}{F:aA}{L:Loc}{ρ:Env}{K:cE}(h:mW bx s=some s') (a:gH s'=true) (b:evalOp P s' d F L ρ K):evalOp P s d F L ρ (fun F' L' ρ'=>∃L2,L'.sameAs L2/\(Real F' L2->K F' L2 ρ')):=by
 unfold mW at h;split at h
 ·split at h
  ·split at h
   ·injection h with h;subst h;cases a
   ·cases h
  ·split at h
   ·split at h
    ·injection h with h;subst h;cases a
    ·cases h
   ·cases h
 ·injection h with h;subst h;cases a
 ·split at h
  ·injection h with h;subst h;cases a
  ·injection h with h;subst h;cases a
 ·split at h
  ·injection h with h;subst h;cases a
  ·injection h with h;subst h;cases a
 ·cases s<;>simp only[drawn,WY,reduceCtorEq] at h<;>subst h<;>first | (cases a;done) | skip
  ·simp only[evalOp] at b ⊢;exact vE b
  ·simp only[evalOp] at b ⊢;split at b
   ·exact vE b
   ·exact b.elim
theorem vF {fl bx:List Nat}{bk:List (Nat×Nat)}{s s':dS}(h:sV fl bk bx s=some s'):mW bx s=some s'\/(∃a n i,s=.load a n (.t i)/\s'=.loadF a n (.t i))\/(∃a n i key,s=.load a n (.t i)/\s'=.loadK key a n (.t i))\/(∃a n i,s=.load a n (.t i)/\s'=.loadR a n (.t i))\/∃i,s=.b2s (.t i)/\s'=.b2sR (.t i):=by
 unfold sV at h;split at h
 ·rename_i a n i;split at h
  ·injection h with h
   exact .inr (.inl ⟨a,n,i,rfl,h.symm⟩)
  ·split at h
   ·rename_i key _;split at h
    ·injection h with h
     exact .inr (.inr (.inr (.inl ⟨a,n,i,rfl,h.symm⟩)))
    ·injection h with h
     exact .inr (.inr (.inl ⟨a,n,i,key,rfl,h.symm⟩))
   ·exact .inl h
 ·rename_i i;split at h
  ·injection h with h
   exact .inr (.inr (.inr (.inr ⟨i,rfl,h.symm⟩)))
  ·exact .inl h
 ·exact .inl h
theorem EG {o:Bool}{n:Nat}{x:X}{F:aA}{L:Loc}{ρ:Env}{V V':SV->Prop}(h:aI (.load o n x) F L ρ V) (a:∀v,V v->V' v):aI (.load o n x) F L ρ V':=by
 have:=One.mono (T:=fun V=>aI (.loadR o n x) F L ρ V) (eY rfl) V V' a h;exact this
theorem Jh {P:Program}{fl bx:List Nat}{bk:List (Nat×Nat)}{s s':dS}{d:Option Nat}{F:aA}{L:Loc}{ρ:Env}{K:cE}(h:sV fl bk bx s=some s') (l:(cS s'||gH s'||ef s'||oJ s'||hO s')=true) (m:gH s'=false) (f:evalOp P s' d F L ρ K):evalOp P s d F L ρ (fun F' L' ρ'=>Real F' L'->K F' L' ρ'):=by
 rcases vF h with h | ⟨a,n,i,rfl,rfl⟩ | ⟨a,n,i,key,rfl,rfl⟩ | ⟨a,n,i,rfl,rfl⟩ | ⟨i,rfl,rfl⟩
 rotate_left 3
 ·have f:aI (.load a n (.t i)) F L ρ (fun v=>K F L (put d v ρ)):=f;exact EG f fun v h _=>h
 rotate_left
 ·exact Jf h l m f
 ·refine qY (s:=.load a n (.t i)) (s':=.loadD a n (.t i)) rfl rfl rfl ?_;simp only[evalOp,aI] at f ⊢;split at f
  ·rename_i e;simp only[e];exact f
  ·rename_i e;simp only[e];exact f
  ·exact f.elim
 ·refine qY (s:=.load a n (.t i)) (s':=.loadD a n (.t i)) rfl rfl rfl ?_;simp only[evalOp,aI] at f ⊢;split at f
  ·rename_i k off e;simp only[e];split at f
   ·exact f
   ·exact f.elim
  ·exact f.elim
 ·have f:aI (.b2sR (.t i)) F L ρ (fun v=>K F L (put d v ρ)):=f;show aI (.b2s (.t i)) F L ρ (fun v=>Real F L->K F L (put d v ρ));unfold aI at f ⊢
  dsimp only at f ⊢
  split at f
  ·rename_i j n c e;obtain⟨k,ty,p,bs,q,x,w,r⟩:=f;refine⟨bs.map fun b=>Value.int .u8 b.toNat,by simp[x],?_,bs,rfl,fun _=>r⟩;cases j with
   | none=>exact .inr (.inr (.inl (w rfl)))
   | some j=>exact .inr (.inl ⟨k,_,ty,1,n,_,j,p,q,rfl,rfl,fun i u o=>by rw[Nat.zero_add];exact o⟩)
  ·exact f.elim
theorem Gn {P:Program}{fl bx:List Nat}{bk:List (Nat×Nat)}{s s':dS}{d:Option Nat}{F:aA}{L:Loc}{ρ:Env}{K:cE}(h:sV fl bk bx s=some s') (b:gH s'=true) (c:evalOp P s' d F L ρ K):evalOp P s d F L ρ (fun F' L' ρ'=>∃L2,L'.sameAs L2/\(Real F' L2->K F' L2 ρ')):=by
 rcases vF h with h | ⟨a,n,i,rfl,rfl⟩ | ⟨a,n,i,key,rfl,rfl⟩ | ⟨a,n,i,rfl,rfl⟩ | ⟨i,rfl,rfl⟩
 ·exact Jg h b c
 ·cases b
 ·cases b
 ·cases b
 ·cases b
theorem set_comm:∀(L:Loc) {k f:Nat}(o o':Own),k≠f->(L.set k o).set f o'=(L.set f o').set k o:=by
 intro L k f o o' h;have hb:Nat.beq k f=false:=by cases e:Nat.beq k f with | true=>exact xo (yo e) h | false=>rfl
 have b:Nat.beq f k=false:=by cases e:Nat.beq f k with | true=>exact xo (yo e).symm h | false=>rfl
 have a:∀{i j:Nat},Nat.beq i j=false->(Nat.ble i j=true/\Nat.ble j i=false)\/(Nat.ble i j=false/\Nat.ble j i=true):=by
  intro i j u;have w:=eV u;rcases Nat.lt_or_gt_of_ne w with ac | aa
  ·refine .inl ⟨Nat.ble_eq_true_of_le (by omega),?_⟩;cases e:Nat.ble j i with | true=>have:=Xh e;omega | false=>rfl
  ·refine .inr ⟨?_,Nat.ble_eq_true_of_le (by omega)⟩;cases e:Nat.ble i j with | true=>have:=Xh e;omega | false=>rfl
 induction L with
 | nil =>
  simp only[Loc.set,hb,b];rcases a hb with⟨d,n⟩ | ⟨d,n⟩<;>simp only[d,n,Loc.set]
 | cons p l ih =>
  obtain⟨j,q⟩:=p;cases m:Nat.beq j k with
  | true =>
   have:=yo m;subst this;have c:Nat.beq j j=true:=by simp
   simp only[Loc.set,c,hb,b];rcases a hb with⟨d,n⟩ | ⟨d,n⟩
   ·simp only[d,Loc.set,c]
   ·simp only[d,n,Loc.set,c,b]
  | false =>
   cases r:Nat.beq j f with
   | true =>
    have:=yo r;subst this;have c:Nat.beq j j=true:=by simp
    simp only[Loc.set,c,hb,b];rcases a b with⟨d,n⟩ | ⟨d,n⟩
    ·simp only[d,Loc.set,c]
    ·simp only[d,n,Loc.set,c,hb]
   | false =>
    simp only[Loc.set,m,r];rcases a m with⟨t,y⟩ | ⟨t,y⟩<;>rcases a r with⟨s,z⟩ | ⟨s,z⟩
    ·simp only[t,s,Loc.set,m,r,ih]
    ·simp only[t,s,Loc.set,m,r,hb,b];have d:Nat.ble f k=true:=by
      have x1:=Xh t;have x2:=Xh z;exact Nat.ble_eq_true_of_le (by omega)
     simp only[d]
    ·simp only[t,s,Loc.set,m,r,hb,b];have d:Nat.ble k f=true:=by
      have x1:=Xh s;have x2:=Xh y;exact Nat.ble_eq_true_of_le (by omega)
     simp only[d]
    ·rcases a hb with⟨v,x⟩ | ⟨v,x⟩
     ·simp only[t,s,Loc.set,m,r,hb,b,v,x]
     ·simp only[t,s,Loc.set,m,r,hb,b,v,x]
theorem put_comm {d a:Option Nat}{v u:SV}{ρ:Env}(h:∀k,d=some k->a≠some k):put d v (put a u ρ)=put a u (put d v ρ):=by
 funext t
 simp only[put_eq];cases d with
 | none=>rfl
 | some k =>
  cases a with
  | none=>rfl
  | some e =>
   have:=h k rfl;simp only[];split<;>split
   ·rename_i c b;subst c;subst b;exact xo rfl this
   ·rfl
   ·rfl
   ·rfl
def cu:List X->List Nat
 | []=>[]
 | .t n::l=>n::cu l
 | .mt _ n::l=>n::cu l
 | _::l=>cu l
theorem lS:∀{l:List X}{n:Nat},X.t n∈l->n∈cu l
 | [],n,h=>by cases h
 | .t m::l,n,h=>by
  simp only[cu,W7];rcases W7.1 h with h | h
  ·injection h with h;exact .inl h
  ·exact .inr (lS h)
 | .c v::l,n,h=>by
  rcases W7.1 h with h | h
  ·cases h
  ·exact lS (l:=l) h
 | .fn f::l,n,h=>by
  rcases W7.1 h with h | h
  ·cases h
  ·exact lS (l:=l) h
 | .mt nm m::l,n,h=>by
  simp only[cu,W7];rcases W7.1 h with h | h
  ·cases h
  ·exact .inr (lS h)
theorem nC:∀{l:List X}{nm:String}{n:Nat},X.mt nm n∈l->n∈cu l
 | [],_,n,h=>by cases h
 | .t m::l,nm,n,h=>by
  simp only[cu,W7];rcases W7.1 h with h | h
  ·cases h
  ·exact .inr (nC h)
 | .c v::l,nm,n,h=>by
  rcases W7.1 h with h | h
  ·cases h
  ·exact nC (l:=l) h
 | .fn f::l,nm,n,h=>by
  rcases W7.1 h with h | h
  ·cases h
  ·exact nC (l:=l) h
 | .mt a m::l,nm,n,h=>by
  simp only[cu,W7];rcases W7.1 h with h | h
  ·injection h with h1 h2;exact .inl h2
  ·exact .inr (nC h)
theorem fI {l:List X}{d:Option Nat}{v:SV}{ρ:Env}(h:∀k,d=some k->k∉cu l):∀x∈l,ev (put d v ρ) x=ev ρ x:=by
 intro x a;cases x with
 | t n =>
  simp only[ev,put_eq];cases d with
  | none=>rfl
  | some k =>
   simp only[];rw[vv];intro e;subst e;exact h n rfl (lS a)
 | c v=>rfl
 | fn f=>rfl
 | mt nm n =>
  simp only[ev,put_eq];cases d with
  | none=>rfl
  | some k =>
   simp only[];rw[vv];intro e;subst e;exact h n rfl (nC a)
def Vd (L:Loc) (ρ:Env):Prop:=∀t k off,ρ t=.own k off->∃g ty cs,L.get k=some (.box g ty cs)
theorem Vd.ev {L:Loc}{ρ:Env}(h:Vd L ρ) {x:X}{k off:Nat}(e:Fr.ev ρ x=.own k off):∃g ty cs,L.get k=some (.box g ty cs):=by
 cases x with
 | t n=>exact h n k off e
 | c v=>cases e
 | fn f=>cases e
 | mt nm n =>
  simp only[Fr.ev,Og] at e;split at e<;>cases e
def Keeps (L L':Loc):Prop:=∀k g ty cs,L.get k=some (.box g ty cs)->L'.get k=some (.box g ty cs)
theorem Keeps.refl (L:Loc):Keeps L L:=fun _ _ _ _ h=>h
theorem Keeps.trans {L L' L'':Loc}(h:Keeps L L') (a:Keeps L' L''):Keeps L L'':=fun k g ty cs e=>a k g ty cs (h k g ty cs e)
theorem cg {L:Loc}{k j:Nat}{o:Own}(h:j≠k):(L.set k o).get j=L.get j:=by rw[Loc.Wh,vv h]
theorem Keeps.new {L:Loc}{k:Nat}{o:Own}(h:L.get k=none):Keeps L (L.set k o):=fun j g ty cs e=>by
 rw[cg (fun a=>by rw[a,h] at e;cases e)];exact e
theorem Keeps.row {L:Loc}{k:Nat}{v:Value}{t:TypeId}{sz n:Nat}{xs:List Value}{o:Own}(h:L.get k=some (.row v t sz n xs)):Keeps L (L.set k o):=fun j g ty cs e=>by
 rw[cg (fun a=>by rw[a,h] at e;cases e)];exact e
section
variable {P:Program}{F:aA}{L:Loc}{ρ:Env}{K:cE}
theorem CallsA.up {f:Nat}{args:Array Value}{F F1:aA}{R:aA->List Own->Value->Prop}{Lin:List Own}(h:CallsA P f args F Lin R) (n:F.le F1) (hg:qO F):CallsA P f args F1 Lin R:=by
 refine⟨h.ent,h.mono,fun w p=>?_⟩;have s:St F (inp Lin) w:=⟨fun b o e=>p.frz b o (n b o e),p.own,fun k o g e hb=>(by
  cases d:F g with
  | none=>rfl
  | some o1=>have m:=n g o1 d;rw[p.off k o g e hb] at m;cases m),p.sep,hg⟩
 refine(h.run w s).mono ?_;rintro e w' ⟨v,F',Lo,rfl,c,a,hR⟩;have r:∀b o,F1 b=some o->¬(inp Lin).owns b:=by
  rintro b o x ⟨k,o',e,hb⟩;rw[p.off k o' b e hb] at x;cases x
 have q:∀b o,F1 b=some o->w'.heap[b]?=some o:=fun b o e=>by
  have d:=p.frz b o e;rw[a.same b (Array.getElem?_eq_some_iff.1 d).1 (r b o e)];exact d
 have j:F'.le (fun b=>match F' b with | some o=>some o | none=>F1 b):=fun b o e=>by simp only[e]
 refine⟨v,fun b=>match F' b with | some o=>some o | none=>F1 b,Lo,rfl,⟨fun b o e=>?_,c.own,fun k o g e hb=>?_,c.sep,qO.mono j c.glob⟩,⟨fun b o e=>?_,a.os,a.tape,a.output,a.size,a.same,fun b hb=>?_,a.own⟩,h.mono _ _ _ _ j hR⟩
 ·split at e
  ·rename_i o' t;injection e with e
   subst e;exact c.frz b _ t
  ·exact q b o e
 ·have d:=c.off k o g e hb;simp only[d];cases m:F1 g with
  | none=>rfl
  | some u =>
   rcases a.own g ⟨k,o,e,hb⟩ with l | l
   ·exact xo l (r g u m)
   ·have:=(Array.getElem?_eq_some_iff.1 (p.frz g u m)).1;omega
 ·cases d:F' b with
  | none=>exact e
  | some o' =>
   have m:=c.frz b o' d;rw[q b o e] at m;exact m.symm
 ·cases d:F' b with
  | none=>rw[d] at hb;exact .inl hb
  | some o' =>
   rcases a.frz b (by rw[d];simp) with l | l | l
   ·refine .inl (fun h4=>?_);cases y:F b with
    | none=>exact l y
    | some z=>have:=n b z y;rw[h4] at this;cases this
   ·exact .inr (.inl l)
   ·exact .inr (.inr l)
theorem Real.glob {F:aA}{L:Loc}(h:Real F L):qO F:=by obtain⟨w,a⟩:=h;exact a.glob
theorem Real.down {F F':aA}{L L':Loc}(h:Real F' L') (c:F.le F') (j:qO F) (l:L'.part L):Real F L:=by
 obtain⟨w,a⟩:=h;have a:=a.part l;refine⟨w,⟨fun b o e=>a.frz b o (c b o e),a.own,fun k o g e hb=>?_,a.sep,j⟩⟩;cases f:F g with
 | none=>rfl
 | some o'=>have d:=c g o' f;rw[a.off k o g e hb] at d;cases d
theorem Gp {L:Loc}{k:Nat}{o:Own}(h:L.get k=none):(L.set k o).part L:=fun j p e=>by
 rw[cg (fun a=>by rw[a,h] at e;cases e)];exact e
theorem zk {L L1:Loc}{k:Nat}{o:Own}(h:L1.part L) (b:L.get k=none):(L1.set k o).part (L.set k o):=fun j p e=>by
 rw[Loc.Wh] at e ⊢;split
 ·rename_i a;rw[j3 a] at e;exact e
 ·rename_i a;rw[vv a] at e;exact h j p e
def Left (d:Option Nat) (L L':Loc):Prop:=L'=L\/(∃k o,d=some k/\L.get k=none/\L'=L.set k o)\/∃k a t sz n xs,L.get k=some (.row a t sz n xs)/\L'=L.set k (.row (.slice none 0 0) t sz 0 [])
theorem Left.keeps {d:Option Nat}{L L':Loc}(h:Left d L L'):Keeps L L':=by
 rcases h with rfl | ⟨k,o,_,a,rfl⟩ | ⟨k,b,t,sz,n,xs,a,rfl⟩
 ·exact Keeps.refl _
 ·exact Keeps.new a
 ·exact Keeps.row a
theorem xD {L L1:Loc}{k:Nat}{o:Own}(h:L1.part L):(L1.set k o).part (L.set k o):=fun j p e=>by
 rw[Loc.Wh] at e ⊢;split
 ·rename_i a;rw[j3 a] at e;exact e
 ·rename_i a;rw[vv a] at e;exact h j p e
theorem dP.imp {f:Nat}{args:List Value}{F:aA}{L:Loc}{d:Option Nat}{K K':aA->Loc->Value->Prop}(h:dP P f args F L d K) (p:∀F' L' v,F.le F'->Left d L L'->Real F' L'->K F' L' v->K' F' L' v):dP P f args F L d K':=by
 cases h with
 | frz R l j=>exact .frz R l fun v F' Lo a e=>⟨(j v F' Lo a e).1,fun b=>p F' L v a (.inl rfl) b ((j v F' Lo a e).2 b)⟩
 | own R k l w m j =>
  refine .own R k l w m fun v F' Lo a e=>?_;obtain⟨o,u,s⟩:=j v F' Lo a e;exact⟨o,u,fun b=>p F' _ v a (.inr (.inl ⟨k,o,w,m,rfl⟩)) b (s b)⟩
 | row R r q t sz n xs l c j =>
  refine .row R r q t sz n xs l c fun v F' Lo a e=>?_;obtain⟨u,s⟩:=j v F' Lo a e;exact⟨u,fun b=>p F' _ v a (.inr (.inr ⟨r,q,t,sz,n,xs,c,rfl⟩)) b (s b)⟩
 | lent R r q t sz n xs l c j=>exact .lent R r q t sz n xs l c fun v F' a e b=>p F' L v a (.inl rfl) b (j v F' a e b)
theorem dP.up {f:Nat}{args:List Value}{F F1:aA}{L L1:Loc}{d:Option Nat}{K:aA->Loc->Value->Prop}(h:dP P f args F L d K) (b:F.le F1) (x:qO F) (s:L1.part L) (z:∀k,d=some k->L.get k=none->L1.get k=none) :
  dP P f args F1 L1 d (fun F' L' v=>F1.le F'/\Real F' L'/\((L'=L1/\K F' L v)\/(∃k o,d=some k/\L.get k=none/\L'=L1.set k o/\K F' (L.set k o) v)\/∃k q t sz n xs,L.get k=some (.row q t sz n xs)/\L'=L1.set k (.row (.slice none 0 0) t sz 0 [])/\K F' (L.set k (.row (.slice none 0 0) t sz 0 [])) v)):=by
 cases h with
 | frz R l p =>
  refine .frz R (l.up b x) fun v F' Lo a m=>?_;obtain⟨w,u⟩:=p v F' Lo (aA.le_trans b a) m;exact⟨w,fun c=>⟨a,c,.inl ⟨rfl,u (c.down (aA.le_refl _) c.glob s)⟩⟩⟩
 | own R k l y j p =>
  refine .own R k (l.up b x) y (z k y j) fun v F' Lo a m=>?_;obtain⟨o,w,u⟩:=p v F' Lo (aA.le_trans b a) m;exact⟨o,w,fun c=>⟨a,c,.inr (.inl ⟨k,o,y,j,rfl,u (c.down (aA.le_refl _) c.glob (zk s j))⟩)⟩⟩
 | row R r q t sz n xs l e p =>
  refine .row R r q t sz n xs (l.up b x) (s r _ e) fun v F' Lo a m=>?_;obtain⟨w,u⟩:=p v F' Lo (aA.le_trans b a) m;exact⟨w,fun c=>⟨a,c,.inr (.inr ⟨r,q,t,sz,n,xs,e,rfl,u (c.down (aA.le_refl _) c.glob (xD s))⟩)⟩⟩
 | lent R r q t sz n xs l e p =>
  exact .lent R r q t sz n xs (l.up b x) (s r _ e) fun v F' a m c=>⟨a,c,.inl ⟨rfl,p v F' (aA.le_trans b a) m (c.down (aA.le_refl _) c.glob s)⟩⟩
theorem dP.some {f:Nat}{args:List Value}{F:aA}{L:Loc}{d:Option Nat}{K:aA->Loc->Value->Prop}(h:dP P f args F L d K) (hr:Real F L):∃F' L' v,F.le F'/\Left d L L'/\Real F' L'/\K F' L' v:=by
 obtain⟨w,s⟩:=hr;have z:St F (inp []) w:=⟨s.frz,fun k o e=>(by cases e),fun k o g e=>(by cases e),fun k k' o o' g e=>(by cases e),s.glob⟩;cases h with
 | frz R u y =>
  obtain⟨e,w',fr,⟨v,F',Lo,_,l,b,x⟩,_⟩:=u.run w z [];obtain⟨rfl,h3⟩:=y v F' Lo b.le x;have a:Real F' L:=⟨w',(iT (ks:=[]) (ko:=[]) s rfl List.nodup_nil List.nodup_nil (fun _ h=>(by cases h)) l b rfl).1⟩;exact⟨F',L,v,b.le,.inl rfl,a,h3 a⟩
 | own R k u hd aa y =>
  obtain⟨e,w',fr,⟨v,F',Lo,_,l,b,x⟩,_⟩:=u.run w z [];obtain⟨o,rfl,h3⟩:=y v F' Lo b.le x;have a:Real F' (L.set k o):=⟨w',(iT (ks:=[]) (ko:=[k]) s rfl List.nodup_nil (by simp) (fun j r=>.inr (by simp at r;rw[r];exact aa)) l b rfl).1⟩;exact⟨F',_,v,b.le,.inr (.inl ⟨k,o,hd,aa,rfl⟩),a,h3 a⟩
 | row R q rv t sz n xs u m y =>
  have c:L.sub [q]=Option.some [.row rv t sz n xs]:=by simp only[Loc.sub,m]
  obtain⟨e,w',fr,⟨v,F',Lo,_,l,b,x⟩,_⟩:=u.run w (s.handed c (by simp)) [];obtain⟨rfl,h3⟩:=y v F' Lo b.le x;have hb:=(iT (ks:=[q]) (ko:=[]) s c (by simp) List.nodup_nil (fun _ h=>(by cases h)) l b rfl).1;have a:Real F' (L.set q (.row (.slice none 0 0) t sz 0 [])):=by
   have h5:((L.Wi [q]).puts [] []).get q=none:=by simp only[Loc.Wi,Loc.puts,Loc.Wm,j3]
   have h6:=hb.put h5 (o:=.row (.slice none 0 0) t sz 0 []) (World.ownsRow_nil w' 0 t sz) (fun g hg=>by cases hg);refine⟨w',h6.part fun j p e=>?_⟩;rw[Loc.Wh] at e ⊢;split at e
   ·rename_i r;rw[j3 r];exact e
   ·rename_i r;rw[vv r];simp only[Loc.Wi,Loc.puts,Loc.Wm,vv r];exact e
  exact⟨F',_,v,b.le,.inr (.inr ⟨q,rv,t,sz,n,xs,m,rfl⟩),a,h3 a⟩
 | lent R q rv t sz n xs u m y =>
  have c:L.sub [q]=Option.some [.row rv t sz n xs]:=by simp only[Loc.sub,m]
  obtain⟨e,w',fr,⟨v,F',Lo,_,l,b,⟨rfl,x⟩⟩,_⟩:=u.run w (s.handed c (by simp)) [];have hb:=(iT (ks:=[q]) (ko:=[q]) s c (by simp) (by simp) (fun _ h=>.inl h) l b rfl).1;have a:Real F' L:=by
   refine⟨w',hb.part fun j p e=>?_⟩;simp only[Loc.Wi,Loc.puts,Loc.Wh,Loc.Wm];split
   ·rename_i r;rw[r,m] at e;exact e
   ·exact e
  exact⟨F',L,v,b.le,.inl rfl,a,y v F' b.le x a⟩
theorem oW.imp {F F':aA}{L:Loc}{d:Option Nat}{e sz b:Nat}{s x:Value}{K K':Loc->Value->Prop}(h:oW F L d e sz b s x K) (l:F.le F')
  (t:∀j n xs n' k v,(L.get j=some (.row s e sz n xs)\/(d=some j/\L.get j=none))->Real F' (L.set j (.row v e sz n' k))->(Real F (L.set j (.row v e sz n' k))->K (L.set j (.row v e sz n' k)) v)->K' (L.set j (.row v e sz n' k)) v):oW F' L d e sz b s x K':=by
 obtain⟨j,n,xs,m,news,a,⟨p,c,h2,h3,o⟩,h5,z,u,r⟩:=h;refine⟨j,n,xs,m,news,?_,⟨p,c,h2,h3,?_⟩,h5,z,u,fun v hv q=>t j n xs _ _ v ?_ q (r v hv)⟩
 ·rcases a with a | a | ⟨a,f,p,y,q2,w,q4⟩
  ·exact .inl a
  ·exact .inr (.inl a)
  ·exact .inr (.inr ⟨a,f,p,y,q2,w,q4.imp (·.mono l) id⟩)
 ·rcases o with o | o
  ·exact .inl (o.mono l)
  ·exact .inr o
 ·rcases a with a | ⟨a,f,_⟩ | ⟨a,f,_⟩
  ·exact .inl a
  ·exact .inr ⟨a,f⟩
  ·exact .inr ⟨a,f⟩
theorem EH {L L1:Loc}{k:Nat}{o:Own}(h:L1.part L):(L1.set k o).part (L.set k o):=fun j p e=>by
 rw[Loc.Wh] at e ⊢;split
 ·rename_i a;rw[j3 a] at e;exact e
 ·rename_i a;rw[vv a] at e;exact h j p e
theorem AL {e sz b:Nat}{zs:List Value}{s x:X}{d:Option Nat}:evalOp P (.appD e sz b zs s x) d F L ρ K=(match ev ρ s,ev ρ x with
  | .v sv,.v a=>oW F L d e sz b sv a fun L1 v=>K F L1 (put d (.v v) ρ)
  | _,_=>False):=rfl
theorem Real.store {F:aA}{L:Loc}{k g:Nat}{t:TypeId}{cs cs':List Value}(c:t≠0) (m:Real F L) (j:L.get k=Option.some (.box g t cs)):Real F (L.set k (.box g t cs')):=by
 obtain⟨w,l⟩:=m;have a:=lf w g cs'.toArray;refine⟨w.setRow g cs'.toArray,l.turn j ?_ (fun b f d=>a.block b f (fun e=>d (by rw[e];rfl))) (fun o h=>.inl h)⟩;show _=_;have n:w.heap[g]?=Option.some (.cells cs.toArray t (0,0)):=by rw[<-gD c];exact l.own k _ j
 rw[gD c];exact setRow_heap w g cs.toArray _ t _ n
theorem oW.some {F:aA}{L:Loc}{d:Option Nat}{e sz b:Nat}{s x:Value}{K:Loc->Value->Prop}(h:oW F L d e sz b s x K) (hr:Real F L) :
  ∃a v n' u,((∃n xs,L.get a=some (.row s e sz n xs))\/(d=some a/\L.get a=none))/\Real F (L.set a (.row v e sz n' u))/\K (L.set a (.row v e sz n' u)) v:=by
 obtain⟨a,n,xs,m,news,k,⟨ad,c,h2,h3,h4⟩,h5,h6,h7,h8⟩:=h;obtain⟨w,hs⟩:=hr;have o:xs.length=n*sz:=by
  rcases k with k | ⟨_,_,rfl,rfl,_⟩ | ⟨_,_,_,_,_,q,_⟩
  ·exact(hs.own a _ k).1
  ·simp
  ·exact q
 have r:=ld w (xs++news) e (n+m) sz h6 (by rw[W8,o,h3,Nat.add_mul]);have aa:St F (L.del a) w:=hs.part (fun j p e=>by rw[Loc.Wm] at e;split at e;cases e;exact e);have ab:(L.del a).get a=none:=by rw[Loc.Wm,j3 rfl]
 have z:=(jM aa ab (cs:=(xs++news).toArray) (t:=e) (e:=.row (.slice (Option.some ⟨w.heap.size,0,none⟩) (n+m) (n+m)) e sz (n+m) (xs++news)) rfl r).1;have f:Real F (L.set a (.row (.slice (Option.some ⟨w.heap.size,0,none⟩) (n+m) (n+m)) e sz (n+m) (xs++news))) :=
  ⟨_,z.part (fun j p e=>by
   rw[Loc.Wh] at e ⊢;split
   ·rename_i y;rw[j3 y] at e;exact e
   ·rename_i y;rw[vv y] at e;rw[Loc.Wm,vv y];exact e)⟩
 refine⟨a,_,n+m,xs++news,?_,f,h8 _ ⟨_,_,rfl,fun e=>(by cases e)⟩ f⟩;rcases k with k | ⟨k,l,_⟩ | ⟨k,l,_⟩
 ·exact .inl ⟨n,xs,k⟩
 ·exact .inr ⟨k,l⟩
 ·exact .inr ⟨k,l⟩
def Cm (o:dS):Bool:=cS o||gH o||ef o||oJ o
def okD (o:dS):Bool:=Cm o||hO o
theorem sW {o:dS}{d:Option Nat}{v:SV}(h:∀k,d=some k->k∉cu (bD o)):Alike o L L ρ (put d v ρ) :=
 fun x a=>⟨fI h x a,fun _ _ _=>rfl⟩
theorem vG {o:dS}(ho:okD o=true) {d y:Option Nat}{u:SV}(h:∀k,y=some k->k∉cu (bD o)) (q:∀k,d=some k->y≠some k)
  (c:evalOp P o d F L ρ (fun F1 L1 ag=>K F1 L1 (put y u ag))):evalOp P o d F L (put y u ρ) K:=by
 by_cases hs:cS o=true
 ·rw[cn hs] at c ⊢;have:=qk hs (aA.le_refl F) (sW (L:=L) (ρ:=ρ) (v:=u) h) c;refine(eY hs).mono _ _ (fun v r=>?_) this;rw[put_comm q];exact r
 ·have r:∀x∈bD o,val L (put y u ρ) x=val L ρ x:=fun x hx=>by simp only[val,fI h x hx]
  cases o<;>first | (exfalso;revert hs ho;simp[okD,Cm,cS,gH,ef,oJ,hO];done) | skip
  case boxD t x =>
   have e:=r x (by simp[bD]);simp only[evalOp,e] at c ⊢;split at c
   ·rename_i k;split at c
    ·intro g p;have:=c g p;rw[put_comm q];exact this
    ·exact c
   ·exact c
  case allocD t zs =>
   simp only[evalOp] at c ⊢;split at c
   ·rename_i k;split at c
    ·intro g p;have:=c g p;rw[put_comm q];exact this
    ·exact c
   ·exact c
  case mkFD e n sz xs =>
   have m:=mL (sz:=sz) (xs:=xs) r;have z:=cq (xs:=xs) r;simp only[evalOp,m,z] at c ⊢;split at c
   ·intro g F' ad hg p;rw[put_comm q];exact c g F' ad hg p
   ·exact c
  case callD f args =>
   have m:=di (xs:=args) r;simp only[evalOp,m] at c ⊢;refine c.imp fun F' L' v _ _ _ h=>?_;rw[put_comm q];exact h
  case callVD f args =>
   have w:=fI (v:=u) (ρ:=ρ) h f (by simp[bD]);have m:=di (xs:=args) (L:=L) (L':=L) (ρ:=ρ) (ρ':=put y u ρ) (fun x hx=>r x (by simp[bD,hx]));simp only[evalOp,w,m] at c ⊢;split at c
   ·refine c.imp fun F' L' v _ _ _ h=>?_;rw[put_comm q];exact h
   ·exact c
  case appD e sz b zs s x =>
   have w:=fI (v:=u) (ρ:=ρ) h s (by simp[bD]);have m:=fI (v:=u) (ρ:=ρ) h x (by simp[bD]);simp only[evalOp,w,m] at c ⊢;split at c
   ·refine c.imp (aA.le_refl F) fun kd n xs n' an v _ p h=>?_;rw[put_comm q];exact h p
   ·exact c
  case makeSD e sz n zs =>
   simp only[evalOp] at c ⊢;split at c
   ·rename_i k;split at c
    ·intro g p;have:=c g p;rw[put_comm q];exact this
    ·exact c
   ·exact c
  case makeSV e sz b zs x =>
   have m:=r x (by simp[bD]);simp only[evalOp,m] at c ⊢;split at c
   ·rename_i k;split at c
    ·intro g p;have:=c g p;rw[put_comm q];exact this
    ·exact c
   ·exact c
  case storeD n a x =>
   obtain⟨n',a',x',k,off,g,t,cs,j,m,z,e3,e4,e5,c⟩:=hU rfl c;have w:=fI (v:=u) (ρ:=ρ) h a (by simp[bD]);have l:=r x (by simp[bD]);rcases j with j | j
   ·injection j with q1 q2 q3
    subst q1 q2 q3;exact gP (.inl rfl) (by rw[l];exact m) (by rw[l];exact z) (by rw[w];exact e3) e4 e5 (by rw[l,put_comm q];exact c)
   ·cases j
  case storeK key n a x =>
   obtain⟨n',a',x',k,off,g,t,cs,j,m,z,e3,e4,e5,c⟩:=hU rfl c;have w:=fI (v:=u) (ρ:=ρ) h a (by simp[bD]);have l:=r x (by simp[bD]);rcases j with j | j
   ·cases j
   ·injection j with q0 q1 q2 q3
    subst q0 q1 q2 q3;exact gP (.inr rfl) (by rw[l];exact m) (by rw[l];exact z) (by rw[w];exact e3) e4 e5 (by rw[l,put_comm q];exact c)
def sZ:dS->dS->Bool
 | .build _ _,_=>true
 | .mkfn _ _ _,_=>true
 | .loadK k _ _ _,.storeK a _ _ _=>match Nat.beq k a with | true=>false | false=>true
 | x,_=>AJ x
theorem qF {x y:dS}(h:sZ x y=true):cS x=true:=by
 unfold sZ at h;split at h
 ·rfl
 ·rfl
 ·rfl
 ·exact AK h
theorem yp {x y:dS}{k n:Nat}{a z:X}{L L':Loc}{V:SV->Prop}(h:sZ x y=true) (d:y=.storeD n a z\/y=.storeK k n a z) (o:∀sv,conc L' sv=conc L sv) (r:∀j,j≠k->L'.get j=L.get j) (c:aI x F L ρ V):aI x F L' ρ V:=by
 unfold sZ at h;split at h
 ·rename_i zs ps;have e:=pB (ps:=ps) (zs:=zs) (L:=L) (L':=L') (ρ:=ρ) (ρ':=ρ) (fun p _=>o _);simp only[aI,e] at c ⊢;exact c
 ·rename_i f a b;have q:=di (xs:=a) (L:=L) (L':=L') (ρ:=ρ) (ρ':=ρ) (fun _ _=>o _);have s:=di (xs:=b) (L:=L) (L':=L') (ρ:=ρ) (ρ':=ρ) (fun _ _=>o _);simp only[aI,q,s] at c ⊢;exact c
 ·rename_i u ag m x w v t x2;rcases d with d | d
  ·cases d
  ·injection d with q0 q1 q2 q3
   subst q0;split at h
   ·cases h
   ·rename_i hb;have hb:=eV hb;simp only[aI] at c ⊢;split at c
    ·rename_i k3 off e;split at c
     ·rename_i l;have l:=yo l;subst l;simp only[r _ hb];exact c
     ·exact c.elim
    ·exact c.elim
 ·exact yh h c
theorem AO {L:Loc}{k g:Nat}{t:TypeId}{cs cs':List Value}(b:L.get k=some (.box g t cs)) (sv:SV):conc (L.set k (.box g t cs')) sv=conc L sv:=by
 cases sv with
 | v u=>rfl
 | el a j=>rfl
 | own j off =>
  simp only[conc,Loc.Wh]
  by_cases e:j=k
  ·subst e;rw[j3 rfl,b]
  ·rw[vv e]
def vH (x y:dS):Bool:=(cS x&&Cm y&&(!Gl x||cS y))||(gH x&&ef y)||(oJ x&&ef y)||(ef x&&ef y)||(sZ x y&&hO y)||(hO x&&sZ y x)
inductive Made:dS->Option Nat->aA->Loc->Env->aA->Loc->SV->Prop
 | box {t:TypeId}{x:X}{k:Nat}{F:aA}{L:Loc}{ρ:Env}(g:Nat):Made (.boxD t x) (some k) F L ρ F (L.set k (.box g t (aH (val L ρ x)))) (.own k 0)
 | alloc {t:TypeId}{zs:List Value}{k:Nat}{F:aA}{L:Loc}{ρ:Env}(g:Nat):Made (.allocD t zs) (some k) F L ρ F (L.set k (.box g t zs)) (.own k 0)
 | mkS {e:TypeId}{sz n:Nat}{zs:List Value}{k:Nat}{F:aA}{L:Loc}{ρ:Env}(g:Nat):Made (.makeSD e sz n zs) (some k) F L ρ F (L.set k (.row (.slice (some ⟨g,0,none⟩) n n) e sz n (List.replicate n zs).flatten)) (.v (.slice (some ⟨g,0,none⟩) n n))
 | mkV {e:TypeId}{sz b:Nat}{zs:List Value}{x:X}{k:Nat}{F:aA}{L:Loc}{ρ:Env}(g n:Nat) (hn:n=lN (val L ρ x)):Made (.makeSV e sz b zs x) (some k) F L ρ F (L.set k (.row (.slice (some ⟨g,0,none⟩) n n) e sz n (List.replicate n zs).flatten)) (.v (.slice (some ⟨g,0,none⟩) n n))
 | mkF {e:TypeId}{n sz:Nat}{xs:List X}{d:Option Nat}{F:aA}{L:Loc}{ρ:Env}(g:Nat) (F':aA) (hle:F.le F') (hg:F' g=some (.cells (cellsOf L ρ xs).toArray e (0,0))) :
   Made (.mkFD e n sz xs) d F L ρ F' L (.v (.slice (some ⟨g,0,none⟩) n n))
def bI:dS->Option Nat->Loc->Env->Bool
 | .boxD _ _,some k,L,_=>(L.get k).isNone
 | .allocD _ _,some k,L,_=>(L.get k).isNone
 | .makeSD _ sz n zs,some k,L,_=>match L.get k,eT zs sz,Nat.ble n 9223372036854775807 with | none,true,true=>true | _,_,_=>false
 | .makeSV _ sz b zs x,some k,L,ρ=>match L.get k,eT zs sz,rN b (val L ρ x) with | none,true,true=>true | _,_,_=>false
 | .mkFD _ _ sz xs,_,L,ρ=>eU L ρ sz xs
 | _,_,_,_=>false
theorem bP {o:dS}(h:ef o=true) {d:Option Nat}:evalOp P o d F L ρ K↔bI o d L ρ=true/\∀F' L' v,Made o d F L ρ F' L' v->Real F' L'->K F' L' (put d v ρ):=by
 cases o<;>first | (exfalso;revert h;simp[ef];done) | skip
 case boxD t x =>
  simp only[evalOp];cases d with
  | none=>simp[bI]
  | some k =>
   simp only[bI];cases j:L.get k with
   | none =>
    simp only[Option.isNone_none,true_and];constructor
    ·rintro h F' L' v c a;cases c with
     | box g=>exact h g a
    ·intro h g a;exact h _ _ _ (.box g) a
   | some p=>simp
 case allocD t zs =>
  simp only[evalOp];cases d with
  | none=>simp[bI]
  | some k =>
   simp only[bI];cases j:L.get k with
   | none =>
    simp only[Option.isNone_none,true_and];constructor
    ·rintro h F' L' v c a;cases c with
     | alloc g=>exact h g a
    ·intro h g a;exact h _ _ _ (.alloc g) a
   | some p=>simp
 case makeSD e sz n zs =>
  simp only[evalOp];cases d with
  | none=>simp[bI]
  | some k =>
   simp only[bI];cases j:L.get k with
   | some p=>simp
   | none =>
    cases m:eT zs sz with
    | false=>simp
    | true =>
     cases r:Nat.ble n 9223372036854775807 with
     | false=>simp
     | true =>
      simp only[true_and];constructor
      ·rintro h F' L' v c a;cases c with
       | mkS g=>exact h g a
      ·intro h g a;exact h _ _ _ (.mkS g) a
 case makeSV e sz b zs x =>
  simp only[evalOp];cases d with
  | none=>simp[bI]
  | some k =>
   simp only[bI];cases j:L.get k with
   | some p=>simp
   | none =>
    cases m:eT zs sz with
    | false=>simp
    | true =>
     cases r:rN b (val L ρ x) with
     | false=>simp
     | true =>
      simp only[true_and];constructor
      ·rintro h F' L' v c a;cases c with
       | mkV g n q=>subst q;exact h g a
      ·intro h g a;exact h _ _ _ (.mkV g _ rfl) a
 case mkFD e n sz xs =>
  simp only[evalOp,bI];cases s:eU L ρ sz xs with
  | false=>simp
  | true =>
   simp only[true_and];constructor
   ·rintro h F' L' v c a;cases c with
    | mkF g F' f l=>exact h g _ f l a
   ·intro h g F' f l a;exact h _ _ _ (.mkF g F' f l) a
theorem zl:∀{l:List Value}{n:Nat},l.length=n->eT l n=true
 | [],0,_=>rfl
 | _::l,n+1,h=>zl (l:=l) (by simpa using h)
theorem nD {e:TypeId}{sz n k:Nat}{zs:List Value}(h:bI (.makeSD e sz n zs) (some k) L ρ=true):L.get k=none/\zs.length=sz/\n<=maxLen:=by
 simp only[bI] at h;split at h
 ·rename_i b a c;exact⟨b,gZ a,Xh c⟩
 ·cases h
theorem nE {e:TypeId}{sz b k:Nat}{zs:List Value}{x:X}(h:bI (.makeSV e sz b zs x) (some k) L ρ=true):L.get k=none/\zs.length=sz/\lN (val L ρ x)<=maxLen/\rN b (val L ρ x)=true:=by
 simp only[bI] at h;split at h
 ·rename_i d c a;exact⟨d,gZ c,Eu a,a⟩
 ·cases h
theorem yq {o:dS}{d:Option Nat}(y:Real F L) (h:bI o d L ρ=true):∃F' L' v,Made o d F L ρ F' L' v/\F.le F'/\Real F' L':=by
 obtain⟨w,j⟩:=y;have f:∀(e:TypeId) (cs:List Value),∃F',F.le F'/\F' w.heap.size=some (.cells cs.toArray e (0,0))/\Real F' L:=by
  intro e cs;have c:=fR w (.cells cs.toArray e);obtain⟨z,q⟩:=o8 j;exact⟨_,aA.Ww (j.alloc (.cells cs.toArray e)) c,j3 rfl,⟨_,(j.alloc (.cells cs.toArray e)).freeze c q⟩⟩
 cases o<;>cases d<;>simp only[bI] at h<;>try (cases h;done)
 ·rename_i t x k;rw[Option.isNone_iff_eq_none] at h;refine⟨_,_,_,.box w.heap.size,aA.le_refl F,⟨_,(lO j h (ob:=kO t (aH (val L ρ x))) (e:=.box w.heap.size t (aH (val L ρ x))) rfl ?_).1⟩⟩;show _=_;rw[fR]
 ·rename_i t zs k;rw[Option.isNone_iff_eq_none] at h;refine⟨_,_,_,.alloc w.heap.size,aA.le_refl F,⟨_,(lO j h (ob:=kO t zs) (e:=.box w.heap.size t zs) rfl ?_).1⟩⟩;show _=_;rw[fR]
 ·rename_i e n sz xs;obtain⟨F',l,s,r⟩:=f e (cellsOf L ρ xs);exact⟨F',L,_,.mkF w.heap.size F' l s,l,r⟩
 ·rename_i e n sz xs k;obtain⟨F',l,s,r⟩:=f e (cellsOf L ρ xs);exact⟨F',L,_,.mkF w.heap.size F' l s,l,r⟩
 ·rename_i e sz n zs k;obtain⟨m,p,u⟩:=nD (ρ:=ρ) (e:=e) h;have a:=ld w (List.replicate n zs).flatten e n sz u (by rw[List.length_flatten];simp[p]);refine⟨_,_,_,.mkS w.heap.size,aA.le_refl F,⟨_,(jM j m (cs:=((List.replicate n zs).flatten).toArray) (t:=e) (e:=.row (.slice (some ⟨w.heap.size,0,none⟩) n n) e sz n (List.replicate n zs).flatten) rfl a).1⟩⟩
 ·rename_i e sz b zs x k;obtain⟨m,p,u,_⟩:=nE (e:=e) h;have a:=ld w (List.replicate (lN (val L ρ x)) zs).flatten e (lN (val L ρ x)) sz u (by rw[List.length_flatten];simp[p]);refine⟨_,_,_,.mkV w.heap.size _ rfl,aA.le_refl F,⟨_,(jM j m (cs:=((List.replicate (lN (val L ρ x)) zs).flatten).toArray) (t:=e) (e:=.row (.slice (some ⟨w.heap.size,0,none⟩) (lN (val L ρ x)) (lN (val L ρ x))) e sz (lN (val L ρ x)) (List.replicate (lN (val L ρ x)) zs).flatten) rfl a).1⟩⟩
theorem Made.le {o:dS}{d:Option Nat}{F':aA}{L':Loc}{v:SV}(h:Made o d F L ρ F' L' v):F.le F':=by
 cases h with
 | box g=>exact aA.le_refl _
 | alloc g=>exact aA.le_refl _
 | mkS g=>exact aA.le_refl _
 | mkV g n c=>exact aA.le_refl _
 | mkF g F' a b=>exact a
theorem Made.part {o:dS}{d:Option Nat}{F':aA}{L':Loc}{v:SV}(a:bI o d L ρ=true) (h:Made o d F L ρ F' L' v):L'.part L:=by
 intro j p e;cases h with
 | box g =>
  simp only[bI,Option.isNone_iff_eq_none] at a;rw[cg (fun h=>by rw[h] at e;rw[a] at e;cases e)];exact e
 | alloc g =>
  simp only[bI,Option.isNone_iff_eq_none] at a;rw[cg (fun h=>by rw[h] at e;rw[a] at e;cases e)];exact e
 | mkS g =>
  have a:=(nD a).1;rw[cg (fun h=>by rw[h] at e;rw[a] at e;cases e)];exact e
 | mkV g n c =>
  have a:=(nE a).1;rw[cg (fun h=>by rw[h] at e;rw[a] at e;cases e)];exact e
 | mkF g F' b f=>exact e
theorem Made.get {o:dS}{d:Option Nat}{F':aA}{L':Loc}{v:SV}(a:bI o d L ρ=true) (h:Made o d F L ρ F' L' v):Keeps L L':=by
 cases h with
 | box g =>
  simp only[bI,Option.isNone_iff_eq_none] at a;exact Keeps.new a
 | alloc g =>
  simp only[bI,Option.isNone_iff_eq_none] at a;exact Keeps.new a
 | mkS g=>exact Keeps.new (nD a).1
 | mkV g n e=>exact Keeps.new (nE a).1
 | mkF g F' b c=>exact Keeps.refl _
theorem Made.frame {o:dS}{d:Option Nat}{F':aA}{L':Loc}{v:SV}(h:Made o d F L ρ F' L' v):∀j,d≠some j->L'.get j=L.get j:=by
 intro j a;cases h with
 | box g=>exact cg (fun e=>a (by rw[e]))
 | alloc g=>exact cg (fun e=>a (by rw[e]))
 | mkS g=>exact cg (fun e=>a (by rw[e]))
 | mkV g n c=>exact cg (fun e=>a (by rw[e]))
 | mkF g F' b f=>rfl
theorem ia {o:dS}{d:Option Nat}{L L':Loc}{ρ ρ':Env}(l:∀x∈bD o,val L' ρ' x=val L ρ x) (c:∀k,d=some k->(L'.get k=none->L.get k=none)) (h:bI o d L' ρ'=true):bI o d L ρ=true:=by
 cases o<;>cases d<;>simp only[bI] at h ⊢<;>try (cases h;done)
 ·rename_i t x k;rw[Option.isNone_iff_eq_none] at h ⊢;exact c k rfl h
 ·rename_i t zs k;rw[Option.isNone_iff_eq_none] at h ⊢;exact c k rfl h
 ·rename_i e n sz xs;rw[<-mL (xs:=xs) l];exact h
 ·rename_i e n sz xs k;rw[<-mL (xs:=xs) l];exact h
 ·rename_i e sz n zs k;obtain⟨f,j,a⟩:=nD (L:=L') (ρ:=ρ') (e:=e) h;have a:Nat.ble n 9223372036854775807=true:=Nat.ble_eq_true_of_le a;rw[c k rfl f,zl j,a]
 ·rename_i e sz b zs x k;obtain⟨f,j,_,a⟩:=nE (L:=L') (ρ:=ρ') (e:=e) h;rw[l x (by simp[bD])] at a;rw[c k rfl f,zl j,a]
theorem Made.like {o:dS}{d:Option Nat}{ρ ρ':Env}{F':aA}{L':Loc}{v:SV}(b:∀x∈bD o,val L ρ' x=val L ρ x) (h:Made o d F L ρ' F' L' v):Made o d F L ρ F' L' v:=by
 cases h with
 | box g=>rw[b _ (by simp[bD])];exact .box g
 | alloc g=>exact .alloc g
 | mkS g=>exact .mkS g
 | mkV g n e=>exact .mkV g n (by rw[e,b _ (by simp[bD])])
 | mkF g F' a c =>
  rename_i xs;rw[cq (xs:=xs) b] at c;exact .mkF g F' a c
theorem fJ {L L':Loc}{ρ:Env}(b:Vd L ρ) (c:Keeps L L') (x:X):val L' ρ x=val L ρ x:=by
 simp only[val];cases e:ev ρ x with
 | v u=>rfl
 | el a j=>rfl
 | own k off =>
  obtain⟨g,ty,cs,h⟩:=b.ev e;simp only[conc,c k g ty cs h,h]
theorem cI {l:List X}{d:Option Nat}{v:SV}(h:∀k,d=some k->k∉cu l):∀x∈l,val L (put d v ρ) x=val L ρ x:=fun x a=>by simp only[val,fI h x a]
theorem EI {x y:dS}{dx dy:Option Nat}{F1 F2:aA}{L1 L2:Loc}{v1 v2:SV}(s:bI x dx L ρ=true) (ay:bI y dy L ρ=true) (f:∀k,dx=some k->k∉cu (bD y)) (az:∀k,dy=some k->k∉cu (bD x))
  (d:∀k,dx=some k->dy≠some k) (j:Vd L ρ) (h1:Made y dy F L ρ F1 L1 v1) (h2:Made x dx F1 L1 (put dy v1 ρ) F2 L2 v2) :
  ∃Fa La,Made x dx F L ρ Fa La v2/\Made y dy Fa La (put dx v2 ρ) F2 L2 v1:=by
 have ux:∀z∈bD x,val L1 (put dy v1 ρ) z=val L ρ z:=fun z hz=>by
  rw[cI az z hz,fJ j (h1.get ay)]
 cases h2 with
 | box c =>
  rw[ux _ (by simp[bD])];rename_i t z k;have a:∀{o:Own},Keeps L (L.set k o):=by
   simp only[bI,Option.isNone_iff_eq_none] at s;exact Keeps.new s
  cases h1 with
  | box b =>
   rename_i t' q k';refine⟨F,_,.box c,?_⟩;rw[set_comm L _ _ (fun e=>d k rfl (by rw[e]))];have e:val (L.set k (.box c t (aH (val L ρ z)))) (put (some k) (.own k 0) ρ) q=val L ρ q:=by
    rw[cI f q (by simp[bD]),fJ j (a)]
   rw[<-e];exact .box b
  | alloc b =>
   rename_i t' ag k';refine⟨F,_,.box c,?_⟩;rw[set_comm L _ _ (fun e=>d k rfl (by rw[e]))];exact .alloc b
  | mkS b =>
   refine⟨F,_,.box c,?_⟩;rw[set_comm L _ _ (fun e=>d k rfl (by rw[e]))];exact .mkS b
  | mkV b n1 p =>
   refine⟨F,_,.box c,?_⟩;rw[set_comm L _ _ (fun e=>d k rfl (by rw[e]))];refine .mkV b n1 ?_;rw[p,cI f _ (by simp[bD]),fJ j a]
  | mkF b F' h r =>
   rename_i e' n' ab m;refine⟨F,_,.box c,.mkF b _ h ?_⟩;rw[cq (L:=L) (ρ:=ρ) (xs:=m) (fun u hu=>by rw[cI f u (by simpa[bD] using hu),fJ j a])];exact r
 | alloc c =>
  rename_i t zs k;have a:∀{o:Own},Keeps L (L.set k o):=by
   simp only[bI,Option.isNone_iff_eq_none] at s;exact Keeps.new s
  cases h1 with
  | box b =>
   rename_i t' q k';refine⟨F,_,.alloc c,?_⟩;rw[set_comm L _ _ (fun e=>d k rfl (by rw[e]))];have e:val (L.set k (.box c t zs)) (put (some k) (.own k 0) ρ) q=val L ρ q:=by
    rw[cI f q (by simp[bD]),fJ j (a)]
   rw[<-e];exact .box b
  | alloc b =>
   rename_i t' ag k';refine⟨F,_,.alloc c,?_⟩;rw[set_comm L _ _ (fun e=>d k rfl (by rw[e]))];exact .alloc b
  | mkS b =>
   refine⟨F,_,.alloc c,?_⟩;rw[set_comm L _ _ (fun e=>d k rfl (by rw[e]))];exact .mkS b
  | mkV b n1 p =>
   refine⟨F,_,.alloc c,?_⟩;rw[set_comm L _ _ (fun e=>d k rfl (by rw[e]))];refine .mkV b n1 ?_;rw[p,cI f _ (by simp[bD]),fJ j a]
  | mkF b F' h r =>
   rename_i e' n' ab m;refine⟨F,_,.alloc c,.mkF b _ h ?_⟩;rw[cq (L:=L) (ρ:=ρ) (xs:=m) (fun u hu=>by rw[cI f u (by simpa[bD] using hu),fJ j a])];exact r
 | mkS c =>
  rename_i t am l zs k;have a:∀{o:Own},Keeps L (L.set k o):=by
   exact Keeps.new (nD s).1
  cases h1 with
  | box b =>
   rename_i t' q k';refine⟨F,_,.mkS c,?_⟩;rw[set_comm L _ _ (fun e=>d k rfl (by rw[e]))];have e:val (L.set k (.row (.slice (some ⟨c,0,none⟩) l l) t am l (List.replicate l zs).flatten)) (put (some k) (.v (.slice (some ⟨c,0,none⟩) l l)) ρ) q=val L ρ q:=by
    rw[cI f q (by simp[bD]),fJ j (a)]
   rw[<-e];exact .box b
  | alloc b =>
   rename_i t' ag k';refine⟨F,_,.mkS c,?_⟩;rw[set_comm L _ _ (fun e=>d k rfl (by rw[e]))];exact .alloc b
  | mkS b =>
   refine⟨F,_,.mkS c,?_⟩;rw[set_comm L _ _ (fun e=>d k rfl (by rw[e]))];exact .mkS b
  | mkV b n1 p =>
   refine⟨F,_,.mkS c,?_⟩;rw[set_comm L _ _ (fun e=>d k rfl (by rw[e]))];refine .mkV b n1 ?_;rw[p,cI f _ (by simp[bD]),fJ j a]
  | mkF b F' h r =>
   rename_i e' n' ab m;refine⟨F,_,.mkS c,.mkF b _ h ?_⟩;rw[cq (L:=L) (ρ:=ρ) (xs:=m) (fun u hu=>by rw[cI f u (by simpa[bD] using hu),fJ j a])];exact r
 | mkV c l ap =>
  rename_i t am b0 zs x0 k;have w:l=lN (val L ρ x0):=by rw[ap,ux _ (by simp[bD])]
  clear ap
  have a:∀{o:Own},Keeps L (L.set k o):=by
   exact Keeps.new (nE s).1
  cases h1 with
  | box b =>
   rename_i t' q k';refine⟨F,_,.mkV c l w,?_⟩;rw[set_comm L _ _ (fun e=>d k rfl (by rw[e]))];have e:val (L.set k (.row (.slice (some ⟨c,0,none⟩) l l) t am l (List.replicate l zs).flatten)) (put (some k) (.v (.slice (some ⟨c,0,none⟩) l l)) ρ) q=val L ρ q:=by
    rw[cI f q (by simp[bD]),fJ j (a)]
   rw[<-e];exact .box b
  | alloc b =>
   rename_i t' ag k';refine⟨F,_,.mkV c l w,?_⟩;rw[set_comm L _ _ (fun e=>d k rfl (by rw[e]))];exact .alloc b
  | mkS b =>
   refine⟨F,_,.mkV c l w,?_⟩;rw[set_comm L _ _ (fun e=>d k rfl (by rw[e]))];exact .mkS b
  | mkV b n1 p =>
   refine⟨F,_,.mkV c l w,?_⟩;rw[set_comm L _ _ (fun e=>d k rfl (by rw[e]))];refine .mkV b n1 ?_;rw[p,cI f _ (by simp[bD]),fJ j a]
  | mkF b F' h r =>
   rename_i e' n' ab m;refine⟨F,_,.mkV c l w,.mkF b _ h ?_⟩;rw[cq (L:=L) (ρ:=ρ) (xs:=m) (fun u hu=>by rw[cI f u (by simpa[bD] using hu),fJ j a])];exact r
 | mkF c F' h r =>
  rename_i e n sz xs;have aE:=cq (xs:=xs) ux;rw[aE] at r;cases h1 with
  | box b =>
   rename_i t' q k';refine⟨F2,L,.mkF c _ h r,?_⟩;have e:=cI (L:=L) (ρ:=ρ) (v:=.v (.slice (some ⟨c,0,none⟩) n n)) f q (by simp[bD]);rw[<-e];exact .box b
  | alloc b=>exact⟨F2,L,.mkF c _ h r,.alloc b⟩
  | mkS b=>exact⟨F2,L,.mkF c _ h r,.mkS b⟩
  | mkV b n1 p=>exact⟨F2,L,.mkF c _ h r,.mkV b n1 (by rw[p,cI f _ (by simp[bD])])⟩
  | mkF b F1' ar ax =>
   rename_i e' n' ab m;refine⟨F2,L,.mkF c _ (aA.le_trans ar h) r,.mkF b _ (aA.le_refl _) ?_⟩;rw[cq (L:=L) (ρ:=ρ) (xs:=m) (fun u hu=>by rw[cI f u (by simpa[bD] using hu)])];exact h _ _ ax
theorem Gq {x y:dS}{dx dy:Option Nat}(hr:Real F L) (hc:vH x y=true) (ac:∀k,dx=some k->k∉cu (bD y)) (ao:∀k,dy=some k->k∉cu (bD x)) (d:∀k,dx=some k->dy≠some k)
  (av:Vd L ρ) (hK:evalOp P x dx F L ρ (fun F1 L1 cc=>evalOp P y dy F1 L1 cc K)):evalOp P y dy F L ρ (fun F1 L1 cc=>evalOp P x dx F1 L1 cc K):=by
 have ed:∀k,dy=some k->dx≠some k:=fun k e e'=>d k e' e;simp only[vH,XA,W6] at hc;rcases hc with((((⟨⟨hx,hy⟩,dq⟩ | ⟨hx,hy⟩) | ⟨hx,hy⟩) | ⟨hx,hy⟩) | ⟨hx,hy⟩) | ⟨hx,hy⟩
 ·rw[cn hx] at hK;obtain⟨v,hT,q⟩:=(eY hx).ex _ hK
  clear hK
  have ag:∀{F':aA}{L':Loc}{u:SV},F.le F'->Keeps L L'->K F' L' (put dy u (put dx v ρ))->(Gl x=false\/L'=L)->evalOp P x dx F' L' (put dy u ρ) K:=by
   intro F' L' u hF hL hk hR;rw[cn hx];have bi:Alike x L L' ρ (put dy u ρ):=fun z r=>⟨fI ao z r,fun k off e=>by
    obtain⟨g,ty,cs,h⟩:=av.ev e;rw[hL k g ty cs h,h]⟩
   refine(eY hx).mono _ _ (fun v' dp=>?_) (qk hx hF bi hT hR);subst dp;rw[put_comm d];exact hk
  have hv:=cI (L:=L) (ρ:=ρ) (v:=v) ac
  by_cases bl:cS y=true
  ·rw[cn bl] at q ⊢;have bi:Alike y L L (put dx v ρ) ρ:=fun z r=>⟨(fI ac z r).symm,fun _ _ _=>rfl⟩;exact(eY bl).mono _ _ (fun u hu=>ag (aA.le_refl F) (Keeps.refl _) hu (.inr rfl)) (qk bl (aA.le_refl F) bi q)
  ·have bo:Gl x=false:=by
    rcases dq with h | h
    ·cases e:Gl x with
     | false=>rfl
     | true=>rw[e] at h;cases h
    ·exact xo h bl
   by_cases cM:ef y=true
   ·rw[bP cM] at q ⊢;obtain⟨l,h2⟩:=q;have p:bI y dy L ρ=true:=ia (L':=L) (ρ':=put dx v ρ) hv (fun k _ e=>e) l;refine⟨p,fun F' L' u hm bk=>ag hm.le (hm.get p) (h2 F' L' u ?_ bk) (.inl bo)⟩;exact hm.like fun z r=>(hv z r).symm
   ·cases y<;>first | (exfalso;revert bl cM hy;simp[Cm,cS,gH,ef,oJ];done) | skip
    case callD f args =>
     have e1:=di (xs:=args) hv;simp only[evalOp,e1] at q ⊢;exact q.imp fun F' L' u bc hl _ h=>ag bc hl.keeps h (.inl bo)
    case callVD f args =>
     have e0:=fI (v:=v) (ρ:=ρ) ac f (by simp[bD]);have e1:=di (xs:=args) (L:=L) (L':=L) (ρ:=ρ) (ρ':=put dx v ρ) (fun z r=>hv z (by simp[bD,r]));simp only[evalOp,e0,e1] at q ⊢;split at q
     ·exact q.imp fun F' L' u bc hl _ h=>ag bc hl.keeps h (.inl bo)
     ·exact q.elim
    case appD e sz b zs s z =>
     have e0:=fI (v:=v) (ρ:=ρ) ac s (by simp[bD]);have e1:=fI (v:=v) (ρ:=ρ) ac z (by simp[bD]);simp only[evalOp,e0,e1] at q ⊢;split at q
     ·refine q.imp (aA.le_refl F) fun kd n xs n' bp u df bk h=>ag (aA.le_refl F) ?_ (h bk) (.inl bo);rcases df with h | ⟨_,h⟩
      ·exact Keeps.row h
      ·exact Keeps.new h
     ·exact q.elim
 ·have am:∀{f:Nat}{args:List Value},dP P f args F L dx (fun F' L' v=>evalOp P y dy F' L' (put dx (.v v) ρ) K) ->
    bI y dy L ρ=true/\∀F' L' u,Made y dy F L ρ F' L' u->dP P f args F' L' dx (fun F2 L2 v=>K F2 L2 (put dx (.v v) (put dy u ρ))):=by
   intro f args hC;have up:∀{L1:Loc},Left dx L L1->∀{u:SV},∀z∈bD y,val L1 (put dx u ρ) z=val L ρ z:=by
    intro L1 hl u z r;rw[cI ac z r,fJ av hl.keeps]
   have p:bI y dy L ρ=true:=by
    obtain⟨F',L',v,bc,hl,_,h⟩:=hC.some hr;rw[bP hy] at h;refine ia (L':=L') (ρ':=put dx (.v v) ρ) (up hl) (fun k hk e=>?_) h.1;rcases hl with rfl | ⟨j,o,hj,hn,rfl⟩ | ⟨j,rv,t,sz,n,xs,hj,rfl⟩
    ·exact e
    ·rw[cg (fun ej=>d j hj (by rw[<-ej];exact hk))] at e;exact e
    ·rw[Loc.Wh] at e;split at e
     ·cases e
     ·exact e
   refine⟨p,fun F' L' u hm=>(hC.up hm.le hr.glob (hm.part p) (fun k hk hn=>by rw[hm.frame k (d k hk)];exact hn)).imp fun F2 L2 v bc dv aw h=>?_⟩
   clear dv
   obtain⟨l,dk,h2⟩:=h
   clear dk
   rw[put_comm d];rcases h2 with⟨rfl,h2⟩ | ⟨k,o,hk,hn,rfl,h2⟩ | ⟨kr,rv,t,sz,n,xs,cr,rfl,h2⟩
   ·rw[bP hy] at h2;refine h2.2 F2 L2 u ?_ aw;have w:=up (L1:=L) (.inl rfl) (u:=.v v)
    clear up h2
    cases hm with
    | box g=>rw[<-w _ (by simp[bD])];exact .box g
    | alloc g=>exact .alloc g
    | mkS g=>exact .mkS g
    | mkV g n hn=>exact .mkV g n (by rw[hn,w _ (by simp[bD])])
    | mkF g F' bb hg =>
     rename_i xs;refine .mkF g _ (aA.le_refl _) ?_;rw[cq (L:=L) (ρ:=ρ) (xs:=xs) (fun z r=>w z (by simpa[bD] using r))];exact l _ _ hg
   ·rw[bP hy] at h2;refine h2.2 F2 _ u ?_ aw;have w:=up (L1:=L.set k o) (.inr (.inl ⟨k,o,hk,hn,rfl⟩)) (u:=.v v)
    clear up h2
    cases hm with
    | box g =>
     rw[set_comm L _ _ (fun e=>d k hk (by rw[e])),<-w _ (by simp[bD])];exact .box g
    | alloc g =>
     rw[set_comm L _ _ (fun e=>d k hk (by rw[e]))];exact .alloc g
    | mkS g =>
     rw[set_comm L _ _ (fun e=>d k hk (by rw[e]))];exact .mkS g
    | mkV g n hn =>
     rw[set_comm L _ _ (fun e=>d k hk (by rw[e]))];exact .mkV g n (by rw[hn,w _ (by simp[bD])])
    | mkF g F' bb hg =>
     rename_i xs;refine .mkF g _ (aA.le_refl _) ?_;rw[cq (L:=L) (ρ:=ρ) (xs:=xs) (fun z r=>w z (by simpa[bD] using r))];exact l _ _ hg
   ·rw[bP hy] at h2;refine h2.2 F2 _ u ?_ aw;have w:=up (L1:=L.set kr (.row (.slice none 0 0) t sz 0 [])) (.inr (.inr ⟨kr,rv,t,sz,n,xs,cr,rfl⟩)) (u:=.v v);have ax:∀k,dy=some k->ef y=true->bI y dy L ρ=true->(∀e n' ds bp,y≠.mkFD e n' ds bp)->kr≠k:=by
     intro k hk _ hc dg e;subst hk e;cases y<;>simp only[bI,cr,Option.isNone_some,Xd] at hc;exact dg _ _ _ _ rfl
    clear up h2
    cases hm with
    | box g =>
     rw[set_comm L _ _ (ax _ rfl hy p (fun _ _ _ _=>by simp)).symm,<-w _ (by simp[bD])];exact .box g
    | alloc g =>
     rw[set_comm L _ _ (ax _ rfl hy p (fun _ _ _ _=>by simp)).symm];exact .alloc g
    | mkS g =>
     rw[set_comm L _ _ (ax _ rfl hy p (fun _ _ _ _=>by simp)).symm];exact .mkS g
    | mkV g n hn =>
     rw[set_comm L _ _ (ax _ rfl hy p (fun _ _ _ _=>by simp)).symm];exact .mkV g n (by rw[hn,w _ (by simp[bD])])
    | mkF g F' bb hg =>
     rename_i xs;refine .mkF g _ (aA.le_refl _) ?_;rw[cq (L:=L) (ρ:=ρ) (xs:=xs) (fun z r=>w z (by simpa[bD] using r))];exact l _ _ hg
  cases x<;>first | (exfalso;revert hx;simp[gH];done) | skip
  case callD f args =>
   simp only[evalOp] at hK;obtain⟨l,h2⟩:=am hK;rw[bP hy];refine⟨l,fun F' L' u hm _=>?_⟩;have e1:bf L' (put dy u ρ) args=bf L ρ args:=di fun z r=>by rw[cI ao z (by simpa[bD] using r),fJ av (hm.get l)]
   simp only[evalOp,e1];exact h2 F' L' u hm
  case callVD f args =>
   simp only[evalOp] at hK;split at hK
   case h_2=>exact hK.elim
   rename_i eh fi ca hf;obtain⟨l,h2⟩:=am hK;rw[bP hy];refine⟨l,fun F' L' u hm _=>?_⟩;have e0:=fI (v:=u) (ρ:=ρ) ao f (by simp[bD]);have e1:bf L' (put dy u ρ) args=bf L ρ args:=di fun z r=>by rw[cI ao z (by simp[bD,r]),fJ av (hm.get l)]
   simp only[evalOp,e0,e1,hf];exact h2 F' L' u hm
 ·cases x<;>first | (exfalso;revert hx;simp[oJ];done) | skip
  case appD e sz b zs s z =>
   rw[AL] at hK;split at hK
   case h_2=>exact hK.elim
   rename_i sv xv cw cx;have p:bI y dy L ρ=true:=by
    obtain⟨kd,v,n',bp,l,_,h⟩:=hK.some hr;rw[bP hy] at h;have cb:Keeps L (L.set kd (.row v e sz n' bp)):=by
     rcases l with⟨n,xs,l⟩ | ⟨_,l⟩
     ·exact Keeps.row l
     ·exact Keeps.new l
    refine ia (L':=_) (ρ':=put dx (.v v) ρ) (fun u hu=>by rw[cI ac u hu,fJ av cb]) (fun k hk e=>?_) h.1;rw[Loc.Wh] at e;split at e
    ·cases e
    ·exact e
   rw[bP hy];refine⟨p,fun F' L' u hm de=>?_⟩
   clear de
   have e0:=fI (v:=u) (ρ:=ρ) ao s (by simp[bD]);have e1:=fI (v:=u) (ρ:=ρ) ao z (by simp[bD]);simp only[evalOp,e0,e1,cw,cx];obtain⟨kd,n,xs,m,news,l,⟨ad,c,h2,h3,h4⟩,h5,h6,h7,h8⟩:=hK;have cb:∀{o:Own},Keeps L (L.set kd o):=by
    rcases l with l | ⟨_,l,_⟩ | ⟨_,l,_⟩
    ·exact Keeps.row l
    ·exact Keeps.new l
    ·exact Keeps.new l
   have ax:∀k,dy=some k->L.get k=none->kd≠k:=by
    rintro k hk hn rfl;rcases l with l | ⟨l,_⟩ | ⟨l,_⟩
    ·rw[hn] at l;cases l
    ·exact d kd l hk
    ·exact d kd l hk
   refine⟨kd,n,xs,m,news,?_,⟨ad,c,h2,h3,?_⟩,h5,h6,h7,fun v hv aw=>?_⟩
   ·rcases l with l | ⟨h0,l,dB⟩ | ⟨h0,l,ad,q1,q2,q3,q4⟩
    ·exact .inl (hm.part p kd _ l)
    ·exact .inr (.inl ⟨h0,by rw[hm.frame kd (d kd h0)];exact l,dB⟩)
    ·exact .inr (.inr ⟨h0,by rw[hm.frame kd (d kd h0)];exact l,ad,q1,q2,q3,q4.imp (·.mono hm.le) id⟩)
   ·rcases h4 with h4 | h4
    ·exact .inl (h4.mono hm.le)
    ·exact .inr h4
   ·have h9:=h8 v hv (aw.down hm.le hr.glob (EH (hm.part p)));rw[bP hy] at h9;rw[put_comm d];refine h9.2 F' _ u ?_ aw;have w:∀z∈bD y,val (L.set kd (.row v e sz (n+m) (xs++news))) (put dx (.v v) ρ) z=val L ρ z:=fun z r=>by
     rw[cI ac z r,fJ av cb]
    clear h8 h9 cw cx e0 e1
    cases hm with
    | box g =>
     rename_i t x k;simp only[bI,Option.isNone_iff_eq_none] at p;rw[set_comm L _ _ (fun e=>ax k rfl p e.symm),<-w _ (by simp[bD])];exact .box g
    | alloc g =>
     rename_i t zs k;simp only[bI,Option.isNone_iff_eq_none] at p;rw[set_comm L _ _ (fun e=>ax k rfl p e.symm)];exact .alloc g
    | mkS g =>
     rename_i e0 dt n0 zs k;rw[set_comm L _ _ (fun e=>ax k rfl (nD p).1 e.symm)];exact .mkS g
    | mkV g n hn =>
     rename_i e0 dt b0 zs x0 k;rw[set_comm L _ _ (fun e=>ax k rfl (nE p).1 e.symm)];exact .mkV g n (by rw[hn,w _ (by simp[bD])])
    | mkF g F' bb hg =>
     rename_i dr;refine .mkF g _ bb ?_;rw[cq (L:=L) (ρ:=ρ) (xs:=dr) (fun z r=>w z (by simpa[bD] using r))];exact hg
 ·rw[bP hx] at hK;obtain⟨bj,hK⟩:=hK;have bt:bI y dy L ρ=true:=by
   obtain⟨F',L',v,hm,bc,bk⟩:=yq hr bj;have h:=hK F' L' v hm bk;rw[bP hy] at h;refine ia (L':=L') (ρ':=put dx v ρ) (fun z r=>by rw[cI ac z r,fJ av (hm.get bj)]) (fun k hk e=>?_) h.1;rw[hm.frame k (fun e'=>d k e' hk)] at e;exact e
  rw[bP hy];refine⟨bt,fun F1 L1 v1 cd ek=>?_⟩;rw[bP hx];refine⟨ia (L':=L) (ρ':=ρ) (fun z r=>by rw[cI ao z r,fJ av (cd.get bt)]) (fun k hk e=>by rw[cd.frame k (d k hk)];exact e) bj,fun F2 L2 v2 ea aw=>?_⟩;obtain⟨Fa,La,ha,hb⟩:=EI bj bt ac ao d av cd ea;have cz:bI y dy La (put dx v2 ρ)=true :=
   ia (L':=L) (ρ':=ρ) (fun z r=>by rw[cI ac z r,fJ av (ha.get bj)]) (fun k hk e=>by rw[ha.frame k (fun e'=>d k e' hk)];exact e) bt
  have dE:Real Fa La:=aw.down hb.le (hr.glob.mono ha.le) (hb.part cz);have h:=hK Fa La v2 ha dE;rw[bP hy] at h;rw[put_comm d];exact h.2 F2 L2 v1 hb aw
 ·have be:=qF hx;rw[cn be] at hK;obtain⟨v,hT,q⟩:=(eY be).ex _ hK
  clear hK
  obtain⟨n,a,z,k,off,g,t,cs,ho,e1,e2,e3,e4,e5,hK⟩:=hU hy q;have ha:a∈bD y:=by rcases ho with rfl | rfl<;>simp[bD]
  have r:z∈bD y:=by rcases ho with rfl | rfl<;>simp[bD]
  have q0:=fI (v:=v) (ρ:=ρ) ac a ha;have q1:=cI (L:=L) (v:=v) (ρ:=ρ) ac z r;rw[q0] at e3;rw[q1] at e1 e2 hK;refine gP ho e1 e2 e3 e4 e5 ?_;have h3:=(eY be).mono _ (fun u=>K F _ (put dx u (put dy (.v undef) ρ))) (fun u hu=>by subst hu;rw[put_comm d];exact hK)
   (qk be (aA.le_refl F) (sW (L:=L) (ρ:=ρ) (v:=.v undef) ao) hT)
  rw[cn be];exact yp hx ho (AO e4) (fun j hj=>cg hj) h3
 ·have bd:=qF hy;obtain⟨n,a,z,k,off,g,t,cs,ho,e1,e2,e3,e4,e5,hK⟩:=hU hx hK;have ha:a∈bD x:=by rcases ho with rfl | rfl<;>simp[bD]
  have r:z∈bD x:=by rcases ho with rfl | rfl<;>simp[bD]
  rw[cn bd] at hK;obtain⟨v,hT,hK⟩:=(eY bd).ex _ hK;have hT:=yp (L':=L) hy ho (fun sv=>(AO e4 sv).symm) (fun j hj=>(cg hj).symm) hT;have bi:Alike y L L (put dx (.v undef) ρ) ρ:=fun u hu=>⟨(fI ac u hu).symm,fun _ _ _=>rfl⟩;have hT:=qk bd (aA.le_refl F) bi hT;rw[cn bd];refine(eY bd).mono _ _ (fun u hu=>?_) hT;subst hu;have q0:=fI (v:=u) (ρ:=ρ) ao a ha;have q1:=cI (L:=L) (v:=u) (ρ:=ρ) ao z r;refine gP ho (by rw[q1];exact e1) (by rw[q1];exact e2) (by rw[q0];exact e3) e4 e5 ?_;rw[q1,put_comm d];exact hK
end
section
variable {P:Program}{F:aA}{L:Loc}{ρ:Env}{K K':cE}
theorem Left.none {d:Option Nat}{L L':Loc}(h:Left d L L') {j:Nat}(c:d≠some j) (e:L.get j=none):L'.get j=none:=by
 rcases h with rfl | ⟨k,o,f,b,rfl⟩ | ⟨k,l,t,sz,n,xs,b,rfl⟩
 ·exact e
 ·rw[cg (fun a=>c (by rw[a];exact f))];exact e
 ·rw[cg (fun a=>by rw[a,b] at e;cases e)];exact e
theorem jZ {o:dS}(ho:okD o=true) {d:Option Nat}(hr:Real F L) (w:Vd L ρ) (c:evalOp P o d F L ρ K)
  (hk:∀F1 L1 r,(∃v,r=put d v ρ)->F.le F1->Real F1 L1->Vd L1 r->(∀j,d≠some j->L.get j=none->L1.get j=none)->K F1 L1 r->K' F1 L1 r):evalOp P o d F L ρ K':=by
 have a:∀{L1:Loc}{v:SV},Keeps L L1->(∀k off,v=.own k off->∃g ty cs,L1.get k=some (.box g ty cs))->Vd L1 (put d v ρ):=by
  intro L1 v hL hv t k off e;have p:ρ t=.own k off->∃g ty cs,L1.get k=some (.box g ty cs):=fun e=>by
   obtain⟨g,ty,cs,h⟩:=w t k off e;exact⟨g,ty,cs,hL k g ty cs h⟩
  rw[put_eq] at e;cases d with
  | none=>exact p e
  | some k' =>
   simp only[] at e;split at e
   ·exact hv k off e
   ·exact p e
 by_cases hs:cS o=true
 ·rw[cn hs] at c ⊢;obtain⟨v,hT,hv⟩:=(eY hs).ex _ c;refine(eY hs).mono _ _ (fun u hu=>?_) hT;subst hu;refine hk _ _ _ ⟨_,rfl⟩ (aA.le_refl F) hr (a (Keeps.refl L) fun k off e=>?_) (fun _ _ h=>h) hv;subst e;obtain⟨x,_,m,hx⟩:=Gm hs hT;exact w.ev hx
 ·by_cases ha:ef o=true
  ·rw[bP ha] at c ⊢;refine⟨c.1,fun F' L' v hm l=>hk _ _ _ ⟨v,rfl⟩ hm.le l (a (hm.get c.1) fun k off e=>?_) (fun j y e=>by rw[hm.frame j y];exact e) (c.2 F' L' v hm l)⟩;cases hm with
   | box g=>injection e with e1 e2;subst e1;exact⟨_,_,_,by rw[Loc.Wh,j3 rfl]⟩
   | alloc g=>injection e with e1 e2;subst e1;exact⟨_,_,_,by rw[Loc.Wh,j3 rfl]⟩
   | mkS g=>cases e
   | mkV g n hn=>cases e
   | mkF g F' q hg=>cases e
  ·cases o<;>first | (exfalso;revert hs ha ho;simp[okD,Cm,cS,gH,ef,oJ,hO];done) | skip
   case callD f args =>
    simp only[evalOp] at c ⊢;exact c.imp fun F' L' v q hl l h=>hk _ _ _ ⟨_,rfl⟩ q l (a hl.keeps fun k off e=>by cases e) (fun j y e=>hl.none y e) h
   case callVD f args =>
    simp only[evalOp] at c ⊢;split at c
    ·exact c.imp fun F' L' v q hl l h=>hk _ _ _ ⟨_,rfl⟩ q l (a hl.keeps fun k off e=>by cases e) (fun j y e=>hl.none y e) h
    ·exact c.elim
   case appD e sz b zs s z =>
    simp only[evalOp] at c ⊢;split at c
    ·refine c.imp (aA.le_refl F) fun kd n xs n' bi u ac l h=>hk _ _ _ ⟨_,rfl⟩ (aA.le_refl F) l (a ?_ fun k off e=>by cases e) ?_ (h l)
     ·rcases ac with h | ⟨_,h⟩
      ·exact Keeps.row h
      ·exact Keeps.new h
     ·intro j y e;have an:j≠kd:=by
       rintro rfl;rcases ac with h | ⟨h,_⟩
       ·rw[e] at h;cases h
       ·exact y h
      rw[cg an];exact e
    ·exact c.elim
   all_goals
    obtain⟨n',a',x',k,off,g,ty,cs,am,e1,e2,e3,e4,e5,c⟩:=hU rfl c;refine gP am e1 e2 e3 e4 e5 (hk _ _ _ ⟨_,rfl⟩ (aA.le_refl F) (Real.store (uK e5) hr e4) ?_ (fun j _ e=>by rw[cg (fun ej=>by rw[ej,e4] at e;cases e)];exact e) c);intro t k' m e;have p:ρ t=.own k' m->∃g' ty' cs',Loc.get (L.set k (.box g ty (aM cs off (aH (val L ρ x'))))) k'=some (.box g' ty' cs'):=fun e=>by
     obtain⟨g',ty',cs',h⟩:=w t k' m e;rw[Loc.Wh];split
     ·exact⟨_,_,_,rfl⟩
     ·exact⟨_,_,_,h⟩
    rw[put_eq] at e;cases d with
    | none=>exact p e
    | some k' =>
     simp only[] at e;split at e
     ·cases e
     ·exact p e
theorem jf {o:dS}(h:okD o=true) {d:Option Nat}(f:Real F L) (b:Vd L ρ) (n:evalOp P o d F L ρ K)
  (c:∀F1 L1 a,(∃v,a=put d v ρ)->F.le F1->Real F1 L1->Vd L1 a->K F1 L1 a->K' F1 L1 a):evalOp P o d F L ρ K' :=
 jZ h f b n fun F1 L1 a j e k m _ l=>c F1 L1 a j e k m l
theorem tW {o:dS}(p:okD o=true) {d:Option Nat}(c:Real F L) (a:evalOp P o d F L ρ K):∃v F1 L1,K F1 L1 (put d v ρ):=by
 by_cases l:cS o=true
 ·rw[cn l] at a;obtain⟨v,_,t⟩:=(eY l).ex _ a;exact⟨v,F,L,t⟩
 ·by_cases m:ef o=true
  ·rw[bP m] at a;obtain⟨F',L',v,r,_,j⟩:=yq c a.1;exact⟨v,F',L',a.2 F' L' v r j⟩
  ·cases o<;>first | (exfalso;revert l m p;simp[okD,Cm,cS,gH,ef,oJ,hO];done) | skip
   case callD f args =>
    simp only[evalOp] at a;obtain⟨F',L',v,_,_,_,h⟩:=a.some c;exact⟨_,F',L',h⟩
   case callVD f args =>
    simp only[evalOp] at a;split at a
    ·obtain⟨F',L',v,_,_,_,h⟩:=a.some c;exact⟨_,F',L',h⟩
    ·exact a.elim
   case appD e sz b zs s z =>
    simp only[evalOp] at a;split at a
    ·obtain⟨w,v,n',q,_,_,h⟩:=a.some c;exact⟨_,F,_,h⟩
    ·exact a.elim
   all_goals
    obtain⟨n',a',x',k,off,g,ty,cs,n,x,e2,e3,y,u,a⟩:=hU rfl a;exact⟨_,F,_,a⟩
def gQ:dS:=.mov (.c undef)
def res (g:Option (Nat×Bool)) (ρ:Env) (o:dS):Option dS :=
 match g with
 | none=>some o
 | some (s,a)=>match ρ s with
  | .v (.bool b)=>some (if b=a then o else gQ)
  | .v (.tuple _)=>some gQ
  | _=>none
theorem fC {d:Option Nat}{o:dS}{g:Option (Nat×Bool)}{c:List ak} :
  aU P (.op d o g::c) F L ρ K↔∃o',res g ρ o=some o'/\evalOp P o' d F L ρ (fun F1 L1 h=>aU P c F1 L1 h K):=by
 cases g with
 | none=>simp only[aU,res,WY,exists_eq_left']
 | some p =>
  obtain⟨s,f⟩:=p;simp only[aU,res];cases e:ρ s with
  | own k off=>simp
  | el a j=>simp
  | v u =>
   cases u<;>simp only[WY,exists_eq_left',reduceCtorEq,false_and,exists_false]
   case bool b =>
    cases b<;>cases f<;>simp[vh,kg e,gQ,evalOp,aI,ev]
   case tuple vs=>rfl
def looks (o:dS) (g:Option (Nat×Bool)):List Nat :=
 match g with
 | none=>cu (bD o)
 | some (s,_)=>s::cu (bD o)
def qZ (d:Option Nat) (l:List Nat):Bool :=
 match d with
 | none=>true
 | some k=>match fo l k with | true=>false | false=>true
def AP:Option Nat->Option Nat->Bool
 | some a,some b=>match Nat.beq a b with | true=>false | false=>true
 | _,_=>true
def kQ:ak->ak->Bool
 | .op a x c,.op b y d=>okD x&&okD y&&vH x y&&qZ a (looks y d)&&qZ b (looks x c)&&AP a b
 | _,_=>false
theorem jO {d:Option Nat}{l:List Nat}(h:qZ d l=true):∀k,d=some k->k∉l:=by
 rintro k rfl a;simp only[qZ,cH.2 a] at h;cases h
theorem nF {d a:Option Nat}(h:AP d a=true):∀k,d=some k->a≠some k:=by
 rintro k rfl e;subst e;simp[AP] at h
theorem nW {g:Option (Nat×Bool)}{o:dS}{d:Option Nat}{v:SV}(h:∀k,d=some k->k∉looks o g):res g (put d v ρ) o=res g ρ o:=by
 cases g with
 | none=>rfl
 | some p =>
  obtain⟨s,a⟩:=p;have:put d v ρ s=ρ s:=by
   rw[put_eq];cases d with
   | none=>rfl
   | some k =>
    simp only[];rw[vv];intro e;exact h k rfl (by simp[looks,e])
  simp only[res,this]
theorem cU {g:Option (Nat×Bool)}{o o':dS}(h:res g ρ o=some o'):o'=o\/o'=gQ:=by
 cases g with
 | none=>simp only[res,WY] at h;exact .inl h.symm
 | some p =>
  obtain⟨s,a⟩:=p;simp only[res] at h;split at h
  ·injection h with h
   split at h
   ·exact .inl h.symm
   ·exact .inr h.symm
  ·injection h with h;exact .inr h.symm
  ·cases h
theorem nG {o:dS}{g:Option (Nat×Bool)}{k:Nat}(h:k∈cu (bD o)):k∈looks o g:=by
 cases g with
 | none=>exact h
 | some p=>exact Xv _ h
theorem Gr {x y:ak}{a:List ak}(w:kQ x y=true) (hr:Real F L) (t:Vd L ρ) (h:aU P (x::y::a) F L ρ K):aU P (y::x::a) F L ρ K:=by
 cases x with
 | frz k=>exact xo w (by cases y<;>exact XP)
 | pc d o g=>exact xo w (by cases y<;>exact XP)
 | op dx x gx =>
  cases y with
  | frz k=>exact xo w XP
  | pc d o g=>exact xo w XP
  | op dy y gy =>
   simp only[kQ,W6] at w;obtain⟨⟨⟨⟨⟨am,f⟩,hc⟩,h1⟩,h2⟩,h3⟩:=w;have h1:=jO h1;have h2:=jO h2;have h3:=nF h3;have aE:∀k,dy=some k->dx≠some k:=fun k e e'=>h3 k e' e;rw[fC] at h;obtain⟨x',s,h⟩:=h;have j:okD gQ=true:=rfl;have n:okD x'=true:=by rcases cU s with rfl | rfl;exact am;exact j
   -- y's guard
   have hy:∃m,res gy ρ y=some m:=by
    obtain⟨v,F1,L1,c⟩:=tW n hr h;rw[fC] at c;obtain⟨m,b,_⟩:=c;rw[nW h1] at b;exact⟨m,b⟩
   obtain⟨m,b⟩:=hy;have z:okD m=true:=by rcases cU b with rfl | rfl;exact f;exact j
   have hA:evalOp P x' dx F L ρ (fun F1 L1 r=>evalOp P m dy F1 L1 r (fun F2 L2 p=>aU P a F2 L2 p K)):=by
    refine jf n hr t h ?_;rintro F1 L1 r ⟨v,rfl⟩ _ _ _ c;rw[fC] at c;obtain⟨az,l,c⟩:=c;rw[nW h1,b] at l;injection l with l
    subst l;exact c
   have lx:∀k,dy=some k->k∉cu (bD x'):=by
    intro k e c;rcases cU s with rfl | rfl
    ·exact h2 k e (nG c)
    ·simp[gQ,bD,cu] at c
   have ly:∀k,dx=some k->k∉cu (bD m):=by
    intro k e c;rcases cU b with rfl | rfl
    ·exact h1 k e (nG c)
    ·simp[gQ,bD,cu] at c
   have hB:evalOp P m dy F L ρ (fun F1 L1 r=>evalOp P x' dx F1 L1 r (fun F2 L2 p=>aU P a F2 L2 p K)):=by
    by_cases q:m=gQ
    ·subst q;simp only[gQ,evalOp,aI,ev];exact vG (K:=fun F2 L2 p=>aU P a F2 L2 p K) (u:=.v undef) n lx h3 hA
    ·have ey:m=y:=by rcases cU b with h | h;exact h;exact xo h q
     subst ey;refine Gq hr ?_ ly lx h3 t hA;rcases cU s with rfl | rfl
     ·exact hc
     ·simp only[okD,XA] at f;rcases f with f | f
      ·simp only[vH,f,X3,XA];exact .inl (.inl (.inl (.inl (.inl (by rfl)))))
      ·simp only[vH,f,X3,XA];exact .inl (.inr rfl)
   rw[fC];refine⟨m,b,jf z hr t hB ?_⟩;rintro F1 L1 r ⟨v,rfl⟩ _ _ _ c;rw[fC];exact⟨x',by rw[nW h2];exact s,c⟩
theorem yt {y:ak}{s:List ak}:∀(p:List ak),(∀x∈p,kQ x y=true)->∀{F:aA}{L:Loc}{ρ:Env},Real F L->Vd L ρ->aU P (p++y::s) F L ρ K->aU P (y::(p++s)) F L ρ K
 | [],_,F,L,ρ,_,_,h=>h
 | .frz k::p,b,F,L,ρ,_,_,h=>by
  have:=b (.frz k) (by simp);exact xo this (by cases y<;>exact XP)
 | .pc d o g::p,b,F,L,ρ,_,_,h=>by
  have:=b (.pc d o g) (by simp);exact xo this (by cases y<;>exact XP)
 | .op r x q::p,b,F,L,ρ,n,f,h=>by
  have a:=b (.op r x q) (by simp);have h':aU P (.op r x q::y::(p++s)) F L ρ K:=by
   rw[Xk,fC] at h;obtain⟨t,e,h⟩:=h;have l:okD x=true:=by
    cases y with
    | frz k=>exact xo a XP
    | pc d o g=>exact xo a XP
    | op dy y gy=>simp only[kQ,W6] at a;exact a.1.1.1.1.1
   have c:okD t=true:=by rcases cU e with rfl | rfl;exact l;rfl
   rw[fC];refine⟨t,e,jf c n f h ?_⟩;intro F1 L1 w _ _ m j v;exact yt p (fun z u=>b z (by simp[u])) m j v
  exact Gr a n f h'
end
def P0 (A:cP):Op->Bool
 | .store _ (.tmp i) _=>fo A.co (1000000+i)
 | .mapUpdate _ (.tmp i) _ _=>fo A.co (1000000+i)
 | _=>false
def zm (P:Program) (A:cP) (a:Array Oper) (i:Nat):Option ak :=
 match a[i]? with
 | none=>none
 | some o=>match gO a o.guard,gM P (A.owned o.dst) o.op,LM A.n o.dst with
  | some g,some s,true=>match A.isX o.dst with
   | true=>match g,s with
    | none,.call f l=>some (.pc o.dst (.call f l) none)
    | none,.callV f l=>some (.pc o.dst (.callV f l) none)
    | _,_=>none
   | false=>match A.isO o.dst||P0 A o.op with
    | true=>match vD s with
     | some s'=>some (.op o.dst s' g)
     | none=>none
    | false=>match sV A.fl A.bk A.bx s with
     | some s'=>match cS s'||gH s'||ef s'||oJ s'||hO s' with
      | true=>some (.op o.dst s' g)
      | false=>none
     | none=>none
  | _,_,_=>none
def eF (P:Program) (A:cP) (ops:Array Oper):List Nat->Option (List ak)
 | []=>some []
 | i::is=>match zm P A ops i,eF P A ops is with
  | some s,some ss=>some (s::ss)
  | _,_=>none
def binding (e:Edge):Bool:=Region.binds .any e
def direct (ops:Array Oper) (i:Nat):List Nat :=
 match ops[i]? with
 | some o=>(o.after.toList.filter binding).map (·.on)
 | none=>[]
def zn:List (List Nat)->Nat->List Nat
 | [],_=>[]
 | l::_,0=>l
 | _::a,n+1=>zn a n
def zo (a:List (List Nat)) (x:Nat):List Nat->Bool
 | []=>false
 | z::zs=>match fo (zn a z) x with | true=>true | false=>zo a x zs
def zp (ops:Array Oper) (a:List (List Nat)) (y:Nat):Bool :=
 (direct ops y).all (fun z=>Nat.blt z y)&&(zn a y).all (fun x=>fo (direct ops y) x||zo a x (direct ops y))
def Gs (ops:Array Oper) (a:List (List Nat)):Bool:=(List.range ops.size).all (zp ops a)
def nX (a:List (List Nat)):List (Nat×ak)->Bool
 | []=>true
 | (x,b)::l=>l.all (fun p=>kQ b p.2||fo (zn a p.1) x)&&nX a l
def bE:List Nat->Bool
 | []=>true
 | x::l=>!fo l x&&bE l
def Cn (P:Program) (ops:Array Oper) (is:List Nat) (a:List (List Nat)) (ss:List ak):Bool :=
 P.follows .mixedOrders&&Gs ops a&&bE is&&Nat.beq is.length ops.size&&is.all (fun i=>Nat.blt i ops.size)&&(List.range ops.size).all (fo is)&&nX a (is.zip ss)
theorem cJ:∀{l:List Nat},bE l=true->l.Nodup
 | [],_=>List.nodup_nil
 | x::l,h=>by
  simp only[bE,W6,Bool.not_eq_true'] at h;refine List.nodup_cons.2 ⟨fun a=>?_,cJ h.2⟩;rw[cH.2 a] at h;cases h.1
theorem yu {a:List (List Nat)}{x:Nat}:∀{l:List Nat},zo a x l=true->∃z,z∈l/\x∈zn a z
 | [],h=>by cases h
 | z::zs,h=>by
  simp only[zo] at h;split at h
  ·rename_i e;exact⟨z,by simp,cH.1 e⟩
  ·obtain⟨c,d,b⟩:=yu h;exact⟨c,by simp[d],b⟩
section
variable {P:Program}{K:cE}{Q:Exit->Act->World->Prop}{ops:Array Oper}
theorem tX {k:List (List Nat)}(d:Gs ops k=true) {done:Nat->Prop}(a:∀i,i<ops.size->done i->∀z∈direct ops i,done z):∀y,y<ops.size->(∀z∈direct ops y,done z)->∀x∈zn k y,done x:=by
 intro y
 induction y using Nat.strongRecOn with
 | _ y o =>
  intro m f x l;have h:=Xf.1 d y (List.mem_range.2 m);simp only[zp,W6] at h;have b:=Xf.1 h.2 x l;simp only[XA] at b;rcases b with b | b
  ·exact f x (cH.1 b)
  ·obtain⟨z,j,c⟩:=yu b;have e:z<y:=by
    have n:Nat.blt z y=true:=Xf.1 h.1 z j;simpa using n
   exact o z e (by omega) (a z (by omega) (f z j)) x c
theorem pD {A:cP}:∀{is:List Nat}{ss:List ak},eF P A ops is=some ss->ss.length=is.length/\∀p q y,is=p++y::q->∃a b c,ss=a++b::c/\a.length=p.length/\zm P A ops y=some b/\eF P A ops (p++q)=some (a++c)
 | [],ss,h=>by
  simp only[eF,WY] at h;subst h;refine⟨rfl,fun p q y e=>?_⟩;cases p<;>cases e
 | i::is,ss,h=>by
  simp only[eF] at h;split at h
  case h_2=>cases h
  rename_i s d f j;injection h with h
  subst h;obtain⟨m,o⟩:=pD j;refine⟨by simp[m],fun p q y e=>?_⟩;cases p with
  | nil =>
   simp only[XD,List.cons.injEq] at e;obtain⟨rfl,rfl⟩:=e;exact⟨[],s,d,rfl,rfl,f,by simpa using j⟩
  | cons x p =>
   simp only[Xk,List.cons.injEq] at e;obtain⟨rfl,rfl⟩:=e;obtain⟨a,b,c,r,n,k,l⟩:=o p q y rfl;refine⟨s::a,b,c,by simp[r],by simp[n],k,?_⟩;simp only[Xk,eF,f,l]
theorem tY {d:List (List Nat)}:∀{p q:List (Nat×ak)}{y:Nat×ak},nX d (p++y::q)=true->nX d (p++q)=true/\∀x∈p,kQ x.2 y.2=true\/x.1∈zn d y.1
 | [],q,y,h=>by
  obtain⟨o,l⟩:=y;simp only[XD,nX,W6] at h ⊢;exact⟨h.2,fun x a=>by cases a⟩
 | (m,n)::p,q,y,h=>by
  simp only[Xk,nX,W6] at h ⊢;obtain⟨e,k⟩:=h;obtain⟨j,f⟩:=tY k;have c:=Xf.1 e;refine⟨⟨Xf.2 fun z b=>c z ?_,j⟩,fun x a=>?_⟩
  ·rcases W4.1 b with b | b
   ·exact W4.2 (.inl b)
   ·exact W4.2 (.inr (Xv _ b))
  ·rcases W7.1 a with rfl | a
   ·have:=c y (W4.2 (.inr (by simp)));simp only[XA] at this;rcases this with h | h
    ·exact .inl h
    ·exact .inr (cH.1 h)
   ·exact f x a
theorem aC.same {L L2:Loc}{ρ:Env}{a:Act}(h:aC L ρ a) (b:L.sameAs L2):aC L2 ρ a:=by
 have c:∀sv,conc L2 sv=conc L sv:=by
  intro sv;cases sv with
  | v x=>rfl
  | el a j=>rfl
  | own k off=>simp only[conc,b k]
 exact⟨fun j=>by rw[c];exact h.eq j,fun j k off e=>by rw[b k];exact h.own j k off e,h.el⟩
theorem Step.WO {F F':aA}{L L' L2:Loc}{w w':World}(h:Step F L w F' L' w') (a:L'.sameAs L2):Step F L w F' L2 w' :=
 ⟨h.le,h.os,h.tape,h.output,h.size,h.same,h.frz,fun b ⟨k,o,e,hb⟩=>h.own b ⟨k,o,by rw[<-a k];exact e,hb⟩⟩
theorem AQ {A:cP}{i:Nat}{s:ak}{m:List ak}{F:aA}{L:Loc}{ρ:Env}{a:Act}{w:World}{KK:Act->World->Prop}(hi:i<ops.size) (c:zm P A ops i=some s) (hs:St F L w) (he:aC L ρ a) (hn:a.tmps.size=A.n)
  (l:aU P (s::m) F L ρ K)
  (hQ:∀a' w' F' L' ρ',St F' L' w'->aC L' ρ' a'->a'.tmps.size=A.n->a'.defers=a.defers->Step F L w F' L' w'->(∀j,((ops[i]?).bind (·.dst))≠some j->a'.tmps.getD j undef=a.tmps.getD j undef)->aU P m F' L' ρ' K->KK a' w') :
  wpOp P ops Q i KK a w:=by
 unfold zm at c;split at c
 case h_1=>cases c
 rename_i o ad;split at c
 case h_2=>cases c
 rename_i g s0 y al ab;split at c
 ·split at c
  ·injection c with c
   subst c;simp only[aU] at l
  ·injection c with c
   subst c;simp only[aU] at l
  ·cases c
 have bb:∃s',s=.op o.dst s' g/\((∀{F:aA}{L:Loc}{ρ:Env}{K:cE},evalOp P s' o.dst F L ρ K->evalOp P s0 o.dst F L ρ (fun F' L' ρ'=>Real F' L'->K F' L' ρ')) \/
   ∀{F:aA}{L:Loc}{ρ:Env}{K:cE},evalOp P s' o.dst F L ρ K->evalOp P s0 o.dst F L ρ (fun F' L' ρ'=>∃L2,L'.sameAs L2/\(Real F' L2->K F' L2 ρ'))):=by
  split at c
  ·split at c
   case h_2=>cases c
   rename_i s' z;injection c with c
   exact⟨s',c.symm,.inl fun h=>Jc z h⟩
  ·split at c
   case h_2=>cases c
   rename_i s' z;split at c
   case h_2=>cases c
   rename_i ae;injection c with c
   cases ag:gH s' with
   | true=>exact⟨s',c.symm,.inr fun h=>Gn z ag h⟩
   | false=>exact⟨s',c.symm,.inl fun h=>Jh z ae ag h⟩
 obtain⟨s',bc,r⟩:=bb;subst bc;have hd:∀k,o.dst=some k->k<a.tmps.size:=by
  intro k hk;rw[hk] at ab;rw[hn];have h2:Nat.blt k A.n=true:=ab;simpa using h2
 have az:(ops[i]?).bind (·.dst)=o.dst:=by rw[ad];rfl
 rw[az] at hQ;simp only[wpOp,ad];have t:evalOp P s' o.dst F L ρ (fun F' L' ρ'=>aU P m F' L' ρ' K)->o.wp P a w KK Q:=by
  intro l;rcases r with r | r
  ·have h1:=r l;have:=eD (Q:=Q) hs he hd al h1;refine Oper.wp_mono ?_ (pA (asg:=[]) this);rintro a' w' ⟨⟨F',L',ρ',g1,g2,g3,g4,g5,g6⟩,ac⟩;exact hQ a' w' F' L' ρ' g1 g2 (by rw[g3,hn]) g4 g5 ac (g6 ⟨w',g1⟩)
  ·have h1:=r l;have:=eD (Q:=Q) hs he hd al h1;refine Oper.wp_mono ?_ (pA (asg:=[]) this);rintro a' w' ⟨⟨F',L',ρ',g1,g2,g3,g4,g5,L2,g6,g7⟩,ac⟩;have s1:St F' L2 w':=g1.part fun k o e=>by rw[<-g6 k];exact e
   exact hQ a' w' F' L2 ρ' s1 (g2.same g6) (by rw[g3,hn]) g4 (g5.WO g6) ac (g7 ⟨w',s1⟩)
 have skip:aU P m F L (put o.dst (.v undef) ρ) K->KK (a.put o.dst undef) w:=by
  intro l;exact hQ _ w F L _ hs (he.put hd (v:=undef) (x:=.v undef) rfl bL dc (qi L)) (by rw[j9,hn]) (gj _ _ _) (Step.refl _ _ _) (fun j hj=>jN hj) l
 cases u:o.guard with
 | none =>
  rw[u] at y;simp only[gO,WY] at y;subst y;simp only[aU] at l;rw[j3 (by simp[Region.wanted,u])];exact .inl (t l)
 | some p =>
  obtain⟨j,q⟩:=p;rw[u] at y;simp only[gO] at y;split at y
  case h_2=>cases y
  rename_i d ao;injection y with y
  subst y;simp only[aU] at l;split at l
  ·rename_i b hb;have f:=he.eq d;rw[hb] at f;have hy:yielded ops a.tmps j=some b:=by
    simp only[yielded,ao,Option.bind_some,qj f]
   have hw:Region.wanted o (yielded ops a.tmps)=(b == q):=by
    simp only[Region.wanted,u,hy];cases b<;>cases q<;>rfl
   rw[hw];cases b<;>simp only[vh] at l
   ·rw[kg hb] at l;cases q
    ·exact .inl (t l)
    ·exact skip l
   ·rw[kg hb] at l;cases q
    ·exact skip l
    ·exact .inl (t l)
  ·rename_i vs hb;have f:=he.eq d;rw[hb] at f;have hy:yielded ops a.tmps j=none:=by
    simp only[yielded,ao,Option.bind_some];rw[Xt] at f;cases e:a.tmps[d]? with
    | none=>rfl
    | some v=>rw[e] at f;simp only[Option.getD_some,conc] at f;rw[f]
   have hw:Region.wanted o (yielded ops a.tmps)=false:=by
    simp only[Region.wanted,u,hy];rfl
   rw[hw];exact skip l
  ·exact l.elim
theorem aC.vd {L:Loc}{ρ:Env}{a:Act}(b:aC L ρ a):Vd L ρ:=by
 intro t k off e;exact b.own t k off e
theorem rU {l:Array Bool}{z:Nat}(h:z<l.size) (b c:Bool):l.getD z b=l.getD z c:=by
 simp[Xt,h]
theorem min_mem:∀{l:List Nat},l≠[]->∃y,y∈l/\∀z∈l,y<=z
 | [],h=>xo rfl h
 | [x],_=>⟨x,by simp,fun z a=>by simp at a;omega⟩
 | x::d::l,_=>by
  obtain⟨y,c,b⟩:=min_mem (l:=d::l) (by simp)
  by_cases h:x<=y
  ·exact⟨x,by simp,fun z a=>by
    rcases W7.1 a with rfl | a
    ·exact Xn _
    ·exact XK h (b z a)⟩
  ·exact⟨y,Xv _ c,fun z a=>by
    rcases W7.1 a with rfl | a
    ·omega
    ·exact b z a⟩
theorem nY {i z:Nat}{o:Oper}(d:ops[i]?=some o):z∈direct ops i↔∃e∈o.after,Region.binds .any e=true/\e.on=z:=by
 simp only[direct,d,Xz,List.mem_filter,Array.mem_toList_iff,binding];constructor
 ·rintro⟨e,⟨b,a⟩,c⟩;exact⟨e,b,a,c⟩
 ·rintro⟨e,b,a,c⟩;exact⟨e,⟨b,a⟩,c⟩
theorem EJ {A:cP}{cl:List (List Nat)}(bd:Gs ops cl=true):∀(fuel:Nat) (l:List Nat) (ss:List ak) (b:Array Bool) (F:aA) (L:Loc) (ρ:Env) (a:Act) (w:World),
  eF P A ops l=some ss->b.size=ops.size->l.Nodup->(∀i,i∈l↔i<ops.size/\b.getD i true=false)->l.length<=fuel->nX cl (l.zip ss)=true ->
  (∀i,i<ops.size->b.getD i true=true->∀z∈direct ops i,b.getD z true=true) ->
  St F L w->aC L ρ a->a.tmps.size=A.n->aU P ss F L ρ K ->
  (∀a' w',dY A.n F L w a (dstsOf ops (List.range ops.size)) K a' w'->Q .normal a' w')->wpAny P .any ops Q fuel b a w:=by
 have m:∀y z,y<ops.size->z∈direct ops y->z<y:=by
  intro y z hy t;have h:=Xf.1 bd y (List.mem_range.2 hy);simp only[zp,W6] at h;have h3:Nat.blt z y=true:=Xf.1 h.1 z t;simpa using h3
 intro fuel
 induction fuel with
 | zero =>
  intro l ss b F L ρ a w hl ao ax c ac hp d hs he hn hK hQ;have:l=[]:=Xu (by omega);subst this;simp only[eF,WY] at hl;subst hl;refine⟨?_,hQ a w ⟨F,L,ρ,hs,he,hn,rfl,Step.refl _ _ _,fun _ _=>rfl,hK⟩⟩;apply List.eq_nil_iff_forall_not_mem.2;intro i hi;rw[mem_ready] at hi;obtain⟨h1,o,h2,_⟩:=hi;have:=(c i).2 ⟨(Array.getElem?_eq_some_iff.1 h2).1,h1⟩;cases this
 | succ fuel ih =>
  intro l ss b F L ρ a w hl ao ax c ac hp d hs he hn hK hQ;refine⟨fun hr=>?_,fun y hy=>?_⟩
  ·have:l=[]:=by
    refine Classical.byContradiction fun r=>?_;obtain⟨y,h1,h2⟩:=min_mem r;obtain⟨h3,h4⟩:=(c y).1 h1;have v:y∈Region.ready .any ops b:=by
     rw[mem_ready];refine⟨h4,ops[y],Array.getElem?_eq_getElem h3,fun e ag ap=>?_⟩;have t:e.on∈direct ops y:=(nY (Array.getElem?_eq_getElem h3)).2 ⟨e,ag,ap,rfl⟩;have cd:=m y e.on h3 t;rw[rU (by omega) false true];cases hd:b.getD e.on true with
     | true=>rfl
     | false =>
      have:=h2 e.on ((c e.on).2 ⟨by omega,hd⟩);omega
    rw[hr] at v;cases v
   subst this;simp only[eF,WY] at hl;subst hl;exact hQ a w ⟨F,L,ρ,hs,he,hn,rfl,Step.refl _ _ _,fun _ _=>rfl,hK⟩
  ·rw[mem_ready] at hy;obtain⟨h1,o,ho,an⟩:=hy;have f:=(Array.getElem?_eq_some_iff.1 ho).1;have al:=(c y).2 ⟨f,h1⟩;obtain⟨p,q,rfl⟩:=List.append_of_mem al;obtain⟨cY,be⟩:=pD hl;obtain⟨sp,sy,sq,rfl,ae,bp,ce⟩:=be p q y rfl;have bi:(p++y::q).zip (sp++sy::sq)=p.zip sp++(y,sy)::q.zip sq:=by
    rw[List.zip_append ae.symm];rfl
   rw[bi] at hp;obtain⟨cc,ci⟩:=tY hp;have u:∀z∈direct ops y,b.getD z true=true:=by
    intro z t;have cd:=m y z f t;obtain⟨e,ag,ap,rfl⟩:=(nY ho).1 t;rw[rU (by omega) true false];exact an e ag ap
   have s:∀sx∈sp,kQ sx sy=true:=by
    intro sx ch;obtain⟨k,hk⟩:=List.getElem?_of_mem ch;have ds:=(W5.1 hk).1;have aw:p[k]?=some (p[k]'(by omega)):=WZ (by omega);have hm:(p[k]'(by omega),sx)∈p.zip sp:=W9 (i:=k) (by rw[List.getElem?_zip_eq_some];exact⟨aw,hk⟩);rcases ci _ hm with h | h
    ·exact h
    ·exfalso;have hd:=tX bd (done:=fun z=>b.getD z true=true) d y f u _ h;have cb:p[k]'(by omega)∈p++y::q:=W4.2 (.inl (W9 aw));have:=((c _).1 cb).2;simp only at hd;rw[hd] at this;cases this
   have bs:=yt sp s ⟨w,hs⟩ he.vd hK;refine AQ f bp hs he hn bs ?_;intro a' w' F' L' ρ' g1 g2 g3 g4 g5 g6 g7;have aa:(p++q).Nodup/\y∉p++q:=by
    have:=(List.perm_middle.nodup_iff).1 ax;rw[List.nodup_cons] at this;exact⟨this.2,this.1⟩
   have ab:∀i,(b.setIfInBounds y true).getD i true=if i=y then true else b.getD i true:=by
    intro i;simp only[Xt,Array.getElem?_setIfInBounds]
    by_cases hi:y=i
    ·subst hi;rw[j3 rfl,j3 rfl];simp[ao,f]
    ·rw[vv hi,vv (fun h=>hi h.symm)]
   refine ih (p++q) (sp++sq) _ F' L' ρ' a' w' ce (by simp[ao]) aa.1 (fun i=>?_) (by simp at ac ⊢;omega) ?_ ?_ g1 g2 g3 g7 ?_
   ·rw[ab];have h0:=c i;constructor
    ·intro hi;have r:i≠y:=fun e=>aa.2 (e▸hi);rw[vv r];refine h0.1 ?_;rcases W4.1 hi with h | h
     ·exact W4.2 (.inl h)
     ·exact W4.2 (.inr (Xv _ h))
    ·rintro⟨bu,am⟩;split at am
     ·cases am
     ·rename_i r;have:=h0.2 ⟨bu,am⟩;rcases W4.1 this with h | h
      ·exact W4.2 (.inl h)
      ·rcases W7.1 h with h | h
       ·exact xo h r
       ·exact W4.2 (.inr h)
   ·rw[List.zip_append ae.symm];exact cc
   ·intro i hi hd z t;rw[ab] at hd ⊢;split
    ·rfl
    ·split at hd
     ·rename_i h;subst h;exact u z t
     ·exact d i hi hd z t
   ·rintro co bx ⟨F'',L'',bc,k1,k2,k3,k4,k5,k6,k7⟩;refine hQ co bx ⟨F'',L'',bc,k1,k2,k3,k4.trans g4,g5.trans k5,fun j hj=>?_,k7⟩;rw[k6 j hj,g6 j];intro e;apply hj;have:∀(is:List Nat),y∈is->j∈dstsOf ops is:=by
     intro is
     induction is with
     | nil=>intro h;cases h
     | cons x is bb =>
      intro h;simp only[dstsOf];rcases W7.1 h with rfl | h
      ·rw[e];simp
      ·split
       ·exact Xv _ (bb h)
       ·exact bb h
    exact this _ (List.mem_range.2 f)
theorem q9 {A:cP}{r:Nat}{is:List Nat}{o:List (List Nat)}{ss:List ak}{F:aA}{L:Loc}{ρ:Env}{a:Act}{w:World}(q:eF P A ops is=some ss) (k:Cn P ops is o ss=true)
  (hs:St F L w) (he:aC L ρ a) (v:a.tmps.size=A.n) (m:aU P ss F L ρ K) (s:∀d w',dY A.n F L w a (dstsOf ops (List.range ops.size)) K d w'->Q .normal d w') :
  (Code.region r ops true).wp P Q a w:=by
 simp only[Cn,W6] at k;obtain⟨⟨⟨⟨⟨⟨u,z⟩,f⟩,j⟩,h5⟩,p⟩,t⟩:=k;have f:=cJ f;have j:=yo j;have c:∀i∈is,i<ops.size:=fun i hi=>by
  have h:Nat.blt i ops.size=true:=Xf.1 h5 i hi;simpa using h
 refine wp_region_any u ?_;show wpAny P .any ops Q ops.size (Array.replicate ops.size false) a w.drew;refine EJ z ops.size is ss _ F L ρ a w.drew q (by simp) f (fun i=>?_) (by omega) t ?_ hs.drew he v m ?_
 ·constructor
  ·intro hi;refine⟨c i hi,?_⟩;simp[Xt,c i hi]
  ·rintro⟨hi,_⟩;exact cH.1 (Xf.1 p i (List.mem_range.2 hi))
 ·intro i hi e;simp[Xt,hi] at e
 ·rintro d w' ⟨F',L',ρ',l,x,y,g4,b,g6,g7⟩;refine s d w' ⟨F',L',ρ',l,x,y,g4,?_,g6,g7⟩;exact⟨b.le,b.os,b.tape,b.output,b.size,b.same,b.frz,b.own⟩
end
def j4 (L L':Loc):Prop:=∀k g t cs,L.get k=some (.box g t cs)->∃cs',L'.get k=some (.box g t cs')
def vI (ks:List Nat) (L L':Loc):Prop:=∀k g t cs,L.get k=some (.box g t cs)->∃cs',L'.get k=some (.box g t cs')/\(k∉ks->cs'=cs)
structure eG (P:Program) (PX:aA->Loc->Value->Prop) (f:Nat) (args:List Value) (F:aA) (L:Loc) (K:aA->Loc->Value->Prop):Prop where
 out:∃(ks ko:List Nat) (Lin:List Own) (R:aA->List Own->Value->Prop) (Pp:aA->List Own->Value->Prop),L.sub ks=some Lin/\ks.Nodup/\ko.Nodup/\(∀k,k∈ko->k∈ks\/L.get k=none)/\uJ P f args.toArray F Lin R Pp /\
  (∀v F' Lo,F.le F'->ks.length=Lo.length->vI ks L ((L.Wi ks).puts ks Lo)->Pp F' Lo v->PX F' ((L.Wi ks).puts ks Lo) v) /\
  ∀v F' Lo,F.le F'->R F' Lo v->ko.length=Lo.length /\
   (∀k g t cs,k∈ks->L.get k=some (.box g t cs)->∃cs',Loc.get ((L.Wi ks).puts ko Lo) k=some (.box g t cs')) /\
   K F' ((L.Wi ks).puts ko Lo) v
section
variable {P:Program}{F:aA}{L:Loc}{ρ:Env}{a:Act}{w:World}{K:cE}{o:Oper}{Q:Exit->Act->World->Prop}
theorem eG.imp {PX:aA->Loc->Value->Prop}{f:Nat}{args:List Value}{K K':aA->Loc->Value->Prop}(h:eG P PX f args F L K) (d:∀F' L' v,K F' L' v->K' F' L' v):eG P PX f args F L K':=by
 obtain⟨ks,ko,l,R,Pp,k,r,p,m,s,j,e⟩:=h;exact⟨ks,ko,l,R,Pp,k,r,p,m,s,j,fun v F' Lo n q=>let⟨a,b,c⟩:=e v F' Lo n q;⟨a,b,d _ _ _ c⟩⟩
theorem AR {PX:aA->Loc->Value->Prop}{f:Nat}{args:List Value}(hs:St F L w) (he:aC L ρ a) (hd:∀k,o.dst=some k->k<a.tmps.size)
  (hrun:(∃fn,P.funcs[f]?=some fn/\fn.body.isSome=true/\(fn.name == "runtime.NumGoroutine")=false)->(execOp a.eval o).run P w=.ok (.enter f args.toArray) w)
  (hK:eG P PX f args F L fun F' L' v=>K F' L' (put o.dst (.v v) ρ))
  (hQ:∀v ch w' F' L',Ca v ch->St F' L' w'->Step F L w F' L' w'->PX F' L' v->Q (.panic ch) a w'):o.wp P a w (aZ F L w a K) Q:=by
 obtain⟨ks,ko,l,R,Pp,hsub,hn,hno,hko,hc,hPX,hK⟩:=hK;unfold Oper.wp;rw[hrun hc.ent];rw[Oper.upon_enter];refine(hc.run w (hs.handed hsub hn)).mono ?_;rintro e w' (⟨v,F',lo,rfl,hs',hst,hR⟩ | ⟨v,ch,F',lo,rfl,hch,hs',hst,hlo,hbx,hp⟩)
 ·obtain⟨hlen,hbox,hK⟩:=hK v F' lo hst.le hR;obtain⟨h1,h2⟩:=iT hs hsub hn hno hko hs' hst hlen;refine⟨F',_,_,h1,he.put hd (x:=.v v) rfl bL dc ?_,j9 _ _ _,gj _ _ _,h2,hK⟩;intro k g ty cs e
  by_cases hk:k∈ks
  ·exact hbox k g ty cs hk e
  ·rcases cW ko lo (L.Wi ks) k hno hlen with⟨h1,h2⟩ | ⟨i,h1,h2,h3⟩
   ·rw[h1,eX,vv hk];exact⟨cs,e⟩
   ·rcases hko k (W9 h1) with h | h
    ·exact xo h hk
    ·rw[h] at e;cases e
 ·obtain⟨hl,hg⟩:=dW hsub;have hlen:ks.length=lo.length:=by rw[hlo,hl]
  obtain⟨h1,h2⟩:=iT hs hsub hn hn (fun k hk=>.inl hk) hs' hst hlen;refine hQ v ch w' F' _ hch h1 h2 (hPX v _ _ hst.le hlen ?_ hp);intro k g t cs e;rcases cW ks lo (L.Wi ks) k hn hlen with⟨q1,q2⟩ | ⟨i,q1,q2,q3⟩
  ·rw[q1,eX,vv q2];exact⟨cs,e,fun _=>rfl⟩
  ·rw[q2];have:=hg i k q1;rw[e] at this;obtain⟨cs',h⟩:=hbx i g t cs this.symm;exact⟨cs',h,fun h=>xo (W9 q1) h⟩
end
section
variable {P:Program}
theorem nH {y:Operand}{s:dS}(h:xX y=some s):∃g,s=.gload g:=by
 cases y with
 | global g =>
  simp only[xX] at h;split at h
  ·injection h with h;exact⟨_,h.symm⟩
  ·cases h
 | tmp n=>cases h
 | const v=>cases h
 | func f=>cases h
theorem Gt {own:Bool}{op:Op}{f:Nat}{args:List X}(b:gM P own op=some (.call f args)):∃c,op=.call c/\c.callee=.value (.func f)/\fN c.args.toList=some args:=by
 cases op
 case call c =>
  simp only[gM] at b;split at b
  case h_1=>cases b
  rename_i e d;split at b
  ·rename_i m j;split at b
   case h_2=>cases b
   split at b
   case h_2=>cases b
   injection b with b
   injection b with e1 e2
   subst e1 e2;exact⟨c,rfl,j,d⟩
  all_goals (exfalso;revert b;repeat' split)<;>simp
 all_goals (exfalso;revert b;simp only[gM];repeat' split)<;>first | contradiction | (intro h;obtain⟨k,h⟩:=nH h;cases h;done) | (simp;done) | (rename_i l;obtain⟨k,rfl⟩:=nH l;simp)
theorem EK {own:Bool}{op:Op}{x:X}{args:List X}(b:gM P own op=some (.callV x args)):∃c,op=.call c/\fN c.args.toList=some args/\((∃y,c.callee=.value y/\bh y=some x)\/∃n nm,c.callee=.invoke (.tmp n) nm/\x=.mt nm n):=by
 cases op
 case call c =>
  simp only[gM] at b;split at b
  case h_1=>cases b
  rename_i f d;split at b
  ·exfalso;revert b;(repeat' split)<;>simp
  ·rename_i y _ e;split at b
   case h_2=>cases b
   rename_i l;injection b with b
   injection b with e1 e2
   subst e1 e2;exact⟨c,rfl,d,.inl ⟨y,e,l⟩⟩
  ·rename_i n nm e;injection b with b
   injection b with e1 e2
   subst e1 e2;exact⟨c,rfl,d,.inr ⟨_,_,e,rfl⟩⟩
  all_goals (exfalso;revert b;repeat' split)<;>simp
 all_goals (exfalso;revert b;simp only[gM];repeat' split)<;>first | contradiction | (intro h;obtain⟨k,h⟩:=nH h;cases h;done) | (simp;done) | (rename_i j;obtain⟨k,rfl⟩:=nH j;simp)
theorem Ji {own:Bool}{op:Op}{x:X}(b:gM P own op=some (.pan x)):∃y,op=.panic y/\bh y=some x:=by
 cases op
 case panic y =>
  simp only[gM] at b;split at b
  case h_2=>cases b
  rename_i d;injection b with b
  injection b with e1
  subst e1;exact⟨y,rfl,d⟩
 all_goals (exfalso;revert b;simp only[gM];repeat' split)<;>first | contradiction | (intro h;obtain⟨k,h⟩:=nH h;cases h;done) | (simp;done) | (rename_i c;obtain⟨k,rfl⟩:=nH c;simp)
end
section
variable {P:Program}{F:aA}{L:Loc}{ρ:Env}{a:Act}{w:World}{K:cE}{o:Oper}{Q:Exit->Act->World->Prop}
theorem tZ {PX:aA->Loc->Value->Prop}{own:Bool}{f:Nat}{args:List X}(t:St F L w) (j:aC L ρ a) (l:∀k,o.dst=some k->k<a.tmps.size) (p:gM P own o.op=some (.call f args))
  (m:eG P PX f (bf L ρ args) F L fun F' L' v=>K F' L' (put o.dst (.v v) ρ))
  (q:∀v h w' F' L',Ca v h->St F' L' w'->Step F L w F' L' w'->PX F' L' v->Q (.panic h) a w'):o.wp P a w (aZ F L w a K) Q:=by
 refine AR t j l (fun d=>?_) m q;obtain⟨c,r,s,n⟩:=Gt p;have e:=eW n j;have b:c.args.map a.eval=(bf L ρ args).toArray:=by apply Array.ext';simpa using e
 simp[execOp,r,resolve,s,Deferred.ofValue,Act.eval,invoke,b,jc d]
theorem nZ {PX:aA->Loc->Value->Prop}{own:Bool}{f:Nat}{x:X}{fi ca:List Value}{args:List X}(hs:St F L w) (q:aC L ρ a) (hd:∀k,o.dst=some k->k<a.tmps.size) (hl:gM P own o.op=some (.callV x args)) (d:kY P (ev ρ x)=some (f,fi,ca))
  (hK:eG P PX f (fi++bf L ρ args++ca) F L fun F' L' v=>K F' L' (put o.dst (.v v) ρ))
  (hQ:∀v ch w' F' L',Ca v ch->St F' L' w'->Step F L w F' L' w'->PX F' L' v->Q (.panic ch) a w'):o.wp P a w (aZ F L w a K) Q:=by
 refine AR hs q hd (fun l=>?_) hK hQ;obtain⟨c,ho,ha,⟨y,hc,hy⟩ | ⟨n,nm,hc,rfl⟩⟩:=EK hl
 ·have ey:=aG hy q;have m:=eW ha q;have h:c.args.map a.eval=(bf L ρ args).toArray:=by apply Array.ext';simpa using m
  have p:∀z,ev ρ x=.v z->a.eval y=z:=fun z e=>by rw[ey,bB e]
  have:=AG (w:=w) (args:=bf L ρ args) d p l;simp only[execOp,ho,resolve,hc,h];exact this
 ·have m:=eW ha q;have h:c.args.map a.eval=(bf L ρ args).toArray:=by apply Array.ext';simpa using m
  simp only[ev] at d;cases r:ρ n with
  | own k off=>rw[r] at d;cases d
  | el b j=>rw[r] at d;cases d
  | v z =>
   rw[r] at d;have hz:a.eval (.tmp n)=z:=by
    have:=q.eq n;rw[r] at this;exact this
   simp only[Og,kY] at d;split at d
   case h_2=>cases d
   rename_i t u aa;split at d
   case h_2=>cases d
   rename_i f' hm;injection d with d
   injection d with e1 e2
   injection e2 with e2 e3
   subst e1 e2 e3;have s:z=.iface t u:=by simpa using aa
   subst s;have ac:(#[Value.iface t u]++(bf L ρ args).toArray).extract 1 (#[Value.iface t u]++(bf L ρ args).toArray).size=(bf L ρ args).toArray:=by apply Array.ext';simp
   have h0:(#[Value.iface t u]++(bf L ρ args).toArray)[0]?=some (.iface t u):=by simp
   have:=jd (w:=w) (u:=u) (args:=(bf L ρ args).toArray) hm l;simp only[execOp,ho,resolve,hc,h,hz,Sem.run_bind,Sem.run_pure,Result.andThen_ok,invoke,h0,ac,this];simp
theorem EL {PX:aA->Loc->Value->Prop}{own:Bool}{x:X}(n:St F L w) (m:aC L ρ a) (h:gM P own o.op=some (.pan x)) {t:TypeId}{u:Value}(d:val L ρ x=.iface t u) (e:PX F L (.iface t u))
  (j:∀v c w' F' L',Ca v c->St F' L' w'->Step F L w F' L' w'->PX F' L' v->Q (.panic c) a w'):o.wp P a w (aZ F L w a K) Q:=by
 obtain⟨y,l,k⟩:=Ji h;have f:=aG k m;unfold Oper.wp;have b:(execOp a.eval o).run P w=.halt (.panic (.iface t u)) w:=by
  simp[execOp,l,f,d,Instr.panic,goPanic]
 rw[b];exact j _ _ w F L (Ca.one _) n (Step.refl _ _ _) e
end
structure CallXDPt (P:Program) (PX:aA->Loc->Value->Prop) (fb:List Nat) (f:Nat) (args:List Value) (F:aA) (L:Loc) (K:aA->Loc->Value->Prop):Prop where
 out:∃(ks:List Nat) (Lin:List Own) (R:aA->List Own->Value->Prop) (Pp:aA->List Own->Value->Prop),L.sub ks=some Lin/\ks.Nodup/\(∀k∈ks,k∉fb)/\uJ P f args.toArray F Lin R Pp /\
  (∀v F' L' Lo,F.le F'->L'.sub ks=some Lo->vI ks L L'->Pp F' Lo v->PX F' L' v) /\
  ∀v F' Lo,F.le F'->R F' Lo v->ks.length=Lo.length/\(∀(i:Nat) g t cs,Lin[i]?=some (.box g t cs)->∃cs',Lo[i]?=some (.box g t cs')) /\
   (Real F' (L.puts ks Lo)->K F' (L.puts ks Lo) v)
def qz (P:Program) (L:Loc) (ρ:Env):dS->Option (Nat×List Value)
 | .call f args=>some (f,bf L ρ args)
 | .callV f args=>match kY P (ev ρ f) with
  | some (f,fi,ca)=>some (f,fi++bf L ρ args++ca)
  | none=>none
 | _=>none
def zq:dS->List Nat
 | .call _ args=>cu args
 | .callV f args=>cu (f::args)
 | _=>[]
def AU:dS->Bool
 | .call _ _=>true
 | .callV _ _=>true
 | _=>false
def bg (P:Program) (PX:aA->Loc->Value->Prop) (fb:List Nat):List ak->aA->Loc->Env->cE->Prop
 | [],F,L,ρ,K=>K F L ρ
 | .op d o g::a,F,L,ρ,K=>∃o',res g ρ o=some o'/\evalOp P o' d F L ρ fun F' L' ρ'=>bg P PX fb a F' L' ρ' K
 | .frz _::_,_,_,_,_=>False
 | .pc d o g::a,F,L,ρ,K=>match qz P L ρ o,g with
  | some (f,vs),none=>CallXDPt P PX fb f vs F L fun F' L' v=>bg P PX fb a F' L' (put d (.v v) ρ) K
  | _,_=>False
def Gu:dS->Bool
 | .loadF _ _ _=>true
 | .gload _=>true
 | _=>false
def LO:dS->Bool
 | .mkfn _ _ _=>true
 | _=>false
def N8 (o:dS):Bool:=AJ o||Gu o||LO o
def Oj (fb:List Nat):dS->Bool
 | .loadK key _ _ _=>fo fb key
 | _=>false
theorem jP {fb:List Nat}{o:dS}(h:(N8 o||Oj fb o)=true):cS o=true:=by cases o<;>first | rfl | (exact xo h (by decide)) | (simp[N8,Oj,AJ,Gu,LO] at h)
def rV:ak->Option Nat
 | .op d (.allocD _ _) none=>d
 | _=>none
def xE:ak->Option Nat
 | .op d _ _=>d
 | .frz _=>none
 | .pc d _ _=>d
def fD (fb:List Nat):ak->ak->Bool
 | .op a x c,.op b y d=>kQ (.op a x c) (.op b y d)
 | .op a x c,.pc b y none=>AU y&&(N8 x||Oj fb x)&&qZ a (zq y)&&qZ b (looks x c)&&AP a b
 | .pc a x none,.op (some k) (.allocD _ _) none=>AU x&&qZ (some k) (zq x)&&AP a (some k)
 | _,_=>false
def Dj:dS->Bool
 | .copyX _ _ _ _=>true
 | _=>false
def P1:ak->Bool
 | .op _ o _=>okD o||Dj o
 | .pc _ o none=>AU o
 | _=>false
section
variable {P:Program}{PX:aA->Loc->Value->Prop}{fb:List Nat}{F F':aA}{L L':Loc}{ρ:Env}{K K':cE}
theorem EM {sv:SV}(hb:j4 L L') (c:∀k off,sv=.own k off->∃g t cs,L.get k=some (.box g t cs)):conc L' sv=conc L sv:=by
 cases sv with
 | v x=>rfl
 | el a j=>rfl
 | own k off =>
  obtain⟨g,t,cs,e⟩:=c k off rfl;obtain⟨cs',b⟩:=hb k g t cs e;simp only[conc,e,b]
theorem Gv (hb:j4 L L') (a:Vd L ρ) (x:X):val L' ρ x=val L ρ x:=EM hb fun k off e=>a.ev e
theorem rf (hb:j4 L L') (a:Vd L ρ) (xs:List X):bf L' ρ xs=bf L ρ xs:=di fun x _=>Gv hb a x
theorem vJ {d:Option Nat}{v:SV}{xs:List X}(h:∀k,d=some k->k∉cu xs):bf L (put d v ρ) xs=bf L ρ xs:=di fun x a=>by simp only[val,fI h x a]
theorem Jj {o:dS}(h:(N8 o||Oj fb o)=true) (f:∀j∈fb,L'.get j=L.get j) (d:F.le F') (hb:j4 L L') (c:Vd L ρ) {V:SV->Prop}(a:aI o F L ρ V):aI o F' L' ρ V:=by
 simp only[N8,XA] at h;rcases h with((h | h) | h) | h
 rotate_right
 ·cases o<;>first | (cases h;done) | skip
  rename_i key r n x;have l:=f key (cH.1 h);simp only[aI] at a ⊢;split at a
  ·rename_i k off e;split at a
   ·rename_i b;have b:=yo b;subst b;rw[l];exact a
   ·exact a.elim
  ·exact a.elim
 ·exact yh h a
 ·cases o<;>first | (cases h;done) | skip
  ·simp only[aI] at a ⊢;obtain⟨u,t,p,m,q⟩:=a;exact⟨u,t,p,d _ _ m,q⟩
  ·simp only[aI] at a ⊢;split at a
   ·exact a.up d
   ·exact a.up d
   ·exact a.elim
 ·cases o<;>first | (cases h;done) | skip
  simp only[aI,rf hb c] at a ⊢;exact a
theorem j4.vd (hb:j4 L L') (a:Vd L ρ):Vd L' ρ:=fun t k off e=>let⟨g,ty,cs,h⟩:=a t k off e;let⟨cs',h'⟩:=hb k g ty cs h;⟨g,ty,cs',h'⟩
theorem Vd.WV (a:Vd L ρ) (d:Option Nat) (v:Value):Vd L (put d (.v v) ρ):=by
 intro t k off e;rw[put_eq] at e;cases d with
 | none=>exact a t k off e
 | some j =>
  simp only[] at e;split at e
  ·cases e
  ·exact a t k off e
theorem s5 {ks:List Nat}{Lin Lo:List Own}(d:L.sub ks=some Lin) (f:ks.Nodup) (a:ks.length=Lo.length) (h:∀(i:Nat) g t cs,Lin[i]?=some (.box g t cs)->∃cs',Lo[i]?=some (.box g t cs')) :
  j4 L (L.puts ks Lo)/\(∀j,L.get j=none->(L.puts ks Lo).get j=none)/\∀j,j∉ks->(L.puts ks Lo).get j=L.get j:=by
 obtain⟨o,m⟩:=dW d;refine⟨fun k g t cs e=>?_,fun j e=>?_,fun j n=>?_⟩
 ·rcases cW ks Lo L k f a with⟨b,c⟩ | ⟨i,b,c,l⟩
  ·rw[b];exact⟨cs,e⟩
  ·rw[c];have:=m i k b;rw[e] at this;exact h i g t cs this.symm
 ·rcases cW ks Lo L j f a with⟨b,c⟩ | ⟨i,b,c,l⟩
  ·rw[b];exact e
  ·have:=m i j b;rw[e] at this;have p:=XT.1 this.symm;omega
 ·rcases cW ks Lo L j f a with⟨b,c⟩ | ⟨i,b,c,l⟩
  ·exact b
  ·exact xo (W9 b) n
theorem CallXDPt.imp {f:Nat}{args:List Value}{K K':aA->Loc->Value->Prop}(h:CallXDPt P PX fb f args F L K)
  (p:∀F' L' v,F.le F'->j4 L L'->(∀j,L.get j=none->L'.get j=none)->(∀j∈fb,L'.get j=L.get j)->Real F' L'->K F' L' v->K' F' L' v):CallXDPt P PX fb f args F L K':=by
 obtain⟨ks,l,R,Pp,k,n,e,t,q,x⟩:=h;refine⟨ks,l,R,Pp,k,n,e,t,q,fun v F' Lo m u=>?_⟩;obtain⟨a,b,c⟩:=x v F' Lo m u;obtain⟨o,r,w⟩:=s5 k n a b;exact⟨a,b,fun d=>p _ _ _ m o r (fun j s=>w j fun h=>e j h s) d (c d)⟩
theorem iD {d:Option Nat}{o:dS}{g:Option (Nat×Bool)}{a:List ak} :
  bg P PX fb (.op d o g::a) F L ρ K↔∃o',res g ρ o=some o'/\evalOp P o' d F L ρ (fun F1 L1 b=>bg P PX fb a F1 L1 b K):=Iff.rfl
theorem qG:∀(ks:List Nat) (Lo:List Own) (L:Loc) {k:Nat}{o:Own},k∉ks->(L.set k o).puts ks Lo=(L.puts ks Lo).set k o
 | [],Lo,L,k,o,_=>by cases Lo<;>rfl
 | j::ks,[],L,k,o,_=>rfl
 | j::ks,p::Lo,L,k,o,h=>by
  simp only[Loc.puts];rw[set_comm L o p (fun e=>h (by simp[e])),qG ks Lo (L.set j p) (fun a=>h (by simp[a]))]
theorem Dk:∀{ks:List Nat}{L:Loc}{k:Nat}{o:Own},k∉ks->(L.set k o).sub ks=L.sub ks
 | [],L,k,o,_=>rfl
 | j::ks,L,k,o,h=>by
  simp only[Loc.sub];rw[cg (fun e=>h (by simp[e])),Dk (fun a=>h (by simp[a]))]
theorem MJ {t r:Option Nat}{x y:dS}{gx gy:Option (Nat×Bool)}{a:List ak}(hp:kQ (.op t x gx) (.op r y gy)=true) (hr:Real F L) (s:Vd L ρ) (h:bg P PX fb (.op t x gx::.op r y gy::a) F L ρ K):bg P PX fb (.op r y gy::.op t x gx::a) F L ρ K:=by
  simp only[kQ,W6] at hp;obtain⟨⟨⟨⟨⟨al,d⟩,hc⟩,z⟩,h2⟩,h3⟩:=hp;have z:=jO z;have h2:=jO h2;have h3:=nF h3;have az:∀k,r=some k->t≠some k:=fun k e e'=>h3 k e' e;rw[iD] at h;obtain⟨x',q,h⟩:=h;have f:okD gQ=true:=rfl;have m:okD x'=true:=by rcases cU q with rfl | rfl;exact al;exact f
  have hy:∃l,res gy ρ y=some l:=by
   obtain⟨v,F1,L1,c⟩:=tW m hr h;rw[iD] at c;obtain⟨l,b,_⟩:=c;rw[nW z] at b;exact⟨l,b⟩
  obtain⟨l,b⟩:=hy;have w:okD l=true:=by rcases cU b with rfl | rfl;exact d;exact f
  have hA:evalOp P x' t F L ρ (fun F1 L1 p=>evalOp P l r F1 L1 p (fun F2 L2 n=>bg P PX fb a F2 L2 n K)):=by
   refine jf m hr s h ?_;rintro F1 L1 p ⟨v,rfl⟩ _ _ _ c;rw[iD] at c;obtain⟨ay,j,c⟩:=c;rw[nW z,b] at j;injection j with j
   subst j;exact c
  have lx:∀k,r=some k->k∉cu (bD x'):=by
   intro k e c;rcases cU q with rfl | rfl
   ·exact h2 k e (nG c)
   ·simp[gQ,bD,cu] at c
  have ly:∀k,t=some k->k∉cu (bD l):=by
   intro k e c;rcases cU b with rfl | rfl
   ·exact z k e (nG c)
   ·simp[gQ,bD,cu] at c
  have hB:evalOp P l r F L ρ (fun F1 L1 p=>evalOp P x' t F1 L1 p (fun F2 L2 n=>bg P PX fb a F2 L2 n K)):=by
   by_cases o:l=gQ
   ·subst o;simp only[gQ,evalOp,aI,ev];exact vG (K:=fun F2 L2 n=>bg P PX fb a F2 L2 n K) (u:=.v undef) m lx h3 hA
   ·have ey:l=y:=by rcases cU b with h | h;exact h;exact xo h o
    subst ey;refine Gq hr ?_ ly lx h3 s hA;rcases cU q with rfl | rfl
    ·exact hc
    ·simp only[okD,XA] at d;rcases d with d | d
     ·simp only[vH,d,X3,XA];exact .inl (.inl (.inl (.inl (.inl rfl))))
     ·simp only[vH,d,X3,XA];exact .inl (.inr rfl)
  rw[iD];refine⟨l,b,jf w hr s hB ?_⟩;rintro F1 L1 p ⟨v,rfl⟩ _ _ _ c;rw[iD];exact⟨x',by rw[nW h2];exact q,c⟩
theorem Co {f:X}{args:List X}{k:Nat}(h:k∈cu args):k∈cu (f::args):=by
 cases f<;>simp[cu,h]
theorem AV {d:Option Nat}{v:SV}{o:dS}(h:∀k,d=some k->k∉zq o):qz P L (put d v ρ) o=qz P L ρ o:=by
 cases o<;>try rfl
 ·rename_i f args;simp only[qz,vJ h]
 ·rename_i f args;have c:∀k,d=some k->k∉cu args:=fun k e a=>h k e (Co a);have b:ev (put d v ρ) f=ev ρ f:=fI h f (by simp);simp only[qz,vJ c,b]
theorem EN (hb:j4 L L') (a:Vd L ρ) (o:dS):qz P L' ρ o=qz P L ρ o:=by
 cases o<;>try rfl
 ·simp only[qz,rf hb a]
 ·simp only[qz,rf hb a]
theorem MK {m d:Option Nat}{x y:dS}{r:Option (Nat×Bool)}{b:List ak}(hp:fD fb (.op m x r) (.pc d y none)=true) (hr:Real F L) (t:Vd L ρ)
  (h:bg P PX fb (.op m x r::.pc d y none::b) F L ρ K):bg P PX fb (.pc d y none::.op m x r::b) F L ρ K:=by
 simp only[fD,W6] at hp;obtain⟨⟨⟨⟨_,w⟩,s⟩,l⟩,j⟩:=hp;have s:=jO s;have l:=jO l;have j:=nF j;have ae:∀k,d=some k->m≠some k:=fun k e e'=>j k e' e;obtain⟨n,c,h⟩:=h;have a:(N8 n||Oj fb n)=true:=by rcases cU c with rfl | rfl;exact w;rfl
 rw[cn (jP a)] at h;obtain⟨v,hT,o⟩:=(eY (jP a)).ex _ h;simp only[bg,AV s] at o ⊢;split at o
 case h_2=>exact o.elim
 refine o.imp fun F' L' u q z _ aa al f=>⟨n,by rw[nW l];exact c,?_⟩;rw[cn (jP a)];have lx:∀k,d=some k->k∉cu (bD n):=by
  intro k e f;rcases cU c with rfl | rfl
  ·exact l k e (nG f)
  ·simp[gQ,bD,cu] at f
 have p:=qk (jP a) (aA.le_refl F') (sW (L:=L') (ρ:=ρ) (v:=.v u) lx) (Jj a aa q z t hT);refine(eY (jP a)).mono _ _ (fun v' e=>?_) p;subst e;rw[put_comm j];exact f
theorem ML {dx:Option Nat}{k:Nat}{t:TypeId}{zs:List Value}{x:dS}{n:List ak}(hp:fD fb (.pc dx x none) (.op (some k) (.allocD t zs) none)=true) (q:L.get k=none) (hr:Real F L) (z:Vd L ρ)
  (h:bg P PX fb (.pc dx x none::.op (some k) (.allocD t zs) none::n) F L ρ K):bg P PX fb (.op (some k) (.allocD t zs) none::.pc dx x none::n) F L ρ K:=by
 simp only[fD,W6] at hp;have h1:=jO hp.1.2;have h3:=nF hp.2;simp only[bg,res,WY,exists_eq_left',evalOp,q] at h ⊢;intro g ag;split at h
 case h_2=>exact h.elim
 rename_i _ _ f vs w _;obtain⟨ks,l,R,Pp,e1,e2,e0,e3,e4,e5⟩:=h;have s:k∉ks:=by
  intro s;obtain⟨hl,hg⟩:=dW e1;obtain⟨i,hi⟩:=List.getElem?_of_mem s;have:=hg i k hi;rw[q] at this;have h5:=(W5.1 hi).1;have h6:=XT.1 this.symm;omega
 have o:j4 L (L.set k (.box g t zs)):=fun j r u cs e=>⟨cs,Keeps.new q j r u cs e⟩;have ea:qz P (L.set k (.box g t zs)) (put (some k) (.own k 0) ρ) x=some (f,vs):=by
  rw[AV h1,EN o z,w]
 rw[ea];refine⟨ks,l,R,Pp,by rw[Dk s];exact e1,e2,e0,e3,fun v F0 L' Lo hF y hb=>e4 v F0 L' Lo hF y fun j r u cs e=>hb j r u cs (Keeps.new q j r u cs e),fun v F' Lo hF hR=>?_⟩;obtain⟨a,b,c⟩:=e5 v F' Lo hF hR;refine⟨a,b,fun m=>?_⟩;rw[qG ks Lo L s] at m ⊢;obtain⟨k1,k2,_⟩:=s5 e1 e2 a b;have p:=k2 k q;have c:=c (m.down (aA.le_refl _) m.glob (Gp p));simp only[p] at c;rw[<-put_comm (d:=some k) (fun j e e'=>h3 j e' e)];exact c g m
theorem EO {x y:ak}{a:List ak}(c:fD fb x y=true) (e:∀k,rV y=some k->L.get k=none) (d:Real F L) (b:Vd L ρ) (h:bg P PX fb (x::y::a) F L ρ K):bg P PX fb (y::x::a) F L ρ K:=by
 unfold fD at c;split at c
 ·exact MJ c d b h
 ·exact MK c d b h
 ·exact ML c (e _ rfl) d b h
 ·cases c
theorem AW {y:ak}{k:Nat}(h:rV y=some k):xE y=some k:=by
 unfold rV at h;split at h
 ·exact h
 ·cases h
theorem Gw {x y:ak}(a:fD fb x y=true) {k:Nat}(h:rV y=some k):xE x≠some k:=by
 have b:=AW h;unfold fD at a;split at a
 ·simp only[kQ,W6] at a;intro e;exact nF a.2 k e b
 ·simp[rV] at h
 ·simp only[W6] at a;intro e;exact nF a.2 k e b
 ·cases a
theorem Gx {b:Option Nat}{x:dS}{c:Option (Nat×Bool)}{y:ak}(a:fD fb (.op b x c) y=true):okD x=true:=by
 cases y with
 | frz k=>cases a
 | op f y h=>simp only[fD,kQ,W6] at a;exact a.1.1.1.1.1
 | pc f y h =>
  unfold fD at a;split at a
  ·rename_i e;cases e
  ·rename_i d j;injection d with q1 q2 q3
   subst q2;simp only[W6] at a;have:=jP a.1.1.1.2;simp[okD,Cm,this]
  ·rename_i e _;cases e
  ·cases a
def Ol:ak->Bool
 | .op _ o _=>okD o
 | .pc _ o none=>AU o
 | _=>false
theorem EP {x y:ak}(a:fD fb x y=true):Ol x=true:=by
 cases x with
 | op d o g=>exact Gx a
 | frz k=>cases y<;>cases a
 | pc d o g =>
  cases g with
  | none =>
   cases y with
   | op c y b =>
    cases c with
    | none=>cases y<;>cases b<;>cases a
    | some k =>
     cases b with
     | some q=>cases y<;>cases a
     | none =>
      cases y<;>first
       | (cases a;done)
       | (simp only[fD,W6] at a;exact a.1.1)
   | frz k=>cases a
   | pc c y b=>cases b<;>cases a
  | some q=>cases y<;>cases a
theorem xG {x:ak}{c a:List ak}(t:Ol x=true) (w:Real F L) (m:Vd L ρ) (h:bg P PX fb (x::c) F L ρ K)
  (u:∀F1 L1 b,F.le F1->Real F1 L1->Vd L1 b->(∀j,xE x≠some j->L.get j=none->L1.get j=none)->bg P PX fb c F1 L1 b K->bg P PX fb a F1 L1 b K):bg P PX fb (x::a) F L ρ K:=by
 cases x with
 | frz k=>cases t
 | op d o g =>
  obtain⟨o',l,h⟩:=h;have p:okD o'=true:=by rcases cU l with rfl | rfl;exact t;rfl
  exact⟨o',l,jZ p w m h fun F1 L1 b _ r q n s y=>u F1 L1 b r q n s y⟩
 | pc d o g =>
  unfold bg at h ⊢;split at h
  ·rename_i f args;refine h.imp fun F' L' v z r q _ n s=>u _ _ _ z n ((r.vd m).WV d v) (fun j _ e=>q j e) s
  ·exact h.elim
theorem vK {y:ak}{s:List ak}:∀(p:List ak),(∀x∈p,fD fb x y=true)->∀{F:aA}{L:Loc}{ρ:Env},(∀k,rV y=some k->L.get k=none)->Real F L->Vd L ρ->bg P PX fb (p++y::s) F L ρ K->bg P PX fb (y::(p++s)) F L ρ K
 | [],_,F,L,ρ,_,_,_,h=>h
 | x::p,c,F,L,ρ,l,j,a,h=>by
  refine EO (c x (by simp)) l j a ?_;refine xG (EP (c x (by simp))) j a h fun F1 L1 o _ f b d n=>?_;exact vK p (fun z m=>c z (by simp[m])) (fun k e=>d k (Gw (c x (by simp)) e) (l k e)) f b n
end
section
variable {P:Program}{PX:aA->Loc->Value->Prop}{fb:List Nat}{K:cE}{Q:Exit->Act->World->Prop}{ops:Array Oper}
theorem yw {ks:List Nat}(b:ks.Nodup) {i j:Nat}{hi:i<ks.length}{c:j<ks.length}(h:ks[i]=ks[j]):i=j:=by
 rw[List.nodup_iff_pairwise_ne,List.pairwise_iff_getElem] at b;rcases Nat.lt_trichotomy i j with a | d | a
 ·exact xo h (b i j hi c a)
 ·exact d
 ·exact xo h.symm (b j i c hi a)
theorem lI {L:Loc}{ks:List Nat}{Lo:List Own}(h:ks.Nodup) (a:ks.length=Lo.length):((L.Wi ks).puts ks Lo).sameAs (L.puts ks Lo):=by
 intro j;rcases cW ks Lo L j h a with⟨b,c⟩ | ⟨i,b,c,o⟩<;>rcases cW ks Lo (L.Wi ks) j h a with⟨d,f⟩ | ⟨n,d,f,p⟩
 ·rw[b,d,eX,vv c]
 ·exact xo (W9 d) c
 ·exact xo (W9 b) f
 ·have:i=n:=by
   have m:=(W5.1 b);have l:=(W5.1 d);obtain⟨m,k⟩:=m;obtain⟨l,e⟩:=l;exact yw h (k.trans e.symm)
  subst this;rw[c,f]
theorem vL:∀{ks:List Nat}{L:Loc}{Lo:List Own},ks.length=Lo.length->(∀(i:Nat) k,ks[i]?=some k->L.get k=Lo[i]?)->L.sub ks=some Lo
 | [],L,[],_,_=>rfl
 | [],L,_::_,h,_=>by simp at h
 | _::_,L,[],h,_=>by simp at h
 | k::ks,L,o::Lo,h,b=>by
  have a:=b 0 k rfl;have c:L.sub ks=some Lo:=vL (by simpa using h) fun i j e=>by
   have:=b (i+1) j (by rw[XM];exact e);rw[XM] at this;exact this
  have a:L.get k=some o:=a;simp only[Loc.sub,a,c]
theorem Gy {L:Loc}{ks:List Nat}{Lo:List Own}(h:ks.Nodup) (a:ks.length=Lo.length):(L.puts ks Lo).sub ks=some Lo:=by
 refine vL a fun i k e=>?_;rcases cW ks Lo L k h a with⟨f,c⟩ | ⟨j,f,c,m⟩
 ·exact xo (W9 e) c
 ·have hi:=W5.1 e;have l:=W5.1 f;obtain⟨o,d⟩:=hi;obtain⟨n,b⟩:=l;have:i=j:=yw h (d.trans b.symm);subst this;rw[c,WZ m]
theorem CallXDPt.toX {f:Nat}{args:List Value}{F:aA}{L:Loc}{K:aA->Loc->Value->Prop}(h:CallXDPt P PX fb f args F L K):eG P PX f args F L fun F' L' v=>∃L2,L'.sameAs L2/\(Real F' L2->K F' L2 v):=by
 obtain⟨ks,l,R,Pp,n,d,x,r,q,u⟩:=h;refine⟨ks,ks,l,R,Pp,n,d,d,fun k p=>.inl p,r,fun v F' Lo m j hb w=>q v F' _ Lo m (Gy d j) hb w,fun v F' Lo m s=>?_⟩;obtain⟨a,b,c⟩:=u v F' Lo m s;obtain⟨o,y,_⟩:=s5 n d a b;refine⟨a,fun k g t cs _ e=>?_,_,lI d a,c⟩;rw[<-lI d a];exact o k g t cs e
theorem AX {own:Bool}{o:Oper}{s:dS}{f:Nat}{vs:List Value}{F:aA}{L:Loc}{ρ:Env}{a:Act}{w:World}{K:cE}(m:St F L w) (l:aC L ρ a) (d:∀k,o.dst=some k->k<a.tmps.size) (h:gM P own o.op=some s) (b:qz P L ρ s=some (f,vs))
  (e:eG P PX f vs F L fun F' L' v=>K F' L' (put o.dst (.v v) ρ))
  (j:∀v c w' F' L',Ca v c->St F' L' w'->Step F L w F' L' w'->PX F' L' v->Q (.panic c) a w'):o.wp P a w (aZ F L w a K) Q:=by
 cases s with
 | call n args =>
  simp only[qz,WY,Prod.mk.injEq] at b;obtain⟨rfl,rfl⟩:=b;exact tZ m l d h e j
 | callV x args =>
  simp only[qz] at b;split at b
  case h_2=>cases b
  rename_i n fi ca p;simp only[WY,Prod.mk.injEq] at b;obtain⟨rfl,rfl⟩:=b;exact nZ m l d h p e j
 | _=>cases b
theorem AY {o:dS}(ho:Dj o=true) {d:Option Nat}{F:aA}{L:Loc}{ρ:Env}{K:cE}(h:evalOp P o d F L ρ K):evalOp P o d F L ρ fun F' L' ρ'=>(∀j,d≠some j->L.get j=none->L'.get j=none)/\K F' L' ρ':=by
 cases o<;>simp only[Dj,Xd] at ho;rename_i e sz s x;simp only[evalOp] at h ⊢;generalize ev ρ s=z1 at h ⊢;generalize ev ρ x=z2 at h ⊢;split at h
 ·obtain⟨⟨k,n,v,nr,xs,z,cr,f,j,m,a,c,news,b,q,p,y,h5,w,u,t,l⟩ | ⟨da,n,f,a,m,c,b,q,p,l⟩⟩:=h
  ·refine⟨.inl ⟨k,n,v,nr,xs,z,cr,f,j,m,a,c,news,b,q,p,y,h5,w,u,t,fun r=>⟨fun i _ hi=>?_,l r⟩⟩⟩;rw[Loc.Wh];split
   ·rename_i e;subst e;rw[b] at hi;cases hi
   ·exact hi
  ·exact⟨.inr ⟨da,n,f,a,m,c,b,q,p,fun r=>⟨fun i _ hi=>hi,l r⟩⟩⟩
 ·exact h.elim
theorem EQ {A:cP}{i:Nat}{s:ak}{l:List ak}{F:aA}{L:Loc}{ρ:Env}{a:Act}{w:World}{KK:Act->World->Prop}(hi:i<ops.size) (c:zm P A ops i=some s) (m:P1 s=true) (hs:St F L w) (he:aC L ρ a) (hn:a.tmps.size=A.n)
  (z:bg P PX fb (s::l) F L ρ K)
  (hQ:∀q w' F' L' ρ',St F' L' w'->aC L' ρ' q->q.tmps.size=A.n->q.defers=a.defers->Step F L w F' L' w'->(∀j,((ops[i]?).bind (·.dst))≠some j->q.tmps.getD j undef=a.tmps.getD j undef) ->
   (∀j,xE s≠some j->L.get j=none->L'.get j=none)->bg P PX fb l F' L' ρ' K->KK q w')
  (hP:∀v ch w' F' L',Ca v ch->St F' L' w'->Step F L w F' L' w'->PX F' L' v->Q (.panic ch) a w') :
  wpOp P ops Q i KK a w:=by
 cases s with
 | frz k=>cases m
 | op d o g =>
  obtain⟨o',t,h⟩:=z;have h2:aU P [.op d o g] F L ρ (fun F' L' ρ'=>(∀j,d≠some j->L.get j=none->L'.get j=none)/\bg P PX fb l F' L' ρ' K):=by
   refine fC.2 ⟨o',t,?_⟩;have m:(okD o||Dj o)=true:=m;rw[XA] at m;rcases m with m | m
   ·have an:okD o'=true:=by rcases cU t with rfl | rfl;exact m;rfl
    exact jZ an ⟨w,hs⟩ he.vd h fun F1 L1 ao _ _ _ _ u h6=>⟨u,h6⟩
   ·rcases cU t with rfl | rfl
    ·exact AY m h
    ·exact jZ rfl ⟨w,hs⟩ he.vd h fun F1 L1 ao _ _ _ _ u h6=>⟨u,h6⟩
  exact AQ hi c hs he hn h2 fun q w' F' L' ρ' g1 g2 g3 g4 g5 x g7=>hQ q w' F' L' ρ' g1 g2 g3 g4 g5 x g7.1 g7.2
 | pc d o g =>
  unfold bg at z;split at z
  case h_2=>exact z.elim
  rename_i f vs ar;unfold zm at c;split at c
  case h_1=>cases c
  rename_i o y;split at c
  case h_2=>cases c
  rename_i g s0 hg ay r;rename_i o0 _ _ _ _ _ _;have aw:o.dst=d/\s0=o0/\g=none:=by
   split at c
   ·split at c
    ·injection c with c
     injection c with q1 q2 q3
     exact⟨q1,q2,rfl⟩
    ·injection c with c
     injection c with q1 q2 q3
     exact⟨q1,q2,rfl⟩
    ·cases c
   ·split at c
    ·split at c
     ·cases c
     ·cases c
    ·split at c
     ·split at c<;>cases c
     ·cases c
  obtain⟨rfl,rfl,rfl⟩:=aw;have hd:∀k,o.dst=some k->k<a.tmps.size:=by
   intro k hk;rw[hk] at r;rw[hn];have h2:Nat.blt k A.n=true:=r;simpa using h2
  have ba:(ops[i]?).bind (·.dst)=o.dst:=by rw[y];rfl
  rw[ba] at hQ;simp only[wpOp,y];have az:o.guard=none:=by
   cases e:o.guard with
   | none=>rfl
   | some p=>obtain⟨j,b⟩:=p;rw[e] at hg;simp only[gO] at hg;split at hg<;>cases hg
  rw[j3 (by simp[Region.wanted,az])];refine .inl ?_;have ag:=z.imp (K':=fun F' L' v=>(∀j,L.get j=none->L'.get j=none)/\bg P PX fb l F' L' (put o.dst (.v v) ρ) K) fun F' L' v _ _ h3 _ _ u=>⟨h3,u⟩;have:=AX (K:=fun F' L' ρ'=>∃L2,L'.sameAs L2/\(Real F' L2->(∀j,L.get j=none->L2.get j=none)/\bg P PX fb l F' L2 ρ' K)) hs he hd ay ar ag.toX hP;refine Oper.wp_mono ?_ (pA (asg:=[]) this);rintro q w' ⟨⟨F',L',ρ',g1,g2,g3,g4,g5,L2,x,g7⟩,aE⟩;have s1:St F' L2 w':=g1.part fun k o e=>by rw[<-x k];exact e
  obtain⟨g8,g9⟩:=g7 ⟨w',s1⟩;exact hQ q w' F' L2 ρ' s1 (g2.same x) (by rw[g3,hn]) g4 (g5.WO x) aE (fun j _ e=>g8 j e) g9
def lT (fb:List Nat) (a:List (List Nat)):List (Nat×ak)->Bool
 | []=>true
 | (x,b)::l=>l.all (fun p=>fD fb b p.2||fo (zn a p.1) x)&&lT fb a l
def Cp (ss:List ak):List Nat:=ss.filterMap xE
def zu (ss:List ak):List Nat:=ss.filterMap fun s=>match s with | .op _ (.loadK key _ _ _) _=>some key | _=>none
def zw (P:Program) (ops:Array Oper) (is:List Nat) (a:List (List Nat)) (ss:List ak):Bool :=
 P.follows .mixedOrders&&Gs ops a&&bE is&&Nat.beq is.length ops.size&&is.all (fun i=>Nat.blt i ops.size)&&(List.range ops.size).all (fo is)&&lT (zu ss) a (is.zip ss)&&ss.all P1&&bE (Cp ss)
theorem rW {d:List (List Nat)}:∀{p q:List (Nat×ak)}{y:Nat×ak},lT fb d (p++y::q)=true->lT fb d (p++q)=true/\∀x∈p,fD fb x.2 y.2=true\/x.1∈zn d y.1
 | [],q,y,h=>by
  obtain⟨o,l⟩:=y;simp only[XD,lT,W6] at h ⊢;exact⟨h.2,fun x a=>by cases a⟩
 | (m,n)::p,q,y,h=>by
  simp only[Xk,lT,W6] at h ⊢;obtain⟨e,k⟩:=h;obtain⟨j,f⟩:=rW k;have c:=Xf.1 e;refine⟨⟨Xf.2 fun z b=>c z ?_,j⟩,fun x a=>?_⟩
  ·rcases W4.1 b with b | b
   ·exact W4.2 (.inl b)
   ·exact W4.2 (.inr (Xv _ b))
  ·rcases W7.1 a with rfl | a
   ·have:=c y (W4.2 (.inr (by simp)));simp only[XA] at this;rcases this with h | h
    ·exact .inl h
    ·exact .inr (cH.1 h)
   ·exact f x a
theorem Jk {p q:List ak}{y:ak}(h:(Cp (p++y::q)).Nodup):(Cp (p++q)).Nodup/\∀k,xE y=some k->∀z∈p++q,rV z≠some k:=by
 have e:Cp (p++y::q)=Cp p++((xE y).toList++Cp q):=by
  unfold Cp;rw[List.filterMap_append,List.filterMap_cons];cases xE y<;>rfl
 rw[e] at h;have b:(Cp p++Cp q).Nodup:=by
  refine List.Sublist.nodup ?_ h;exact List.Sublist.append (List.Sublist.refl _) (List.sublist_append_right _ _)
 refine⟨by unfold Cp at b ⊢;rw[List.filterMap_append];exact b,fun k d z a f=>?_⟩;have c:=AW f;rw[d] at h;have j:k∉Cp p++Cp q:=by
  have:(Cp p++k::Cp q).Nodup:=h;have:=(List.perm_middle.nodup_iff).1 this;rw[List.nodup_cons] at this;exact this.1
 apply j;rcases W4.1 a with a | a
 ·exact W4.2 (.inl (List.mem_filterMap.2 ⟨z,a,c⟩))
 ·exact W4.2 (.inr (List.mem_filterMap.2 ⟨z,a,c⟩))
theorem Gz {A:cP}{i:Nat}{s:ak}(a:zm P A ops i=some s):(ops[i]?).bind (·.dst)=xE s:=by
 unfold zm at a;split at a
 case h_1=>cases a
 rename_i o b;rw[b];split at a
 case h_2=>cases a
 split at a
 ·split at a
  ·injection a with a;subst a;rfl
  ·injection a with a;subst a;rfl
  ·cases a
 ·split at a
  ·split at a
   ·injection a with a;subst a;rfl
   ·cases a
  ·split at a
   ·split at a
    ·injection a with a;subst a;rfl
    ·cases a
   ·cases a
theorem Cq {A:cP}{cl:List (List Nat)}(ca:Gs ops cl=true):∀(fuel:Nat) (l:List Nat) (ss:List ak) (b:Array Bool) (F:aA) (L:Loc) (ρ:Env) (a:Act) (w:World),
  eF P A ops l=some ss->b.size=ops.size->l.Nodup->(∀i,i∈l↔i<ops.size/\b.getD i true=false)->l.length<=fuel->lT fb cl (l.zip ss)=true ->
  (∀i,i<ops.size->b.getD i true=true->∀z∈direct ops i,b.getD z true=true) ->
  (∀s∈ss,P1 s=true)->(Cp ss).Nodup->(∀s∈ss,∀k,rV s=some k->L.get k=none) ->
  St F L w->aC L ρ a->a.tmps.size=A.n->bg P PX fb ss F L ρ K ->
  (∀a' w',dY A.n F L w a (dstsOf ops (List.range ops.size)) K a' w'->Q .normal a' w') ->
  (∀v ch a' w' F' L',Ca v ch->St F' L' w'->Step F L w F' L' w'->a'.tmps.size=A.n->a'.defers=a.defers->(∀j,j∉dstsOf ops (List.range ops.size)->a'.tmps.getD j undef=a.tmps.getD j undef)->PX F' L' v->Q (.panic ch) a' w')->wpAny P .any ops Q fuel b a w:=by
 have m:∀y z,y<ops.size->z∈direct ops y->z<y:=by
  intro y z hy r;have h:=Xf.1 ca y (List.mem_range.2 hy);simp only[zp,W6] at h;have h3:Nat.blt z y=true:=Xf.1 h.1 z r;simpa using h3
 intro fuel
 induction fuel with
 | zero =>
  intro l ss b F L ρ a w hl aE bp c am hp f bb bm ar hs he hn hK hQ hP;have:l=[]:=Xu (by omega);subst this;simp only[eF,WY] at hl;subst hl;refine⟨?_,hQ a w ⟨F,L,ρ,hs,he,hn,rfl,Step.refl _ _ _,fun _ _=>rfl,hK⟩⟩;apply List.eq_nil_iff_forall_not_mem.2;intro i hi;rw[mem_ready] at hi;obtain⟨h1,o,h2,_⟩:=hi;have:=(c i).2 ⟨(Array.getElem?_eq_some_iff.1 h2).1,h1⟩;cases this
 | succ fuel ih =>
  intro l ss b F L ρ a w hl aE bp c am hp f bb bm ar hs he hn hK hQ hP;refine⟨fun hr=>?_,fun y hy=>?_⟩
  ·have:l=[]:=by
    refine Classical.byContradiction fun u=>?_;obtain⟨y,h1,h2⟩:=min_mem u;obtain⟨h3,h4⟩:=(c y).1 h1;have ad:y∈Region.ready .any ops b:=by
     rw[mem_ready];refine⟨h4,ops[y],Array.getElem?_eq_getElem h3,fun e ao bc=>?_⟩;have r:e.on∈direct ops y:=(nY (Array.getElem?_eq_getElem h3)).2 ⟨e,ao,bc,rfl⟩;have cM:=m y e.on h3 r;rw[rU (by omega) false true];cases hd:b.getD e.on true with
     | true=>rfl
     | false =>
      have:=h2 e.on ((c e.on).2 ⟨by omega,hd⟩);omega
    rw[hr] at ad;cases ad
   subst this;simp only[eF,WY] at hl;subst hl;exact hQ a w ⟨F,L,ρ,hs,he,hn,rfl,Step.refl _ _ _,fun _ _=>rfl,hK⟩
  ·rw[mem_ready] at hy;obtain⟨h1,o,ho,az⟩:=hy;have d:=(Array.getElem?_eq_some_iff.1 ho).1;have ax:=(c y).2 ⟨d,h1⟩;obtain⟨p,q,rfl⟩:=List.append_of_mem ax;obtain⟨dE,cb⟩:=pD hl;obtain⟨sp,sy,sq,rfl,ae,bl,cY⟩:=cb p q y rfl;have cc:(p++y::q).zip (sp++sy::sq)=p.zip sp++(y,sy)::q.zip sq:=by
    rw[List.zip_append ae.symm];rfl
   rw[cc] at hp;obtain⟨cz,dj⟩:=rW hp;have ac:∀z∈direct ops y,b.getD z true=true:=by
    intro z r;have cM:=m y z d r;obtain⟨e,ao,bc,rfl⟩:=(nY ho).1 r;rw[rU (by omega) true false];exact az e ao bc
   have ab:∀sx∈sp,fD fb sx sy=true:=by
    intro sx dg;obtain⟨k,hk⟩:=List.getElem?_of_mem dg;have ed:=(W5.1 hk).1;have bk:p[k]?=some (p[k]'(by omega)):=WZ (by omega);have hm:(p[k]'(by omega),sx)∈p.zip sp:=W9 (i:=k) (by rw[List.getElem?_zip_eq_some];exact⟨bk,hk⟩);rcases dj _ hm with h | h
    ·exact h
    ·exfalso;have hd:=tX ca (done:=fun z=>b.getD z true=true) f y d ac _ h;have cx:p[k]'(by omega)∈p++y::q:=W4.2 (.inl (W9 bk));have:=((c _).1 cx).2;simp only at hd;rw[hd] at this;cases this
   have ci:=vK sp ab (fun k e=>ar sy (by simp) k e) ⟨w,hs⟩ he.vd hK;obtain⟨bu,cw⟩:=Jk bm;have dy:(ops[y]?).bind (·.dst)=xE sy:=Gz bl;refine EQ d bl (bb sy (by simp)) hs he hn ci ?_ (fun v ch w' F' L' hc h1 h2 h3=>hP v ch a w' F' L' hc h1 h2 hn rfl (fun _ _=>rfl) h3);intro a' w' F' L' ρ' g1 g2 g3 g4 g5 g6 g8 g7;have ag:(p++q).Nodup/\y∉p++q:=by
    have:=(List.perm_middle.nodup_iff).1 bp;rw[List.nodup_cons] at this;exact⟨this.2,this.1⟩
   have al:∀i,(b.setIfInBounds y true).getD i true=if i=y then true else b.getD i true:=by
    intro i;simp only[Xt,Array.getElem?_setIfInBounds]
    by_cases hi:y=i
    ·subst hi;rw[j3 rfl,j3 rfl];simp[aE,d]
    ·rw[vv hi,vv (fun h=>hi h.symm)]
   refine ih (p++q) (sp++sq) _ F' L' ρ' a' w' cY (by simp[aE]) ag.1 (fun i=>?_) (by simp at am ⊢;omega) ?_ ?_ (fun z r=>bb z (by rcases W4.1 r with h | h<;>simp[h])) bu (fun z r k e=>g8 k (fun e2=>cw k e2 z r e) (ar z (by rcases W4.1 r with h | h<;>simp[h]) k e)) g1 g2 g3 g7 ?_ ?_
   ·rw[al];have h0:=c i;constructor
    ·intro hi;have u:i≠y:=fun e=>ag.2 (e▸hi);rw[vv u];refine h0.1 ?_;rcases W4.1 hi with h | h
     ·exact W4.2 (.inl h)
     ·exact W4.2 (.inr (Xv _ h))
    ·rintro⟨co,ay⟩;split at ay
     ·cases ay
     ·rename_i u;have:=h0.2 ⟨co,ay⟩;rcases W4.1 this with h | h
      ·exact W4.2 (.inl h)
      ·rcases W7.1 h with h | h
       ·exact xo h u
       ·exact W4.2 (.inr h)
   ·rw[List.zip_append ae.symm];exact cz
   ·intro i hi hd z r;rw[al] at hd ⊢;split
    ·rfl
    ·split at hd
     ·rename_i h;subst h;exact ac z r
     ·exact f i hi hd z r
   ·rintro ba ap ⟨F'',L'',bx,k1,k2,k3,k4,k5,k6,k7⟩;refine hQ ba ap ⟨F'',L'',bx,k1,k2,k3,k4.trans g4,g5.trans k5,fun j hj=>?_,k7⟩;rw[k6 j hj,g6 j];intro e;apply hj;have:∀(is:List Nat),y∈is->j∈dstsOf ops is:=by
     intro is
     induction is with
     | nil=>intro h;cases h
     | cons x is t =>
      intro h;simp only[dstsOf];rcases W7.1 h with rfl | h
      ·rw[e];simp
      ·split
       ·exact Xv _ (t h)
       ·exact t h
    exact this _ (List.mem_range.2 d)
   ·intro v ch ba ap F'' L'' kc k1 k2 k3 k4 k5 k6;refine hP v ch ba ap F'' L'' kc k1 (g5.trans k2) k3 (k4.trans g4) (fun j hj=>?_) k6;rw[k5 j hj,g6 j];intro e;apply hj;have:∀(is:List Nat),y∈is->j∈dstsOf ops is:=by
     intro is
     induction is with
     | nil=>intro h;cases h
     | cons x is t =>
      intro h;simp only[dstsOf];rcases W7.1 h with rfl | h
      ·rw[e];simp
      ·split
       ·exact Xv _ (t h)
       ·exact t h
    exact this _ (List.mem_range.2 d)
theorem pE {A:cP}{r:Nat}{is:List Nat}{cl:List (List Nat)}{ss:List ak}{F:aA}{L:Loc}{ρ:Env}{a:Act}{w:World}(hl:eF P A ops is=some ss) (y:zw P ops is cl ss=true)
  (hs:St F L w) (he:aC L ρ a) (hn:a.tmps.size=A.n) (l:∀s∈ss,∀k,rV s=some k->L.get k=none) (hK:bg P PX (zu ss) ss F L ρ K) (hQ:∀c w',dY A.n F L w a (dstsOf ops (List.range ops.size)) K c w'->Q .normal c w')
  (hP:∀v e c w' F' L',Ca v e->St F' L' w'->Step F L w F' L' w'->c.tmps.size=A.n->c.defers=a.defers->(∀j,j∉dstsOf ops (List.range ops.size)->c.tmps.getD j undef=a.tmps.getD j undef)->PX F' L' v->Q (.panic e) c w') :
  (Code.region r ops true).wp P Q a w:=by
 simp only[zw,W6] at y;obtain⟨⟨⟨⟨⟨⟨⟨⟨h1,h2⟩,p⟩,x⟩,h5⟩,h7⟩,h6⟩,z⟩,h9⟩:=y;have p:=cJ p;have x:=yo x;have d:∀i∈is,i<ops.size:=fun i hi=>by
  have h:Nat.blt i ops.size=true:=Xf.1 h5 i hi;simpa using h
 refine wp_region_any h1 ?_;show wpAny P .any ops Q ops.size (Array.replicate ops.size false) a w.drew;refine Cq h2 ops.size is ss _ F L ρ a w.drew hl (by simp) p (fun i=>?_) (by omega) h6 ?_ (Xf.1 z) (cJ h9) l hs.drew he hn hK ?_ ?_
 ·constructor
  ·intro hi;refine⟨d i hi,?_⟩;simp[Xt,d i hi]
  ·rintro⟨hi,_⟩;exact cH.1 (Xf.1 h7 i (List.mem_range.2 hi))
 ·intro i hi m;simp[Xt,hi] at m
 ·rintro c w' ⟨F',L',ρ',f,g2,o,q,b,u,t⟩;refine hQ c w' ⟨F',L',ρ',f,g2,o,q,?_,u,t⟩;exact⟨b.le,b.os,b.tape,b.output,b.size,b.same,b.frz,b.own⟩
 ·intro v e c w' F' L' gc f b o q u t;exact hP v e c w' F' L' gc f ⟨b.le,b.os,b.tape,b.output,b.size,b.same,b.frz,b.own⟩ o q u t
end
def cD:Code->List Nat
 | .region _ d _=>dstsOf d (List.range d.size)
 | .seq a b=>cD a++cD b
 | .cond _ a b=>cD a++cD b
 | .block _ c | .loop c | .scope c=>cD c
 | _=>[]
def xH:List Nat->aJ->aJ
 | [],x=>x
 | k::l,x=>.seq (.reg (.frz k::l.map .frz)) x
def Dl:List ak->Bool
 | []=>true
 | .op _ _ _::l=>Dl l
 | _::_=>false
def low (P:Program) (A:cP):Code->Option aJ
 | .skip=>some .skip
 | .label _=>some .skip
 | .region r d false=>match pz P A r d (List.range d.size) with | some ss=>some (.reg ss) | none=>none
 | .region r d true=>match Gk A.ord r,eF P A d (rT A.ord r) with
  | some (is,e),some ss=>match Dl ss with
   | true=>match Cn P d is e ss with
    | true=>some (xH (Gj A.frz r 0) (.regD ss))
    | false=>none
   | false=>match zw P d is e ss with
    | true=>some (.regX ss)
    | false=>none
  | _,_=>none
 | .seq a b=>match low P A a,low P A b with | some x,some y=>some (.seq x y) | _,_=>none
 | .cond c a b=>match bh c,low P A a,low P A b with | some c,some x,some y=>some (.cond c x y) | _,_,_=>none
 | .scope c=>low P A c
 | .block id c=>match low P A c with | some x=>some (.block id x) | none=>none
 | .loop c=>match low P A c with | some x=>some (.loop (cD c) x) | none=>none
 | .exit id=>some (.exit id)
 | .ret=>some .ret
 | _=>none
section
variable {P:Program}{Q:Exit->Act->World->Prop}
def qH (n:Nat) (F:aA) (L:Loc) (w:World) (a:Act) (asg:List Nat) (PX:aA->Loc->Value->Prop) (v:Value) (b:Act) (w':World):Prop :=
 ∃F' L',St F' L' w'/\Step F L w F' L' w'/\b.tmps.size=n/\b.defers=a.defers/\(∀j,j∉asg->b.tmps.getD j undef=a.tmps.getD j undef)/\PX F' L' v
theorem qH.after {n:Nat}{F F1:aA}{L L1:Loc}{w m:World}{a f:Act}{asg asg1 b:List Nat}{PX PX':aA->Loc->Value->Prop}{v:Value}{l:Act}{w':World}(e:Step F L w F1 L1 m) (d:f.defers=a.defers) (c:∀j,j∉asg1->f.tmps.getD j undef=a.tmps.getD j undef)
  (h:qH n F1 L1 m f b PX v l w') (r:∀j,j∈asg1->j∈asg) (u:∀j,j∈b->j∈asg) (q:∀F L,PX F L v->PX' F L v):qH n F L w a asg PX' v l w':=by
 obtain⟨F',L',o,s,t,x,p,y⟩:=h;exact⟨F',L',o,e.trans s,t,x.trans d,fun j k=>by rw[p j (fun h=>k (u j h)),c j (fun h=>k (r j h))],q _ _ y⟩
theorem qH.mono {n:Nat}{F:aA}{L:Loc}{w:World}{a:Act}{asg b:List Nat}{PX:aA->Loc->Value->Prop}{v:Value}{d:Act}{w':World}(h:qH n F L w a asg PX v d w') (c:∀j,j∈asg->j∈b):qH n F L w a b PX v d w':=by
 obtain⟨F',L',e,k,l,o,f,p⟩:=h;exact⟨F',L',e,k,l,o,fun j m=>f j (fun h=>m (c j h)),p⟩
def QQ (n:Nat) (F:aA) (L:Loc) (w:World) (a:Act) (asg:List Nat) (PX:aA->Loc->Value->Prop) (E:Nat->cE) (R N:cE):Exit->Act->World->Prop
 | .normal,b,w'=>dY n F L w a asg N b w'
 | .exit j,b,w'=>dY n F L w a asg (E j) b w'
 | .ret,b,w'=>dY n F L w a asg R b w'
 | .panic c,b,w'=>∃v,Ca v c/\qH n F L w a asg PX v b w'
 | _,_,_=>False
theorem dY.mono {n:Nat}{F:aA}{L:Loc}{w:World}{a:Act}{asg b:List Nat}{K:cE}{e:Act}{w':World}(h:dY n F L w a asg K e w') (c:∀j,j∈asg->j∈b):dY n F L w a b K e w':=by
 obtain⟨F',L',ρ',l,q,o,m,r,k,f⟩:=h;exact⟨F',L',ρ',l,q,o,m,r,fun j p=>k j (fun d=>p (c j d)),f⟩
theorem dY.after {n:Nat}{F F1:aA}{L L1:Loc}{w m:World}{a f:Act}{asg asg1 b:List Nat}{K:cE}{l:Act}{w':World}(e:Step F L w F1 L1 m) (d:f.defers=a.defers) (c:∀j,j∉asg1->f.tmps.getD j undef=a.tmps.getD j undef)
  (h:dY n F1 L1 m f b K l w') (q:∀j,j∈asg1->j∈asg) (t:∀j,j∈b->j∈asg):dY n F L w a asg K l w':=by
 obtain⟨F',L',ρ',o,r,s,u,p,x,v⟩:=h;exact⟨F',L',ρ',o,r,s,u.trans d,e.trans p,fun j k=>by rw[x j (fun h=>k (t j h)),c j (fun h=>k (q j h))],v⟩
def oK (P:Program):List ResultVar->Option (List RV)
 | []=>some []
 | .tmp t::l=>match oK P l with | some r=>some ((t,none)::r) | none=>none
 | .cell a t::l=>match P.underlying t,P.info? t,oK P l with
  | some d,some i,some r=>some ((a,some (match dh d with | true=>(true,i.size) | false=>(false,1)))::r)
  | _,_,_=>none
def vM (tmps:Array Value):ResultVar->Sem Value
 | .tmp t=>pure (tmps.getD t undef)
 | .cell a t=>do loadVar t (<-asAddr (tmps.getD a undef))
theorem pF {F:aA}{L:Loc}{ρ:Env}{a:Act}{w:World}(hs:St F L w) (y:aC L ρ a):∀{l:List ResultVar}{rs:List RV}{K:List Value->Prop},oK P l=some rs->kP L ρ rs K ->
  ∃vs,(l.mapM (vM a.tmps)).run P w=.ok vs w/\K vs
 | [],rs,K,h,b=>by simp only[oK,WY] at h;subst h;exact⟨[],by simp,b⟩
 | .tmp t::l,rs,K,h,b=>by
  simp only[oK] at h;split at h
  case h_2=>cases h
  rename_i r z;injection h with h;subst h
  simp only[kP] at b;obtain⟨vs,o,q⟩:=pF hs y z b;refine⟨_,?_,q⟩;simp only[List.mapM_cons,vM,Sem.run_bind,Sem.run_pure,Result.andThen_ok];rw[o];simp[y.eq t]
 | .cell t ty::l,rs,K,h,b=>by
  simp only[oK] at h;split at h
  case h_2=>cases h
  rename_i d i r hd hi z;injection h with h;subst h
  generalize c:(match dh d with | true=>(true,i.size) | false=>(false,1):Bool×Nat)=p at b;obtain⟨ag,n⟩:=p;have u:ag=dh d:=by cases e:dh d<;>rw[e] at c<;>injection c with o q<;>exact o.symm
  have hn:n=match dh d with | true=>i.size | false=>1:=by cases e:dh d<;>rw[e] at c<;>injection c with o q<;>exact q.symm
  simp only[kP] at b;split at b
  case h_2=>exact b.elim
  rename_i k off ac;split at b
  case h_2=>exact b.elim
  rename_i g ty' cs hk;split at b
  case h_2=>exact b.elim
  rename_i x;have aa:=uK x;have x:=gZ (zh x);obtain⟨vs,o,q⟩:=pF hs y z b;refine⟨_,?_,q⟩;have s:=hs.own k _ hk;have m:∀j v,((cs.drop off).take n)[j]?=some v->w.cell? ((⟨g,off,none⟩:Addr).add j)=some v:=by
   intro j v hv;rw[bU,mK aa s];have hj:j<n:=by
    have:=W5.1 hv;obtain⟨h,_⟩:=this;omega
   rw[List.getElem?_take_of_lt hj,Xy] at hv;exact hv
  have hy:a.tmps.getD t undef=.pointer (some ⟨g,off,none⟩):=by rw[y.eq t];simp only[ac,conc,hk]
  have f:=nT hd hi m x hn;simp only[Instr.loadAt,Instr.sureAddr,Sem.run_bind,Sem.run_pure,Result.andThen_ok] at f;simp only[List.mapM_cons,vM,hy,asAddr,Sem.run_bind,Sem.run_pure,Result.andThen_ok,f];rw[o,u];simp
theorem ri (fn:Func) (tmps:Array Value):results fn tmps=(do let vs <-fn.results.mapM (vM tmps);pure (if h:vs.size=1 then vs[0] else .tuple vs)):=by
 unfold results;have h:(fun(r:ResultVar)=>match r with | .tmp t=>(pure (tmps.getD t undef):Sem Value) | .cell a t=>do loadVar t (<-asAddr (tmps.getD a undef)))=vM tmps:=by
  funext r
  cases r<;>rfl
 rw[<-h];rfl
theorem pG:∀(svs:List SV) (k j:Nat),rO k svs j=if k<=j then(svs[j-k]?).getD (.v undef) else .v undef
 | [],k,j=>by simp[rO]
 | v::svs,k,j=>by
  simp only[rO,put_eq]
  by_cases h:j=k
  ·subst h;simp
  ·rw[vv h,pG svs (k+1) j]
   by_cases a:k<=j
   ·rw[j3 (by omega),j3 a,show j-k=(j-(k+1))+1 by omega,XM]
   ·rw[vv (by omega),vv a]
def aD (P:Program) (A:cP) (fn:Func):Option (aJ×Nat×List RV×Bool) :=
 match fn.body with
 | some c=>match low P A c,oK P fn.results.toList with
  | some sc,some rs=>some (sc,fn.ntmps,rs,fn.name == "runtime.NumGoroutine")
  | _,_=>none
 | none=>none
theorem GA {Lin:List Own}:∀(vs:List Value),∀v∈vs.map SV.v,(∀k off,v=.own k off->∃g ty cs,(inp Lin).get k=some (.box g ty cs))/\(∀a j,v=.el a j->a≠none):=by
 intro vs v b;obtain⟨u,_,rfl⟩:=Xz.1 b;exact⟨fun _ _ e=>(by cases e),fun _ _ e=>(by cases e)⟩
end
inductive G where
 | int (k:IntKind) (n:Int)
 | bool (b:Bool)
 | str (s:ByteArray)
 | sl (sz:Nat) (l:List G)
 | st (l:List G)
mutual
def Rd (F:aA):G->List Value->Prop
 | .int k n,cs=>cs=[.int k n]/\(Lit.int k n).wf=true
 | .bool b,cs=>cs=[.bool b]
 | .str s,cs=>cs=[.string s]
 | .sl sz l,cs=>∃a c,cs=[.slice a l.length c]/\l.length<=c/\c<=maxLen/\(a=none->l=[]/\c=0)/\rX F a sz 0 l
 | .st l,cs=>lU F l cs
def rX (F:aA) (a:Option Addr) (sz:Nat):Nat->List G->Prop
 | _,[]=>True
 | i,x::l=>(∃es,es.length=sz/\bN F a (i*sz) es/\Rd F x es)/\rX F a sz (i+1) l
def lU (F:aA):List G->List Value->Prop
 | [],cs=>cs=[]
 | x::l,cs=>∃c1 c2,cs=c1++c2/\Rd F x c1/\lU F l c2
end
mutual
theorem Rd.mono {F F':aA}(hle:F.le F'):∀{g:G}{cs:List Value},Rd F g cs->Rd F' g cs
 | .int k n,cs,h=>h
 | .bool b,cs,h=>h
 | .str s,cs,h=>h
 | .sl sz l,cs,h=>by
  simp only[Rd] at h ⊢;obtain⟨a,c,h1,h2,h3,h4,h5⟩:=h;exact⟨a,c,h1,h2,h3,h4,rX.mono hle h5⟩
 | .st l,cs,h=>by
  simp only[Rd] at h ⊢;exact lU.mono hle h
theorem rX.mono {F F':aA}(hle:F.le F') {a:Option Addr}{sz:Nat}:∀{i:Nat}{l:List G},rX F a sz i l->rX F' a sz i l
 | _,[],h=>by simp only[rX]
 | i,x::l,h=>by
  simp only[rX] at h ⊢;obtain⟨⟨es,h1,h2,h3⟩,h4⟩:=h;exact⟨⟨es,h1,h2.mono hle,Rd.mono hle h3⟩,rX.mono hle h4⟩
theorem lU.mono {F F':aA}(hle:F.le F'):∀{l:List G}{cs:List Value},lU F l cs->lU F' l cs
 | [],cs,h=>by simp only[lU] at h ⊢;exact h
 | x::l,cs,h=>by
  simp only[lU] at h ⊢;obtain⟨c1,c2,h1,h2,h3⟩:=h;exact⟨c1,c2,h1,Rd.mono hle h2,lU.mono hle h3⟩
end
theorem vN {F:aA}{a:Option Addr}{sz:Nat}:∀{l:List G}{i:Nat},rX F a sz i l↔∀j x,l[j]?=some x->∃es,es.length=sz/\bN F a ((i+j)*sz) es/\Rd F x es
 | [],i=>by simp[rX]
 | x::l,i=>by
  simp only[rX,vN (l:=l)];constructor
  ·rintro⟨d,c⟩ j y b;cases j with
   | zero=>simp only[Xg,WY] at b;subst b;simpa using d
   | succ j =>
    simp only[XM] at b;have:=c j y b
    rwa [show i+1+j=i+(j+1) by omega] at this
  ·intro h;refine⟨by simpa using h 0 x (by simp),fun j y b=>?_⟩;have:=h (j+1) y (by simpa using b)
   rwa [show i+(j+1)=i+1+j by omega] at this
structure Sl (F:aA) (sz:Nat) (l:List G) (a:Option Addr) (c:Nat):Prop where
 cap:l.length<=c
 max:c<=maxLen
 nil:a=none->l=[]/\c=0
 elems:∀j x,l[j]?=some x->∃es,es.length=sz/\bN F a (j*sz) es/\Rd F x es
theorem Sl.mono {F F':aA}{sz:Nat}{l:List G}{a:Option Addr}{c:Nat}(h:Sl F sz l a c) (b:F.le F'):Sl F' sz l a c :=
 ⟨h.cap,h.max,h.nil,fun j x d=>let⟨es,h1,h2,h3⟩:=h.elems j x d;⟨es,h1,h2.mono b,h3.mono b⟩⟩
theorem LP {F:aA}{sz:Nat}{l:List G}{cs:List Value}:Rd F (.sl sz l) cs↔∃a c,cs=[.slice a l.length c]/\Sl F sz l a c:=by
 simp only[Rd];constructor
 ·rintro⟨a,c,e,b,f,k,h⟩;exact⟨a,c,e,b,f,k,fun j x d=>by have:=vN.1 h j x d;simpa using this⟩
 ·rintro⟨a,c,e,b⟩;exact⟨a,c,e,b.cap,b.max,b.nil,vN.2 fun j x d=>by have:=b.elems j x d;simpa using this⟩
theorem Sl.ne {F:aA}{sz:Nat}{l:List G}{a:Option Addr}{c:Nat}(h:Sl F sz l a c) (b:l≠[]):a≠none:=fun e=>b (h.nil e).1
theorem Sl.load {F F':aA}{L:Loc}{sz:Nat}{l:List G}{a:Option Addr}{c:Nat}{j:Nat}{x:G}{K:List Value->Prop}(h:Sl F sz l a c) (b:F.le F') (f:l[j]?=some x)
  (m:∀es,es.length=sz->Rd F' x es->K es):ja F' L a (j*sz) sz K:=by
 obtain⟨es,d,e,k⟩:=h.elems j x f;exact⟨es,d,.inl (e.mono b),m es d (k.mono b)⟩
theorem Sl.loadD {F F':aA}{sz:Nat}{l:List G}{a:Option Addr}{c:Nat}{j:Nat}{x:G}{K:List Value->Prop}(h:Sl F sz l a c) (b:F.le F') (f:l[j]?=some x)
  (m:∀es,es.length=sz->Rd F' x es->K es):gY F' a (j*sz) sz K:=by
 obtain⟨es,d,e,k⟩:=h.elems j x f;exact⟨es,d,.inl (e.mono b),m es d (k.mono b)⟩
theorem aF {b:Bool}{A B:Prop}(h:b=true->A) (k:b=false->B):vh b A B:=by cases b;exact k rfl;exact h rfl
theorem aV {p:Prop}[Decidable p] {A B:Prop}(h:p->A) (k:¬p->B):vh (decide p) A B:=by
 by_cases a:p
 ·simp only[a,decide_true];exact h a
 ·simp only[a,decide_false];exact k a
theorem Fit.Wk {n:Int}{K:Int->Prop}(b:-9223372036854775808<=n) (a:n<=9223372036854775807) (h:K n):Fit .i64 n K:=by
 refine⟨?_⟩;have:IntKind.wrap .i64 n=n:=by
  simp only[IntKind.wrap,IntKind.bits,IntKind.signed,XY,XQ,ge_iff_le,Nat.reduceSub,Int.reducePow];split<;>omega
 rw[this];exact h
def MN (x:Value):aA->List Own->Value->Prop:=fun _ Lo v=>Lo=[]/\v=x
theorem MN.mono {x:Value}:∀F G L v,aA.le F G->MN x F L v->MN x G L v:=fun _ _ _ _ _ h=>h
theorem wf_i64 {n:Int}(h:(Lit.int .i64 n).wf=true):-9223372036854775808<=n/\n<=9223372036854775807:=by
 simpa[Lit.wf,IntKind.min,IntKind.max,IntKind.bits,IntKind.signed] using h
end Go.Fr
namespace Go.Fr.T
open Go Go.RowKit Go.Fr
inductive C where
 | int (k:IntKind) (n:Int)
 | bool (b:Bool)
 | str (s:ByteArray)
 | sl (els:List (List C))
 | slx (els:List (List C))
 | nils
 | rw(k:Nat)
 | own (k off:Nat)
 | ifo (m:Option String) (t:TypeId) (k off:Nat)
 | ownv (k off:Nat)
 | pt (es:List C) (off:Nat)
 | elr (k j off:Nat)
 | slo (k:Nat) (offs:List Nat)
 | slp (k:Nat) (offs:List Nat) (j:Nat)
 | fn (f:Nat) (fi ca:List C)
 | agg (cs:List C)
 | tup (cs:List C)
 | nilp
 | nilf
 | ifc (t:TypeId) (c:C)
 | opq (k:Nat)
 | mval (nm:String) (c:C)
 | mof (t:TypeId) (nm:String)
 | mpr (k:Nat)
 | und
 | any
 deriving Inhabited
inductive TO where
 | box (t:TypeId) (cs:List C)
 | row (t:TypeId) (sz:Nat) (els:List (List C))
 | map (es:List (C×C))
 /-- a part of a box;what stands ahead of it and behind it names nothing of one's own -/
 | win (t:TypeId) (pre cs post:List C)
abbrev TL:=List (Nat×TO)
def TL.get:TL->Nat->Option TO
 | [],_=>none
 | (j,o)::l,k=>match Nat.beq j k with | true=>some o | false=>TL.get l k
def TL.set:TL->Nat->TO->TL
 | [],k,o=>[(k,o)]
 | (j,p)::l,k,o=>match Nat.beq j k with
  | true=>(k,o)::l
  | false=>match Nat.ble j k with
   | true=>(j,p)::TL.set l k o
   | false=>(k,o)::(j,p)::l
def TL.del:TL->Nat->TL
 | [],_=>[]
 | (j,o)::l,k=>match Nat.beq j k with | true=>TL.del l k | false=>(j,o)::TL.del l k
def TL.sub (L:TL):List Nat->Option (List TO)
 | []=>some []
 | k::ks=>match L.get k,TL.sub L ks with
  | some o,some l=>some (o::l)
  | _,_=>none
def TL.Wi (L:TL):List Nat->TL
 | []=>L
 | k::ks=>TL.Wi (L.del k) ks
def TL.puts (L:TL):List Nat->List TO->TL
 | k::ks,o::l=>TL.puts (L.set k o) ks l
 | _,_=>L
def iE:Nat->List TO->TL
 | _,[]=>[]
 | k,o::l=>(k,o)::iE (k+1) l
def iO (l:List TO):TL:=iE 1000 l
def C.one:C->Bool
 | .int _ _=>true
 | .bool _=>true
 | .str _=>true
 | .sl _=>true
 | .slx _=>true
 | .nils=>true
 | .rw _=>true
 | .own _ _=>true
 | .ifo _ _ _ _=>true
 | .pt _ _=>true
 | .fn _ _ _=>true
 | .nilp=>true
 | .nilf=>true
 | .ifc _ _=>true
 | .opq _=>true
 | .mval _ _=>true
 | .mof _ _=>true
 | .mpr _=>true
 | _=>false
def dm:List C->Bool
 | []=>true
 | c::l=>match c.one with | true=>dm l | false=>false
def C.Wp:C->Bool
 | .int _ _=>true
 | .bool _=>true
 | .str _=>true
 | .sl _=>true
 | .slx _=>true
 | .nils=>true
 | .pt _ _=>true
 | .nilp=>true
 | .nilf=>true
 | .ifc _ _=>true
 | .opq _=>true
 | .mval _ _=>true
 | .mof _ _=>true
 | _=>false
def iP:List C->Bool
 | []=>true
 | c::l=>match c.Wp with | true=>iP l | false=>false
def C.pure:C->Bool
 | .fn _ fi ca=>match iP fi with | true=>iP ca | false=>false
 | c=>c.Wp
def dF:List C->Bool
 | []=>true
 | c::l=>match c.pure with | true=>dF l | false=>false
def C.mp (g:C->C):Nat->C->C
 | _,.int k n=>g (.int k n)
 | _,.bool b=>g (.bool b)
 | _,.str s=>g (.str s)
 | _,.sl els=>g (.sl els)
 | _,.slx els=>g (.slx els)
 | _,.nils=>g .nils
 | _,.rw j=>g (.rw j)
 | _,.own j o=>g (.own j o)
 | _,.ifo m t j o=>g (.ifo m t j o)
 | _,.ownv j o=>g (.ownv j o)
 | _,.pt es o=>g (.pt es o)
 | _,.elr j a b=>g (.elr j a b)
 | _,.slo j a=>g (.slo j a)
 | _,.slp j a b=>g (.slp j a b)
 | _,.nilp=>g .nilp
 | _,.nilf=>g .nilf
 | _,.ifc t c=>g (.ifc t c)
 | _,.opq k=>g (.opq k)
 | _,.mval nm c=>g (.mval nm c)
 | _,.mof t nm=>g (.mof t nm)
 | _,.mpr j=>g (.mpr j)
 | _,.und=>g .und
 | _,.any=>g .any
 | 0,.fn _ _ _=>.any
 | 0,.agg _=>.any
 | 0,.tup _=>.any
 | n+1,.fn f fi ca=>.fn f (fi.map (C.mp g n)) (ca.map (C.mp g n))
 | n+1,.agg cs=>.agg (cs.map (C.mp g n))
 | n+1,.tup cs=>.tup (cs.map (C.mp g n))
def fS (k:Nat):C->C
 | .int k n=>.int k n
 | .bool b=>.bool b
 | .str s=>.str s
 | .sl els=>.sl els
 | .slx els=>.slx els
 | .nils=>.nils
 | .rw j=>match Nat.beq j k with | true=>.any | false=>.rw j
 | .own j o=>.own j o
 | .ifo m t j o=>.ifo m t j o
 | .ownv j o=>.ownv j o
 | .pt es o=>.pt es o
 | .elr j a b=>match Nat.beq j k with | true=>.any | false=>.elr j a b
 | .slo j a=>.slo j a
 | .slp j a b=>.any
 | .fn f fi ca=>.fn f fi ca
 | .agg cs=>.agg cs
 | .tup cs=>.tup cs
 | .nilp=>.nilp
 | .nilf=>.nilf
 | .ifc t c=>.ifc t c
 | .opq k=>.opq k
 | .mval nm c=>.mval nm c
 | .mof t nm=>.mof t nm
 | .mpr j=>.mpr j
 | .und=>.und
 | .any=>.any
def C.kill (k:Nat) (c:C):C:=C.mp (fS k) 3 c
def C.kills:List Nat->C->C
 | [],c=>c
 | k::ks,c=>C.kills ks (c.kill k)
def pH:C->C
 | .int k n=>.int k n
 | .bool b=>.bool b
 | .str s=>.str s
 | .sl els=>.sl els
 | .slx els=>.slx els
 | .nils=>.nils
 | .rw j=>.any
 | .own j o=>.own j o
 | .ifo m t j o=>.ifo m t j o
 | .ownv j o=>.ownv j o
 | .pt es o=>.pt es o
 | .elr j a b=>.any
 | .slo j a=>.slo j a
 | .slp j a b=>.any
 | .fn f fi ca=>.fn f fi ca
 | .agg cs=>.agg cs
 | .tup cs=>.tup cs
 | .nilp=>.nilp
 | .nilf=>.nilf
 | .ifc t c=>.ifc t c
 | .opq k=>.opq k
 | .mval nm c=>.mval nm c
 | .mof t nm=>.mof t nm
 | .mpr j=>.mpr j
 | .und=>.und
 | .any=>.any
def C.WW (c:C):C:=C.mp pH 3 c
def mM (k:Nat) (l:List (List C)):C->C
 | .int k n=>.int k n
 | .bool b=>.bool b
 | .str s=>.str s
 | .sl els=>.sl els
 | .slx els=>.slx els
 | .nils=>.nils
 | .rw j=>match Nat.beq j k with | true=>.sl l | false=>.rw j
 | .own j o=>.own j o
 | .ifo m t j o=>.ifo m t j o
 | .ownv j o=>.ownv j o
 | .pt es o=>.pt es o
 | .elr j a b=>match Nat.beq j k with | true=>.any | false=>.elr j a b
 | .slo j a=>.slo j a
 | .slp j a b=>.any
 | .fn f fi ca=>.fn f fi ca
 | .agg cs=>.agg cs
 | .tup cs=>.tup cs
 | .nilp=>.nilp
 | .nilf=>.nilf
 | .ifc t c=>.ifc t c
 | .opq k=>.opq k
 | .mval nm c=>.mval nm c
 | .mof t nm=>.mof t nm
 | .mpr j=>.mpr j
 | .und=>.und
 | .any=>.any
def C.frz (k:Nat) (els:List (List C)) (c:C):C:=C.mp (mM k els) 3 c
def ql (k:Nat) (es:List C):C->C
 | .int k n=>.int k n
 | .bool b=>.bool b
 | .str s=>.str s
 | .sl els=>.sl els
 | .slx els=>.slx els
 | .nils=>.nils
 | .rw j=>.rw j
 | .own j o=>match Nat.beq j k with | true=>.pt es o | false=>.own j o
 | .ifo m t j o=>match Nat.beq j k with | true=>(match m with | none=>.ifc t (.pt es o) | some nm=>.mval nm (.ifc t (.pt es o))) | false=>.ifo m t j o
 | .ownv j o=>match Nat.beq j k with | true=>.pt es o | false=>.ownv j o
 | .pt es o=>.pt es o
 | .elr j a b=>.elr j a b
 | .slo j a=>match Nat.beq j k with | true=>.any | false=>.slo j a
 | .slp j a b=>.any
 | .fn f fi ca=>.fn f fi ca
 | .agg cs=>.agg cs
 | .tup cs=>.tup cs
 | .nilp=>.nilp
 | .nilf=>.nilf
 | .ifc t c=>.ifc t c
 | .opq k=>.opq k
 | .mval nm c=>.mval nm c
 | .mof t nm=>.mof t nm
 | .mpr j=>match Nat.beq j k with | true=>.any | false=>.mpr j
 | .und=>.und
 | .any=>.any
def C.frb (k:Nat) (es:List C) (c:C):C:=C.mp (ql k es) 3 c
def rY (r:Nat->Option Nat):C->C
 | .int k n=>.int k n
 | .bool b=>.bool b
 | .str s=>.str s
 | .sl els=>.sl els
 | .slx els=>.slx els
 | .nils=>.nils
 | .rw j=>match r j with | some i=>.rw i | none=>.any
 | .own j o=>match r j with | some i=>.own i o | none=>.any
 | .ifo m t j o=>match r j with | some i=>.ifo m t i o | none=>.any
 | .ownv j o=>match r j with | some i=>.own i o | none=>.any
 | .pt es o=>.pt es o
 | .elr j a b=>match r j with | some i=>.elr i a b | none=>.any
 | .slo j a=>match r j with | some i=>.slo i a | none=>.any
 | .slp j a b=>.any
 | .fn f fi ca=>.fn f fi ca
 | .agg cs=>.agg cs
 | .tup cs=>.tup cs
 | .nilp=>.nilp
 | .nilf=>.nilf
 | .ifc t c=>.ifc t c
 | .opq k=>.opq k
 | .mval nm c=>.mval nm c
 | .mof t nm=>.mof t nm
 | .mpr j=>match r j with | some i=>.mpr i | none=>.any
 | .und=>.und
 | .any=>.any
def C.ren (f:Nat->Option Nat) (c:C):C:=C.mp (rY f) 3 c
def TO.Wj (g:C->C):TO->TO
 | .box t cs=>.box t (cs.map g)
 | .row t sz els=>.row t sz els
 | .map es=>.map es
 | .win t pre cs post=>.win t pre (cs.map g) post
def TL.Wj (g:C->C):TL->TL
 | []=>[]
 | (k,o)::l=>(k,o.Wj g)::TL.Wj g l
def cj:List Nat->Nat->Nat->Option Nat
 | [],_,_=>none
 | k::ks,i,j=>match Nat.beq j k with | true=>some i | false=>cj ks (i+1) j
def aW (ko:List Nat) (j:Nat):Option Nat:=match Nat.ble 1000 j with | true=>ko[j-1000]? | false=>none
def C.can:C->C
 | .int k n=>.int k n
 | .bool b=>.bool b
 | .str s=>.str s
 | .sl els=>.sl els
 | .slx els=>.sl els
 | .nils=>.sl []
 | .rw j=>.rw j
 | .own j o=>.own j o
 | .ifo m t j o=>.ifo m t j o
 | .ownv j o=>.ownv j o
 | .pt es o=>.pt es o
 | .elr j a b=>.elr j a b
 | .slo j a=>.slo j a
 | .slp j a b=>.slp j a b
 | .fn f fi ca=>.fn f fi ca
 | .agg cs=>.agg cs
 | .tup cs=>.tup cs
 | .nilp=>.nilp
 | .nilf=>.nilf
 | .ifc t c=>.ifc t c
 | .opq k=>.opq k
 | .mval nm c=>.mval nm c
 | .mof t nm=>.mof t nm
 | .mpr j=>.mpr j
 | .und=>.und
 | .any=>.any
def C.Wo:C->C
 | .int k n=>.int k n
 | .bool b=>.bool b
 | .str s=>.str s
 | .sl els=>.sl els
 | .slx els=>.sl els
 | .nils=>.sl []
 | .rw j=>.rw j
 | .own j o=>.own j o
 | .ifo m t j o=>.ifo m t j o
 | .ownv j o=>.ownv j o
 | .pt es o=>.pt es o
 | .elr j a b=>.elr j a b
 | .slo j a=>.slo j a
 | .slp j a b=>.slp j a b
 | .fn f fi ca=>.fn f fi ca
 | .agg cs=>.agg (cs.map C.can)
 | .tup cs=>.tup cs
 | .nilp=>.nilp
 | .nilf=>.nilf
 | .ifc t c=>.ifc t c
 | .opq k=>.opq k
 | .mval nm c=>.mval nm c
 | .mof t nm=>.mof t nm
 | .mpr j=>.mpr j
 | .und=>.und
 | .any=>.any
def C.Wy:C->C
 | .int k n=>.int k n
 | .bool b=>.bool b
 | .str s=>.str s
 | .sl els=>.sl els
 | .slx els=>.sl els
 | .nils=>.sl []
 | .rw j=>.rw j
 | .own j o=>.own j o
 | .ifo m t j o=>.ifo m t j o
 | .ownv j o=>.ownv j o
 | .pt es o=>.pt es o
 | .elr j a b=>.elr j a b
 | .slo j a=>.slo j a
 | .slp j a b=>.slp j a b
 | .fn f fi ca=>.fn f fi ca
 | .agg cs=>.agg (cs.map C.can)
 | .tup cs=>.tup (cs.map C.Wo)
 | .nilp=>.nilp
 | .nilf=>.nilf
 | .ifc t c=>.ifc t c
 | .opq k=>.opq k
 | .mval nm c=>.mval nm c
 | .mof t nm=>.mof t nm
 | .mpr j=>.mpr j
 | .und=>.und
 | .any=>.any
abbrev aT:=Nat->C
def bw (d:Option Nat) (c:C) (ρ:aT):aT :=
 match d with
 | some d=>fun j=>match Nat.beq j d with | true=>c | false=>ρ j
 | none=>ρ
def qI:Value->C
 | .int k n=>match(Lit.int k n).wf with | true=>.int k n | false=>.any
 | .bool b=>.bool b
 | .string s=>match Nat.ble s.size maxLen with | true=>.str s | false=>.any
 | .slice none 0 0=>.nils
 | .pointer none=>.nilp
 | .nilFunc=>.nilf
 | .nilIface=>.opq 0
 | .func (.methodOf t nm) ⟨[]⟩ ⟨[]⟩=>.mof t nm
 | _=>.any
def Se (nm:String) (c:C):C :=
 match c with
 | .ifc t c=>.mval nm (.ifc t c)
 | .ifo none t k off=>.ifo (some nm) t k off
 | _=>.any
def cv:Value->C
 | .agg cs=>.agg (cs.toList.map qI)
 | v=>qI v
def bV (ρ:aT):X->C
 | .t n=>ρ n
 | .c v=>cv v
 | .fn f=>.fn f [] []
 | .mt nm n=>Se nm (ρ n)
def C.cel:C->C
 | .int k n=>.int k n
 | .bool b=>.bool b
 | .str s=>.str s
 | .sl els=>.sl els
 | .slx els=>.slx els
 | .nils=>.nils
 | .rw j=>.rw j
 | .own j o=>.own j o
 | .ifo m t j o=>.ifo m t j o
 | .ownv j o=>.own j o
 | .pt es o=>.pt es o
 | .elr j a b=>.elr j a b
 | .slo j a=>.slo j a
 | .slp j a b=>.any
 | .fn f fi ca=>.fn f fi ca
 | .agg cs=>.agg cs
 | .tup cs=>.tup cs
 | .nilp=>.nilp
 | .nilf=>.nilf
 | .ifc t c=>.ifc t c
 | .opq k=>.opq k
 | .mval nm c=>.mval nm c
 | .mof t nm=>.mof t nm
 | .mpr j=>.mpr j
 | .und=>.und
 | .any=>.any
def C.slt:C->C
 | .int k n=>.int k n
 | .bool b=>.bool b
 | .str s=>.str s
 | .sl els=>.sl els
 | .slx els=>.slx els
 | .nils=>.nils
 | .rw j=>.rw j
 | .own j o=>.ownv j o
 | .ifo m t j o=>.ifo m t j o
 | .ownv j o=>.ownv j o
 | .pt es o=>.pt es o
 | .elr j a b=>.any
 | .slo j a=>.slo j a
 | .slp j a b=>.any
 | .fn f fi ca=>.fn f fi ca
 | .agg cs=>.agg cs
 | .tup cs=>.tup cs
 | .nilp=>.nilp
 | .nilf=>.nilf
 | .ifc t c=>.ifc t c
 | .opq k=>.opq k
 | .mval nm c=>.mval nm c
 | .mof t nm=>.mof t nm
 | .mpr j=>.mpr j
 | .und=>.und
 | .any=>.any
def C.WJ:C->C
 | .int k n=>.int k n
 | .bool b=>.bool b
 | .str s=>.str s
 | .sl els=>.sl els
 | .slx els=>.slx els
 | .nils=>.nils
 | .rw j=>.rw j
 | .own j o=>.own j o
 | .ifo m t j o=>.ifo m t j o
 | .ownv j o=>.own j o
 | .pt es o=>.pt es o
 | .elr j a b=>.elr j a b
 | .slo j a=>.slo j a
 | .slp j a b=>.slp j a b
 | .fn f fi ca=>.fn f fi ca
 | .agg cs=>.agg cs
 | .tup cs=>.tup cs
 | .nilp=>.nilp
 | .nilf=>.nilf
 | .ifc t c=>.ifc t c
 | .opq k=>.opq k
 | .mval nm c=>.mval nm c
 | .mof t nm=>.mof t nm
 | .mpr j=>.mpr j
 | .und=>.und
 | .any=>.any
def C.okc:C->Bool
 | .any=>false
 | .und=>false
 | .elr _ _ _=>false
 | .slo _ _=>false
 | .slp _ _ _=>false
 | .tup _=>false
 | _=>true
def bS:C->List C
 | .int k n=>[.int k n]
 | .bool b=>[.bool b]
 | .str s=>[.str s]
 | .sl els=>[.sl els]
 | .slx els=>[.slx els]
 | .nils=>[.nils]
 | .rw j=>[.rw j]
 | .own j o=>[.own j o]
 | .ifo m t j o=>[.ifo m t j o]
 | .ownv j o=>[.own j o]
 | .pt es o=>[.pt es o]
 | .elr j a b=>[.any]
 | .slo j a=>[.any]
 | .slp j a b=>[.any]
 | .fn f fi ca=>[.fn f fi ca]
 | .agg cs=>cs
 | .tup cs=>[.tup cs]
 | .nilp=>[.nilp]
 | .nilf=>[.nilf]
 | .ifc t c=>[.ifc t c]
 | .opq k=>[.opq k]
 | .mval nm c=>[.mval nm c]
 | .mof t nm=>[.mof t nm]
 | .mpr j=>[.mpr j]
 | .und=>[.und]
 | .any=>[.any]
def cT:List C->Nat->Bool
 | [],0=>true
 | _::l,n+1=>cT l n
 | _,_=>false
def zx (agg:Bool) (cs:List C):C :=
 match agg,cs with
 | true,cs=>.agg cs
 | false,[c]=>c.slt
 | false,_=>.any
def dM (ρ:aT):List X->List C
 | []=>[]
 | x::xs=>(bV ρ x).cel::dM ρ xs
def s6 (ρ:aT):List X->List (List C)
 | []=>[]
 | x::xs=>(bS (bV ρ x)).map C.can::s6 ρ xs
def pI (ρ:aT) (sz:Nat):List X->Bool
 | []=>true
 | x::xs=>match(bV ρ x).okc,cT (bS (bV ρ x)) sz,dm (bS (bV ρ x)),dF (bS (bV ρ x)) with
  | true,true,true,true=>pI ρ sz xs
  | _,_,_,_=>false
def eH (cs:List C) (off:Nat) (vs:List C):List C:=cs.take off++vs++cs.drop (off+vs.length)
def s8 (ρ:aT):List C->List (Nat×Nat×X)->Option (List C)
 | zs,[]=>some zs
 | zs,(off,n,x)::ps=>match(bV ρ x).okc,cT (bS (bV ρ x)) n with
  | true,true=>s8 ρ (eH zs off (bS (bV ρ x))) ps
  | _,_=>none
def ER (ρ:aT) (d:Int):Option X->Option Int
 | none=>some d
 | some x=>match bV ρ x with | .int _ i=>some i | _=>none
def PJ (mx:Bool):Int->List C->Option Int
 | a,[]=>some a
 | a,.int _ b::l=>PJ mx (match mx with | true=>if b>a then b else a | false=>if b<a then b else a) l
 | _,_=>none
abbrev iF (b:UInt8):C:=.int .u8 b.toNat
def af (bs:List UInt8):List (List C):=bs.map fun b=>[iF b]
def fc (c:C) (K:C->Prop):Prop :=
 match c with
 | .int k n=>K (.int k n)
 | .bool b=>K (.bool b)
 | .str s=>K (.str s)
 | .sl els=>K (.sl els)
 | .slx els=>K (.slx els)
 | .nils=>K .nils
 | .rw k=>K (.rw k)
 | .own k off=>K (.own k off)
 | .ifo m t k off=>K (.ifo m t k off)
 | .ownv k off=>K (.ownv k off)
 | .pt es off=>K (.pt es off)
 | .elr k j off=>K (.elr k j off)
 | .slo k a=>K (.slo k a)
 | .slp k a j=>K (.slp k a j)
 | .fn f fi ca=>K (.fn f fi ca)
 | .agg cs=>K (.agg cs)
 | .tup cs=>K (.tup cs)
 | .nilp=>K .nilp
 | .nilf=>K .nilf
 | .ifc t c=>K (.ifc t c)
 | .opq k=>K (.opq k)
 | .mval nm c=>K (.mval nm c)
 | .mof t nm=>K (.mof t nm)
 | .mpr j=>K (.mpr j)
 | .und=>K .und
 | .any=>K .any
def fl:List C->(List C->Prop)->Prop
 | [],K=>K []
 | c::cs,K=>fc c fun c=>fl cs fun cs=>K (c::cs)
def fO:TO->(TO->Prop)->Prop
 | .box t cs,K=>fl cs fun cs=>K (.box t cs)
 | .row t sz els,K=>K (.row t sz els)
 | .map es,K=>K (.map es)
 | .win t pre cs post,K=>fl cs fun cs=>K (.win t pre cs post)
def fT:TL->(TL->Prop)->Prop
 | [],K=>K []
 | (k,o)::l,K=>fO o fun o=>fT l fun l=>K ((k,o)::l)
def uz (c:C) (K:C->Prop):Prop :=
 match c with
 | .agg cs=>fl cs fun cs=>K (.agg cs)
 | c=>fc c K
theorem Dn {c:C}{K:C->Prop}:fc c K=K c:=by cases c<;>rfl
theorem dV:∀{cs:List C}{K:List C->Prop},fl cs K=K cs
 | [],K=>rfl
 | c::cs,K=>by simp only[fl,Dn,dV]
theorem Om {o:TO}{K:TO->Prop}:fO o K=K o:=by cases o<;>simp only[fO,dV]
theorem eB:∀{L:TL}{K:TL->Prop},fT L K=K L
 | [],K=>rfl
 | (k,o)::l,K=>by simp only[fT,Om,eB]
theorem dG {c:C}{K:C->Prop}:uz c K=K c:=by cases c<;>simp only[uz,dV,Dn]
mutual
/-- the bounds that all data of the machine keeps -/
def Wf:C->Prop
 | .int k n=>(Lit.int k n).wf=true
 | .str s=>s.size<=maxLen
 | .sl els=>els.length<=maxLen/\vO els
 | .slx els=>els.length<=maxLen/\vO els
 | .pt es _=>s9 es
 | .fn _ fi ca=>s9 fi/\s9 ca
 | .agg cs=>s9 cs
 | .tup cs=>s9 cs
 | .slo _ offs=>offs.length<=maxLen
 | _=>True
def s9:List C->Prop
 | []=>True
 | c::l=>Wf c/\s9 l
def vO:List (List C)->Prop
 | []=>True
 | es::l=>s9 es/\vO l
end
def P2:List (C×C)->Prop
 | []=>True
 | (k,v)::l=>Wf k/\Wf v/\P2 l
def TO.Wf:TO->Prop
 | .box _ cs=>s9 cs
 | .row _ _ els=>vO els
 | .map es=>P2 es
 | .win _ _ cs _=>s9 cs
structure Cr (els:List (List C)) (i:Int) (sz:Nat) (K:List C->Prop):Prop where
 out:∃es,0<=i/\els[i.toNat]?=some es/\cT es sz=true/\K es
structure Jl (els:List (List C)) (j off n:Nat) (K:List C->Prop):Prop where
 out:∃es,els[j]?=some es/\cT ((es.drop off).take n) n=true/\K ((es.drop off).take n)
structure gR (els:List (List C)) (K:List UInt8->Prop):Prop where
 out:∃bs,els=af bs/\K bs
structure AZ (l h:Int) (els:List (List C)) (sz:Nat) (K:Nat->Nat->Prop):Prop where
 lo:0<=l
 le:l<=h
 hi:h<=els.length
 sizes:∀es∈els,es.length=sz
 out:K l.toNat h.toNat
structure rj (els news:List (List C)) (sz bytes:Nat) (K:Prop):Prop where
 sizes:∀es∈news,es.length=sz
 max:els.length+news.length<=maxLen
 room:(els.length+news.length)*bytes<=140737488355328
 out:K
def lV:Bool->C->C->Option Bool
 | false,.int .i64 a,.int .i64 b=>some (decide (a=b))
 | true,.str a,.str b=>some (decide (a.data.toList=b.data.toList))
 | _,_,_=>none
def GD:Bool->C->Bool
 | false,.int .i64 _=>true
 | true,.str _=>true
 | _,_=>false
def yx (str:Bool) (key:C):List (C×C)->Option (Option C)
 | []=>some none
 | (k,v)::l=>match lV str key k with
  | some true=>some (some v)
  | some false=>yx str key l
  | none=>none
def GF (str:Bool) (key val:C):List (C×C)->Option (List (C×C))
 | []=>some [(key,val)]
 | (k,v)::l=>match lV str key k with
  | some true=>some ((key,val)::l)
  | some false=>match GF str key val l with | some l'=>some ((k,v)::l') | none=>none
  | none=>none
structure MO (str:Bool) (es:List (C×C)) (key:C) (Y:C->Prop) (N:Prop):Prop where
 out:(∃v,yx str key es=some (some v)/\Y v)\/(yx str key es=some none/\N)
structure Oo (str:Bool) (es:List (C×C)) (key val:C) (K:List (C×C)->Prop):Prop where
 out:∃es',GF str key val es=some es'/\K es'
structure GH (i:Int) (K:Nat->Prop):Prop where
 out:∃m:Nat,i=m/\K m
def vP:List Nat->TL->aT->List C->(TL->aT->List C->Prop)->Prop
 | [],L,ρ,a,K=>K L ρ a
 | k::ks,L,ρ,a,K=>match L.get k with
  | some (.row _ _ els)=>vP ks ((L.del k).Wj (C.frz k els)) (fun j=>(ρ j).frz k els) (a.map (C.frz k els)) K
  | _=>False
def lg (L:TL):C->Bool
 | .rw k=>match L.get k with | some (.row _ _ _)=>true | _=>false
 | .own k _=>match L.get k with | some (.box _ _)=>true | some (.win _ _ _ _)=>true | _=>false
 | .ifo _ _ k _=>match L.get k with | some (.box _ _)=>true | some (.win _ _ _ _)=>true | _=>false
 | .mpr k=>match L.get k with | some (.map _)=>true | _=>false
 | .ownv _ _=>false
 | .elr _ _ _=>false
 | .slo k _=>match L.get k with | some (.box _ _)=>true | some (.win _ _ _ _)=>true | _=>false
 | .slp _ _ _=>false
 | _=>true
def eZ (L:TL):Nat->C->Bool
 | n+1,.agg cs=>cs.all (eZ L n)
 | n+1,.tup cs=>cs.all (eZ L n)
 | n+1,.fn _ fi ca=>fi.all (eZ L n)&&ca.all (eZ L n)
 | 0,.agg _=>false
 | 0,.tup _=>false
 | 0,.fn _ _ _=>false
 | _,c=>lg L c
def Iq (L L1:TL) (c a:C):Prop :=
 a=.any\/(c=a/\eZ L1 3 a=true)\/(c=.nils/\a=.sl [])\/(c=.nils/\∃k t sz,a=.rw k/\L.get k=none/\L1.get k=some (.row t sz []))\/∃els,c=.slx els/\a=.sl els
def GI (L L1:TL):List C->List C->Prop
 | [],l=>l=[]
 | c::cs,l=>∃a cs',l=a::cs'/\Iq L L1 c a/\GI L L1 cs cs'
def GJ (L1:TL):TO->Bool
 | .box _ cs=>cs.all (eZ L1 3)
 | .row _ _ _=>true
 | .map _=>true
 | .win _ _ cs _=>cs.all (eZ L1 3)
def P3 (L L1:TL) (o o':TO):Prop:=(o=o'/\GJ L1 o'=true)\/∃t cs cs',o=.box t cs/\o'=.box t cs'/\GI L L1 cs cs'
def gives (L L1:TL):TL->Prop
 | []=>True
 | (k,o)::l=>((∃p,L.get k=some p/\P3 L L1 p o)\/(L.get k=none/\∃t sz,o=.row t sz []))/\gives L L1 l
def mX (L L1:TL):List Nat->List C->aT->Prop
 | k::ks,v::vs,ρ=>Iq L L1 (ρ k) v/\mX L L1 ks vs ρ
 | _,_,_=>True
def pJ:List Nat->List C->aT->aT
 | k::ks,v::vs,ρ=>bw (some k) v (pJ ks vs ρ)
 | _,_,ρ=>ρ
def bE:List Nat->Bool
 | []=>true
 | k::ks=>match fo ks k with | true=>false | false=>bE ks
def Jm (F:aA) (b o off:Nat) (vs:List Value):Prop :=
 ∃a c t d,F b=some (.cells c t d)/\o=a+off/\∀(i:Nat) (v:Value),vs[i]?=some v->c[a+i]?=some v/\nR d (a+i)
def Ba:Option String->TypeId->Value->Value
 | none,t,u=>.iface t u
 | some nm,t,u=>.func (.method nm) #[.iface t u] #[]
mutual
def Rel (F:aA):Loc->C->Value->Prop
 | _,.int k n,v=>v=.int k n/\(Lit.int k n).wf=true
 | _,.bool b,v=>v=.bool b
 | _,.str s,v=>v=.string s/\s.size<=maxLen
 | _,.sl els,v=>∃a c,v=.slice a els.length c/\els.length<=c/\els.length<=maxLen/\(a=none->els=[]/\c=0)/\∃sz,fE F a sz 0 els
 | _,.slx els,v=>∃a,v=.slice (some a) els.length els.length/\els.length<=maxLen/\∃sz,fE F (some a) sz 0 els
 | _,.nils,v=>v=.slice none 0 0
 | L,.rw k,v=>∃a c t sz n xs,v=.slice a n c/\L.get k=some (.row v t sz n xs)
 | L,.own k off,v=>∃g t cs,L.get k=some (.box g t cs)/\v=.pointer (some ⟨g,off,none⟩)
 | L,.ifo m ti k off,v=>∃g t cs,L.get k=some (.box g t cs)/\v=Ba m ti (.pointer (some ⟨g,off,none⟩))
 | _,.pt es off,v=>∃b o vs,v=.pointer (some ⟨b,o,none⟩)/\Jm F b o off vs/\dm es=true/\aB F [] es vs
 | L,.fn f fi ca,v=>∃fi' ca',v=.func (.func f) fi'.toArray ca'.toArray/\aB F L fi fi'/\aB F L ca ca'
 | L,.agg cs,v=>∃vs,v=.agg vs.toArray/\aB F L cs vs
 | L,.tup cs,v=>∃vs,v=.tuple vs.toArray/\aB F L cs vs
 | _,.nilp,v=>v=.pointer none
 | _,.nilf,v=>v=.nilFunc
 | _,.ifc t c,v=>∃u,v=.iface t u/\Rel F [] c u
 | _,.opq k,v=>i9 k F v
 | _,.mval nm c,v=>∃u,v=.func (.method nm) #[u] #[]/\Rel F [] c u
 | _,.mof t nm,v=>v=.func (.methodOf t nm) #[] #[]
 | L,.mpr k,v=>∃g cs,L.get k=some (.box g 0 cs)/\v=.map (some g)
 | _,.und,v=>v=undef
 | _,.any,_=>True
 | _,.ownv _ _,_=>False
 | L,.elr k j off,v=>∃ad t sz n c xs,v=.pointer (some (ad.add (j*sz+off)))/\L.get k=some (.row (.slice (some ad) n c) t sz n xs)
 | L,.slo k offs,v=>∃g t cs ad,L.get k=some (.box g t cs)/\v=.slice (some ad) offs.length offs.length/\offs.length<=maxLen/\bN F (some ad) 0 (offs.map fun o=>.pointer (some ⟨g,o,none⟩))
 | _,.slp _ _ _,_=>False
def aB (F:aA):Loc->List C->List Value->Prop
 | _,[],vs=>vs=[]
 | L,c::cs,vs=>∃v vs',vs=v::vs'/\Rel F L c v/\aB F L cs vs'
def fE (F:aA) (a:Option Addr) (sz:Nat):Nat->List (List C)->Prop
 | _,[]=>True
 | i,es::l=>(∃vs,vs.length=sz/\bN F a (i*sz) vs/\dm es=true/\aB F [] es vs)/\fE F a sz (i+1) l
end
def aL (F:aA) (sz:Nat):List (List C)->List Value->Prop
 | [],xs=>xs=[]
 | es::l,xs=>∃vs a,xs=vs++a/\vs.length=sz/\dm es=true/\aB F [] es vs/\aL F sz l a
def tyOk (t g a:Nat):Prop:=a<1048576/\(t=a\/t=(g+1)*1048576+a)/\a≠0
def iQ (F:aA):List (C×C)->List Value->Prop
 | [],vs=>vs=[]
 | (k,c)::l,vs=>∃kv v a,vs=.agg #[kv,v]::a/\Rel F [] k kv/\Rel F [] c v/\iQ F l a
def cN (F:aA) (L:Loc):TO->Own->Prop
 | .box t cs,.box g b vs=>tyOk t g b/\aB F L cs vs
 | .row t sz els,.row v b d n xs=>t=b/\sz=d/\n=els.length/\(n<=maxLen/\∃a c,v=.slice a n c/\(a=none->n=0))/\aL F sz els xs
 | .map es,.box g b vs=>b=0/\iQ F es vs
 | .win t pre cs post,.box g b vs=>tyOk t g b/\∃v1 e v3,vs=v1++(e++v3)/\aB F [] pre v1/\aB F L cs e/\aB F [] post v3
 | _,_=>False
def GK (F:aA) (L:Loc):Option TO->Option Own->Prop
 | none,none=>True
 | some to,some o=>cN F L to o
 | _,_=>False
def cO (F:aA) (L:Loc) (M:TL):Prop:=∀k,GK F L (M.get k) (L.get k)
def PK (sv:SV) (v:Value):Prop:=sv=.v v\/∃b o j,sv=.el (some ⟨b,o,none⟩) j/\v=.pointer (some ⟨b,o+j,none⟩)
def aN (F:aA) (L:Loc):C->SV->Prop
 | .own k off,sv=>sv=.own k off/\∃g t cs,L.get k=some (.box g t cs)
 | .pt es off,sv=>∃b o j vs,(sv=.v (.pointer (some ⟨b,o,none⟩))/\j=0\/sv=.el (some ⟨b,o,none⟩) j)/\Jm F b (o+j) off vs/\dm es=true/\aB F [] es vs
 | .elr k j off,sv=>∃a t sz n c xs,sv=.el (some a) (j*sz+off)/\L.get k=some (.row (.slice (some a) n c) t sz n xs)
 | .ownv k off,sv=>∃v,PK sv v/\Rel F L (.own k off) v
 | .slp k d j,sv=>∃g t cs a,L.get k=some (.box g t cs)/\sv=.el (some a) j/\bN F (some a) 0 (d.map fun o=>.pointer (some ⟨g,o,none⟩))
 | .any,_=>True
 | c,sv=>∃v,sv=.v v/\Rel F L c v
def Kp (G:Nat->Option (Nat×TypeId)) (L:Loc):Prop:=∀k g t,G k=some (g,t)->∃cs,L.get k=some (.box g t cs)
structure TS (G:Nat->Option (Nat×TypeId)) (F:aA) (L:Loc) (ρ:Env) (M:TL) (τ:aT):Prop where
 tl:cO F L M
 env:∀j,aN F L (τ j) (ρ j)
 kp:Kp G L
 glob:qO F
def Own.like:Own->Own->Prop
 | .box g t _,.box d b _=>g=d/\t=b
 | .row v _ sz n _,.row c _ a n' _=>v=c/\sz=a/\n=n'
 | _,_=>False
theorem Own.Wl:∀o:Own,Own.like o o
 | .box ..=>⟨rfl,rfl⟩
 | .row ..=>⟨rfl,rfl,rfl⟩
theorem Jm.mono {F F':aA}(h:F.le F') {b o off:Nat}{vs:List Value}(c:Jm F b o off vs):Jm F' b o off vs:=by
 obtain⟨a,d,t,j,f,e⟩:=c;exact⟨a,d,t,j,h _ _ f,e⟩
mutual
theorem Rel.mono {F F':aA}(h:F.le F'):∀{L:Loc}{c:C}{v:Value},Rel F L c v->Rel F' L c v
 | _,.int k n,v,r=>r
 | _,.bool b,v,r=>r
 | _,.str s,v,r=>r
 | _,.sl els,v,r=>by
  simp only[Rel] at r ⊢;obtain⟨a,c,h1,h2,h3,h4,sz,h5⟩:=r;exact⟨a,c,h1,h2,h3,h4,sz,fE.mono h h5⟩
 | _,.slx els,v,r=>by
  simp only[Rel] at r ⊢;obtain⟨a,h1,h2,sz,h5⟩:=r;exact⟨a,h1,h2,sz,fE.mono h h5⟩
 | _,.nils,v,r=>r
 | L,.rw k,v,r=>by simp only[Rel] at r ⊢;exact r
 | L,.own k off,v,r=>by simp only[Rel] at r ⊢;exact r
 | L,.ifo m ti k off,v,r=>by simp only[Rel] at r ⊢;exact r
 | _,.pt es off,v,r=>by
  simp only[Rel] at r ⊢;obtain⟨b,o,vs,h1,h2,h3,h4⟩:=r;exact⟨b,o,vs,h1,h2.mono h,h3,aB.mono h h4⟩
 | L,.fn f fi ca,v,r=>by
  simp only[Rel] at r ⊢;obtain⟨fi',ca',h1,h2,h3⟩:=r;exact⟨fi',ca',h1,aB.mono h h2,aB.mono h h3⟩
 | L,.agg cs,v,r=>by
  simp only[Rel] at r ⊢;obtain⟨vs,h1,h2⟩:=r;exact⟨vs,h1,aB.mono h h2⟩
 | L,.tup cs,v,r=>by
  simp only[Rel] at r ⊢;obtain⟨vs,h1,h2⟩:=r;exact⟨vs,h1,aB.mono h h2⟩
 | _,.nilp,v,r=>r
 | _,.nilf,v,r=>r
 | _,.ifc t c,v,r=>by
  simp only[Rel] at r ⊢;obtain⟨u,h1,h2⟩:=r;exact⟨u,h1,Rel.mono h h2⟩
 | _,.opq k,v,r=>by
  simp only[Rel] at r ⊢;exact r.mono h
 | _,.mval nm c,v,r=>by
  simp only[Rel] at r ⊢;obtain⟨u,h1,h2⟩:=r;exact⟨u,h1,Rel.mono h h2⟩
 | _,.mof t nm,v,r=>r
 | L,.mpr k,v,r=>by simp only[Rel] at r ⊢;exact r
 | _,.und,v,r=>r
 | _,.any,v,r=>trivial
 | _,.ownv _ _,v,r=>r
 | L,.elr _ _ _,v,r=>by simp only[Rel] at r ⊢;exact r
 | L,.slo _ _,v,r=>by
  simp only[Rel] at r ⊢;obtain⟨g,t,cs,ad,h1,h2,h3,h4⟩:=r;exact⟨g,t,cs,ad,h1,h2,h3,h4.mono h⟩
 | _,.slp _ _ _,v,r=>r
theorem aB.mono {F F':aA}(h:F.le F'):∀{L:Loc}{cs:List C}{vs:List Value},aB F L cs vs->aB F' L cs vs
 | _,[],vs,r=>by simp only[aB] at r ⊢;exact r
 | L,c::cs,vs,r=>by
  simp only[aB] at r ⊢;obtain⟨v,vs',h1,h2,h3⟩:=r;exact⟨v,vs',h1,Rel.mono h h2,aB.mono h h3⟩
theorem fE.mono {F F':aA}(h:F.le F') {a:Option Addr}{sz:Nat}:∀{i:Nat}{l:List (List C)},fE F a sz i l->fE F' a sz i l
 | _,[],r=>by simp only[fE]
 | i,es::l,r=>by
  simp only[fE] at r ⊢;obtain⟨⟨vs,h1,h2,h3,h4⟩,h5⟩:=r;exact⟨⟨vs,h1,h2.mono h,h3,aB.mono h h4⟩,fE.mono h h5⟩
end
theorem aL.mono {F F':aA}(h:F.le F') {sz:Nat}:∀{l:List (List C)}{xs:List Value},aL F sz l xs->aL F' sz l xs
 | [],xs,r=>r
 | es::l,xs,r=>by
  simp only[aL] at r ⊢;obtain⟨vs,a,c,b,d,f,e⟩:=r;exact⟨vs,a,c,b,d,f.mono h,aL.mono h e⟩
theorem iQ.mono {F F':aA}(h:F.le F'):∀{l:List (C×C)}{vs:List Value},iQ F l vs->iQ F' l vs
 | [],vs,r=>r
 | (k,c)::l,vs,r=>by
  simp only[iQ] at r ⊢;obtain⟨kv,v,a,d,b,e,f⟩:=r;exact⟨kv,v,a,d,b.mono h,e.mono h,iQ.mono h f⟩
theorem cN.mono {F F':aA}(h:F.le F') {L:Loc}:∀{o:TO}{p:Own},cN F L o p->cN F' L o p
 | .box t cs,.box g a vs,r=>⟨r.1,r.2.mono h⟩
 | .row t sz els,.row v a b n xs,r=>⟨r.1,r.2.1,r.2.2.1,r.2.2.2.1,r.2.2.2.2.mono h⟩
 | .box _ _,.row ..,r=>r.elim
 | .row ..,.box ..,r=>r.elim
 | .map _,.row ..,r=>r.elim
 | .map es,.box g a vs,r=>⟨r.1,r.2.mono h⟩
 | .win ..,.row ..,r=>r.elim
 | .win ..,.box ..,⟨f,v1,k,v3,e,c,j,d⟩=>⟨f,v1,k,v3,e,c.mono h,j.mono h,d.mono h⟩
theorem cO.mono {F F':aA}(h:F.le F') {L:Loc}{M:TL}(r:cO F L M):cO F' L M:=by
 intro k;have:=r k
 revert this
 cases M.get k<;>cases L.get k<;>simp only[GK]<;>first | exact fun h=>h | exact fun r=>r.mono h
theorem aN.mono {F F':aA}(h:F.le F') {L:Loc}{c:C}{sv:SV}(r:aN F L c sv):aN F' L c sv:=by
 cases c<;>simp only[aN] at r ⊢
 case own=>exact r
 case pt =>
  obtain⟨b,o,j,vs,a,d,e,f⟩:=r;exact⟨b,o,j,vs,a,d.mono h,e,f.mono h⟩
 case elr=>exact r
 case slp =>
  obtain⟨g,t,cs,k,a,d,e⟩:=r;exact⟨g,t,cs,k,a,d,e.mono h⟩
 all_goals
  obtain⟨v,a,d⟩:=r;exact⟨v,a,d.mono h⟩
theorem jg {F:aA}{L:Loc}:∀{cs:List C}{vs:List Value},aB F L cs vs↔vs.length=cs.length/\∀(i:Nat) c v,cs[i]?=some c->vs[i]?=some v->Rel F L c v
 | [],vs=>by
  simp only[aB];constructor
  ·rintro rfl;simp
  ·rintro⟨h,_⟩;exact List.length_eq_zero_iff.1 (by simpa using h)
 | c::cs,vs=>by
  simp only[aB,jg (cs:=cs)];constructor
  ·rintro⟨v,d,rfl,a,f,l⟩;refine⟨by simp[f],fun i j k b e=>?_⟩;cases i with
   | zero=>simp only[Xg,WY] at b e;subst b e;exact a
   | succ i=>exact l i j k (by simpa using b) (by simpa using e)
  ·rintro⟨a,f⟩
   match vs,a with
   | v::d,a=>exact⟨v,d,rfl,f 0 c v (by simp) (by simp),by simpa using a,fun i j k b e=>f (i+1) j k (by simpa using b) (by simpa using e)⟩
theorem aB.len {F:aA}{L:Loc}{cs:List C}{vs:List Value}(h:aB F L cs vs):vs.length=cs.length:=(jg.1 h).1
theorem aB.at {F:aA}{L:Loc}{cs:List C}{vs:List Value}(h:aB F L cs vs) {i:Nat}{c:C}{v:Value}(a:cs[i]?=some c) (b:vs[i]?=some v):Rel F L c v:=(jg.1 h).2 i c v a b
theorem aB.append {F:aA}{L:Loc}{cs ds:List C}{vs us:List Value}(h:aB F L cs vs) (k:aB F L ds us):aB F L (cs++ds) (vs++us):=by
 induction cs generalizing vs with
 | nil=>simp only[aB] at h;subst h;exact k
 | cons c cs b =>
  simp only[aB] at h;obtain⟨v,e,rfl,d,a⟩:=h;simp only[Xk,aB];exact⟨v,_,rfl,d,b a⟩
theorem aB.drop {F:aA}{L:Loc}{cs:List C}{vs:List Value}(h:aB F L cs vs) (n:Nat):aB F L (cs.drop n) (vs.drop n):=by
 rw[jg] at h ⊢;refine⟨by simp[h.1],fun i c v a b=>?_⟩;rw[Xy] at a b;exact h.2 _ _ _ a b
theorem aB.take {F:aA}{L:Loc}{cs:List C}{vs:List Value}(h:aB F L cs vs) (n:Nat):aB F L (cs.take n) (vs.take n):=by
 rw[jg] at h ⊢;refine⟨by simp[h.1],fun i c v a b=>?_⟩;rw[XB] at a b;split at a
 ·rw[j3 (by assumption)] at b;exact h.2 _ _ _ a b
 ·cases a
theorem lW {F:aA}{a:Option Addr}{sz:Nat}:∀{l:List (List C)}{i:Nat},fE F a sz i l↔∀(j:Nat) es,l[j]?=some es->∃vs,vs.length=sz/\bN F a ((i+j)*sz) vs/\dm es=true/\aB F [] es vs
 | [],i=>by simp[fE]
 | x::l,i=>by
  simp only[fE,lW (l:=l)];constructor
  ·rintro⟨d,c⟩ j y b;cases j with
   | zero=>simp only[Xg,WY] at b;subst b;simpa using d
   | succ j =>
    simp only[XM] at b;have:=c j y b
    rwa [show i+1+j=i+(j+1) by omega] at this
  ·intro h;refine⟨by simpa using h 0 x (by simp),fun j y b=>?_⟩;have:=h (j+1) y (by simpa using b)
   rwa [show i+(j+1)=i+1+j by omega] at this
theorem gS {F:aA}{sz:Nat}:∀{l:List (List C)}{xs:List Value},aL F sz l xs->xs.length=l.length*sz
 | [],xs,h=>by simp only[aL] at h;subst h;simp
 | es::l,xs,h=>by
  simp only[aL] at h;obtain⟨vs,c,rfl,a,_,_,b⟩:=h;simp only[W8,gS b,a,Xl,Nat.add_mul];omega
theorem aL.append {F:aA}{sz:Nat}:∀{l m:List (List C)}{xs ys:List Value},aL F sz l xs->aL F sz m ys->aL F sz (l++m) (xs++ys)
 | [],m,xs,ys,h,k=>by simp only[aL] at h;subst h;exact k
 | es::l,m,xs,ys,h,k=>by
  simp only[aL] at h;obtain⟨vs,a,rfl,b,c,e,d⟩:=h;simp only[Xk,aL];exact⟨vs,a++ys,by simp,b,c,e,aL.append d k⟩
theorem aL.at {F:aA}{sz:Nat}:∀{l:List (List C)}{xs:List Value},aL F sz l xs->∀{j:Nat}{es:List C},l[j]?=some es->∃vs,vs.length=sz/\dm es=true/\aB F [] es vs/\∀(i:Nat) v,vs[i]?=some v->xs[j*sz+i]?=some v
 | [],xs,h,j,es,e=>by simp at e
 | x::l,xs,h,j,es,e=>by
  simp only[aL] at h;obtain⟨vs,n,rfl,b,m,f,p⟩:=h;cases j with
  | zero =>
   simp only[Xg,WY] at e;subst e;refine⟨vs,b,m,f,fun i v a=>?_⟩;have:i<vs.length:=(W5.1 a).1;rw[Nat.zero_mul,Nat.zero_add,Xc this];exact a
  | succ j =>
   obtain⟨us,c,k,o,d⟩:=aL.at p (by simpa using e);refine⟨us,c,k,o,fun i v a=>?_⟩;rw[Xi (by rw[b,Nat.add_mul];omega),show(j+1)*sz+i-vs.length=j*sz+i by rw[b,Nat.add_mul];omega];exact d i v a
theorem aL.frz {F:aA}{sz:Nat}{l:List (List C)}{xs:List Value}(h:aL F sz l xs) {a:Addr}(o:bN F (some a) 0 xs):fE F (some a) sz 0 l:=by
 rw[lW];intro j es r;obtain⟨vs,d,q,m,f⟩:=h.at r;refine⟨vs,d,?_,q,m⟩;obtain⟨k,c,t,n,e,hb,b,p⟩:=o;refine⟨k,c,t,n,e,hb,b,fun i v s=>?_⟩;have:=p (j*sz+i) v (f i v s);simpa[Nat.add_assoc] using this
theorem ic:∀{l:List C},dm l=true↔∀c∈l,c.one=true
 | []=>by simp[dm]
 | c::l=>by
  simp only[dm];cases h:c.one
  ·simp[h]
  ·simp[h,ic]
theorem n8:∀{l:List C},dF l=true↔∀c∈l,c.pure=true
 | []=>by simp[dF]
 | c::l=>by
  simp only[dF];cases h:c.pure
  ·simp[h]
  ·simp[h,n8]
theorem pK:∀{l:List C},iP l=true↔∀c∈l,c.Wp=true
 | []=>by simp[iP]
 | c::l=>by
  simp only[iP];cases h:c.Wp
  ·simp[h]
  ·simp[h,pK]
theorem Rel.one {F:aA}{L:Loc}{c:C}{v:Value}(h:Rel F L c v) (d:c.one=true):v.oneCell'=true:=by
 cases c<;>simp only[C.one,Xd] at d<;>simp only[Rel] at h
 case int=>obtain⟨rfl,_⟩:=h;rfl
 case bool=>subst h;rfl
 case str=>obtain⟨rfl,_⟩:=h;rfl
 case sl=>obtain⟨a,c,rfl,_⟩:=h;rfl
 case slx=>obtain⟨a,rfl,_⟩:=h;rfl
 case nils=>subst h;rfl
 case own=>obtain⟨g,t,cs,_,rfl⟩:=h;rfl
 case ifo m _ _ _=>obtain⟨g,t,cs,_,rfl⟩:=h;cases m<;>rfl
 case pt=>obtain⟨b,o,vs,rfl,_⟩:=h;rfl
 case fn=>obtain⟨a,b,rfl,_⟩:=h;rfl
 case nilp=>subst h;rfl
 case nilf=>subst h;rfl
 case ifc=>obtain⟨u,rfl,_⟩:=h;rfl
 case opq=>exact h.one
 case mval=>obtain⟨u,rfl,_⟩:=h;rfl
 case mof=>subst h;rfl
 case mpr=>obtain⟨g,cs,_,rfl⟩:=h;rfl
 case rw=>obtain⟨a,c,t,sz,n,xs,rfl,_⟩:=h;rfl
mutual
theorem Rel.wf {F:aA}:∀{L:Loc}{c:C}{v:Value},Rel F L c v->Wf c
 | _,.int k n,v,r=>by simp only[Rel] at r;simp only[Wf];exact r.2
 | _,.bool b,v,r=>by simp only[Wf]
 | _,.str s,v,r=>by simp only[Rel] at r;simp only[Wf];exact r.2
 | _,.sl els,v,r=>by
  simp only[Rel] at r;obtain⟨a,c,h1,h2,h3,h4,sz,h5⟩:=r;simp only[Wf];exact⟨h3,fE.wf h5⟩
 | _,.slx els,v,r=>by
  simp only[Rel] at r;obtain⟨a,h1,h2,sz,h5⟩:=r;simp only[Wf];exact⟨h2,fE.wf h5⟩
 | _,.nils,v,r=>by simp only[Wf]
 | L,.rw k,v,r=>by simp only[Wf]
 | L,.own k off,v,r=>by simp only[Wf]
 | L,.ifo _ _ _ _,v,r=>by simp only[Wf]
 | _,.pt es off,v,r=>by
  simp only[Rel] at r;obtain⟨b,o,vs,h1,h2,h3,h4⟩:=r;simp only[Wf];exact aB.wf h4
 | L,.fn f fi ca,v,r=>by
  simp only[Rel] at r;obtain⟨fi',ca',h1,h2,h3⟩:=r;simp only[Wf];exact⟨aB.wf h2,aB.wf h3⟩
 | L,.agg cs,v,r=>by
  simp only[Rel] at r;obtain⟨vs,h1,h2⟩:=r;simp only[Wf];exact aB.wf h2
 | L,.tup cs,v,r=>by
  simp only[Rel] at r;obtain⟨vs,h1,h2⟩:=r;simp only[Wf];exact aB.wf h2
 | _,.nilp,v,r=>by simp only[Wf]
 | _,.nilf,v,r=>by simp only[Wf]
 | _,.ifc _ _,v,r=>by simp only[Wf]
 | _,.opq _,v,r=>by simp only[Wf]
 | _,.mval _ _,v,r=>by simp only[Wf]
 | _,.mof _ _,v,r=>by simp only[Wf]
 | _,.mpr _,v,r=>by simp only[Wf]
 | _,.und,v,r=>by simp only[Wf]
 | _,.any,v,r=>by simp only[Wf]
 | _,.ownv _ _,v,r=>by simp only[Wf]
 | _,.elr _ _ _,v,r=>by simp only[Wf]
 | _,.slo _ _,v,r=>by
  simp only[Rel] at r;obtain⟨g,t,cs,ad,h1,h2,h3,h4⟩:=r;simp only[Wf];exact h3
 | _,.slp _ _ _,v,r=>by simp only[Wf]
theorem aB.wf {F:aA}:∀{L:Loc}{cs:List C}{vs:List Value},aB F L cs vs->s9 cs
 | _,[],vs,r=>by simp only[s9]
 | L,c::cs,vs,r=>by
  simp only[aB] at r;obtain⟨v,vs',h1,h2,h3⟩:=r;simp only[s9];exact⟨Rel.wf h2,aB.wf h3⟩
theorem fE.wf {F:aA}{a:Option Addr}{sz:Nat}:∀{i:Nat}{l:List (List C)},fE F a sz i l->vO l
 | _,[],r=>by simp only[vO]
 | i,es::l,r=>by
  simp only[fE] at r;obtain⟨⟨vs,h1,h2,h3,h4⟩,h5⟩:=r;simp only[vO];exact⟨aB.wf h4,fE.wf h5⟩
end
theorem aL.wf {F:aA}{sz:Nat}:∀{l:List (List C)}{xs:List Value},aL F sz l xs->vO l
 | [],xs,r=>by simp only[vO]
 | es::l,xs,r=>by
  simp only[aL] at r;obtain⟨vs,b,e,d,f,c,a⟩:=r;simp only[vO];exact⟨c.wf,a.wf⟩
theorem iQ.wf {F:aA}:∀{l:List (C×C)}{vs:List Value},iQ F l vs->P2 l
 | [],vs,r=>trivial
 | (k,c)::l,vs,r=>by
  simp only[iQ] at r;obtain⟨kv,v,d,f,a,b,e⟩:=r;exact⟨a.wf,b.wf,iQ.wf e⟩
theorem cN.wf {F:aA}{L:Loc}:∀{o:TO}{p:Own},cN F L o p->o.Wf
 | .box t cs,.box g a vs,r=>r.2.wf
 | .row t sz els,.row v a b n xs,r=>r.2.2.2.2.wf
 | .box _ _,.row ..,r=>r.elim
 | .row ..,.box ..,r=>r.elim
 | .map _,.row ..,r=>r.elim
 | .map es,.box g a vs,r=>r.2.wf
 | .win ..,.row ..,r=>r.elim
 | .win ..,.box ..,⟨h,v1,j,v3,e,d,c,f⟩=>c.wf
def C.leaf:C->Bool
 | .fn _ _ _=>false
 | .agg _=>false
 | .tup _=>false
 | _=>true
theorem uO {g:C->C}{n:Nat}{c:C}(h:c.leaf=true):C.mp g n c=g c:=by
 cases c<;>first | (cases n<;>rfl;done) | cases h
theorem aB.map {F F':aA}{L L':Loc}{g:C->C}:∀{cs:List C}{vs:List Value},(∀c∈cs,∀v,Rel F L c v->Rel F' L' (g c) v)->aB F L cs vs->aB F' L' (cs.map g) vs
 | [],vs,b,h=>by simp only[aB] at h;subst h;simp only[X0,aB]
 | c::cs,vs,b,h=>by
  simp only[aB] at h;obtain⟨v,a,rfl,e,d⟩:=h;simp only[Xa,aB];exact⟨v,a,rfl,b c (by simp) v e,aB.map (fun c f=>b c (by simp[f])) d⟩
theorem Rel.mp {F F':aA}{L L':Loc}{g:C->C}(b:∀c v,c.leaf=true->Rel F L c v->Rel F' L' (g c) v):∀(n:Nat) {c:C}{v:Value},Rel F L c v->Rel F' L' (C.mp g n c) v
 | 0,c,v,h=>by
  cases a:c.leaf
  ·cases c<;>simp only[C.leaf,Bool.true_eq_false] at a<;>simp only[C.mp,Rel]
  ·rw[uO a];exact b c v a h
 | n+1,c,v,h=>by
  cases a:c.leaf
  ·cases c<;>simp only[C.leaf,Bool.true_eq_false] at a<;>simp only[Rel] at h<;>simp only[C.mp,Rel]
   ·obtain⟨f,j,e,d,k⟩:=h;exact⟨f,j,e,d.map fun c _ v=>Rel.mp b n,k.map fun c _ v=>Rel.mp b n⟩
   ·obtain⟨vs,e,d⟩:=h;exact⟨vs,e,d.map fun c _ v=>Rel.mp b n⟩
   ·obtain⟨vs,e,d⟩:=h;exact⟨vs,e,d.map fun c _ v=>Rel.mp b n⟩
  ·rw[uO a];exact b c v a h
theorem aN.mp {F F':aA}{L L':Loc}{g:C->C}(d:∀c v,c.leaf=true->Rel F L c v->Rel F' L' (g c) v) (f:∀c sv,c.leaf=true->aN F L c sv->aN F' L' (g c) sv) (n:Nat) {c:C}{sv:SV}
  (h:aN F L c sv):aN F' L' (C.mp g n c) sv:=by
 cases a:c.leaf
 ·have j:∃v,sv=.v v/\Rel F L c v:=by cases c<;>simp only[C.leaf,Bool.true_eq_false] at a<;>exact h
  obtain⟨v,rfl,b⟩:=j;have e:=Rel.mp d n b;cases n with
  | zero=>cases c<;>simp only[C.leaf,Bool.true_eq_false] at a<;>simp only[C.mp,aN]
  | succ n=>cases c<;>simp only[C.leaf,Bool.true_eq_false] at a<;>exact⟨v,rfl,e⟩
 ·rw[uO a];exact f c sv a h
def Ext (L L':Loc):Prop:=∀k o,L.get k=some o->∃o',L'.get k=some o'/\Own.like o o'
theorem Ext.refl (L:Loc):Ext L L:=fun k o h=>⟨o,h,Own.Wl o⟩
theorem qm {F F':aA}{L L':Loc}(m:F.le F') {k:Nat}{a:List Nat}{v:Value}(d:∀o,L.get k=some o->∃o',L'.get k=some o'/\Own.like o o') (h:Rel F L (.slo k a) v):Rel F' L' (.slo k a) v:=by
 simp only[Rel] at h ⊢;obtain⟨g,t,cs,j,e,n,l,f⟩:=h;obtain⟨o',c,b⟩:=d _ e;cases o' with
 | row=>exact b.elim
 | box p q cs'=>obtain⟨rfl,rfl⟩:=b;exact⟨_,_,_,j,c,n,l,f.mono m⟩
theorem rZ {F F':aA}{L L':Loc}(e:F.le F') {k:Nat}{a:List Nat}{sv:SV}(b:∀o,L.get k=some o->∃o',L'.get k=some o'/\Own.like o o') (h:aN F L (.slo k a) sv):aN F' L' (.slo k a) sv:=by
 simp only[aN] at h ⊢;obtain⟨v,d,c⟩:=h;exact⟨v,d,qm e b c⟩
theorem GL {F F':aA}{L L':Loc}(m:F.le F') {k j:Nat}{a:List Nat}{sv:SV}(d:∀o,L.get k=some o->∃o',L'.get k=some o'/\Own.like o o') (h:aN F L (.slp k a j) sv):aN F' L' (.slp k a j) sv:=by
 simp only[aN] at h ⊢;obtain⟨g,t,cs,f,e,n,l⟩:=h;obtain⟨o',c,b⟩:=d _ e;cases o' with
 | row=>exact b.elim
 | box p q cs'=>obtain⟨rfl,rfl⟩:=b;exact⟨_,_,_,f,c,n,l.mono m⟩
theorem bq {F F':aA}{L L':Loc}(l:F.le F') {c:C}{v:Value}(p:∀k,(∃off,c=.own k off)\/c=.rw k\/c=.mpr k\/(∃m t off,c=.ifo m t k off)\/(∃j off,c=.elr k j off)->∀o,L.get k=some o->∃o',L'.get k=some o'/\Own.like o o') (hc:c.leaf=true) (h:Rel F L c v) (hs:∀k q,c≠.slo k q:=by exact fun _ _ e=>by cases e):Rel F' L' c v:=by
 cases c<;>simp only[C.leaf,Xd] at hc
 case slo=>exact xo rfl (hs _ _)
 case slp=>exact h.elim
 case rw k =>
  simp only[Rel] at h ⊢;obtain⟨a,c,t,sz,n,xs,rfl,h⟩:=h;obtain⟨o',f,d⟩:=p k (.inr (.inl rfl)) _ h;cases o' with
  | box=>exact d.elim
  | row v' r s n' y=>obtain⟨rfl,rfl,rfl⟩:=d;exact⟨_,_,_,_,_,_,rfl,f⟩
 case mpr k =>
  simp only[Rel] at h ⊢;obtain⟨g,cs,h,rfl⟩:=h;obtain⟨o',f,d⟩:=p k (.inr (.inr (.inl rfl))) _ h;cases o' with
  | row=>exact d.elim
  | box g' r cs'=>obtain⟨rfl,rfl⟩:=d;exact⟨_,_,f,rfl⟩
 case own k off =>
  simp only[Rel] at h ⊢;obtain⟨g,t,cs,h,rfl⟩:=h;obtain⟨o',f,d⟩:=p k (.inl ⟨off,rfl⟩) _ h;cases o' with
  | row=>exact d.elim
  | box g' r cs'=>obtain⟨rfl,rfl⟩:=d;exact⟨_,_,_,f,rfl⟩
 case ifo m ti k off =>
  simp only[Rel] at h ⊢;obtain⟨g,t,cs,h,rfl⟩:=h;obtain⟨o',f,d⟩:=p k (.inr (.inr (.inr (.inl ⟨m,ti,off,rfl⟩)))) _ h;cases o' with
  | row=>exact d.elim
  | box g' r cs'=>obtain⟨rfl,rfl⟩:=d;exact⟨_,_,_,f,rfl⟩
 case elr k j off =>
  simp only[Rel] at h ⊢;obtain⟨ad,t,sz,n,c,xs,rfl,h⟩:=h;obtain⟨o',f,d⟩:=p k (.inr (.inr (.inr (.inr ⟨j,off,rfl⟩)))) _ h;cases o' with
  | box=>exact d.elim
  | row v' r s n' y=>obtain⟨rfl,rfl,rfl⟩:=d;exact⟨_,_,_,_,_,_,rfl,f⟩
 case sl =>
  simp only[Rel] at h ⊢;obtain⟨a,c,f,d,x,w,sz,z⟩:=h;exact⟨a,c,f,d,x,w,sz,z.mono l⟩
 case slx =>
  simp only[Rel] at h ⊢;obtain⟨a,f,d,sz,z⟩:=h;exact⟨a,f,d,sz,z.mono l⟩
 case pt =>
  simp only[Rel] at h ⊢;obtain⟨b,o,vs,f,d,x,w⟩:=h;exact⟨b,o,vs,f,d.mono l,x,w.mono l⟩
 case ifc =>
  simp only[Rel] at h ⊢;obtain⟨u,f,d⟩:=h;exact⟨u,f,d.mono l⟩
 case opq =>
  simp only[Rel] at h ⊢;exact h.mono l
 case mval =>
  simp only[Rel] at h ⊢;obtain⟨u,f,d⟩:=h;exact⟨u,f,d.mono l⟩
 all_goals
  first
   | exact h
   | (simp only[Rel] at h ⊢;done)
mutual
theorem Rel.ext {F F':aA}(hF:F.le F') {L L':Loc}(hk:Ext L L'):∀{c:C}{v:Value},Rel F L c v->Rel F' L' c v
 | .fn f fi ca,v,r=>by
  simp only[Rel] at r ⊢;obtain⟨fi',ca',h1,h2,h3⟩:=r;exact⟨fi',ca',h1,aB.ext hF hk h2,aB.ext hF hk h3⟩
 | .agg cs,v,r=>by
  simp only[Rel] at r ⊢;obtain⟨vs,h1,h2⟩:=r;exact⟨vs,h1,aB.ext hF hk h2⟩
 | .tup cs,v,r=>by
  simp only[Rel] at r ⊢;obtain⟨vs,h1,h2⟩:=r;exact⟨vs,h1,aB.ext hF hk h2⟩
 | .int _ _,v,r=>bq hF (fun k _=>hk k) rfl r
 | .bool _,v,r=>bq hF (fun k _=>hk k) rfl r
 | .str _,v,r=>bq hF (fun k _=>hk k) rfl r
 | .sl _,v,r=>bq hF (fun k _=>hk k) rfl r
 | .slx _,v,r=>bq hF (fun k _=>hk k) rfl r
 | .nils,v,r=>bq hF (fun k _=>hk k) rfl r
 | .rw _,v,r=>bq hF (fun k _=>hk k) rfl r
 | .own _ _,v,r=>bq hF (fun k _=>hk k) rfl r
 | .ifo _ _ _ _,v,r=>bq hF (fun k _=>hk k) rfl r
 | .pt _ _,v,r=>bq hF (fun k _=>hk k) rfl r
 | .nilp,v,r=>bq hF (fun k _=>hk k) rfl r
 | .nilf,v,r=>bq hF (fun k _=>hk k) rfl r
 | .ifc _ _,v,r=>bq hF (fun k _=>hk k) rfl r
 | .opq _,v,r=>bq hF (fun k _=>hk k) rfl r
 | .mval _ _,v,r=>bq hF (fun k _=>hk k) rfl r
 | .mof _ _,v,r=>bq hF (fun k _=>hk k) rfl r
 | .mpr _,v,r=>bq hF (fun k _=>hk k) rfl r
 | .und,v,r=>bq hF (fun k _=>hk k) rfl r
 | .any,v,r=>by simp only[Rel]
 | .ownv _ _,v,r=>r.elim
 | .elr _ _ _,v,r=>bq hF (fun k _=>hk k) rfl r
 | .slo k _,v,r=>qm hF (hk k) r
 | .slp _ _ _,v,r=>r.elim
theorem aB.ext {F F':aA}(hF:F.le F') {L L':Loc}(hk:Ext L L'):∀{cs:List C}{vs:List Value},aB F L cs vs->aB F' L' cs vs
 | [],vs,r=>by simp only[aB] at r ⊢;exact r
 | c::cs,vs,r=>by
  simp only[aB] at r ⊢;obtain⟨v,vs',h1,h2,h3⟩:=r;exact⟨v,vs',h1,Rel.ext hF hk h2,aB.ext hF hk h3⟩
end
theorem Ext.nil (L:Loc):Ext [] L:=fun k o h=>by cases h
theorem aB.lift {F:aA}{L:Loc}{cs:List C}{vs:List Value}(h:aB F [] cs vs):aB F L cs vs:=h.ext (aA.le_refl F) (Ext.nil L)
theorem Rel.lift {F:aA}{L:Loc}{c:C}{v:Value}(h:Rel F [] c v):Rel F L c v:=h.ext (aA.le_refl F) (Ext.nil L)
theorem cK {F F':aA}{L L':Loc}(r:F.le F') {c:C}{sv:SV}(q:∀k,(∃off,c=.own k off)\/(∃off,c=.ownv k off)\/c=.rw k\/(∃j off,c=.elr k j off)\/c=.mpr k\/(∃m t off,c=.ifo m t k off)->∀o,L.get k=some o->∃o',L'.get k=some o'/\Own.like o o') (hc:c.leaf=true) (h:aN F L c sv) (u:(∀k a,c≠.slo k a)/\(∀k a j,c≠.slp k a j):=by exact⟨fun _ _ e=>(by cases e),fun _ _ _ e=>(by cases e)⟩):aN F' L' c sv:=by
 cases c<;>simp only[C.leaf,Xd] at hc
 case slo=>exact xo rfl (u.1 _ _)
 case slp=>exact xo rfl (u.2 _ _ _)
 case own k off =>
  simp only[aN] at h ⊢;obtain⟨rfl,g,t,cs,h⟩:=h;obtain⟨o',p,f⟩:=q k (.inl ⟨off,rfl⟩) _ h;cases o' with
  | row=>exact f.elim
  | box g' t' cs'=>exact⟨rfl,_,_,_,p⟩
 case ownv k off =>
  simp only[aN] at h ⊢;obtain⟨v,hv,h⟩:=h;refine⟨v,hv,bq r (fun s d=>q s ?_) rfl h⟩;rcases d with⟨l,e⟩ | e | e | ⟨_,_,_,e⟩ | ⟨_,_,e⟩
  ·injection e with e1 e2;subst e1;exact .inr (.inl ⟨off,rfl⟩)
  ·cases e
  ·cases e
  ·cases e
  ·cases e
 case pt =>
  simp only[aN] at h ⊢;obtain⟨b,o,j,vs,p,f,y,x⟩:=h;exact⟨b,o,j,vs,p,f.mono r,y,x.mono r⟩
 case elr k j off =>
  simp only[aN] at h ⊢;obtain⟨ad,t,sz,n,c,xs,rfl,h⟩:=h;obtain⟨o',p,f⟩:=q k (.inr (.inr (.inr (.inl ⟨_,_,rfl⟩)))) _ h;cases o' with
  | box=>exact f.elim
  | row v' t' w n' z =>
   obtain⟨rfl,rfl,rfl⟩:=f;exact⟨_,_,_,_,_,_,rfl,p⟩
 all_goals first | (simp only[aN];done) | skip
 all_goals
  simp only[aN] at h ⊢;obtain⟨v,rfl,h⟩:=h;refine⟨v,rfl,bq r (fun s d=>q s ?_) rfl h⟩;rcases d with⟨l,e⟩ | e | e | ⟨_,_,_,e⟩ | ⟨_,_,e⟩
  ·cases e
  ·first | cases e;exact .inr (.inr (.inl rfl)) | cases e
  ·first | cases e;exact .inr (.inr (.inr (.inr (.inl rfl)))) | cases e
  ·first | cases e;exact .inr (.inr (.inr (.inr (.inr ⟨_,_,_,rfl⟩)))) | cases e
  ·cases e
theorem aN.ext {F F':aA}{L L':Loc}(f:F.le F') (b:Ext L L') {c:C}{sv:SV}(h:aN F L c sv):aN F' L' c sv:=by
 cases m:c.leaf
 ·have n:∃v,sv=.v v/\Rel F L c v:=by cases c<;>simp only[C.leaf,Bool.true_eq_false] at m<;>exact h
  obtain⟨v,rfl,d⟩:=n;have l:=d.ext f b;cases c<;>simp only[C.leaf,Bool.true_eq_false] at m<;>exact⟨v,rfl,l⟩
 ·by_cases d:∃k a,c=.slo k a
  ·obtain⟨k,a,rfl⟩:=d;exact rZ f (b k) h
  ·by_cases l:∃k a j,c=.slp k a j
   ·obtain⟨k,a,j,rfl⟩:=l;exact GL f (b k) h
   ·exact cK f (fun k _=>b k) m h ⟨fun k a e=>d ⟨k,a,e⟩,fun k a j e=>l ⟨k,a,j,e⟩⟩
theorem cN.ext {F F':aA}{L L':Loc}(a:F.le F') (b:Ext L L'):∀{o:TO}{p:Own},cN F L o p->cN F' L' o p
 | .box t cs,.box g c vs,r=>⟨r.1,r.2.ext a b⟩
 | .row t sz els,.row v c d n xs,r=>⟨r.1,r.2.1,r.2.2.1,r.2.2.2.1,r.2.2.2.2.mono a⟩
 | .box _ _,.row ..,r=>r.elim
 | .row ..,.box ..,r=>r.elim
 | .map _,.row ..,r=>r.elim
 | .map es,.box g c vs,r=>⟨r.1,r.2.mono a⟩
 | .win ..,.row ..,r=>r.elim
 | .win ..,.box ..,⟨j,v1,l,v3,e,f,k,h⟩=>⟨j,v1,l,v3,e,f.mono a,k.ext a b,h.mono a⟩
end Go.Fr.T
