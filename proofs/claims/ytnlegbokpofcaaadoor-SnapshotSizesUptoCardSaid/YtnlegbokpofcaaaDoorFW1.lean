/- Part of the proofs of the statements of this seat. -/
import Derived.Test.YtnlegbokpofcaaaDoorFW0
import Derived.Scope
set_option maxRecDepth 10000
set_option linter.unusedVariables false
set_option linter.unusedSimpArgs false
namespace Go.Fr
open Go Go.RowKit
def bC:dU->List X
 | .mov x | .nilck x | .mkmv _ x | .conv _ x | .un _ x | .eqN _ x | .fieldA _ x | .fieldV _ _ _ x | .extr x _ | .len x | .lenS x | .capa x | .loadD _ _ x | .boxD _ x | .b2sD x | .b2sR x | .loadK _ _ _ x | .loadF _ _ x | .loadR _ _ x | .mlen x | .makeSV _ _ _ _ x=>[x]
 | .mlook _ _ _ x i=>[x,i]
 | .pick c a b=>[c,a,b]
 | .bin _ x y | .eqB _ x y | .eqP _ x y | .eqS _ x y | .eqF _ x y | .eqA _ _ x y | .idxA _ x y | .idxS x y=>[x,y]
 | .build _ ps=>ps.map (·.2.2)
 | .mkfn _ a b=>a++b
 | .slc _ x lo hi | .slcS x lo hi=>x::(lo.toList++hi.toList)
 | .mm _ l | .mkFD _ _ _ l=>l
 | .callD _ l=>l
 | .callVD f l=>f::l
 | .allocD _ _=>[]
 | .appD _ _ _ _ s x=>[s,x]
 | .storeD _ a x=>[a,x]
 | .storeK _ _ a x=>[a,x]
 | _=>[]
def cT:dU->Bool
 | .mov _ | .nilck _ | .mkmv _ _ | .conv _ _ | .un _ _ | .fieldA _ _ | .fieldV _ _ _ _ | .extr _ _ | .len _ | .lenS _ | .capa _ | .loadD _ _ _ | .pick _ _ _
 | .bin _ _ _ | .eqB _ _ _ | .eqP _ _ _ | .eqS _ _ _ | .eqF _ _ _ | .eqN _ _ | .eqA _ _ _ _ | .idxA _ _ _ | .idxS _ _ | .build _ _ | .mkfn _ _ _ | .slc _ _ _ _ | .slcS _ _ _ | .mm _ _ | .b2sD _ | .b2sR _ | .loadK _ _ _ _ | .loadF _ _ _ | .gload _ | .loadR _ _ _ | .mlook _ _ _ _ _ | .mlen _=>true
 | _=>false
def Gn:dU->Bool
 | .b2sR _ | .loadR _ _ _ | .mlook _ _ _ _ _ | .mlen _=>true
 | _=>false
def gK:dU->Bool
 | .callD _ _ | .callVD _ _=>true
 | _=>false
def ep:dU->Bool
 | .mkFD _ _ _ _ | .boxD _ _ | .allocD _ _ | .makeSD _ _ _ _ | .makeSV _ _ _ _ _=>true
 | _=>false
def oM:dU->Bool
 | .appD _ _ _ _ _ _=>true
 | _=>false
def ic:dU->Bool
 | .storeD _ _ _=>true
 | .storeK _ _ _ _=>true
 | _=>false
def AR:dU->Bool
 | .mov _ | .nilck _ | .mkmv _ _ | .conv _ _ | .un _ _ | .fieldA _ _ | .fieldV _ _ _ _ | .extr _ _ | .len _ | .lenS _ | .capa _ | .pick _ _ _
 | .bin _ _ _ | .eqB _ _ _ | .eqP _ _ _ | .eqS _ _ _ | .eqF _ _ _ | .eqN _ _ | .eqA _ _ _ _ | .idxA _ _ _ | .idxS _ _ | .slc _ _ _ _ | .slcS _ _ _ | .mm _ _=>true
 | _=>false
theorem AU {o:dU}(h:AR o=true):cT o=true:=by cases o<;>first | rfl | cases h
theorem yq {o:dU}(h:AR o=true) {F F':aA}{L L':Loc}{ρ:Env}{V:SV->Prop}(a:aI o F L ρ V):aI o F' L' ρ V:=by
 cases o<;>first | (cases h;done) | exact a
def drawn:dU->Option dU
 | .load a n x=>some (.loadD a n x)
 | .call f l=>some (.callD f l)
 | .callV f l=>some (.callVD f l)
 | .box t x=>some (.boxD t x)
 | .alloc t z=>some (.allocD t z)
 | .mkF e n sz l=>some (.mkFD e n sz l)
 | .app e sz b z s x=>some (.appD e sz b z s x)
 | .store n a x=>some (.storeD n a x)
 | .b2s x=>some (.b2sD x)
 | .boxD _ _ | .allocD _ _ | .mkFD _ _ _ _ | .callD _ _ | .callVD _ _ | .loadD _ _ _ | .appD _ _ _ _ _ _ | .storeD _ _ _ | .boxF _ _ | .callO _ _ | .callVO _ _ | .appX _ _ _ _ _ _ | .b2sD _ | .b2sR _ | .makeSD _ _ _ _ | .makeSV _ _ _ _ _ | .loadK _ _ _ _ | .storeK _ _ _ _ | .copyX _ _ _ _ | .storeX _ _ _ | .look _ _ | .makeS _ _ _ _ _ _ | .loadF _ _ _ | .loadR _ _ _ | .mkmap | .mupd _ _ _ _ | .mrange _ | .mnext _ | .mentry _=>none
 | o=>some o
def zo:X->Option Int
 | .c (.int _ n)=>some n
 | _=>none
def MT (b:Nat) (n m:Int):Bool:=Nat.ble (n.toNat*b) 140737488355328&&Nat.ble n.toNat 9223372036854775807&&(match n,m with | .ofNat a,.ofNat b=>Nat.beq a b | _,_=>false)
def mZ (bx:List Nat):dU->Option dU
 | .makeS e sz b zs l c=>match zo l,zo c with
  | some n,some m=>match MT b n m with
   | true=>some (.makeSD e sz n.toNat zs)
   | false=>none
  | _,_=>match l,c with
   | .t i,.t j=>match Nat.beq i j with
    | true=>some (.makeSV e sz b zs (.t i))
    | false=>none
   | _,_=>none
 | .mkR e 0 sz []=>some (.makeSD e sz 0 (List.replicate sz undef))
 | .load a n (.t i)=>match fw bx i with | true=>some (.loadK i a n (.t i)) | false=>some (.loadD a n (.t i))
 | .store n (.t i) x=>match fw bx i with | true=>some (.storeK i n (.t i) x) | false=>some (.storeD n (.t i) x)
 | o=>drawn o
def LZ:List (Nat×Nat)->Nat->Option Nat
 | [],_=>none
 | (i,k)::l,j=>match Nat.beq i j with | true=>some k | false=>LZ l j
def s5 (fl:List Nat) (bk:List (Nat×Nat)) (bx:List Nat):dU->Option dU
 | .load a n (.t i)=>match fw fl i with
  | true=>some (.loadF a n (.t i))
  | false=>match LZ bk i with
   | some key=>match Nat.beq key 999999 with
    | true=>some (.loadR a n (.t i))
    | false=>some (.loadK key a n (.t i))
   | none=>mZ bx (.load a n (.t i))
 | .b2s (.t i)=>match fw fl i with
  | true=>some (.b2sR (.t i))
  | false=>mZ bx (.b2s (.t i))
 | o=>mZ bx o
def vG:dU->Option dU
 | .call f l=>some (.callO f l)
 | .callV f l=>some (.callVO f l)
 | .app e sz b z s x=>some (.appX e sz b z s x)
 | .copy e sz a b=>some (.copyX e sz a b)
 | .store n a x=>some (.storeX n a x)
 | .mupd str x i v=>some (.mupd str x i v)
 | _=>none
section
variable {P:Program}{F:aA}{L:Loc}{ρ:Env}{K:cF}
theorem cu {o:dU}(h:cT o=true) (d:Option Nat):evalOp P o d F L ρ K=aI o F L ρ fun v=>K F L (put d v ρ):=by
 cases o<;>first | rfl | cases h
structure One (T:(SV->Prop)->Prop):Prop where
 ex:∀V,T V->∃v,T (fun u=>u=v)/\V v
 mono:∀V V':SV->Prop,(∀v,V v->V' v)->T V->T V'
theorem One.ret (v:SV):One fun V=>V v:=⟨fun V h=>⟨v,rfl,h⟩,fun V V' h k=>h v k⟩
theorem One.no:One fun _=>False:=⟨fun V h=>h.elim,fun V V' h k=>k⟩
theorem One.and {p:Prop}{T:(SV->Prop)->Prop}(h:One T):One fun V=>p/\T V :=
 ⟨fun V ⟨b,a⟩=>let⟨v,h1,h2⟩:=h.ex V a;⟨v,⟨b,h1⟩,h2⟩,fun V V' c ⟨b,a⟩=>⟨b,h.mono V V' c a⟩⟩
theorem One.fit {k:IntKind}{n:Int}{T:Int->(SV->Prop)->Prop}(h:∀m,One (T m)):One fun V=>Fit k n fun m=>T m V :=
 ⟨fun V ⟨a⟩=>let⟨v,h1,h2⟩:=(h _).ex V a;⟨v,⟨h1⟩,h2⟩,fun V V' b ⟨a⟩=>⟨(h _).mono V V' b a⟩⟩
theorem One.nz {n:Int}{T:(SV->Prop)->Prop}(h:One T):One fun V=>mW n (T V) :=
 ⟨fun V ⟨b,a⟩=>let⟨v,h1,h2⟩:=h.ex V a;⟨v,⟨b,h1⟩,h2⟩,fun V V' c ⟨b,a⟩=>⟨b,h.mono V V' c a⟩⟩
theorem One.inb {i n:Int}{T:(SV->Prop)->Prop}(h:One T):One fun V=>Mv i n (T V) :=
 ⟨fun V ⟨b,c,a⟩=>let⟨v,h1,h2⟩:=h.ex V a;⟨v,⟨b,c,h1⟩,h2⟩,fun V V' d ⟨b,c,a⟩=>⟨b,c,h.mono V V' d a⟩⟩
theorem One.idx {a:Option Addr}{i n:Int}{T:(SV->Prop)->Prop}(h:One T):One fun V=>Dg a i n (T V) :=
 ⟨fun V ⟨c,e,d,b⟩=>let⟨v,h1,h2⟩:=h.ex V b;⟨v,⟨c,e,d,h1⟩,h2⟩,fun V V' f ⟨c,e,d,b⟩=>⟨c,e,d,h.mono V V' f b⟩⟩
theorem One.slc {l h:Int}{c:Nat}{T:Nat->Nat->(SV->Prop)->Prop}(f:∀l h,One (T l h)):One fun V=>mO l h c fun l h=>T l h V :=
 ⟨fun V ⟨b,e,d,a⟩=>let⟨v,h1,h2⟩:=(f _ _).ex V a;⟨v,⟨b,e,d,h1⟩,h2⟩,fun V V' j ⟨b,e,d,a⟩=>⟨b,e,d,(f _ _).mono V V' j a⟩⟩
theorem One.loadD {a:Option Addr}{j n:Nat}{T:List Value->(SV->Prop)->Prop}(h:∀cs,One (T cs)):One fun V=>hU F a j n fun cs=>T cs V :=
 ⟨fun V ⟨cs,c,d,b⟩=>let⟨v,h1,h2⟩:=(h _).ex V b;⟨v,⟨cs,c,d,h1⟩,h2⟩,fun V V' e ⟨cs,c,d,b⟩=>⟨cs,c,d,(h _).mono V V' e b⟩⟩
theorem One.W4 {a:Option Addr}{j n:Nat}{T:List Value->(SV->Prop)->Prop}(h:∀cs,One (T cs)):One fun V=>jf F L a j n fun cs=>T cs V :=
 ⟨fun V ⟨cs,c,d,b⟩=>let⟨v,h1,h2⟩:=(h _).ex V b;⟨v,⟨cs,c,d,h1⟩,h2⟩,fun V V' e ⟨cs,c,d,b⟩=>⟨cs,c,d,(h _).mono V V' e b⟩⟩
theorem One.W7 {g:Nat}{T:Nat->List Value->(SV->Prop)->Prop}(h:∀k cs,One (T k cs)):One fun V=>AB L g fun k cs=>T k cs V :=
 ⟨fun V ⟨k,cs,b,c,a⟩=>let⟨v,h1,h2⟩:=(h _ _).ex V a;⟨v,⟨k,cs,b,c,h1⟩,h2⟩,fun V V' d ⟨k,cs,b,c,a⟩=>⟨k,cs,b,c,(h _ _).mono V V' d a⟩⟩
theorem One.mlk {str:Bool}{cs:List Value}{key:Value}{ok:Bool}{z:Value}:One fun V=>Di str cs key ok z fun v=>V (.v v) :=
 ⟨fun V h=>by
  rcases h.out with⟨i,v,a,b⟩ | ⟨a,b⟩
  ·exact⟨_,⟨.inl ⟨i,v,a,rfl⟩⟩,b⟩
  ·exact⟨_,⟨.inr ⟨a,rfl⟩⟩,b⟩,fun V V' c h=>⟨h.out.imp (fun⟨i,v,a,b⟩=>⟨i,v,a,c _ b⟩) fun⟨a,b⟩=>⟨a,c _ b⟩⟩⟩
theorem One.gl {g:Nat}{T:Value->(SV->Prop)->Prop}(h:∀v,One (T v)):One fun V=>Oy F g fun v=>T v V :=
 ⟨fun V ⟨u,t,c,b,a⟩=>let⟨v,h1,h2⟩:=(h _).ex V a;⟨v,⟨u,t,c,b,h1⟩,h2⟩,fun V V' d ⟨u,t,c,b,a⟩=>⟨u,t,c,b,(h _).mono V V' d a⟩⟩
theorem One.bytes {cs:List Value}{T:List UInt8->(SV->Prop)->Prop}(h:∀bs,One (T bs)):One fun V=>zl cs fun bs=>T bs V :=
 ⟨fun V ⟨bs,b,a⟩=>let⟨v,h1,h2⟩:=(h _).ex V a;⟨v,⟨bs,b,h1⟩,h2⟩,fun V V' c ⟨bs,b,a⟩=>⟨bs,b,(h _).mono V V' c a⟩⟩
theorem One.binI {op:BinOp}{k:IntKind}{a b:Int}:One fun V=>binI op k a b fun v=>V (.v v):=by
 cases op<;>simp only[Fr.binI]<;>first
  | exact One.no
  | exact One.ret _
  | exact One.fit fun _=>One.ret _
  | exact One.nz (One.fit fun _=>One.ret _)
  | exact One.nz (One.ret _)
theorem One.shI {op:BinOp}{k:IntKind}{a b:Int}:One fun V=>shI op k a b fun v=>V (.v v):=by
 cases op<;>simp only[Fr.shI]<;>first
  | exact One.no
  | exact One.and (One.fit fun _=>One.ret _)
  | exact One.and (One.ret _)
theorem One.binS {op:BinOp}{a b:ByteArray}:One fun V=>binS op a b fun v=>V (.v v):=by
 cases op<;>simp only[Fr.binS]<;>first
  | exact One.no
  | exact One.ret _
  | exact One.and (One.ret _)
theorem fk {o:dU}(h:cT o=true):One (aI o F L ρ):=by
 cases o<;>first | (cases h;done) | skip
 case b2sR x =>
  show One fun V=>aI _ F L ρ V;simp only[aI];cases e:ev ρ x with
  | own k off=>exact One.no
  | el a j=>exact One.no
  | v x =>
   cases x<;>try exact One.no
   exact⟨fun V ⟨k,t,c,bs,w,z,h3,h4⟩=>⟨_,⟨k,t,c,bs,w,z,h3,rfl⟩,h4⟩,fun V V' hv ⟨k,t,c,bs,w,z,h3,h4⟩=>⟨k,t,c,bs,w,z,h3,hv _ h4⟩⟩
 case mov x=>exact One.ret _
 case pick c a b =>
  show One fun V=>aI _ F L ρ V;simp only[aI];cases e:ev ρ c with
  | v x =>
    cases x<;>try exact One.no
    rename_i b;cases b<;>exact One.ret _
  | own k off=>exact One.no
  | el a j=>exact One.no
 case build zs ps =>
  show One fun V=>aI _ F L ρ V;simp only[aI];cases e:built L ρ zs ps with
  | none=>exact One.no
  | some cs=>exact One.ret _
 case loadD ag n x =>
  show One fun V=>aI _ F L ρ V;simp only[aI];cases e:ev ρ x with
  | own k off =>
   simp only[];cases m:L.get k with
   | none=>exact One.no
   | some p =>
    cases p with
    | row=>exact One.no
    | box g t cs =>
     simp only[];cases e3:iC t ((cs.drop off).take n) n
     ·exact One.no
     ·exact One.ret _
  | el a j=>exact One.loadD fun _=>One.ret _
  | v x =>
   cases x<;>try exact One.no
   rename_i a;cases a
   ·exact One.no
   ·exact One.loadD fun _=>One.ret _
 case gload g =>
  show One fun V=>aI _ F L ρ V;simp only[aI];exact One.gl fun _=>One.ret _
 case loadR ag n x =>
  show One fun V=>aI _ F L ρ V;simp only[aI];cases e:ev ρ x with
  | own k off =>
   simp only[];cases m:L.get k with
   | none=>exact One.no
   | some p =>
    cases p with
    | row=>exact One.no
    | box g t cs =>
     simp only[];cases e3:iC t ((cs.drop off).take n) n
     ·exact One.no
     ·exact One.ret _
  | el a j=>exact One.W4 fun _=>One.ret _
  | v x =>
   cases x<;>try exact One.no
   rename_i a;cases a
   ·exact One.no
   ·exact One.W4 fun _=>One.ret _
 case mlook str ok z0 x i =>
  show One fun V=>aI _ F L ρ V;simp only[aI];cases e:ev ρ x with
  | own k off=>exact One.no
  | el a j=>exact One.no
  | v x =>
   cases x<;>try exact One.no
   rename_i a;cases a
   ·exact One.no
   ·exact One.W7 fun k cs=>One.mlk
 case mlen x =>
  show One fun V=>aI _ F L ρ V;simp only[aI];cases e:ev ρ x with
  | own k off=>exact One.no
  | el a j=>exact One.no
  | v x =>
   cases x<;>try exact One.no
   rename_i a;cases a
   ·exact One.no
   ·exact One.W7 fun k cs=>One.ret _
 case loadF ag n x =>
  show One fun V=>aI _ F L ρ V;simp only[aI];cases e:ev ρ x with
  | own k off=>exact One.no
  | el a j=>exact One.loadD fun _=>One.ret _
  | v x =>
   cases x<;>try exact One.no
   rename_i a;cases a
   ·exact One.no
   ·exact One.loadD fun _=>One.ret _
 case loadK key ag n x =>
  show One fun V=>aI _ F L ρ V;simp only[aI];cases e:ev ρ x with
  | own k off =>
   simp only[];cases e1:Nat.beq k key with
   | false=>exact One.no
   | true =>
    simp only[];cases m:L.get k with
    | none=>exact One.no
    | some p =>
     cases p with
     | row=>exact One.no
     | box g t cs =>
      simp only[];cases e3:iC t ((cs.drop off).take n) n
      ·exact One.no
      ·exact One.ret _
  | el a j=>exact One.no
  | v x=>exact One.no
 case b2sD x =>
  show One fun V=>aI _ F L ρ V;simp only[aI];cases e:ev ρ x with
  | own k off=>exact One.no
  | el a j=>exact One.no
  | v x =>
   cases x<;>try exact One.no
   exact One.loadD fun _=>One.bytes fun _=>One.ret _
 case nilck x =>
  show One fun V=>aI _ F L ρ V;simp only[aI];cases e:ev ρ x with
  | own k off=>exact One.ret _
  | el a j=>exact One.and (One.ret _)
  | v x =>
   cases x<;>try exact One.no
   ·rename_i a;cases a
    ·exact One.no
    ·exact One.ret _
   ·rename_i f a b;cases f<;>first
     | exact One.no
     | exact One.ret _
     | (simp only[]
        split
        ·exact One.and (One.ret _)
        ·exact One.no)
 case mkmv nm x =>
  show One fun V=>aI _ F L ρ V;simp only[aI];cases e:ev ρ x with
  | own k off=>exact One.no
  | el a j=>exact One.no
  | v x=>exact One.ret _
 case bin op x y =>
  show One fun V=>aI _ F L ρ V;simp only[aI];cases e:ev ρ x with
  | own k off=>exact One.no
  | el a j=>exact One.no
  | v u =>
   cases m:ev ρ y with
   | own k off=>cases u<;>exact One.no
   | el a j=>cases u<;>exact One.no
   | v d =>
    cases u<;>cases d<;>try exact One.no
    ·simp only[];cases FV op
     ·simp only[];rename_i k n k' n';cases pq k k'
      ·exact One.no
      ·exact One.binI
     ·exact One.shI
    ·exact One.binS
 case eqB ng x y =>
  show One fun V=>aI _ F L ρ V;simp only[aI];cases e:ev ρ x with
  | own k off=>exact One.no
  | el a j=>exact One.no
  | v u =>
   cases m:ev ρ y with
   | own k off=>cases u<;>exact One.no
   | el a j=>cases u<;>exact One.no
   | v d=>cases u<;>cases d<;>first | exact One.no | exact One.ret _
 case eqP ng x y =>
  show One fun V=>aI _ F L ρ V;simp only[aI];cases e:ev ρ x with
  | own k off =>
   cases m:ev ρ y with
   | own k off=>exact One.no
   | el a j=>exact One.no
   | v d =>
    cases d<;>try exact One.no
    rename_i p;cases p<;>first | exact One.no | exact One.ret _
  | el a j =>
   cases m:ev ρ y with
   | own k off=>cases a<;>exact One.no
   | el b i=>cases a<;>exact One.no
   | v d =>
    cases a<;>cases d<;>try exact One.no
    rename_i p;cases p<;>first | exact One.no | exact One.ret _
  | v u =>
   cases m:ev ρ y with
   | own k off=>cases u<;>exact One.no
   | el a j=>cases u<;>exact One.no
   | v d =>
    cases u<;>cases d<;>try exact One.no
    rename_i p q;cases q<;>first | exact One.no | exact One.ret _
 case eqS ng x y =>
  show One fun V=>aI _ F L ρ V;simp only[aI];cases e:ev ρ x with
  | own k off=>exact One.no
  | el a j=>exact One.no
  | v u =>
   cases m:ev ρ y with
   | own k off=>cases u<;>exact One.no
   | el a j=>cases u<;>exact One.no
   | v d =>
    cases u<;>cases d<;>try exact One.no
    rename_i a1 l1 c1 a2 l2 c2;cases a2<;>first | exact One.no | exact One.ret _
 case eqF ng x y =>
  show One fun V=>aI _ F L ρ V;simp only[aI];cases e:ev ρ x with
  | own k off=>exact One.no
  | el a j=>exact One.no
  | v u =>
   cases m:ev ρ y with
   | own k off=>cases u<;>exact One.no
   | el a j=>cases u<;>exact One.no
   | v d=>cases u<;>cases d<;>first | exact One.no | exact One.ret _
 case eqN ng x =>
  show One fun V=>aI _ F L ρ V;simp only[aI];cases e:ev ρ x with
  | own k off=>exact One.no
  | el a j=>exact One.no
  | v u=>cases u<;>first | exact One.no | exact One.ret _
 case eqA ng ks x y =>
  show One fun V=>aI _ F L ρ V;simp only[aI];cases e:ev ρ x with
  | own k off=>exact One.no
  | el a j=>exact One.no
  | v u =>
   cases m:ev ρ y with
   | own k off=>cases u<;>exact One.no
   | el a j=>cases u<;>exact One.no
   | v d =>
    cases u<;>cases d<;>try exact One.no
    rename_i cs ds;simp only[];cases iD ks cs.toList ds.toList true<;>first | exact One.no | exact One.ret _
 case un op x =>
  show One fun V=>aI _ F L ρ V;simp only[aI];cases op<;>cases e:ev ρ x<;>first
   | exact One.no
   | (rename_i u;cases u<;>first | exact One.no | exact One.ret _ | exact One.fit fun _=>One.ret _)
 case conv k x =>
  show One fun V=>aI _ F L ρ V;simp only[aI];cases e:ev ρ x<;>first
   | exact One.no
   | (rename_i u;cases u<;>first | exact One.no | exact One.fit fun _=>One.ret _)
 case mkfn f a b=>exact One.ret _
 case slc sz x lo hi =>
  show One fun V=>aI _ F L ρ V;simp only[aI];cases e:ev ρ x<;>try exact One.no
  rename_i u;cases u<;>try exact One.no
  rename_i a n c;simp only[];cases iY ρ 0 lo<;>cases iY ρ n hi<;>first | exact One.no | exact One.slc fun _ _=>One.ret _
 case slcS x lo hi =>
  show One fun V=>aI _ F L ρ V;simp only[aI];cases e:ev ρ x<;>try exact One.no
  rename_i u;cases u<;>try exact One.no
  rename_i s;simp only[];cases iY ρ 0 lo<;>cases iY ρ s.size hi<;>first | exact One.no | exact One.slc fun _ _=>One.ret _
 case fieldA off x =>
  show One fun V=>aI _ F L ρ V;simp only[aI];cases e:ev ρ x with
  | own k off=>exact One.ret _
  | el a j=>exact One.ret _
  | v u =>
   cases u<;>try exact One.no
   rename_i p;cases p<;>first | exact One.no | exact One.ret _
 case fieldV ag off n x =>
  show One fun V=>aI _ F L ρ V;simp only[aI];cases e:ev ρ x<;>try exact One.no
  rename_i u;cases u<;>try exact One.no
  rename_i cs;simp only[];cases eW ((cs.toList.drop off).take n) n<;>first | exact One.no | exact One.ret _
 case idxA sz x i =>
  show One fun V=>aI _ F L ρ V;simp only[aI];cases e:ev ρ x with
  | own k off=>exact One.no
  | el a j=>exact One.no
  | v u =>
   cases m:ev ρ i with
   | own k off=>cases u<;>exact One.no
   | el a j=>cases u<;>exact One.no
   | v d=>cases u<;>cases d<;>first | exact One.no | exact One.idx (One.ret _)
 case idxS x i =>
  show One fun V=>aI _ F L ρ V;simp only[aI];cases e:ev ρ x with
  | own k off=>exact One.no
  | el a j=>exact One.no
  | v u =>
   cases m:ev ρ i with
   | own k off=>cases u<;>exact One.no
   | el a j=>cases u<;>exact One.no
   | v d=>cases u<;>cases d<;>first | exact One.no | exact One.inb (One.ret _)
 case extr x i =>
  show One fun V=>aI _ F L ρ V;simp only[aI];cases e:ev ρ x<;>try exact One.no
  rename_i u;cases u<;>try exact One.no
  rename_i vs;simp only[];cases vs.toList[i]?<;>first | exact One.no | exact One.ret _
 case len x =>
  show One fun V=>aI _ F L ρ V;simp only[aI];cases e:ev ρ x<;>try exact One.no
  rename_i u;cases u<;>first | exact One.no | exact One.ret _
 case lenS x =>
  show One fun V=>aI _ F L ρ V;simp only[aI];cases e:ev ρ x<;>try exact One.no
  rename_i u;cases u<;>first | exact One.no | exact One.ret _
 case capa x =>
  show One fun V=>aI _ F L ρ V;simp only[aI];cases e:ev ρ x<;>try exact One.no
  rename_i u;cases u<;>first | exact One.no | exact One.ret _
 case mm mx l =>
  show One fun V=>aI _ F L ρ V;simp only[aI];cases e:l.map (ev ρ) with
  | nil=>exact One.no
  | cons u r =>
   cases u<;>try exact One.no
   rename_i u;cases u<;>try exact One.no
   rename_i k a0;simp only[];cases LV mx a0 r<;>first | exact One.no | exact One.ret _
end
theorem rj {P:Program}{s s':dU}{d:Option Nat}{F:aA}{L:Loc}{ρ:Env}{K:cF}(h:drawn s=some s') (z:(cT s'||gK s'||ep s'||oM s'||ic s')=true) (aa:gK s'=false) (f:evalOp P s' d F L ρ K):evalOp P s d F L ρ (fun F' L' ρ'=>Real F' L'->K F' L' ρ'):=by
 have load:∀{a:Option Addr}{j n:Nat}{KK KK':List Value->Prop},hU F a j n KK->(∀cs,KK cs->KK' cs)->jf F L a j n KK':=by
  rintro a j n KK KK' ⟨cs,p,q,h3⟩ u;exact⟨cs,p,by rcases q with q | q;exact .inl q;exact .inr (.inr (.inl q)),u _ h3⟩
 have app:∀{e sz b:Nat}{sv xv:Value}{KK KK':Loc->Value->Prop},o8 F L d e sz b sv xv KK->(∀L' v,(Real F L'->KK L' v)->KK' L' v)->Dh F L e sz b sv xv KK':=by
  rintro e sz b sv xv KK KK' ⟨kd,n,xs,m,news,p,⟨ad,c,q,h3,u⟩,h5,h6,h7,h8⟩ hk;refine⟨kd,n,xs,m,news,?_,⟨ad,c,q,h3,?_⟩,h5,h6,h7,fun v hv=>hk _ _ (h8 v hv)⟩
  ·rcases p with p | ⟨_,p⟩ | ⟨_,p⟩
   ·exact .inl p
   ·exact .inr (.inl p)
   ·exact .inr (.inr p)
  ·rcases u with u | u
   ·exact .inl u
   ·exact .inr (.inl u)
 by_cases y:cT s'=true
 ·have r:=y;have p:∀V V':SV->Prop,(∀v,V v->V' v)->aI s' F L ρ V->aI s F L ρ V':=by
   intro V V' hV o;have o:=(fk r).mono V V' hV o;cases s<;>simp only[drawn,xo,reduceCtorEq] at h<;>subst h<;>first
    | exact o
    | (simp only[aI] at o ⊢
       split at o
       ·exact o
       ·exact load o fun _ h=>h
       ·exact load o fun _ h=>h
       ·exact o)
    | (simp only[aI] at o ⊢
       split at o
       ·exact load o fun _ h=>h
       ·exact o)
    | (exfalso;revert y;simp[cT];done)
  rw[cu r] at f;have q:=p _ (fun v=>Real F L->K F L (put d v ρ)) (fun v hv _=>hv) f;cases s<;>simp only[drawn,xo,reduceCtorEq] at h<;>subst h<;>first
   | exact q
   | (exfalso;revert y;simp[cT];done)
 ·by_cases w:ic s'=true
  ·cases s<;>simp only[drawn,xo,reduceCtorEq] at h<;>subst h<;>first | (cases w;done) | skip
   rename_i n a x;have l:(match eW (aG (val L ρ x)) n,iS (aG (val L ρ x)),ev ρ a with
    | true,true,.own k off=>match L.get k with
     | some (.box g t cs)=>match iC t ((cs.drop off).take n) n with
      | true=>K F (L.set k (.box g t (aM cs off (aG (val L ρ x))))) (put d (.v undef) ρ)
      | false=>False
     | _=>False
    | _,_,_=>False):=f
   clear f
   split at l
   case h_2=>exact l.elim
   rename_i e1 e2 e3;split at l
   case h_2=>exact l.elim
   rename_i e4;split at l
   case h_2=>exact l.elim
   rename_i e5;simp only[evalOp,e1,e2,e3,e4,e5];exact fun _=>l
  cases s<;>simp only[drawn,xo,reduceCtorEq] at h<;>subst h<;>first
   | (exfalso;revert y z w;simp[cT,gK,ep,oM,ic];done)
   | (cases aa;done)
   | (simp only[evalOp] at f ⊢
      split at f
      ·exact app f fun _ _ h=>h
      ·exact f)
   | (simp only[evalOp] at f ⊢
      split at f
      ·split at f
       ·exact f
       ·exact f
      ·exact f)
   | (simp only[evalOp] at f ⊢
      split at f
      ·exact fun g F' ab hg hr=>f g F' ab hg hr
      ·exact f)
section
variable {P:Program}{F:aA}{L:Loc}{ρ:Env}{K:cF}
def Alike (o:dU) (L L':Loc) (ρ ρ':Env):Prop:=∀x∈bC o,ev ρ' x=ev ρ x/\∀k off,ev ρ x=.own k off->L'.get k=L.get k
theorem Alike.val {o:dU}{L L':Loc}{ρ ρ':Env}(h:Alike o L L' ρ ρ') {x:X}(d:x∈bC o):Fr.val L' ρ' x=Fr.val L ρ x:=by
 obtain⟨b,c⟩:=h x d;simp only[Fr.val,b];cases e:ev ρ x with
 | v u=>rfl
 | el a j=>rfl
 | own k off=>simp only[conc,c k off e]
theorem dm {L L':Loc}{ρ ρ':Env}:∀{xs:List X},(∀x∈xs,Fr.val L' ρ' x=Fr.val L ρ x)->bf L' ρ' xs=bf L ρ xs
 | [],_=>rfl
 | x::xs,h=>by simp only[bf,h x (by simp),dm (xs:=xs) (fun y a=>h y (XE _ a))]
theorem cA {L L':Loc}{ρ ρ':Env}:∀{xs:List X},(∀x∈xs,Fr.val L' ρ' x=Fr.val L ρ x)->cellsOf L' ρ' xs=cellsOf L ρ xs
 | [],_=>rfl
 | x::xs,h=>by simp only[cellsOf,h x (by simp),cA (xs:=xs) (fun y a=>h y (XE _ a))]
theorem mQ {L L':Loc}{ρ ρ':Env}{sz:Nat}:∀{xs:List X},(∀x∈xs,Fr.val L' ρ' x=Fr.val L ρ x)->eY L' ρ' sz xs=eY L ρ sz xs
 | [],_=>rfl
 | x::xs,h=>by simp only[eY,h x (by simp),mQ (xs:=xs) (fun y a=>h y (XE _ a))]
theorem pG {L L':Loc}{ρ ρ':Env}:∀{ps:List (Nat×Nat×X)}{zs:List Value},(∀p∈ps,Fr.val L' ρ' p.2.2=Fr.val L ρ p.2.2)->built L' ρ' zs ps=built L ρ zs ps
 | [],zs,_=>rfl
 | (off,n,x)::ps,zs,h=>by
  have a:=h (off,n,x) (by simp);simp only at a;simp only[built,a];split
  ·exact pG (fun p b=>h p (by simp[b]))
  ·rfl
theorem hU.up {F F':aA}(e:F.le F') {a:Option Addr}{j n:Nat}{K:List Value->Prop}(h:hU F a j n K):hU F' a j n K:=by
 obtain⟨cs,c,b,d⟩:=h;exact⟨cs,c,by rcases b with b | b;exact .inl (b.mono e);exact .inr b,d⟩
theorem jf.upF {F F':aA}(e:F.le F') {L:Loc}{a:Option Addr}{j n:Nat}{K:List Value->Prop}(h:jf F L a j n K):jf F' L a j n K:=by
 obtain⟨cs,c,b,d⟩:=h;exact⟨cs,c,by rcases b with b | b;exact .inl (b.mono e);exact .inr b,d⟩
theorem nY {ρ ρ':Env}{d:Int}{x:Option X}(h:∀y∈x.toList,ev ρ' y=ev ρ y):iY ρ' d x=iY ρ d x:=by
 cases x with
 | none=>rfl
 | some y=>simp only[iY,h y (by simp)]
theorem qt {o:dU}(w:cT o=true) {F F':aA}{L L':Loc}{ρ ρ':Env}(s:F.le F') (H:Alike o L L' ρ ρ') {V:SV->Prop}(h:aI o F L ρ V) (m:Gn o=false\/L'=L:=by exact .inr rfl):aI o F' L' ρ' V:=by
 cases o<;>first | (cases w;done) | skip
 case build zs ps =>
  have e:=pG (ps:=ps) (zs:=zs) (L:=L) (L':=L') (ρ:=ρ) (ρ':=ρ') (fun p hp=>H.val (XI.2 ⟨p,hp,rfl⟩));simp only[aI,e] at h ⊢;exact h
 case mkfn f a b =>
  have j:=dm (xs:=a) (L:=L) (L':=L') (ρ:=ρ) (ρ':=ρ') (fun x r=>H.val (yo.2 (.inl r)));have q:=dm (xs:=b) (L:=L) (L':=L') (ρ:=ρ) (ρ':=ρ') (fun x r=>H.val (yo.2 (.inr r)));simp only[aI,j,q] at h ⊢;exact h
 case mm mx l =>
  have e:l.map (ev ρ')=l.map (ev ρ):=X8 fun x r=>(H x r).1;simp only[aI,e] at h ⊢;exact h
 case slc sz x lo hi =>
  have e:=(H x (by simp[bC])).1;have j:∀d,iY ρ' d lo=iY ρ d lo:=fun d=>nY fun y v=>(H y (by simp only[bC];exact XE _ (yo.2 (.inl v)))).1;have q:∀d,iY ρ' d hi=iY ρ d hi:=fun d=>nY fun y v=>(H y (by simp only[bC];exact XE _ (yo.2 (.inr v)))).1;simp only[aI,e,j,q] at h ⊢;exact h
 case slcS x lo hi =>
  have e:=(H x (by simp[bC])).1;have j:∀d,iY ρ' d lo=iY ρ d lo:=fun d=>nY fun y v=>(H y (by simp only[bC];exact XE _ (yo.2 (.inl v)))).1;have q:∀d,iY ρ' d hi=iY ρ d hi:=fun d=>nY fun y v=>(H y (by simp only[bC];exact XE _ (yo.2 (.inr v)))).1;simp only[aI,e,j,q] at h ⊢;exact h
 case loadD ag n x =>
  obtain⟨e,j⟩:=H x (by simp[bC]);simp only[aI,e] at h ⊢;split at h
  ·rename_i k off r;simp only[j k off r];exact h
  ·exact h.up s
  ·exact h.up s
  ·exact h
 case gload g =>
  simp only[aI] at h ⊢;obtain⟨u,t,fr,z,h2⟩:=h;exact⟨u,t,fr,s _ _ z,h2⟩
 case loadR ag n x =>
  obtain⟨e,j⟩:=H x (by simp[bC]);rcases m with m | rfl
  ·cases m
  ·simp only[aI,e] at h ⊢;split at h
   ·exact h
   ·exact h.upF s
   ·exact h.upF s
   ·exact h
 case mlook str ok z0 x i =>
  obtain⟨e,j⟩:=H x (by simp[bC]);have q:val L' ρ' i=val L ρ i:=H.val (by simp[bC]);rcases m with m | rfl
  ·cases m
  ·simp only[aI,e,q] at h ⊢;exact h
 case mlen x =>
  obtain⟨e,j⟩:=H x (by simp[bC]);rcases m with m | rfl
  ·cases m
  ·simp only[aI,e] at h ⊢;exact h
 case loadF ag n x =>
  obtain⟨e,j⟩:=H x (by simp[bC]);simp only[aI,e] at h ⊢;split at h
  ·exact h.up s
  ·exact h.up s
  ·exact h
 case loadK key ag n x =>
  obtain⟨e,j⟩:=H x (by simp[bC]);simp only[aI,e] at h ⊢;split at h
  ·rename_i k off r;simp only[j k off r];exact h
  ·exact h
 case b2sD x =>
  obtain⟨e,j⟩:=H x (by simp[bC]);simp only[aI,e] at h ⊢;split at h
  ·exact h.up s
  ·exact h
 case b2sR x =>
  obtain⟨e,j⟩:=H x (by simp[bC]);rcases m with m | rfl
  ·cases m
  ·simp only[aI,e] at h ⊢;exact h
 case pick c a b =>
  have j:=(H c (by simp[bC])).1;have q:=(H a (by simp[bC])).1;have e3:=(H b (by simp[bC])).1;simp only[aI,j,q,e3] at h ⊢;exact h
 all_goals first
  | (have j:=(H _ (List.mem_cons_self ..)).1
     simp only[aI,j] at h ⊢;exact h)
  | (have j:=(H _ (List.mem_cons_self ..)).1
     have q:=(H _ (XE _ (List.mem_cons_self ..))).1;simp only[aI,j,q] at h ⊢;exact h)
theorem Gp {o:dU}(h:cT o=true) {k off:Nat}(d:aI o F L ρ (fun u=>u=.own k off)):∃x∈bC o,∃f,ev ρ x=.own k f:=by
 cases o<;>first | (cases h;done) | skip
 case mov x=>exact⟨x,by simp[bC],off,d⟩
 case pick c a b =>
  simp only[aI] at d;split at d
  ·exact⟨a,by simp[bC],off,d⟩
  ·exact⟨b,by simp[bC],off,d⟩
  ·exact d.elim
 case nilck x =>
  simp only[aI] at d;split at d
  ·rename_i j f e;injection d with h1 h2
   subst h1;exact⟨x,by simp[bC],f,e⟩
  ·cases d.2
  ·cases d
  ·cases d
  ·split at d
   ·cases d.2
   ·exact d.elim
  ·exact d.elim
 case mkmv nm x =>
  simp only[aI] at d;split at d
  ·cases d
  ·exact d.elim
 case fieldA o' x =>
  simp only[aI] at d;split at d
  ·rename_i j f e;injection d with h1 h2
   subst h1;exact⟨x,by simp[bC],f,e⟩
  ·cases d
  ·cases d
  ·exact d.elim
 case bin op x y =>
  simp only[aI] at d;split at d
  ·split at d
   ·cases op<;>simp only[shI] at d<;>first | exact d.elim | (obtain⟨_,⟨d⟩⟩:=d;cases d;done) | (obtain⟨_,d⟩:=d;cases d;done)
   ·split at d
    ·cases op<;>simp only[binI] at d<;>first | exact d.elim | (cases d;done) | (obtain⟨d⟩:=d;cases d;done) | (obtain⟨_,⟨d⟩⟩:=d;cases d;done) | (obtain⟨_,d⟩:=d;cases d;done)
    ·exact d.elim
  ·cases op<;>simp only[binS] at d<;>first | exact d.elim | (cases d;done) | (obtain⟨_,d⟩:=d;cases d;done)
  ·exact d.elim
 case loadD ag n x =>
  simp only[aI] at d;split at d
  ·split at d
   ·split at d
    ·cases d
    ·exact d.elim
   ·exact d.elim
  ·obtain⟨cs,_,_,d⟩:=d;cases d
  ·obtain⟨cs,_,_,d⟩:=d;cases d
  ·exact d.elim
 case gload g =>
  simp only[aI] at d;obtain⟨u,t,l,_,d⟩:=d;cases d
 case loadR ag n x =>
  simp only[aI] at d;split at d
  ·split at d
   ·split at d
    ·cases d
    ·exact d.elim
   ·exact d.elim
  ·obtain⟨cs,_,_,d⟩:=d;cases d
  ·obtain⟨cs,_,_,d⟩:=d;cases d
  ·exact d.elim
 case mlook str ok z0 x i =>
  simp only[aI] at d;split at d
  ·obtain⟨k,cs,_,_,⟨⟨i,v,_,d⟩ | ⟨_,d⟩⟩⟩:=d<;>cases d
  ·exact d.elim
 case mlen x =>
  simp only[aI] at d;split at d
  ·obtain⟨k,cs,_,_,d⟩:=d;cases d
  ·exact d.elim
 case loadF ag n x =>
  simp only[aI] at d;split at d
  ·obtain⟨cs,_,_,d⟩:=d;cases d
  ·obtain⟨cs,_,_,d⟩:=d;cases d
  ·exact d.elim
 case loadK key ag n x =>
  simp only[aI] at d;split at d
  ·split at d
   ·split at d
    ·split at d
     ·cases d
     ·exact d.elim
    ·exact d.elim
   ·exact d.elim
  ·exact d.elim
 case b2sD x =>
  simp only[aI] at d;split at d
  ·obtain⟨cs,_,_,⟨bs,_,d⟩⟩:=d;cases d
  ·exact d.elim
 case b2sR x =>
  simp only[aI] at d;split at d
  ·obtain⟨_,_,_,bs,_,_,_,d⟩:=d;cases d
  ·exact d.elim
 all_goals
  simp only[aI] at d
  repeat' split at d
 all_goals first
  | exact d.elim
  | (cases d;done)
  | (obtain⟨d⟩:=d;cases d;done)
  | (obtain⟨_,_,d⟩:=d;cases d;done)
  | (obtain⟨_,_,_,d⟩:=d;cases d;done)
end
theorem Jp {P:Program}{s s':dU}{d:Option Nat}{F:aA}{L:Loc}{ρ:Env}{K:cF}(h:vG s=some s') (c:evalOp P s' d F L ρ K):evalOp P s d F L ρ (fun F' L' ρ'=>Real F' L'->K F' L' ρ'):=by
 cases s<;>simp only[vG,xo,reduceCtorEq] at h<;>subst h
 case store n a x =>
  simp only[evalOp] at c ⊢;generalize eW (aG (val L ρ x)) n=z1 at c ⊢;generalize iS (aG (val L ρ x))=z2 at c ⊢;generalize ev ρ a=z3 at c ⊢;split at c
  ·rename_i k off;generalize L.get k=z at c ⊢;split at c
   ·rename_i g t cs;generalize iC t ((cs.drop off).take n) n=b at c ⊢;cases b
    ·exact c.elim
    ·exact c
   ·exact c.elim
  ·exact⟨.inl c⟩
  ·exact⟨.inl c⟩
  ·exact c.elim
 case mupd =>
  simp only[evalOp] at c ⊢;split at c
  ·obtain⟨k,cs,l,q,w,cs',u,o⟩:=c;exact⟨k,cs,l,q,w,cs',u,fun _=>o⟩
  ·exact c.elim
 ·simp only[evalOp] at c ⊢;exact c
 ·simp only[evalOp] at c ⊢;split at c
  ·exact c
  ·exact c.elim
 ·simp only[evalOp] at c ⊢;split at c
  ·exact c
  ·exact c.elim
 ·simp only[evalOp] at c ⊢;split at c
  ·rename_i dv r f p;rw[f,p];cases r<;>first
    | exact c
    | (obtain⟨⟨k,n,v,y,xs,ad,cr,cd,j,m,ax,cx,news,_,_,_,_,e,_⟩ | ⟨_,_,_,_,_,_,_,e,_⟩⟩:=c<;>cases e)
  ·exact c.elim
theorem qI {P:Program}{F:aA}{L:Loc}{ρ:Env}{K:cF}{n:Nat}{a x:X}{d:Option Nat}:evalOp P (.storeD n a x) d F L ρ K=(match eW (aG (val L ρ x)) n,iS (aG (val L ρ x)),ev ρ a with
  | true,true,.own k off=>match L.get k with
   | Option.some (.box g t cs)=>match iC t ((cs.drop off).take n) n with
    | true=>K F (L.set k (.box g t (aM cs off (aG (val L ρ x))))) (put d (.v undef) ρ)
    | false=>False
   | _=>False
  | _,_,_=>False):=rfl
theorem qJ {P:Program}{F:aA}{L:Loc}{ρ:Env}{K:cF}{key n:Nat}{a x:X}{d:Option Nat}:evalOp P (.storeK key n a x) d F L ρ K=(match eW (aG (val L ρ x)) n,iS (aG (val L ρ x)),ev ρ a with
  | true,true,.own k off=>match Nat.beq k key with
   | true=>match L.get k with
    | Option.some (.box g t cs)=>match iC t ((cs.drop off).take n) n with
     | true=>K F (L.set k (.box g t (aM cs off (aG (val L ρ x))))) (put d (.v undef) ρ)
     | false=>False
    | _=>False
   | false=>False
  | _,_,_=>False):=rfl
theorem ig {P:Program}{F:aA}{L:Loc}{ρ:Env}{K:cF}{o:dU}{d:Option Nat}(m:ic o=true) (b:evalOp P o d F L ρ K) :
  ∃n a x k off g t cs,(o=.storeD n a x\/o=.storeK k n a x)/\eW (aG (val L ρ x)) n=true/\iS (aG (val L ρ x))=true/\ev ρ a=.own k off/\L.get k=some (.box g t cs)/\iC t ((cs.drop off).take n) n=true /\
   K F (L.set k (.box g t (aM cs off (aG (val L ρ x))))) (put d (.v undef) ρ):=by
 cases o<;>first | (cases m;done) | skip
 case storeD n a x =>
  rw[qI] at b;split at b
  case h_2=>exact b.elim
  rename_i k off l h f;split at b
  case h_2=>exact b.elim
  rename_i g t cs e;split at b
  case h_2=>exact b.elim
  rename_i c;exact⟨n,a,x,k,off,g,t,cs,.inl rfl,l,h,f,e,c,b⟩
 case storeK key n a x =>
  rw[qJ] at b;split at b
  case h_2=>exact b.elim
  rename_i k off l h f;split at b
  case h_2=>exact b.elim
  rename_i j;have j:=v8 j;subst j;split at b
  case h_2=>exact b.elim
  rename_i g t cs e;split at b
  case h_2=>exact b.elim
  rename_i c;exact⟨n,a,x,k,off,g,t,cs,.inr rfl,l,h,f,e,c,b⟩
theorem gT {P:Program}{F:aA}{L:Loc}{ρ:Env}{K:cF}{o:dU}{d:Option Nat}{n:Nat}{a x:X}{k off g:Nat}{t:TypeId}{cs:List Value}(m:o=.storeD n a x\/o=.storeK k n a x) (j:eW (aG (val L ρ x)) n=true) (h:iS (aG (val L ρ x))=true) (f:ev ρ a=.own k off) (e:L.get k=some (.box g t cs)) (b:iC t ((cs.drop off).take n) n=true)
  (c:K F (L.set k (.box g t (aM cs off (aG (val L ρ x))))) (put d (.v undef) ρ)):evalOp P o d F L ρ K:=by
 rcases m with rfl | rfl
 ·rw[qI];simp only[j,h,f,e,b];exact c
 ·rw[qJ];have l:Nat.beq k k=true:=by simp
  simp only[j,h,f,l,e,b];exact c
theorem yt {x:X}{n:Int}{ρ:Env}(h:zo x=some n):∃k,ev ρ x=.v (.int k n):=by
 unfold zo at h;split at h
 ·injection h with h;subst h;exact⟨_,rfl⟩
 ·cases h
theorem Jq {L:Loc}{ρ:Env}{x:X}{k:IntKind}{m:Int}(h:val L ρ x=.int k m):ev ρ x=.v (.int k m):=by
 unfold val at h;cases e:ev ρ x with
 | v u=>rw[e] at h;exact p7 SV.v h
 | own j off =>
  rw[e] at h;simp only[conc] at h;split at h<;>cases h
 | el a j =>
  rw[e] at h;cases a<;>cases h
theorem Jr {b:Nat}{n m:Int}(h:MT b n m=true):0<=n/\n=m/\n.toNat*b<=140737488355328/\n.toNat<=maxLen:=by
 simp only[MT,Xf] at h;obtain⟨⟨c,d⟩,a⟩:=h;split at a
 ·have a:=v8 a;subst a;exact⟨by simp,rfl,Xq c,Xq d⟩
 ·cases a
theorem Js {P:Program}{bx:List Nat}{s s':dU}{d:Option Nat}{F:aA}{L:Loc}{ρ:Env}{K:cF}(h:mZ bx s=some s') (c:(cT s'||gK s'||ep s'||oM s'||ic s')=true) (f:gK s'=false) (b:evalOp P s' d F L ρ K):evalOp P s d F L ρ (fun F' L' ρ'=>Real F' L'->K F' L' ρ'):=by
 unfold mZ at h;split at h
 ·split at h
  ·rename_i n m p o;split at h
   ·rename_i v;injection h with h
    subst h;obtain⟨k1,p⟩:=yt (ρ:=ρ) p;obtain⟨k2,o⟩:=yt (ρ:=ρ) o;obtain⟨u,z,w,y⟩:=Jr v;subst z;simp only[evalOp,p,o] at b ⊢;split at b
    ·rename_i k;split at b
     ·rename_i q _ _;simp only[q];exact⟨u,XF _,w,y,b⟩
     ·exact b.elim
    ·exact b.elim
   ·cases h
  ·split at h
   ·rename_i i j _ _;split at h
    ·rename_i l;have l:=v8 l;subst l;injection h with h
     subst h;simp only[evalOp] at b ⊢;split at b
     ·rename_i k;split at b
      ·rename_i q _ v;obtain⟨ki,m,p,u,z,w,y⟩:=AE v;have o:=Jq p;simp only[o,q];rw[z] at b;exact⟨u,XF _,w,y,b⟩
      ·exact b.elim
     ·exact b.elim
    ·cases h
   ·cases h
 ·rename_i e sz;injection h with h
  subst h;simp only[evalOp] at b ⊢;split at b
  ·rename_i k;split at b
   ·rename_i q _ _;simp only[eY,q];exact b
   ·exact b.elim
  ·exact b.elim
 ·rename_i a n i;split at h
  ·injection h with h
   subst h;refine rj (s:=.load a n (.t i)) (s':=.loadD a n (.t i)) rfl rfl rfl ?_;simp only[evalOp,aI] at b ⊢;split at b
   ·rename_i k off e;simp only[e];split at b
    ·exact b
    ·exact b.elim
   ·exact b.elim
  ·injection h with h
   subst h;exact rj (s:=.load a n (.t i)) rfl c f b
 ·rename_i n i x;split at h
  ·injection h with h
   subst h;obtain⟨n',a',x',k,off,g,t,cs,r,p,o,e3,e4,e5,b⟩:=ig rfl b;rcases r with r | r
   ·cases r
   ·injection r with h1 h2 h3 h4
    subst h1 h2 h3 h4;exact rj (s:=.store n (.t i) x) (s':=.storeD n (.t i) x) rfl rfl rfl (gT (.inl rfl) p o e3 e4 e5 b)
  ·injection h with h
   subst h;exact rj (s:=.store n (.t i) x) rfl c f b
 ·exact rj h c f b
def Loc.sameAs (L L':Loc):Prop:=∀j,L'.get j=L.get j
theorem vH {P:Program}{f:Nat}{args:List Value}{F:aA}{L:Loc}{d:Option Nat}{KK:aA->Loc->Value->Prop}(h:dQ P f args F L d KK):cW P f args F L (fun F' L' v=>∃L2,L'.sameAs L2/\(Real F' L2->KK F' L2 v)):=by
 cases h with
 | frz R q r =>
  refine⟨[],[],[],R,rfl,List.nodup_nil,List.nodup_nil,fun _ h=>(by cases h),q,fun v F' Lo a m=>?_⟩;obtain⟨rfl,z⟩:=r v F' Lo a m;exact⟨rfl,fun _ _ _ _ h=>(by cases h),_,fun _=>rfl,z⟩
 | own R k q hd s r =>
  refine⟨[],[k],[],R,rfl,List.nodup_nil,by simp,fun j p=>.inr (by simp at p;rw[p];exact s),q,fun v F' Lo a m=>?_⟩;obtain⟨o,rfl,z⟩:=r v F' Lo a m;exact⟨rfl,fun _ _ _ _ h=>(by cases h),_,fun _=>rfl,z⟩
 | row R x rv t sz n xs q s r =>
  refine⟨[x],[x],[.row rv t sz n xs],fun F Lo v=>Lo=[.row (.slice none 0 0) t sz 0 []]/\R F [] v,?_,by simp,by simp,fun j p=>.inl p,⟨q.ent,fun F G L v a hr=>⟨hr.1,q.mono _ _ _ _ a hr.2⟩,fun w hs=>(q.run w hs).mono ?_⟩,fun v F' Lo a m=>?_⟩
  ·simp only[Loc.sub,s]
  ·rintro e w' ⟨v,F',Lo,rfl,y,c,m⟩;obtain⟨rfl,_⟩:=r v F' Lo c.le m;have hb:(Own.row (.slice none 0 0) t sz 0 []).blk=none:=rfl;have hg:∀j o,Loc.get (inp [.row (.slice none 0 0) t sz 0 []]) j=some o->o=.row (.slice none 0 0) t sz 0 []:=by
    intro j o e;rw[aT] at e;split at e
    ·cases p:j-1000 with
     | zero=>rw[p] at e;simpa using e.symm
     | succ i=>rw[p] at e;simp at e
    ·cases e
   have ab:∀b,¬(inp [.row (.slice none 0 0) t sz 0 []]).owns b:=by
    rintro b ⟨j,o,e,l⟩;rw[hg j o e,hb] at l;cases l
   refine⟨v,F',_,rfl,⟨y.frz,fun j o e=>?_,fun j o g e l=>?_,fun j j' o o' g e e' l=>?_,y.glob⟩,⟨c.le,c.os,c.tape,c.output,c.size,c.same,c.frz,fun b hb=>v7 hb (ab b)⟩,rfl,m⟩
   ·rw[hg j o e];exact World.ownsRow_nil w' 0 t sz
   ·rw[hg j o e,hb] at l;cases l
   ·rw[hg j o e,hb] at l;cases l
  ·obtain⟨rfl,m⟩:=m;obtain⟨_,z⟩:=r v F' [] a m;refine⟨rfl,fun k g t' cs u e=>?_,L.set x (.row (.slice none 0 0) t sz 0 []),fun j=>?_,z⟩
   ·rw[XU.1 u,s] at e;cases e
   ·simp only[Loc.Wu,Loc.puts,Loc.Wt,Loc.Wy];split<;>rfl
 | lent R x rv t sz n xs q s r =>
  refine⟨[x],[x],[.row rv t sz n xs],_,by simp only[Loc.sub,s],by simp,by simp,fun j p=>.inl p,q,fun v F' Lo a m=>?_⟩;obtain⟨rfl,m⟩:=m;refine⟨rfl,fun k g t' cs u e=>?_,L,fun j=>?_,r v F' a m⟩
  ·rw[XU.1 u,s] at e;cases e
  ·simp only[Loc.Wu,Loc.puts,Loc.Wt,Loc.Wy];split
   ·rename_i p;rw[p,s]
   ·rfl
theorem Jt {P:Program}{bx:List Nat}{s s':dU}{d:Option Nat}{F:aA}{L:Loc}{ρ:Env}{K:cF}(h:mZ bx s=some s') (a:gK s'=true) (b:evalOp P s' d F L ρ K):evalOp P s d F L ρ (fun F' L' ρ'=>∃L2,L'.sameAs L2/\(Real F' L2->K F' L2 ρ')):=by
 unfold mZ at h;split at h
 ·split at h
  ·split at h
   ·injection h with h;subst h;cases a
   ·cases h
  ·split at h
   ·split at h
    ·injection h with h;subst h;cases a
    ·cases h
   ·cases h
 ·injection h with h;subst h;cases a
 ·split at h
  ·injection h with h;subst h;cases a
  ·injection h with h;subst h;cases a
 ·split at h
  ·injection h with h;subst h;cases a
  ·injection h with h;subst h;cases a
 ·cases s<;>simp only[drawn,xo,reduceCtorEq] at h<;>subst h<;>first | (cases a;done) | skip
  ·simp only[evalOp] at b ⊢;exact vH b
  ·simp only[evalOp] at b ⊢;split at b
   ·exact vH b
   ·exact b.elim
theorem vI {fl bx:List Nat}{bk:List (Nat×Nat)}{s s':dU}(h:s5 fl bk bx s=some s'):mZ bx s=some s'\/(∃a n i,s=.load a n (.t i)/\s'=.loadF a n (.t i))\/(∃a n i key,s=.load a n (.t i)/\s'=.loadK key a n (.t i))\/(∃a n i,s=.load a n (.t i)/\s'=.loadR a n (.t i))\/∃i,s=.b2s (.t i)/\s'=.b2sR (.t i):=by
 unfold s5 at h;split at h
 ·rename_i a n i;split at h
  ·injection h with h
   exact .inr (.inl ⟨a,n,i,rfl,h.symm⟩)
  ·split at h
   ·rename_i key _;split at h
    ·injection h with h
     exact .inr (.inr (.inr (.inl ⟨a,n,i,rfl,h.symm⟩)))
    ·injection h with h
     exact .inr (.inr (.inl ⟨a,n,i,key,rfl,h.symm⟩))
   ·exact .inl h
 ·rename_i i;split at h
  ·injection h with h
   exact .inr (.inr (.inr (.inr ⟨i,rfl,h.symm⟩)))
  ·exact .inl h
 ·exact .inl h
theorem EJ {o:Bool}{n:Nat}{x:X}{F:aA}{L:Loc}{ρ:Env}{V V':SV->Prop}(h:aI (.load o n x) F L ρ V) (a:∀v,V v->V' v):aI (.load o n x) F L ρ V':=by
 have:=One.mono (T:=fun V=>aI (.loadR o n x) F L ρ V) (fk rfl) V V' a h;exact this
theorem Ju {P:Program}{fl bx:List Nat}{bk:List (Nat×Nat)}{s s':dU}{d:Option Nat}{F:aA}{L:Loc}{ρ:Env}{K:cF}(h:s5 fl bk bx s=some s') (j:(cT s'||gK s'||ep s'||oM s'||ic s')=true) (l:gK s'=false) (f:evalOp P s' d F L ρ K):evalOp P s d F L ρ (fun F' L' ρ'=>Real F' L'->K F' L' ρ'):=by
 rcases vI h with h | ⟨a,n,i,rfl,rfl⟩ | ⟨a,n,i,key,rfl,rfl⟩ | ⟨a,n,i,rfl,rfl⟩ | ⟨i,rfl,rfl⟩
 rotate_left 3
 ·have f:aI (.load a n (.t i)) F L ρ (fun v=>K F L (put d v ρ)):=f;exact EJ f fun v h _=>h
 rotate_left
 ·exact Js h j l f
 ·refine rj (s:=.load a n (.t i)) (s':=.loadD a n (.t i)) rfl rfl rfl ?_;simp only[evalOp,aI] at f ⊢;split at f
  ·rename_i e;simp only[e];exact f
  ·rename_i e;simp only[e];exact f
  ·exact f.elim
 ·refine rj (s:=.load a n (.t i)) (s':=.loadD a n (.t i)) rfl rfl rfl ?_;simp only[evalOp,aI] at f ⊢;split at f
  ·rename_i k off e;simp only[e];split at f
   ·exact f
   ·exact f.elim
  ·exact f.elim
 ·have f:aI (.b2sR (.t i)) F L ρ (fun v=>K F L (put d v ρ)):=f;show aI (.b2s (.t i)) F L ρ (fun v=>Real F L->K F L (put d v ρ));unfold aI at f ⊢
  dsimp only at f ⊢
  split at f
  ·rename_i m n c e;obtain⟨k,ty,w,bs,o,q,x,r⟩:=f;refine⟨bs.map fun b=>Value.int .u8 b.toNat,by simp[q],?_,bs,rfl,fun _=>r⟩;cases m with
   | none=>exact .inr (.inr (.inl (x rfl)))
   | some m=>exact .inr (.inl ⟨k,_,ty,1,n,_,m,w,o,rfl,rfl,fun i u p=>by rw[Nat.zero_add];exact p⟩)
  ·exact f.elim
theorem Gq {P:Program}{fl bx:List Nat}{bk:List (Nat×Nat)}{s s':dU}{d:Option Nat}{F:aA}{L:Loc}{ρ:Env}{K:cF}(h:s5 fl bk bx s=some s') (b:gK s'=true) (c:evalOp P s' d F L ρ K):evalOp P s d F L ρ (fun F' L' ρ'=>∃L2,L'.sameAs L2/\(Real F' L2->K F' L2 ρ')):=by
 rcases vI h with h | ⟨a,n,i,rfl,rfl⟩ | ⟨a,n,i,key,rfl,rfl⟩ | ⟨a,n,i,rfl,rfl⟩ | ⟨i,rfl,rfl⟩
 ·exact Jt h b c
 ·cases b
 ·cases b
 ·cases b
 ·cases b
theorem set_comm:∀(L:Loc) {k f:Nat}(o o':Own),k≠f->(L.set k o).set f o'=(L.set f o').set k o:=by
 intro L k f o o' h;have hb:Nat.beq k f=false:=by cases e:Nat.beq k f with | true=>exact v7 (v8 e) h | false=>rfl
 have b:Nat.beq f k=false:=by cases e:Nat.beq f k with | true=>exact v7 (v8 e).symm h | false=>rfl
 have a:∀{i j:Nat},Nat.beq i j=false->(Nat.ble i j=true/\Nat.ble j i=false)\/(Nat.ble i j=false/\Nat.ble j i=true):=by
  intro i j w;have u:=eZ w;rcases Nat.lt_or_gt_of_ne u with ac | ae
  ·refine .inl ⟨Nat.ble_eq_true_of_le (by omega),?_⟩;cases e:Nat.ble j i with | true=>have:=Xq e;omega | false=>rfl
  ·refine .inr ⟨?_,Nat.ble_eq_true_of_le (by omega)⟩;cases e:Nat.ble i j with | true=>have:=Xq e;omega | false=>rfl
 induction L with
 | nil =>
  simp only[Loc.set,hb,b];rcases a hb with⟨d,m⟩ | ⟨d,m⟩<;>simp only[d,m,Loc.set]
 | cons p l ih =>
  obtain⟨j,q⟩:=p;cases r:Nat.beq j k with
  | true =>
   have:=v8 r;subst this;have c:Nat.beq j j=true:=by simp
   simp only[Loc.set,c,hb,b];rcases a hb with⟨d,m⟩ | ⟨d,m⟩
   ·simp only[d,Loc.set,c]
   ·simp only[d,m,Loc.set,c,b]
  | false =>
   cases n:Nat.beq j f with
   | true =>
    have:=v8 n;subst this;have c:Nat.beq j j=true:=by simp
    simp only[Loc.set,c,hb,b];rcases a b with⟨d,m⟩ | ⟨d,m⟩
    ·simp only[d,Loc.set,c]
    ·simp only[d,m,Loc.set,c,hb]
   | false =>
    simp only[Loc.set,r,n];rcases a r with⟨t,z⟩ | ⟨t,z⟩<;>rcases a n with⟨s,y⟩ | ⟨s,y⟩
    ·simp only[t,s,Loc.set,r,n,ih]
    ·simp only[t,s,Loc.set,r,n,hb,b];have d:Nat.ble f k=true:=by
      have x1:=Xq t;have x2:=Xq y;exact Nat.ble_eq_true_of_le (by omega)
     simp only[d]
    ·simp only[t,s,Loc.set,r,n,hb,b];have d:Nat.ble k f=true:=by
      have x1:=Xq s;have x2:=Xq z;exact Nat.ble_eq_true_of_le (by omega)
     simp only[d]
    ·rcases a hb with⟨x,v⟩ | ⟨x,v⟩
     ·simp only[t,s,Loc.set,r,n,hb,b,x,v]
     ·simp only[t,s,Loc.set,r,n,hb,b,x,v]
theorem put_comm {d a:Option Nat}{v u:SV}{ρ:Env}(h:∀k,d=some k->a≠some k):put d v (put a u ρ)=put a u (put d v ρ):=by
 funext t
 simp only[put_eq];cases d with
 | none=>rfl
 | some k =>
  cases a with
  | none=>rfl
  | some e =>
   have:=h k rfl;simp only[];split<;>split
   ·rename_i b c;subst b;subst c;exact v7 rfl this
   ·rfl
   ·rfl
   ·rfl
def cB:List X->List Nat
 | []=>[]
 | .t n::l=>n::cB l
 | .mt _ n::l=>n::cB l
 | _::l=>cB l
theorem lV:∀{l:List X}{n:Nat},X.t n∈l->n∈cB l
 | [],n,h=>by cases h
 | .t m::l,n,h=>by
  simp only[cB,Xh];rcases Xh.1 h with h | h
  ·injection h with h;exact .inl h
  ·exact .inr (lV h)
 | .c v::l,n,h=>by
  rcases Xh.1 h with h | h
  ·cases h
  ·exact lV (l:=l) h
 | .fn f::l,n,h=>by
  rcases Xh.1 h with h | h
  ·cases h
  ·exact lV (l:=l) h
 | .mt nm m::l,n,h=>by
  simp only[cB,Xh];rcases Xh.1 h with h | h
  ·cases h
  ·exact .inr (lV h)
theorem nF:∀{l:List X}{nm:String}{n:Nat},X.mt nm n∈l->n∈cB l
 | [],_,n,h=>by cases h
 | .t m::l,nm,n,h=>by
  simp only[cB,Xh];rcases Xh.1 h with h | h
  ·cases h
  ·exact .inr (nF h)
 | .c v::l,nm,n,h=>by
  rcases Xh.1 h with h | h
  ·cases h
  ·exact nF (l:=l) h
 | .fn f::l,nm,n,h=>by
  rcases Xh.1 h with h | h
  ·cases h
  ·exact nF (l:=l) h
 | .mt a m::l,nm,n,h=>by
  simp only[cB,Xh];rcases Xh.1 h with h | h
  ·injection h with h1 h2;exact .inl h2
  ·exact .inr (nF h)
theorem fM {l:List X}{d:Option Nat}{v:SV}{ρ:Env}(h:∀k,d=some k->k∉cB l):∀x∈l,ev (put d v ρ) x=ev ρ x:=by
 intro x a;cases x with
 | t n =>
  simp only[ev,put_eq];cases d with
  | none=>rfl
  | some k =>
   simp only[];rw[vv];intro e;subst e;exact h n rfl (lV a)
 | c v=>rfl
 | fn f=>rfl
 | mt nm n =>
  simp only[ev,put_eq];cases d with
  | none=>rfl
  | some k =>
   simp only[];rw[vv];intro e;subst e;exact h n rfl (nF a)
def Vd (L:Loc) (ρ:Env):Prop:=∀t k off,ρ t=.own k off->∃g ty cs,L.get k=some (.box g ty cs)
theorem Vd.ev {L:Loc}{ρ:Env}(h:Vd L ρ) {x:X}{k off:Nat}(e:Fr.ev ρ x=.own k off):∃g ty cs,L.get k=some (.box g ty cs):=by
 cases x with
 | t n=>exact h n k off e
 | c v=>cases e
 | fn f=>cases e
 | mt nm n =>
  simp only[Fr.ev,Ox] at e;split at e<;>cases e
def Keeps (L L':Loc):Prop:=∀k g ty cs,L.get k=some (.box g ty cs)->L'.get k=some (.box g ty cs)
theorem Keeps.refl (L:Loc):Keeps L L:=fun _ _ _ _ h=>h
theorem Keeps.trans {L L' L'':Loc}(h:Keeps L L') (a:Keeps L' L''):Keeps L L'':=fun k g ty cs e=>a k g ty cs (h k g ty cs e)
theorem cm {L:Loc}{k j:Nat}{o:Own}(h:j≠k):(L.set k o).get j=L.get j:=by rw[Loc.Wt,vv h]
theorem Keeps.new {L:Loc}{k:Nat}{o:Own}(h:L.get k=none):Keeps L (L.set k o):=fun j g ty cs e=>by
 rw[cm (fun a=>by rw[a,h] at e;cases e)];exact e
theorem Keeps.row {L:Loc}{k:Nat}{v:Value}{t:TypeId}{sz n:Nat}{xs:List Value}{o:Own}(h:L.get k=some (.row v t sz n xs)):Keeps L (L.set k o):=fun j g ty cs e=>by
 rw[cm (fun a=>by rw[a,h] at e;cases e)];exact e
section
variable {P:Program}{F:aA}{L:Loc}{ρ:Env}{K:cF}
theorem CallsA.up {f:Nat}{args:Array Value}{F F1:aA}{R:aA->List Own->Value->Prop}{Lin:List Own}(h:CallsA P f args F Lin R) (n:F.le F1) (z:qV F):CallsA P f args F1 Lin R:=by
 refine⟨h.ent,h.mono,fun w p=>?_⟩;have s:St F (inp Lin) w:=⟨fun b o e=>p.frz b o (n b o e),p.own,fun k o g e hb=>(by
  cases d:F g with
  | none=>rfl
  | some o1=>have l:=n g o1 d;rw[p.off k o g e hb] at l;cases l),p.sep,z⟩
 refine(h.run w s).mono ?_;rintro e w' ⟨v,F',Lo,rfl,c,a,hR⟩;have r:∀b o,F1 b=some o->¬(inp Lin).owns b:=by
  rintro b o y ⟨k,o',e,hb⟩;rw[p.off k o' b e hb] at y;cases y
 have q:∀b o,F1 b=some o->w'.heap[b]?=some o:=fun b o e=>by
  have d:=p.frz b o e;rw[a.same b (Array.getElem?_eq_some_iff.1 d).1 (r b o e)];exact d
 have j:F'.le (fun b=>match F' b with | some o=>some o | none=>F1 b):=fun b o e=>by simp only[e]
 refine⟨v,fun b=>match F' b with | some o=>some o | none=>F1 b,Lo,rfl,⟨fun b o e=>?_,c.own,fun k o g e hb=>?_,c.sep,qV.mono j c.glob⟩,⟨fun b o e=>?_,a.os,a.tape,a.output,a.size,a.same,fun b hb=>?_,a.own⟩,h.mono _ _ _ _ j hR⟩
 ·split at e
  ·rename_i o' t;injection e with e
   subst e;exact c.frz b _ t
  ·exact q b o e
 ·have d:=c.off k o g e hb;simp only[d];cases l:F1 g with
  | none=>rfl
  | some x =>
   rcases a.own g ⟨k,o,e,hb⟩ with m | m
   ·exact v7 m (r g x l)
   ·have:=(Array.getElem?_eq_some_iff.1 (p.frz g x l)).1;omega
 ·cases d:F' b with
  | none=>exact e
  | some o' =>
   have l:=c.frz b o' d;rw[q b o e] at l;exact l.symm
 ·cases d:F' b with
  | none=>rw[d] at hb;exact .inl hb
  | some o' =>
   rcases a.frz b (by rw[d];simp) with m | m | m
   ·refine .inl (fun h4=>?_);cases u:F b with
    | none=>exact m u
    | some o5=>have:=n b o5 u;rw[h4] at this;cases this
   ·exact .inr (.inl m)
   ·exact .inr (.inr m)
theorem Real.glob {F:aA}{L:Loc}(h:Real F L):qV F:=by obtain⟨w,a⟩:=h;exact a.glob
theorem Real.down {F F':aA}{L L':Loc}(h:Real F' L') (c:F.le F') (f:qV F) (j:L'.part L):Real F L:=by
 obtain⟨w,a⟩:=h;have a:=a.part j;refine⟨w,⟨fun b o e=>a.frz b o (c b o e),a.own,fun k o g e hb=>?_,a.sep,f⟩⟩;cases l:F g with
 | none=>rfl
 | some o'=>have d:=c g o' l;rw[a.off k o g e hb] at d;cases d
theorem Gr {L:Loc}{k:Nat}{o:Own}(h:L.get k=none):(L.set k o).part L:=fun j p e=>by
 rw[cm (fun a=>by rw[a,h] at e;cases e)];exact e
theorem zp {L L1:Loc}{k:Nat}{o:Own}(h:L1.part L) (b:L.get k=none):(L1.set k o).part (L.set k o):=fun j p e=>by
 rw[Loc.Wt] at e ⊢;split
 ·rename_i a;rw[j3 a] at e;exact e
 ·rename_i a;rw[vv a] at e;exact h j p e
def Left (d:Option Nat) (L L':Loc):Prop:=L'=L\/(∃k o,d=some k/\L.get k=none/\L'=L.set k o)\/∃k a t sz n xs,L.get k=some (.row a t sz n xs)/\L'=L.set k (.row (.slice none 0 0) t sz 0 [])
theorem Left.keeps {d:Option Nat}{L L':Loc}(h:Left d L L'):Keeps L L':=by
 rcases h with rfl | ⟨k,o,_,a,rfl⟩ | ⟨k,b,t,sz,n,xs,a,rfl⟩
 ·exact Keeps.refl _
 ·exact Keeps.new a
 ·exact Keeps.row a
theorem xH {L L1:Loc}{k:Nat}{o:Own}(h:L1.part L):(L1.set k o).part (L.set k o):=fun j p e=>by
 rw[Loc.Wt] at e ⊢;split
 ·rename_i a;rw[j3 a] at e;exact e
 ·rename_i a;rw[vv a] at e;exact h j p e
theorem dQ.imp {f:Nat}{args:List Value}{F:aA}{L:Loc}{d:Option Nat}{K K':aA->Loc->Value->Prop}(h:dQ P f args F L d K) (q:∀F' L' v,F.le F'->Left d L L'->Real F' L'->K F' L' v->K' F' L' v):dQ P f args F L d K':=by
 cases h with
 | frz R l j=>exact .frz R l fun v F' Lo a e=>⟨(j v F' Lo a e).1,fun b=>q F' L v a (.inl rfl) b ((j v F' Lo a e).2 b)⟩
 | own R k l w m j =>
  refine .own R k l w m fun v F' Lo a e=>?_;obtain⟨o,u,s⟩:=j v F' Lo a e;exact⟨o,u,fun b=>q F' _ v a (.inr (.inl ⟨k,o,w,m,rfl⟩)) b (s b)⟩
 | row R p r t sz n xs l c j =>
  refine .row R p r t sz n xs l c fun v F' Lo a e=>?_;obtain⟨u,s⟩:=j v F' Lo a e;exact⟨u,fun b=>q F' _ v a (.inr (.inr ⟨p,r,t,sz,n,xs,c,rfl⟩)) b (s b)⟩
 | lent R p r t sz n xs l c j=>exact .lent R p r t sz n xs l c fun v F' a e b=>q F' L v a (.inl rfl) b (j v F' a e b)
theorem dQ.up {f:Nat}{args:List Value}{F F1:aA}{L L1:Loc}{d:Option Nat}{K:aA->Loc->Value->Prop}(h:dQ P f args F L d K) (b:F.le F1) (x:qV F) (s:L1.part L) (z:∀k,d=some k->L.get k=none->L1.get k=none) :
  dQ P f args F1 L1 d (fun F' L' v=>F1.le F'/\Real F' L'/\((L'=L1/\K F' L v)\/(∃k o,d=some k/\L.get k=none/\L'=L1.set k o/\K F' (L.set k o) v)\/∃k r t sz n xs,L.get k=some (.row r t sz n xs)/\L'=L1.set k (.row (.slice none 0 0) t sz 0 [])/\K F' (L.set k (.row (.slice none 0 0) t sz 0 [])) v)):=by
 cases h with
 | frz R j m =>
  refine .frz R (j.up b x) fun v F' Lo a l=>?_;obtain⟨w,u⟩:=m v F' Lo (aA.le_trans b a) l;exact⟨w,fun c=>⟨a,c,.inl ⟨rfl,u (c.down (aA.le_refl _) c.glob s)⟩⟩⟩
 | own R k j y p m =>
  refine .own R k (j.up b x) y (z k y p) fun v F' Lo a l=>?_;obtain⟨o,w,u⟩:=m v F' Lo (aA.le_trans b a) l;exact⟨o,w,fun c=>⟨a,c,.inr (.inl ⟨k,o,y,p,rfl,u (c.down (aA.le_refl _) c.glob (zp s p))⟩)⟩⟩
 | row R q r t sz n xs j e m =>
  refine .row R q r t sz n xs (j.up b x) (s q _ e) fun v F' Lo a l=>?_;obtain⟨w,u⟩:=m v F' Lo (aA.le_trans b a) l;exact⟨w,fun c=>⟨a,c,.inr (.inr ⟨q,r,t,sz,n,xs,e,rfl,u (c.down (aA.le_refl _) c.glob (xH s))⟩)⟩⟩
 | lent R q r t sz n xs j e m =>
  exact .lent R q r t sz n xs (j.up b x) (s q _ e) fun v F' a l c=>⟨a,c,.inl ⟨rfl,m v F' (aA.le_trans b a) l (c.down (aA.le_refl _) c.glob s)⟩⟩
theorem dQ.some {f:Nat}{args:List Value}{F:aA}{L:Loc}{d:Option Nat}{K:aA->Loc->Value->Prop}(h:dQ P f args F L d K) (hr:Real F L):∃F' L' v,F.le F'/\Left d L L'/\Real F' L'/\K F' L' v:=by
 obtain⟨w,s⟩:=hr;have z:St F (inp []) w:=⟨s.frz,fun k o e=>(by cases e),fun k o g e=>(by cases e),fun k k' o o' g e=>(by cases e),s.glob⟩;cases h with
 | frz R u y =>
  obtain⟨e,w',fr,⟨v,F',Lo,_,l,b,x⟩,_⟩:=u.run w z [];obtain⟨rfl,h3⟩:=y v F' Lo b.le x;have a:Real F' L:=⟨w',(iT (ks:=[]) (ko:=[]) s rfl List.nodup_nil List.nodup_nil (fun _ h=>(by cases h)) l b rfl).1⟩;exact⟨F',L,v,b.le,.inl rfl,a,h3 a⟩
 | own R k u hd aa y =>
  obtain⟨e,w',fr,⟨v,F',Lo,_,l,b,x⟩,_⟩:=u.run w z [];obtain⟨o,rfl,h3⟩:=y v F' Lo b.le x;have a:Real F' (L.set k o):=⟨w',(iT (ks:=[]) (ko:=[k]) s rfl List.nodup_nil (by simp) (fun j r=>.inr (by simp at r;rw[r];exact aa)) l b rfl).1⟩;exact⟨F',_,v,b.le,.inr (.inl ⟨k,o,hd,aa,rfl⟩),a,h3 a⟩
 | row R q rv t sz n xs u m y =>
  have c:L.sub [q]=Option.some [.row rv t sz n xs]:=by simp only[Loc.sub,m]
  obtain⟨e,w',fr,⟨v,F',Lo,_,l,b,x⟩,_⟩:=u.run w (s.handed c (by simp)) [];obtain⟨rfl,h3⟩:=y v F' Lo b.le x;have hb:=(iT (ks:=[q]) (ko:=[]) s c (by simp) List.nodup_nil (fun _ h=>(by cases h)) l b rfl).1;have a:Real F' (L.set q (.row (.slice none 0 0) t sz 0 [])):=by
   have h5:((L.Wu [q]).puts [] []).get q=none:=by simp only[Loc.Wu,Loc.puts,Loc.Wy,j3]
   have h6:=hb.put h5 (o:=.row (.slice none 0 0) t sz 0 []) (World.ownsRow_nil w' 0 t sz) (fun g hg=>by cases hg);refine⟨w',h6.part fun j p e=>?_⟩;rw[Loc.Wt] at e ⊢;split at e
   ·rename_i r;rw[j3 r];exact e
   ·rename_i r;rw[vv r];simp only[Loc.Wu,Loc.puts,Loc.Wy,vv r];exact e
  exact⟨F',_,v,b.le,.inr (.inr ⟨q,rv,t,sz,n,xs,m,rfl⟩),a,h3 a⟩
 | lent R q rv t sz n xs u m y =>
  have c:L.sub [q]=Option.some [.row rv t sz n xs]:=by simp only[Loc.sub,m]
  obtain⟨e,w',fr,⟨v,F',Lo,_,l,b,⟨rfl,x⟩⟩,_⟩:=u.run w (s.handed c (by simp)) [];have hb:=(iT (ks:=[q]) (ko:=[q]) s c (by simp) (by simp) (fun _ h=>.inl h) l b rfl).1;have a:Real F' L:=by
   refine⟨w',hb.part fun j p e=>?_⟩;simp only[Loc.Wu,Loc.puts,Loc.Wt,Loc.Wy];split
   ·rename_i r;rw[r,m] at e;exact e
   ·exact e
  exact⟨F',L,v,b.le,.inl rfl,a,y v F' b.le x a⟩
theorem o8.imp {F F':aA}{L:Loc}{d:Option Nat}{e sz b:Nat}{s x:Value}{K K':Loc->Value->Prop}(h:o8 F L d e sz b s x K) (l:F.le F')
  (hk:∀j n xs n' k v,(L.get j=some (.row s e sz n xs)\/(d=some j/\L.get j=none))->Real F' (L.set j (.row v e sz n' k))->(Real F (L.set j (.row v e sz n' k))->K (L.set j (.row v e sz n' k)) v)->K' (L.set j (.row v e sz n' k)) v):o8 F' L d e sz b s x K':=by
 obtain⟨j,n,xs,m,news,a,⟨p,c,y,h3,o⟩,r,h6,h7,h8⟩:=h;refine⟨j,n,xs,m,news,?_,⟨p,c,y,h3,?_⟩,r,h6,h7,fun v hv u=>hk j n xs _ _ v ?_ u (h8 v hv)⟩
 ·rcases a with a | a | ⟨a,f,p,q,t,w,z⟩
  ·exact .inl a
  ·exact .inr (.inl a)
  ·exact .inr (.inr ⟨a,f,p,q,t,w,z.imp (·.mono l) id⟩)
 ·rcases o with o | o
  ·exact .inl (o.mono l)
  ·exact .inr o
 ·rcases a with a | ⟨a,f,_⟩ | ⟨a,f,_⟩
  ·exact .inl a
  ·exact .inr ⟨a,f⟩
  ·exact .inr ⟨a,f⟩
theorem EK {L L1:Loc}{k:Nat}{o:Own}(h:L1.part L):(L1.set k o).part (L.set k o):=fun j p e=>by
 rw[Loc.Wt] at e ⊢;split
 ·rename_i a;rw[j3 a] at e;exact e
 ·rename_i a;rw[vv a] at e;exact h j p e
theorem AV {e sz b:Nat}{zs:List Value}{s x:X}{d:Option Nat}:evalOp P (.appD e sz b zs s x) d F L ρ K=(match ev ρ s,ev ρ x with
  | .v sv,.v a=>o8 F L d e sz b sv a fun L1 v=>K F L1 (put d (.v v) ρ)
  | _,_=>False):=rfl
theorem Real.store {F:aA}{L:Loc}{k g:Nat}{t:TypeId}{cs cs':List Value}(c:t≠0) (n:Real F L) (j:L.get k=Option.some (.box g t cs)):Real F (L.set k (.box g t cs')):=by
 obtain⟨w,l⟩:=n;have a:=lp w g cs'.toArray;refine⟨w.setRow g cs'.toArray,l.turn j ?_ (fun b h d=>a.block b h (fun e=>d (by rw[e];rfl))) (fun o f=>.inl f)⟩;show _=_;have m:w.heap[g]?=Option.some (.cells cs.toArray t (0,0)):=by rw[<-gH c];exact l.own k _ j
 rw[gH c];exact setRow_heap w g cs.toArray _ t _ m
theorem o8.some {F:aA}{L:Loc}{d:Option Nat}{e sz b:Nat}{s x:Value}{K:Loc->Value->Prop}(h:o8 F L d e sz b s x K) (hr:Real F L) :
  ∃a v n' o,((∃n xs,L.get a=some (.row s e sz n xs))\/(d=some a/\L.get a=none))/\Real F (L.set a (.row v e sz n' o))/\K (L.set a (.row v e sz n' o)) v:=by
 obtain⟨a,n,xs,m,news,k,⟨ad,c,h2,h3,h4⟩,h5,h6,h7,h8⟩:=h;obtain⟨w,hs⟩:=hr;have r:xs.length=n*sz:=by
  rcases k with k | ⟨_,_,rfl,rfl,_⟩ | ⟨_,_,_,_,_,q,_⟩
  ·exact(hs.own a _ k).1
  ·simp
  ·exact q
 have u:=lm w (xs++news) e (n+m) sz h6 (by rw[Xg,r,h3,Nat.add_mul]);have ab:St F (L.del a) w:=hs.part (fun j p e=>by rw[Loc.Wy] at e;split at e;cases e;exact e);have z:(L.del a).get a=none:=by rw[Loc.Wy,j3 rfl]
 have aa:=(jN ab z (cs:=(xs++news).toArray) (t:=e) (e:=.row (.slice (Option.some ⟨w.heap.size,0,none⟩) (n+m) (n+m)) e sz (n+m) (xs++news)) rfl u).1;have f:Real F (L.set a (.row (.slice (Option.some ⟨w.heap.size,0,none⟩) (n+m) (n+m)) e sz (n+m) (xs++news))) :=
  ⟨_,aa.part (fun j p e=>by
   rw[Loc.Wt] at e ⊢;split
   ·rename_i y;rw[j3 y] at e;exact e
   ·rename_i y;rw[vv y] at e;rw[Loc.Wy,vv y];exact e)⟩
 refine⟨a,_,n+m,xs++news,?_,f,h8 _ ⟨_,_,rfl,fun e=>(by cases e)⟩ f⟩;rcases k with k | ⟨k,l,_⟩ | ⟨k,l,_⟩
 ·exact .inl ⟨n,xs,k⟩
 ·exact .inr ⟨k,l⟩
 ·exact .inr ⟨k,l⟩
def Cr (o:dU):Bool:=cT o||gK o||ep o||oM o
def okD (o:dU):Bool:=Cr o||ic o
theorem s6 {o:dU}{d:Option Nat}{v:SV}(h:∀k,d=some k->k∉cB (bC o)):Alike o L L ρ (put d v ρ) :=
 fun x a=>⟨fM h x a,fun _ _ _=>rfl⟩
theorem vJ {o:dU}(ho:okD o=true) {d y:Option Nat}{u:SV}(h:∀k,y=some k->k∉cB (bC o)) (p:∀k,d=some k->y≠some k)
  (c:evalOp P o d F L ρ (fun F1 L1 al=>K F1 L1 (put y u al))):evalOp P o d F L (put y u ρ) K:=by
 by_cases hs:cT o=true
 ·rw[cu hs] at c ⊢;have:=qt hs (aA.le_refl F) (s6 (L:=L) (ρ:=ρ) (v:=u) h) c;refine(fk hs).mono _ _ (fun v r=>?_) this;rw[put_comm p];exact r
 ·have r:∀x∈bC o,val L (put y u ρ) x=val L ρ x:=fun x hx=>by simp only[val,fM h x hx]
  cases o<;>first | (exfalso;revert hs ho;simp[okD,Cr,cT,gK,ep,oM,ic];done) | skip
  case boxD t x =>
   have e:=r x (by simp[bC]);simp only[evalOp,e] at c ⊢;split at c
   ·rename_i k;split at c
    ·intro g q;have:=c g q;rw[put_comm p];exact this
    ·exact c
   ·exact c
  case allocD t zs =>
   simp only[evalOp] at c ⊢;split at c
   ·rename_i k;split at c
    ·intro g q;have:=c g q;rw[put_comm p];exact this
    ·exact c
   ·exact c
  case mkFD e n sz xs =>
   have m:=mQ (sz:=sz) (xs:=xs) r;have z:=cA (xs:=xs) r;simp only[evalOp,m,z] at c ⊢;split at c
   ·intro g F' ac hg q;rw[put_comm p];exact c g F' ac hg q
   ·exact c
  case callD f args =>
   have m:=dm (xs:=args) r;simp only[evalOp,m] at c ⊢;refine c.imp fun F' L' v _ _ _ h=>?_;rw[put_comm p];exact h
  case callVD f args =>
   have w:=fM (v:=u) (ρ:=ρ) h f (by simp[bC]);have m:=dm (xs:=args) (L:=L) (L':=L) (ρ:=ρ) (ρ':=put y u ρ) (fun x hx=>r x (by simp[bC,hx]));simp only[evalOp,w,m] at c ⊢;split at c
   ·refine c.imp fun F' L' v _ _ _ h=>?_;rw[put_comm p];exact h
   ·exact c
  case appD e sz b zs s x =>
   have w:=fM (v:=u) (ρ:=ρ) h s (by simp[bC]);have m:=fM (v:=u) (ρ:=ρ) h x (by simp[bC]);simp only[evalOp,w,m] at c ⊢;split at c
   ·refine c.imp (aA.le_refl F) fun kd n xs n' an v _ q h=>?_;rw[put_comm p];exact h q
   ·exact c
  case makeSD e sz n zs =>
   simp only[evalOp] at c ⊢;split at c
   ·rename_i k;split at c
    ·intro g q;have:=c g q;rw[put_comm p];exact this
    ·exact c
   ·exact c
  case makeSV e sz b zs x =>
   have m:=r x (by simp[bC]);simp only[evalOp,m] at c ⊢;split at c
   ·rename_i k;split at c
    ·intro g q;have:=c g q;rw[put_comm p];exact this
    ·exact c
   ·exact c
  case storeD n a x =>
   obtain⟨n',a',x',k,off,g,t,cs,j,m,z,e3,e4,e5,c⟩:=ig rfl c;have w:=fM (v:=u) (ρ:=ρ) h a (by simp[bC]);have l:=r x (by simp[bC]);rcases j with j | j
   ·injection j with q1 q2 q3
    subst q1 q2 q3;exact gT (.inl rfl) (by rw[l];exact m) (by rw[l];exact z) (by rw[w];exact e3) e4 e5 (by rw[l,put_comm p];exact c)
   ·cases j
  case storeK key n a x =>
   obtain⟨n',a',x',k,off,g,t,cs,j,m,z,e3,e4,e5,c⟩:=ig rfl c;have w:=fM (v:=u) (ρ:=ρ) h a (by simp[bC]);have l:=r x (by simp[bC]);rcases j with j | j
   ·cases j
   ·injection j with q0 q1 q2 q3
    subst q0 q1 q2 q3;exact gT (.inr rfl) (by rw[l];exact m) (by rw[l];exact z) (by rw[w];exact e3) e4 e5 (by rw[l,put_comm p];exact c)
def s8:dU->dU->Bool
 | .build _ _,_=>true
 | .mkfn _ _ _,_=>true
 | .loadK k _ _ _,.storeK a _ _ _=>match Nat.beq k a with | true=>false | false=>true
 | x,_=>AR x
theorem qK {x y:dU}(h:s8 x y=true):cT x=true:=by
 unfold s8 at h;split at h
 ·rfl
 ·rfl
 ·rfl
 ·exact AU h
theorem yu {x y:dU}{k n:Nat}{a z:X}{L L':Loc}{V:SV->Prop}(h:s8 x y=true) (d:y=.storeD n a z\/y=.storeK k n a z) (l:∀sv,conc L' sv=conc L sv) (q:∀j,j≠k->L'.get j=L.get j) (c:aI x F L ρ V):aI x F L' ρ V:=by
 unfold s8 at h;split at h
 ·rename_i zs ps;have e:=pG (ps:=ps) (zs:=zs) (L:=L) (L':=L') (ρ:=ρ) (ρ':=ρ) (fun p _=>l _);simp only[aI,e] at c ⊢;exact c
 ·rename_i f a b;have s:=dm (xs:=a) (L:=L) (L':=L') (ρ:=ρ) (ρ':=ρ) (fun _ _=>l _);have r:=dm (xs:=b) (L:=L) (L':=L') (ρ:=ρ) (ρ':=ρ) (fun _ _=>l _);simp only[aI,s,r] at c ⊢;exact c
 ·rename_i u w m x k2 m2 a2 t;rcases d with d | d
  ·cases d
  ·injection d with q0 q1 q2 q3
   subst q0;split at h
   ·cases h
   ·rename_i hb;have hb:=eZ hb;simp only[aI] at c ⊢;split at c
    ·rename_i v off e;split at c
     ·rename_i o;have o:=v8 o;subst o;simp only[q _ hb];exact c
     ·exact c.elim
    ·exact c.elim
 ·exact yq h c
theorem AW {L:Loc}{k g:Nat}{t:TypeId}{cs cs':List Value}(b:L.get k=some (.box g t cs)) (sv:SV):conc (L.set k (.box g t cs')) sv=conc L sv:=by
 cases sv with
 | v u=>rfl
 | el a j=>rfl
 | own j off =>
  simp only[conc,Loc.Wt]
  by_cases e:j=k
  ·subst e;rw[j3 rfl,b]
  ·rw[vv e]
def vK (x y:dU):Bool:=(cT x&&Cr y&&(!Gn x||cT y))||(gK x&&ep y)||(oM x&&ep y)||(ep x&&ep y)||(s8 x y&&ic y)||(ic x&&s8 y x)
inductive Made:dU->Option Nat->aA->Loc->Env->aA->Loc->SV->Prop
 | box {t:TypeId}{x:X}{k:Nat}{F:aA}{L:Loc}{ρ:Env}(g:Nat):Made (.boxD t x) (some k) F L ρ F (L.set k (.box g t (aG (val L ρ x)))) (.own k 0)
 | alloc {t:TypeId}{zs:List Value}{k:Nat}{F:aA}{L:Loc}{ρ:Env}(g:Nat):Made (.allocD t zs) (some k) F L ρ F (L.set k (.box g t zs)) (.own k 0)
 | mkS {e:TypeId}{sz n:Nat}{zs:List Value}{k:Nat}{F:aA}{L:Loc}{ρ:Env}(g:Nat):Made (.makeSD e sz n zs) (some k) F L ρ F (L.set k (.row (.slice (some ⟨g,0,none⟩) n n) e sz n (List.replicate n zs).flatten)) (.v (.slice (some ⟨g,0,none⟩) n n))
 | mkV {e:TypeId}{sz b:Nat}{zs:List Value}{x:X}{k:Nat}{F:aA}{L:Loc}{ρ:Env}(g n:Nat) (hn:n=lR (val L ρ x)):Made (.makeSV e sz b zs x) (some k) F L ρ F (L.set k (.row (.slice (some ⟨g,0,none⟩) n n) e sz n (List.replicate n zs).flatten)) (.v (.slice (some ⟨g,0,none⟩) n n))
 | mkF {e:TypeId}{n sz:Nat}{xs:List X}{d:Option Nat}{F:aA}{L:Loc}{ρ:Env}(g:Nat) (F':aA) (hle:F.le F') (hg:F' g=some (.cells (cellsOf L ρ xs).toArray e (0,0))) :
   Made (.mkFD e n sz xs) d F L ρ F' L (.v (.slice (some ⟨g,0,none⟩) n n))
def bI:dU->Option Nat->Loc->Env->Bool
 | .boxD _ _,some k,L,_=>(L.get k).isNone
 | .allocD _ _,some k,L,_=>(L.get k).isNone
 | .makeSD _ sz n zs,some k,L,_=>match L.get k,eW zs sz,Nat.ble n 9223372036854775807 with | none,true,true=>true | _,_,_=>false
 | .makeSV _ sz b zs x,some k,L,ρ=>match L.get k,eW zs sz,rR b (val L ρ x) with | none,true,true=>true | _,_,_=>false
 | .mkFD _ _ sz xs,_,L,ρ=>eY L ρ sz xs
 | _,_,_,_=>false
theorem bR {o:dU}(h:ep o=true) {d:Option Nat}:evalOp P o d F L ρ K↔bI o d L ρ=true/\∀F' L' v,Made o d F L ρ F' L' v->Real F' L'->K F' L' (put d v ρ):=by
 cases o<;>first | (exfalso;revert h;simp[ep];done) | skip
 case boxD t x =>
  simp only[evalOp];cases d with
  | none=>simp[bI]
  | some k =>
   simp only[bI];cases l:L.get k with
   | none =>
    simp only[Option.isNone_none,true_and];constructor
    ·rintro h F' L' v c a;cases c with
     | box g=>exact h g a
    ·intro h g a;exact h _ _ _ (.box g) a
   | some p=>simp
 case allocD t zs =>
  simp only[evalOp];cases d with
  | none=>simp[bI]
  | some k =>
   simp only[bI];cases l:L.get k with
   | none =>
    simp only[Option.isNone_none,true_and];constructor
    ·rintro h F' L' v c a;cases c with
     | alloc g=>exact h g a
    ·intro h g a;exact h _ _ _ (.alloc g) a
   | some p=>simp
 case makeSD e sz n zs =>
  simp only[evalOp];cases d with
  | none=>simp[bI]
  | some k =>
   simp only[bI];cases l:L.get k with
   | some p=>simp
   | none =>
    cases m:eW zs sz with
    | false=>simp
    | true =>
     cases q:Nat.ble n 9223372036854775807 with
     | false=>simp
     | true =>
      simp only[true_and];constructor
      ·rintro h F' L' v c a;cases c with
       | mkS g=>exact h g a
      ·intro h g a;exact h _ _ _ (.mkS g) a
 case makeSV e sz b zs x =>
  simp only[evalOp];cases d with
  | none=>simp[bI]
  | some k =>
   simp only[bI];cases l:L.get k with
   | some p=>simp
   | none =>
    cases m:eW zs sz with
    | false=>simp
    | true =>
     cases q:rR b (val L ρ x) with
     | false=>simp
     | true =>
      simp only[true_and];constructor
      ·rintro h F' L' v c a;cases c with
       | mkV g n r=>subst r;exact h g a
      ·intro h g a;exact h _ _ _ (.mkV g _ rfl) a
 case mkFD e n sz xs =>
  simp only[evalOp,bI];cases s:eY L ρ sz xs with
  | false=>simp
  | true =>
   simp only[true_and];constructor
   ·rintro h F' L' v c a;cases c with
    | mkF g F' f j=>exact h g _ f j a
   ·intro h g F' f j a;exact h _ _ _ (.mkF g F' f j) a
theorem zq:∀{l:List Value}{n:Nat},l.length=n->eW l n=true
 | [],0,_=>rfl
 | _::l,n+1,h=>zq (l:=l) (by simpa using h)
theorem nG {e:TypeId}{sz n k:Nat}{zs:List Value}(h:bI (.makeSD e sz n zs) (some k) L ρ=true):L.get k=none/\zs.length=sz/\n<=maxLen:=by
 simp only[bI] at h;split at h
 ·rename_i a c b;exact⟨a,ia c,Xq b⟩
 ·cases h
theorem nH {e:TypeId}{sz b k:Nat}{zs:List Value}{x:X}(h:bI (.makeSV e sz b zs x) (some k) L ρ=true):L.get k=none/\zs.length=sz/\lR (val L ρ x)<=maxLen/\rR b (val L ρ x)=true:=by
 simp only[bI] at h;split at h
 ·rename_i c d a;exact⟨c,ia d,Ey a,a⟩
 ·cases h
theorem yw {o:dU}{d:Option Nat}(y:Real F L) (c:bI o d L ρ=true):∃F' L' v,Made o d F L ρ F' L' v/\F.le F'/\Real F' L':=by
 obtain⟨w,j⟩:=y;have f:∀(e:TypeId) (cs:List Value),∃F',F.le F'/\F' w.heap.size=some (.cells cs.toArray e (0,0))/\Real F' L:=by
  intro e cs;have h:=fV w (.cells cs.toArray e);obtain⟨z,r⟩:=py j;exact⟨_,aA.WK (j.alloc (.cells cs.toArray e)) h,j3 rfl,⟨_,(j.alloc (.cells cs.toArray e)).freeze h r⟩⟩
 cases o<;>cases d<;>simp only[bI] at c<;>try (cases c;done)
 ·rename_i t x k;rw[Option.isNone_iff_eq_none] at c;refine⟨_,_,_,.box w.heap.size,aA.le_refl F,⟨_,(lS j c (ob:=kR t (aG (val L ρ x))) (e:=.box w.heap.size t (aG (val L ρ x))) rfl ?_).1⟩⟩;show _=_;rw[fV]
 ·rename_i t zs k;rw[Option.isNone_iff_eq_none] at c;refine⟨_,_,_,.alloc w.heap.size,aA.le_refl F,⟨_,(lS j c (ob:=kR t zs) (e:=.box w.heap.size t zs) rfl ?_).1⟩⟩;show _=_;rw[fV]
 ·rename_i e n sz xs;obtain⟨F',l,q,u⟩:=f e (cellsOf L ρ xs);exact⟨F',L,_,.mkF w.heap.size F' l q,l,u⟩
 ·rename_i e n sz xs k;obtain⟨F',l,q,u⟩:=f e (cellsOf L ρ xs);exact⟨F',L,_,.mkF w.heap.size F' l q,l,u⟩
 ·rename_i e sz n zs k;obtain⟨s,m,p⟩:=nG (ρ:=ρ) (e:=e) c;have a:=lm w (List.replicate n zs).flatten e n sz p (by rw[List.length_flatten];simp[m]);refine⟨_,_,_,.mkS w.heap.size,aA.le_refl F,⟨_,(jN j s (cs:=((List.replicate n zs).flatten).toArray) (t:=e) (e:=.row (.slice (some ⟨w.heap.size,0,none⟩) n n) e sz n (List.replicate n zs).flatten) rfl a).1⟩⟩
 ·rename_i e sz b zs x k;obtain⟨s,m,p,_⟩:=nH (e:=e) c;have a:=lm w (List.replicate (lR (val L ρ x)) zs).flatten e (lR (val L ρ x)) sz p (by rw[List.length_flatten];simp[m]);refine⟨_,_,_,.mkV w.heap.size _ rfl,aA.le_refl F,⟨_,(jN j s (cs:=((List.replicate (lR (val L ρ x)) zs).flatten).toArray) (t:=e) (e:=.row (.slice (some ⟨w.heap.size,0,none⟩) (lR (val L ρ x)) (lR (val L ρ x))) e sz (lR (val L ρ x)) (List.replicate (lR (val L ρ x)) zs).flatten) rfl a).1⟩⟩
theorem Made.le {o:dU}{d:Option Nat}{F':aA}{L':Loc}{v:SV}(h:Made o d F L ρ F' L' v):F.le F':=by
 cases h with
 | box g=>exact aA.le_refl _
 | alloc g=>exact aA.le_refl _
 | mkS g=>exact aA.le_refl _
 | mkV g n c=>exact aA.le_refl _
 | mkF g F' a b=>exact a
theorem Made.part {o:dU}{d:Option Nat}{F':aA}{L':Loc}{v:SV}(a:bI o d L ρ=true) (h:Made o d F L ρ F' L' v):L'.part L:=by
 intro j p e;cases h with
 | box g =>
  simp only[bI,Option.isNone_iff_eq_none] at a;rw[cm (fun h=>by rw[h] at e;rw[a] at e;cases e)];exact e
 | alloc g =>
  simp only[bI,Option.isNone_iff_eq_none] at a;rw[cm (fun h=>by rw[h] at e;rw[a] at e;cases e)];exact e
 | mkS g =>
  have a:=(nG a).1;rw[cm (fun h=>by rw[h] at e;rw[a] at e;cases e)];exact e
 | mkV g n f =>
  have a:=(nH a).1;rw[cm (fun h=>by rw[h] at e;rw[a] at e;cases e)];exact e
 | mkF g F' b c=>exact e
theorem Made.get {o:dU}{d:Option Nat}{F':aA}{L':Loc}{v:SV}(a:bI o d L ρ=true) (h:Made o d F L ρ F' L' v):Keeps L L':=by
 cases h with
 | box g =>
  simp only[bI,Option.isNone_iff_eq_none] at a;exact Keeps.new a
 | alloc g =>
  simp only[bI,Option.isNone_iff_eq_none] at a;exact Keeps.new a
 | mkS g=>exact Keeps.new (nG a).1
 | mkV g n e=>exact Keeps.new (nH a).1
 | mkF g F' b c=>exact Keeps.refl _
theorem Made.frame {o:dU}{d:Option Nat}{F':aA}{L':Loc}{v:SV}(h:Made o d F L ρ F' L' v):∀j,d≠some j->L'.get j=L.get j:=by
 intro j a;cases h with
 | box g=>exact cm (fun e=>a (by rw[e]))
 | alloc g=>exact cm (fun e=>a (by rw[e]))
 | mkS g=>exact cm (fun e=>a (by rw[e]))
 | mkV g n f=>exact cm (fun e=>a (by rw[e]))
 | mkF g F' b c=>rfl
theorem ij {o:dU}{d:Option Nat}{L L':Loc}{ρ ρ':Env}(l:∀x∈bC o,val L' ρ' x=val L ρ x) (c:∀k,d=some k->(L'.get k=none->L.get k=none)) (h:bI o d L' ρ'=true):bI o d L ρ=true:=by
 cases o<;>cases d<;>simp only[bI] at h ⊢<;>try (cases h;done)
 ·rename_i t x k;rw[Option.isNone_iff_eq_none] at h ⊢;exact c k rfl h
 ·rename_i t zs k;rw[Option.isNone_iff_eq_none] at h ⊢;exact c k rfl h
 ·rename_i e n sz xs;rw[<-mQ (xs:=xs) l];exact h
 ·rename_i e n sz xs k;rw[<-mQ (xs:=xs) l];exact h
 ·rename_i e sz n zs k;obtain⟨f,j,a⟩:=nG (L:=L') (ρ:=ρ') (e:=e) h;have a:Nat.ble n 9223372036854775807=true:=Nat.ble_eq_true_of_le a;rw[c k rfl f,zq j,a]
 ·rename_i e sz b zs x k;obtain⟨f,j,_,a⟩:=nH (L:=L') (ρ:=ρ') (e:=e) h;rw[l x (by simp[bC])] at a;rw[c k rfl f,zq j,a]
theorem Made.like {o:dU}{d:Option Nat}{ρ ρ':Env}{F':aA}{L':Loc}{v:SV}(b:∀x∈bC o,val L ρ' x=val L ρ x) (h:Made o d F L ρ' F' L' v):Made o d F L ρ F' L' v:=by
 cases h with
 | box g=>rw[b _ (by simp[bC])];exact .box g
 | alloc g=>exact .alloc g
 | mkS g=>exact .mkS g
 | mkV g n e=>exact .mkV g n (by rw[e,b _ (by simp[bC])])
 | mkF g F' a c =>
  rename_i xs;rw[cA (xs:=xs) b] at c;exact .mkF g F' a c
theorem fN {L L':Loc}{ρ:Env}(b:Vd L ρ) (c:Keeps L L') (x:X):val L' ρ x=val L ρ x:=by
 simp only[val];cases e:ev ρ x with
 | v u=>rfl
 | el a j=>rfl
 | own k off =>
  obtain⟨g,ty,cs,h⟩:=b.ev e;simp only[conc,c k g ty cs h,h]
theorem cJ {l:List X}{d:Option Nat}{v:SV}(h:∀k,d=some k->k∉cB l):∀x∈l,val L (put d v ρ) x=val L ρ x:=fun x a=>by simp only[val,fM h x a]
theorem EL {x y:dU}{dx dy:Option Nat}{F1 F2:aA}{L1 L2:Loc}{v1 v2:SV}(s:bI x dx L ρ=true) (aE:bI y dy L ρ=true) (f:∀k,dx=some k->k∉cB (bC y)) (ay:∀k,dy=some k->k∉cB (bC x))
  (d:∀k,dx=some k->dy≠some k) (j:Vd L ρ) (h1:Made y dy F L ρ F1 L1 v1) (h2:Made x dx F1 L1 (put dy v1 ρ) F2 L2 v2) :
  ∃Fa La,Made x dx F L ρ Fa La v2/\Made y dy Fa La (put dx v2 ρ) F2 L2 v1:=by
 have ux:∀z∈bC x,val L1 (put dy v1 ρ) z=val L ρ z:=fun z hz=>by
  rw[cJ ay z hz,fN j (h1.get aE)]
 cases h2 with
 | box c =>
  rw[ux _ (by simp[bC])];rename_i t z k;have a:∀{o:Own},Keeps L (L.set k o):=by
   simp only[bI,Option.isNone_iff_eq_none] at s;exact Keeps.new s
  cases h1 with
  | box b =>
   rename_i t' q k';refine⟨F,_,.box c,?_⟩;rw[set_comm L _ _ (fun e=>d k rfl (by rw[e]))];have e:val (L.set k (.box c t (aG (val L ρ z)))) (put (some k) (.own k 0) ρ) q=val L ρ q:=by
    rw[cJ f q (by simp[bC]),fN j (a)]
   rw[<-e];exact .box b
  | alloc b =>
   rename_i t' am k';refine⟨F,_,.box c,?_⟩;rw[set_comm L _ _ (fun e=>d k rfl (by rw[e]))];exact .alloc b
  | mkS b =>
   refine⟨F,_,.box c,?_⟩;rw[set_comm L _ _ (fun e=>d k rfl (by rw[e]))];exact .mkS b
  | mkV b n1 m =>
   refine⟨F,_,.box c,?_⟩;rw[set_comm L _ _ (fun e=>d k rfl (by rw[e]))];refine .mkV b n1 ?_;rw[m,cJ f _ (by simp[bC]),fN j a]
  | mkF b F' h r =>
   rename_i e' n' ab l;refine⟨F,_,.box c,.mkF b _ h ?_⟩;rw[cA (L:=L) (ρ:=ρ) (xs:=l) (fun u hu=>by rw[cJ f u (by simpa[bC] using hu),fN j a])];exact r
 | alloc c =>
  rename_i t zs k;have a:∀{o:Own},Keeps L (L.set k o):=by
   simp only[bI,Option.isNone_iff_eq_none] at s;exact Keeps.new s
  cases h1 with
  | box b =>
   rename_i t' q k';refine⟨F,_,.alloc c,?_⟩;rw[set_comm L _ _ (fun e=>d k rfl (by rw[e]))];have e:val (L.set k (.box c t zs)) (put (some k) (.own k 0) ρ) q=val L ρ q:=by
    rw[cJ f q (by simp[bC]),fN j (a)]
   rw[<-e];exact .box b
  | alloc b =>
   rename_i t' am k';refine⟨F,_,.alloc c,?_⟩;rw[set_comm L _ _ (fun e=>d k rfl (by rw[e]))];exact .alloc b
  | mkS b =>
   refine⟨F,_,.alloc c,?_⟩;rw[set_comm L _ _ (fun e=>d k rfl (by rw[e]))];exact .mkS b
  | mkV b n1 m =>
   refine⟨F,_,.alloc c,?_⟩;rw[set_comm L _ _ (fun e=>d k rfl (by rw[e]))];refine .mkV b n1 ?_;rw[m,cJ f _ (by simp[bC]),fN j a]
  | mkF b F' h r =>
   rename_i e' n' ab l;refine⟨F,_,.alloc c,.mkF b _ h ?_⟩;rw[cA (L:=L) (ρ:=ρ) (xs:=l) (fun u hu=>by rw[cJ f u (by simpa[bC] using hu),fN j a])];exact r
 | mkS c =>
  rename_i t ag p zs k;have a:∀{o:Own},Keeps L (L.set k o):=by
   exact Keeps.new (nG s).1
  cases h1 with
  | box b =>
   rename_i t' q k';refine⟨F,_,.mkS c,?_⟩;rw[set_comm L _ _ (fun e=>d k rfl (by rw[e]))];have e:val (L.set k (.row (.slice (some ⟨c,0,none⟩) p p) t ag p (List.replicate p zs).flatten)) (put (some k) (.v (.slice (some ⟨c,0,none⟩) p p)) ρ) q=val L ρ q:=by
    rw[cJ f q (by simp[bC]),fN j (a)]
   rw[<-e];exact .box b
  | alloc b =>
   rename_i t' am k';refine⟨F,_,.mkS c,?_⟩;rw[set_comm L _ _ (fun e=>d k rfl (by rw[e]))];exact .alloc b
  | mkS b =>
   refine⟨F,_,.mkS c,?_⟩;rw[set_comm L _ _ (fun e=>d k rfl (by rw[e]))];exact .mkS b
  | mkV b n1 m =>
   refine⟨F,_,.mkS c,?_⟩;rw[set_comm L _ _ (fun e=>d k rfl (by rw[e]))];refine .mkV b n1 ?_;rw[m,cJ f _ (by simp[bC]),fN j a]
  | mkF b F' h r =>
   rename_i e' n' ab l;refine⟨F,_,.mkS c,.mkF b _ h ?_⟩;rw[cA (L:=L) (ρ:=ρ) (xs:=l) (fun u hu=>by rw[cJ f u (by simpa[bC] using hu),fN j a])];exact r
 | mkV c p ar =>
  rename_i t ag b0 zs x0 k;have w:p=lR (val L ρ x0):=by rw[ar,ux _ (by simp[bC])]
  clear ar
  have a:∀{o:Own},Keeps L (L.set k o):=by
   exact Keeps.new (nH s).1
  cases h1 with
  | box b =>
   rename_i t' q k';refine⟨F,_,.mkV c p w,?_⟩;rw[set_comm L _ _ (fun e=>d k rfl (by rw[e]))];have e:val (L.set k (.row (.slice (some ⟨c,0,none⟩) p p) t ag p (List.replicate p zs).flatten)) (put (some k) (.v (.slice (some ⟨c,0,none⟩) p p)) ρ) q=val L ρ q:=by
    rw[cJ f q (by simp[bC]),fN j (a)]
   rw[<-e];exact .box b
  | alloc b =>
   rename_i t' am k';refine⟨F,_,.mkV c p w,?_⟩;rw[set_comm L _ _ (fun e=>d k rfl (by rw[e]))];exact .alloc b
  | mkS b =>
   refine⟨F,_,.mkV c p w,?_⟩;rw[set_comm L _ _ (fun e=>d k rfl (by rw[e]))];exact .mkS b
  | mkV b n1 m =>
   refine⟨F,_,.mkV c p w,?_⟩;rw[set_comm L _ _ (fun e=>d k rfl (by rw[e]))];refine .mkV b n1 ?_;rw[m,cJ f _ (by simp[bC]),fN j a]
  | mkF b F' h r =>
   rename_i e' n' ab l;refine⟨F,_,.mkV c p w,.mkF b _ h ?_⟩;rw[cA (L:=L) (ρ:=ρ) (xs:=l) (fun u hu=>by rw[cJ f u (by simpa[bC] using hu),fN j a])];exact r
 | mkF c F' h r =>
  rename_i e n sz xs;have ax:=cA (xs:=xs) ux;rw[ax] at r;cases h1 with
  | box b =>
   rename_i t' q k';refine⟨F2,L,.mkF c _ h r,?_⟩;have e:=cJ (L:=L) (ρ:=ρ) (v:=.v (.slice (some ⟨c,0,none⟩) n n)) f q (by simp[bC]);rw[<-e];exact .box b
  | alloc b=>exact⟨F2,L,.mkF c _ h r,.alloc b⟩
  | mkS b=>exact⟨F2,L,.mkF c _ h r,.mkS b⟩
  | mkV b n1 m=>exact⟨F2,L,.mkF c _ h r,.mkV b n1 (by rw[m,cJ f _ (by simp[bC])])⟩
  | mkF b F1' ap ba =>
   rename_i e' n' ab l;refine⟨F2,L,.mkF c _ (aA.le_trans ap h) r,.mkF b _ (aA.le_refl _) ?_⟩;rw[cA (L:=L) (ρ:=ρ) (xs:=l) (fun u hu=>by rw[cJ f u (by simpa[bC] using hu)])];exact h _ _ ba
theorem Gs {x y:dU}{dx dy:Option Nat}(hr:Real F L) (hc:vK x y=true) (ac:∀k,dx=some k->k∉cB (bC y)) (ag:∀k,dy=some k->k∉cB (bC x)) (d:∀k,dx=some k->dy≠some k)
  (ar:Vd L ρ) (w:evalOp P x dx F L ρ (fun F1 L1 ce=>evalOp P y dy F1 L1 ce K)):evalOp P y dy F L ρ (fun F1 L1 ce=>evalOp P x dx F1 L1 ce K):=by
 have ee:∀k,dy=some k->dx≠some k:=fun k e e'=>d k e' e;simp only[vK,XK,Xf] at hc;rcases hc with((((⟨⟨hx,hy⟩,dd⟩ | ⟨hx,hy⟩) | ⟨hx,hy⟩) | ⟨hx,hy⟩) | ⟨hx,hy⟩) | ⟨hx,hy⟩
 ·rw[cu hx] at w;obtain⟨v,hT,q⟩:=(fk hx).ex _ w
  clear w
  have am:∀{F':aA}{L':Loc}{u:SV},F.le F'->Keeps L L'->K F' L' (put dy u (put dx v ρ))->(Gn x=false\/L'=L)->evalOp P x dx F' L' (put dy u ρ) K:=by
   intro F' L' u hF hL hk hR;rw[cu hx];have be:Alike x L L' ρ (put dy u ρ):=fun z r=>⟨fM ag z r,fun k off e=>by
    obtain⟨g,ty,cs,h⟩:=ar.ev e;rw[hL k g ty cs h,h]⟩
   refine(fk hx).mono _ _ (fun v' dr=>?_) (qt hx hF be hT hR);subst dr;rw[put_comm d];exact hk
  have hv:=cJ (L:=L) (ρ:=ρ) (v:=v) ac
  by_cases bi:cT y=true
  ·rw[cu bi] at q ⊢;have be:Alike y L L (put dx v ρ) ρ:=fun z r=>⟨(fM ac z r).symm,fun _ _ _=>rfl⟩;exact(fk bi).mono _ _ (fun u hu=>am (aA.le_refl F) (Keeps.refl _) hu (.inr rfl)) (qt bi (aA.le_refl F) be q)
  ·have bt:Gn x=false:=by
    rcases dd with h | h
    ·cases e:Gn x with
     | false=>rfl
     | true=>rw[e] at h;cases h
    ·exact v7 h bi
   by_cases cz:ep y=true
   ·rw[bR cz] at q ⊢;obtain⟨l,h2⟩:=q;have p:bI y dy L ρ=true:=ij (L':=L) (ρ':=put dx v ρ) hv (fun k _ e=>e) l;refine⟨p,fun F' L' u hm bk=>am hm.le (hm.get p) (h2 F' L' u ?_ bk) (.inl bt)⟩;exact hm.like fun z r=>(hv z r).symm
   ·cases y<;>first | (exfalso;revert bi cz hy;simp[Cr,cT,gK,ep,oM];done) | skip
    case callD f args =>
     have e1:=dm (xs:=args) hv;simp only[evalOp,e1] at q ⊢;exact q.imp fun F' L' u bc hl _ h=>am bc hl.keeps h (.inl bt)
    case callVD f args =>
     have e0:=fM (v:=v) (ρ:=ρ) ac f (by simp[bC]);have e1:=dm (xs:=args) (L:=L) (L':=L) (ρ:=ρ) (ρ':=put dx v ρ) (fun z r=>hv z (by simp[bC,r]));simp only[evalOp,e0,e1] at q ⊢;split at q
     ·exact q.imp fun F' L' u bc hl _ h=>am bc hl.keeps h (.inl bt)
     ·exact q.elim
    case appD e sz b zs s z =>
     have e0:=fM (v:=v) (ρ:=ρ) ac s (by simp[bC]);have e1:=fM (v:=v) (ρ:=ρ) ac z (by simp[bC]);simp only[evalOp,e0,e1] at q ⊢;split at q
     ·refine q.imp (aA.le_refl F) fun kd n xs n' bp u dl bk h=>am (aA.le_refl F) ?_ (h bk) (.inl bt);rcases dl with h | ⟨_,h⟩
      ·exact Keeps.row h
      ·exact Keeps.new h
     ·exact q.elim
 ·have ao:∀{f:Nat}{args:List Value},dQ P f args F L dx (fun F' L' v=>evalOp P y dy F' L' (put dx (.v v) ρ) K) ->
    bI y dy L ρ=true/\∀F' L' u,Made y dy F L ρ F' L' u->dQ P f args F' L' dx (fun F2 L2 v=>K F2 L2 (put dx (.v v) (put dy u ρ))):=by
   intro f args hC;have up:∀{L1:Loc},Left dx L L1->∀{u:SV},∀z∈bC y,val L1 (put dx u ρ) z=val L ρ z:=by
    intro L1 hl u z r;rw[cJ ac z r,fN ar hl.keeps]
   have p:bI y dy L ρ=true:=by
    obtain⟨F',L',v,bc,hl,_,h⟩:=hC.some hr;rw[bR hy] at h;refine ij (L':=L') (ρ':=put dx (.v v) ρ) (up hl) (fun k hk e=>?_) h.1;rcases hl with rfl | ⟨j,o,hj,hn,rfl⟩ | ⟨j,rv,t,sz,n,xs,hj,rfl⟩
    ·exact e
    ·rw[cm (fun ej=>d j hj (by rw[<-ej];exact hk))] at e;exact e
    ·rw[Loc.Wt] at e;split at e
     ·cases e
     ·exact e
   refine⟨p,fun F' L' u hm=>(hC.up hm.le hr.glob (hm.part p) (fun k hk hn=>by rw[hm.frame k (d k hk)];exact hn)).imp fun F2 L2 v bc de ax h=>?_⟩
   clear de
   obtain⟨l,du,h2⟩:=h
   clear du
   rw[put_comm d];rcases h2 with⟨rfl,h2⟩ | ⟨k,o,hk,hn,rfl,h2⟩ | ⟨kr,rv,t,sz,n,xs,co,rfl,h2⟩
   ·rw[bR hy] at h2;refine h2.2 F2 L2 u ?_ ax;have aa:=up (L1:=L) (.inl rfl) (u:=.v v)
    clear up h2
    cases hm with
    | box g=>rw[<-aa _ (by simp[bC])];exact .box g
    | alloc g=>exact .alloc g
    | mkS g=>exact .mkS g
    | mkV g n hn=>exact .mkV g n (by rw[hn,aa _ (by simp[bC])])
    | mkF g F' bb hg =>
     rename_i xs;refine .mkF g _ (aA.le_refl _) ?_;rw[cA (L:=L) (ρ:=ρ) (xs:=xs) (fun z r=>aa z (by simpa[bC] using r))];exact l _ _ hg
   ·rw[bR hy] at h2;refine h2.2 F2 _ u ?_ ax;have aa:=up (L1:=L.set k o) (.inr (.inl ⟨k,o,hk,hn,rfl⟩)) (u:=.v v)
    clear up h2
    cases hm with
    | box g =>
     rw[set_comm L _ _ (fun e=>d k hk (by rw[e])),<-aa _ (by simp[bC])];exact .box g
    | alloc g =>
     rw[set_comm L _ _ (fun e=>d k hk (by rw[e]))];exact .alloc g
    | mkS g =>
     rw[set_comm L _ _ (fun e=>d k hk (by rw[e]))];exact .mkS g
    | mkV g n hn =>
     rw[set_comm L _ _ (fun e=>d k hk (by rw[e]))];exact .mkV g n (by rw[hn,aa _ (by simp[bC])])
    | mkF g F' bb hg =>
     rename_i xs;refine .mkF g _ (aA.le_refl _) ?_;rw[cA (L:=L) (ρ:=ρ) (xs:=xs) (fun z r=>aa z (by simpa[bC] using r))];exact l _ _ hg
   ·rw[bR hy] at h2;refine h2.2 F2 _ u ?_ ax;have aa:=up (L1:=L.set kr (.row (.slice none 0 0) t sz 0 [])) (.inr (.inr ⟨kr,rv,t,sz,n,xs,co,rfl⟩)) (u:=.v v);have aw:∀k,dy=some k->ep y=true->bI y dy L ρ=true->(∀e n' ds bp,y≠.mkFD e n' ds bp)->kr≠k:=by
     intro k hk _ hc dC e;subst hk e;cases y<;>simp only[bI,co,Option.isNone_some,Xm] at hc;exact dC _ _ _ _ rfl
    clear up h2
    cases hm with
    | box g =>
     rw[set_comm L _ _ (aw _ rfl hy p (fun _ _ _ _=>by simp)).symm,<-aa _ (by simp[bC])];exact .box g
    | alloc g =>
     rw[set_comm L _ _ (aw _ rfl hy p (fun _ _ _ _=>by simp)).symm];exact .alloc g
    | mkS g =>
     rw[set_comm L _ _ (aw _ rfl hy p (fun _ _ _ _=>by simp)).symm];exact .mkS g
    | mkV g n hn =>
     rw[set_comm L _ _ (aw _ rfl hy p (fun _ _ _ _=>by simp)).symm];exact .mkV g n (by rw[hn,aa _ (by simp[bC])])
    | mkF g F' bb hg =>
     rename_i xs;refine .mkF g _ (aA.le_refl _) ?_;rw[cA (L:=L) (ρ:=ρ) (xs:=xs) (fun z r=>aa z (by simpa[bC] using r))];exact l _ _ hg
  cases x<;>first | (exfalso;revert hx;simp[gK];done) | skip
  case callD f args =>
   simp only[evalOp] at w;obtain⟨l,h2⟩:=ao w;rw[bR hy];refine⟨l,fun F' L' u hm _=>?_⟩;have e1:bf L' (put dy u ρ) args=bf L ρ args:=dm fun z r=>by rw[cJ ag z (by simpa[bC] using r),fN ar (hm.get l)]
   simp only[evalOp,e1];exact h2 F' L' u hm
  case callVD f args =>
   simp only[evalOp] at w;split at w
   case h_2=>exact w.elim
   rename_i en fi ca hf;obtain⟨l,h2⟩:=ao w;rw[bR hy];refine⟨l,fun F' L' u hm _=>?_⟩;have e0:=fM (v:=u) (ρ:=ρ) ag f (by simp[bC]);have e1:bf L' (put dy u ρ) args=bf L ρ args:=dm fun z r=>by rw[cJ ag z (by simp[bC,r]),fN ar (hm.get l)]
   simp only[evalOp,e0,e1,hf];exact h2 F' L' u hm
 ·cases x<;>first | (exfalso;revert hx;simp[oM];done) | skip
  case appD e sz b zs s z =>
   rw[AV] at w;split at w
   case h_2=>exact w.elim
   rename_i sv xv cy cr;have p:bI y dy L ρ=true:=by
    obtain⟨kd,v,n',bp,l,_,h⟩:=w.some hr;rw[bR hy] at h;have cc:Keeps L (L.set kd (.row v e sz n' bp)):=by
     rcases l with⟨n,xs,l⟩ | ⟨_,l⟩
     ·exact Keeps.row l
     ·exact Keeps.new l
    refine ij (L':=_) (ρ':=put dx (.v v) ρ) (fun u hu=>by rw[cJ ac u hu,fN ar cc]) (fun k hk e=>?_) h.1;rw[Loc.Wt] at e;split at e
    ·cases e
    ·exact e
   rw[bR hy];refine⟨p,fun F' L' u hm df=>?_⟩
   clear df
   have e0:=fM (v:=u) (ρ:=ρ) ag s (by simp[bC]);have e1:=fM (v:=u) (ρ:=ρ) ag z (by simp[bC]);simp only[evalOp,e0,e1,cy,cr];obtain⟨kd,n,xs,m,news,l,⟨ad,c,h2,h3,h4⟩,h5,h6,h7,h8⟩:=w;have cc:∀{o:Own},Keeps L (L.set kd o):=by
    rcases l with l | ⟨_,l,_⟩ | ⟨_,l,_⟩
    ·exact Keeps.row l
    ·exact Keeps.new l
    ·exact Keeps.new l
   have aw:∀k,dy=some k->L.get k=none->kd≠k:=by
    rintro k hk hn rfl;rcases l with l | ⟨l,_⟩ | ⟨l,_⟩
    ·rw[hn] at l;cases l
    ·exact d kd l hk
    ·exact d kd l hk
   refine⟨kd,n,xs,m,news,?_,⟨ad,c,h2,h3,?_⟩,h5,h6,h7,fun v hv ax=>?_⟩
   ·rcases l with l | ⟨h0,l,dp⟩ | ⟨h0,l,ad,q1,q2,q3,q4⟩
    ·exact .inl (hm.part p kd _ l)
    ·exact .inr (.inl ⟨h0,by rw[hm.frame kd (d kd h0)];exact l,dp⟩)
    ·exact .inr (.inr ⟨h0,by rw[hm.frame kd (d kd h0)];exact l,ad,q1,q2,q3,q4.imp (·.mono hm.le) id⟩)
   ·rcases h4 with h4 | h4
    ·exact .inl (h4.mono hm.le)
    ·exact .inr h4
   ·have h9:=h8 v hv (ax.down hm.le hr.glob (EK (hm.part p)));rw[bR hy] at h9;rw[put_comm d];refine h9.2 F' _ u ?_ ax;have aa:∀z∈bC y,val (L.set kd (.row v e sz (n+m) (xs++news))) (put dx (.v v) ρ) z=val L ρ z:=fun z r=>by
     rw[cJ ac z r,fN ar cc]
    clear h8 h9 cy cr e0 e1
    cases hm with
    | box g =>
     rename_i t x k;simp only[bI,Option.isNone_iff_eq_none] at p;rw[set_comm L _ _ (fun e=>aw k rfl p e.symm),<-aa _ (by simp[bC])];exact .box g
    | alloc g =>
     rename_i t zs k;simp only[bI,Option.isNone_iff_eq_none] at p;rw[set_comm L _ _ (fun e=>aw k rfl p e.symm)];exact .alloc g
    | mkS g =>
     rename_i e0 dk n0 zs k;rw[set_comm L _ _ (fun e=>aw k rfl (nG p).1 e.symm)];exact .mkS g
    | mkV g n hn =>
     rename_i e0 dk b0 zs x0 k;rw[set_comm L _ _ (fun e=>aw k rfl (nH p).1 e.symm)];exact .mkV g n (by rw[hn,aa _ (by simp[bC])])
    | mkF g F' bb hg =>
     rename_i dA;refine .mkF g _ bb ?_;rw[cA (L:=L) (ρ:=ρ) (xs:=dA) (fun z r=>aa z (by simpa[bC] using r))];exact hg
 ·rw[bR hx] at w;obtain⟨bj,w⟩:=w;have bu:bI y dy L ρ=true:=by
   obtain⟨F',L',v,hm,bc,bk⟩:=yw hr bj;have h:=w F' L' v hm bk;rw[bR hy] at h;refine ij (L':=L') (ρ':=put dx v ρ) (fun z r=>by rw[cJ ac z r,fN ar (hm.get bj)]) (fun k hk e=>?_) h.1;rw[hm.frame k (fun e'=>d k e' hk)] at e;exact e
  rw[bR hy];refine⟨bu,fun F1 L1 v1 cd et=>?_⟩;rw[bR hx];refine⟨ij (L':=L) (ρ':=ρ) (fun z r=>by rw[cJ ag z r,fN ar (cd.get bu)]) (fun k hk e=>by rw[cd.frame k (d k hk)];exact e) bj,fun F2 L2 v2 dg ax=>?_⟩;obtain⟨Fa,La,ha,hb⟩:=EL bj bu ac ag d ar cd dg;have cX:bI y dy La (put dx v2 ρ)=true :=
   ij (L':=L) (ρ':=ρ) (fun z r=>by rw[cJ ac z r,fN ar (ha.get bj)]) (fun k hk e=>by rw[ha.frame k (fun e'=>d k e' hk)];exact e) bu
  have dq:Real Fa La:=ax.down hb.le (hr.glob.mono ha.le) (hb.part cX);have h:=w Fa La v2 ha dq;rw[bR hy] at h;rw[put_comm d];exact h.2 F2 L2 v1 hb ax
 ·have bl:=qK hx;rw[cu bl] at w;obtain⟨v,hT,q⟩:=(fk bl).ex _ w
  clear w
  obtain⟨n,a,z,k,off,g,t,cs,ho,e1,e2,e3,e4,e5,w⟩:=ig hy q;have ha:a∈bC y:=by rcases ho with rfl | rfl<;>simp[bC]
  have r:z∈bC y:=by rcases ho with rfl | rfl<;>simp[bC]
  have q0:=fM (v:=v) (ρ:=ρ) ac a ha;have q1:=cJ (L:=L) (v:=v) (ρ:=ρ) ac z r;rw[q0] at e3;rw[q1] at e1 e2 w;refine gT ho e1 e2 e3 e4 e5 ?_;have h3:=(fk bl).mono _ (fun u=>K F _ (put dx u (put dy (.v undef) ρ))) (fun u hu=>by subst hu;rw[put_comm d];exact w)
   (qt bl (aA.le_refl F) (s6 (L:=L) (ρ:=ρ) (v:=.v undef) ag) hT)
  rw[cu bl];exact yu hx ho (AW e4) (fun j hj=>cm hj) h3
 ·have bd:=qK hy;obtain⟨n,a,z,k,off,g,t,cs,ho,e1,e2,e3,e4,e5,w⟩:=ig hx w;have ha:a∈bC x:=by rcases ho with rfl | rfl<;>simp[bC]
  have r:z∈bC x:=by rcases ho with rfl | rfl<;>simp[bC]
  rw[cu bd] at w;obtain⟨v,hT,w⟩:=(fk bd).ex _ w;have hT:=yu (L':=L) hy ho (fun sv=>(AW e4 sv).symm) (fun j hj=>(cm hj).symm) hT;have be:Alike y L L (put dx (.v undef) ρ) ρ:=fun u hu=>⟨(fM ac u hu).symm,fun _ _ _=>rfl⟩;have hT:=qt bd (aA.le_refl F) be hT;rw[cu bd];refine(fk bd).mono _ _ (fun u hu=>?_) hT;subst hu;have q0:=fM (v:=u) (ρ:=ρ) ag a ha;have q1:=cJ (L:=L) (v:=u) (ρ:=ρ) ag z r;refine gT ho (by rw[q1];exact e1) (by rw[q1];exact e2) (by rw[q0];exact e3) e4 e5 ?_;rw[q1,put_comm d];exact w
end
section
variable {P:Program}{F:aA}{L:Loc}{ρ:Env}{K K':cF}
theorem Left.none {d:Option Nat}{L L':Loc}(h:Left d L L') {j:Nat}(f:d≠some j) (e:L.get j=none):L'.get j=none:=by
 rcases h with rfl | ⟨k,o,c,b,rfl⟩ | ⟨k,l,t,sz,n,xs,b,rfl⟩
 ·exact e
 ·rw[cm (fun a=>f (by rw[a];exact c))];exact e
 ·rw[cm (fun a=>by rw[a,b] at e;cases e)];exact e
theorem j5 {o:dU}(ho:okD o=true) {d:Option Nat}(hr:Real F L) (w:Vd L ρ) (l:evalOp P o d F L ρ K)
  (hk:∀F1 L1 r,(∃v,r=put d v ρ)->F.le F1->Real F1 L1->Vd L1 r->(∀j,d≠some j->L.get j=none->L1.get j=none)->K F1 L1 r->K' F1 L1 r):evalOp P o d F L ρ K':=by
 have a:∀{L1:Loc}{v:SV},Keeps L L1->(∀k off,v=.own k off->∃g ty cs,L1.get k=some (.box g ty cs))->Vd L1 (put d v ρ):=by
  intro L1 v hL hv t k off e;have m:ρ t=.own k off->∃g ty cs,L1.get k=some (.box g ty cs):=fun e=>by
   obtain⟨g,ty,cs,h⟩:=w t k off e;exact⟨g,ty,cs,hL k g ty cs h⟩
  rw[put_eq] at e;cases d with
  | none=>exact m e
  | some k' =>
   simp only[] at e;split at e
   ·exact hv k off e
   ·exact m e
 by_cases hs:cT o=true
 ·rw[cu hs] at l ⊢;obtain⟨v,hT,hv⟩:=(fk hs).ex _ l;refine(fk hs).mono _ _ (fun u hu=>?_) hT;subst hu;refine hk _ _ _ ⟨_,rfl⟩ (aA.le_refl F) hr (a (Keeps.refl L) fun k off e=>?_) (fun _ _ h=>h) hv;subst e;obtain⟨x,_,p,hx⟩:=Gp hs hT;exact w.ev hx
 ·by_cases ha:ep o=true
  ·rw[bR ha] at l ⊢;refine⟨l.1,fun F' L' v hm c=>hk _ _ _ ⟨v,rfl⟩ hm.le c (a (hm.get l.1) fun k off e=>?_) (fun j y e=>by rw[hm.frame j y];exact e) (l.2 F' L' v hm c)⟩;cases hm with
   | box g=>injection e with e1 e2;subst e1;exact⟨_,_,_,by rw[Loc.Wt,j3 rfl]⟩
   | alloc g=>injection e with e1 e2;subst e1;exact⟨_,_,_,by rw[Loc.Wt,j3 rfl]⟩
   | mkS g=>cases e
   | mkV g n hn=>cases e
   | mkF g F' q hg=>cases e
  ·cases o<;>first | (exfalso;revert hs ha ho;simp[okD,Cr,cT,gK,ep,oM,ic];done) | skip
   case callD f args =>
    simp only[evalOp] at l ⊢;exact l.imp fun F' L' v q hl c h=>hk _ _ _ ⟨_,rfl⟩ q c (a hl.keeps fun k off e=>by cases e) (fun j y e=>hl.none y e) h
   case callVD f args =>
    simp only[evalOp] at l ⊢;split at l
    ·exact l.imp fun F' L' v q hl c h=>hk _ _ _ ⟨_,rfl⟩ q c (a hl.keeps fun k off e=>by cases e) (fun j y e=>hl.none y e) h
    ·exact l.elim
   case appD e sz b zs s z =>
    simp only[evalOp] at l ⊢;split at l
    ·refine l.imp (aA.le_refl F) fun kd n xs n' bc u ae c h=>hk _ _ _ ⟨_,rfl⟩ (aA.le_refl F) c (a ?_ fun k off e=>by cases e) ?_ (h c)
     ·rcases ae with h | ⟨_,h⟩
      ·exact Keeps.row h
      ·exact Keeps.new h
     ·intro j y e;have am:j≠kd:=by
       rintro rfl;rcases ae with h | ⟨h,_⟩
       ·rw[e] at h;cases h
       ·exact y h
      rw[cm am];exact e
    ·exact l.elim
   all_goals
    obtain⟨n',a',x',k,off,g,ty,cs,an,e1,e2,e3,e4,e5,l⟩:=ig rfl l;refine gT an e1 e2 e3 e4 e5 (hk _ _ _ ⟨_,rfl⟩ (aA.le_refl F) (Real.store (uN e5) hr e4) ?_ (fun j _ e=>by rw[cm (fun ej=>by rw[ej,e4] at e;cases e)];exact e) l);intro t k' p e;have m:ρ t=.own k' p->∃g' ty' cs',Loc.get (L.set k (.box g ty (aM cs off (aG (val L ρ x'))))) k'=some (.box g' ty' cs'):=fun e=>by
     obtain⟨g',ty',cs',h⟩:=w t k' p e;rw[Loc.Wt];split
     ·exact⟨_,_,_,rfl⟩
     ·exact⟨_,_,_,h⟩
    rw[put_eq] at e;cases d with
    | none=>exact m e
    | some k' =>
     simp only[] at e;split at e
     ·cases e
     ·exact m e
theorem jm {o:dU}(l:okD o=true) {d:Option Nat}(m:Real F L) (b:Vd L ρ) (j:evalOp P o d F L ρ K)
  (n:∀F1 L1 a,(∃v,a=put d v ρ)->F.le F1->Real F1 L1->Vd L1 a->K F1 L1 a->K' F1 L1 a):evalOp P o d F L ρ K' :=
 j5 l m b j fun F1 L1 a c h f k _ e=>n F1 L1 a c h f k e
theorem tZ {o:dU}(t:okD o=true) {d:Option Nat}(c:Real F L) (a:evalOp P o d F L ρ K):∃v F1 L1,K F1 L1 (put d v ρ):=by
 by_cases l:cT o=true
 ·rw[cu l] at a;obtain⟨v,_,r⟩:=(fk l).ex _ a;exact⟨v,F,L,r⟩
 ·by_cases m:ep o=true
  ·rw[bR m] at a;obtain⟨F',L',v,n,_,j⟩:=yw c a.1;exact⟨v,F',L',a.2 F' L' v n j⟩
  ·cases o<;>first | (exfalso;revert l m t;simp[okD,Cr,cT,gK,ep,oM,ic];done) | skip
   case callD f args =>
    simp only[evalOp] at a;obtain⟨F',L',v,_,_,_,h⟩:=a.some c;exact⟨_,F',L',h⟩
   case callVD f args =>
    simp only[evalOp] at a;split at a
    ·obtain⟨F',L',v,_,_,_,h⟩:=a.some c;exact⟨_,F',L',h⟩
    ·exact a.elim
   case appD e sz b zs s z =>
    simp only[evalOp] at a;split at a
    ·obtain⟨u,v,n',p,_,_,h⟩:=a.some c;exact⟨_,F,_,h⟩
    ·exact a.elim
   all_goals
    obtain⟨n',a',x',k,off,g,ty,cs,q,e1,e2,y,x,w,a⟩:=ig rfl a;exact⟨_,F,_,a⟩
def gU:dU:=.mov (.c undef)
def res (g:Option (Nat×Bool)) (ρ:Env) (o:dU):Option dU :=
 match g with
 | none=>some o
 | some (s,a)=>match ρ s with
  | .v (.bool b)=>some (if b=a then o else gU)
  | .v (.tuple _)=>some gU
  | _=>none
theorem fG {d:Option Nat}{o:dU}{g:Option (Nat×Bool)}{c:List ak} :
  aV P (.op d o g::c) F L ρ K↔∃o',res g ρ o=some o'/\evalOp P o' d F L ρ (fun F1 L1 h=>aV P c F1 L1 h K):=by
 cases g with
 | none=>simp only[aV,res,xo,exists_eq_left']
 | some p =>
  obtain⟨s,f⟩:=p;simp only[aV,res];cases e:ρ s with
  | own k off=>simp
  | el a j=>simp
  | v u =>
   cases u<;>simp only[xo,exists_eq_left',reduceCtorEq,false_and,exists_false]
   case bool b =>
    cases b<;>cases f<;>simp[vo,ku e,gU,evalOp,aI,ev]
   case tuple vs=>rfl
def looks (o:dU) (g:Option (Nat×Bool)):List Nat :=
 match g with
 | none=>cB (bC o)
 | some (s,_)=>s::cB (bC o)
def rm (d:Option Nat) (l:List Nat):Bool :=
 match d with
 | none=>true
 | some k=>match fw l k with | true=>false | false=>true
def AX:Option Nat->Option Nat->Bool
 | some a,some b=>match Nat.beq a b with | true=>false | false=>true
 | _,_=>true
def kT:ak->ak->Bool
 | .op b x c,.op a y d=>okD x&&okD y&&vK x y&&rm b (looks y d)&&rm a (looks x c)&&AX b a
 | _,_=>false
theorem jP {d:Option Nat}{l:List Nat}(h:rm d l=true):∀k,d=some k->k∉l:=by
 rintro k rfl a;simp only[rm,cI.2 a] at h;cases h
theorem nI {d a:Option Nat}(h:AX d a=true):∀k,d=some k->a≠some k:=by
 rintro k rfl e;subst e;simp[AX] at h
theorem nZ {g:Option (Nat×Bool)}{o:dU}{d:Option Nat}{v:SV}(h:∀k,d=some k->k∉looks o g):res g (put d v ρ) o=res g ρ o:=by
 cases g with
 | none=>rfl
 | some p =>
  obtain⟨s,a⟩:=p;have:put d v ρ s=ρ s:=by
   rw[put_eq];cases d with
   | none=>rfl
   | some k =>
    simp only[];rw[vv];intro e;exact h k rfl (by simp[looks,e])
  simp only[res,this]
theorem cV {g:Option (Nat×Bool)}{o o':dU}(h:res g ρ o=some o'):o'=o\/o'=gU:=by
 cases g with
 | none=>simp only[res,xo] at h;exact .inl h.symm
 | some p =>
  obtain⟨s,a⟩:=p;simp only[res] at h;split at h
  ·injection h with h
   split at h
   ·exact .inl h.symm
   ·exact .inr h.symm
  ·injection h with h;exact .inr h.symm
  ·cases h
theorem nJ {o:dU}{g:Option (Nat×Bool)}{k:Nat}(h:k∈cB (bC o)):k∈looks o g:=by
 cases g with
 | none=>exact h
 | some p=>exact XE _ h
theorem Gt {x y:ak}{b:List ak}(w:kT x y=true) (hr:Real F L) (t:Vd L ρ) (h:aV P (x::y::b) F L ρ K):aV P (y::x::b) F L ρ K:=by
 cases x with
 | frz k=>exact v7 w (by cases y<;>exact XZ)
 | pc d o g=>exact v7 w (by cases y<;>exact XZ)
 | op dx x gx =>
  cases y with
  | frz k=>exact v7 w XZ
  | pc d o g=>exact v7 w XZ
  | op dy y gy =>
   simp only[kT,Xf] at w;obtain⟨⟨⟨⟨⟨am,c⟩,hc⟩,z⟩,h2⟩,h3⟩:=w;have z:=jP z;have h2:=jP h2;have h3:=nI h3;have aw:∀k,dy=some k->dx≠some k:=fun k e e'=>h3 k e' e;rw[fG] at h;obtain⟨x',s,h⟩:=h;have l:okD gU=true:=rfl;have p:okD x'=true:=by rcases cV s with rfl | rfl;exact am;exact l
   -- y's guard
   have hy:∃n,res gy ρ y=some n:=by
    obtain⟨v,F1,L1,f⟩:=tZ p hr h;rw[fG] at f;obtain⟨n,a,_⟩:=f;rw[nZ z] at a;exact⟨n,a⟩
   obtain⟨n,a⟩:=hy;have aa:okD n=true:=by rcases cV a with rfl | rfl;exact c;exact l
   have hA:evalOp P x' dx F L ρ (fun F1 L1 q=>evalOp P n dy F1 L1 q (fun F2 L2 m=>aV P b F2 L2 m K)):=by
    refine jm p hr t h ?_;rintro F1 L1 q ⟨v,rfl⟩ _ _ _ f;rw[fG] at f;obtain⟨ax,j,f⟩:=f;rw[nZ z,a] at j;injection j with j
    subst j;exact f
   have lx:∀k,dy=some k->k∉cB (bC x'):=by
    intro k e f;rcases cV s with rfl | rfl
    ·exact h2 k e (nJ f)
    ·simp[gU,bC,cB] at f
   have ly:∀k,dx=some k->k∉cB (bC n):=by
    intro k e f;rcases cV a with rfl | rfl
    ·exact z k e (nJ f)
    ·simp[gU,bC,cB] at f
   have hB:evalOp P n dy F L ρ (fun F1 L1 q=>evalOp P x' dx F1 L1 q (fun F2 L2 m=>aV P b F2 L2 m K)):=by
    by_cases r:n=gU
    ·subst r;simp only[gU,evalOp,aI,ev];exact vJ (K:=fun F2 L2 m=>aV P b F2 L2 m K) (u:=.v undef) p lx h3 hA
    ·have ey:n=y:=by rcases cV a with h | h;exact h;exact v7 h r
     subst ey;refine Gs hr ?_ ly lx h3 t hA;rcases cV s with rfl | rfl
     ·exact hc
     ·simp only[okD,XK] at c;rcases c with c | c
      ·simp only[vK,c,Yc,XK];exact .inl (.inl (.inl (.inl (.inl (by rfl)))))
      ·simp only[vK,c,Yc,XK];exact .inl (.inr rfl)
   rw[fG];refine⟨n,a,jm aa hr t hB ?_⟩;rintro F1 L1 q ⟨v,rfl⟩ _ _ _ f;rw[fG];exact⟨x',by rw[nZ h2];exact s,f⟩
theorem yx {y:ak}{s:List ak}:∀(p:List ak),(∀x∈p,kT x y=true)->∀{F:aA}{L:Loc}{ρ:Env},Real F L->Vd L ρ->aV P (p++y::s) F L ρ K->aV P (y::(p++s)) F L ρ K
 | [],_,F,L,ρ,_,_,h=>h
 | .frz k::p,b,F,L,ρ,_,_,h=>by
  have:=b (.frz k) (by simp);exact v7 this (by cases y<;>exact XZ)
 | .pc d o g::p,b,F,L,ρ,_,_,h=>by
  have:=b (.pc d o g) (by simp);exact v7 this (by cases y<;>exact XZ)
 | .op t x r::p,b,F,L,ρ,n,c,h=>by
  have a:=b (.op t x r) (by simp);have w:aV P (.op t x r::y::(p++s)) F L ρ K:=by
   rw[Xu,fG] at h;obtain⟨q,f,h⟩:=h;have m:okD x=true:=by
    cases y with
    | frz k=>exact v7 a XZ
    | pc d o g=>exact v7 a XZ
    | op dy y gy=>simp only[kT,Xf] at a;exact a.1.1.1.1.1
   have j:okD q=true:=by rcases cV f with rfl | rfl;exact m;rfl
   rw[fG];refine⟨q,f,jm j n c h ?_⟩;intro F1 L1 aa _ _ l e u;exact yx p (fun z v=>b z (by simp[v])) l e u
  exact Gt a n c w
end
def Qc (A:cQ):Op->Bool
 | .store _ (.tmp i) _=>fw A.co (1000000+i)
 | .mapUpdate _ (.tmp i) _ _=>fw A.co (1000000+i)
 | _=>false
def zu (P:Program) (A:cQ) (a:Array Oper) (i:Nat):Option ak :=
 match a[i]? with
 | none=>none
 | some o=>match gS a o.guard,gQ P (A.owned o.dst) o.op,LY A.n o.dst with
  | some g,some s,true=>match A.isX o.dst with
   | true=>match g,s with
    | none,.call f l=>some (.pc o.dst (.call f l) none)
    | none,.callV f l=>some (.pc o.dst (.callV f l) none)
    | _,_=>none
   | false=>match A.isO o.dst||Qc A o.op with
    | true=>match vG s with
     | some s'=>some (.op o.dst s' g)
     | none=>none
    | false=>match s5 A.fl A.bk A.bx s with
     | some s'=>match cT s'||gK s'||ep s'||oM s'||ic s' with
      | true=>some (.op o.dst s' g)
      | false=>none
     | none=>none
  | _,_,_=>none
def eH (P:Program) (A:cQ) (ops:Array Oper):List Nat->Option (List ak)
 | []=>some []
 | i::is=>match zu P A ops i,eH P A ops is with
  | some s,some ss=>some (s::ss)
  | _,_=>none
def binding (e:Edge):Bool:=Region.binds .any e
def direct (ops:Array Oper) (i:Nat):List Nat :=
 match ops[i]? with
 | some o=>(o.after.toList.filter binding).map (·.on)
 | none=>[]
def zw:List (List Nat)->Nat->List Nat
 | [],_=>[]
 | l::_,0=>l
 | _::a,n+1=>zw a n
def zx (a:List (List Nat)) (x:Nat):List Nat->Bool
 | []=>false
 | z::zs=>match fw (zw a z) x with | true=>true | false=>zx a x zs
def zy (ops:Array Oper) (a:List (List Nat)) (y:Nat):Bool :=
 (direct ops y).all (fun z=>Nat.blt z y)&&(zw a y).all (fun x=>fw (direct ops y) x||zx a x (direct ops y))
def Gu (ops:Array Oper) (a:List (List Nat)):Bool:=(List.range ops.size).all (zy ops a)
def n8 (a:List (List Nat)):List (Nat×ak)->Bool
 | []=>true
 | (x,b)::l=>l.all (fun p=>kT b p.2||fw (zw a p.1) x)&&n8 a l
def bE:List Nat->Bool
 | []=>true
 | x::l=>!fw l x&&bE l
def Cs (P:Program) (ops:Array Oper) (is:List Nat) (a:List (List Nat)) (ss:List ak):Bool :=
 P.follows .mixedOrders&&Gu ops a&&bE is&&Nat.beq is.length ops.size&&is.all (fun i=>Nat.blt i ops.size)&&(List.range ops.size).all (fw is)&&n8 a (is.zip ss)
theorem cK:∀{l:List Nat},bE l=true->l.Nodup
 | [],_=>List.nodup_nil
 | x::l,h=>by
  simp only[bE,Xf,Bool.not_eq_true'] at h;refine List.nodup_cons.2 ⟨fun a=>?_,cK h.2⟩;rw[cI.2 a] at h;cases h.1
theorem yA {a:List (List Nat)}{x:Nat}:∀{l:List Nat},zx a x l=true->∃z,z∈l/\x∈zw a z
 | [],h=>by cases h
 | z::zs,h=>by
  simp only[zx] at h;split at h
  ·rename_i d;exact⟨z,by simp,cI.1 d⟩
  ·obtain⟨e,b,c⟩:=yA h;exact⟨e,by simp[b],c⟩
section
variable {P:Program}{K:cF}{Q:Exit->Act->World->Prop}{ops:Array Oper}
theorem uc {k:List (List Nat)}(d:Gu ops k=true) {done:Nat->Prop}(a:∀i,i<ops.size->done i->∀z∈direct ops i,done z):∀y,y<ops.size->(∀z∈direct ops y,done z)->∀x∈zw k y,done x:=by
 intro y
 induction y using Nat.strongRecOn with
 | _ y l =>
  intro o f x m;have h:=Xo.1 d y (List.mem_range.2 o);simp only[zy,Xf] at h;have b:=Xo.1 h.2 x m;simp only[XK] at b;rcases b with b | b
  ·exact f x (cI.1 b)
  ·obtain⟨z,j,e⟩:=yA b;have c:z<y:=by
    have n:Nat.blt z y=true:=Xo.1 h.1 z j;simpa using n
   exact l z c (by omega) (a z (by omega) (f z j)) x e
theorem pH {A:cQ}:∀{is:List Nat}{ss:List ak},eH P A ops is=some ss->ss.length=is.length/\∀p q y,is=p++y::q->∃a b c,ss=a++b::c/\a.length=p.length/\zu P A ops y=some b/\eH P A ops (p++q)=some (a++c)
 | [],ss,h=>by
  simp only[eH,xo] at h;subst h;refine⟨rfl,fun p q y e=>?_⟩;cases p<;>cases e
 | i::is,ss,h=>by
  simp only[eH] at h;split at h
  case h_2=>cases h
  rename_i s d f j;injection h with h
  subst h;obtain⟨r,o⟩:=pH j;refine⟨by simp[r],fun p q y e=>?_⟩;cases p with
  | nil =>
   simp only[XO,List.cons.injEq] at e;obtain⟨rfl,rfl⟩:=e;exact⟨[],s,d,rfl,rfl,f,by simpa using j⟩
  | cons x p =>
   simp only[Xu,List.cons.injEq] at e;obtain⟨rfl,rfl⟩:=e;obtain⟨a,b,c,m,l,k,n⟩:=o p q y rfl;refine⟨s::a,b,c,by simp[m],by simp[l],k,?_⟩;simp only[Xu,eH,f,n]
theorem ud {d:List (List Nat)}:∀{p q:List (Nat×ak)}{y:Nat×ak},n8 d (p++y::q)=true->n8 d (p++q)=true/\∀x∈p,kT x.2 y.2=true\/x.1∈zw d y.1
 | [],q,y,h=>by
  obtain⟨o,n⟩:=y;simp only[XO,n8,Xf] at h ⊢;exact⟨h.2,fun x a=>by cases a⟩
 | (l,m)::p,q,y,h=>by
  simp only[Xu,n8,Xf] at h ⊢;obtain⟨e,f⟩:=h;obtain⟨k,j⟩:=ud f;have c:=Xo.1 e;refine⟨⟨Xo.2 fun z b=>c z ?_,k⟩,fun x a=>?_⟩
  ·rcases yo.1 b with b | b
   ·exact yo.2 (.inl b)
   ·exact yo.2 (.inr (XE _ b))
  ·rcases Xh.1 a with rfl | a
   ·have:=c y (yo.2 (.inr (by simp)));simp only[XK] at this;rcases this with h | h
    ·exact .inl h
    ·exact .inr (cI.1 h)
   ·exact j x a
theorem aC.same {L L2:Loc}{ρ:Env}{a:Act}(h:aC L ρ a) (b:L.sameAs L2):aC L2 ρ a:=by
 have c:∀sv,conc L2 sv=conc L sv:=by
  intro sv;cases sv with
  | v x=>rfl
  | el a j=>rfl
  | own k off=>simp only[conc,b k]
 exact⟨fun j=>by rw[c];exact h.eq j,fun j k off e=>by rw[b k];exact h.own j k off e,h.el⟩
theorem Step.W5 {F F':aA}{L L' L2:Loc}{w w':World}(h:Step F L w F' L' w') (a:L'.sameAs L2):Step F L w F' L2 w' :=
 ⟨h.le,h.os,h.tape,h.output,h.size,h.same,h.frz,fun b ⟨k,o,e,hb⟩=>h.own b ⟨k,o,by rw[<-a k];exact e,hb⟩⟩
theorem AY {A:cQ}{i:Nat}{s:ak}{m:List ak}{F:aA}{L:Loc}{ρ:Env}{a:Act}{w:World}{KK:Act->World->Prop}(hi:i<ops.size) (c:zu P A ops i=some s) (hs:St F L w) (he:aC L ρ a) (hn:a.tmps.size=A.n)
  (l:aV P (s::m) F L ρ K)
  (hQ:∀z w' F' L' ρ',St F' L' w'->aC L' ρ' z->z.tmps.size=A.n->z.defers=a.defers->Step F L w F' L' w'->(∀j,((ops[i]?).bind (·.dst))≠some j->z.tmps.getD j undef=a.tmps.getD j undef)->aV P m F' L' ρ' K->KK z w') :
  wpOp P ops Q i KK a w:=by
 unfold zu at c;split at c
 case h_1=>cases c
 rename_i o ae;split at c
 case h_2=>cases c
 rename_i g s0 y ao ab;split at c
 ·split at c
  ·injection c with c
   subst c;simp only[aV] at l
  ·injection c with c
   subst c;simp only[aV] at l
  ·cases c
 have ay:∃s',s=.op o.dst s' g/\((∀{F:aA}{L:Loc}{ρ:Env}{K:cF},evalOp P s' o.dst F L ρ K->evalOp P s0 o.dst F L ρ (fun F' L' ρ'=>Real F' L'->K F' L' ρ')) \/
   ∀{F:aA}{L:Loc}{ρ:Env}{K:cF},evalOp P s' o.dst F L ρ K->evalOp P s0 o.dst F L ρ (fun F' L' ρ'=>∃L2,L'.sameAs L2/\(Real F' L2->K F' L2 ρ'))):=by
  split at c
  ·split at c
   case h_2=>cases c
   rename_i s' aa;injection c with c
   exact⟨s',c.symm,.inl fun h=>Jp aa h⟩
  ·split at c
   case h_2=>cases c
   rename_i s' aa;split at c
   case h_2=>cases c
   rename_i ag;injection c with c
   cases an:gK s' with
   | true=>exact⟨s',c.symm,.inr fun h=>Gq aa an h⟩
   | false=>exact⟨s',c.symm,.inl fun h=>Ju aa ag an h⟩
 obtain⟨s',bi,t⟩:=ay;subst bi;have hd:∀k,o.dst=some k->k<a.tmps.size:=by
  intro k hk;rw[hk] at ab;rw[hn];have h2:Nat.blt k A.n=true:=ab;simpa using h2
 have az:(ops[i]?).bind (·.dst)=o.dst:=by rw[ae];rfl
 rw[az] at hQ;simp only[wpOp,ae];have r:evalOp P s' o.dst F L ρ (fun F' L' ρ'=>aV P m F' L' ρ' K)->o.wp P a w KK Q:=by
  intro l;rcases t with t | t
  ·have h1:=t l;have:=eG (Q:=Q) hs he hd ao h1;refine Oper.wp_mono ?_ (pF (asg:=[]) this);rintro z w' ⟨⟨F',L',ρ',g1,g2,g3,g4,g5,g6⟩,ac⟩;exact hQ z w' F' L' ρ' g1 g2 (by rw[g3,hn]) g4 g5 ac (g6 ⟨w',g1⟩)
  ·have h1:=t l;have:=eG (Q:=Q) hs he hd ao h1;refine Oper.wp_mono ?_ (pF (asg:=[]) this);rintro z w' ⟨⟨F',L',ρ',g1,g2,g3,g4,g5,L2,g6,g7⟩,ac⟩;have s1:St F' L2 w':=g1.part fun k o e=>by rw[<-g6 k];exact e
   exact hQ z w' F' L2 ρ' s1 (g2.same g6) (by rw[g3,hn]) g4 (g5.W5 g6) ac (g7 ⟨w',s1⟩)
 have skip:aV P m F L (put o.dst (.v undef) ρ) K->KK (a.put o.dst undef) w:=by
  intro l;exact hQ _ w F L _ hs (he.put hd (v:=undef) (x:=.v undef) rfl bK dh (qp L)) (by rw[kh,hn]) (gq _ _ _) (Step.refl _ _ _) (fun j hj=>jO hj) l
 cases u:o.guard with
 | none =>
  rw[u] at y;simp only[gS,xo] at y;subst y;simp only[aV] at l;rw[j3 (by simp[Region.wanted,u])];exact .inl (r l)
 | some p =>
  obtain⟨j,q⟩:=p;rw[u] at y;simp only[gS] at y;split at y
  case h_2=>cases y
  rename_i d am;injection y with y
  subst y;simp only[aV] at l;split at l
  ·rename_i b hb;have f:=he.eq d;rw[hb] at f;have hy:yielded ops a.tmps j=some b:=by
    simp only[yielded,am,Option.bind_some,qq f]
   have hw:Region.wanted o (yielded ops a.tmps)=(b == q):=by
    simp only[Region.wanted,u,hy];cases b<;>cases q<;>rfl
   rw[hw];cases b<;>simp only[vo] at l
   ·rw[ku hb] at l;cases q
    ·exact .inl (r l)
    ·exact skip l
   ·rw[ku hb] at l;cases q
    ·exact skip l
    ·exact .inl (r l)
  ·rename_i vs hb;have f:=he.eq d;rw[hb] at f;have hy:yielded ops a.tmps j=none:=by
    simp only[yielded,am,Option.bind_some];rw[XC] at f;cases e:a.tmps[d]? with
    | none=>rfl
    | some v=>rw[e] at f;simp only[Option.getD_some,conc] at f;rw[f]
   have hw:Region.wanted o (yielded ops a.tmps)=false:=by
    simp only[Region.wanted,u,hy];rfl
   rw[hw];exact skip l
  ·exact l.elim
theorem aC.vd {L:Loc}{ρ:Env}{a:Act}(b:aC L ρ a):Vd L ρ:=by
 intro t k off e;exact b.own t k off e
theorem rY {l:Array Bool}{z:Nat}(h:z<l.size) (b c:Bool):l.getD z b=l.getD z c:=by
 simp[XC,h]
theorem min_mem:∀{l:List Nat},l≠[]->∃y,y∈l/\∀z∈l,y<=z
 | [],h=>v7 rfl h
 | [x],_=>⟨x,by simp,fun z a=>by simp at a;omega⟩
 | x::d::l,_=>by
  obtain⟨y,c,b⟩:=min_mem (l:=d::l) (by simp)
  by_cases h:x<=y
  ·exact⟨x,by simp,fun z a=>by
    rcases Xh.1 a with rfl | a
    ·exact Xy _
    ·exact X0 h (b z a)⟩
  ·exact⟨y,XE _ c,fun z a=>by
    rcases Xh.1 a with rfl | a
    ·omega
    ·exact b z a⟩
theorem n9 {i z:Nat}{o:Oper}(d:ops[i]?=some o):z∈direct ops i↔∃e∈o.after,Region.binds .any e=true/\e.on=z:=by
 simp only[direct,d,XI,List.mem_filter,Array.mem_toList_iff,binding];constructor
 ·rintro⟨e,⟨a,c⟩,b⟩;exact⟨e,a,c,b⟩
 ·rintro⟨e,a,c,b⟩;exact⟨e,⟨a,c⟩,b⟩
theorem EM {A:cQ}{cl:List (List Nat)}(ba:Gu ops cl=true):∀(fuel:Nat) (l:List Nat) (ss:List ak) (b:Array Bool) (F:aA) (L:Loc) (ρ:Env) (a:Act) (w:World),
  eH P A ops l=some ss->b.size=ops.size->l.Nodup->(∀i,i∈l↔i<ops.size/\b.getD i true=false)->l.length<=fuel->n8 cl (l.zip ss)=true ->
  (∀i,i<ops.size->b.getD i true=true->∀z∈direct ops i,b.getD z true=true) ->
  St F L w->aC L ρ a->a.tmps.size=A.n->aV P ss F L ρ K ->
  (∀a' w',dZ A.n F L w a (dstsOf ops (List.range ops.size)) K a' w'->Q .normal a' w')->wpAny P .any ops Q fuel b a w:=by
 have m:∀y z,y<ops.size->z∈direct ops y->z<y:=by
  intro y z hy t;have h:=Xo.1 ba y (List.mem_range.2 hy);simp only[zy,Xf] at h;have h3:Nat.blt z y=true:=Xo.1 h.1 z t;simpa using h3
 intro fuel
 induction fuel with
 | zero =>
  intro l ss b F L ρ a w hl ao aE c ab hp d hs he hn hK hQ;have:l=[]:=XD (by omega);subst this;simp only[eH,xo] at hl;subst hl;refine⟨?_,hQ a w ⟨F,L,ρ,hs,he,hn,rfl,Step.refl _ _ _,fun _ _=>rfl,hK⟩⟩;apply List.eq_nil_iff_forall_not_mem.2;intro i hi;rw[mem_ready] at hi;obtain⟨h1,o,h2,_⟩:=hi;have:=(c i).2 ⟨(Array.getElem?_eq_some_iff.1 h2).1,h1⟩;cases this
 | succ fuel ih =>
  intro l ss b F L ρ a w hl ao aE c ab hp d hs he hn hK hQ;refine⟨fun hr=>?_,fun y hy=>?_⟩
  ·have:l=[]:=by
    refine Classical.byContradiction fun r=>?_;obtain⟨y,h1,h2⟩:=min_mem r;obtain⟨h3,h4⟩:=(c y).1 h1;have ac:y∈Region.ready .any ops b:=by
     rw[mem_ready];refine⟨h4,ops[y],Array.getElem?_eq_getElem h3,fun e ap an=>?_⟩;have t:e.on∈direct ops y:=(n9 (Array.getElem?_eq_getElem h3)).2 ⟨e,ap,an,rfl⟩;have ch:=m y e.on h3 t;rw[rY (by omega) false true];cases v:b.getD e.on true with
     | true=>rfl
     | false =>
      have:=h2 e.on ((c e.on).2 ⟨by omega,v⟩);omega
    rw[hr] at ac;cases ac
   subst this;simp only[eH,xo] at hl;subst hl;exact hQ a w ⟨F,L,ρ,hs,he,hn,rfl,Step.refl _ _ _,fun _ _=>rfl,hK⟩
  ·rw[mem_ready] at hy;obtain⟨h1,o,ho,ag⟩:=hy;have f:=(Array.getElem?_eq_some_iff.1 ho).1;have al:=(c y).2 ⟨f,h1⟩;obtain⟨p,q,rfl⟩:=List.append_of_mem al;obtain⟨dp,ay⟩:=pH hl;obtain⟨sp,sy,sq,rfl,ae,cc,co⟩:=ay p q y rfl;have bd:(p++y::q).zip (sp++sy::sq)=p.zip sp++(y,sy)::q.zip sq:=by
    rw[List.zip_append ae.symm];rfl
   rw[bd] at hp;obtain⟨bv,bp⟩:=ud hp;have u:∀z∈direct ops y,b.getD z true=true:=by
    intro z t;have ch:=m y z f t;obtain⟨e,ap,an,rfl⟩:=(n9 ho).1 t;rw[rY (by omega) true false];exact ag e ap an
   have s:∀sx∈sp,kT sx sy=true:=by
    intro sx bu;obtain⟨k,hk⟩:=List.getElem?_of_mem bu;have dk:=(Xe.1 hk).1;have aw:p[k]?=some (p[k]'(by omega)):=x5 (by omega);have hm:(p[k]'(by omega),sx)∈p.zip sp:=Xi (i:=k) (by rw[List.getElem?_zip_eq_some];exact⟨aw,hk⟩);rcases bp _ hm with h | h
    ·exact h
    ·exfalso;have v:=uc ba (done:=fun z=>b.getD z true=true) d y f u _ h;have bt:p[k]'(by omega)∈p++y::q:=yo.2 (.inl (Xi aw));have:=((c _).1 bt).2;simp only at v;rw[v] at this;cases this
   have cb:=yx sp s ⟨w,hs⟩ he.vd hK;refine AY f cc hs he hn cb ?_;intro a' w' F' L' ρ' g1 g2 g3 g4 g5 g6 g7;have aa:(p++q).Nodup/\y∉p++q:=by
    have:=(List.perm_middle.nodup_iff).1 aE;rw[List.nodup_cons] at this;exact⟨this.2,this.1⟩
   have ad:∀i,(b.setIfInBounds y true).getD i true=if i=y then true else b.getD i true:=by
    intro i;simp only[XC,Array.getElem?_setIfInBounds]
    by_cases hi:y=i
    ·subst hi;rw[j3 rfl,j3 rfl];simp[ao,f]
    ·rw[vv hi,vv (fun h=>hi h.symm)]
   refine ih (p++q) (sp++sq) _ F' L' ρ' a' w' co (by simp[ao]) aa.1 (fun i=>?_) (by simp at ab ⊢;omega) ?_ ?_ g1 g2 g3 g7 ?_
   ·rw[ad];have h0:=c i;constructor
    ·intro hi;have r:i≠y:=fun e=>aa.2 (e▸hi);rw[vv r];refine h0.1 ?_;rcases yo.1 hi with h | h
     ·exact yo.2 (.inl h)
     ·exact yo.2 (.inr (XE _ h))
    ·rintro⟨ce,am⟩;split at am
     ·cases am
     ·rename_i r;have:=h0.2 ⟨ce,am⟩;rcases yo.1 this with h | h
      ·exact yo.2 (.inl h)
      ·rcases Xh.1 h with h | h
       ·exact v7 h r
       ·exact yo.2 (.inr h)
   ·rw[List.zip_append ae.symm];exact bv
   ·intro i hi v z t;rw[ad] at v ⊢;split
    ·rfl
    ·split at v
     ·rename_i h;subst h;exact u z t
     ·exact d i hi v z t
   ·rintro ca cf ⟨F'',L'',ax,k1,k2,k3,k4,k5,k6,k7⟩;refine hQ ca cf ⟨F'',L'',ax,k1,k2,k3,k4.trans g4,g5.trans k5,fun j hj=>?_,k7⟩;rw[k6 j hj,g6 j];intro e;apply hj;have:∀(is:List Nat),y∈is->j∈dstsOf ops is:=by
     intro is
     induction is with
     | nil=>intro h;cases h
     | cons x is az =>
      intro h;simp only[dstsOf];rcases Xh.1 h with rfl | h
      ·rw[e];simp
      ·split
       ·exact XE _ (az h)
       ·exact az h
    exact this _ (List.mem_range.2 f)
theorem rp {A:cQ}{r:Nat}{is:List Nat}{cl:List (List Nat)}{ss:List ak}{F:aA}{L:Loc}{ρ:Env}{a:Act}{w:World}(o:eH P A ops is=some ss) (j:Cs P ops is cl ss=true)
  (hs:St F L w) (t:aC L ρ a) (y:a.tmps.size=A.n) (x:aV P ss F L ρ K) (hQ:∀d w',dZ A.n F L w a (dstsOf ops (List.range ops.size)) K d w'->Q .normal d w') :
  (Code.region r ops true).wp P Q a w:=by
 simp only[Cs,Xf] at j;obtain⟨⟨⟨⟨⟨⟨l,v⟩,e⟩,k⟩,m⟩,z⟩,h6⟩:=j;have e:=cK e;have k:=v8 k;have c:∀i∈is,i<ops.size:=fun i hi=>by
  have h:Nat.blt i ops.size=true:=Xo.1 m i hi;simpa using h
 refine wp_region_any l ?_;show wpAny P .any ops Q ops.size (Array.replicate ops.size false) a w.drew;refine EM v ops.size is ss _ F L ρ a w.drew o (by simp) e (fun i=>?_) (by omega) h6 ?_ hs.drew t y x ?_
 ·constructor
  ·intro hi;refine⟨c i hi,?_⟩;simp[XC,c i hi]
  ·rintro⟨hi,_⟩;exact cI.1 (Xo.1 z i (List.mem_range.2 hi))
 ·intro i hi f;simp[XC,hi] at f
 ·rintro d w' ⟨F',L',ρ',s,g2,u,g4,b,p,q⟩;refine hQ d w' ⟨F',L',ρ',s,g2,u,g4,?_,p,q⟩;exact⟨b.le,b.os,b.tape,b.output,b.size,b.same,b.frz,b.own⟩
end
def j6 (L L':Loc):Prop:=∀k g t cs,L.get k=some (.box g t cs)->∃cs',L'.get k=some (.box g t cs')
def vL (ks:List Nat) (L L':Loc):Prop:=∀k g t cs,L.get k=some (.box g t cs)->∃cs',L'.get k=some (.box g t cs')/\(k∉ks->cs'=cs)
structure eI (P:Program) (PX:aA->Loc->Value->Prop) (f:Nat) (args:List Value) (F:aA) (L:Loc) (K:aA->Loc->Value->Prop):Prop where
 out:∃(ks ko:List Nat) (Lin:List Own) (R:aA->List Own->Value->Prop) (Pp:aA->List Own->Value->Prop),L.sub ks=some Lin/\ks.Nodup/\ko.Nodup/\(∀k,k∈ko->k∈ks\/L.get k=none)/\uM P f args.toArray F Lin R Pp /\
  (∀v F' Lo,F.le F'->ks.length=Lo.length->vL ks L ((L.Wu ks).puts ks Lo)->Pp F' Lo v->PX F' ((L.Wu ks).puts ks Lo) v) /\
  ∀v F' Lo,F.le F'->R F' Lo v->ko.length=Lo.length /\
   (∀k g t cs,k∈ks->L.get k=some (.box g t cs)->∃cs',Loc.get ((L.Wu ks).puts ko Lo) k=some (.box g t cs')) /\
   K F' ((L.Wu ks).puts ko Lo) v
section
variable {P:Program}{F:aA}{L:Loc}{ρ:Env}{a:Act}{w:World}{K:cF}{o:Oper}{Q:Exit->Act->World->Prop}
theorem eI.imp {PX:aA->Loc->Value->Prop}{f:Nat}{args:List Value}{K K':aA->Loc->Value->Prop}(h:eI P PX f args F L K) (m:∀F' L' v,K F' L' v->K' F' L' v):eI P PX f args F L K':=by
 obtain⟨ks,ko,l,R,Pp,d,k,r,p,e,q,n⟩:=h;exact⟨ks,ko,l,R,Pp,d,k,r,p,e,q,fun v F' Lo s j=>let⟨a,b,c⟩:=n v F' Lo s j;⟨a,b,m _ _ _ c⟩⟩
theorem AZ {PX:aA->Loc->Value->Prop}{f:Nat}{args:List Value}(hs:St F L w) (he:aC L ρ a) (hd:∀k,o.dst=some k->k<a.tmps.size)
  (hrun:(∃fn,P.funcs[f]?=some fn/\fn.body.isSome=true/\(fn.name == "runtime.NumGoroutine")=false)->(execOp a.eval o).run P w=.ok (.enter f args.toArray) w)
  (hK:eI P PX f args F L fun F' L' v=>K F' L' (put o.dst (.v v) ρ))
  (hQ:∀v ch w' F' L',Cg v ch->St F' L' w'->Step F L w F' L' w'->PX F' L' v->Q (.panic ch) a w'):o.wp P a w (aZ F L w a K) Q:=by
 obtain⟨ks,ko,l,R,Pp,hsub,hn,hno,hko,hc,hPX,hK⟩:=hK;unfold Oper.wp;rw[hrun hc.ent];rw[Oper.upon_enter];refine(hc.run w (hs.handed hsub hn)).mono ?_;rintro e w' (⟨v,F',lo,rfl,hs',hst,hR⟩ | ⟨v,ch,F',lo,rfl,hch,hs',hst,hlo,hbx,hp⟩)
 ·obtain⟨hlen,hbox,hK⟩:=hK v F' lo hst.le hR;obtain⟨h1,h2⟩:=iT hs hsub hn hno hko hs' hst hlen;refine⟨F',_,_,h1,he.put hd (x:=.v v) rfl bK dh ?_,kh _ _ _,gq _ _ _,h2,hK⟩;intro k g ty cs e
  by_cases hk:k∈ks
  ·exact hbox k g ty cs hk e
  ·rcases cZ ko lo (L.Wu ks) k hno hlen with⟨h1,h2⟩ | ⟨i,h1,h2,h3⟩
   ·rw[h1,fj,vv hk];exact⟨cs,e⟩
   ·rcases hko k (Xi h1) with h | h
    ·exact v7 h hk
    ·rw[h] at e;cases e
 ·obtain⟨hl,hg⟩:=dX hsub;have hlen:ks.length=lo.length:=by rw[hlo,hl]
  obtain⟨h1,h2⟩:=iT hs hsub hn hn (fun k hk=>.inl hk) hs' hst hlen;refine hQ v ch w' F' _ hch h1 h2 (hPX v _ _ hst.le hlen ?_ hp);intro k g t cs e;rcases cZ ks lo (L.Wu ks) k hn hlen with⟨q1,q2⟩ | ⟨i,q1,q2,q3⟩
  ·rw[q1,fj,vv q2];exact⟨cs,e,fun _=>rfl⟩
  ·rw[q2];have:=hg i k q1;rw[e] at this;obtain⟨cs',h⟩:=hbx i g t cs this.symm;exact⟨cs',h,fun h=>v7 (Xi q1) h⟩
end
section
variable {P:Program}
theorem nK {y:Operand}{s:dU}(h:x6 y=some s):∃g,s=.gload g:=by
 cases y with
 | global g =>
  simp only[x6] at h;split at h
  ·injection h with h;exact⟨_,h.symm⟩
  ·cases h
 | tmp n=>cases h
 | const v=>cases h
 | func f=>cases h
theorem Gv {own:Bool}{op:Op}{f:Nat}{args:List X}(b:gQ P own op=some (.call f args)):∃c,op=.call c/\c.callee=.value (.func f)/\fS c.args.toList=some args:=by
 cases op
 case call c =>
  simp only[gQ] at b;split at b
  case h_1=>cases b
  rename_i e d;split at b
  ·rename_i m j;split at b
   case h_2=>cases b
   split at b
   case h_2=>cases b
   injection b with b
   injection b with e1 e2
   subst e1 e2;exact⟨c,rfl,j,d⟩
  all_goals (exfalso;revert b;repeat' split)<;>simp
 all_goals (exfalso;revert b;simp only[gQ];repeat' split)<;>first | contradiction | (intro h;obtain⟨k,h⟩:=nK h;cases h;done) | (simp;done) | (rename_i l;obtain⟨k,rfl⟩:=nK l;simp)
theorem EN {own:Bool}{op:Op}{x:X}{args:List X}(b:gQ P own op=some (.callV x args)):∃c,op=.call c/\fS c.args.toList=some args/\((∃y,c.callee=.value y/\bh y=some x)\/∃n nm,c.callee=.invoke (.tmp n) nm/\x=.mt nm n):=by
 cases op
 case call c =>
  simp only[gQ] at b;split at b
  case h_1=>cases b
  rename_i f d;split at b
  ·exfalso;revert b;(repeat' split)<;>simp
  ·rename_i y _ e;split at b
   case h_2=>cases b
   rename_i j;injection b with b
   injection b with e1 e2
   subst e1 e2;exact⟨c,rfl,d,.inl ⟨y,e,j⟩⟩
  ·rename_i n nm e;injection b with b
   injection b with e1 e2
   subst e1 e2;exact⟨c,rfl,d,.inr ⟨_,_,e,rfl⟩⟩
  all_goals (exfalso;revert b;repeat' split)<;>simp
 all_goals (exfalso;revert b;simp only[gQ];repeat' split)<;>first | contradiction | (intro h;obtain⟨k,h⟩:=nK h;cases h;done) | (simp;done) | (rename_i l;obtain⟨k,rfl⟩:=nK l;simp)
theorem Jv {own:Bool}{op:Op}{x:X}(b:gQ P own op=some (.pan x)):∃y,op=.panic y/\bh y=some x:=by
 cases op
 case panic y =>
  simp only[gQ] at b;split at b
  case h_2=>cases b
  rename_i c;injection b with b
  injection b with e1
  subst e1;exact⟨y,rfl,c⟩
 all_goals (exfalso;revert b;simp only[gQ];repeat' split)<;>first | contradiction | (intro h;obtain⟨k,h⟩:=nK h;cases h;done) | (simp;done) | (rename_i d;obtain⟨k,rfl⟩:=nK d;simp)
end
section
variable {P:Program}{F:aA}{L:Loc}{ρ:Env}{a:Act}{w:World}{K:cF}{o:Oper}{Q:Exit->Act->World->Prop}
theorem uf {PX:aA->Loc->Value->Prop}{own:Bool}{f:Nat}{args:List X}(s:St F L w) (h:aC L ρ a) (l:∀k,o.dst=some k->k<a.tmps.size) (m:gQ P own o.op=some (.call f args))
  (p:eI P PX f (bf L ρ args) F L fun F' L' v=>K F' L' (put o.dst (.v v) ρ))
  (r:∀v j w' F' L',Cg v j->St F' L' w'->Step F L w F' L' w'->PX F' L' v->Q (.panic j) a w'):o.wp P a w (aZ F L w a K) Q:=by
 refine AZ s h l (fun d=>?_) p r;obtain⟨c,t,n,q⟩:=Gv m;have e:=fe q h;have b:c.args.map a.eval=(bf L ρ args).toArray:=by apply Array.ext';simpa using e
 simp[execOp,t,resolve,n,Deferred.ofValue,Act.eval,invoke,b,jh d]
theorem oe {PX:aA->Loc->Value->Prop}{own:Bool}{f:Nat}{x:X}{fi ca:List Value}{args:List X}(hs:St F L w) (p:aC L ρ a) (hd:∀k,o.dst=some k->k<a.tmps.size) (hl:gQ P own o.op=some (.callV x args)) (d:lf P (ev ρ x)=some (f,fi,ca))
  (hK:eI P PX f (fi++bf L ρ args++ca) F L fun F' L' v=>K F' L' (put o.dst (.v v) ρ))
  (hQ:∀v ch w' F' L',Cg v ch->St F' L' w'->Step F L w F' L' w'->PX F' L' v->Q (.panic ch) a w'):o.wp P a w (aZ F L w a K) Q:=by
 refine AZ hs p hd (fun l=>?_) hK hQ;obtain⟨c,ho,ha,⟨y,hc,hy⟩ | ⟨n,nm,hc,rfl⟩⟩:=EN hl
 ·have ey:=aF hy p;have m:=fe ha p;have h:c.args.map a.eval=(bf L ρ args).toArray:=by apply Array.ext';simpa using m
  have q:∀z,ev ρ x=.v z->a.eval y=z:=fun z e=>by rw[ey,bB e]
  have:=AP (w:=w) (args:=bf L ρ args) d q l;simp only[execOp,ho,resolve,hc,h];exact this
 ·have m:=fe ha p;have h:c.args.map a.eval=(bf L ρ args).toArray:=by apply Array.ext';simpa using m
  simp only[ev] at d;cases r:ρ n with
  | own k off=>rw[r] at d;cases d
  | el b j=>rw[r] at d;cases d
  | v z =>
   rw[r] at d;have hz:a.eval (.tmp n)=z:=by
    have:=p.eq n;rw[r] at this;exact this
   simp only[Ox,lf] at d;split at d
   case h_2=>cases d
   rename_i t u ac;split at d
   case h_2=>cases d
   rename_i f' hm;injection d with d
   injection d with e1 e2
   injection e2 with e2 e3
   subst e1 e2 e3;have s:z=.iface t u:=by simpa using ac
   subst s;have ab:(#[Value.iface t u]++(bf L ρ args).toArray).extract 1 (#[Value.iface t u]++(bf L ρ args).toArray).size=(bf L ρ args).toArray:=by apply Array.ext';simp
   have h0:(#[Value.iface t u]++(bf L ρ args).toArray)[0]?=some (.iface t u):=by simp
   have:=ji (w:=w) (u:=u) (args:=(bf L ρ args).toArray) hm l;simp only[execOp,ho,resolve,hc,h,hz,Sem.run_bind,Sem.run_pure,Result.andThen_ok,invoke,h0,ab,this];simp
theorem EO {PX:aA->Loc->Value->Prop}{own:Bool}{x:X}(l:St F L w) (f:aC L ρ a) (d:gQ P own o.op=some (.pan x)) {t:TypeId}{u:Value}(j:val L ρ x=.iface t u) (h:PX F L (.iface t u))
  (k:∀v c w' F' L',Cg v c->St F' L' w'->Step F L w F' L' w'->PX F' L' v->Q (.panic c) a w'):o.wp P a w (aZ F L w a K) Q:=by
 obtain⟨y,n,m⟩:=Jv d;have e:=aF m f;unfold Oper.wp;have b:(execOp a.eval o).run P w=.halt (.panic (.iface t u)) w:=by
  simp[execOp,n,e,j,Instr.panic,goPanic]
 rw[b];exact k _ _ w F L (Cg.one _) l (Step.refl _ _ _) h
end
structure CallXDPt (P:Program) (PX:aA->Loc->Value->Prop) (fb:List Nat) (f:Nat) (args:List Value) (F:aA) (L:Loc) (K:aA->Loc->Value->Prop):Prop where
 out:∃(ks:List Nat) (Lin:List Own) (R:aA->List Own->Value->Prop) (Pp:aA->List Own->Value->Prop),L.sub ks=some Lin/\ks.Nodup/\(∀k∈ks,k∉fb)/\uM P f args.toArray F Lin R Pp /\
  (∀v F' L' Lo,F.le F'->L'.sub ks=some Lo->vL ks L L'->Pp F' Lo v->PX F' L' v) /\
  ∀v F' Lo,F.le F'->R F' Lo v->ks.length=Lo.length/\(∀(i:Nat) g t cs,Lin[i]?=some (.box g t cs)->∃cs',Lo[i]?=some (.box g t cs')) /\
   (Real F' (L.puts ks Lo)->K F' (L.puts ks Lo) v)
def qF (P:Program) (L:Loc) (ρ:Env):dU->Option (Nat×List Value)
 | .call f args=>some (f,bf L ρ args)
 | .callV f args=>match lf P (ev ρ f) with
  | some (f,fi,ca)=>some (f,fi++bf L ρ args++ca)
  | none=>none
 | _=>none
def zA:dU->List Nat
 | .call _ args=>cB args
 | .callV f args=>cB (f::args)
 | _=>[]
def Ba:dU->Bool
 | .call _ _=>true
 | .callV _ _=>true
 | _=>false
def bg (P:Program) (PX:aA->Loc->Value->Prop) (fb:List Nat):List ak->aA->Loc->Env->cF->Prop
 | [],F,L,ρ,K=>K F L ρ
 | .op d o g::a,F,L,ρ,K=>∃o',res g ρ o=some o'/\evalOp P o' d F L ρ fun F' L' ρ'=>bg P PX fb a F' L' ρ' K
 | .frz _::_,_,_,_,_=>False
 | .pc d o g::a,F,L,ρ,K=>match qF P L ρ o,g with
  | some (f,vs),none=>CallXDPt P PX fb f vs F L fun F' L' v=>bg P PX fb a F' L' (put d (.v v) ρ) K
  | _,_=>False
def Gw:dU->Bool
 | .loadF _ _ _=>true
 | .gload _=>true
 | _=>false
def L5:dU->Bool
 | .mkfn _ _ _=>true
 | _=>false
def Ol (o:dU):Bool:=AR o||Gw o||L5 o
def OA (fb:List Nat):dU->Bool
 | .loadK key _ _ _=>fw fb key
 | _=>false
theorem jQ {fb:List Nat}{o:dU}(h:(Ol o||OA fb o)=true):cT o=true:=by cases o<;>first | rfl | (exact v7 h (by decide)) | (simp[Ol,OA,AR,Gw,L5] at h)
def rZ:ak->Option Nat
 | .op d (.allocD _ _) none=>d
 | _=>none
def xI:ak->Option Nat
 | .op d _ _=>d
 | .frz _=>none
 | .pc d _ _=>d
def fH (fb:List Nat):ak->ak->Bool
 | .op a x c,.op b y d=>kT (.op a x c) (.op b y d)
 | .op a x c,.pc b y none=>Ba y&&(Ol x||OA fb x)&&rm a (zA y)&&rm b (looks x c)&&AX a b
 | .pc a x none,.op (some k) (.allocD _ _) none=>Ba x&&rm (some k) (zA x)&&AX a (some k)
 | _,_=>false
def Dp:dU->Bool
 | .copyX _ _ _ _=>true
 | _=>false
def Qd:ak->Bool
 | .op _ o _=>okD o||Dp o
 | .pc _ o none=>Ba o
 | _=>false
section
variable {P:Program}{PX:aA->Loc->Value->Prop}{fb:List Nat}{F F':aA}{L L':Loc}{ρ:Env}{K K':cF}
theorem EP {sv:SV}(hb:j6 L L') (b:∀k off,sv=.own k off->∃g t cs,L.get k=some (.box g t cs)):conc L' sv=conc L sv:=by
 cases sv with
 | v x=>rfl
 | el a j=>rfl
 | own k off =>
  obtain⟨g,t,cs,e⟩:=b k off rfl;obtain⟨cs',c⟩:=hb k g t cs e;simp only[conc,e,c]
theorem Gx (hb:j6 L L') (a:Vd L ρ) (x:X):val L' ρ x=val L ρ x:=EP hb fun k off e=>a.ev e
theorem rq (hb:j6 L L') (a:Vd L ρ) (xs:List X):bf L' ρ xs=bf L ρ xs:=dm fun x _=>Gx hb a x
theorem vM {d:Option Nat}{v:SV}{xs:List X}(h:∀k,d=some k->k∉cB xs):bf L (put d v ρ) xs=bf L ρ xs:=dm fun x a=>by simp only[val,fM h x a]
theorem Jw {o:dU}(h:(Ol o||OA fb o)=true) (d:∀j∈fb,L'.get j=L.get j) (f:F.le F') (hb:j6 L L') (c:Vd L ρ) {V:SV->Prop}(a:aI o F L ρ V):aI o F' L' ρ V:=by
 simp only[Ol,XK] at h;rcases h with((h | h) | h) | h
 rotate_right
 ·cases o<;>first | (cases h;done) | skip
  rename_i key r n x;have q:=d key (cI.1 h);simp only[aI] at a ⊢;split at a
  ·rename_i k off e;split at a
   ·rename_i b;have b:=v8 b;subst b;rw[q];exact a
   ·exact a.elim
  ·exact a.elim
 ·exact yq h a
 ·cases o<;>first | (cases h;done) | skip
  ·simp only[aI] at a ⊢;obtain⟨u,t,p,l,m⟩:=a;exact⟨u,t,p,f _ _ l,m⟩
  ·simp only[aI] at a ⊢;split at a
   ·exact a.up f
   ·exact a.up f
   ·exact a.elim
 ·cases o<;>first | (cases h;done) | skip
  simp only[aI,rq hb c] at a ⊢;exact a
theorem j6.vd (hb:j6 L L') (a:Vd L ρ):Vd L' ρ:=fun t k off e=>let⟨g,ty,cs,h⟩:=a t k off e;let⟨cs',h'⟩:=hb k g ty cs h;⟨g,ty,cs',h'⟩
theorem Vd.Xb (a:Vd L ρ) (d:Option Nat) (v:Value):Vd L (put d (.v v) ρ):=by
 intro t k off e;rw[put_eq] at e;cases d with
 | none=>exact a t k off e
 | some j =>
  simp only[] at e;split at e
  ·cases e
  ·exact a t k off e
theorem s9 {ks:List Nat}{Lin Lo:List Own}(d:L.sub ks=some Lin) (f:ks.Nodup) (b:ks.length=Lo.length) (h:∀(i:Nat) g t cs,Lin[i]?=some (.box g t cs)->∃cs',Lo[i]?=some (.box g t cs')) :
  j6 L (L.puts ks Lo)/\(∀j,L.get j=none->(L.puts ks Lo).get j=none)/\∀j,j∉ks->(L.puts ks Lo).get j=L.get j:=by
 obtain⟨o,l⟩:=dX d;refine⟨fun k g t cs e=>?_,fun j e=>?_,fun j n=>?_⟩
 ·rcases cZ ks Lo L k f b with⟨a,c⟩ | ⟨i,a,c,m⟩
  ·rw[a];exact⟨cs,e⟩
  ·rw[c];have:=l i k a;rw[e] at this;exact h i g t cs this.symm
 ·rcases cZ ks Lo L j f b with⟨a,c⟩ | ⟨i,a,c,m⟩
  ·rw[a];exact e
  ·have:=l i j a;rw[e] at this;have p:=X3.1 this.symm;omega
 ·rcases cZ ks Lo L j f b with⟨a,c⟩ | ⟨i,a,c,m⟩
  ·exact a
  ·exact v7 (Xi a) n
theorem CallXDPt.imp {f:Nat}{args:List Value}{K K':aA->Loc->Value->Prop}(h:CallXDPt P PX fb f args F L K)
  (t:∀F' L' v,F.le F'->j6 L L'->(∀j,L.get j=none->L'.get j=none)->(∀j∈fb,L'.get j=L.get j)->Real F' L'->K F' L' v->K' F' L' v):CallXDPt P PX fb f args F L K':=by
 obtain⟨ks,l,R,Pp,d,m,e,w,u,o⟩:=h;refine⟨ks,l,R,Pp,d,m,e,w,u,fun v F' Lo n p=>?_⟩;obtain⟨a,b,c⟩:=o v F' Lo n p;obtain⟨q,x,r⟩:=s9 d m a b;exact⟨a,b,fun k=>t _ _ _ n q x (fun j s=>r j fun h=>e j h s) k (c k)⟩
theorem iE {d:Option Nat}{o:dU}{g:Option (Nat×Bool)}{a:List ak} :
  bg P PX fb (.op d o g::a) F L ρ K↔∃o',res g ρ o=some o'/\evalOp P o' d F L ρ (fun F1 L1 b=>bg P PX fb a F1 L1 b K):=Iff.rfl
theorem qL:∀(ks:List Nat) (Lo:List Own) (L:Loc) {k:Nat}{o:Own},k∉ks->(L.set k o).puts ks Lo=(L.puts ks Lo).set k o
 | [],Lo,L,k,o,_=>by cases Lo<;>rfl
 | j::ks,[],L,k,o,_=>rfl
 | j::ks,p::Lo,L,k,o,h=>by
  simp only[Loc.puts];rw[set_comm L o p (fun e=>h (by simp[e])),qL ks Lo (L.set j p) (fun a=>h (by simp[a]))]
theorem Dq:∀{ks:List Nat}{L:Loc}{k:Nat}{o:Own},k∉ks->(L.set k o).sub ks=L.sub ks
 | [],L,k,o,_=>rfl
 | j::ks,L,k,o,h=>by
  simp only[Loc.sub];rw[cm (fun e=>h (by simp[e])),Dq (fun a=>h (by simp[a]))]
theorem MU {t s:Option Nat}{x y:dU}{gx gy:Option (Nat×Bool)}{b:List ak}(hp:kT (.op t x gx) (.op s y gy)=true) (hr:Real F L) (r:Vd L ρ) (h:bg P PX fb (.op t x gx::.op s y gy::b) F L ρ K):bg P PX fb (.op s y gy::.op t x gx::b) F L ρ K:=by
  simp only[kT,Xf] at hp;obtain⟨⟨⟨⟨⟨ag,c⟩,hc⟩,w⟩,h2⟩,h3⟩:=hp;have w:=jP w;have h2:=jP h2;have h3:=nI h3;have aw:∀k,s=some k->t≠some k:=fun k e e'=>h3 k e' e;rw[iE] at h;obtain⟨x',q,h⟩:=h;have j:okD gU=true:=rfl;have n:okD x'=true:=by rcases cV q with rfl | rfl;exact ag;exact j
  have hy:∃m,res gy ρ y=some m:=by
   obtain⟨v,F1,L1,d⟩:=tZ n hr h;rw[iE] at d;obtain⟨m,a,_⟩:=d;rw[nZ w] at a;exact⟨m,a⟩
  obtain⟨m,a⟩:=hy;have z:okD m=true:=by rcases cV a with rfl | rfl;exact c;exact j
  have hA:evalOp P x' t F L ρ (fun F1 L1 o=>evalOp P m s F1 L1 o (fun F2 L2 l=>bg P PX fb b F2 L2 l K)):=by
   refine jm n hr r h ?_;rintro F1 L1 o ⟨v,rfl⟩ _ _ _ d;rw[iE] at d;obtain⟨ax,f,d⟩:=d;rw[nZ w,a] at f;injection f with f
   subst f;exact d
  have lx:∀k,s=some k->k∉cB (bC x'):=by
   intro k e d;rcases cV q with rfl | rfl
   ·exact h2 k e (nJ d)
   ·simp[gU,bC,cB] at d
  have ly:∀k,t=some k->k∉cB (bC m):=by
   intro k e d;rcases cV a with rfl | rfl
   ·exact w k e (nJ d)
   ·simp[gU,bC,cB] at d
  have hB:evalOp P m s F L ρ (fun F1 L1 o=>evalOp P x' t F1 L1 o (fun F2 L2 l=>bg P PX fb b F2 L2 l K)):=by
   by_cases p:m=gU
   ·subst p;simp only[gU,evalOp,aI,ev];exact vJ (K:=fun F2 L2 l=>bg P PX fb b F2 L2 l K) (u:=.v undef) n lx h3 hA
   ·have ey:m=y:=by rcases cV a with h | h;exact h;exact v7 h p
    subst ey;refine Gs hr ?_ ly lx h3 r hA;rcases cV q with rfl | rfl
    ·exact hc
    ·simp only[okD,XK] at c;rcases c with c | c
     ·simp only[vK,c,Yc,XK];exact .inl (.inl (.inl (.inl (.inl rfl))))
     ·simp only[vK,c,Yc,XK];exact .inl (.inr rfl)
  rw[iE];refine⟨m,a,jm z hr r hB ?_⟩;rintro F1 L1 o ⟨v,rfl⟩ _ _ _ d;rw[iE];exact⟨x',by rw[nZ h2];exact q,d⟩
theorem Ct {f:X}{args:List X}{k:Nat}(h:k∈cB args):k∈cB (f::args):=by
 cases f<;>simp[cB,h]
theorem Bb {d:Option Nat}{v:SV}{o:dU}(h:∀k,d=some k->k∉zA o):qF P L (put d v ρ) o=qF P L ρ o:=by
 cases o<;>try rfl
 ·rename_i f args;simp only[qF,vM h]
 ·rename_i f args;have a:∀k,d=some k->k∉cB args:=fun k e c=>h k e (Ct c);have b:ev (put d v ρ) f=ev ρ f:=fM h f (by simp);simp only[qF,vM a,b]
theorem EQ (hb:j6 L L') (a:Vd L ρ) (o:dU):qF P L' ρ o=qF P L ρ o:=by
 cases o<;>try rfl
 ·simp only[qF,rq hb a]
 ·simp only[qF,rq hb a]
theorem MV {o d:Option Nat}{x y:dU}{gx:Option (Nat×Bool)}{b:List ak}(hp:fH fb (.op o x gx) (.pc d y none)=true) (hr:Real F L) (q:Vd L ρ)
  (h:bg P PX fb (.op o x gx::.pc d y none::b) F L ρ K):bg P PX fb (.pc d y none::.op o x gx::b) F L ρ K:=by
 simp only[fH,Xf] at hp;obtain⟨⟨⟨⟨_,z⟩,p⟩,f⟩,n⟩:=hp;have p:=jP p;have f:=jP f;have n:=nI n;have ae:∀k,d=some k->o≠some k:=fun k e e'=>n k e' e;obtain⟨m,c,h⟩:=h;have a:(Ol m||OA fb m)=true:=by rcases cV c with rfl | rfl;exact z;rfl
 rw[cu (jQ a)] at h;obtain⟨v,hT,j⟩:=(fk (jQ a)).ex _ h;simp only[bg,Bb p] at j ⊢;split at j
 case h_2=>exact j.elim
 refine j.imp fun F' L' u w r _ t ad l=>⟨m,by rw[nZ f];exact c,?_⟩;rw[cu (jQ a)];have lx:∀k,d=some k->k∉cB (bC m):=by
  intro k e l;rcases cV c with rfl | rfl
  ·exact f k e (nJ l)
  ·simp[gU,bC,cB] at l
 have s:=qt (jQ a) (aA.le_refl F') (s6 (L:=L') (ρ:=ρ) (v:=.v u) lx) (Jw a t w r q hT);refine(fk (jQ a)).mono _ _ (fun v' e=>?_) s;subst e;rw[put_comm n];exact l
theorem MW {dx:Option Nat}{k:Nat}{t:TypeId}{zs:List Value}{x:dU}{n:List ak}(hp:fH fb (.pc dx x none) (.op (some k) (.allocD t zs) none)=true) (q:L.get k=none) (hr:Real F L) (w:Vd L ρ)
  (h:bg P PX fb (.pc dx x none::.op (some k) (.allocD t zs) none::n) F L ρ K):bg P PX fb (.op (some k) (.allocD t zs) none::.pc dx x none::n) F L ρ K:=by
 simp only[fH,Xf] at hp;have h1:=jP hp.1.2;have h3:=nI hp.2;simp only[bg,res,xo,exists_eq_left',evalOp,q] at h ⊢;intro g al;split at h
 case h_2=>exact h.elim
 rename_i _ _ f vs z _;obtain⟨ks,l,R,Pp,e1,e2,e0,e3,e4,e5⟩:=h;have s:k∉ks:=by
  intro s;obtain⟨hl,hg⟩:=dX e1;obtain⟨i,hi⟩:=List.getElem?_of_mem s;have:=hg i k hi;rw[q] at this;have h5:=(Xe.1 hi).1;have h6:=X3.1 this.symm;omega
 have o:j6 L (L.set k (.box g t zs)):=fun j r u cs e=>⟨cs,Keeps.new q j r u cs e⟩;have ea:qF P (L.set k (.box g t zs)) (put (some k) (.own k 0) ρ) x=some (f,vs):=by
  rw[Bb h1,EQ o w,z]
 rw[ea];refine⟨ks,l,R,Pp,by rw[Dq s];exact e1,e2,e0,e3,fun v F0 L' Lo hF y hb=>e4 v F0 L' Lo hF y fun j r u cs e=>hb j r u cs (Keeps.new q j r u cs e),fun v F' Lo hF hR=>?_⟩;obtain⟨a,b,c⟩:=e5 v F' Lo hF hR;refine⟨a,b,fun m=>?_⟩;rw[qL ks Lo L s] at m ⊢;obtain⟨k1,k2,_⟩:=s9 e1 e2 a b;have p:=k2 k q;have c:=c (m.down (aA.le_refl _) m.glob (Gr p));simp only[p] at c;rw[<-put_comm (d:=some k) (fun j e e'=>h3 j e' e)];exact c g m
theorem ER {x y:ak}{a:List ak}(c:fH fb x y=true) (e:∀k,rZ y=some k->L.get k=none) (d:Real F L) (b:Vd L ρ) (h:bg P PX fb (x::y::a) F L ρ K):bg P PX fb (y::x::a) F L ρ K:=by
 unfold fH at c;split at c
 ·exact MU c d b h
 ·exact MV c d b h
 ·exact MW c (e _ rfl) d b h
 ·cases c
theorem Bc {y:ak}{k:Nat}(h:rZ y=some k):xI y=some k:=by
 unfold rZ at h;split at h
 ·exact h
 ·cases h
theorem Gy {x y:ak}(a:fH fb x y=true) {k:Nat}(h:rZ y=some k):xI x≠some k:=by
 have b:=Bc h;unfold fH at a;split at a
 ·simp only[kT,Xf] at a;intro e;exact nI a.2 k e b
 ·simp[rZ] at h
 ·simp only[Xf] at a;intro e;exact nI a.2 k e b
 ·cases a
theorem Gz {b:Option Nat}{x:dU}{d:Option (Nat×Bool)}{y:ak}(a:fH fb (.op b x d) y=true):okD x=true:=by
 cases y with
 | frz k=>cases a
 | op c y f=>simp only[fH,kT,Xf] at a;exact a.1.1.1.1.1
 | pc c y f =>
  unfold fH at a;split at a
  ·rename_i e;cases e
  ·rename_i h j;injection h with q1 q2 q3
   subst q2;simp only[Xf] at a;have:=jQ a.1.1.1.2;simp[okD,Cr,this]
  ·rename_i e _;cases e
  ·cases a
def OB:ak->Bool
 | .op _ o _=>okD o
 | .pc _ o none=>Ba o
 | _=>false
theorem ES {x y:ak}(a:fH fb x y=true):OB x=true:=by
 cases x with
 | op d o g=>exact Gz a
 | frz k=>cases y<;>cases a
 | pc d o g =>
  cases g with
  | none =>
   cases y with
   | op c y b =>
    cases c with
    | none=>cases y<;>cases b<;>cases a
    | some k =>
     cases b with
     | some q=>cases y<;>cases a
     | none =>
      cases y<;>first
       | (cases a;done)
       | (simp only[fH,Xf] at a;exact a.1.1)
   | frz k=>cases a
   | pc c y b=>cases b<;>cases a
  | some q=>cases y<;>cases a
theorem xJ {x:ak}{c a:List ak}(u:OB x=true) (y:Real F L) (l:Vd L ρ) (h:bg P PX fb (x::c) F L ρ K)
  (t:∀F1 L1 b,F.le F1->Real F1 L1->Vd L1 b->(∀j,xI x≠some j->L.get j=none->L1.get j=none)->bg P PX fb c F1 L1 b K->bg P PX fb a F1 L1 b K):bg P PX fb (x::a) F L ρ K:=by
 cases x with
 | frz k=>cases u
 | op d o g =>
  obtain⟨o',m,h⟩:=h;have q:okD o'=true:=by rcases cV m with rfl | rfl;exact u;rfl
  exact⟨o',m,j5 q y l h fun F1 L1 b _ p s r n z=>t F1 L1 b p s r n z⟩
 | pc d o g =>
  unfold bg at h ⊢;split at h
  ·rename_i f args;refine h.imp fun F' L' v w p s _ r n=>t _ _ _ w r ((p.vd l).Xb d v) (fun j _ e=>s j e) n
  ·exact h.elim
theorem vN {y:ak}{s:List ak}:∀(p:List ak),(∀x∈p,fH fb x y=true)->∀{F:aA}{L:Loc}{ρ:Env},(∀k,rZ y=some k->L.get k=none)->Real F L->Vd L ρ->bg P PX fb (p++y::s) F L ρ K->bg P PX fb (y::(p++s)) F L ρ K
 | [],_,F,L,ρ,_,_,_,h=>h
 | x::p,c,F,L,ρ,l,j,a,h=>by
  refine ER (c x (by simp)) l j a ?_;refine xJ (ES (c x (by simp))) j a h fun F1 L1 o _ f b d m=>?_;exact vN p (fun z n=>c z (by simp[n])) (fun k e=>d k (Gy (c x (by simp)) e) (l k e)) f b m
end
section
variable {P:Program}{PX:aA->Loc->Value->Prop}{fb:List Nat}{K:cF}{Q:Exit->Act->World->Prop}{ops:Array Oper}
theorem yB {ks:List Nat}(b:ks.Nodup) {i j:Nat}{hi:i<ks.length}{c:j<ks.length}(h:ks[i]=ks[j]):i=j:=by
 rw[List.nodup_iff_pairwise_ne,List.pairwise_iff_getElem] at b;rcases Nat.lt_trichotomy i j with a | d | a
 ·exact v7 h (b i j hi c a)
 ·exact d
 ·exact v7 h.symm (b j i c hi a)
theorem lM {L:Loc}{ks:List Nat}{Lo:List Own}(h:ks.Nodup) (a:ks.length=Lo.length):((L.Wu ks).puts ks Lo).sameAs (L.puts ks Lo):=by
 intro j;rcases cZ ks Lo L j h a with⟨b,c⟩ | ⟨i,b,c,o⟩<;>rcases cZ ks Lo (L.Wu ks) j h a with⟨d,k⟩ | ⟨n,d,k,p⟩
 ·rw[b,d,fj,vv c]
 ·exact v7 (Xi d) c
 ·exact v7 (Xi b) k
 ·have:i=n:=by
   have l:=(Xe.1 b);have m:=(Xe.1 d);obtain⟨l,e⟩:=l;obtain⟨m,f⟩:=m;exact yB h (e.trans f.symm)
  subst this;rw[c,k]
theorem vO:∀{ks:List Nat}{L:Loc}{Lo:List Own},ks.length=Lo.length->(∀(i:Nat) k,ks[i]?=some k->L.get k=Lo[i]?)->L.sub ks=some Lo
 | [],L,[],_,_=>rfl
 | [],L,_::_,h,_=>by simp at h
 | _::_,L,[],h,_=>by simp at h
 | k::ks,L,o::Lo,h,b=>by
  have a:=b 0 k rfl;have c:L.sub ks=some Lo:=vO (by simpa using h) fun i j e=>by
   have:=b (i+1) j (by rw[XY];exact e);rw[XY] at this;exact this
  have a:L.get k=some o:=a;simp only[Loc.sub,a,c]
theorem GA {L:Loc}{ks:List Nat}{Lo:List Own}(h:ks.Nodup) (a:ks.length=Lo.length):(L.puts ks Lo).sub ks=some Lo:=by
 refine vO a fun i k e=>?_;rcases cZ ks Lo L k h a with⟨f,c⟩ | ⟨j,f,c,l⟩
 ·exact v7 (Xi e) c
 ·have hi:=Xe.1 e;have m:=Xe.1 f;obtain⟨n,b⟩:=hi;obtain⟨o,d⟩:=m;have:i=j:=yB h (b.trans d.symm);subst this;rw[c,x5 l]
theorem CallXDPt.toX {f:Nat}{args:List Value}{F:aA}{L:Loc}{K:aA->Loc->Value->Prop}(h:CallXDPt P PX fb f args F L K):eI P PX f args F L fun F' L' v=>∃L2,L'.sameAs L2/\(Real F' L2->K F' L2 v):=by
 obtain⟨ks,l,R,Pp,n,d,x,w,s,o⟩:=h;refine⟨ks,ks,l,R,Pp,n,d,d,fun k r=>.inl r,w,fun v F' Lo m j hb u=>s v F' _ Lo m (GA d j) hb u,fun v F' Lo m p=>?_⟩;obtain⟨a,b,c⟩:=o v F' Lo m p;obtain⟨q,y,_⟩:=s9 n d a b;refine⟨a,fun k g t cs _ e=>?_,_,lM d a,c⟩;rw[<-lM d a];exact q k g t cs e
theorem Bd {own:Bool}{o:Oper}{s:dU}{f:Nat}{vs:List Value}{F:aA}{L:Loc}{ρ:Env}{a:Act}{w:World}{K:cF}(l:St F L w) (e:aC L ρ a) (c:∀k,o.dst=some k->k<a.tmps.size) (d:gQ P own o.op=some s) (b:qF P L ρ s=some (f,vs))
  (h:eI P PX f vs F L fun F' L' v=>K F' L' (put o.dst (.v v) ρ))
  (j:∀v m w' F' L',Cg v m->St F' L' w'->Step F L w F' L' w'->PX F' L' v->Q (.panic m) a w'):o.wp P a w (aZ F L w a K) Q:=by
 cases s with
 | call n args =>
  simp only[qF,xo,Prod.mk.injEq] at b;obtain⟨rfl,rfl⟩:=b;exact uf l e c d h j
 | callV x args =>
  simp only[qF] at b;split at b
  case h_2=>cases b
  rename_i n fi ca p;simp only[xo,Prod.mk.injEq] at b;obtain⟨rfl,rfl⟩:=b;exact oe l e c d p h j
 | _=>cases b
theorem Be {o:dU}(ho:Dp o=true) {d:Option Nat}{F:aA}{L:Loc}{ρ:Env}{K:cF}(h:evalOp P o d F L ρ K):evalOp P o d F L ρ fun F' L' ρ'=>(∀j,d≠some j->L.get j=none->L'.get j=none)/\K F' L' ρ':=by
 cases o<;>simp only[Dp,Xm] at ho;rename_i e sz dd x;simp only[evalOp] at h ⊢;generalize ev ρ dd=z1 at h ⊢;generalize ev ρ x=z2 at h ⊢;split at h
 ·obtain⟨⟨k,n,v,t,xs,y,cr,q,j,m,a,c,news,b,l,p,z,s,h6,w,u,f⟩ | ⟨da,n,q,a,m,c,b,l,p,f⟩⟩:=h
  ·refine⟨.inl ⟨k,n,v,t,xs,y,cr,q,j,m,a,c,news,b,l,p,z,s,h6,w,u,fun r=>⟨fun i _ hi=>?_,f r⟩⟩⟩;rw[Loc.Wt];split
   ·rename_i e;subst e;rw[b] at hi;cases hi
   ·exact hi
  ·exact⟨.inr ⟨da,n,q,a,m,c,b,l,p,fun r=>⟨fun i _ hi=>hi,f r⟩⟩⟩
 ·exact h.elim
theorem ET {A:cQ}{i:Nat}{s:ak}{l:List ak}{F:aA}{L:Loc}{ρ:Env}{a:Act}{w:World}{KK:Act->World->Prop}(hi:i<ops.size) (c:zu P A ops i=some s) (m:Qd s=true) (hs:St F L w) (he:aC L ρ a) (hn:a.tmps.size=A.n)
  (y:bg P PX fb (s::l) F L ρ K)
  (hQ:∀q w' F' L' ρ',St F' L' w'->aC L' ρ' q->q.tmps.size=A.n->q.defers=a.defers->Step F L w F' L' w'->(∀j,((ops[i]?).bind (·.dst))≠some j->q.tmps.getD j undef=a.tmps.getD j undef) ->
   (∀j,xI s≠some j->L.get j=none->L'.get j=none)->bg P PX fb l F' L' ρ' K->KK q w')
  (hP:∀v ch w' F' L',Cg v ch->St F' L' w'->Step F L w F' L' w'->PX F' L' v->Q (.panic ch) a w') :
  wpOp P ops Q i KK a w:=by
 cases s with
 | frz k=>cases m
 | op d o g =>
  obtain⟨o',t,h⟩:=y;have h2:aV P [.op d o g] F L ρ (fun F' L' ρ'=>(∀j,d≠some j->L.get j=none->L'.get j=none)/\bg P PX fb l F' L' ρ' K):=by
   refine fG.2 ⟨o',t,?_⟩;have m:(okD o||Dp o)=true:=m;rw[XK] at m;rcases m with m | m
   ·have al:okD o'=true:=by rcases cV t with rfl | rfl;exact m;rfl
    exact j5 al ⟨w,hs⟩ he.vd h fun F1 L1 az _ _ _ _ u h6=>⟨u,h6⟩
   ·rcases cV t with rfl | rfl
    ·exact Be m h
    ·exact j5 rfl ⟨w,hs⟩ he.vd h fun F1 L1 az _ _ _ _ u h6=>⟨u,h6⟩
  exact AY hi c hs he hn h2 fun q w' F' L' ρ' g1 g2 g3 g4 g5 z g7=>hQ q w' F' L' ρ' g1 g2 g3 g4 g5 z g7.1 g7.2
 | pc d o g =>
  unfold bg at y;split at y
  case h_2=>exact y.elim
  rename_i f vs bc;unfold zu at c;split at c
  case h_1=>cases c
  rename_i o x;split at c
  case h_2=>cases c
  rename_i g s0 hg an r;rename_i o0 _ _ _ _ _ _;have aE:o.dst=d/\s0=o0/\g=none:=by
   split at c
   ·split at c
    ·injection c with c
     injection c with q1 q2 q3
     exact⟨q1,q2,rfl⟩
    ·injection c with c
     injection c with q1 q2 q3
     exact⟨q1,q2,rfl⟩
    ·cases c
   ·split at c
    ·split at c
     ·cases c
     ·cases c
    ·split at c
     ·split at c<;>cases c
     ·cases c
  obtain⟨rfl,rfl,rfl⟩:=aE;have hd:∀k,o.dst=some k->k<a.tmps.size:=by
   intro k hk;rw[hk] at r;rw[hn];have h2:Nat.blt k A.n=true:=r;simpa using h2
  have ae:(ops[i]?).bind (·.dst)=o.dst:=by rw[x];rfl
  rw[ae] at hQ;simp only[wpOp,x];have av:o.guard=none:=by
   cases e:o.guard with
   | none=>rfl
   | some p=>obtain⟨j,b⟩:=p;rw[e] at hg;simp only[gS] at hg;split at hg<;>cases hg
  rw[j3 (by simp[Region.wanted,av])];refine .inl ?_;have ap:=y.imp (K':=fun F' L' v=>(∀j,L.get j=none->L'.get j=none)/\bg P PX fb l F' L' (put o.dst (.v v) ρ) K) fun F' L' v _ _ h3 _ _ u=>⟨h3,u⟩;have:=Bd (K:=fun F' L' ρ'=>∃L2,L'.sameAs L2/\(Real F' L2->(∀j,L.get j=none->L2.get j=none)/\bg P PX fb l F' L2 ρ' K)) hs he hd an bc ap.toX hP;refine Oper.wp_mono ?_ (pF (asg:=[]) this);rintro q w' ⟨⟨F',L',ρ',g1,g2,g3,g4,g5,L2,z,g7⟩,ag⟩;have s1:St F' L2 w':=g1.part fun k o e=>by rw[<-z k];exact e
  obtain⟨g8,g9⟩:=g7 ⟨w',s1⟩;exact hQ q w' F' L2 ρ' s1 (g2.same z) (by rw[g3,hn]) g4 (g5.W5 z) ag (fun j _ e=>g8 j e) g9
def lW (fb:List Nat) (a:List (List Nat)):List (Nat×ak)->Bool
 | []=>true
 | (x,b)::l=>l.all (fun p=>fH fb b p.2||fw (zw a p.1) x)&&lW fb a l
def Cu (ss:List ak):List Nat:=ss.filterMap xI
def zB (ss:List ak):List Nat:=ss.filterMap fun s=>match s with | .op _ (.loadK key _ _ _) _=>some key | _=>none
def zC (P:Program) (ops:Array Oper) (is:List Nat) (a:List (List Nat)) (ss:List ak):Bool :=
 P.follows .mixedOrders&&Gu ops a&&bE is&&Nat.beq is.length ops.size&&is.all (fun i=>Nat.blt i ops.size)&&(List.range ops.size).all (fw is)&&lW (zB ss) a (is.zip ss)&&ss.all Qd&&bE (Cu ss)
theorem r9 {d:List (List Nat)}:∀{p q:List (Nat×ak)}{y:Nat×ak},lW fb d (p++y::q)=true->lW fb d (p++q)=true/\∀x∈p,fH fb x.2 y.2=true\/x.1∈zw d y.1
 | [],q,y,h=>by
  obtain⟨o,n⟩:=y;simp only[XO,lW,Xf] at h ⊢;exact⟨h.2,fun x a=>by cases a⟩
 | (l,m)::p,q,y,h=>by
  simp only[Xu,lW,Xf] at h ⊢;obtain⟨e,f⟩:=h;obtain⟨k,j⟩:=r9 f;have c:=Xo.1 e;refine⟨⟨Xo.2 fun z b=>c z ?_,k⟩,fun x a=>?_⟩
  ·rcases yo.1 b with b | b
   ·exact yo.2 (.inl b)
   ·exact yo.2 (.inr (XE _ b))
  ·rcases Xh.1 a with rfl | a
   ·have:=c y (yo.2 (.inr (by simp)));simp only[XK] at this;rcases this with h | h
    ·exact .inl h
    ·exact .inr (cI.1 h)
   ·exact j x a
theorem Jy {p q:List ak}{y:ak}(h:(Cu (p++y::q)).Nodup):(Cu (p++q)).Nodup/\∀k,xI y=some k->∀z∈p++q,rZ z≠some k:=by
 have e:Cu (p++y::q)=Cu p++((xI y).toList++Cu q):=by
  unfold Cu;rw[List.filterMap_append,List.filterMap_cons];cases xI y<;>rfl
 rw[e] at h;have c:(Cu p++Cu q).Nodup:=by
  refine List.Sublist.nodup ?_ h;exact List.Sublist.append (List.Sublist.refl _) (List.sublist_append_right _ _)
 refine⟨by unfold Cu at c ⊢;rw[List.filterMap_append];exact c,fun k j z a f=>?_⟩;have b:=Bc f;rw[j] at h;have d:k∉Cu p++Cu q:=by
  have:(Cu p++k::Cu q).Nodup:=h;have:=(List.perm_middle.nodup_iff).1 this;rw[List.nodup_cons] at this;exact this.1
 apply d;rcases yo.1 a with a | a
 ·exact yo.2 (.inl (List.mem_filterMap.2 ⟨z,a,b⟩))
 ·exact yo.2 (.inr (List.mem_filterMap.2 ⟨z,a,b⟩))
theorem GD {A:cQ}{i:Nat}{s:ak}(a:zu P A ops i=some s):(ops[i]?).bind (·.dst)=xI s:=by
 unfold zu at a;split at a
 case h_1=>cases a
 rename_i o b;rw[b];split at a
 case h_2=>cases a
 split at a
 ·split at a
  ·injection a with a;subst a;rfl
  ·injection a with a;subst a;rfl
  ·cases a
 ·split at a
  ·split at a
   ·injection a with a;subst a;rfl
   ·cases a
  ·split at a
   ·split at a
    ·injection a with a;subst a;rfl
    ·cases a
   ·cases a
theorem Cv {A:cQ}{cl:List (List Nat)}(bv:Gu ops cl=true):∀(fuel:Nat) (l:List Nat) (ss:List ak) (b:Array Bool) (F:aA) (L:Loc) (ρ:Env) (a:Act) (w:World),
  eH P A ops l=some ss->b.size=ops.size->l.Nodup->(∀i,i∈l↔i<ops.size/\b.getD i true=false)->l.length<=fuel->lW fb cl (l.zip ss)=true ->
  (∀i,i<ops.size->b.getD i true=true->∀z∈direct ops i,b.getD z true=true) ->
  (∀s∈ss,Qd s=true)->(Cu ss).Nodup->(∀s∈ss,∀k,rZ s=some k->L.get k=none) ->
  St F L w->aC L ρ a->a.tmps.size=A.n->bg P PX fb ss F L ρ K ->
  (∀a' w',dZ A.n F L w a (dstsOf ops (List.range ops.size)) K a' w'->Q .normal a' w') ->
  (∀v ch a' w' F' L',Cg v ch->St F' L' w'->Step F L w F' L' w'->a'.tmps.size=A.n->a'.defers=a.defers->(∀j,j∉dstsOf ops (List.range ops.size)->a'.tmps.getD j undef=a.tmps.getD j undef)->PX F' L' v->Q (.panic ch) a' w')->wpAny P .any ops Q fuel b a w:=by
 have m:∀y z,y<ops.size->z∈direct ops y->z<y:=by
  intro y z hy r;have h:=Xo.1 bv y (List.mem_range.2 hy);simp only[zy,Xf] at h;have h3:Nat.blt z y=true:=Xo.1 h.1 z r;simpa using h3
 intro fuel
 induction fuel with
 | zero =>
  intro l ss b F L ρ a w hl ay bs d ag hp f bc bu ar hs he hn hK hQ hP;have:l=[]:=XD (by omega);subst this;simp only[eH,xo] at hl;subst hl;refine⟨?_,hQ a w ⟨F,L,ρ,hs,he,hn,rfl,Step.refl _ _ _,fun _ _=>rfl,hK⟩⟩;apply List.eq_nil_iff_forall_not_mem.2;intro i hi;rw[mem_ready] at hi;obtain⟨h1,o,h2,_⟩:=hi;have:=(d i).2 ⟨(Array.getElem?_eq_some_iff.1 h2).1,h1⟩;cases this
 | succ fuel ih =>
  intro l ss b F L ρ a w hl ay bs d ag hp f bc bu ar hs he hn hK hQ hP;refine⟨fun hr=>?_,fun y hy=>?_⟩
  ·have:l=[]:=by
    refine Classical.byContradiction fun u=>?_;obtain⟨y,h1,h2⟩:=min_mem u;obtain⟨h3,h4⟩:=(d y).1 h1;have al:y∈Region.ready .any ops b:=by
     rw[mem_ready];refine⟨h4,ops[y],Array.getElem?_eq_getElem h3,fun e ba ax=>?_⟩;have r:e.on∈direct ops y:=(n9 (Array.getElem?_eq_getElem h3)).2 ⟨e,ba,ax,rfl⟩;have de:=m y e.on h3 r;rw[rY (by omega) false true];cases hd:b.getD e.on true with
     | true=>rfl
     | false =>
      have:=h2 e.on ((d e.on).2 ⟨by omega,hd⟩);omega
    rw[hr] at al;cases al
   subst this;simp only[eH,xo] at hl;subst hl;exact hQ a w ⟨F,L,ρ,hs,he,hn,rfl,Step.refl _ _ _,fun _ _=>rfl,hK⟩
  ·rw[mem_ready] at hy;obtain⟨h1,o,ho,ao⟩:=hy;have c:=(Array.getElem?_eq_some_iff.1 ho).1;have ap:=(d y).2 ⟨c,h1⟩;obtain⟨p,q,rfl⟩:=List.append_of_mem ap;obtain⟨eb,bo⟩:=pH hl;obtain⟨sp,sy,sq,rfl,an,bp,dj⟩:=bo p q y rfl;have ca:(p++y::q).zip (sp++sy::sq)=p.zip sp++(y,sy)::q.zip sq:=by
    rw[List.zip_append an.symm];rfl
   rw[ca] at hp;obtain⟨cw,ci⟩:=r9 hp;have ac:∀z∈direct ops y,b.getD z true=true:=by
    intro z r;have de:=m y z c r;obtain⟨e,ba,ax,rfl⟩:=(n9 ho).1 r;rw[rY (by omega) true false];exact ao e ba ax
   have aa:∀sx∈sp,fH fb sx sy=true:=by
    intro sx cr;obtain⟨k,hk⟩:=List.getElem?_of_mem cr;have ea:=(Xe.1 hk).1;have bk:p[k]?=some (p[k]'(by omega)):=x5 (by omega);have hm:(p[k]'(by omega),sx)∈p.zip sp:=Xi (i:=k) (by rw[List.getElem?_zip_eq_some];exact⟨bk,hk⟩);rcases ci _ hm with h | h
    ·exact h
    ·exfalso;have hd:=uc bv (done:=fun z=>b.getD z true=true) f y c ac _ h;have cp:p[k]'(by omega)∈p++y::q:=yo.2 (.inl (Xi bk));have:=((d _).1 cp).2;simp only at hd;rw[hd] at this;cases this
   have cz:=vN sp aa (fun k e=>ar sy (by simp) k e) ⟨w,hs⟩ he.vd hK;obtain⟨bl,cY⟩:=Jy bu;have eg:(ops[y]?).bind (·.dst)=xI sy:=GD bp;refine ET c bp (bc sy (by simp)) hs he hn cz ?_ (fun v ch w' F' L' hc h1 h2 h3=>hP v ch a w' F' L' hc h1 h2 hn rfl (fun _ _=>rfl) h3);intro a' w' F' L' ρ' g1 g2 g3 g4 g5 g6 g8 g7;have ae:(p++q).Nodup/\y∉p++q:=by
    have:=(List.perm_middle.nodup_iff).1 bs;rw[List.nodup_cons] at this;exact⟨this.2,this.1⟩
   have am:∀i,(b.setIfInBounds y true).getD i true=if i=y then true else b.getD i true:=by
    intro i;simp only[XC,Array.getElem?_setIfInBounds]
    by_cases hi:y=i
    ·subst hi;rw[j3 rfl,j3 rfl];simp[ay,c]
    ·rw[vv hi,vv (fun h=>hi h.symm)]
   refine ih (p++q) (sp++sq) _ F' L' ρ' a' w' dj (by simp[ay]) ae.1 (fun i=>?_) (by simp at ag ⊢;omega) ?_ ?_ (fun z r=>bc z (by rcases yo.1 r with h | h<;>simp[h])) bl (fun z r k e=>g8 k (fun e2=>cY k e2 z r e) (ar z (by rcases yo.1 r with h | h<;>simp[h]) k e)) g1 g2 g3 g7 ?_ ?_
   ·rw[am];have h0:=d i;constructor
    ·intro hi;have u:i≠y:=fun e=>ae.2 (e▸hi);rw[vv u];refine h0.1 ?_;rcases yo.1 hi with h | h
     ·exact yo.2 (.inl h)
     ·exact yo.2 (.inr (XE _ h))
    ·rintro⟨cM,aw⟩;split at aw
     ·cases aw
     ·rename_i u;have:=h0.2 ⟨cM,aw⟩;rcases yo.1 this with h | h
      ·exact yo.2 (.inl h)
      ·rcases Xh.1 h with h | h
       ·exact v7 h u
       ·exact yo.2 (.inr h)
   ·rw[List.zip_append an.symm];exact cw
   ·intro i hi hd z r;rw[am] at hd ⊢;split
    ·rfl
    ·split at hd
     ·rename_i h;subst h;exact ac z r
     ·exact f i hi hd z r
   ·rintro av aE ⟨F'',L'',bm,k1,k2,k3,k4,k5,k6,k7⟩;refine hQ av aE ⟨F'',L'',bm,k1,k2,k3,k4.trans g4,g5.trans k5,fun j hj=>?_,k7⟩;rw[k6 j hj,g6 j];intro e;apply hj;have:∀(is:List Nat),y∈is->j∈dstsOf ops is:=by
     intro is
     induction is with
     | nil=>intro h;cases h
     | cons x is t =>
      intro h;simp only[dstsOf];rcases Xh.1 h with rfl | h
      ·rw[e];simp
      ·split
       ·exact XE _ (t h)
       ·exact t h
    exact this _ (List.mem_range.2 c)
   ·intro v ch av aE F'' L'' kc k1 k2 k3 k4 k5 k6;refine hP v ch av aE F'' L'' kc k1 (g5.trans k2) k3 (k4.trans g4) (fun j hj=>?_) k6;rw[k5 j hj,g6 j];intro e;apply hj;have:∀(is:List Nat),y∈is->j∈dstsOf ops is:=by
     intro is
     induction is with
     | nil=>intro h;cases h
     | cons x is t =>
      intro h;simp only[dstsOf];rcases Xh.1 h with rfl | h
      ·rw[e];simp
      ·split
       ·exact XE _ (t h)
       ·exact t h
    exact this _ (List.mem_range.2 c)
theorem pI {A:cQ}{r:Nat}{is:List Nat}{cl:List (List Nat)}{ss:List ak}{F:aA}{L:Loc}{ρ:Env}{a:Act}{w:World}(hl:eH P A ops is=some ss) (x:zC P ops is cl ss=true)
  (hs:St F L w) (he:aC L ρ a) (hn:a.tmps.size=A.n) (q:∀s∈ss,∀k,rZ s=some k->L.get k=none) (hK:bg P PX (zB ss) ss F L ρ K) (hQ:∀c w',dZ A.n F L w a (dstsOf ops (List.range ops.size)) K c w'->Q .normal c w')
  (hP:∀v e c w' F' L',Cg v e->St F' L' w'->Step F L w F' L' w'->c.tmps.size=A.n->c.defers=a.defers->(∀j,j∉dstsOf ops (List.range ops.size)->c.tmps.getD j undef=a.tmps.getD j undef)->PX F' L' v->Q (.panic e) c w') :
  (Code.region r ops true).wp P Q a w:=by
 simp only[zC,Xf] at x;obtain⟨⟨⟨⟨⟨⟨⟨⟨z,h2⟩,t⟩,y⟩,h5⟩,h7⟩,h6⟩,h8⟩,h9⟩:=x;have t:=cK t;have y:=v8 y;have d:∀i∈is,i<ops.size:=fun i hi=>by
  have h:Nat.blt i ops.size=true:=Xo.1 h5 i hi;simpa using h
 refine wp_region_any z ?_;show wpAny P .any ops Q ops.size (Array.replicate ops.size false) a w.drew;refine Cv h2 ops.size is ss _ F L ρ a w.drew hl (by simp) t (fun i=>?_) (by omega) h6 ?_ (Xo.1 h8) (cK h9) q hs.drew he hn hK ?_ ?_
 ·constructor
  ·intro hi;refine⟨d i hi,?_⟩;simp[XC,d i hi]
  ·rintro⟨hi,_⟩;exact cI.1 (Xo.1 h7 i (List.mem_range.2 hi))
 ·intro i hi u;simp[XC,hi] at u
 ·rintro c w' ⟨F',L',ρ',m,g2,o,p,b,f,l⟩;refine hQ c w' ⟨F',L',ρ',m,g2,o,p,?_,f,l⟩;exact⟨b.le,b.os,b.tape,b.output,b.size,b.same,b.frz,b.own⟩
 ·intro v e c w' F' L' gc m b o p f l;exact hP v e c w' F' L' gc m ⟨b.le,b.os,b.tape,b.output,b.size,b.same,b.frz,b.own⟩ o p f l
end
def cE:Code->List Nat
 | .region _ d _=>dstsOf d (List.range d.size)
 | .seq a b=>cE a++cE b
 | .cond _ a b=>cE a++cE b
 | .block _ c | .loop c | .scope c=>cE c
 | _=>[]
def xK:List Nat->aJ->aJ
 | [],x=>x
 | k::l,x=>.seq (.reg (.frz k::l.map .frz)) x
def Dr:List ak->Bool
 | []=>true
 | .op _ _ _::l=>Dr l
 | _::_=>false
def low (P:Program) (A:cQ):Code->Option aJ
 | .skip=>some .skip
 | .label _=>some .skip
 | .region r d false=>match pE P A r d (List.range d.size) with | some ss=>some (.reg ss) | none=>none
 | .region r d true=>match Gm A.ord r,eH P A d (rX A.ord r) with
  | some (is,e),some ss=>match Dr ss with
   | true=>match Cs P d is e ss with
    | true=>some (xK (Gl A.frz r 0) (.regD ss))
    | false=>none
   | false=>match zC P d is e ss with
    | true=>some (.regX ss)
    | false=>none
  | _,_=>none
 | .seq a b=>match low P A a,low P A b with | some x,some y=>some (.seq x y) | _,_=>none
 | .cond c a b=>match bh c,low P A a,low P A b with | some c,some x,some y=>some (.cond c x y) | _,_,_=>none
 | .scope c=>low P A c
 | .block id c=>match low P A c with | some x=>some (.block id x) | none=>none
 | .loop c=>match low P A c with | some x=>some (.loop (cE c) x) | none=>none
 | .exit id=>some (.exit id)
 | .ret=>some .ret
 | _=>none
section
variable {P:Program}{Q:Exit->Act->World->Prop}
def qM (n:Nat) (F:aA) (L:Loc) (w:World) (a:Act) (asg:List Nat) (PX:aA->Loc->Value->Prop) (v:Value) (b:Act) (w':World):Prop :=
 ∃F' L',St F' L' w'/\Step F L w F' L' w'/\b.tmps.size=n/\b.defers=a.defers/\(∀j,j∉asg->b.tmps.getD j undef=a.tmps.getD j undef)/\PX F' L' v
theorem qM.after {n:Nat}{F F1:aA}{L L1:Loc}{w k:World}{a d:Act}{asg asg1 b:List Nat}{PX PX':aA->Loc->Value->Prop}{v:Value}{m:Act}{w':World}(e:Step F L w F1 L1 k) (f:d.defers=a.defers) (c:∀j,j∉asg1->d.tmps.getD j undef=a.tmps.getD j undef)
  (h:qM n F1 L1 k d b PX v m w') (o:∀j,j∈asg1->j∈asg) (s:∀j,j∈b->j∈asg) (t:∀F L,PX F L v->PX' F L v):qM n F L w a asg PX' v m w':=by
 obtain⟨F',L',q,x,r,u,y,p⟩:=h;exact⟨F',L',q,e.trans x,r,u.trans f,fun j l=>by rw[y j (fun h=>l (s j h)),c j (fun h=>l (o j h))],t _ _ p⟩
theorem qM.mono {n:Nat}{F:aA}{L:Loc}{w:World}{a:Act}{asg b:List Nat}{PX:aA->Loc->Value->Prop}{v:Value}{d:Act}{w':World}(h:qM n F L w a asg PX v d w') (c:∀j,j∈asg->j∈b):qM n F L w a b PX v d w':=by
 obtain⟨F',L',f,o,k,m,p,e⟩:=h;exact⟨F',L',f,o,k,m,fun j l=>p j (fun h=>l (c j h)),e⟩
def QQ (n:Nat) (F:aA) (L:Loc) (w:World) (a:Act) (asg:List Nat) (PX:aA->Loc->Value->Prop) (E:Nat->cF) (R N:cF):Exit->Act->World->Prop
 | .normal,b,w'=>dZ n F L w a asg N b w'
 | .exit j,b,w'=>dZ n F L w a asg (E j) b w'
 | .ret,b,w'=>dZ n F L w a asg R b w'
 | .panic c,b,w'=>∃v,Cg v c/\qM n F L w a asg PX v b w'
 | _,_,_=>False
theorem dZ.mono {n:Nat}{F:aA}{L:Loc}{w:World}{a:Act}{asg b:List Nat}{K:cF}{e:Act}{w':World}(h:dZ n F L w a asg K e w') (c:∀j,j∈asg->j∈b):dZ n F L w a b K e w':=by
 obtain⟨F',L',ρ',f,l,r,p,k,q,o⟩:=h;exact⟨F',L',ρ',f,l,r,p,k,fun j m=>q j (fun d=>m (c j d)),o⟩
theorem dZ.after {n:Nat}{F F1:aA}{L L1:Loc}{w k:World}{a d:Act}{asg asg1 b:List Nat}{K:cF}{m:Act}{w':World}(e:Step F L w F1 L1 k) (f:d.defers=a.defers) (c:∀j,j∉asg1->d.tmps.getD j undef=a.tmps.getD j undef)
  (h:dZ n F1 L1 k d b K m w') (o:∀j,j∈asg1->j∈asg) (t:∀j,j∈b->j∈asg):dZ n F L w a asg K m w':=by
 obtain⟨F',L',ρ',r,v,s,u,x,p,q⟩:=h;exact⟨F',L',ρ',r,v,s,u.trans f,e.trans x,fun j l=>by rw[p j (fun h=>l (t j h)),c j (fun h=>l (o j h))],q⟩
def oN (P:Program):List ResultVar->Option (List RV)
 | []=>some []
 | .tmp t::l=>match oN P l with | some r=>some ((t,none)::r) | none=>none
 | .cell a t::l=>match P.underlying t,P.info? t,oN P l with
  | some d,some i,some r=>some ((a,some (match di d with | true=>(true,i.size) | false=>(false,1)))::r)
  | _,_,_=>none
def vP (tmps:Array Value):ResultVar->Sem Value
 | .tmp t=>pure (tmps.getD t undef)
 | .cell a t=>do loadVar t (<-asAddr (tmps.getD a undef))
theorem pJ {F:aA}{L:Loc}{ρ:Env}{a:Act}{w:World}(hs:St F L w) (y:aC L ρ a):∀{l:List ResultVar}{rs:List RV}{K:List Value->Prop},oN P l=some rs->kS L ρ rs K ->
  ∃vs,(l.mapM (vP a.tmps)).run P w=.ok vs w/\K vs
 | [],rs,K,h,b=>by simp only[oN,xo] at h;subst h;exact⟨[],by simp,b⟩
 | .tmp t::l,rs,K,h,b=>by
  simp only[oN] at h;split at h
  case h_2=>cases h
  rename_i r z;injection h with h;subst h
  simp only[kS] at b;obtain⟨vs,o,q⟩:=pJ hs y z b;refine⟨_,?_,q⟩;simp only[List.mapM_cons,vP,Sem.run_bind,Sem.run_pure,Result.andThen_ok];rw[o];simp[y.eq t]
 | .cell t ty::l,rs,K,h,b=>by
  simp only[oN] at h;split at h
  case h_2=>cases h
  rename_i d i r hd hi z;injection h with h;subst h
  generalize c:(match di d with | true=>(true,i.size) | false=>(false,1):Bool×Nat)=p at b;obtain⟨ag,n⟩:=p;have u:ag=di d:=by cases e:di d<;>rw[e] at c<;>injection c with o q<;>exact o.symm
  have hn:n=match di d with | true=>i.size | false=>1:=by cases e:di d<;>rw[e] at c<;>injection c with o q<;>exact q.symm
  simp only[kS] at b;split at b
  case h_2=>exact b.elim
  rename_i k off ac;split at b
  case h_2=>exact b.elim
  rename_i g ty' cs hk;split at b
  case h_2=>exact b.elim
  rename_i x;have ab:=uN x;have x:=ia (zm x);obtain⟨vs,o,q⟩:=pJ hs y z b;refine⟨_,?_,q⟩;have s:=hs.own k _ hk;have m:∀j v,((cs.drop off).take n)[j]?=some v->w.cell? ((⟨g,off,none⟩:Addr).add j)=some v:=by
   intro j v hv;rw[bV,mP ab s];have hj:j<n:=by
    have:=Xe.1 hv;obtain⟨h,_⟩:=this;omega
   rw[List.getElem?_take_of_lt hj,XH] at hv;exact hv
  have hy:a.tmps.getD t undef=.pointer (some ⟨g,off,none⟩):=by rw[y.eq t];simp only[ac,conc,hk]
  have f:=nW hd hi m x hn;simp only[Instr.loadAt,Instr.sureAddr,Sem.run_bind,Sem.run_pure,Result.andThen_ok] at f;simp only[List.mapM_cons,vP,hy,asAddr,Sem.run_bind,Sem.run_pure,Result.andThen_ok,f];rw[o,u];simp
theorem ru (fn:Func) (tmps:Array Value):results fn tmps=(do let vs <-fn.results.mapM (vP tmps);pure (if h:vs.size=1 then vs[0] else .tuple vs)):=by
 unfold results;have h:(fun(r:ResultVar)=>match r with | .tmp t=>(pure (tmps.getD t undef):Sem Value) | .cell a t=>do loadVar t (<-asAddr (tmps.getD a undef)))=vP tmps:=by
  funext r
  cases r<;>rfl
 rw[<-h];rfl
theorem pK:∀(svs:List SV) (k j:Nat),rS k svs j=if k<=j then(svs[j-k]?).getD (.v undef) else .v undef
 | [],k,j=>by simp[rS]
 | v::svs,k,j=>by
  simp only[rS,put_eq]
  by_cases h:j=k
  ·subst h;simp
  ·rw[vv h,pK svs (k+1) j]
   by_cases a:k<=j
   ·rw[j3 (by omega),j3 a,show j-k=(j-(k+1))+1 by omega,XY]
   ·rw[vv (by omega),vv a]
def aD (P:Program) (A:cQ) (fn:Func):Option (aJ×Nat×List RV×Bool) :=
 match fn.body with
 | some c=>match low P A c,oN P fn.results.toList with
  | some sc,some rs=>some (sc,fn.ntmps,rs,fn.name == "runtime.NumGoroutine")
  | _,_=>none
 | none=>none
theorem GF {Lin:List Own}:∀(vs:List Value),∀v∈vs.map SV.v,(∀k off,v=.own k off->∃g ty cs,(inp Lin).get k=some (.box g ty cs))/\(∀a j,v=.el a j->a≠none):=by
 intro vs v b;obtain⟨u,_,rfl⟩:=XI.1 b;exact⟨fun _ _ e=>(by cases e),fun _ _ e=>(by cases e)⟩
end
inductive G where
 | int (k:IntKind) (n:Int)
 | bool (b:Bool)
 | str (s:ByteArray)
 | sl (sz:Nat) (l:List G)
 | st (l:List G)
mutual
def Rd (F:aA):G->List Value->Prop
 | .int k n,cs=>cs=[.int k n]/\(Lit.int k n).wf=true
 | .bool b,cs=>cs=[.bool b]
 | .str s,cs=>cs=[.string s]
 | .sl sz l,cs=>∃a c,cs=[.slice a l.length c]/\l.length<=c/\c<=maxLen/\(a=none->l=[]/\c=0)/\si F a sz 0 l
 | .st l,cs=>lX F l cs
def si (F:aA) (a:Option Addr) (sz:Nat):Nat->List G->Prop
 | _,[]=>True
 | i,x::l=>(∃es,es.length=sz/\bM F a (i*sz) es/\Rd F x es)/\si F a sz (i+1) l
def lX (F:aA):List G->List Value->Prop
 | [],cs=>cs=[]
 | x::l,cs=>∃c1 c2,cs=c1++c2/\Rd F x c1/\lX F l c2
end
mutual
theorem Rd.mono {F F':aA}(hle:F.le F'):∀{g:G}{cs:List Value},Rd F g cs->Rd F' g cs
 | .int k n,cs,h=>h
 | .bool b,cs,h=>h
 | .str s,cs,h=>h
 | .sl sz l,cs,h=>by
  simp only[Rd] at h ⊢;obtain⟨a,c,h1,h2,h3,h4,h5⟩:=h;exact⟨a,c,h1,h2,h3,h4,si.mono hle h5⟩
 | .st l,cs,h=>by
  simp only[Rd] at h ⊢;exact lX.mono hle h
theorem si.mono {F F':aA}(hle:F.le F') {a:Option Addr}{sz:Nat}:∀{i:Nat}{l:List G},si F a sz i l->si F' a sz i l
 | _,[],h=>by simp only[si]
 | i,x::l,h=>by
  simp only[si] at h ⊢;obtain⟨⟨es,h1,h2,h3⟩,h4⟩:=h;exact⟨⟨es,h1,h2.mono hle,Rd.mono hle h3⟩,si.mono hle h4⟩
theorem lX.mono {F F':aA}(hle:F.le F'):∀{l:List G}{cs:List Value},lX F l cs->lX F' l cs
 | [],cs,h=>by simp only[lX] at h ⊢;exact h
 | x::l,cs,h=>by
  simp only[lX] at h ⊢;obtain⟨c1,c2,h1,h2,h3⟩:=h;exact⟨c1,c2,h1,Rd.mono hle h2,lX.mono hle h3⟩
end
theorem vQ {F:aA}{a:Option Addr}{sz:Nat}:∀{l:List G}{i:Nat},si F a sz i l↔∀j x,l[j]?=some x->∃es,es.length=sz/\bM F a ((i+j)*sz) es/\Rd F x es
 | [],i=>by simp[si]
 | x::l,i=>by
  simp only[si,vQ (l:=l)];constructor
  ·rintro⟨c,d⟩ j y b;cases j with
   | zero=>simp only[Xp,xo] at b;subst b;simpa using c
   | succ j =>
    simp only[XY] at b;have:=d j y b
    rwa [show i+1+j=i+(j+1) by omega] at this
  ·intro h;refine⟨by simpa using h 0 x (by simp),fun j y b=>?_⟩;have:=h (j+1) y (by simpa using b)
   rwa [show i+(j+1)=i+1+j by omega] at this
structure Sl (F:aA) (sz:Nat) (l:List G) (a:Option Addr) (c:Nat):Prop where
 cap:l.length<=c
 max:c<=maxLen
 nil:a=none->l=[]/\c=0
 elems:∀j x,l[j]?=some x->∃es,es.length=sz/\bM F a (j*sz) es/\Rd F x es
theorem Sl.mono {F F':aA}{sz:Nat}{l:List G}{a:Option Addr}{c:Nat}(h:Sl F sz l a c) (b:F.le F'):Sl F' sz l a c :=
 ⟨h.cap,h.max,h.nil,fun j x d=>let⟨es,h1,h2,h3⟩:=h.elems j x d;⟨es,h1,h2.mono b,h3.mono b⟩⟩
theorem L7 {F:aA}{sz:Nat}{l:List G}{cs:List Value}:Rd F (.sl sz l) cs↔∃a c,cs=[.slice a l.length c]/\Sl F sz l a c:=by
 simp only[Rd];constructor
 ·rintro⟨a,c,d,b,h,k,f⟩;exact⟨a,c,d,b,h,k,fun j x e=>by have:=vQ.1 f j x e;simpa using this⟩
 ·rintro⟨a,c,d,b⟩;exact⟨a,c,d,b.cap,b.max,b.nil,vQ.2 fun j x e=>by have:=b.elems j x e;simpa using this⟩
theorem Sl.ne {F:aA}{sz:Nat}{l:List G}{a:Option Addr}{c:Nat}(h:Sl F sz l a c) (b:l≠[]):a≠none:=fun e=>b (h.nil e).1
theorem Sl.load {F F':aA}{L:Loc}{sz:Nat}{l:List G}{a:Option Addr}{c:Nat}{j:Nat}{x:G}{K:List Value->Prop}(h:Sl F sz l a c) (b:F.le F') (k:l[j]?=some x)
  (m:∀es,es.length=sz->Rd F' x es->K es):jf F' L a (j*sz) sz K:=by
 obtain⟨es,d,f,e⟩:=h.elems j x k;exact⟨es,d,.inl (f.mono b),m es d (e.mono b)⟩
theorem Sl.loadD {F F':aA}{sz:Nat}{l:List G}{a:Option Addr}{c:Nat}{j:Nat}{x:G}{K:List Value->Prop}(h:Sl F sz l a c) (b:F.le F') (k:l[j]?=some x)
  (m:∀es,es.length=sz->Rd F' x es->K es):hU F' a (j*sz) sz K:=by
 obtain⟨es,d,f,e⟩:=h.elems j x k;exact⟨es,d,.inl (f.mono b),m es d (e.mono b)⟩
theorem aH {b:Bool}{A B:Prop}(h:b=true->A) (k:b=false->B):vo b A B:=by cases b;exact k rfl;exact h rfl
theorem aR {p:Prop}[Decidable p] {A B:Prop}(h:p->A) (k:¬p->B):vo (decide p) A B:=by
 by_cases a:p
 ·simp only[a,decide_true];exact h a
 ·simp only[a,decide_false];exact k a
theorem Fit.Ww {n:Int}{K:Int->Prop}(a:-9223372036854775808<=n) (b:n<=9223372036854775807) (h:K n):Fit .i64 n K:=by
 refine⟨?_⟩;have:IntKind.wrap .i64 n=n:=by
  simp only[IntKind.wrap,IntKind.bits,IntKind.signed,X7,X1,ge_iff_le,Nat.reduceSub,Int.reducePow];split<;>omega
 rw[this];exact h
def MX (x:Value):aA->List Own->Value->Prop:=fun _ Lo v=>Lo=[]/\v=x
theorem MX.mono {x:Value}:∀F G L v,aA.le F G->MX x F L v->MX x G L v:=fun _ _ _ _ _ h=>h
theorem wf_i64 {n:Int}(h:(Lit.int .i64 n).wf=true):-9223372036854775808<=n/\n<=9223372036854775807:=by
 simpa[Lit.wf,IntKind.min,IntKind.max,IntKind.bits,IntKind.signed] using h
end Go.Fr
namespace Go.Fr.T
open Go Go.RowKit Go.Fr
inductive C where
 | int (k:IntKind) (n:Int)
 | bool (b:Bool)
 | str (s:ByteArray)
 | sl (els:List (List C))
 | slx (els:List (List C))
 | nils
 | rw(k:Nat)
 | own (k off:Nat)
 | ifo (m:Option String) (t:TypeId) (k off:Nat)
 | ownv (k off:Nat)
 | pt (es:List C) (off:Nat)
 | elr (k j off:Nat)
 | slo (k:Nat) (offs:List Nat)
 | slp (k:Nat) (offs:List Nat) (j:Nat)
 | fn (f:Nat) (fi ca:List C)
 | agg (cs:List C)
 | tup (cs:List C)
 | nilp
 | nilf
 | ifc (t:TypeId) (c:C)
 | opq (k:Nat)
 | mval (nm:String) (c:C)
 | mof (t:TypeId) (nm:String)
 | mpr (k:Nat)
 | und
 | any
 deriving Inhabited
inductive TO where
 | box (t:TypeId) (cs:List C)
 | row (t:TypeId) (sz:Nat) (els:List (List C))
 | map (es:List (C×C))
 /-- a part of a box;what stands ahead of it and behind it names nothing of one's own -/
 | win (t:TypeId) (pre cs post:List C)
abbrev TL:=List (Nat×TO)
def TL.get:TL->Nat->Option TO
 | [],_=>none
 | (j,o)::l,k=>match Nat.beq j k with | true=>some o | false=>TL.get l k
def TL.set:TL->Nat->TO->TL
 | [],k,o=>[(k,o)]
 | (j,p)::l,k,o=>match Nat.beq j k with
  | true=>(k,o)::l
  | false=>match Nat.ble j k with
   | true=>(j,p)::TL.set l k o
   | false=>(k,o)::(j,p)::l
def TL.del:TL->Nat->TL
 | [],_=>[]
 | (j,o)::l,k=>match Nat.beq j k with | true=>TL.del l k | false=>(j,o)::TL.del l k
def TL.sub (L:TL):List Nat->Option (List TO)
 | []=>some []
 | k::ks=>match L.get k,TL.sub L ks with
  | some o,some l=>some (o::l)
  | _,_=>none
def TL.Wu (L:TL):List Nat->TL
 | []=>L
 | k::ks=>TL.Wu (L.del k) ks
def TL.puts (L:TL):List Nat->List TO->TL
 | k::ks,o::l=>TL.puts (L.set k o) ks l
 | _,_=>L
def iF:Nat->List TO->TL
 | _,[]=>[]
 | k,o::l=>(k,o)::iF (k+1) l
def iO (l:List TO):TL:=iF 1000 l
def C.one:C->Bool
 | .int _ _=>true
 | .bool _=>true
 | .str _=>true
 | .sl _=>true
 | .slx _=>true
 | .nils=>true
 | .rw _=>true
 | .own _ _=>true
 | .ifo _ _ _ _=>true
 | .pt _ _=>true
 | .fn _ _ _=>true
 | .nilp=>true
 | .nilf=>true
 | .ifc _ _=>true
 | .opq _=>true
 | .mval _ _=>true
 | .mof _ _=>true
 | .mpr _=>true
 | _=>false
def dn:List C->Bool
 | []=>true
 | c::l=>match c.one with | true=>dn l | false=>false
def C.WC:C->Bool
 | .int _ _=>true
 | .bool _=>true
 | .str _=>true
 | .sl _=>true
 | .slx _=>true
 | .nils=>true
 | .pt _ _=>true
 | .nilp=>true
 | .nilf=>true
 | .ifc _ _=>true
 | .opq _=>true
 | .mval _ _=>true
 | .mof _ _=>true
 | _=>false
def iP:List C->Bool
 | []=>true
 | c::l=>match c.WC with | true=>iP l | false=>false
def C.pure:C->Bool
 | .fn _ fi ca=>match iP fi with | true=>iP ca | false=>false
 | c=>c.WC
def dH:List C->Bool
 | []=>true
 | c::l=>match c.pure with | true=>dH l | false=>false
def C.mp (g:C->C):Nat->C->C
 | _,.int k n=>g (.int k n)
 | _,.bool b=>g (.bool b)
 | _,.str s=>g (.str s)
 | _,.sl els=>g (.sl els)
 | _,.slx els=>g (.slx els)
 | _,.nils=>g .nils
 | _,.rw j=>g (.rw j)
 | _,.own j o=>g (.own j o)
 | _,.ifo m t j o=>g (.ifo m t j o)
 | _,.ownv j o=>g (.ownv j o)
 | _,.pt es o=>g (.pt es o)
 | _,.elr j a b=>g (.elr j a b)
 | _,.slo j a=>g (.slo j a)
 | _,.slp j a b=>g (.slp j a b)
 | _,.nilp=>g .nilp
 | _,.nilf=>g .nilf
 | _,.ifc t c=>g (.ifc t c)
 | _,.opq k=>g (.opq k)
 | _,.mval nm c=>g (.mval nm c)
 | _,.mof t nm=>g (.mof t nm)
 | _,.mpr j=>g (.mpr j)
 | _,.und=>g .und
 | _,.any=>g .any
 | 0,.fn _ _ _=>.any
 | 0,.agg _=>.any
 | 0,.tup _=>.any
 | n+1,.fn f fi ca=>.fn f (fi.map (C.mp g n)) (ca.map (C.mp g n))
 | n+1,.agg cs=>.agg (cs.map (C.mp g n))
 | n+1,.tup cs=>.tup (cs.map (C.mp g n))
def fW (k:Nat):C->C
 | .int k n=>.int k n
 | .bool b=>.bool b
 | .str s=>.str s
 | .sl els=>.sl els
 | .slx els=>.slx els
 | .nils=>.nils
 | .rw j=>match Nat.beq j k with | true=>.any | false=>.rw j
 | .own j o=>.own j o
 | .ifo m t j o=>.ifo m t j o
 | .ownv j o=>.ownv j o
 | .pt es o=>.pt es o
 | .elr j a b=>match Nat.beq j k with | true=>.any | false=>.elr j a b
 | .slo j a=>.slo j a
 | .slp j a b=>.any
 | .fn f fi ca=>.fn f fi ca
 | .agg cs=>.agg cs
 | .tup cs=>.tup cs
 | .nilp=>.nilp
 | .nilf=>.nilf
 | .ifc t c=>.ifc t c
 | .opq k=>.opq k
 | .mval nm c=>.mval nm c
 | .mof t nm=>.mof t nm
 | .mpr j=>.mpr j
 | .und=>.und
 | .any=>.any
def C.kill (k:Nat) (c:C):C:=C.mp (fW k) 3 c
def C.kills:List Nat->C->C
 | [],c=>c
 | k::ks,c=>C.kills ks (c.kill k)
def pL:C->C
 | .int k n=>.int k n
 | .bool b=>.bool b
 | .str s=>.str s
 | .sl els=>.sl els
 | .slx els=>.slx els
 | .nils=>.nils
 | .rw j=>.any
 | .own j o=>.own j o
 | .ifo m t j o=>.ifo m t j o
 | .ownv j o=>.ownv j o
 | .pt es o=>.pt es o
 | .elr j a b=>.any
 | .slo j a=>.slo j a
 | .slp j a b=>.any
 | .fn f fi ca=>.fn f fi ca
 | .agg cs=>.agg cs
 | .tup cs=>.tup cs
 | .nilp=>.nilp
 | .nilf=>.nilf
 | .ifc t c=>.ifc t c
 | .opq k=>.opq k
 | .mval nm c=>.mval nm c
 | .mof t nm=>.mof t nm
 | .mpr j=>.mpr j
 | .und=>.und
 | .any=>.any
def C.Xc (c:C):C:=C.mp pL 3 c
def mR (k:Nat) (l:List (List C)):C->C
 | .int k n=>.int k n
 | .bool b=>.bool b
 | .str s=>.str s
 | .sl els=>.sl els
 | .slx els=>.slx els
 | .nils=>.nils
 | .rw j=>match Nat.beq j k with | true=>.sl l | false=>.rw j
 | .own j o=>.own j o
 | .ifo m t j o=>.ifo m t j o
 | .ownv j o=>.ownv j o
 | .pt es o=>.pt es o
 | .elr j a b=>match Nat.beq j k with | true=>.any | false=>.elr j a b
 | .slo j a=>.slo j a
 | .slp j a b=>.any
 | .fn f fi ca=>.fn f fi ca
 | .agg cs=>.agg cs
 | .tup cs=>.tup cs
 | .nilp=>.nilp
 | .nilf=>.nilf
 | .ifc t c=>.ifc t c
 | .opq k=>.opq k
 | .mval nm c=>.mval nm c
 | .mof t nm=>.mof t nm
 | .mpr j=>.mpr j
 | .und=>.und
 | .any=>.any
def C.frz (k:Nat) (els:List (List C)) (c:C):C:=C.mp (mR k els) 3 c
def qu (k:Nat) (es:List C):C->C
 | .int k n=>.int k n
 | .bool b=>.bool b
 | .str s=>.str s
 | .sl els=>.sl els
 | .slx els=>.slx els
 | .nils=>.nils
 | .rw j=>.rw j
 | .own j o=>match Nat.beq j k with | true=>.pt es o | false=>.own j o
 | .ifo m t j o=>match Nat.beq j k with | true=>(match m with | none=>.ifc t (.pt es o) | some nm=>.mval nm (.ifc t (.pt es o))) | false=>.ifo m t j o
 | .ownv j o=>match Nat.beq j k with | true=>.pt es o | false=>.ownv j o
 | .pt es o=>.pt es o
 | .elr j a b=>.elr j a b
 | .slo j a=>match Nat.beq j k with | true=>.any | false=>.slo j a
 | .slp j a b=>.any
 | .fn f fi ca=>.fn f fi ca
 | .agg cs=>.agg cs
 | .tup cs=>.tup cs
 | .nilp=>.nilp
 | .nilf=>.nilf
 | .ifc t c=>.ifc t c
 | .opq k=>.opq k
 | .mval nm c=>.mval nm c
 | .mof t nm=>.mof t nm
 | .mpr j=>match Nat.beq j k with | true=>.any | false=>.mpr j
 | .und=>.und
 | .any=>.any
def C.frb (k:Nat) (es:List C) (c:C):C:=C.mp (qu k es) 3 c
def sj (r:Nat->Option Nat):C->C
 | .int k n=>.int k n
 | .bool b=>.bool b
 | .str s=>.str s
 | .sl els=>.sl els
 | .slx els=>.slx els
 | .nils=>.nils
 | .rw j=>match r j with | some i=>.rw i | none=>.any
 | .own j o=>match r j with | some i=>.own i o | none=>.any
 | .ifo m t j o=>match r j with | some i=>.ifo m t i o | none=>.any
 | .ownv j o=>match r j with | some i=>.own i o | none=>.any
 | .pt es o=>.pt es o
 | .elr j a b=>match r j with | some i=>.elr i a b | none=>.any
 | .slo j a=>match r j with | some i=>.slo i a | none=>.any
 | .slp j a b=>.any
 | .fn f fi ca=>.fn f fi ca
 | .agg cs=>.agg cs
 | .tup cs=>.tup cs
 | .nilp=>.nilp
 | .nilf=>.nilf
 | .ifc t c=>.ifc t c
 | .opq k=>.opq k
 | .mval nm c=>.mval nm c
 | .mof t nm=>.mof t nm
 | .mpr j=>match r j with | some i=>.mpr i | none=>.any
 | .und=>.und
 | .any=>.any
def C.ren (f:Nat->Option Nat) (c:C):C:=C.mp (sj f) 3 c
def TO.Wv (g:C->C):TO->TO
 | .box t cs=>.box t (cs.map g)
 | .row t sz els=>.row t sz els
 | .map es=>.map es
 | .win t pre cs post=>.win t pre (cs.map g) post
def TL.Wv (g:C->C):TL->TL
 | []=>[]
 | (k,o)::l=>(k,o.Wv g)::TL.Wv g l
def cn:List Nat->Nat->Nat->Option Nat
 | [],_,_=>none
 | k::ks,i,j=>match Nat.beq j k with | true=>some i | false=>cn ks (i+1) j
def aW (ko:List Nat) (j:Nat):Option Nat:=match Nat.ble 1000 j with | true=>ko[j-1000]? | false=>none
def C.can:C->C
 | .int k n=>.int k n
 | .bool b=>.bool b
 | .str s=>.str s
 | .sl els=>.sl els
 | .slx els=>.sl els
 | .nils=>.sl []
 | .rw j=>.rw j
 | .own j o=>.own j o
 | .ifo m t j o=>.ifo m t j o
 | .ownv j o=>.ownv j o
 | .pt es o=>.pt es o
 | .elr j a b=>.elr j a b
 | .slo j a=>.slo j a
 | .slp j a b=>.slp j a b
 | .fn f fi ca=>.fn f fi ca
 | .agg cs=>.agg cs
 | .tup cs=>.tup cs
 | .nilp=>.nilp
 | .nilf=>.nilf
 | .ifc t c=>.ifc t c
 | .opq k=>.opq k
 | .mval nm c=>.mval nm c
 | .mof t nm=>.mof t nm
 | .mpr j=>.mpr j
 | .und=>.und
 | .any=>.any
def C.WA:C->C
 | .int k n=>.int k n
 | .bool b=>.bool b
 | .str s=>.str s
 | .sl els=>.sl els
 | .slx els=>.sl els
 | .nils=>.sl []
 | .rw j=>.rw j
 | .own j o=>.own j o
 | .ifo m t j o=>.ifo m t j o
 | .ownv j o=>.ownv j o
 | .pt es o=>.pt es o
 | .elr j a b=>.elr j a b
 | .slo j a=>.slo j a
 | .slp j a b=>.slp j a b
 | .fn f fi ca=>.fn f fi ca
 | .agg cs=>.agg (cs.map C.can)
 | .tup cs=>.tup cs
 | .nilp=>.nilp
 | .nilf=>.nilf
 | .ifc t c=>.ifc t c
 | .opq k=>.opq k
 | .mval nm c=>.mval nm c
 | .mof t nm=>.mof t nm
 | .mpr j=>.mpr j
 | .und=>.und
 | .any=>.any
def C.WM:C->C
 | .int k n=>.int k n
 | .bool b=>.bool b
 | .str s=>.str s
 | .sl els=>.sl els
 | .slx els=>.sl els
 | .nils=>.sl []
 | .rw j=>.rw j
 | .own j o=>.own j o
 | .ifo m t j o=>.ifo m t j o
 | .ownv j o=>.ownv j o
 | .pt es o=>.pt es o
 | .elr j a b=>.elr j a b
 | .slo j a=>.slo j a
 | .slp j a b=>.slp j a b
 | .fn f fi ca=>.fn f fi ca
 | .agg cs=>.agg (cs.map C.can)
 | .tup cs=>.tup (cs.map C.WA)
 | .nilp=>.nilp
 | .nilf=>.nilf
 | .ifc t c=>.ifc t c
 | .opq k=>.opq k
 | .mval nm c=>.mval nm c
 | .mof t nm=>.mof t nm
 | .mpr j=>.mpr j
 | .und=>.und
 | .any=>.any
abbrev aU:=Nat->C
def bw (d:Option Nat) (c:C) (ρ:aU):aU :=
 match d with
 | some d=>fun j=>match Nat.beq j d with | true=>c | false=>ρ j
 | none=>ρ
def qN:Value->C
 | .int k n=>match(Lit.int k n).wf with | true=>.int k n | false=>.any
 | .bool b=>.bool b
 | .string s=>match Nat.ble s.size maxLen with | true=>.str s | false=>.any
 | .slice none 0 0=>.nils
 | .pointer none=>.nilp
 | .nilFunc=>.nilf
 | .nilIface=>.opq 0
 | .func (.methodOf t nm) ⟨[]⟩ ⟨[]⟩=>.mof t nm
 | _=>.any
def Sw (nm:String) (c:C):C :=
 match c with
 | .ifc t c=>.mval nm (.ifc t c)
 | .ifo none t k off=>.ifo (some nm) t k off
 | _=>.any
def cv:Value->C
 | .agg cs=>.agg (cs.toList.map qN)
 | v=>qN v
def bW (ρ:aU):X->C
 | .t n=>ρ n
 | .c v=>cv v
 | .fn f=>.fn f [] []
 | .mt nm n=>Sw nm (ρ n)
def C.cel:C->C
 | .int k n=>.int k n
 | .bool b=>.bool b
 | .str s=>.str s
 | .sl els=>.sl els
 | .slx els=>.slx els
 | .nils=>.nils
 | .rw j=>.rw j
 | .own j o=>.own j o
 | .ifo m t j o=>.ifo m t j o
 | .ownv j o=>.own j o
 | .pt es o=>.pt es o
 | .elr j a b=>.elr j a b
 | .slo j a=>.slo j a
 | .slp j a b=>.any
 | .fn f fi ca=>.fn f fi ca
 | .agg cs=>.agg cs
 | .tup cs=>.tup cs
 | .nilp=>.nilp
 | .nilf=>.nilf
 | .ifc t c=>.ifc t c
 | .opq k=>.opq k
 | .mval nm c=>.mval nm c
 | .mof t nm=>.mof t nm
 | .mpr j=>.mpr j
 | .und=>.und
 | .any=>.any
def C.slt:C->C
 | .int k n=>.int k n
 | .bool b=>.bool b
 | .str s=>.str s
 | .sl els=>.sl els
 | .slx els=>.slx els
 | .nils=>.nils
 | .rw j=>.rw j
 | .own j o=>.ownv j o
 | .ifo m t j o=>.ifo m t j o
 | .ownv j o=>.ownv j o
 | .pt es o=>.pt es o
 | .elr j a b=>.any
 | .slo j a=>.slo j a
 | .slp j a b=>.any
 | .fn f fi ca=>.fn f fi ca
 | .agg cs=>.agg cs
 | .tup cs=>.tup cs
 | .nilp=>.nilp
 | .nilf=>.nilf
 | .ifc t c=>.ifc t c
 | .opq k=>.opq k
 | .mval nm c=>.mval nm c
 | .mof t nm=>.mof t nm
 | .mpr j=>.mpr j
 | .und=>.und
 | .any=>.any
def C.WW:C->C
 | .int k n=>.int k n
 | .bool b=>.bool b
 | .str s=>.str s
 | .sl els=>.sl els
 | .slx els=>.slx els
 | .nils=>.nils
 | .rw j=>.rw j
 | .own j o=>.own j o
 | .ifo m t j o=>.ifo m t j o
 | .ownv j o=>.own j o
 | .pt es o=>.pt es o
 | .elr j a b=>.elr j a b
 | .slo j a=>.slo j a
 | .slp j a b=>.slp j a b
 | .fn f fi ca=>.fn f fi ca
 | .agg cs=>.agg cs
 | .tup cs=>.tup cs
 | .nilp=>.nilp
 | .nilf=>.nilf
 | .ifc t c=>.ifc t c
 | .opq k=>.opq k
 | .mval nm c=>.mval nm c
 | .mof t nm=>.mof t nm
 | .mpr j=>.mpr j
 | .und=>.und
 | .any=>.any
def C.okc:C->Bool
 | .any=>false
 | .und=>false
 | .elr _ _ _=>false
 | .slo _ _=>false
 | .slp _ _ _=>false
 | .tup _=>false
 | _=>true
def bT:C->List C
 | .int k n=>[.int k n]
 | .bool b=>[.bool b]
 | .str s=>[.str s]
 | .sl els=>[.sl els]
 | .slx els=>[.slx els]
 | .nils=>[.nils]
 | .rw j=>[.rw j]
 | .own j o=>[.own j o]
 | .ifo m t j o=>[.ifo m t j o]
 | .ownv j o=>[.own j o]
 | .pt es o=>[.pt es o]
 | .elr j a b=>[.any]
 | .slo j a=>[.any]
 | .slp j a b=>[.any]
 | .fn f fi ca=>[.fn f fi ca]
 | .agg cs=>cs
 | .tup cs=>[.tup cs]
 | .nilp=>[.nilp]
 | .nilf=>[.nilf]
 | .ifc t c=>[.ifc t c]
 | .opq k=>[.opq k]
 | .mval nm c=>[.mval nm c]
 | .mof t nm=>[.mof t nm]
 | .mpr j=>[.mpr j]
 | .und=>[.und]
 | .any=>[.any]
def cU:List C->Nat->Bool
 | [],0=>true
 | _::l,n+1=>cU l n
 | _,_=>false
def zD (agg:Bool) (cs:List C):C :=
 match agg,cs with
 | true,cs=>.agg cs
 | false,[c]=>c.slt
 | false,_=>.any
def dO (ρ:aU):List X->List C
 | []=>[]
 | x::xs=>(bW ρ x).cel::dO ρ xs
def tj (ρ:aU):List X->List (List C)
 | []=>[]
 | x::xs=>(bT (bW ρ x)).map C.can::tj ρ xs
def pM (ρ:aU) (sz:Nat):List X->Bool
 | []=>true
 | x::xs=>match(bW ρ x).okc,cU (bT (bW ρ x)) sz,dn (bT (bW ρ x)),dH (bT (bW ρ x)) with
  | true,true,true,true=>pM ρ sz xs
  | _,_,_,_=>false
def eJ (cs:List C) (off:Nat) (vs:List C):List C:=cs.take off++vs++cs.drop (off+vs.length)
def tq (ρ:aU):List C->List (Nat×Nat×X)->Option (List C)
 | zs,[]=>some zs
 | zs,(off,n,x)::ps=>match(bW ρ x).okc,cU (bT (bW ρ x)) n with
  | true,true=>tq ρ (eJ zs off (bT (bW ρ x))) ps
  | _,_=>none
def EU (ρ:aU) (d:Int):Option X->Option Int
 | none=>some d
 | some x=>match bW ρ x with | .int _ i=>some i | _=>none
def P3 (mx:Bool):Int->List C->Option Int
 | a,[]=>some a
 | a,.int _ b::l=>P3 mx (match mx with | true=>if b>a then b else a | false=>if b<a then b else a) l
 | _,_=>none
abbrev iG (b:UInt8):C:=.int .u8 b.toNat
def af (bs:List UInt8):List (List C):=bs.map fun b=>[iG b]
def fc (c:C) (K:C->Prop):Prop :=
 match c with
 | .int k n=>K (.int k n)
 | .bool b=>K (.bool b)
 | .str s=>K (.str s)
 | .sl els=>K (.sl els)
 | .slx els=>K (.slx els)
 | .nils=>K .nils
 | .rw k=>K (.rw k)
 | .own k off=>K (.own k off)
 | .ifo m t k off=>K (.ifo m t k off)
 | .ownv k off=>K (.ownv k off)
 | .pt es off=>K (.pt es off)
 | .elr k j off=>K (.elr k j off)
 | .slo k a=>K (.slo k a)
 | .slp k a j=>K (.slp k a j)
 | .fn f fi ca=>K (.fn f fi ca)
 | .agg cs=>K (.agg cs)
 | .tup cs=>K (.tup cs)
 | .nilp=>K .nilp
 | .nilf=>K .nilf
 | .ifc t c=>K (.ifc t c)
 | .opq k=>K (.opq k)
 | .mval nm c=>K (.mval nm c)
 | .mof t nm=>K (.mof t nm)
 | .mpr j=>K (.mpr j)
 | .und=>K .und
 | .any=>K .any
def fl:List C->(List C->Prop)->Prop
 | [],K=>K []
 | c::cs,K=>fc c fun c=>fl cs fun cs=>K (c::cs)
def fO:TO->(TO->Prop)->Prop
 | .box t cs,K=>fl cs fun cs=>K (.box t cs)
 | .row t sz els,K=>K (.row t sz els)
 | .map es,K=>K (.map es)
 | .win t pre cs post,K=>fl cs fun cs=>K (.win t pre cs post)
def fT:TL->(TL->Prop)->Prop
 | [],K=>K []
 | (k,o)::l,K=>fO o fun o=>fT l fun l=>K ((k,o)::l)
def uF (c:C) (K:C->Prop):Prop :=
 match c with
 | .agg cs=>fl cs fun cs=>K (.agg cs)
 | c=>fc c K
theorem Dt {c:C}{K:C->Prop}:fc c K=K c:=by cases c<;>rfl
theorem dW:∀{cs:List C}{K:List C->Prop},fl cs K=K cs
 | [],K=>rfl
 | c::cs,K=>by simp only[fl,Dt,dW]
theorem OC {o:TO}{K:TO->Prop}:fO o K=K o:=by cases o<;>simp only[fO,dW]
theorem eD:∀{L:TL}{K:TL->Prop},fT L K=K L
 | [],K=>rfl
 | (k,o)::l,K=>by simp only[fT,OC,eD]
theorem dI {c:C}{K:C->Prop}:uF c K=K c:=by cases c<;>simp only[uF,dW,Dt]
mutual
/-- the bounds that all data of the machine keeps -/
def Wf:C->Prop
 | .int k n=>(Lit.int k n).wf=true
 | .str s=>s.size<=maxLen
 | .sl els=>els.length<=maxLen/\vR els
 | .slx els=>els.length<=maxLen/\vR els
 | .pt es _=>tu es
 | .fn _ fi ca=>tu fi/\tu ca
 | .agg cs=>tu cs
 | .tup cs=>tu cs
 | .slo _ offs=>offs.length<=maxLen
 | _=>True
def tu:List C->Prop
 | []=>True
 | c::l=>Wf c/\tu l
def vR:List (List C)->Prop
 | []=>True
 | es::l=>tu es/\vR l
end
def Qe:List (C×C)->Prop
 | []=>True
 | (k,v)::l=>Wf k/\Wf v/\Qe l
def TO.Wf:TO->Prop
 | .box _ cs=>tu cs
 | .row _ _ els=>vR els
 | .map es=>Qe es
 | .win _ _ cs _=>tu cs
structure Cw (els:List (List C)) (i:Int) (sz:Nat) (K:List C->Prop):Prop where
 out:∃es,0<=i/\els[i.toNat]?=some es/\cU es sz=true/\K es
structure Jz (els:List (List C)) (j off n:Nat) (K:List C->Prop):Prop where
 out:∃es,els[j]?=some es/\cU ((es.drop off).take n) n=true/\K ((es.drop off).take n)
structure jT (els:List (List C)) (K:List UInt8->Prop):Prop where
 out:∃bs,els=af bs/\K bs
structure xL (l h:Int) (els:List (List C)) (sz:Nat) (K:Nat->Nat->Prop):Prop where
 lo:0<=l
 le:l<=h
 hi:h<=els.length
 sizes:∀es∈els,es.length=sz
 out:K l.toNat h.toNat
structure rz (els news:List (List C)) (sz bytes:Nat) (K:Prop):Prop where
 sizes:∀es∈news,es.length=sz
 max:els.length+news.length<=maxLen
 room:(els.length+news.length)*bytes<=140737488355328
 out:K
def lY:Bool->C->C->Option Bool
 | false,.int .i64 a,.int .i64 b=>some (decide (a=b))
 | true,.str a,.str b=>some (decide (a.data.toList=b.data.toList))
 | _,_,_=>none
def GH:Bool->C->Bool
 | false,.int .i64 _=>true
 | true,.str _=>true
 | _,_=>false
def yC (str:Bool) (key:C):List (C×C)->Option (Option C)
 | []=>some none
 | (k,v)::l=>match lY str key k with
  | some true=>some (some v)
  | some false=>yC str key l
  | none=>none
def GI (str:Bool) (key val:C):List (C×C)->Option (List (C×C))
 | []=>some [(key,val)]
 | (k,v)::l=>match lY str key k with
  | some true=>some ((key,val)::l)
  | some false=>match GI str key val l with | some l'=>some ((k,v)::l') | none=>none
  | none=>none
structure MY (str:Bool) (es:List (C×C)) (key:C) (Y:C->Prop) (N:Prop):Prop where
 out:(∃v,yC str key es=some (some v)/\Y v)\/(yC str key es=some none/\N)
structure OD (str:Bool) (es:List (C×C)) (key val:C) (K:List (C×C)->Prop):Prop where
 out:∃es',GI str key val es=some es'/\K es'
structure GJ (i:Int) (K:Nat->Prop):Prop where
 out:∃m:Nat,i=m/\K m
def vS:List Nat->TL->aU->List C->(TL->aU->List C->Prop)->Prop
 | [],L,ρ,a,K=>K L ρ a
 | k::ks,L,ρ,a,K=>match L.get k with
  | some (.row _ _ els)=>vS ks ((L.del k).Wv (C.frz k els)) (fun j=>(ρ j).frz k els) (a.map (C.frz k els)) K
  | _=>False
def lq (L:TL):C->Bool
 | .rw k=>match L.get k with | some (.row _ _ _)=>true | _=>false
 | .own k _=>match L.get k with | some (.box _ _)=>true | some (.win _ _ _ _)=>true | _=>false
 | .ifo _ _ k _=>match L.get k with | some (.box _ _)=>true | some (.win _ _ _ _)=>true | _=>false
 | .mpr k=>match L.get k with | some (.map _)=>true | _=>false
 | .ownv _ _=>false
 | .elr _ _ _=>false
 | .slo k _=>match L.get k with | some (.box _ _)=>true | some (.win _ _ _ _)=>true | _=>false
 | .slp _ _ _=>false
 | _=>true
def fo (L:TL):Nat->C->Bool
 | n+1,.agg cs=>cs.all (fo L n)
 | n+1,.tup cs=>cs.all (fo L n)
 | n+1,.fn _ fi ca=>fi.all (fo L n)&&ca.all (fo L n)
 | 0,.agg _=>false
 | 0,.tup _=>false
 | 0,.fn _ _ _=>false
 | _,c=>lq L c
def IJ (L L1:TL) (c a:C):Prop :=
 a=.any\/(c=a/\fo L1 3 a=true)\/(c=.nils/\a=.sl [])\/(c=.nils/\∃k t sz,a=.rw k/\L.get k=none/\L1.get k=some (.row t sz []))\/∃els,c=.slx els/\a=.sl els
def GK (L L1:TL):List C->List C->Prop
 | [],l=>l=[]
 | c::cs,l=>∃a cs',l=a::cs'/\IJ L L1 c a/\GK L L1 cs cs'
def GL (L1:TL):TO->Bool
 | .box _ cs=>cs.all (fo L1 3)
 | .row _ _ _=>true
 | .map _=>true
 | .win _ _ cs _=>cs.all (fo L1 3)
def Qf (L L1:TL) (o o':TO):Prop:=(o=o'/\GL L1 o'=true)\/∃t cs cs',o=.box t cs/\o'=.box t cs'/\GK L L1 cs cs'
def gives (L L1:TL):TL->Prop
 | []=>True
 | (k,o)::l=>((∃p,L.get k=some p/\Qf L L1 p o)\/(L.get k=none/\∃t sz,o=.row t sz []))/\gives L L1 l
def m5 (L L1:TL):List Nat->List C->aU->Prop
 | k::ks,v::vs,ρ=>IJ L L1 (ρ k) v/\m5 L L1 ks vs ρ
 | _,_,_=>True
def pO:List Nat->List C->aU->aU
 | k::ks,v::vs,ρ=>bw (some k) v (pO ks vs ρ)
 | _,_,ρ=>ρ
def bE:List Nat->Bool
 | []=>true
 | k::ks=>match fw ks k with | true=>false | false=>bE ks
def JA (F:aA) (b o off:Nat) (vs:List Value):Prop :=
 ∃a c t d,F b=some (.cells c t d)/\o=a+off/\∀(i:Nat) (v:Value),vs[i]?=some v->c[a+i]?=some v/\nU d (a+i)
def Bf:Option String->TypeId->Value->Value
 | none,t,u=>.iface t u
 | some nm,t,u=>.func (.method nm) #[.iface t u] #[]
mutual
def Rel (F:aA):Loc->C->Value->Prop
 | _,.int k n,v=>v=.int k n/\(Lit.int k n).wf=true
 | _,.bool b,v=>v=.bool b
 | _,.str s,v=>v=.string s/\s.size<=maxLen
 | _,.sl els,v=>∃a c,v=.slice a els.length c/\els.length<=c/\els.length<=maxLen/\(a=none->els=[]/\c=0)/\∃sz,fI F a sz 0 els
 | _,.slx els,v=>∃a,v=.slice (some a) els.length els.length/\els.length<=maxLen/\∃sz,fI F (some a) sz 0 els
 | _,.nils,v=>v=.slice none 0 0
 | L,.rw k,v=>∃a c t sz n xs,v=.slice a n c/\L.get k=some (.row v t sz n xs)
 | L,.own k off,v=>∃g t cs,L.get k=some (.box g t cs)/\v=.pointer (some ⟨g,off,none⟩)
 | L,.ifo m ti k off,v=>∃g t cs,L.get k=some (.box g t cs)/\v=Bf m ti (.pointer (some ⟨g,off,none⟩))
 | _,.pt es off,v=>∃b o vs,v=.pointer (some ⟨b,o,none⟩)/\JA F b o off vs/\dn es=true/\aB F [] es vs
 | L,.fn f fi ca,v=>∃fi' ca',v=.func (.func f) fi'.toArray ca'.toArray/\aB F L fi fi'/\aB F L ca ca'
 | L,.agg cs,v=>∃vs,v=.agg vs.toArray/\aB F L cs vs
 | L,.tup cs,v=>∃vs,v=.tuple vs.toArray/\aB F L cs vs
 | _,.nilp,v=>v=.pointer none
 | _,.nilf,v=>v=.nilFunc
 | _,.ifc t c,v=>∃u,v=.iface t u/\Rel F [] c u
 | _,.opq k,v=>je k F v
 | _,.mval nm c,v=>∃u,v=.func (.method nm) #[u] #[]/\Rel F [] c u
 | _,.mof t nm,v=>v=.func (.methodOf t nm) #[] #[]
 | L,.mpr k,v=>∃g cs,L.get k=some (.box g 0 cs)/\v=.map (some g)
 | _,.und,v=>v=undef
 | _,.any,_=>True
 | _,.ownv _ _,_=>False
 | L,.elr k j off,v=>∃ad t sz n c xs,v=.pointer (some (ad.add (j*sz+off)))/\L.get k=some (.row (.slice (some ad) n c) t sz n xs)
 | L,.slo k offs,v=>∃g t cs ad,L.get k=some (.box g t cs)/\v=.slice (some ad) offs.length offs.length/\offs.length<=maxLen/\bM F (some ad) 0 (offs.map fun o=>.pointer (some ⟨g,o,none⟩))
 | _,.slp _ _ _,_=>False
def aB (F:aA):Loc->List C->List Value->Prop
 | _,[],vs=>vs=[]
 | L,c::cs,vs=>∃v vs',vs=v::vs'/\Rel F L c v/\aB F L cs vs'
def fI (F:aA) (a:Option Addr) (sz:Nat):Nat->List (List C)->Prop
 | _,[]=>True
 | i,es::l=>(∃vs,vs.length=sz/\bM F a (i*sz) vs/\dn es=true/\aB F [] es vs)/\fI F a sz (i+1) l
end
def aL (F:aA) (sz:Nat):List (List C)->List Value->Prop
 | [],xs=>xs=[]
 | es::l,xs=>∃vs a,xs=vs++a/\vs.length=sz/\dn es=true/\aB F [] es vs/\aL F sz l a
def tyOk (t g a:Nat):Prop:=a<1048576/\(t=a\/t=(g+1)*1048576+a)/\a≠0
def iQ (F:aA):List (C×C)->List Value->Prop
 | [],vs=>vs=[]
 | (k,c)::l,vs=>∃kv v a,vs=.agg #[kv,v]::a/\Rel F [] k kv/\Rel F [] c v/\iQ F l a
def cO (F:aA) (L:Loc):TO->Own->Prop
 | .box t cs,.box g b vs=>tyOk t g b/\aB F L cs vs
 | .row t sz els,.row v b d n xs=>t=b/\sz=d/\n=els.length/\(n<=maxLen/\∃a c,v=.slice a n c/\(a=none->n=0))/\aL F sz els xs
 | .map es,.box g b vs=>b=0/\iQ F es vs
 | .win t pre cs post,.box g b vs=>tyOk t g b/\∃v1 e v3,vs=v1++(e++v3)/\aB F [] pre v1/\aB F L cs e/\aB F [] post v3
 | _,_=>False
def GN (F:aA) (L:Loc):Option TO->Option Own->Prop
 | none,none=>True
 | some to,some o=>cO F L to o
 | _,_=>False
def cP (F:aA) (L:Loc) (M:TL):Prop:=∀k,GN F L (M.get k) (L.get k)
def P4 (sv:SV) (v:Value):Prop:=sv=.v v\/∃b o j,sv=.el (some ⟨b,o,none⟩) j/\v=.pointer (some ⟨b,o+j,none⟩)
def aN (F:aA) (L:Loc):C->SV->Prop
 | .own k off,sv=>sv=.own k off/\∃g t cs,L.get k=some (.box g t cs)
 | .pt es off,sv=>∃b o j vs,(sv=.v (.pointer (some ⟨b,o,none⟩))/\j=0\/sv=.el (some ⟨b,o,none⟩) j)/\JA F b (o+j) off vs/\dn es=true/\aB F [] es vs
 | .elr k j off,sv=>∃d t sz n c xs,sv=.el (some d) (j*sz+off)/\L.get k=some (.row (.slice (some d) n c) t sz n xs)
 | .ownv k off,sv=>∃v,P4 sv v/\Rel F L (.own k off) v
 | .slp k a j,sv=>∃g t cs d,L.get k=some (.box g t cs)/\sv=.el (some d) j/\bM F (some d) 0 (a.map fun o=>.pointer (some ⟨g,o,none⟩))
 | .any,_=>True
 | c,sv=>∃v,sv=.v v/\Rel F L c v
def Kp (G:Nat->Option (Nat×TypeId)) (L:Loc):Prop:=∀k g t,G k=some (g,t)->∃cs,L.get k=some (.box g t cs)
structure TS (G:Nat->Option (Nat×TypeId)) (F:aA) (L:Loc) (ρ:Env) (M:TL) (τ:aU):Prop where
 tl:cP F L M
 env:∀j,aN F L (τ j) (ρ j)
 kp:Kp G L
 glob:qV F
def Own.like:Own->Own->Prop
 | .box g t _,.box b c _=>g=b/\t=c
 | .row v _ sz n _,.row d _ a n' _=>v=d/\sz=a/\n=n'
 | _,_=>False
theorem Own.Wx:∀o:Own,Own.like o o
 | .box ..=>⟨rfl,rfl⟩
 | .row ..=>⟨rfl,rfl,rfl⟩
theorem JA.mono {F F':aA}(h:F.le F') {b o off:Nat}{vs:List Value}(c:JA F b o off vs):JA F' b o off vs:=by
 obtain⟨a,d,t,j,e,f⟩:=c;exact⟨a,d,t,j,h _ _ e,f⟩
mutual
theorem Rel.mono {F F':aA}(h:F.le F'):∀{L:Loc}{c:C}{v:Value},Rel F L c v->Rel F' L c v
 | _,.int k n,v,r=>r
 | _,.bool b,v,r=>r
 | _,.str s,v,r=>r
 | _,.sl els,v,r=>by
  simp only[Rel] at r ⊢;obtain⟨a,c,h1,h2,h3,h4,sz,h5⟩:=r;exact⟨a,c,h1,h2,h3,h4,sz,fI.mono h h5⟩
 | _,.slx els,v,r=>by
  simp only[Rel] at r ⊢;obtain⟨a,h1,h2,sz,h5⟩:=r;exact⟨a,h1,h2,sz,fI.mono h h5⟩
 | _,.nils,v,r=>r
 | L,.rw k,v,r=>by simp only[Rel] at r ⊢;exact r
 | L,.own k off,v,r=>by simp only[Rel] at r ⊢;exact r
 | L,.ifo m ti k off,v,r=>by simp only[Rel] at r ⊢;exact r
 | _,.pt es off,v,r=>by
  simp only[Rel] at r ⊢;obtain⟨b,o,vs,h1,h2,h3,h4⟩:=r;exact⟨b,o,vs,h1,h2.mono h,h3,aB.mono h h4⟩
 | L,.fn f fi ca,v,r=>by
  simp only[Rel] at r ⊢;obtain⟨fi',ca',h1,h2,h3⟩:=r;exact⟨fi',ca',h1,aB.mono h h2,aB.mono h h3⟩
 | L,.agg cs,v,r=>by
  simp only[Rel] at r ⊢;obtain⟨vs,h1,h2⟩:=r;exact⟨vs,h1,aB.mono h h2⟩
 | L,.tup cs,v,r=>by
  simp only[Rel] at r ⊢;obtain⟨vs,h1,h2⟩:=r;exact⟨vs,h1,aB.mono h h2⟩
 | _,.nilp,v,r=>r
 | _,.nilf,v,r=>r
 | _,.ifc t c,v,r=>by
  simp only[Rel] at r ⊢;obtain⟨u,h1,h2⟩:=r;exact⟨u,h1,Rel.mono h h2⟩
 | _,.opq k,v,r=>by
  simp only[Rel] at r ⊢;exact r.mono h
 | _,.mval nm c,v,r=>by
  simp only[Rel] at r ⊢;obtain⟨u,h1,h2⟩:=r;exact⟨u,h1,Rel.mono h h2⟩
 | _,.mof t nm,v,r=>r
 | L,.mpr k,v,r=>by simp only[Rel] at r ⊢;exact r
 | _,.und,v,r=>r
 | _,.any,v,r=>trivial
 | _,.ownv _ _,v,r=>r
 | L,.elr _ _ _,v,r=>by simp only[Rel] at r ⊢;exact r
 | L,.slo _ _,v,r=>by
  simp only[Rel] at r ⊢;obtain⟨g,t,cs,ad,h1,h2,h3,h4⟩:=r;exact⟨g,t,cs,ad,h1,h2,h3,h4.mono h⟩
 | _,.slp _ _ _,v,r=>r
theorem aB.mono {F F':aA}(h:F.le F'):∀{L:Loc}{cs:List C}{vs:List Value},aB F L cs vs->aB F' L cs vs
 | _,[],vs,r=>by simp only[aB] at r ⊢;exact r
 | L,c::cs,vs,r=>by
  simp only[aB] at r ⊢;obtain⟨v,vs',h1,h2,h3⟩:=r;exact⟨v,vs',h1,Rel.mono h h2,aB.mono h h3⟩
theorem fI.mono {F F':aA}(h:F.le F') {a:Option Addr}{sz:Nat}:∀{i:Nat}{l:List (List C)},fI F a sz i l->fI F' a sz i l
 | _,[],r=>by simp only[fI]
 | i,es::l,r=>by
  simp only[fI] at r ⊢;obtain⟨⟨vs,h1,h2,h3,h4⟩,h5⟩:=r;exact⟨⟨vs,h1,h2.mono h,h3,aB.mono h h4⟩,fI.mono h h5⟩
end
theorem aL.mono {F F':aA}(h:F.le F') {sz:Nat}:∀{l:List (List C)}{xs:List Value},aL F sz l xs->aL F' sz l xs
 | [],xs,r=>r
 | es::l,xs,r=>by
  simp only[aL] at r ⊢;obtain⟨vs,a,b,e,d,f,c⟩:=r;exact⟨vs,a,b,e,d,f.mono h,aL.mono h c⟩
theorem iQ.mono {F F':aA}(h:F.le F'):∀{l:List (C×C)}{vs:List Value},iQ F l vs->iQ F' l vs
 | [],vs,r=>r
 | (k,c)::l,vs,r=>by
  simp only[iQ] at r ⊢;obtain⟨kv,v,a,b,e,d,f⟩:=r;exact⟨kv,v,a,b,e.mono h,d.mono h,iQ.mono h f⟩
theorem cO.mono {F F':aA}(h:F.le F') {L:Loc}:∀{o:TO}{p:Own},cO F L o p->cO F' L o p
 | .box t cs,.box g a vs,r=>⟨r.1,r.2.mono h⟩
 | .row t sz els,.row v a d n xs,r=>⟨r.1,r.2.1,r.2.2.1,r.2.2.2.1,r.2.2.2.2.mono h⟩
 | .box _ _,.row ..,r=>r.elim
 | .row ..,.box ..,r=>r.elim
 | .map _,.row ..,r=>r.elim
 | .map es,.box g a vs,r=>⟨r.1,r.2.mono h⟩
 | .win ..,.row ..,r=>r.elim
 | .win ..,.box ..,⟨c,v1,f,v3,e,b,j,k⟩=>⟨c,v1,f,v3,e,b.mono h,j.mono h,k.mono h⟩
theorem cP.mono {F F':aA}(h:F.le F') {L:Loc}{M:TL}(r:cP F L M):cP F' L M:=by
 intro k;have:=r k
 revert this
 cases M.get k<;>cases L.get k<;>simp only[GN]<;>first | exact fun h=>h | exact fun r=>r.mono h
theorem aN.mono {F F':aA}(h:F.le F') {L:Loc}{c:C}{sv:SV}(r:aN F L c sv):aN F' L c sv:=by
 cases c<;>simp only[aN] at r ⊢
 case own=>exact r
 case pt =>
  obtain⟨b,o,j,vs,a,d,e,k⟩:=r;exact⟨b,o,j,vs,a,d.mono h,e,k.mono h⟩
 case elr=>exact r
 case slp =>
  obtain⟨g,t,cs,f,a,d,e⟩:=r;exact⟨g,t,cs,f,a,d,e.mono h⟩
 all_goals
  obtain⟨v,a,d⟩:=r;exact⟨v,a,d.mono h⟩
theorem jn {F:aA}{L:Loc}:∀{cs:List C}{vs:List Value},aB F L cs vs↔vs.length=cs.length/\∀(i:Nat) c v,cs[i]?=some c->vs[i]?=some v->Rel F L c v
 | [],vs=>by
  simp only[aB];constructor
  ·rintro rfl;simp
  ·rintro⟨h,_⟩;exact List.length_eq_zero_iff.1 (by simpa using h)
 | c::cs,vs=>by
  simp only[aB,jn (cs:=cs)];constructor
  ·rintro⟨v,e,rfl,a,f,l⟩;refine⟨by simp[f],fun i j k b d=>?_⟩;cases i with
   | zero=>simp only[Xp,xo] at b d;subst b d;exact a
   | succ i=>exact l i j k (by simpa using b) (by simpa using d)
  ·rintro⟨a,f⟩
   match vs,a with
   | v::e,a=>exact⟨v,e,rfl,f 0 c v (by simp) (by simp),by simpa using a,fun i j k b d=>f (i+1) j k (by simpa using b) (by simpa using d)⟩
theorem aB.len {F:aA}{L:Loc}{cs:List C}{vs:List Value}(h:aB F L cs vs):vs.length=cs.length:=(jn.1 h).1
theorem aB.at {F:aA}{L:Loc}{cs:List C}{vs:List Value}(h:aB F L cs vs) {i:Nat}{c:C}{v:Value}(a:cs[i]?=some c) (b:vs[i]?=some v):Rel F L c v:=(jn.1 h).2 i c v a b
theorem aB.append {F:aA}{L:Loc}{cs ds:List C}{vs us:List Value}(h:aB F L cs vs) (k:aB F L ds us):aB F L (cs++ds) (vs++us):=by
 induction cs generalizing vs with
 | nil=>simp only[aB] at h;subst h;exact k
 | cons c cs e =>
  simp only[aB] at h;obtain⟨v,d,rfl,a,b⟩:=h;simp only[Xu,aB];exact⟨v,_,rfl,a,e b⟩
theorem aB.drop {F:aA}{L:Loc}{cs:List C}{vs:List Value}(h:aB F L cs vs) (n:Nat):aB F L (cs.drop n) (vs.drop n):=by
 rw[jn] at h ⊢;refine⟨by simp[h.1],fun i c v a b=>?_⟩;rw[XH] at a b;exact h.2 _ _ _ a b
theorem aB.take {F:aA}{L:Loc}{cs:List C}{vs:List Value}(h:aB F L cs vs) (n:Nat):aB F L (cs.take n) (vs.take n):=by
 rw[jn] at h ⊢;refine⟨by simp[h.1],fun i c v a b=>?_⟩;rw[XL] at a b;split at a
 ·rw[j3 (by assumption)] at b;exact h.2 _ _ _ a b
 ·cases a
theorem lZ {F:aA}{a:Option Addr}{sz:Nat}:∀{l:List (List C)}{i:Nat},fI F a sz i l↔∀(j:Nat) es,l[j]?=some es->∃vs,vs.length=sz/\bM F a ((i+j)*sz) vs/\dn es=true/\aB F [] es vs
 | [],i=>by simp[fI]
 | x::l,i=>by
  simp only[fI,lZ (l:=l)];constructor
  ·rintro⟨c,d⟩ j y b;cases j with
   | zero=>simp only[Xp,xo] at b;subst b;simpa using c
   | succ j =>
    simp only[XY] at b;have:=d j y b
    rwa [show i+1+j=i+(j+1) by omega] at this
  ·intro h;refine⟨by simpa using h 0 x (by simp),fun j y b=>?_⟩;have:=h (j+1) y (by simpa using b)
   rwa [show i+(j+1)=i+1+j by omega] at this
theorem gV {F:aA}{sz:Nat}:∀{l:List (List C)}{xs:List Value},aL F sz l xs->xs.length=l.length*sz
 | [],xs,h=>by simp only[aL] at h;subst h;simp
 | es::l,xs,h=>by
  simp only[aL] at h;obtain⟨vs,c,rfl,b,_,_,a⟩:=h;simp only[Xg,gV a,b,Xv,Nat.add_mul];omega
theorem aL.append {F:aA}{sz:Nat}:∀{l m:List (List C)}{xs ys:List Value},aL F sz l xs->aL F sz m ys->aL F sz (l++m) (xs++ys)
 | [],m,xs,ys,h,k=>by simp only[aL] at h;subst h;exact k
 | es::l,m,xs,ys,h,k=>by
  simp only[aL] at h;obtain⟨vs,a,rfl,d,c,e,b⟩:=h;simp only[Xu,aL];exact⟨vs,a++ys,by simp,d,c,e,aL.append b k⟩
theorem aL.at {F:aA}{sz:Nat}:∀{l:List (List C)}{xs:List Value},aL F sz l xs->∀{j:Nat}{es:List C},l[j]?=some es->∃vs,vs.length=sz/\dn es=true/\aB F [] es vs/\∀(i:Nat) v,vs[i]?=some v->xs[j*sz+i]?=some v
 | [],xs,h,j,es,e=>by simp at e
 | x::l,xs,h,j,es,e=>by
  simp only[aL] at h;obtain⟨vs,f,rfl,b,o,n,c⟩:=h;cases j with
  | zero =>
   simp only[Xp,xo] at e;subst e;refine⟨vs,b,o,n,fun i v a=>?_⟩;have:i<vs.length:=(Xe.1 a).1;rw[Nat.zero_mul,Nat.zero_add,Xl this];exact a
  | succ j =>
   obtain⟨us,d,p,k,m⟩:=aL.at c (by simpa using e);refine⟨us,d,p,k,fun i v a=>?_⟩;rw[Xr (by rw[b,Nat.add_mul];omega),show(j+1)*sz+i-vs.length=j*sz+i by rw[b,Nat.add_mul];omega];exact m i v a
theorem aL.frz {F:aA}{sz:Nat}{l:List (List C)}{xs:List Value}(h:aL F sz l xs) {a:Addr}(f:bM F (some a) 0 xs):fI F (some a) sz 0 l:=by
 rw[lZ];intro j es m;obtain⟨vs,d,n,s,r⟩:=h.at m;refine⟨vs,d,?_,n,s⟩;obtain⟨q,c,t,o,e,hb,b,k⟩:=f;refine⟨q,c,t,o,e,hb,b,fun i v p=>?_⟩;have:=k (j*sz+i) v (r i v p);simpa[Nat.add_assoc] using this
theorem iq:∀{l:List C},dn l=true↔∀c∈l,c.one=true
 | []=>by simp[dn]
 | c::l=>by
  simp only[dn];cases h:c.one
  ·simp[h]
  ·simp[h,iq]
theorem og:∀{l:List C},dH l=true↔∀c∈l,c.pure=true
 | []=>by simp[dH]
 | c::l=>by
  simp only[dH];cases h:c.pure
  ·simp[h]
  ·simp[h,og]
theorem pQ:∀{l:List C},iP l=true↔∀c∈l,c.WC=true
 | []=>by simp[iP]
 | c::l=>by
  simp only[iP];cases h:c.WC
  ·simp[h]
  ·simp[h,pQ]
theorem Rel.one {F:aA}{L:Loc}{c:C}{v:Value}(h:Rel F L c v) (d:c.one=true):v.oneCell'=true:=by
 cases c<;>simp only[C.one,Xm] at d<;>simp only[Rel] at h
 case int=>obtain⟨rfl,_⟩:=h;rfl
 case bool=>subst h;rfl
 case str=>obtain⟨rfl,_⟩:=h;rfl
 case sl=>obtain⟨a,c,rfl,_⟩:=h;rfl
 case slx=>obtain⟨a,rfl,_⟩:=h;rfl
 case nils=>subst h;rfl
 case own=>obtain⟨g,t,cs,_,rfl⟩:=h;rfl
 case ifo m _ _ _=>obtain⟨g,t,cs,_,rfl⟩:=h;cases m<;>rfl
 case pt=>obtain⟨b,o,vs,rfl,_⟩:=h;rfl
 case fn=>obtain⟨a,b,rfl,_⟩:=h;rfl
 case nilp=>subst h;rfl
 case nilf=>subst h;rfl
 case ifc=>obtain⟨u,rfl,_⟩:=h;rfl
 case opq=>exact h.one
 case mval=>obtain⟨u,rfl,_⟩:=h;rfl
 case mof=>subst h;rfl
 case mpr=>obtain⟨g,cs,_,rfl⟩:=h;rfl
 case rw=>obtain⟨a,c,t,sz,n,xs,rfl,_⟩:=h;rfl
mutual
theorem Rel.wf {F:aA}:∀{L:Loc}{c:C}{v:Value},Rel F L c v->Wf c
 | _,.int k n,v,r=>by simp only[Rel] at r;simp only[Wf];exact r.2
 | _,.bool b,v,r=>by simp only[Wf]
 | _,.str s,v,r=>by simp only[Rel] at r;simp only[Wf];exact r.2
 | _,.sl els,v,r=>by
  simp only[Rel] at r;obtain⟨a,c,h1,h2,h3,h4,sz,h5⟩:=r;simp only[Wf];exact⟨h3,fI.wf h5⟩
 | _,.slx els,v,r=>by
  simp only[Rel] at r;obtain⟨a,h1,h2,sz,h5⟩:=r;simp only[Wf];exact⟨h2,fI.wf h5⟩
 | _,.nils,v,r=>by simp only[Wf]
 | L,.rw k,v,r=>by simp only[Wf]
 | L,.own k off,v,r=>by simp only[Wf]
 | L,.ifo _ _ _ _,v,r=>by simp only[Wf]
 | _,.pt es off,v,r=>by
  simp only[Rel] at r;obtain⟨b,o,vs,h1,h2,h3,h4⟩:=r;simp only[Wf];exact aB.wf h4
 | L,.fn f fi ca,v,r=>by
  simp only[Rel] at r;obtain⟨fi',ca',h1,h2,h3⟩:=r;simp only[Wf];exact⟨aB.wf h2,aB.wf h3⟩
 | L,.agg cs,v,r=>by
  simp only[Rel] at r;obtain⟨vs,h1,h2⟩:=r;simp only[Wf];exact aB.wf h2
 | L,.tup cs,v,r=>by
  simp only[Rel] at r;obtain⟨vs,h1,h2⟩:=r;simp only[Wf];exact aB.wf h2
 | _,.nilp,v,r=>by simp only[Wf]
 | _,.nilf,v,r=>by simp only[Wf]
 | _,.ifc _ _,v,r=>by simp only[Wf]
 | _,.opq _,v,r=>by simp only[Wf]
 | _,.mval _ _,v,r=>by simp only[Wf]
 | _,.mof _ _,v,r=>by simp only[Wf]
 | _,.mpr _,v,r=>by simp only[Wf]
 | _,.und,v,r=>by simp only[Wf]
 | _,.any,v,r=>by simp only[Wf]
 | _,.ownv _ _,v,r=>by simp only[Wf]
 | _,.elr _ _ _,v,r=>by simp only[Wf]
 | _,.slo _ _,v,r=>by
  simp only[Rel] at r;obtain⟨g,t,cs,ad,h1,h2,h3,h4⟩:=r;simp only[Wf];exact h3
 | _,.slp _ _ _,v,r=>by simp only[Wf]
theorem aB.wf {F:aA}:∀{L:Loc}{cs:List C}{vs:List Value},aB F L cs vs->tu cs
 | _,[],vs,r=>by simp only[tu]
 | L,c::cs,vs,r=>by
  simp only[aB] at r;obtain⟨v,vs',h1,h2,h3⟩:=r;simp only[tu];exact⟨Rel.wf h2,aB.wf h3⟩
theorem fI.wf {F:aA}{a:Option Addr}{sz:Nat}:∀{i:Nat}{l:List (List C)},fI F a sz i l->vR l
 | _,[],r=>by simp only[vR]
 | i,es::l,r=>by
  simp only[fI] at r;obtain⟨⟨vs,h1,h2,h3,h4⟩,h5⟩:=r;simp only[vR];exact⟨aB.wf h4,fI.wf h5⟩
end
theorem aL.wf {F:aA}{sz:Nat}:∀{l:List (List C)}{xs:List Value},aL F sz l xs->vR l
 | [],xs,r=>by simp only[vR]
 | es::l,xs,r=>by
  simp only[aL] at r;obtain⟨vs,c,d,f,e,b,a⟩:=r;simp only[vR];exact⟨b.wf,a.wf⟩
theorem iQ.wf {F:aA}:∀{l:List (C×C)}{vs:List Value},iQ F l vs->Qe l
 | [],vs,r=>trivial
 | (k,c)::l,vs,r=>by
  simp only[iQ] at r;obtain⟨kv,v,d,f,b,a,e⟩:=r;exact⟨b.wf,a.wf,iQ.wf e⟩
theorem cO.wf {F:aA}{L:Loc}:∀{o:TO}{p:Own},cO F L o p->o.Wf
 | .box t cs,.box g a vs,r=>r.2.wf
 | .row t sz els,.row v a b n xs,r=>r.2.2.2.2.wf
 | .box _ _,.row ..,r=>r.elim
 | .row ..,.box ..,r=>r.elim
 | .map _,.row ..,r=>r.elim
 | .map es,.box g a vs,r=>r.2.wf
 | .win ..,.row ..,r=>r.elim
 | .win ..,.box ..,⟨f,v1,h,v3,e,d,c,j⟩=>c.wf
def C.leaf:C->Bool
 | .fn _ _ _=>false
 | .agg _=>false
 | .tup _=>false
 | _=>true
theorem uR {g:C->C}{n:Nat}{c:C}(h:c.leaf=true):C.mp g n c=g c:=by
 cases c<;>first | (cases n<;>rfl;done) | cases h
theorem aB.map {F F':aA}{L L':Loc}{g:C->C}:∀{cs:List C}{vs:List Value},(∀c∈cs,∀v,Rel F L c v->Rel F' L' (g c) v)->aB F L cs vs->aB F' L' (cs.map g) vs
 | [],vs,a,h=>by simp only[aB] at h;subst h;simp only[X9,aB]
 | c::cs,vs,a,h=>by
  simp only[aB] at h;obtain⟨v,b,rfl,d,f⟩:=h;simp only[Xj,aB];exact⟨v,b,rfl,a c (by simp) v d,aB.map (fun c e=>a c (by simp[e])) f⟩
theorem Rel.mp {F F':aA}{L L':Loc}{g:C->C}(b:∀c v,c.leaf=true->Rel F L c v->Rel F' L' (g c) v):∀(n:Nat) {c:C}{v:Value},Rel F L c v->Rel F' L' (C.mp g n c) v
 | 0,c,v,h=>by
  cases a:c.leaf
  ·cases c<;>simp only[C.leaf,Bool.true_eq_false] at a<;>simp only[C.mp,Rel]
  ·rw[uR a];exact b c v a h
 | n+1,c,v,h=>by
  cases a:c.leaf
  ·cases c<;>simp only[C.leaf,Bool.true_eq_false] at a<;>simp only[Rel] at h<;>simp only[C.mp,Rel]
   ·obtain⟨f,j,d,e,k⟩:=h;exact⟨f,j,d,e.map fun c _ v=>Rel.mp b n,k.map fun c _ v=>Rel.mp b n⟩
   ·obtain⟨vs,d,e⟩:=h;exact⟨vs,d,e.map fun c _ v=>Rel.mp b n⟩
   ·obtain⟨vs,d,e⟩:=h;exact⟨vs,d,e.map fun c _ v=>Rel.mp b n⟩
  ·rw[uR a];exact b c v a h
theorem aN.mp {F F':aA}{L L':Loc}{g:C->C}(d:∀c v,c.leaf=true->Rel F L c v->Rel F' L' (g c) v) (f:∀c sv,c.leaf=true->aN F L c sv->aN F' L' (g c) sv) (n:Nat) {c:C}{sv:SV}
  (h:aN F L c sv):aN F' L' (C.mp g n c) sv:=by
 cases a:c.leaf
 ·have j:∃v,sv=.v v/\Rel F L c v:=by cases c<;>simp only[C.leaf,Bool.true_eq_false] at a<;>exact h
  obtain⟨v,rfl,b⟩:=j;have e:=Rel.mp d n b;cases n with
  | zero=>cases c<;>simp only[C.leaf,Bool.true_eq_false] at a<;>simp only[C.mp,aN]
  | succ n=>cases c<;>simp only[C.leaf,Bool.true_eq_false] at a<;>exact⟨v,rfl,e⟩
 ·rw[uR a];exact f c sv a h
def Ext (L L':Loc):Prop:=∀k o,L.get k=some o->∃o',L'.get k=some o'/\Own.like o o'
theorem Ext.refl (L:Loc):Ext L L:=fun k o h=>⟨o,h,Own.Wx o⟩
theorem qw {F F':aA}{L L':Loc}(n:F.le F') {k:Nat}{a:List Nat}{v:Value}(f:∀o,L.get k=some o->∃o',L'.get k=some o'/\Own.like o o') (h:Rel F L (.slo k a) v):Rel F' L' (.slo k a) v:=by
 simp only[Rel] at h ⊢;obtain⟨g,t,cs,j,c,d,m,l⟩:=h;obtain⟨o',e,b⟩:=f _ c;cases o' with
 | row=>exact b.elim
 | box p q cs'=>obtain⟨rfl,rfl⟩:=b;exact⟨_,_,_,j,e,d,m,l.mono n⟩
theorem sn {F F':aA}{L L':Loc}(c:F.le F') {k:Nat}{a:List Nat}{sv:SV}(e:∀o,L.get k=some o->∃o',L'.get k=some o'/\Own.like o o') (h:aN F L (.slo k a) sv):aN F' L' (.slo k a) sv:=by
 simp only[aN] at h ⊢;obtain⟨v,b,d⟩:=h;exact⟨v,b,qw c e d⟩
theorem GP {F F':aA}{L L':Loc}(n:F.le F') {k j:Nat}{a:List Nat}{sv:SV}(f:∀o,L.get k=some o->∃o',L'.get k=some o'/\Own.like o o') (h:aN F L (.slp k a j) sv):aN F' L' (.slp k a j) sv:=by
 simp only[aN] at h ⊢;obtain⟨g,t,cs,l,c,d,m⟩:=h;obtain⟨o',e,b⟩:=f _ c;cases o' with
 | row=>exact b.elim
 | box p q cs'=>obtain⟨rfl,rfl⟩:=b;exact⟨_,_,_,l,e,d,m.mono n⟩
theorem bq {F F':aA}{L L':Loc}(l:F.le F') {c:C}{v:Value}(q:∀k,(∃off,c=.own k off)\/c=.rw k\/c=.mpr k\/(∃m t off,c=.ifo m t k off)\/(∃j off,c=.elr k j off)->∀o,L.get k=some o->∃o',L'.get k=some o'/\Own.like o o') (hc:c.leaf=true) (h:Rel F L c v) (hs:∀k p,c≠.slo k p:=by exact fun _ _ e=>by cases e):Rel F' L' c v:=by
 cases c<;>simp only[C.leaf,Xm] at hc
 case slo=>exact v7 rfl (hs _ _)
 case slp=>exact h.elim
 case rw k =>
  simp only[Rel] at h ⊢;obtain⟨a,c,t,sz,n,xs,rfl,h⟩:=h;obtain⟨o',f,d⟩:=q k (.inr (.inl rfl)) _ h;cases o' with
  | box=>exact d.elim
  | row v' r w n' x=>obtain⟨rfl,rfl,rfl⟩:=d;exact⟨_,_,_,_,_,_,rfl,f⟩
 case mpr k =>
  simp only[Rel] at h ⊢;obtain⟨g,cs,h,rfl⟩:=h;obtain⟨o',f,d⟩:=q k (.inr (.inr (.inl rfl))) _ h;cases o' with
  | row=>exact d.elim
  | box g' r cs'=>obtain⟨rfl,rfl⟩:=d;exact⟨_,_,f,rfl⟩
 case own k off =>
  simp only[Rel] at h ⊢;obtain⟨g,t,cs,h,rfl⟩:=h;obtain⟨o',f,d⟩:=q k (.inl ⟨off,rfl⟩) _ h;cases o' with
  | row=>exact d.elim
  | box g' r cs'=>obtain⟨rfl,rfl⟩:=d;exact⟨_,_,_,f,rfl⟩
 case ifo m ti k off =>
  simp only[Rel] at h ⊢;obtain⟨g,t,cs,h,rfl⟩:=h;obtain⟨o',f,d⟩:=q k (.inr (.inr (.inr (.inl ⟨m,ti,off,rfl⟩)))) _ h;cases o' with
  | row=>exact d.elim
  | box g' r cs'=>obtain⟨rfl,rfl⟩:=d;exact⟨_,_,_,f,rfl⟩
 case elr k j off =>
  simp only[Rel] at h ⊢;obtain⟨ad,t,sz,n,c,xs,rfl,h⟩:=h;obtain⟨o',f,d⟩:=q k (.inr (.inr (.inr (.inr ⟨j,off,rfl⟩)))) _ h;cases o' with
  | box=>exact d.elim
  | row v' r w n' x=>obtain⟨rfl,rfl,rfl⟩:=d;exact⟨_,_,_,_,_,_,rfl,f⟩
 case sl =>
  simp only[Rel] at h ⊢;obtain⟨a,c,f,d,z,y,sz,s⟩:=h;exact⟨a,c,f,d,z,y,sz,s.mono l⟩
 case slx =>
  simp only[Rel] at h ⊢;obtain⟨a,f,d,sz,s⟩:=h;exact⟨a,f,d,sz,s.mono l⟩
 case pt =>
  simp only[Rel] at h ⊢;obtain⟨b,o,vs,f,d,z,y⟩:=h;exact⟨b,o,vs,f,d.mono l,z,y.mono l⟩
 case ifc =>
  simp only[Rel] at h ⊢;obtain⟨u,f,d⟩:=h;exact⟨u,f,d.mono l⟩
 case opq =>
  simp only[Rel] at h ⊢;exact h.mono l
 case mval =>
  simp only[Rel] at h ⊢;obtain⟨u,f,d⟩:=h;exact⟨u,f,d.mono l⟩
 all_goals
  first
   | exact h
   | (simp only[Rel] at h ⊢;done)
mutual
theorem Rel.ext {F F':aA}(hF:F.le F') {L L':Loc}(hk:Ext L L'):∀{c:C}{v:Value},Rel F L c v->Rel F' L' c v
 | .fn f fi ca,v,r=>by
  simp only[Rel] at r ⊢;obtain⟨fi',ca',h1,h2,h3⟩:=r;exact⟨fi',ca',h1,aB.ext hF hk h2,aB.ext hF hk h3⟩
 | .agg cs,v,r=>by
  simp only[Rel] at r ⊢;obtain⟨vs,h1,h2⟩:=r;exact⟨vs,h1,aB.ext hF hk h2⟩
 | .tup cs,v,r=>by
  simp only[Rel] at r ⊢;obtain⟨vs,h1,h2⟩:=r;exact⟨vs,h1,aB.ext hF hk h2⟩
 | .int _ _,v,r=>bq hF (fun k _=>hk k) rfl r
 | .bool _,v,r=>bq hF (fun k _=>hk k) rfl r
 | .str _,v,r=>bq hF (fun k _=>hk k) rfl r
 | .sl _,v,r=>bq hF (fun k _=>hk k) rfl r
 | .slx _,v,r=>bq hF (fun k _=>hk k) rfl r
 | .nils,v,r=>bq hF (fun k _=>hk k) rfl r
 | .rw _,v,r=>bq hF (fun k _=>hk k) rfl r
 | .own _ _,v,r=>bq hF (fun k _=>hk k) rfl r
 | .ifo _ _ _ _,v,r=>bq hF (fun k _=>hk k) rfl r
 | .pt _ _,v,r=>bq hF (fun k _=>hk k) rfl r
 | .nilp,v,r=>bq hF (fun k _=>hk k) rfl r
 | .nilf,v,r=>bq hF (fun k _=>hk k) rfl r
 | .ifc _ _,v,r=>bq hF (fun k _=>hk k) rfl r
 | .opq _,v,r=>bq hF (fun k _=>hk k) rfl r
 | .mval _ _,v,r=>bq hF (fun k _=>hk k) rfl r
 | .mof _ _,v,r=>bq hF (fun k _=>hk k) rfl r
 | .mpr _,v,r=>bq hF (fun k _=>hk k) rfl r
 | .und,v,r=>bq hF (fun k _=>hk k) rfl r
 | .any,v,r=>by simp only[Rel]
 | .ownv _ _,v,r=>r.elim
 | .elr _ _ _,v,r=>bq hF (fun k _=>hk k) rfl r
 | .slo k _,v,r=>qw hF (hk k) r
 | .slp _ _ _,v,r=>r.elim
theorem aB.ext {F F':aA}(hF:F.le F') {L L':Loc}(hk:Ext L L'):∀{cs:List C}{vs:List Value},aB F L cs vs->aB F' L' cs vs
 | [],vs,r=>by simp only[aB] at r ⊢;exact r
 | c::cs,vs,r=>by
  simp only[aB] at r ⊢;obtain⟨v,vs',h1,h2,h3⟩:=r;exact⟨v,vs',h1,Rel.ext hF hk h2,aB.ext hF hk h3⟩
end
theorem Ext.nil (L:Loc):Ext [] L:=fun k o h=>by cases h
theorem aB.lift {F:aA}{L:Loc}{cs:List C}{vs:List Value}(h:aB F [] cs vs):aB F L cs vs:=h.ext (aA.le_refl F) (Ext.nil L)
theorem Rel.lift {F:aA}{L:Loc}{c:C}{v:Value}(h:Rel F [] c v):Rel F L c v:=h.ext (aA.le_refl F) (Ext.nil L)
theorem cL {F F':aA}{L L':Loc}(r:F.le F') {c:C}{sv:SV}(q:∀k,(∃off,c=.own k off)\/(∃off,c=.ownv k off)\/c=.rw k\/(∃j off,c=.elr k j off)\/c=.mpr k\/(∃m t off,c=.ifo m t k off)->∀o,L.get k=some o->∃o',L'.get k=some o'/\Own.like o o') (x:c.leaf=true) (h:aN F L c sv) (u:(∀k a,c≠.slo k a)/\(∀k a j,c≠.slp k a j):=by exact⟨fun _ _ e=>(by cases e),fun _ _ _ e=>(by cases e)⟩):aN F' L' c sv:=by
 cases c<;>simp only[C.leaf,Xm] at x
 case slo=>exact v7 rfl (u.1 _ _)
 case slp=>exact v7 rfl (u.2 _ _ _)
 case own k off =>
  simp only[aN] at h ⊢;obtain⟨rfl,g,t,cs,h⟩:=h;obtain⟨o',l,f⟩:=q k (.inl ⟨off,rfl⟩) _ h;cases o' with
  | row=>exact f.elim
  | box g' t' cs'=>exact⟨rfl,_,_,_,l⟩
 case ownv k off =>
  simp only[aN] at h ⊢;obtain⟨v,z,h⟩:=h;refine⟨v,z,bq r (fun s d=>q s ?_) rfl h⟩;rcases d with⟨p,e⟩ | e | e | ⟨_,_,_,e⟩ | ⟨_,_,e⟩
  ·injection e with e1 e2;subst e1;exact .inr (.inl ⟨off,rfl⟩)
  ·cases e
  ·cases e
  ·cases e
  ·cases e
 case pt =>
  simp only[aN] at h ⊢;obtain⟨b,o,j,vs,l,f,h3,h4⟩:=h;exact⟨b,o,j,vs,l,f.mono r,h3,h4.mono r⟩
 case elr k j off =>
  simp only[aN] at h ⊢;obtain⟨ad,t,sz,n,c,xs,rfl,h⟩:=h;obtain⟨o',l,f⟩:=q k (.inr (.inr (.inr (.inl ⟨_,_,rfl⟩)))) _ h;cases o' with
  | box=>exact f.elim
  | row v' t' w n' y =>
   obtain⟨rfl,rfl,rfl⟩:=f;exact⟨_,_,_,_,_,_,rfl,l⟩
 all_goals first | (simp only[aN];done) | skip
 all_goals
  simp only[aN] at h ⊢;obtain⟨v,rfl,h⟩:=h;refine⟨v,rfl,bq r (fun s d=>q s ?_) rfl h⟩;rcases d with⟨p,e⟩ | e | e | ⟨_,_,_,e⟩ | ⟨_,_,e⟩
  ·cases e
  ·first | cases e;exact .inr (.inr (.inl rfl)) | cases e
  ·first | cases e;exact .inr (.inr (.inr (.inr (.inl rfl)))) | cases e
  ·first | cases e;exact .inr (.inr (.inr (.inr (.inr ⟨_,_,_,rfl⟩)))) | cases e
  ·cases e
theorem aN.ext {F F':aA}{L L':Loc}(l:F.le F') (f:Ext L L') {c:C}{sv:SV}(h:aN F L c sv):aN F' L' c sv:=by
 cases m:c.leaf
 ·have n:∃v,sv=.v v/\Rel F L c v:=by cases c<;>simp only[C.leaf,Bool.true_eq_false] at m<;>exact h
  obtain⟨v,rfl,b⟩:=n;have d:=b.ext l f;cases c<;>simp only[C.leaf,Bool.true_eq_false] at m<;>exact⟨v,rfl,d⟩
 ·by_cases b:∃k a,c=.slo k a
  ·obtain⟨k,a,rfl⟩:=b;exact sn l (f k) h
  ·by_cases d:∃k a j,c=.slp k a j
   ·obtain⟨k,a,j,rfl⟩:=d;exact GP l (f k) h
   ·exact cL l (fun k _=>f k) m h ⟨fun k a e=>b ⟨k,a,e⟩,fun k a j e=>d ⟨k,a,j,e⟩⟩
theorem cO.ext {F F':aA}{L L':Loc}(a:F.le F') (b:Ext L L'):∀{o:TO}{p:Own},cO F L o p->cO F' L' o p
 | .box t cs,.box g c vs,r=>⟨r.1,r.2.ext a b⟩
 | .row t sz els,.row v c h n xs,r=>⟨r.1,r.2.1,r.2.2.1,r.2.2.2.1,r.2.2.2.2.mono a⟩
 | .box _ _,.row ..,r=>r.elim
 | .row ..,.box ..,r=>r.elim
 | .map _,.row ..,r=>r.elim
 | .map es,.box g c vs,r=>⟨r.1,r.2.mono a⟩
 | .win ..,.row ..,r=>r.elim
 | .win ..,.box ..,⟨f,v1,j,v3,e,d,k,l⟩=>⟨f,v1,j,v3,e,d.mono a,k.ext a b,l.mono a⟩
end Go.Fr.T
