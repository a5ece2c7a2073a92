/- Part of the proofs of the statements of this seat. -/
import Derived.Test.YtnlegbokpofcaaaDoorFW3
import Derived.Test.YtnlegbokpofcaaaDoorSnCode
set_option maxRecDepth 10000
set_option linter.unusedVariables false
set_option linter.unusedSimpArgs false
namespace Go.Fr.Tryd
open Go Go.RowKit Go.Proofs Go.Fr Go.Fr.T Go.Fr.Api
noncomputable abbrev PZ:Program:=Tryd.prog
def eS:Value:=.iface 98 (.agg #[])
inductive Vl where
 | mk (kind id variant n:Int) (fields:List Vl) (excl:Bool) (path loans:List Int)
structure Ce where
 live:Bool
 arena:Int
 value:Vl
structure Ac where
 number:Int
 routine:Int
 block:Int
 index:Int
 dst:Int
 slots:List Vl
 since:List Int
structure Ln where
 frame:Int
 slot:Int
 excl:Bool
 re:Bool
 over:Bool
structure Tk where
 state:Int
 frames:List Ac
 loans:List Ln
 allocs:Int
 clock:Int
 next:Int
 cells:List Int
structure Ou where
 task:Int
 number:Int
structure Wd where
 cells:List Ce
 arenas:List Bool
 tasks:List Tk
 channels:List (List Vl)
 outputs:List Ou
 made:Int
 dropped:Int
 closed:Int
mutual
def rE:Vl->List C
 | .mk k i v n f e p l=>[IC k,IC i,IC v,IC n,.sl (K2 f),.bool e,.sl (wL p),.sl (wL l)]
def K2:List Vl->List (List C)
 | []=>[]
 | x::xs=>rE x::K2 xs
end
theorem sH:∀l:List Vl,K2 l=l.map rE
 | []=>rfl
 | x::xs=>by rw[K2,sH xs];rfl
def D5 (x:Ce):List C:=.bool x.live::IC x.arena::rE x.value
def LU (l:List Vl):List C:=[.sl (l.map rE)]
def FI (x:Ac):List C:=[IC x.number,IC x.routine,IC x.block,IC x.index,IC x.dst,.sl (x.slots.map rE),.sl (wL x.since)]
def Ip (x:Ln):List C:=[IC x.frame,IC x.slot,.bool x.excl,.bool x.re,.bool x.over]
def D6 (x:Tk):List C:=[IC x.state,.sl (x.frames.map FI),.sl (x.loans.map Ip),IC x.allocs,IC x.clock,IC x.next,.sl (wL x.cells)]
def LV (x:Ou):List C:=[IC x.task,IC x.number]
def HI (b:Bool):List C:=[.bool b]
def N0 (x:Wd):List C:=[.sl (x.cells.map D5),.sl (x.arenas.map HI),.sl (x.tasks.map D6),.sl (x.channels.map LU),.sl (x.outputs.map LV),IC x.made,IC x.dropped,IC x.closed]
theorem aK {bs:List UInt8}:(af bs).length=bs.length:=by simp[af]
theorem fA {bs:List UInt8}:∀es∈af bs,es.length=1:=by
 intro es h;simp only[af,Xv] at h;obtain⟨b,_,rfl⟩:=h;rfl
theorem gq (bs:List UInt8) (n m:Nat):((af bs).drop n).take m=af ((bs.drop n).take m):=by simp[af]
theorem Fit.to {k:IntKind}{n m:Int}{K:Int->Prop}(h:k.wrap n=m) (a:K m):Fit k n K:=⟨by rw[h];exact a⟩
theorem bM {n:Int}(a:-9223372036854775808<=n) (b:n<=9223372036854775807):IntKind.wrap .i64 n=n:=by
 simp only[IntKind.wrap,IntKind.bits,IntKind.signed,XT,XL,ge_iff_le,Nat.reduceSub,Int.reducePow];split<;>omega
theorem qB {bs:List UInt8}{els:List (List C)}{K:Prop}(n:Nat) (a:els.length=n) (h:n+bs.length<=140737488355328) (k:K):rj els (af bs) 1 1 K :=
 ⟨fA,by rw[aK,a];simp only[maxLen];omega,by rw[aK,a];omega,k⟩
theorem tM {L L1:TL}{k t sz:Nat}(h:L.get k=none) (a:L1.get k=some (.row t sz [])):Im L L1 .nils (.rw k):=.inr (.inr (.inr (.inl ⟨rfl,k,t,sz,rfl,h,a⟩)))
theorem OQ {L:TL}{K:TL->Prop}(h:K L):fT L K:=by rw[eB];exact h
abbrev Dec (a:Type):=List UInt8->Option (a×List UInt8)
def bound:Int:=1099511627776
def takeD (n:Int):Dec (List UInt8):=fun l=>if 0<=n/\n<=l.length then some (l.take n.toNat,l.drop n.toNat) else none
def LW (z:Nat):Int:=if z % 2=0 then((z / 2:Nat):Int) else -((z / 2:Nat):Int)-1
def mB:Nat->Nat->Nat->Dec Int
 | 0,_,_,_=>none
 | _+1,_,_,[]=>none
 | f+1,k,z,c::r=>if c.toNat<128 then(if 0<c.toNat\/k=0 then some (LW (z+c.toNat*128 ^ k),r) else none)
  else mB f (k+1) (z+(c.toNat-128)*128 ^ k) r
def getD:Dec Int:=mB 6 0 0
def ga:Dec Int:=fun l=>match getD l with
 | some (n,r)=>if -bound<=n/\n<=bound then some (n,r) else none
 | none=>none
def CS:Dec Nat:=fun l=>match getD l with
 | some (n,r)=>if 0<=n/\n<=100000/\n<=r.length then some (n.toNat,r) else none
 | none=>none
def oU:Dec Bool:=fun l=>match ga l with
 | some (n,r)=>if n=0\/n=1 then some (decide (n=1),r) else none
 | none=>none
def bA {a:Type}(f:Dec a):Nat->Dec (List a)
 | 0,l=>some ([],l)
 | n+1,l=>match f l with
  | some (x,r)=>match bA f n r with
   | some (xs,r)=>some (x::xs,r)
   | none=>none
  | none=>none
def fK {a b:Type}(f:Dec a) (k:a->Dec b):Dec b:=fun l=>match f l with
 | none=>none
 | some (x,r)=>k x r
theorem aR {a b:Type}{f:Dec a}{k:a->Dec b}{l:List UInt8}(h:f l=none):fK f k l=none:=by simp only[fK,h]
theorem aj {a b:Type}{f:Dec a}{k:a->Dec b}{l r:List UInt8}{x:a}(h:f l=some (x,r)):fK f k l=k x r:=by simp only[fK,h]
def wR {a:Type}(x:a):Dec a:=fun l=>some (x,l)
def dz {a:Type}(f:Dec a):Dec (List a):=fK CS fun n=>bA f n
def K3:Nat->Dec Vl
 | 0=>fun _=>none
 | d+1=>fK (bA ga 4) fun a=>fK (dz (K3 d)) fun f=>fK (bA oU 1) fun e=>fK (dz ga) fun p=>fK (dz ga) fun l=>wR (.mk (a.getD 0 0) (a.getD 1 0) (a.getD 2 0) (a.getD 3 0) f (e.getD 0 false) p l)
def HJ:Dec Vl:=K3 60
def N7:Dec Ce:=fK (bA oU 1) fun b=>fK (bA ga 1) fun a=>fK HJ fun v=>wR ⟨b.getD 0 false,a.getD 0 0,v⟩
def PN:Dec (List Vl):=dz HJ
def N8:Dec Ac:=fK (bA ga 5) fun a=>fK PN fun s=>fK (dz ga) fun c=>wR ⟨a.getD 0 0,a.getD 1 0,a.getD 2 0,a.getD 3 0,a.getD 4 0,s,c⟩
def OT:Dec Ln:=fK (bA ga 2) fun a=>fK (bA oU 3) fun b=>wR ⟨a.getD 0 0,a.getD 1 0,b.getD 0 false,b.getD 1 false,b.getD 2 false⟩
def LX:Dec Tk:=fK (bA ga 1) fun s=>fK (dz N8) fun f=>fK (dz OT) fun l=>fK (bA ga 3) fun a=>fK (dz ga) fun c=>wR ⟨s.getD 0 0,f,l,a.getD 0 0,a.getD 1 0,a.getD 2 0,c⟩
def Qn:Dec Ou:=fK (bA ga 2) fun a=>wR ⟨a.getD 0 0,a.getD 1 0⟩
def Qo:Dec Bool:=fK (bA oU 1) fun b=>wR (b.getD 0 false)
def D7:Dec Wd:=fK (dz N7) fun c=>fK (dz Qo) fun a=>fK (dz LX) fun t=>fK (dz PN) fun h=>fK (dz Qn) fun o=>fK (bA ga 3) fun m=>wR ⟨c,a,t,h,o,m.getD 0 0,m.getD 1 0,m.getD 2 0⟩
theorem yT {n:Int}{bs:List UInt8}(h:0<=n) (k:n<=bs.length):takeD n bs=some (bs.take n.toNat,bs.drop n.toNat):=by simp[takeD,h,k]
abbrev Enc:=List UInt8×Bool
def N9:Enc:=([],true)
def z7 (b:Bool):Enc:=([],b)
def bn (a b:Enc):Enc:=(a.1++b.1,a.2&&b.2)
def bQ (z:Nat):List UInt8:=if h:z<128 then[UInt8.ofNat z] else UInt8.ofNat (128+z % 128)::bQ (z / 128)
termination_by z
decreasing_by omega
def zz (n:Int):Nat:=if n<0 then(-2*n-1).toNat else(2*n).toNat
def aX {a:Type}(f:a->Enc):List a->Enc
 | []=>N9
 | x::l=>bn (f x) (aX f l)
structure Kd where
 t:Nat
 tb:Nat
 num:Int->Enc
 siz:Int->Enc
 deep:Bool
def Cb (n:Int):List UInt8:=(List.range 8).map fun k=>UInt8.ofNat ((n.fdiv (2 ^ (8*k))).emod 256).toNat
def kW:Kd:=⟨60,66,fun n=>(bQ (zz n),decide (-1099511627776<=n)&&decide (n<=1099511627776)),fun n=>(bQ (zz n),decide (n<=100000)),false⟩
def kL:Kd:=⟨94,95,fun n=>(Cb n,true),fun n=>(Cb n,true),true⟩
section
variable (k:Kd)
def qb (b:Bool):Enc:=k.num (if b=true then 1 else 0)
def bR {a:Type}(f:a->Enc) (l:List a):Enc:=bn (k.siz l.length) (aX f l)
mutual
def Aq:Vl->Int->Enc
 | .mk a b c n f e p l,d=>bn (z7 (decide (0<d)||k.deep)) (bn (aX k.num [a,b,c,n]) (bn (bn (k.siz f.length) (CT f (d-1))) (bn (aX (qb k) [e]) (bn (bR k k.num p) (bR k k.num l)))))
def CT:List Vl->Int->Enc
 | [],_=>N9
 | x::xs,d=>bn (Aq x d) (CT xs d)
end
theorem tN (d:Int):∀l:List Vl,CT k l d=aX (fun x=>Aq k x d) l
 | []=>rfl
 | x::xs=>by rw[CT,tN d xs];rfl
def yU (v:Vl):Enc:=Aq k v 60
def Qp (x:Ce):Enc:=bn (aX (qb k) [x.live]) (bn (aX k.num [x.arena]) (yU k x.value))
def PO (l:List Vl):Enc:=bR k (yU k) l
def Qq (x:Ac):Enc:=bn (aX k.num [x.number,x.routine,x.block,x.index,x.dst]) (bn (PO k x.slots) (bR k k.num x.since))
def Qr (x:Ln):Enc:=bn (aX k.num [x.frame,x.slot]) (aX (qb k) [x.excl,x.re,x.over])
def Qs (x:Tk):Enc:=bn (aX k.num [x.state]) (bn (bR k (Qq k) x.frames) (bn (bR k (Qr k) x.loans) (bn (aX k.num [x.allocs,x.clock,x.next]) (bR k k.num x.cells))))
def Qt (x:Ou):Enc:=aX k.num [x.task,x.number]
def Qu (b:Bool):Enc:=aX (qb k) [b]
def uo (x:Wd):Enc:=bn (bR k (Qp k) x.cells) (bn (bR k (Qu k) x.arenas) (bn (bR k (Qs k) x.tasks) (bn (bR k (PO k) x.channels) (bn (bR k (Qt k) x.outputs) (aX k.num [x.made,x.dropped,x.closed])))))
end
mutual
/-- how deep a value is -/
def Fm:Vl->Nat
 | .mk _ _ _ _ f _ _ _=>HK f+1
def HK:List Vl->Nat
 | []=>0
 | x::xs=>max (Fm x) (HK xs)
end
theorem wS:∀{l:List Vl}{x:Vl},x∈l->Fm x<=HK l
 | y::l,x,h=>by
  rw[HK];rcases WZ.1 h with rfl | h
  ·exact Nat.le_max_left _ _
  ·exact XK (wS h) (Nat.le_max_right _ _)
def WB (t:Nat) (bs:List UInt8):List TO:=[.box t [.rw 1001,IC 0,.int .i8 0],.row 5 1 (af bs)]
def CU (t:Nat) (bs:List UInt8):TL:=[(1000,.box t [.rw 1001,IC 0,.int .i8 0]),(1001,.row 5 1 (af bs))]
def PU (k:Kd) (f:Nat) (args:List C) (e:Enc) (x:C):Prop:=∀bs,bs.length+e.1.length<=70368744177664 ->
 CallsTX PZ f args (WB k.tb bs) (fun Mo c=>e.2=true/\Mo=WB k.tb (bs++e.1)/\c=x) (fun v=>v=eS/\e.2=false)
abbrev eL (k:Kd) (f:Nat) (args:List C) (e:Enc):Prop:=PU k f args e (.tup [])
def RB (bs:List UInt8):TO:=.box 54 [.sl (af bs)]
def K4 {a:Type}(f:Nat) (args:List C) (bs:List UInt8) (o:Option (a×List UInt8)) (cell:a->C):Prop :=
 CallsTX PZ f args [RB bs] (fun Mo c=>∃y r,o=some (y,r)/\Mo=[RB r]/\c=cell y) (fun v=>v=eS/\o=none)
def fV {b:Type}(f:Nat) (fi ca:List C) (a:Dec b) (z:List C) (cs:b->List C):Prop:=∀(t:Nat) (pre post:List C) (bs:List UInt8),bX pre->bX post ->
 CallsTX PZ f (fi++.ifo none 52 1000 0::.own 1001 pre.length::ca) [RB bs,.win t pre z post] (fun Mo c=>∃x r,a bs=some (x,r)/\Mo=[RB r,.win t pre (cs x) post]/\c=.tup []) (fun v=>v=eS/\a bs=none)
def LY (b:Bool):Prop:=CallsTX PZ 36 [.bool b] [] (fun Mo c=>b=true/\Mo=[]/\c=.tup []) (fun v=>v=eS/\b=false)
section
variable {L:TL}{ρ:aT}
theorem tO {PS:oV}{b:Bool}{args:List C}{K:TL->aT->C->Prop}(h:LY b) (d:args=[.bool b]) (a:b=false->PS.ps eS) (k:b=true->K L ρ (.tup [])) (f:kQ L [] PS.hb=true:=by rfl):n9 PZ PS 36 args L ρ K:=by
 subst d;refine .mk ⟨[],[],[],L,[],_,_,.inl rfl,rfl,rfl,rfl,rfl,rfl,f,h,fun v ⟨e,h⟩=>e▸a h,?_⟩;rintro v Mo ⟨c,rfl,rfl⟩ l j;exact⟨rfl,k c⟩
theorem cR {R:List TO->C->Prop}(ko:List Nat) {Lin Mo Lo:List TO}{v x:C}(c:L.sub ko=some Mo) (a:(T.bE ko&&aQ Lin (List.range' 1000 Lin.length) ko)=true) (b:Mo.map (TO.Wh (C.ren (cj ko 1000)))=Lo) (e:v.Ww.ren (cj ko 1000)=x) (h:R Lo x):oP Lin L v R:=by
 simp only[WY] at a;exact⟨[],ko,L,v,v,Mo,rfl,.inl ⟨rfl,rfl⟩,c,a.1,a.2,fun _=>by rw[b,e];exact h⟩
theorem qd {R:List TO->C->Prop}(b ko:List Nat) {Lin:List TO}{v:C}(d:vP b L (fun _=>.any) [v] fun L _ vs=>∃c Mo,vs=[c]/\L.sub ko=some Mo/\(T.bE ko&&aQ Lin (List.range' 1000 Lin.length) ko)=true/\R (Mo.map (TO.Wh (C.ren (cj ko 1000)))) (c.Ww.ren (cj ko 1000))):oP Lin L v R:=by
 refine⟨b,ko,?_⟩;refine uh.frzK_imp d ?_;rintro L ρ vs ⟨c,Mo,rfl,f,a,e⟩;simp only[WY] at a;exact⟨L,c,c,Mo,rfl,.inl ⟨rfl,rfl⟩,f,a.1,a.2,fun _=>e⟩
theorem bO (ks:List Nat) {PS:oV}{f:Nat}{args a:List C}{K:TL->aT->C->Prop}{R:List TO->C->Prop}{Pp:Value->Prop}{Lin Lin':List TO}(h:CallsTX PZ f a Lin' R Pp) (p:L.sub ks=some Lin)
  (b:(T.bE ks&&T.lg L ks ks&&aQ Lin ks ks)=true) (l:(args.map fun c=>c.Wm.ren (cj ks 1000))=a) (n:Lin.map (TO.Wh (C.ren (cj ks 1000)))=Lin') (j:∀v,Pp v->PS.ps v)
  (k:∀v Mo,R Mo v->Wf v->(∀o∈Mo,o.Wf)->ks.length=Mo.length/\K (((L.Wg ks).kills (rowsOf L ks)).puts ks (Mo.map (TO.Wh (C.ren (aW ks))))) (eI (rowsOf L ks) ρ) (v.ren (aW ks)).slt) (e:kQ L ks PS.hb=true:=by rfl):n9 PZ PS f args L ρ K:=by
 subst l n;simp only[WY] at b;obtain⟨⟨d,m⟩,c3⟩:=b;exact .mk ⟨[],ks,ks,L,Lin,_,_,.inl rfl,p,d,d,m,c3,e,h,j,k⟩
theorem bY (ks:List Nat) {PS:oV}{d:List Nat}{f:Nat}{args a:List C}{K:TL->aT->C->Prop}{R:List TO->C->Prop}{Pp:Value->Prop}{Lin Lin':List TO}(h:CallsTX PZ f a Lin' R Pp) (q:L.sub ks=some Lin)
  (b:(T.bE ks&&vR ks d&&aQ Lin ks ks)=true) (l:(args.map fun c=>c.Wm.ren (cj ks 1000))=a) (p:Lin.map (TO.Wh (C.ren (cj ks 1000)))=Lin') (j:∀v,Pp v->PS.ps v)
  (k:∀v Mo,R Mo v->Wf v->(∀o∈Mo,o.Wf)->ks.length=Mo.length/\K (((L.Wg ks).kills (rowsOf L ks)).puts ks (Mo.map (TO.Wh (C.ren (aW ks))))) (eI (rowsOf L ks) ρ) (v.ren (aW ks)).slt) (e:kQ L ks PS.hb=true:=by rfl):mM PZ PS d f args L ρ K:=by
 subst l p;simp only[WY] at b;obtain⟨⟨m,n⟩,c3⟩:=b;exact⟨ks,Lin,_,_,q,m,n,c3,e,h,j,k⟩
end
theorem sN (b:Bool):LY b:=by
 refine ai Tryd.func36 Ki rfl fun _ _=>?_;cases b
 ·exact Ow rfl ⟨rfl,rfl⟩
 ·exact cR [] rfl rfl rfl rfl ⟨rfl,rfl,rfl⟩
end Go.Fr.Tryd
namespace Go.Fr.Tryd
open Go Go.RowKit Go.Proofs Go.Fr Go.Fr.T
theorem St.reslice {F:aA}{L:Loc}{w:World}{k g t sz n n' c:Nat}{xs:List Value}(m:St F L w) (j:L.get k=some (.row (.slice (some ⟨g,0,none⟩) n c) t sz n xs)) (h:n'<=c) :
  ∃ys,ys.length=n'*sz/\(∀i,i<n*sz->i<n'*sz->ys[i]?=xs[i]?)/\St F (L.set k (.row (.slice (some ⟨g,0,none⟩) n' c) t sz n' ys)) w:=by
 have l:=m.own k _ j;simp only[Own.ok] at l;obtain⟨v,⟨e,_⟩ | ⟨p,cap,a,e,u,o,x,r,d,s⟩⟩:=l
 ·cases e
 ·injection e with e1 e2 e3
  injection e1 with e1
  injection e1 with e1 _ _
  subst e1 e3;have q:n'*sz<=c*sz:=Nat.mul_le_mul_right _ h;refine⟨a.toList.take (n'*sz),?_,fun i hi b=>?_,?_⟩
  ·rw[Xk,Array.length_toList,d];omega
  ·rw[<-s,List.getElem?_take_of_lt hi,List.getElem?_take_of_lt b]
  ·refine m.turn j (o':=.row (.slice (some ⟨g,0,none⟩) n' c) t sz n' (a.toList.take (n'*sz))) ?_ (fun _ _ _=>rfl) (fun p f=>.inl f);exact⟨by rw[Xk,Array.length_toList,d];omega,.inr ⟨g,c,a,rfl,u,o,h,r,d,rfl⟩⟩
theorem CallsA.WJ {P:Program}{f:FuncId}{args:Array Value}{F:aA}{Lin:List Own}{R R':aA->List Own->Value->Prop}(h:CallsA P f args F Lin R) (m:∀F G L v,F.le G->R' F L v->R' G L v)
  (c:∀F' Lo v w',St F' (inp Lo) w'->R F' Lo v->∃Lo',St F' (inp Lo') w'/\(∀b,(inp Lo').owns b->(inp Lo).owns b)/\R' F' Lo' v):CallsA P f args F Lin R':=by
 refine⟨h.ent,m,fun w o=>(h.run w o).mono ?_⟩;rintro e w' ⟨v,F',Lo,rfl,l,a,j⟩;obtain⟨Lo',n,k,d⟩:=c F' Lo v w' l j;exact⟨v,F',Lo',rfl,n,⟨a.le,a.os,a.tape,a.output,a.size,a.same,a.frz,fun b hb=>a.own b (k b hb)⟩,d⟩
def iX (s:Value) (n c:Nat):Prop:=(s=.slice none 0 0/\n=0/\c=0)\/∃g,s=.slice (some ⟨g,0,none⟩) n c/\n<=c/\c<=maxLen
theorem iX.form {s:Value}{n c:Nat}(h:iX s n c):∃a,s=.slice a n c/\n<=c/\c<=maxLen/\(a=none->n=0/\c=0):=by
 rcases h with⟨rfl,rfl,rfl⟩ | ⟨g,rfl,b,d⟩
 ·exact⟨none,rfl,Xj _,Xt _,fun _=>⟨rfl,rfl⟩⟩
 ·exact⟨_,rfl,b,d,fun e=>by cases e⟩
theorem z8 {F:aA}{L:Loc}{w:World}{k t sz n:Nat}{v:Value}{xs:List Value}(m:St F L w) (b:L.get k=some (.row v t sz n xs)):∃c,iX v n c:=by
 have a:=m.own k _ b;simp only[Own.ok] at a;obtain⟨p,⟨e,d⟩ | ⟨h,cap,f,e,s,o,j,l,q,r⟩⟩:=a
 ·exact⟨0,.inl ⟨e,d,rfl⟩⟩
 ·exact⟨cap,.inr ⟨h,e,j,l⟩⟩
def BO (ex:List Value) (a tb:Nat) (s:Value) (lr:Int) (n:Nat) (xs:List Value):List Own:=[.box a (tb+1) (s::.int .i64 0::.int .i8 lr::ex),.row s 5 1 n xs]
theorem HL {ex:List Value}{a tb:Nat}{s:Value}{lr:Int}{n:Nat}{xs:List Value}:inp (BO ex a tb s lr n xs)=[(1000,.box a (tb+1) (s::.int .i64 0::.int .i8 lr::ex)),(1001,.row s 5 1 n xs)]:=rfl
theorem HM {Lin:List Own}(svs:List SV) (n:Nat) (a:∀v∈svs,(∀k off,v=.own k off->∃g ty cs,(inp Lin).get k=some (.box g ty cs))/\(∀d j,v=.el d j->d≠none)) :
  aC (inp Lin) (rO 0 svs) {tmps:=(svs.map (conc (inp Lin))).toArray++Array.replicate (n-(svs.map (conc (inp Lin))).toArray.size) undef,defers:=[]}:=by
 have c:∀t,rO 0 svs t=.v undef\/rO 0 svs t∈svs:=by
  intro t;rw[pG];simp only[Xt,Xm,Nat.sub_zero];cases e:svs[t]? with
  | none=>exact .inl rfl
  | some v=>exact .inr (W5 e)
 refine⟨fun t=>?_,fun t k off e=>?_,fun t d j e=>?_⟩
 ·rw[pG];simp only[Xt,Xm,Nat.sub_zero,Xo];cases e:svs[t]? with
  | some v =>
   have f:t<svs.length:=(WX.1 e).1;rw[Array.getElem?_append_left (by simpa using f)];simp[e]
  | none =>
   have h:svs.length<=t:=XP.1 e;rw[Array.getElem?_append_right (by simpa using h)];simp only[Array.getElem?_replicate,Option.getD_none,conc];split<;>rfl
 ·rcases c t with b | b
  ·rw[b] at e;cases e
  ·exact(a _ b).1 k off e
 ·rcases c t with b | b
  ·rw[b] at e;cases e
  ·exact(a _ b).2 d j e
variable {ex:List Value}
theorem qz {c tb:Nat}{s:Value}{lr:Int}{n:Nat}{xs:List Value}{svs:List Value}:∀v∈(SV.own 1000 0::svs.map SV.v),(∀k off,v=.own k off->∃g ty cs,(inp (BO ex c tb s lr n xs)).get k=some (.box g ty cs))/\(∀b j,v=.el b j->b≠none):=by
 intro v a;rcases WZ.1 a with rfl | a
 ·exact⟨fun k off e=>by injection e with e1 e2;subst e1;exact⟨_,_,_,rfl⟩,fun _ _ e=>by cases e⟩
 ·obtain⟨u,_,rfl⟩:=Xv.1 a;exact⟨fun _ _ e=>(by cases e),fun _ _ e=>(by cases e)⟩
theorem K6 {s:Value}{n c h:Nat}{a:Option Addr}(b:iX s n c) (e:s=.slice a n c):fu a c 0 h 1=.slice a h c:=by
 rcases b with⟨rfl,rfl,rfl⟩ | ⟨g,rfl,_,_⟩
 ·injection e with e1 e2 e3
  subst e1;simp[fu]
 ·injection e with e1 e2 e3
  subst e1;simp[fu,Addr.add]
def VF (ex:List Value) (a tb:Nat) (s:Value) (lr:Int) (n c m:Nat) (xs:List Value):aA->List Own->Value->Prop:=fun _ Lo v =>
 (∃s' ys,ys.length=m/\iX s' (n+m) c/\Lo=BO ex a tb s' lr (n+m) (xs++ys)/\v=.tuple #[.int .i64 n,.bool true]) \/
 (c<n+m/\Lo=BO ex a tb s lr n xs/\v=.tuple #[.int .i64 0,.bool false])
theorem Qv (F:aA) (d tb:Nat) (s:Value) (lr:Int) (n c m:Nat) (xs:List Value) (p:iX s n c) (hm:n+m<=140737488355328) :
  CallsA PZ 43 #[.pointer (some ⟨d,0,none⟩),.int .i64 m] F (BO ex d tb s lr n xs) (VF ex d tb s lr n c m xs):=by
 obtain⟨a,rfl,z,u,ha⟩:=p.form;unfold maxLen at u;have h1:CallsA PZ 43 #[.pointer (some ⟨d,0,none⟩),.int .i64 m] F (BO ex d tb (.slice a n c) lr n xs) (fun _ Lo v =>
   (n+m<=c/\Lo=[.box d (tb+1) (.slice a (n+m) c::.int .i64 0::.int .i8 lr::ex),.row (.slice a n c) 5 1 n xs]/\v=.tuple #[.int .i64 n,.bool true]) \/
   (c<n+m/\Lo=BO ex d tb (.slice a n c) lr n xs/\v=.tuple #[.int .i64 0,.bool false])):=by
  refine fL (svs:=[.own 1000 0,.v (.int .i64 m)]) rfl Kq rfl rfl (qz (svs:=[.int .i64 m])) (fun _ _ _ _ _ h=>h) ?_;refine Fit.Wi (by omega) (by omega) ?_;refine aV (fun h=>?_) (fun h=>?_)
  ·refine Fit.Wi (by omega) (by omega) ?_;refine mI.mk (by omega) (by omega) (by omega) ?_;have e:((n:Int)+m).toNat=n+m:=by omega
   have x:fu a c 0 ((n:Int)+m).toNat 1=.slice a (n+m) c:=by rw[e];exact K6 p rfl
   exact⟨[1000,1001],_,rfl,by decide,.inl ⟨by omega,o6 (fun q=>[Own.box d (tb+1) (q::.int .i64 0::.int .i8 lr::ex),.row (.slice a n c) 5 1 n xs]) x,rfl⟩⟩
  ·exact⟨[1000,1001],_,rfl,by decide,.inr ⟨by omega,rfl,rfl⟩⟩
 refine CallsA.WJ h1 (fun _ _ _ _ _ h=>h) ?_;rintro F' Lo v w' f (⟨j,rfl,rfl⟩ | ⟨r,rfl,rfl⟩)
 ·rcases p with⟨e,rfl,rfl⟩ | ⟨g,e,_,_⟩
  ·injection e with e1 _ _
   subst e1;have:m=0:=by omega
   subst this;exact⟨_,f,fun b h=>h,.inl ⟨.slice none 0 0,[],rfl,.inl ⟨rfl,rfl,rfl⟩,by simp[BO],rfl⟩⟩
  ·injection e with e1 _ _
   subst e1;have w:(inp [.box d (tb+1) (.slice (some ⟨g,0,none⟩) (n+m) c::.int .i64 0::.int .i8 lr::ex),.row (.slice (some ⟨g,0,none⟩) n c) 5 1 n xs]).get 1001=some (.row (.slice (some ⟨g,0,none⟩) n c) 5 1 n xs):=rfl;have t:xs.length=n:=by
    have:=(f.own _ _ w).1;simpa using this
   obtain⟨ys,y1,y,y3⟩:=St.reslice f w j;have l:ys=xs++ys.drop n:=by
    apply XB;intro i
    by_cases hi:i<n
    ·rw[y i (by omega) (by omega),W8 (by omega)]
    ·rw[Xe (by omega),Xu,t];congr 1;omega
   refine⟨BO ex d tb (.slice (some ⟨g,0,none⟩) (n+m) c) lr (n+m) ys,y3,fun b hb=>?_,.inl ⟨_,ys.drop n,by rw[XM,y1];omega,.inr ⟨g,rfl,j,by unfold maxLen;omega⟩,by rw[<-l],rfl⟩⟩;obtain⟨k,o,e,hb⟩:=hb;rw[HL] at e;simp only[Loc.get] at e;split at e
   ·rename_i ab;injection e with e;subst e
    exact⟨1000,_,rfl,hb⟩
   ·split at e
    ·injection e with e;subst e
     exact⟨1001,_,rfl,hb⟩
    ·cases e
 ·exact⟨_,f,fun b h=>h,.inr ⟨r,rfl,rfl⟩⟩
variable {ex:List Value}
def Qw:aJ:=.reg [.op (some 8) (.mov (.t 0)) none,
  .op (some 9) (.len (.t 8)) none,
  .op (some 10) (.mov (.t 1)) none,
  .op (some 11) (.bin .add (.t 9) (.t 10)) none,
  .op (some 5) (.mov (.t 11)) none]
def Qx:aJ:=.seq (.reg [.op (some 12) (.mov (.t 5)) none,
  .op (some 13) (.mov (.t 0)) none,
  .op (some 14) (.capa (.t 13)) none,
  .op (some 15) (.bin .mul (.c (.int .i64 2)) (.t 14)) none,
  .op (some 16) (.bin .lss (.t 12) (.t 15)) none])
 (.cond (.t 16)
 (.reg [.op (some 17) (.mov (.t 0)) none,
   .op (some 18) (.capa (.t 17)) none,
   .op (some 19) (.bin .mul (.c (.int .i64 2)) (.t 18)) none,
   .op (some 5) (.mov (.t 19)) none])
 .skip)
def Qy:aJ:=.reg [.op (some 20) (.mov (.t 5)) none,
  .op (some 21) (.appZ 5 1 .u8 (.c (.slice none 0 0)) (.t 20)) none,
  .op (some 6) (.mov (.t 21)) none]
def Qz:aJ:=.seq (.reg [.op (some 22) (.mov (.t 6)) none,
  .op (some 23) (.mov (.t 0)) none,
  .op (some 24) (.copy 5 1 (.t 22) (.t 23)) none,
  .op (some 7) (.mov (.t 24)) none])
 (.seq (.reg [.op (some 25) (.mov (.t 6)) none,
  .op (some 26) (.mov (.t 7)) none,
  .op (some 27) (.slc 1 (.t 25) none (some (.t 26))) none,
  .op (some 4) (.mov (.t 27)) none])
 .ret)
theorem piece {P:Program}{A:cP}{c:Code}{sc:aJ}(u:low P A c=some sc) {N:cE}{F:aA}{L:Loc}{ρ:Env}{a:Act}{w:World}(y:St F L w) (t:aC L ρ a) (r:a.tmps.size=A.n)
  (s:gu P sc (fun _ _ _ _=>False) (fun _ _ _=>False) N F L ρ) {Q:Exit->Act->World->Prop}
  (k:∀b w' F' L' ρ',St F' L' w'->aC L' ρ' b->b.tmps.size=A.n->b.defers=a.defers->Step F L w F' L' w'->N F' L' ρ'->Q .normal b w'):c.wp P Q a w:=by
 refine wp_mono (oG c u y t r s) ?_;intro e b w' h;cases e with
 | normal=>obtain⟨F',L',ρ',l,o,f,p,m,q,d⟩:=h;exact k _ _ _ _ _ l o f p m d
 | exit j=>obtain⟨F',L',ρ',l,o,f,p,m,q,d⟩:=h;exact d.elim
 | ret=>obtain⟨F',L',ρ',l,o,f,p,m,q,d⟩:=h;exact d.elim
 | panic ch =>
  obtain⟨v,_,F',L',z,q2,q3,q4,q5,x⟩:=h;exact x.elim
 | _=>exact h.elim
theorem nL {ρ:Env}{k:Nat}{x:SV}(h:ρ k=x):put (some k) x ρ=ρ:=by
 funext j
 rw[put_eq];simp only[];split
 ·rename_i e;rw[e,h]
 ·rfl
def Fq:cP:={n:=28}
theorem z9 (w:World) :
  CallsD Tryd.prog 84 #[] .returning w fun e c w'=>e=.returned (.tuple #[])/\c=.returning/\w'=w:=by
 have b:Tryd.f84.ntmps=3:=by kernel_rfl
 have f:Tryd.f84.results=#[]:=by kernel_rfl
 refine callsD_of_wpS Tryd.func84 rfl fun a cs d=>?_;apply wpS_seq;apply wpS_region;simp[wpOpsS,go_sem,recoverD,d,b,Exit.thenS];refine wpS_cond (t:=false) (by simp[Act.eval,Array.replicate]) ?_;simp only[W9,Xy];refine wpS_of_wp (wp_skip ?_);cases a
 simp_all [bodyPostS,results]
theorem QA (F:aA) (a:Option Addr) (n c m:Nat) (xs:List Value) (hn:n<=c) (hc:c<n+m) (hm:n+m<=70368744177664) (hx:xs.length=n) (am:bN F a 0 xs\/(n=0/\xs=[])) (h1:∀u∈xs,u.oneCell'=true) :
  CallsA PZ 63 #[.slice a n c,.int .i64 m] F [] (fun _ Lo v=>∃l,iX v n l/\n+m<=l/\Lo=[.row v 5 1 n xs]):=by
 have ca:Tryd.f63.ntmps=28:=by kernel_rfl
 refine⟨⟨_,Tryd.func63,by kernel_rfl,by kernel_rfl⟩,fun _ _ _ _ _ h=>h,fun w hs=>?_⟩
 suffices hall:∀RR:Ending->World->Prop,(∀v F' Lo w',St F' (inp Lo) w'->Step F (inp []) w F' (inp Lo) w'->(∃l,iX v n l/\n+m<=l/\Lo=[.row v 5 1 n xs])->RR (.returned v) w')->Calls Tryd.prog 63 #[.slice a n c,.int .i64 m] w RR from
  hall _ fun v F' Lo w' h1 h2 h3=>⟨v,F',Lo,rfl,h1,h2,h3⟩
 intro RR bj;refine calls_of_wp_defers Tryd.func63 rfl ?_;rw[ca];have bt:=HM (Lin:=[]) [.v (.slice a n c),.v (.int .i64 m)] 28 (Gx [.slice a n c,.int .i64 m]);refine wp_seq (wp_region (mX (A:=Fq) (r:=0) (List.range 1) (ss:=[.op (some 4) (.mov (.c (.slice none 0 0))) none]) (by kernel_rfl) hs bt (by simp[Fq])
  (K:=fun F' L' ρ'=>F'=F/\L'=inp []/\ρ'=put (some 4) (.v (.slice none 0 0)) (rO 0 [.v (.slice a n c),.v (.int .i64 m)])) ⟨rfl,rfl,rfl⟩ ?_))
 rintro a1 w1 ⟨F1,L1,de,bb,z,az,ao,ax,_,rfl,rfl,rfl⟩;simp only[Exit.then];refine wp_seq (wp_region ?_);obtain⟨tm,df⟩:=a1;simp only at az ao;subst ao;have dg:∀w:World,(Instr.makeFunc (.func 84) #[] #[]).run Tryd.prog w=.ok (.func (.func 84) #[] #[]) w:=fun _=>rfl;simp[wpOps,go_sem,Exit.then,Act.eval];refine .inl ?_;have s:aC (inp []) (put (some 4) (.v (.slice none 0 0)) (rO 0 [.v (.slice a n c),.v (.int .i64 m)])) {tmps:=tm,defers:=[{target:=.fn (.func 84) #[],args:=#[]}]}:=⟨z.eq,z.own,z.el⟩;refine wp_seq (piece (A:=Fq) (sc:=Qw) (by kernel_rfl) bb s az (N:=fun F' L' ρ'=>F'=F1/\L'=inp []/\ρ' 5=.v (.int .i64 (n+m:Nat))/\ρ' 0=.v (.slice a n c)) ?_ ?_)
 ·refine Fit.to (m:=((n+m:Nat):Int)) (by rw[bM (by omega) (by omega)];omega) ?_;exact⟨rfl,rfl,rfl,rfl⟩
 rintro a2 w2 F2 L2 be bi s bm bz ac ⟨rfl,rfl,q,p⟩;simp only[Exit.then];rw[<-nL q,<-nL (ρ:=put _ _ be) (k:=0) (x:=.v (.slice a n c)) (by rw[put_eq];simpa using p)] at s;generalize aa:(if n+m<2*c then 2*c else n+m)=M;have cx:n+m<=M/\M<=140737488355328:=by subst aa;split<;>omega
 refine wp_seq (piece (A:=Fq) (sc:=Qx) (by kernel_rfl) bi s bm (N:=fun F' L' ρ'=>F'=F2/\L'=inp []/\ρ' 5=.v (.int .i64 M)/\ρ' 0=.v (.slice a n c)) ?_ ?_)
 ·refine Fit.to (m:=((2*c:Nat):Int)) (by rw[bM (by omega) (by omega)];omega) ?_;refine aV (fun h=>?_) (fun h=>?_)
  ·refine Fit.to (m:=((2*c:Nat):Int)) (by rw[bM (by omega) (by omega)];omega) ?_;exact⟨rfl,rfl,(by rw[<-aa,j3 (by omega)];rfl),rfl⟩
  ·exact⟨rfl,rfl,(by rw[<-aa,vv (by omega)];rfl),rfl⟩
 clear q p
 rintro a3 w3 F3 L3 aE bu ar bd cd ae ⟨rfl,rfl,q,p⟩;simp only[Exit.then];rw[<-nL q,<-nL (ρ:=put _ _ aE) (k:=0) (x:=.v (.slice a n c)) (by rw[put_eq];simpa using p)] at ar;refine wp_seq (piece (A:=Fq) (sc:=Qy) (by kernel_rfl) bu ar bd (N:=fun F' L' ρ'=>F'=F3/\∃ad l,L'=[(21,.row (.slice (some ad) M l) 5 1 M (List.replicate M (.int .u8 0)))]/\ρ' 6=.v (.slice (some ad) M l)/\ρ' 0=.v (.slice a n c)) ?_ ?_)
 ·refine FO.mk ⟨21,0,[],.inr ⟨rfl,rfl,rfl,rfl⟩,by unfold maxLen;omega,by omega,fun v hv=>?_⟩;obtain⟨a',c',rfl,bc⟩:=hv;cases a' with
  | none=>exact vz (bc rfl) (by omega)
  | some ad =>
   rw[Nat.zero_add];exact⟨rfl,ad,c',rfl,rfl,rfl⟩
 clear q p
 rintro a4 w4 F4 L4 bv aw ag bo ce al ⟨rfl,ad,l,rfl,q,p⟩;simp only[Exit.then];obtain⟨cY,cb⟩:=z8 aw (k:=21) rfl;rcases cb with⟨e,_⟩ | ⟨g,e,cy,y⟩
 ·cases e
 injection e with e1 e2 e3
 injection e1 with e1
 subst e1 e3;rw[<-nL q,<-nL (ρ:=put _ _ bv) (k:=0) (x:=.v (.slice a n c)) (by rw[put_eq];simpa using p)] at ag;have bk:aM (List.replicate M (Value.int .u8 0)) (0*1) xs=xs++List.replicate (M-n) (.int .u8 0):=by
  simp[aM,hx]
 refine wp_mono (oG (A:=Fq) _ (sc:=Qz) (by kernel_rfl) aw ag bo (E:=fun _ _ _ _=>False) (N:=fun _ _ _=>False)
  (R:=fun F' L' ρ'=>F'=F4/\L'=[(21,.row (.slice (some ⟨g,0,none⟩) M l) 5 1 M (xs++List.replicate (M-n) (.int .u8 0)))]/\ρ' 4=.v (.slice (some ⟨g,0,none⟩) n l)) ?_) ?_
 ·refine ze.mk (.inl ⟨21,M,_,_,_,⟨g,0,none⟩,l,l,0,n,a,c,xs,rfl,rfl,rfl,by omega,rfl,by rw[Nat.min_eq_left (by omega),hx,Nat.mul_one],?_,h1,?_⟩)
  ·rw[Nat.min_eq_left (by omega)];exact am
  rw[Nat.min_eq_left (by omega),bk];refine mI.mk (by omega) (by omega) (by omega) ?_;exact⟨rfl,rfl,o6 SV.v (K6 (n:=M) (.inr ⟨g,rfl,by omega,y⟩) rfl)⟩
 intro e a5 w5 h;cases e with
 | normal=>obtain⟨F',L',ρ',h1,h2,h3,h4,h5,h6,h7⟩:=h;exact h7.elim
 | exit j=>obtain⟨F',L',ρ',h1,h2,h3,h4,h5,h6,h7⟩:=h;exact h7.elim
 | panic ch =>
  obtain⟨v,_,F',L',q1,q2,q3,q4,q5,q6⟩:=h;exact q6.elim
 | ret =>
  obtain⟨F',L',ρ',ab,ba,co,ay,av,_,rfl,rfl,h4⟩:=h;rw[ce,cd,bz] at ay;show Leaves Tryd.prog Tryd.f63 a5.tmps RR a5.defers .returning w5;rw[ay];refine leaves_cons (f:=84) (args:=#[]) (by simp) (by simp[invoke]) ?_;refine(z9 _).mono ?_;rintro e u' w6 ⟨rfl,rfl,rfl⟩;obtain⟨vs,h5,rfl⟩:=uj (P:=Tryd.prog) (fn:=Tryd.f63) (rs:=[(4,none)]) (K:=fun vs=>vs=[.slice (some ⟨g,0,none⟩) n l]) ab ba (by kernel_rfl) (by
   simp only[kO,h4];rfl)
  obtain⟨ys,y1,y2,y3⟩:=St.reslice (n':=n) ab (k:=21) rfl (by omega);have bp:ys=xs:=by
   apply XB;intro i
   by_cases hi:i<n
   ·rw[y2 i (by omega) (by omega),W8 (by omega)]
   ·rw[Xa (by omega),Xa (by omega)]
  subst bp;refine⟨_,h5,bj _ F' [.row (.slice (some ⟨g,0,none⟩) n l) 5 1 n ys] w6 ?_ ?_ ⟨l,.inr ⟨g,rfl,by omega,y⟩,by omega,rfl⟩⟩
  ·exact y3.handed (ks:=[21]) rfl (by simp)
  ·have d:=(((ax.trans ac).trans ae).trans al).trans av;refine⟨d.le,d.os,d.tape,d.output,d.size,d.same,d.frz,fun b hb=>?_⟩;refine d.own b ?_;obtain⟨k,o,e,hb⟩:=hb;rw[aS] at e;split at e
   case isFalse=>cases e
   rename_i hk;have t:=W5 e;simp only[XF] at t;subst t;exact⟨21,_,rfl,hb⟩
 | _=>exact h.elim
variable {ex:List Value}
theorem CallsA.WR {P:Program}{f:FuncId}{args:Array Value}{F:aA}{v:Value}{t sz n:Nat}{xs:List Value}{R:aA->List Own->Value->Prop}(hent:∃fn,P.funcs[f]?=some fn/\fn.body.isSome=true/\(fn.name == "runtime.NumGoroutine")=false)
  (hmono:∀F G L v,F.le G->R F L v->R G L v) (h:∀F',F.le F'->FQ F' v sz n xs->CallsA P f args F' [] R):CallsA P f args F [.row v t sz n xs] R:=by
 refine⟨hent,hmono,fun w hs=>?_⟩;have he:aC (inp [.row v t sz n xs]) (fun _=>.v undef) {tmps:=#[],defers:=[]}:=⟨fun t=>by simp[conc],fun _ _ _ e=>(by cases e),fun _ _ _ e=>(by cases e)⟩;obtain⟨F',L',k1,k2,k3,k4,k5⟩:=nB (k:=1000) hs he (KK:=fun F' L'=>L'=inp []/\F.le F'/\FQ F' v sz n xs) ⟨v,t,sz,n,xs,rfl,fun F' h1 h2=>⟨rfl,h1,h2⟩⟩;obtain⟨rfl,k5,k6⟩:=(⟨k4,k5⟩:_/\_);refine Calls.mono ((h F' k5 k6).run w k1) ?_;rintro e w' ⟨v,F2,Lo,rfl,h1,h2,h3⟩;exact⟨v,F2,Lo,rfl,h1,k3.trans h2,h3⟩
theorem OU:∃fn,Tryd.prog.funcs[63]?=some fn/\fn.body.isSome=true/\(fn.name == "runtime.NumGoroutine")=false:=⟨_,Tryd.func63,by kernel_rfl,by kernel_rfl⟩
theorem QC (F:aA) (a:Option Addr) (n c m:Nat) (xs:List Value) (d:n<=c) (k:c<n+m) (l:n+m<=70368744177664) (j:xs.length=n) (o:∀u∈xs,u.oneCell'=true) :
  CallsA PZ 63 #[.slice a n c,.int .i64 m] F [.row (.slice a n c) 5 1 n xs] (fun _ Lo v=>∃b,iX v n b/\n+m<=b/\Lo=[.row v 5 1 n xs]):=by
 refine CallsA.WR OU (fun _ _ _ _ _ h=>h) fun F' _ f=>QA F' a n c m xs d k l j ?_ o;rcases f with⟨e,rfl,rfl⟩ | ⟨q,p,e,h,_⟩
 ·exact .inr ⟨rfl,rfl⟩
 ·injection e with e1 _ _
  subst e1;exact .inl h
theorem QD (F:aA) (d tb:Nat) (s:Value) (lr:Int) (n c:Nat) (xs:List Value) (f:iX s n c) :
  CallsA PZ 61 #[.pointer (some ⟨d,0,none⟩)] F (BO ex d tb s lr n xs) (fun _ Lo v=>Lo=BO ex d tb s lr n xs/\v=.int .i64 n):=by
 obtain⟨a,rfl,e,b,j⟩:=f.form;unfold maxLen at b;refine fL (svs:=[.own 1000 0]) rfl Kv rfl rfl (qz (svs:=[])) (fun _ _ _ _ _ h=>h) ?_;refine Fit.to (m:=(n:Int)) (by rw[bM (by omega) (by omega)];omega) ?_;exact⟨[1000,1001],_,rfl,by decide,rfl,rfl⟩
theorem CW {f:Nat}{vs:List Value}{F:aA}{L:Loc}{K:aA->Loc->Value->Prop}{d tb n:Nat}{s:Value}{lr:Int}{xs:List Value}{R:aA->List Own->Value->Prop}(q:L=inp (BO ex d tb s lr n xs)) (h:CallsA PZ f vs.toArray F (BO ex d tb s lr n xs) R)
  (p:∀v F' Lo,F.le F'->R F' Lo v->∃s' b n' a,Lo=BO ex d tb s' b n' a/\K F' (inp (BO ex d tb s' b n' a)) v):cV PZ f vs F L K:=by
 subst q;refine⟨[1000,1001],[1000,1001],_,_,rfl,by decide,by decide,fun k j=>.inl j,h,fun v F' Lo l o=>?_⟩;obtain⟨s',b,n',a,rfl,m⟩:=p v F' Lo l o;refine⟨rfl,fun k g t cs j e=>?_,m⟩;simp only[WZ,List.not_mem_nil,or_false] at j;rcases j with rfl | rfl
 ·have c:(some (Own.box d (tb+1) (s::.int .i64 0::.int .i8 lr::ex)))=some (.box g t cs):=e;injection c with c
  injection c with e1 e2 e3
  subst e1 e2;exact⟨_,rfl⟩
 ·have c:(some (Own.row s 5 1 n xs))=some (.box g t cs):=e;injection c with c
  cases c
theorem HN {F:aA}{L:Loc}{K:aA->Loc->Value->Prop}{a tb n c:Nat}{s:Value}{lr:Int}{xs:List Value}(f:L=inp (BO ex a tb s lr n xs)) (h:iX s n c)
  (e:∀F',F.le F'->K F' (inp (BO ex a tb s lr n xs)) (.int .i64 n)):cV PZ 61 [.pointer (some ⟨a,0,none⟩)] F L K :=
 CW f (QD F a tb s lr n c xs h) fun v F' Lo b d=>⟨s,lr,n,xs,d.1,d.2▸e F' b⟩
theorem CX {F:aA}{L:Loc}{K:aA->Loc->Value->Prop}{b tb n c m:Nat}{s:Value}{lr:Int}{xs:List Value}(o:L=inp (BO ex b tb s lr n xs)) (e:iX s n c) (j:n+m<=140737488355328)
  (k:∀F' s' ys,F.le F'->ys.length=m->iX s' (n+m) c->K F' (inp (BO ex b tb s' lr (n+m) (xs++ys))) (.tuple #[.int .i64 n,.bool true]))
  (h:∀F',F.le F'->c<n+m->K F' (inp (BO ex b tb s lr n xs)) (.tuple #[.int .i64 0,.bool false])):cV PZ 43 [.pointer (some ⟨b,0,none⟩),.int .i64 m] F L K :=
 CW o (Qv F b tb s lr n c m xs e j) fun v F' Lo a f=>by
  rcases f with⟨s',ys,d,l,rfl,rfl⟩ | ⟨d,rfl,rfl⟩
  ·exact⟨_,_,_,_,rfl,k F' s' ys a d l⟩
  ·exact⟨_,_,_,_,rfl,h F' a d⟩
theorem D8 {F:aA}{L:Loc}{K:aA->Loc->Value->Prop}{n c m:Nat}{a:Option Addr}{s:Value}{xs:List Value}(j:iX s n c) (l:L.get 1001=some (.row s 5 1 n xs)) (w:c<n+m) (x:n+m<=70368744177664) (o:xs.length=n) (z:∀u∈xs,u.oneCell'=true) (r:s=.slice a n c)
  (kk:∀b F' d,F.le F'->iX (.slice b n d) n d->n+m<=d->K F' (L.set 1001 (.row (.slice b n d) 5 1 n xs)) (.slice b n d)):CallXDPt PZ (fun _ _ _=>False) [] 63 [fu a c 0 n 1,.int .i64 m] F L K:=by
 subst r;obtain⟨_,_,p,_⟩:=j.form;rw[K6 j rfl];refine⟨[1001],[.row (.slice a n c) 5 1 n xs],_,fun _ _ _=>False,by simp only[Loc.sub,l],by simp,by simp,((QC F a n c m xs (by omega) w x o z).toX (Pp:=fun _=>False)).toS,fun v F' L' Lo _ _ _ h=>h.elim,fun v F' Lo k q=>?_⟩;obtain⟨d,f,y,rfl⟩:=q;obtain⟨b,rfl,_⟩:=f.form;refine⟨rfl,fun i g t cs e=>?_,fun _=>kk b F' d k f y⟩;cases i with
 | zero=>injection e with e;cases e
 | succ i=>cases e
theorem LZ {L:Loc}{ss:List ak}(h:(ss.all fun s=>(rV s).isNone)=true):∀s∈ss,∀k,rV s=some k->L.get k=none:=by
 intro s a k e;have:=Xb.1 h s a;rw[e] at this;cases this
def L5 (ex:List Value) (b tb:Nat) (lr:Int) (n m:Nat) (xs:List Value):aA->List Own->Value->Prop:=fun _ Lo v =>
 ∃s' a ys,ys.length=m/\iX s' (n+m) a/\Lo=BO ex b tb s' lr (n+m) (xs++ys)/\v=.int .i64 n
def Raw (ex:List Value) (b tb:Nat) (lr:Int) (n m:Nat) (xs:List Value) (Lo:List Own):Prop :=
 ∃a c,iX (.slice a n c) n c/\n+m<=c/\Lo=[.box b (tb+1) (fu a c 0 (n+m) 1::.int .i64 0::.int .i8 lr::ex),.row (.slice a n c) 5 1 n xs]
theorem HO {j tb n m:Nat}{lr:Int}{xs:List Value}{Lo:List Own}{F:aA}{w:World}(h:Raw ex j tb lr n m xs Lo) (d:St F (inp Lo) w) :
  ∃Lo',St F (inp Lo') w/\(∀b,(inp Lo').owns b->(inp Lo).owns b)/\∃s' t ys,ys.length=m/\iX s' (n+m) t/\Lo'=BO ex j tb s' lr (n+m) (xs++ys):=by
 obtain⟨a,c,r,f,rfl⟩:=h;rw[K6 r rfl] at d ⊢;rcases r with⟨e,rfl,rfl⟩ | ⟨g,e,z,y⟩
 ·injection e with e1 _ _
  subst e1;have:m=0:=by omega
  subst this;exact⟨_,d,fun b h=>h,.slice none 0 0,0,[],rfl,.inl ⟨rfl,rfl,rfl⟩,by simp[BO]⟩
 ·injection e with e1 _ _
  subst e1;have q:(inp [.box j (tb+1) (.slice (some ⟨g,0,none⟩) (n+m) c::.int .i64 0::.int .i8 lr::ex),.row (.slice (some ⟨g,0,none⟩) n c) 5 1 n xs]).get 1001=some (.row (.slice (some ⟨g,0,none⟩) n c) 5 1 n xs):=rfl;have p:xs.length=n:=by
   have:=(d.own _ _ q).1;simpa using this
  obtain⟨ys,x,s,v⟩:=St.reslice d q f;have l:ys=xs++ys.drop n:=by
   apply XB;intro i
   by_cases hi:i<n
   ·rw[s i (by omega) (by omega),W8 (by omega)]
   ·rw[Xe (by omega),Xu,p];congr 1;omega
  refine⟨BO ex j tb (.slice (some ⟨g,0,none⟩) (n+m) c) lr (n+m) ys,v,fun b hb=>?_,_,c,ys.drop n,by rw[XM,x];omega,.inr ⟨g,rfl,f,y⟩,by rw[<-l]⟩;obtain⟨k,o,e,hb⟩:=hb;rw[HL] at e;simp only[Loc.get] at e;split at e
  ·rename_i u;injection e with e;subst e
   exact⟨1000,_,rfl,hb⟩
  ·split at e
   ·injection e with e;subst e
    exact⟨1001,_,rfl,hb⟩
   ·cases e
theorem L5.WJ {f c tb n m:Nat}{lr:Int}{xs:List Value}{args:Array Value}{F:aA}{Lin:List Own}(h:CallsA PZ f args F Lin (fun F' Lo v=>L5 ex c tb lr n m xs F' Lo v\/(Raw ex c tb lr n m xs Lo/\v=.int .i64 n))):CallsA PZ f args F Lin (L5 ex c tb lr n m xs):=by
 refine CallsA.WJ h (fun _ _ _ _ _ h=>h) ?_;rintro F' Lo v w' a (h | ⟨h,rfl⟩)
 ·exact⟨Lo,a,fun b h=>h,h⟩
 ·obtain⟨Lo',l,k,s',j,ys,e,d,rfl⟩:=HO h a;exact⟨_,l,k,s',j,ys,e,d,rfl,rfl⟩
set_option maxHeartbeats 1000000 in
theorem QE (F:aA) (e tb:Nat) (lr:Int) (m:Nat) (r:m<=70368744177664) :
  CallsA PZ 44 #[.pointer (some ⟨e,0,none⟩),.int .i64 m] F (BO ex e tb (.slice none 0 0) lr 0 []) (L5 ex e tb lr 0 m []):=by
 have a:iX (.slice none 0 0) 0 0:=.inl ⟨rfl,rfl,rfl⟩;refine L5.WJ ?_;refine fL (svs:=[.own 1000 0,.v (.int .i64 m)]) rfl DF rfl rfl (qz (svs:=[.int .i64 m])) (fun _ _ _ _ _ h=>h) ?_;refine HN rfl a fun F1 p=>?_;refine CX rfl a (by omega) (fun F2 s' ys c l d=>?_) (fun F2 c q=>?_)
 ·exact⟨[1000,1001],_,rfl,by decide,.inl ⟨s',0,ys,l,d,rfl,rfl⟩⟩
 refine aV (fun h=>?_) (fun h=>?_)
 ·refine sP.mk (by omega) (by omega) (by decide) (by decide) fun g=>?_;exact⟨[1000,41],_,rfl,by decide,.inl ⟨.slice (some ⟨g,0,none⟩) m 64,64,(List.replicate m [Value.int .u8 0]).flatten,by simp,.inr ⟨g,by rw[Nat.zero_add m],by omega,by decide⟩,by rw[Nat.zero_add m];rfl,rfl⟩⟩
 refine mS.mk (by omega) ?_;refine Fit.to (m:=0) (by decide) ?_;refine Fit.to (m:=0) (by decide) ?_;refine aV (fun d=>?_) (fun d=>?_)
 ·omega
 refine Fit.to (m:=9223372036854775807) (by decide) ?_;refine Fit.to (m:=9223372036854775807-m) (by rw[bM (by omega) (by omega)]) ?_;refine aV (fun j=>?_) (fun j=>?_)
 ·omega
 refine⟨LZ (by kernel_rfl),?_⟩;refine⟨_,rfl,⟨_,rfl,⟨_,rfl,⟨_,rfl,⟨_,rfl,⟨_,rfl,⟨_,rfl,⟨_,rfl,⟨_,rfl,⟨_,rfl,?_⟩⟩⟩⟩⟩⟩⟩⟩⟩⟩;refine mI.mk (by omega) (by omega) (by omega) ?_;refine⟨_,rfl,⟨_,rfl,⟨_,rfl,⟨_,rfl,⟨_,rfl,⟨_,rfl,?_⟩⟩⟩⟩⟩⟩;refine Fit.to (m:=(m:Int)) (by rw[bM (by omega) (by omega)];omega) ?_;refine D8 a rfl (by omega) (by omega) rfl (by simp) rfl fun b F3 n f k o=>?_;refine⟨_,rfl,⟨_,rfl,⟨_,rfl,?_⟩⟩⟩;refine Fit.to (m:=((0+m:Nat):Int)) (by rw[bM (by omega) (by omega)];omega) ?_;refine mI.mk (by omega) (by omega) (by omega) ?_;exact⟨[1000,1001],_,rfl,by decide,.inr ⟨⟨b,n,k,by omega,rfl⟩,rfl⟩⟩
theorem QF (F:aA) (k tb g:Nat) (lr:Int) (n c m:Nat) (xs:List Value) (o:n<=c) (a:c<=maxLen) (hm:n+m<=70368744177664) (s:xs.length=n) (e:∀u∈xs,u.oneCell'=true) :
  CallsA PZ 44 #[.pointer (some ⟨k,0,none⟩),.int .i64 m] F (BO ex k tb (.slice (some ⟨g,0,none⟩) n c) lr n xs) (L5 ex k tb lr n m xs):=by
 have d:iX (.slice (some ⟨g,0,none⟩) n c) n c:=.inr ⟨g,rfl,o,a⟩;refine L5.WJ ?_;refine fL (svs:=[.own 1000 0,.v (.int .i64 m)]) rfl DF rfl rfl (qz (svs:=[.int .i64 m])) (fun _ _ _ _ _ h=>h) ?_;refine HN rfl d fun F1 x=>?_;refine aV (fun y=>?_) (fun y=>?_) <;>
 ·refine CX rfl d (by omega) (fun F2 s' ys f e j=>?_) (fun F2 f z=>?_)
  ·exact⟨[1000,1001],_,rfl,by decide,.inl ⟨s',c,ys,e,j,rfl,rfl⟩⟩
  have l:c<=9223372036854775807:=a;refine mS.mk (by omega) ?_;refine Fit.to (m:=((c / 2:Nat):Int)) (by rw[show((c:Int).tdiv 2)=((c / 2:Nat):Int) from rfl,bM (by omega) (by omega)]) ?_;refine Fit.to (m:=((c / 2:Nat):Int)-n) (by rw[bM (by omega) (by omega)]) ?_;refine aV (fun j=>?_) (fun j=>?_)
  ·omega
  refine Fit.to (m:=9223372036854775807-c) (by rw[bM (by omega) (by omega)]) ?_;refine Fit.to (m:=9223372036854775807-c-m) (by rw[bM (by omega) (by omega)]) ?_;refine aV (fun q=>?_) (fun q=>?_)
  ·omega
  refine⟨LZ (by kernel_rfl),?_⟩;refine⟨_,rfl,⟨_,rfl,⟨_,rfl,⟨_,rfl,⟨_,rfl,⟨_,rfl,⟨_,rfl,⟨_,rfl,⟨_,rfl,⟨_,rfl,?_⟩⟩⟩⟩⟩⟩⟩⟩⟩⟩;refine mI.mk (by omega) (by omega) (by omega) ?_;refine⟨_,rfl,⟨_,rfl,⟨_,rfl,⟨_,rfl,⟨_,rfl,⟨_,rfl,?_⟩⟩⟩⟩⟩⟩;refine Fit.to (m:=(m:Int)) (by rw[bM (by omega) (by omega)];omega) ?_;refine D8 d rfl (by omega) (by omega) s e rfl fun b F3 t p r w=>?_;refine⟨_,rfl,⟨_,rfl,⟨_,rfl,?_⟩⟩⟩;refine Fit.to (m:=((n+m:Nat):Int)) (by rw[bM (by omega) (by omega)];omega) ?_;refine mI.mk (by omega) (by omega) (by omega) ?_;exact⟨[1000,1001],_,rfl,by decide,.inr ⟨⟨b,t,r,by omega,rfl⟩,rfl⟩⟩
theorem QG (F:aA) (a tb:Nat) (s:Value) (lr:Int) (n c m:Nat) (xs:List Value) (j:iX s n c) (d:n+m<=70368744177664) (b:xs.length=n) (e:∀u∈xs,u.oneCell'=true) :
  CallsA PZ 44 #[.pointer (some ⟨a,0,none⟩),.int .i64 m] F (BO ex a tb s lr n xs) (L5 ex a tb lr n m xs):=by
 rcases j with⟨rfl,rfl,rfl⟩ | ⟨g,rfl,h,f⟩
 ·obtain rfl:xs=[]:=Xp b;exact QE F a tb lr m (by omega)
 ·exact QF F a tb g lr n c m xs h f d b e
variable {ex:List Value}
theorem iX.some {a:Option Addr}{n c:Nat}(h:iX (.slice a n c) n c) (b:0<n):∃g,a=.some ⟨g,0,none⟩:=by
 rcases h with⟨_,rfl,_⟩ | ⟨g,e,_⟩
 ·omega
 ·injection e with e
  exact⟨g,e⟩
theorem D9 {F:aA}{L:Loc}{K:aA->Loc->Value->Prop}{b tb n c m:Nat}{s:Value}{lr:Int}{xs:List Value}(t:L=inp (BO ex b tb s lr n xs)) (j:iX s n c) (p:n+m<=140737488355328) (k:0<n+m)
  (r:∀F' g d ys,F.le F'->ys.length=m->n+m<=d->d<=maxLen->K F' (inp (BO ex b tb (.slice (some ⟨g,0,none⟩) (n+m) d) lr (n+m) (xs++ys))) (.tuple #[.int .i64 n,.bool true]))
  (l:∀F',F.le F'->c<n+m->K F' (inp (BO ex b tb s lr n xs)) (.tuple #[.int .i64 0,.bool false])):cV PZ 43 [.pointer (some ⟨b,0,none⟩),.int .i64 m] F L K :=
 CX t j p (fun F' s' ys h o e=>by
  obtain⟨a,rfl,f,q,_⟩:=e.form;obtain⟨g,rfl⟩:=e.some k;exact r F' g c ys h o f q) l
theorem Ea {F:aA}{L:Loc}{K:aA->Loc->Value->Prop}{d tb n c m:Nat}{s:Value}{lr:Int}{xs:List Value}(x:L=inp (BO ex d tb s lr n xs)) (k:iX s n c) (q:n+m<=70368744177664) (l:xs.length=n) (r:∀u∈xs,u.oneCell'=true) (o:0<n+m)
  (w:∀F' g b ys,F.le F'->ys.length=m->n+m<=b->b<=maxLen->K F' (inp (BO ex d tb (.slice (some ⟨g,0,none⟩) (n+m) b) lr (n+m) (xs++ys))) (.int .i64 n)):cV PZ 44 [.pointer (some ⟨d,0,none⟩),.int .i64 m] F L K :=
 CW x (QG F d tb s lr n c m xs k q l r) fun v F' Lo h p=>by
  obtain⟨s',b,ys,f,e,rfl,rfl⟩:=p;obtain⟨a,rfl,t,j,_⟩:=e.form;obtain⟨g,rfl⟩:=e.some o;exact⟨_,_,_,_,rfl,w F' g b ys h f t j⟩
def RW (ex:List Value) (b tb n m:Nat) (ys:List Value) (r:Value):aA->List Own->Value->Prop:=fun _ Lo v=>∃s' a,iX s' (n+m) a/\Lo=BO ex b tb s' 0 (n+m) ys/\v=r
theorem wU {xs ys zs:List Value}{n:Nat}(b:xs.length=n) (a:ys.length=zs.length):aM (xs++ys) n zs=xs++zs:=by
 subst b;simp[aM,a]
theorem HS {F:aA}{L:Loc}{j k:Nat}{K:Loc->Prop}{v:Value}{t m c:Nat}{xs:List Value}{a:Addr}(b:Int) (d:L.get k=some (.row v t 1 m xs)) (e:v=.slice (some a) m c) (f:j+1<=xs.length) (h:K (L.set k (.row v t 1 m (aM xs j [.int .u8 b])))):rM F L (some a) j [.int .u8 b] K :=
 ⟨.inl ⟨k,v,t,1,m,xs,a,c,d,rfl,e,f,fun u l=>by rw[XF.1 l];rfl,h⟩⟩
theorem QH (F:aA) (f tb:Nat) (s:Value) (lr:Int) (n c:Nat) (x:Int) (xs:List Value) (p:iX s n c) (z:n+1<=70368744177664) (j:xs.length=n) (t:∀u∈xs,u.oneCell'=true) :
  CallsA PZ 42 #[.pointer (some ⟨f,0,none⟩),.int .u8 x] F (BO ex f tb s lr n xs) (RW ex f tb n 1 (xs++[.int .u8 x]) .nilIface):=by
 refine fL (svs:=[.own 1000 0,.v (.int .u8 x)]) rfl Ko rfl rfl (qz (svs:=[.int .u8 x])) (fun _ _ _ _ _ h=>h) ?_;have b:∀(g a:Nat) (ys:List Value),ys.length=1->aM (xs++ys) (((n:Int).toNat)*1) [.int .u8 x]=xs++[.int .u8 x]:=fun g a ys d=>by
  rw[Nat.mul_one];exact wU j d
 refine D9 (s:=s) (lr:=0) (m:=1) rfl p (by omega) (by omega) (fun F1 g a ys r d l o=>?_) (fun F1 r y=>?_)
 ·refine C8.mk (fun e=>by cases e) (by omega) (by omega) ?_;refine HS (k:=1001) x rfl rfl (by rw[W4,j,d];omega) ?_;exact⟨[1000,1001],_,rfl,by decide,_,a,.inr ⟨g,rfl,l,o⟩,o6 (fun q=>BO ex f tb (.slice (some ⟨g,0,none⟩) (n+1) a) 0 (n+1) q) (b g a ys d),rfl⟩
 ·refine Ea (s:=s) (lr:=0) (m:=1) rfl p (by omega) j t (by omega) fun F2 g a ys w d l o=>?_;refine C8.mk (fun e=>by cases e) (by omega) (by omega) ?_;refine HS (k:=1001) x rfl rfl (by rw[W4,j,d];omega) ?_;exact⟨[1000,1001],_,rfl,by decide,_,a,.inr ⟨g,rfl,l,o⟩,o6 (fun q=>BO ex f tb (.slice (some ⟨g,0,none⟩) (n+1) a) 0 (n+1) q) (b g a ys d),rfl⟩
theorem K7 {g c n p:Nat}(h:n+p<=c):∃j,j+p<=n+p/\(p≠0->j=n)/\fu (some ⟨g,0,none⟩) c n (n+p) 1=.slice (some ((⟨g,0,none⟩:Addr).add (j*1))) p (c-n):=by
 by_cases e:c=n
 ·refine⟨0,by omega,fun a=>vz (by omega) a,?_⟩;simp only[fu,j3 e,Nat.add_sub_cancel_left];rfl
 ·refine⟨n,Xj _,fun _=>rfl,?_⟩;simp only[fu,vv e,Nat.add_sub_cancel_left,Option.map]
theorem Eb {F:aA}{L:Loc}{K:Loc->Nat->Prop}{g a n p d:Nat}{l h:Nat}{pa:Option Addr}{xs ys news:List Value}(m:L.get 1001=some (.row (.slice (some ⟨g,0,none⟩) (n+p) a) 5 1 (n+p) (xs++ys))) (c:l=n) (o:h=n+p) (t:n+p<=a)
  (r:xs.length=n) (y:ys.length=p) (v:news.length=p) (b:bN F pa 0 news\/(p=0/\news=[])) (w:∀u∈news,u.oneCell'=true)
  (x:K (L.set 1001 (.row (.slice (some ⟨g,0,none⟩) (n+p) a) 5 1 (n+p) (xs++news))) p):ze F L 5 1 (fu (some ⟨g,0,none⟩) a l h 1) (.slice pa p d) K:=by
 subst c o;obtain⟨j,q,k,f⟩:=K7 (g:=g) t;refine⟨.inl ⟨1001,p,_,_,_,⟨g,0,none⟩,a,a-l,j,p,pa,d,news,m,rfl,f,q,rfl,by rw[Nat.min_self,v,Nat.mul_one],by rw[Nat.min_self];exact b,w,?_⟩⟩;rw[Nat.min_self];have e:aM (xs++ys) (j*1) news=xs++news:=by
  rw[Nat.mul_one]
  by_cases s:p=0
  ·obtain rfl:news=[]:=Xp (by omega);obtain rfl:ys=[]:=Xp (by omega);simp[aM]
  ·rw[k s];exact wU r (by omega)
 rw[e];exact x
theorem QI (F:aA) (o tb:Nat) (s:Value) (lr:Int) (n c p k:Nat) (pa:Option Addr) (xs news:List Value) (q:iX s n c) (z:n+p<=70368744177664) (r:0<n+p) (j:xs.length=n) (x:∀u∈xs,u.oneCell'=true)
  (t:news.length=p) (a:bN F pa 0 news\/(p=0/\news=[])) (w:∀u∈news,u.oneCell'=true) :
  CallsA PZ 27 #[.pointer (some ⟨o,0,none⟩),.slice pa p k] F (BO ex o tb s lr n xs) (RW ex o tb n p (xs++news) (.tuple #[.int .i64 p,.nilIface])):=by
 refine fL (svs:=[.own 1000 0,.v (.slice pa p k)]) rfl J9 rfl rfl (qz (svs:=[.slice pa p k])) (fun _ _ _ _ _ h=>h) ?_;refine D9 (s:=s) (lr:=0) rfl q (by omega) r (fun F1 g f ys e d b l=>?_) (fun F1 e y=>?_)
 ·refine mI.mk (by omega) (by omega) (by omega) ?_;refine Eb rfl (by omega) (by omega) b j d t (a.imp (fun h=>h.mono e) id) w ?_;exact⟨[1000,1001],_,rfl,by decide,_,f,.inr ⟨g,rfl,b,l⟩,rfl,rfl⟩
 ·refine Ea (s:=s) (lr:=0) rfl q (by omega) j x r fun F2 g f ys m d b l=>?_;refine mI.mk (by omega) (by omega) (by omega) ?_;refine Eb rfl (by omega) (by omega) b j d t (a.imp (fun h=>(h.mono e).mono m) id) w ?_;exact⟨[1000,1001],_,rfl,by decide,_,f,.inr ⟨g,rfl,b,l⟩,rfl,rfl⟩
def HT (t:Nat) (a:List C) (bs:List UInt8):List TO:=[.box t (.rw 1001::IC 0::.int .i8 0::a),.row 5 1 (af bs)]
theorem OV {F:aA}{Li:List Own}{t:Nat}{j:List C}{bs:List UInt8}(hl:Li.length=(HT t j bs).length) (h:cO F (inp Li) (iN (HT t j bs))) :
  ∃k tb s ex,Li=BO ex k tb s 0 bs.length (dA bs)/\tyOk t k (tb+1)/\bs.length<=maxLen/\aB F (inp Li) j ex:=by
 match Li,hl with
 | [f,d],_ =>
  have x:cN F (inp [f,d]) (.box t (.rw 1001::IC 0::.int .i8 0::j)) f:=h 1000;have z:cN F (inp [f,d]) (.row 5 1 (af bs)) d:=h 1001;cases f with
  | row=>exact x.elim
  | box k tb us =>
   cases d with
   | box=>exact z.elim
   | row v w b n xs =>
    obtain⟨rfl,rfl,hn,⟨hm,a,c,rfl,hc⟩,hr⟩:=z;have hx:=lB hr;subst hx;have l:n=bs.length:=by rw[hn];simp[af]
    subst l;obtain⟨ht,y⟩:=x;obtain⟨tb,rfl⟩:∃m,tb=m+1:=Nat.exists_eq_succ_of_ne_zero ht.2.2;simp only[aB,Rel] at y;obtain⟨v1,_,rfl,o,v2,_,rfl,r,v3,ex,rfl,u,q⟩:=y;obtain⟨a',c',w,b,n',p,_,hg⟩:=o;have e:some (Own.row (.slice a bs.length c) 5 1 bs.length (dA bs))=some (.row v1 w b n' p):=hg;injection e with e
    injection e with e1
    subst e1;obtain⟨rfl,_⟩:=r;obtain⟨rfl,_⟩:=u;exact⟨k,tb,_,ex,rfl,ht,hm,q⟩
theorem OW {F:aA}{t d tb c:Nat}{s:Value}{f:List C}{ex:List Value}{bs:List UInt8}(b:aB F (inp (BO ex d tb s 0 bs.length (dA bs))) f ex) (m:tyOk t d (tb+1)) (n:iX s bs.length c) (l:bs.length<=maxLen):cO F (inp (BO ex d tb s 0 bs.length (dA bs))) (iN (HT t f bs)):=by
 obtain⟨a,rfl,p,r,h⟩:=n.form;intro k;rw[bZ,aS];split
 case isFalse=>trivial
 rename_i o
 match q:k-1000 with
 | 0 =>
  refine⟨m,?_⟩;simp only[aB,Rel];exact⟨_,_,rfl,⟨a,c,5,1,bs.length,dA bs,rfl,rfl⟩,_,_,rfl,⟨rfl,by decide⟩,_,_,rfl,⟨rfl,by decide⟩,b⟩
 | 1=>exact⟨rfl,rfl,by simp[af],⟨l,a,c,rfl,fun e=>(h e).1⟩,oN bs⟩
 | j+2=>trivial
theorem CallsA.WV {P:Program}{f:FuncId}{args:Array Value}{F:aA}{Lin:List Own}{R:aA->List Own->Value->Prop}(hent:∃fn,P.funcs[f]?=some fn/\fn.body.isSome=true/\(fn.name == "runtime.NumGoroutine")=false)
  (hmono:∀F G L v,F.le G->R F L v->R G L v) (h:∀w,St F (inp Lin) w->CallsA P f args F Lin R):CallsA P f args F Lin R:=⟨hent,hmono,fun w hs=>(h w hs).run w hs⟩
theorem CallsA.to {P:Program}{f:FuncId}{args:Array Value}{F:aA}{Lin:List Own}{R R':aA->List Own->Value->Prop}(h:CallsA P f args F Lin R)
  (a:∀F G L v,F.le G->R' F L v->R' G L v) (b:∀F L v,R F L v->R' F L v):CallsA P f args F Lin R':=⟨h.ent,a,fun w l=>(h.run w l).mono fun e w' ⟨v,F',Lo,d,j,c,k⟩=>⟨v,F',Lo,d,j,c,b _ _ _ k⟩⟩
theorem Sd {f t:Nat}{args:List C}{ec:List C}{bs:List UInt8}{ys:List UInt8}{r:C}(hp:dF ec=true) (hent:∃fn,Tryd.prog.funcs[f]?=some fn/\fn.body.isSome=true/\(fn.name == "runtime.NumGoroutine")=false)
  (hm:bs.length+ys.length<=70368744177664) (rv:Value) (hr:∀F L,Rel F L r rv)
  (h:∀F gb tb s c ex vs,iX s bs.length c->aB F (inp (BO ex gb tb s 0 bs.length (dA bs))) args vs->CallsA PZ f vs.toArray F (BO ex gb tb s 0 bs.length (dA bs)) (RW ex gb tb bs.length ys.length (dA bs++dA ys) rv)) :
  CallsT PZ f args (HT t ec bs) (iF (HT t ec (bs++ys)) r):=by
 refine⟨fun F Li vs h1 h2 h3=>?_⟩;obtain⟨gb,tb,s,ex,rfl,ht,hm0,hex⟩:=OV h1 h2;refine CallsA.WV hent gk.Wr fun w hs=>?_;obtain⟨c,hrv⟩:=z8 hs (k:=1001) rfl;have hA:=h F gb tb s c ex vs hrv h3;refine⟨hA.ent,gk.Wr,fun w hs=>(hA.run w hs).mono ?_⟩;rintro e w' ⟨v,F',Lo,h1,h2,h3,s',c',hs',rfl,rfl⟩;refine⟨_,F',_,h1,h2,h3,?_⟩;have hl:(bs++ys).length=bs.length+ys.length:=W4;rw[<-Fp,<-hl];rw[<-hl] at hs';refine⟨HT t ec (bs++ys),r,rfl,OW (dU hp (hex.mono h3.le)) ht hs' (by rw[hl];simp only[maxLen];omega),hr _ _,fun i g t0 cs e=>?_,rfl,rfl⟩
 match i with
 | 0 =>
  injection e with e
  injection e with e1 e2 e3
  subst e1 e2;exact⟨_,rfl⟩
 | 1=>injection e with e;cases e
 | i+2=>cases e
theorem OX:∃fn,Tryd.prog.funcs[42]?=some fn/\fn.body.isSome=true/\(fn.name == "runtime.NumGoroutine")=false:=⟨_,Tryd.func42,by kernel_rfl,by kernel_rfl⟩
theorem OY:∃fn,Tryd.prog.funcs[27]?=some fn/\fn.body.isSome=true/\(fn.name == "runtime.NumGoroutine")=false:=⟨_,Tryd.func27,by kernel_rfl,by kernel_rfl⟩
theorem Ec {F:aA}{b tb:Nat}{s:Value}{n:Nat}{xs ex:List Value}{v:Value}(h:Rel F (inp (BO ex b tb s 0 n xs)) (.own 1000 0) v):v=.pointer (some ⟨b,0,none⟩):=by
 simp only[Rel] at h;obtain⟨g,t,cs,e,rfl⟩:=h;have a:some (Own.box b (tb+1) (s::.int .i64 0::.int .i8 0::ex))=some (.box g t cs):=e;injection a with a
 injection a with e1
 rw[e1]
theorem Fs (t:Nat) (b:List C) (a:dF b=true) (bs:List UInt8) (x:UInt8) (e:bs.length+1<=70368744177664) :
  CallsT PZ 42 [.own 1000 0,.int .u8 x.toNat] (HT t b bs) (iF (HT t b (bs++[x])) (.opq 0)):=by
 refine Sd (ys:=[x]) a OX e .nilIface (fun _ _=>za) fun F k tb s c ex vs j d=>?_;simp only[aB] at d;obtain⟨v1,_,rfl,h,l,_,rfl,f,rfl⟩:=d;rw[Ec h];simp only[Rel] at f;rw[f.1];exact QH F k tb s 0 bs.length c x.toNat (dA bs) j e (nK bs) (mC bs)
theorem OZ (t:Nat) (d:List C) (b:dF d=true) (bs ys:List UInt8) (f:bs.length+ys.length<=70368744177664) (j:0<bs.length+ys.length) :
  CallsT PZ 27 [.own 1000 0,.sl (af ys)] (HT t d bs) (iF (HT t d (bs++ys)) (.tup [IC ys.length,.opq 0])):=by
 refine Sd b OY f (.tuple #[.int .i64 ys.length,.nilIface]) (fun F L=>?_) fun F o tb s c ex vs n e=>?_
 ·simp only[Rel,aB];exact⟨[_,_],rfl,_,_,rfl,⟨rfl,by simp[Lit.wf,IntKind.min,IntKind.max,IntKind.signed,IntKind.bits];omega⟩,_,_,rfl,za,rfl⟩
 simp only[aB] at e;obtain⟨v1,_,rfl,l,p,_,rfl,m,rfl⟩:=e;rw[Ec l];obtain⟨a,k,rfl,_,_,h⟩:=wT m;exact QI F o tb s 0 bs.length c ys.length k a (dA bs) (dA ys) n f j (nK bs) (mC bs) (nK ys) h (mC ys)
end Go.Fr.Tryd
