/- Part of the proofs of the statements of this seat. -/
import Derived.Test.YtnlegbokpofcaaaDoorFW3
import Derived.Test.YtnlegbokpofcaaaDoorSnCode
set_option maxRecDepth 10000
set_option linter.unusedVariables false
set_option linter.unusedSimpArgs false
namespace Go.Fr.Tryd
open Go Go.RowKit Go.Proofs Go.Fr Go.Fr.T Go.Fr.Api
noncomputable abbrev PZ:Program:=Tryd.prog
def eS:Value:=.iface 98 (.agg #[])
inductive Vl where
 | mk (kind id variant n:Int) (fields:List Vl) (excl:Bool) (path loans:List Int)
structure Ce where
 live:Bool
 arena:Int
 value:Vl
structure Ac where
 number:Int
 routine:Int
 block:Int
 index:Int
 dst:Int
 slots:List Vl
 since:List Int
structure Ln where
 frame:Int
 slot:Int
 excl:Bool
 re:Bool
 over:Bool
structure Tk where
 state:Int
 frames:List Ac
 loans:List Ln
 allocs:Int
 clock:Int
 next:Int
 cells:List Int
structure Ou where
 task:Int
 number:Int
structure Wd where
 cells:List Ce
 arenas:List Bool
 tasks:List Tk
 channels:List (List Vl)
 outputs:List Ou
 made:Int
 dropped:Int
 closed:Int
mutual
def rE:Vl->List C
 | .mk k i v n f e p l=>[IC k,IC i,IC v,IC n,.sl (K5 f),.bool e,.sl (wL p),.sl (wL l)]
def K5:List Vl->List (List C)
 | []=>[]
 | x::xs=>rE x::K5 xs
end
theorem sH:∀l:List Vl,K5 l=l.map rE
 | []=>rfl
 | x::xs=>by rw[K5,sH xs];rfl
def D7 (x:Ce):List C:=.bool x.live::IC x.arena::rE x.value
def LX (l:List Vl):List C:=[.sl (l.map rE)]
def FL (x:Ac):List C:=[IC x.number,IC x.routine,IC x.block,IC x.index,IC x.dst,.sl (x.slots.map rE),.sl (wL x.since)]
def Iu (x:Ln):List C:=[IC x.frame,IC x.slot,.bool x.excl,.bool x.re,.bool x.over]
def D8 (x:Tk):List C:=[IC x.state,.sl (x.frames.map FL),.sl (x.loans.map Iu),IC x.allocs,IC x.clock,IC x.next,.sl (wL x.cells)]
def LY (x:Ou):List C:=[IC x.task,IC x.number]
def HL (b:Bool):List C:=[.bool b]
def N9 (x:Wd):List C:=[.sl (x.cells.map D7),.sl (x.arenas.map HL),.sl (x.tasks.map D8),.sl (x.channels.map LX),.sl (x.outputs.map LY),IC x.made,IC x.dropped,IC x.closed]
theorem aK {bs:List UInt8}:(af bs).length=bs.length:=by simp[af]
theorem fA {bs:List UInt8}:∀es∈af bs,es.length=1:=by
 intro es h;simp only[af,Xz] at h;obtain⟨b,_,rfl⟩:=h;rfl
theorem gq (bs:List UInt8) (n m:Nat):((af bs).drop n).take m=af ((bs.drop n).take m):=by simp[af]
theorem Fit.to {k:IntKind}{n m:Int}{K:Int->Prop}(h:k.wrap n=m) (a:K m):Fit k n K:=⟨by rw[h];exact a⟩
theorem bM {n:Int}(a:-9223372036854775808<=n) (b:n<=9223372036854775807):IntKind.wrap .i64 n=n:=by
 simp only[IntKind.wrap,IntKind.bits,IntKind.signed,XY,XQ,ge_iff_le,Nat.reduceSub,Int.reducePow];split<;>omega
theorem qA {bs:List UInt8}{els:List (List C)}{K:Prop}(n:Nat) (a:els.length=n) (h:n+bs.length<=140737488355328) (k:K):rj els (af bs) 1 1 K :=
 ⟨fA,by rw[aK,a];simp only[maxLen];omega,by rw[aK,a];omega,k⟩
theorem tM {L L1:TL}{k t sz:Nat}(h:L.get k=none) (a:L1.get k=some (.row t sz [])):Iq L L1 .nils (.rw k):=.inr (.inr (.inr (.inl ⟨rfl,k,t,sz,rfl,h,a⟩)))
theorem OV {L:TL}{K:TL->Prop}(h:K L):fT L K:=by rw[eB];exact h
abbrev Dec (a:Type):=List UInt8->Option (a×List UInt8)
def bound:Int:=1099511627776
def takeD (n:Int):Dec (List UInt8):=fun l=>if 0<=n/\n<=l.length then some (l.take n.toNat,l.drop n.toNat) else none
def LZ (z:Nat):Int:=if z % 2=0 then((z / 2:Nat):Int) else -((z / 2:Nat):Int)-1
def mC:Nat->Nat->Nat->Dec Int
 | 0,_,_,_=>none
 | _+1,_,_,[]=>none
 | f+1,k,z,c::r=>if c.toNat<128 then(if 0<c.toNat\/k=0 then some (LZ (z+c.toNat*128 ^ k),r) else none)
  else mC f (k+1) (z+(c.toNat-128)*128 ^ k) r
def getD:Dec Int:=mC 6 0 0
def ga:Dec Int:=fun l=>match getD l with
 | some (n,r)=>if -bound<=n/\n<=bound then some (n,r) else none
 | none=>none
def CU:Dec Nat:=fun l=>match getD l with
 | some (n,r)=>if 0<=n/\n<=100000/\n<=r.length then some (n.toNat,r) else none
 | none=>none
def oU:Dec Bool:=fun l=>match ga l with
 | some (n,r)=>if n=0\/n=1 then some (decide (n=1),r) else none
 | none=>none
def bA {a:Type}(f:Dec a):Nat->Dec (List a)
 | 0,l=>some ([],l)
 | n+1,l=>match f l with
  | some (x,r)=>match bA f n r with
   | some (xs,r)=>some (x::xs,r)
   | none=>none
  | none=>none
def fK {a b:Type}(f:Dec a) (k:a->Dec b):Dec b:=fun l=>match f l with
 | none=>none
 | some (x,r)=>k x r
theorem aR {a b:Type}{f:Dec a}{k:a->Dec b}{l:List UInt8}(h:f l=none):fK f k l=none:=by simp only[fK,h]
theorem aj {a b:Type}{f:Dec a}{k:a->Dec b}{l r:List UInt8}{x:a}(h:f l=some (x,r)):fK f k l=k x r:=by simp only[fK,h]
def wR {a:Type}(x:a):Dec a:=fun l=>some (x,l)
def dz {a:Type}(f:Dec a):Dec (List a):=fK CU fun n=>bA f n
def K6:Nat->Dec Vl
 | 0=>fun _=>none
 | d+1=>fK (bA ga 4) fun a=>fK (dz (K6 d)) fun f=>fK (bA oU 1) fun e=>fK (dz ga) fun p=>fK (dz ga) fun l=>wR (.mk (a.getD 0 0) (a.getD 1 0) (a.getD 2 0) (a.getD 3 0) f (e.getD 0 false) p l)
def HM:Dec Vl:=K6 60
def Oa:Dec Ce:=fK (bA oU 1) fun b=>fK (bA ga 1) fun a=>fK HM fun v=>wR ⟨b.getD 0 false,a.getD 0 0,v⟩
def PU:Dec (List Vl):=dz HM
def Ob:Dec Ac:=fK (bA ga 5) fun a=>fK PU fun s=>fK (dz ga) fun c=>wR ⟨a.getD 0 0,a.getD 1 0,a.getD 2 0,a.getD 3 0,a.getD 4 0,s,c⟩
def OW:Dec Ln:=fK (bA ga 2) fun a=>fK (bA oU 3) fun b=>wR ⟨a.getD 0 0,a.getD 1 0,b.getD 0 false,b.getD 1 false,b.getD 2 false⟩
def L5:Dec Tk:=fK (bA ga 1) fun s=>fK (dz Ob) fun f=>fK (dz OW) fun l=>fK (bA ga 3) fun a=>fK (dz ga) fun c=>wR ⟨s.getD 0 0,f,l,a.getD 0 0,a.getD 1 0,a.getD 2 0,c⟩
def Qp:Dec Ou:=fK (bA ga 2) fun a=>wR ⟨a.getD 0 0,a.getD 1 0⟩
def Qq:Dec Bool:=fK (bA oU 1) fun b=>wR (b.getD 0 false)
def D9:Dec Wd:=fK (dz Oa) fun c=>fK (dz Qq) fun a=>fK (dz L5) fun t=>fK (dz PU) fun h=>fK (dz Qp) fun o=>fK (bA ga 3) fun m=>wR ⟨c,a,t,h,o,m.getD 0 0,m.getD 1 0,m.getD 2 0⟩
theorem yT {n:Int}{bs:List UInt8}(h:0<=n) (k:n<=bs.length):takeD n bs=some (bs.take n.toNat,bs.drop n.toNat):=by simp[takeD,h,k]
abbrev Enc:=List UInt8×Bool
def Oc:Enc:=([],true)
def z7 (b:Bool):Enc:=([],b)
def bn (a b:Enc):Enc:=(a.1++b.1,a.2&&b.2)
def bQ (z:Nat):List UInt8:=if h:z<128 then[UInt8.ofNat z] else UInt8.ofNat (128+z % 128)::bQ (z / 128)
termination_by z
decreasing_by omega
def zz (n:Int):Nat:=if n<0 then(-2*n-1).toNat else(2*n).toNat
def aX {a:Type}(f:a->Enc):List a->Enc
 | []=>Oc
 | x::l=>bn (f x) (aX f l)
structure Kd where
 t:Nat
 tb:Nat
 num:Int->Enc
 siz:Int->Enc
 deep:Bool
def Cd (n:Int):List UInt8:=(List.range 8).map fun k=>UInt8.ofNat ((n.fdiv (2 ^ (8*k))).emod 256).toNat
def kW:Kd:=⟨60,66,fun n=>(bQ (zz n),decide (-1099511627776<=n)&&decide (n<=1099511627776)),fun n=>(bQ (zz n),decide (n<=100000)),false⟩
def kL:Kd:=⟨94,95,fun n=>(Cd n,true),fun n=>(Cd n,true),true⟩
section
variable (k:Kd)
def qb (b:Bool):Enc:=k.num (if b=true then 1 else 0)
def bR {a:Type}(f:a->Enc) (l:List a):Enc:=bn (k.siz l.length) (aX f l)
mutual
def Aq:Vl->Int->Enc
 | .mk a b c n f e p l,d=>bn (z7 (decide (0<d)||k.deep)) (bn (aX k.num [a,b,c,n]) (bn (bn (k.siz f.length) (CV f (d-1))) (bn (aX (qb k) [e]) (bn (bR k k.num p) (bR k k.num l)))))
def CV:List Vl->Int->Enc
 | [],_=>Oc
 | x::xs,d=>bn (Aq x d) (CV xs d)
end
theorem tN (d:Int):∀l:List Vl,CV k l d=aX (fun x=>Aq k x d) l
 | []=>rfl
 | x::xs=>by rw[CV,tN d xs];rfl
def yU (v:Vl):Enc:=Aq k v 60
def Qr (x:Ce):Enc:=bn (aX (qb k) [x.live]) (bn (aX k.num [x.arena]) (yU k x.value))
def PV (l:List Vl):Enc:=bR k (yU k) l
def Qs (x:Ac):Enc:=bn (aX k.num [x.number,x.routine,x.block,x.index,x.dst]) (bn (PV k x.slots) (bR k k.num x.since))
def Qt (x:Ln):Enc:=bn (aX k.num [x.frame,x.slot]) (aX (qb k) [x.excl,x.re,x.over])
def Qu (x:Tk):Enc:=bn (aX k.num [x.state]) (bn (bR k (Qs k) x.frames) (bn (bR k (Qt k) x.loans) (bn (aX k.num [x.allocs,x.clock,x.next]) (bR k k.num x.cells))))
def Qv (x:Ou):Enc:=aX k.num [x.task,x.number]
def Qw (b:Bool):Enc:=aX (qb k) [b]
def uo (x:Wd):Enc:=bn (bR k (Qr k) x.cells) (bn (bR k (Qw k) x.arenas) (bn (bR k (Qu k) x.tasks) (bn (bR k (PV k) x.channels) (bn (bR k (Qv k) x.outputs) (aX k.num [x.made,x.dropped,x.closed])))))
end
mutual
/-- how deep a value is -/
def Fq:Vl->Nat
 | .mk _ _ _ _ f _ _ _=>HN f+1
def HN:List Vl->Nat
 | []=>0
 | x::xs=>max (Fq x) (HN xs)
end
theorem wS:∀{l:List Vl}{x:Vl},x∈l->Fq x<=HN l
 | y::l,x,h=>by
  rw[HN];rcases W7.1 h with rfl | h
  ·exact Nat.le_max_left _ _
  ·exact XK (wS h) (Nat.le_max_right _ _)
def WB (t:Nat) (bs:List UInt8):List TO:=[.box t [.rw 1001,IC 0,.int .i8 0],.row 5 1 (af bs)]
def CW (t:Nat) (bs:List UInt8):TL:=[(1000,.box t [.rw 1001,IC 0,.int .i8 0]),(1001,.row 5 1 (af bs))]
def PW (k:Kd) (f:Nat) (args:List C) (e:Enc) (x:C):Prop:=∀bs,bs.length+e.1.length<=70368744177664 ->
 CallsTX PZ f args (WB k.tb bs) (fun Mo c=>e.2=true/\Mo=WB k.tb (bs++e.1)/\c=x) (fun v=>v=eS/\e.2=false)
abbrev eL (k:Kd) (f:Nat) (args:List C) (e:Enc):Prop:=PW k f args e (.tup [])
def RB (bs:List UInt8):TO:=.box 54 [.sl (af bs)]
def K7 {a:Type}(f:Nat) (args:List C) (bs:List UInt8) (o:Option (a×List UInt8)) (cell:a->C):Prop :=
 CallsTX PZ f args [RB bs] (fun Mo c=>∃y r,o=some (y,r)/\Mo=[RB r]/\c=cell y) (fun v=>v=eS/\o=none)
def fV {b:Type}(f:Nat) (fi ca:List C) (a:Dec b) (z:List C) (cs:b->List C):Prop:=∀(t:Nat) (pre post:List C) (bs:List UInt8),bX pre->bX post ->
 CallsTX PZ f (fi++.ifo none 52 1000 0::.own 1001 pre.length::ca) [RB bs,.win t pre z post] (fun Mo c=>∃x r,a bs=some (x,r)/\Mo=[RB r,.win t pre (cs x) post]/\c=.tup []) (fun v=>v=eS/\a bs=none)
def L7 (b:Bool):Prop:=CallsTX PZ 36 [.bool b] [] (fun Mo c=>b=true/\Mo=[]/\c=.tup []) (fun v=>v=eS/\b=false)
section
variable {L:TL}{ρ:aT}
theorem tO {PS:oV}{b:Bool}{args:List C}{K:TL->aT->C->Prop}(h:L7 b) (a:args=[.bool b]) (j:b=false->PS.ps eS) (k:b=true->K L ρ (.tup [])) (f:kR L [] PS.hb=true:=by rfl):n9 PZ PS 36 args L ρ K:=by
 subst a;refine .mk ⟨[],[],[],L,[],_,_,.inl rfl,rfl,rfl,rfl,rfl,rfl,f,h,fun v ⟨e,h⟩=>e▸j h,?_⟩;rintro v Mo ⟨d,rfl,rfl⟩ l c;exact⟨rfl,k d⟩
theorem cR {R:List TO->C->Prop}(ko:List Nat) {Lin Mo Lo:List TO}{v x:C}(c:L.sub ko=some Mo) (a:(T.bE ko&&aQ Lin (List.range' 1000 Lin.length) ko)=true) (b:Mo.map (TO.Wj (C.ren (cj ko 1000)))=Lo) (e:v.Wy.ren (cj ko 1000)=x) (h:R Lo x):oP Lin L v R:=by
 simp only[W6] at a;exact⟨[],ko,L,v,v,Mo,rfl,.inl ⟨rfl,rfl⟩,c,a.1,a.2,fun _=>by rw[b,e];exact h⟩
theorem qd {R:List TO->C->Prop}(b ko:List Nat) {Lin:List TO}{v:C}(e:vP b L (fun _=>.any) [v] fun L _ vs=>∃c Mo,vs=[c]/\L.sub ko=some Mo/\(T.bE ko&&aQ Lin (List.range' 1000 Lin.length) ko)=true/\R (Mo.map (TO.Wj (C.ren (cj ko 1000)))) (c.Wy.ren (cj ko 1000))):oP Lin L v R:=by
 refine⟨b,ko,?_⟩;refine uh.frzK_imp e ?_;rintro L ρ vs ⟨c,Mo,rfl,d,a,f⟩;simp only[W6] at a;exact⟨L,c,c,Mo,rfl,.inl ⟨rfl,rfl⟩,d,a.1,a.2,fun _=>f⟩
theorem bO (ks:List Nat) {PS:oV}{f:Nat}{args a:List C}{K:TL->aT->C->Prop}{R:List TO->C->Prop}{Pp:Value->Prop}{Lin Lin':List TO}(h:CallsTX PZ f a Lin' R Pp) (m:L.sub ks=some Lin)
  (d:(T.bE ks&&T.lm L ks ks&&aQ Lin ks ks)=true) (e:(args.map fun c=>c.Wo.ren (cj ks 1000))=a) (j:Lin.map (TO.Wj (C.ren (cj ks 1000)))=Lin') (p:∀v,Pp v->PS.ps v)
  (k:∀v Mo,R Mo v->Wf v->(∀o∈Mo,o.Wf)->ks.length=Mo.length/\K (((L.Wi ks).kills (rowsOf L ks)).puts ks (Mo.map (TO.Wj (C.ren (aW ks))))) (eI (rowsOf L ks) ρ) (v.ren (aW ks)).slt) (n:kR L ks PS.hb=true:=by rfl):n9 PZ PS f args L ρ K:=by
 subst e j;simp only[W6] at d;obtain⟨⟨b,l⟩,c3⟩:=d;exact .mk ⟨[],ks,ks,L,Lin,_,_,.inl rfl,m,b,b,l,c3,n,h,p,k⟩
theorem bY (ks:List Nat) {PS:oV}{b:List Nat}{f:Nat}{args a:List C}{K:TL->aT->C->Prop}{R:List TO->C->Prop}{Pp:Value->Prop}{Lin Lin':List TO}(h:CallsTX PZ f a Lin' R Pp) (n:L.sub ks=some Lin)
  (d:(T.bE ks&&vR ks b&&aQ Lin ks ks)=true) (e:(args.map fun c=>c.Wo.ren (cj ks 1000))=a) (j:Lin.map (TO.Wj (C.ren (cj ks 1000)))=Lin') (q:∀v,Pp v->PS.ps v)
  (k:∀v Mo,R Mo v->Wf v->(∀o∈Mo,o.Wf)->ks.length=Mo.length/\K (((L.Wi ks).kills (rowsOf L ks)).puts ks (Mo.map (TO.Wj (C.ren (aW ks))))) (eI (rowsOf L ks) ρ) (v.ren (aW ks)).slt) (p:kR L ks PS.hb=true:=by rfl):mN PZ PS b f args L ρ K:=by
 subst e j;simp only[W6] at d;obtain⟨⟨l,m⟩,c3⟩:=d;exact⟨ks,Lin,_,_,n,l,m,c3,p,h,q,k⟩
end
theorem sN (b:Bool):L7 b:=by
 refine ai Tryd.func36 Kl rfl fun _ _=>?_;cases b
 ·exact Oz rfl ⟨rfl,rfl⟩
 ·exact cR [] rfl rfl rfl rfl ⟨rfl,rfl,rfl⟩
end Go.Fr.Tryd
namespace Go.Fr.Tryd
open Go Go.RowKit Go.Proofs Go.Fr Go.Fr.T
theorem St.reslice {F:aA}{L:Loc}{w:World}{k g t sz n n' c:Nat}{xs:List Value}(m:St F L w) (j:L.get k=some (.row (.slice (some ⟨g,0,none⟩) n c) t sz n xs)) (l:n'<=c) :
  ∃ys,ys.length=n'*sz/\(∀i,i<n*sz->i<n'*sz->ys[i]?=xs[i]?)/\St F (L.set k (.row (.slice (some ⟨g,0,none⟩) n' c) t sz n' ys)) w:=by
 have h:=m.own k _ j;simp only[Own.ok] at h;obtain⟨v,⟨e,_⟩ | ⟨o,cap,a,e,q,s,x,u,d,r⟩⟩:=h
 ·cases e
 ·injection e with e1 e2 e3
  injection e1 with e1
  injection e1 with e1 _ _
  subst e1 e3;have p:n'*sz<=c*sz:=Nat.mul_le_mul_right _ l;refine⟨a.toList.take (n'*sz),?_,fun i hi b=>?_,?_⟩
  ·rw[Xo,Array.length_toList,d];omega
  ·rw[<-r,List.getElem?_take_of_lt hi,List.getElem?_take_of_lt b]
  ·refine m.turn j (o':=.row (.slice (some ⟨g,0,none⟩) n' c) t sz n' (a.toList.take (n'*sz))) ?_ (fun _ _ _=>rfl) (fun o f=>.inl f);exact⟨by rw[Xo,Array.length_toList,d];omega,.inr ⟨g,c,a,rfl,q,s,l,u,d,rfl⟩⟩
theorem CallsA.WL {P:Program}{f:FuncId}{args:Array Value}{F:aA}{Lin:List Own}{R R':aA->List Own->Value->Prop}(h:CallsA P f args F Lin R) (m:∀F G L v,F.le G->R' F L v->R' G L v)
  (d:∀F' Lo v w',St F' (inp Lo) w'->R F' Lo v->∃Lo',St F' (inp Lo') w'/\(∀b,(inp Lo').owns b->(inp Lo).owns b)/\R' F' Lo' v):CallsA P f args F Lin R':=by
 refine⟨h.ent,m,fun w o=>(h.run w o).mono ?_⟩;rintro e w' ⟨v,F',Lo,rfl,j,a,l⟩;obtain⟨Lo',c,k,n⟩:=d F' Lo v w' j l;exact⟨v,F',Lo',rfl,c,⟨a.le,a.os,a.tape,a.output,a.size,a.same,a.frz,fun b hb=>a.own b (k b hb)⟩,n⟩
def iZ (s:Value) (n c:Nat):Prop:=(s=.slice none 0 0/\n=0/\c=0)\/∃g,s=.slice (some ⟨g,0,none⟩) n c/\n<=c/\c<=maxLen
theorem iZ.form {s:Value}{n c:Nat}(h:iZ s n c):∃a,s=.slice a n c/\n<=c/\c<=maxLen/\(a=none->n=0/\c=0):=by
 rcases h with⟨rfl,rfl,rfl⟩ | ⟨g,rfl,d,b⟩
 ·exact⟨none,rfl,Xn _,Xx _,fun _=>⟨rfl,rfl⟩⟩
 ·exact⟨_,rfl,d,b,fun e=>by cases e⟩
theorem z8 {F:aA}{L:Loc}{w:World}{k t sz n:Nat}{v:Value}{xs:List Value}(l:St F L w) (d:L.get k=some (.row v t sz n xs)):∃c,iZ v n c:=by
 have a:=l.own k _ d;simp only[Own.ok] at a;obtain⟨o,⟨e,j⟩ | ⟨b,cap,m,e,p,s,f,h,r,q⟩⟩:=a
 ·exact⟨0,.inl ⟨e,j,rfl⟩⟩
 ·exact⟨cap,.inr ⟨b,e,f,h⟩⟩
def BO (ex:List Value) (a tb:Nat) (s:Value) (lr:Int) (n:Nat) (xs:List Value):List Own:=[.box a (tb+1) (s::.int .i64 0::.int .i8 lr::ex),.row s 5 1 n xs]
theorem HO {ex:List Value}{a tb:Nat}{s:Value}{lr:Int}{n:Nat}{xs:List Value}:inp (BO ex a tb s lr n xs)=[(1000,.box a (tb+1) (s::.int .i64 0::.int .i8 lr::ex)),(1001,.row s 5 1 n xs)]:=rfl
theorem HS {Lin:List Own}(svs:List SV) (n:Nat) (a:∀v∈svs,(∀k off,v=.own k off->∃g ty cs,(inp Lin).get k=some (.box g ty cs))/\(∀d j,v=.el d j->d≠none)) :
  aC (inp Lin) (rO 0 svs) {tmps:=(svs.map (conc (inp Lin))).toArray++Array.replicate (n-(svs.map (conc (inp Lin))).toArray.size) undef,defers:=[]}:=by
 have c:∀t,rO 0 svs t=.v undef\/rO 0 svs t∈svs:=by
  intro t;rw[pG];simp only[Xx,Xq,Nat.sub_zero];cases e:svs[t]? with
  | none=>exact .inl rfl
  | some v=>exact .inr (W9 e)
 refine⟨fun t=>?_,fun t k off e=>?_,fun t d j e=>?_⟩
 ·rw[pG];simp only[Xx,Xq,Nat.sub_zero,Xt];cases e:svs[t]? with
  | some v =>
   have f:t<svs.length:=(W5.1 e).1;rw[Array.getElem?_append_left (by simpa using f)];simp[e]
  | none =>
   have h:svs.length<=t:=XT.1 e;rw[Array.getElem?_append_right (by simpa using h)];simp only[Array.getElem?_replicate,Option.getD_none,conc];split<;>rfl
 ·rcases c t with b | b
  ·rw[b] at e;cases e
  ·exact(a _ b).1 k off e
 ·rcases c t with b | b
  ·rw[b] at e;cases e
  ·exact(a _ b).2 d j e
variable {ex:List Value}
theorem qy {c tb:Nat}{s:Value}{lr:Int}{n:Nat}{xs:List Value}{svs:List Value}:∀v∈(SV.own 1000 0::svs.map SV.v),(∀k off,v=.own k off->∃g ty cs,(inp (BO ex c tb s lr n xs)).get k=some (.box g ty cs))/\(∀b j,v=.el b j->b≠none):=by
 intro v a;rcases W7.1 a with rfl | a
 ·exact⟨fun k off e=>by injection e with e1 e2;subst e1;exact⟨_,_,_,rfl⟩,fun _ _ e=>by cases e⟩
 ·obtain⟨u,_,rfl⟩:=Xz.1 a;exact⟨fun _ _ e=>(by cases e),fun _ _ e=>(by cases e)⟩
theorem K9 {s:Value}{n c h:Nat}{a:Option Addr}(b:iZ s n c) (e:s=.slice a n c):fu a c 0 h 1=.slice a h c:=by
 rcases b with⟨rfl,rfl,rfl⟩ | ⟨g,rfl,_,_⟩
 ·injection e with e1 e2 e3
  subst e1;simp[fu]
 ·injection e with e1 e2 e3
  subst e1;simp[fu,Addr.add]
def VH (ex:List Value) (a tb:Nat) (s:Value) (lr:Int) (n c m:Nat) (xs:List Value):aA->List Own->Value->Prop:=fun _ Lo v =>
 (∃s' ys,ys.length=m/\iZ s' (n+m) c/\Lo=BO ex a tb s' lr (n+m) (xs++ys)/\v=.tuple #[.int .i64 n,.bool true]) \/
 (c<n+m/\Lo=BO ex a tb s lr n xs/\v=.tuple #[.int .i64 0,.bool false])
theorem Qx (F:aA) (d tb:Nat) (s:Value) (lr:Int) (n c m:Nat) (xs:List Value) (u:iZ s n c) (hm:n+m<=140737488355328) :
  CallsA PZ 43 #[.pointer (some ⟨d,0,none⟩),.int .i64 m] F (BO ex d tb s lr n xs) (VH ex d tb s lr n c m xs):=by
 obtain⟨a,rfl,z,l,ha⟩:=u.form;unfold maxLen at l;have x:CallsA PZ 43 #[.pointer (some ⟨d,0,none⟩),.int .i64 m] F (BO ex d tb (.slice a n c) lr n xs) (fun _ Lo v =>
   (n+m<=c/\Lo=[.box d (tb+1) (.slice a (n+m) c::.int .i64 0::.int .i8 lr::ex),.row (.slice a n c) 5 1 n xs]/\v=.tuple #[.int .i64 n,.bool true]) \/
   (c<n+m/\Lo=BO ex d tb (.slice a n c) lr n xs/\v=.tuple #[.int .i64 0,.bool false])):=by
  refine fL (svs:=[.own 1000 0,.v (.int .i64 m)]) rfl Kt rfl rfl (qy (svs:=[.int .i64 m])) (fun _ _ _ _ _ h=>h) ?_;refine Fit.Wk (by omega) (by omega) ?_;refine aV (fun h=>?_) (fun h=>?_)
  ·refine Fit.Wk (by omega) (by omega) ?_;refine mJ.mk (by omega) (by omega) (by omega) ?_;have e:((n:Int)+m).toNat=n+m:=by omega
   have e2:fu a c 0 ((n:Int)+m).toNat 1=.slice a (n+m) c:=by rw[e];exact K9 u rfl
   exact⟨[1000,1001],_,rfl,by decide,.inl ⟨by omega,p7 (fun q=>[Own.box d (tb+1) (q::.int .i64 0::.int .i8 lr::ex),.row (.slice a n c) 5 1 n xs]) e2,rfl⟩⟩
  ·exact⟨[1000,1001],_,rfl,by decide,.inr ⟨by omega,rfl,rfl⟩⟩
 refine CallsA.WL x (fun _ _ _ _ _ h=>h) ?_;rintro F' Lo v w' f (⟨j,rfl,rfl⟩ | ⟨t,rfl,rfl⟩)
 ·rcases u with⟨e,rfl,rfl⟩ | ⟨g,e,_,_⟩
  ·injection e with e1 _ _
   subst e1;have:m=0:=by omega
   subst this;exact⟨_,f,fun b h=>h,.inl ⟨.slice none 0 0,[],rfl,.inl ⟨rfl,rfl,rfl⟩,by simp[BO],rfl⟩⟩
  ·injection e with e1 _ _
   subst e1;have w:(inp [.box d (tb+1) (.slice (some ⟨g,0,none⟩) (n+m) c::.int .i64 0::.int .i8 lr::ex),.row (.slice (some ⟨g,0,none⟩) n c) 5 1 n xs]).get 1001=some (.row (.slice (some ⟨g,0,none⟩) n c) 5 1 n xs):=rfl;have p:xs.length=n:=by
    have:=(f.own _ _ w).1;simpa using this
   obtain⟨ys,y1,y,y3⟩:=St.reslice f w j;have r:ys=xs++ys.drop n:=by
    apply XF;intro i
    by_cases hi:i<n
    ·rw[y i (by omega) (by omega),Xc (by omega)]
    ·rw[Xi (by omega),Xy,p];congr 1;omega
   refine⟨BO ex d tb (.slice (some ⟨g,0,none⟩) (n+m) c) lr (n+m) ys,y3,fun b hb=>?_,.inl ⟨_,ys.drop n,by rw[XR,y1];omega,.inr ⟨g,rfl,j,by unfold maxLen;omega⟩,by rw[<-r],rfl⟩⟩;obtain⟨k,o,e,hb⟩:=hb;rw[HO] at e;simp only[Loc.get] at e;split at e
   ·rename_i ad;injection e with e;subst e
    exact⟨1000,_,rfl,hb⟩
   ·split at e
    ·injection e with e;subst e
     exact⟨1001,_,rfl,hb⟩
    ·cases e
 ·exact⟨_,f,fun b h=>h,.inr ⟨t,rfl,rfl⟩⟩
variable {ex:List Value}
def Qy:aJ:=.reg [.op (some 8) (.mov (.t 0)) none,
  .op (some 9) (.len (.t 8)) none,
  .op (some 10) (.mov (.t 1)) none,
  .op (some 11) (.bin .add (.t 9) (.t 10)) none,
  .op (some 5) (.mov (.t 11)) none]
def Qz:aJ:=.seq (.reg [.op (some 12) (.mov (.t 5)) none,
  .op (some 13) (.mov (.t 0)) none,
  .op (some 14) (.capa (.t 13)) none,
  .op (some 15) (.bin .mul (.c (.int .i64 2)) (.t 14)) none,
  .op (some 16) (.bin .lss (.t 12) (.t 15)) none])
 (.cond (.t 16)
 (.reg [.op (some 17) (.mov (.t 0)) none,
   .op (some 18) (.capa (.t 17)) none,
   .op (some 19) (.bin .mul (.c (.int .i64 2)) (.t 18)) none,
   .op (some 5) (.mov (.t 19)) none])
 .skip)
def QA:aJ:=.reg [.op (some 20) (.mov (.t 5)) none,
  .op (some 21) (.appZ 5 1 .u8 (.c (.slice none 0 0)) (.t 20)) none,
  .op (some 6) (.mov (.t 21)) none]
def QC:aJ:=.seq (.reg [.op (some 22) (.mov (.t 6)) none,
  .op (some 23) (.mov (.t 0)) none,
  .op (some 24) (.copy 5 1 (.t 22) (.t 23)) none,
  .op (some 7) (.mov (.t 24)) none])
 (.seq (.reg [.op (some 25) (.mov (.t 6)) none,
  .op (some 26) (.mov (.t 7)) none,
  .op (some 27) (.slc 1 (.t 25) none (some (.t 26))) none,
  .op (some 4) (.mov (.t 27)) none])
 .ret)
theorem piece {P:Program}{A:cP}{c:Code}{sc:aJ}(s:low P A c=some sc) {N:cE}{F:aA}{L:Loc}{ρ:Env}{a:Act}{w:World}(x:St F L w) (u:aC L ρ a) (t:a.tmps.size=A.n)
  (r:gu P sc (fun _ _ _ _=>False) (fun _ _ _=>False) N F L ρ) {Q:Exit->Act->World->Prop}
  (k:∀d w' F' L' ρ',St F' L' w'->aC L' ρ' d->d.tmps.size=A.n->d.defers=a.defers->Step F L w F' L' w'->N F' L' ρ'->Q .normal d w'):c.wp P Q a w:=by
 refine wp_mono (oG c s x u t r) ?_;intro e d w' h;cases e with
 | normal=>obtain⟨F',L',ρ',f,o,m,l,p,q,b⟩:=h;exact k _ _ _ _ _ f o m l p b
 | exit j=>obtain⟨F',L',ρ',f,o,m,l,p,q,b⟩:=h;exact b.elim
 | ret=>obtain⟨F',L',ρ',f,o,m,l,p,q,b⟩:=h;exact b.elim
 | panic z =>
  obtain⟨v,_,F',L',q1,q2,q3,q4,q5,y⟩:=h;exact y.elim
 | _=>exact h.elim
theorem nL {ρ:Env}{k:Nat}{x:SV}(h:ρ k=x):put (some k) x ρ=ρ:=by
 funext j
 rw[put_eq];simp only[];split
 ·rename_i e;rw[e,h]
 ·rfl
def Ft:cP:={n:=28}
theorem z9 (w:World) :
  CallsD Tryd.prog 84 #[] .returning w fun e d w'=>e=.returned (.tuple #[])/\d=.returning/\w'=w:=by
 have c:Tryd.f84.ntmps=3:=by kernel_rfl
 have f:Tryd.f84.results=#[]:=by kernel_rfl
 refine callsD_of_wpS Tryd.func84 rfl fun a cs b=>?_;apply wpS_seq;apply wpS_region;simp[wpOpsS,go_sem,recoverD,b,c,Exit.thenS];refine wpS_cond (t:=false) (by simp[Act.eval,Array.replicate]) ?_;simp only[Xd,XC];refine wpS_of_wp (wp_skip ?_);cases a
 simp_all [bodyPostS,results]
theorem QD (F:aA) (a:Option Addr) (n c m:Nat) (xs:List Value) (hn:n<=c) (hc:c<n+m) (hm:n+m<=70368744177664) (hx:xs.length=n) (az:bN F a 0 xs\/(n=0/\xs=[])) (h1:∀u∈xs,u.oneCell'=true) :
  CallsA PZ 63 #[.slice a n c,.int .i64 m] F [] (fun _ Lo v=>∃l,iZ v n l/\n+m<=l/\Lo=[.row v 5 1 n xs]):=by
 have cb:Tryd.f63.ntmps=28:=by kernel_rfl
 refine⟨⟨_,Tryd.func63,by kernel_rfl,by kernel_rfl⟩,fun _ _ _ _ _ h=>h,fun w hs=>?_⟩
 suffices hall:∀RR:Ending->World->Prop,(∀v F' Lo w',St F' (inp Lo) w'->Step F (inp []) w F' (inp Lo) w'->(∃l,iZ v n l/\n+m<=l/\Lo=[.row v 5 1 n xs])->RR (.returned v) w')->Calls Tryd.prog 63 #[.slice a n c,.int .i64 m] w RR from
  hall _ fun v F' Lo w' h1 h2 h3=>⟨v,F',Lo,rfl,h1,h2,h3⟩
 intro RR bv;refine calls_of_wp_defers Tryd.func63 rfl ?_;rw[cb];have bs:=HS (Lin:=[]) [.v (.slice a n c),.v (.int .i64 m)] 28 (GA [.slice a n c,.int .i64 m]);refine wp_seq (wp_region (mY (A:=Ft) (r:=0) (List.range 1) (ss:=[.op (some 4) (.mov (.c (.slice none 0 0))) none]) (by kernel_rfl) hs bs (by simp[Ft])
  (K:=fun F' L' ρ'=>F'=F/\L'=inp []/\ρ'=put (some 4) (.v (.slice none 0 0)) (rO 0 [.v (.slice a n c),.v (.int .i64 m)])) ⟨rfl,rfl,rfl⟩ ?_))
 rintro a1 w1 ⟨F1,L1,cp,ba,z,ae,ar,am,_,rfl,rfl,rfl⟩;simp only[Exit.then];refine wp_seq (wp_region ?_);obtain⟨tm,df⟩:=a1;simp only at ae ar;subst ar;have dd:∀w:World,(Instr.makeFunc (.func 84) #[] #[]).run Tryd.prog w=.ok (.func (.func 84) #[] #[]) w:=fun _=>rfl;simp[wpOps,go_sem,Exit.then,Act.eval];refine .inl ?_;have s:aC (inp []) (put (some 4) (.v (.slice none 0 0)) (rO 0 [.v (.slice a n c),.v (.int .i64 m)])) {tmps:=tm,defers:=[{target:=.fn (.func 84) #[],args:=#[]}]}:=⟨z.eq,z.own,z.el⟩;refine wp_seq (piece (A:=Ft) (sc:=Qy) (by kernel_rfl) ba s ae (N:=fun F' L' ρ'=>F'=F1/\L'=inp []/\ρ' 5=.v (.int .i64 (n+m:Nat))/\ρ' 0=.v (.slice a n c)) ?_ ?_)
 ·refine Fit.to (m:=((n+m:Nat):Int)) (by rw[bM (by omega) (by omega)];omega) ?_;exact⟨rfl,rfl,rfl,rfl⟩
 rintro a2 w2 F2 L2 be bd s bu bm ap ⟨rfl,rfl,p,q⟩;simp only[Exit.then];rw[<-nL p,<-nL (ρ:=put _ _ be) (k:=0) (x:=.v (.slice a n c)) (by rw[put_eq];simpa using q)] at s;generalize aa:(if n+m<2*c then 2*c else n+m)=M;have cs:n+m<=M/\M<=140737488355328:=by subst aa;split<;>omega
 refine wp_seq (piece (A:=Ft) (sc:=Qz) (by kernel_rfl) bd s bu (N:=fun F' L' ρ'=>F'=F2/\L'=inp []/\ρ' 5=.v (.int .i64 M)/\ρ' 0=.v (.slice a n c)) ?_ ?_)
 ·refine Fit.to (m:=((2*c:Nat):Int)) (by rw[bM (by omega) (by omega)];omega) ?_;refine aV (fun h=>?_) (fun h=>?_)
  ·refine Fit.to (m:=((2*c:Nat):Int)) (by rw[bM (by omega) (by omega)];omega) ?_;exact⟨rfl,rfl,(by rw[<-aa,j3 (by omega)];rfl),rfl⟩
  ·exact⟨rfl,rfl,(by rw[<-aa,vv (by omega)];rfl),rfl⟩
 clear p q
 rintro a3 w3 F3 L3 cc bp ab bc bx an ⟨rfl,rfl,p,q⟩;simp only[Exit.then];rw[<-nL p,<-nL (ρ:=put _ _ cc) (k:=0) (x:=.v (.slice a n c)) (by rw[put_eq];simpa using q)] at ab;refine wp_seq (piece (A:=Ft) (sc:=QA) (by kernel_rfl) bp ab bc (N:=fun F' L' ρ'=>F'=F3/\∃ad l,L'=[(21,.row (.slice (some ad) M l) 5 1 M (List.replicate M (.int .u8 0)))]/\ρ' 6=.v (.slice (some ad) M l)/\ρ' 0=.v (.slice a n c)) ?_ ?_)
 ·refine FR.mk ⟨21,0,[],.inr ⟨rfl,rfl,rfl,rfl⟩,by unfold maxLen;omega,by omega,fun v hv=>?_⟩;obtain⟨a',c',rfl,ce⟩:=hv;cases a' with
  | none=>exact xo (ce rfl) (by omega)
  | some ad =>
   rw[Nat.zero_add];exact⟨rfl,ad,c',rfl,rfl,rfl⟩
 clear p q
 rintro a4 w4 F4 L4 bz ao al cd aE ac ⟨rfl,ad,l,rfl,p,q⟩;simp only[Exit.then];obtain⟨dg,bb⟩:=z8 ao (k:=21) rfl;rcases bb with⟨e,_⟩ | ⟨g,e,db,t⟩
 ·cases e
 injection e with e1 e2 e3
 injection e1 with e1
 subst e1 e3;rw[<-nL p,<-nL (ρ:=put _ _ bz) (k:=0) (x:=.v (.slice a n c)) (by rw[put_eq];simpa using q)] at al;have bi:aM (List.replicate M (Value.int .u8 0)) (0*1) xs=xs++List.replicate (M-n) (.int .u8 0):=by
  simp[aM,hx]
 refine wp_mono (oG (A:=Ft) _ (sc:=QC) (by kernel_rfl) ao al cd (E:=fun _ _ _ _=>False) (N:=fun _ _ _=>False)
  (R:=fun F' L' ρ'=>F'=F4/\L'=[(21,.row (.slice (some ⟨g,0,none⟩) M l) 5 1 M (xs++List.replicate (M-n) (.int .u8 0)))]/\ρ' 4=.v (.slice (some ⟨g,0,none⟩) n l)) ?_) ?_
 ·refine ze.mk (.inl ⟨21,M,_,_,_,⟨g,0,none⟩,l,l,0,n,a,c,xs,rfl,rfl,rfl,by omega,rfl,by rw[Nat.min_eq_left (by omega),hx,Nat.mul_one],?_,h1,?_⟩)
  ·rw[Nat.min_eq_left (by omega)];exact az
  rw[Nat.min_eq_left (by omega),bi];refine mJ.mk (by omega) (by omega) (by omega) ?_;exact⟨rfl,rfl,p7 SV.v (K9 (n:=M) (.inr ⟨g,rfl,by omega,t⟩) rfl)⟩
 intro e a5 w5 h;cases e with
 | normal=>obtain⟨F',L',ρ',h1,h2,h3,h4,h5,h6,h7⟩:=h;exact h7.elim
 | exit j=>obtain⟨F',L',ρ',h1,h2,h3,h4,h5,h6,h7⟩:=h;exact h7.elim
 | panic ch =>
  obtain⟨v,_,F',L',q1,q2,q3,q4,q5,q6⟩:=h;exact q6.elim
 | ret =>
  obtain⟨F',L',ρ',ay,bl,dj,ax,aw,_,rfl,rfl,h4⟩:=h;rw[aE,bx,bm] at ax;show Leaves Tryd.prog Tryd.f63 a5.tmps RR a5.defers .returning w5;rw[ax];refine leaves_cons (f:=84) (args:=#[]) (by simp) (by simp[invoke]) ?_;refine(z9 _).mono ?_;rintro e u' w6 ⟨rfl,rfl,rfl⟩;obtain⟨vs,h5,rfl⟩:=uj (P:=Tryd.prog) (fn:=Tryd.f63) (rs:=[(4,none)]) (K:=fun vs=>vs=[.slice (some ⟨g,0,none⟩) n l]) ay bl (by kernel_rfl) (by
   simp only[kP,h4];rfl)
  obtain⟨ys,y1,y2,y3⟩:=St.reslice (n':=n) ay (k:=21) rfl (by omega);have cf:ys=xs:=by
   apply XF;intro i
   by_cases hi:i<n
   ·rw[y2 i (by omega) (by omega),Xc (by omega)]
   ·rw[Xe (by omega),Xe (by omega)]
  subst cf;refine⟨_,h5,bv _ F' [.row (.slice (some ⟨g,0,none⟩) n l) 5 1 n ys] w6 ?_ ?_ ⟨l,.inr ⟨g,rfl,by omega,t⟩,by omega,rfl⟩⟩
  ·exact y3.handed (ks:=[21]) rfl (by simp)
  ·have d:=(((am.trans ap).trans an).trans ac).trans aw;refine⟨d.le,d.os,d.tape,d.output,d.size,d.same,d.frz,fun b hb=>?_⟩;refine d.own b ?_;obtain⟨k,o,e,hb⟩:=hb;rw[aS] at e;split at e
   case isFalse=>cases e
   rename_i hk;have y:=W9 e;simp only[XJ] at y;subst y;exact⟨21,_,rfl,hb⟩
 | _=>exact h.elim
variable {ex:List Value}
theorem CallsA.WT {P:Program}{f:FuncId}{args:Array Value}{F:aA}{v:Value}{t sz n:Nat}{xs:List Value}{R:aA->List Own->Value->Prop}(hent:∃fn,P.funcs[f]?=some fn/\fn.body.isSome=true/\(fn.name == "runtime.NumGoroutine")=false)
  (hmono:∀F G L v,F.le G->R F L v->R G L v) (h:∀F',F.le F'->FU F' v sz n xs->CallsA P f args F' [] R):CallsA P f args F [.row v t sz n xs] R:=by
 refine⟨hent,hmono,fun w hs=>?_⟩;have he:aC (inp [.row v t sz n xs]) (fun _=>.v undef) {tmps:=#[],defers:=[]}:=⟨fun t=>by simp[conc],fun _ _ _ e=>(by cases e),fun _ _ _ e=>(by cases e)⟩;obtain⟨F',L',k1,k2,k3,k4,k5⟩:=nB (k:=1000) hs he (KK:=fun F' L'=>L'=inp []/\F.le F'/\FU F' v sz n xs) ⟨v,t,sz,n,xs,rfl,fun F' h1 h2=>⟨rfl,h1,h2⟩⟩;obtain⟨rfl,k5,k6⟩:=(⟨k4,k5⟩:_/\_);refine Calls.mono ((h F' k5 k6).run w k1) ?_;rintro e w' ⟨v,F2,Lo,rfl,h1,h2,h3⟩;exact⟨v,F2,Lo,rfl,h1,k3.trans h2,h3⟩
theorem OX:∃fn,Tryd.prog.funcs[63]?=some fn/\fn.body.isSome=true/\(fn.name == "runtime.NumGoroutine")=false:=⟨_,Tryd.func63,by kernel_rfl,by kernel_rfl⟩
theorem QE (F:aA) (a:Option Addr) (n c m:Nat) (xs:List Value) (j:n<=c) (l:c<n+m) (o:n+m<=70368744177664) (d:xs.length=n) (f:∀u∈xs,u.oneCell'=true) :
  CallsA PZ 63 #[.slice a n c,.int .i64 m] F [.row (.slice a n c) 5 1 n xs] (fun _ Lo v=>∃b,iZ v n b/\n+m<=b/\Lo=[.row v 5 1 n xs]):=by
 refine CallsA.WT OX (fun _ _ _ _ _ h=>h) fun F' _ k=>QD F' a n c m xs j l o d ?_ f;rcases k with⟨e,rfl,rfl⟩ | ⟨q,p,e,h,_⟩
 ·exact .inr ⟨rfl,rfl⟩
 ·injection e with e1 _ _
  subst e1;exact .inl h
theorem QF (F:aA) (d tb:Nat) (s:Value) (lr:Int) (n c:Nat) (xs:List Value) (f:iZ s n c) :
  CallsA PZ 61 #[.pointer (some ⟨d,0,none⟩)] F (BO ex d tb s lr n xs) (fun _ Lo v=>Lo=BO ex d tb s lr n xs/\v=.int .i64 n):=by
 obtain⟨a,rfl,e,b,j⟩:=f.form;unfold maxLen at b;refine fL (svs:=[.own 1000 0]) rfl Ky rfl rfl (qy (svs:=[])) (fun _ _ _ _ _ h=>h) ?_;refine Fit.to (m:=(n:Int)) (by rw[bM (by omega) (by omega)];omega) ?_;exact⟨[1000,1001],_,rfl,by decide,rfl,rfl⟩
theorem CY {f:Nat}{vs:List Value}{F:aA}{L:Loc}{K:aA->Loc->Value->Prop}{d tb n:Nat}{s:Value}{lr:Int}{xs:List Value}{R:aA->List Own->Value->Prop}(o:L=inp (BO ex d tb s lr n xs)) (h:CallsA PZ f vs.toArray F (BO ex d tb s lr n xs) R)
  (q:∀v F' Lo,F.le F'->R F' Lo v->∃s' c n' b,Lo=BO ex d tb s' c n' b/\K F' (inp (BO ex d tb s' c n' b)) v):cV PZ f vs F L K:=by
 subst o;refine⟨[1000,1001],[1000,1001],_,_,rfl,by decide,by decide,fun k j=>.inl j,h,fun v F' Lo l p=>?_⟩;obtain⟨s',c,n',b,rfl,m⟩:=q v F' Lo l p;refine⟨rfl,fun k g t cs j e=>?_,m⟩;simp only[W7,List.not_mem_nil,or_false] at j;rcases j with rfl | rfl
 ·have a:(some (Own.box d (tb+1) (s::.int .i64 0::.int .i8 lr::ex)))=some (.box g t cs):=e;injection a with a
  injection a with e1 e2 e3
  subst e1 e2;exact⟨_,rfl⟩
 ·have a:(some (Own.row s 5 1 n xs))=some (.box g t cs):=e;injection a with a
  cases a
theorem HT {F:aA}{L:Loc}{K:aA->Loc->Value->Prop}{a tb n c:Nat}{s:Value}{lr:Int}{xs:List Value}(e:L=inp (BO ex a tb s lr n xs)) (f:iZ s n c)
  (h:∀F',F.le F'->K F' (inp (BO ex a tb s lr n xs)) (.int .i64 n)):cV PZ 61 [.pointer (some ⟨a,0,none⟩)] F L K :=
 CY e (QF F a tb s lr n c xs f) fun v F' Lo b d=>⟨s,lr,n,xs,d.1,d.2▸h F' b⟩
theorem CZ {F:aA}{L:Loc}{K:aA->Loc->Value->Prop}{b tb n c m:Nat}{s:Value}{lr:Int}{xs:List Value}(h:L=inp (BO ex b tb s lr n xs)) (o:iZ s n c) (l:n+m<=140737488355328)
  (e:∀F' s' ys,F.le F'->ys.length=m->iZ s' (n+m) c->K F' (inp (BO ex b tb s' lr (n+m) (xs++ys))) (.tuple #[.int .i64 n,.bool true]))
  (f:∀F',F.le F'->c<n+m->K F' (inp (BO ex b tb s lr n xs)) (.tuple #[.int .i64 0,.bool false])):cV PZ 43 [.pointer (some ⟨b,0,none⟩),.int .i64 m] F L K :=
 CY h (Qx F b tb s lr n c m xs o l) fun v F' Lo a j=>by
  rcases j with⟨s',ys,d,k,rfl,rfl⟩ | ⟨d,rfl,rfl⟩
  ·exact⟨_,_,_,_,rfl,e F' s' ys a d k⟩
  ·exact⟨_,_,_,_,rfl,f F' a d⟩
theorem Ea {F:aA}{L:Loc}{K:aA->Loc->Value->Prop}{n c m:Nat}{a:Option Addr}{s:Value}{xs:List Value}(j:iZ s n c) (l:L.get 1001=some (.row s 5 1 n xs)) (y:c<n+m) (z:n+m<=70368744177664) (k:xs.length=n) (p:∀u∈xs,u.oneCell'=true) (o:s=.slice a n c)
  (kk:∀b F' d,F.le F'->iZ (.slice b n d) n d->n+m<=d->K F' (L.set 1001 (.row (.slice b n d) 5 1 n xs)) (.slice b n d)):CallXDPt PZ (fun _ _ _=>False) [] 63 [fu a c 0 n 1,.int .i64 m] F L K:=by
 subst o;obtain⟨_,_,w,_⟩:=j.form;rw[K9 j rfl];refine⟨[1001],[.row (.slice a n c) 5 1 n xs],_,fun _ _ _=>False,by simp only[Loc.sub,l],by simp,by simp,((QE F a n c m xs (by omega) y z k p).toX (Pp:=fun _=>False)).toS,fun v F' L' Lo _ _ _ h=>h.elim,fun v F' Lo r x=>?_⟩;obtain⟨d,f,q,rfl⟩:=x;obtain⟨b,rfl,_⟩:=f.form;refine⟨rfl,fun i g t cs e=>?_,fun _=>kk b F' d r f q⟩;cases i with
 | zero=>injection e with e;cases e
 | succ i=>cases e
theorem L8 {L:Loc}{ss:List ak}(h:(ss.all fun s=>(rV s).isNone)=true):∀s∈ss,∀k,rV s=some k->L.get k=none:=by
 intro s a k e;have:=Xf.1 h s a;rw[e] at this;cases this
def L9 (ex:List Value) (b tb:Nat) (lr:Int) (n m:Nat) (xs:List Value):aA->List Own->Value->Prop:=fun _ Lo v =>
 ∃s' a ys,ys.length=m/\iZ s' (n+m) a/\Lo=BO ex b tb s' lr (n+m) (xs++ys)/\v=.int .i64 n
def Raw (ex:List Value) (b tb:Nat) (lr:Int) (n m:Nat) (xs:List Value) (Lo:List Own):Prop :=
 ∃a c,iZ (.slice a n c) n c/\n+m<=c/\Lo=[.box b (tb+1) (fu a c 0 (n+m) 1::.int .i64 0::.int .i8 lr::ex),.row (.slice a n c) 5 1 n xs]
theorem HU {j tb n m:Nat}{lr:Int}{xs:List Value}{Lo:List Own}{F:aA}{w:World}(h:Raw ex j tb lr n m xs Lo) (d:St F (inp Lo) w) :
  ∃Lo',St F (inp Lo') w/\(∀b,(inp Lo').owns b->(inp Lo).owns b)/\∃s' s ys,ys.length=m/\iZ s' (n+m) s/\Lo'=BO ex j tb s' lr (n+m) (xs++ys):=by
 obtain⟨a,c,r,f,rfl⟩:=h;rw[K9 r rfl] at d ⊢;rcases r with⟨e,rfl,rfl⟩ | ⟨g,e,z,u⟩
 ·injection e with e1 _ _
  subst e1;have:m=0:=by omega
  subst this;exact⟨_,d,fun b h=>h,.slice none 0 0,0,[],rfl,.inl ⟨rfl,rfl,rfl⟩,by simp[BO]⟩
 ·injection e with e1 _ _
  subst e1;have q:(inp [.box j (tb+1) (.slice (some ⟨g,0,none⟩) (n+m) c::.int .i64 0::.int .i8 lr::ex),.row (.slice (some ⟨g,0,none⟩) n c) 5 1 n xs]).get 1001=some (.row (.slice (some ⟨g,0,none⟩) n c) 5 1 n xs):=rfl;have l:xs.length=n:=by
   have:=(d.own _ _ q).1;simpa using this
  obtain⟨ys,x,t,v⟩:=St.reslice d q f;have p:ys=xs++ys.drop n:=by
   apply XF;intro i
   by_cases hi:i<n
   ·rw[t i (by omega) (by omega),Xc (by omega)]
   ·rw[Xi (by omega),Xy,l];congr 1;omega
  refine⟨BO ex j tb (.slice (some ⟨g,0,none⟩) (n+m) c) lr (n+m) ys,v,fun b hb=>?_,_,c,ys.drop n,by rw[XR,x];omega,.inr ⟨g,rfl,f,u⟩,by rw[<-p]⟩;obtain⟨k,o,e,hb⟩:=hb;rw[HO] at e;simp only[Loc.get] at e;split at e
  ·rename_i y;injection e with e;subst e
   exact⟨1000,_,rfl,hb⟩
  ·split at e
   ·injection e with e;subst e
    exact⟨1001,_,rfl,hb⟩
   ·cases e
theorem L9.WL {f c tb n m:Nat}{lr:Int}{xs:List Value}{args:Array Value}{F:aA}{Lin:List Own}(h:CallsA PZ f args F Lin (fun F' Lo v=>L9 ex c tb lr n m xs F' Lo v\/(Raw ex c tb lr n m xs Lo/\v=.int .i64 n))):CallsA PZ f args F Lin (L9 ex c tb lr n m xs):=by
 refine CallsA.WL h (fun _ _ _ _ _ h=>h) ?_;rintro F' Lo v w' a (h | ⟨h,rfl⟩)
 ·exact⟨Lo,a,fun b h=>h,h⟩
 ·obtain⟨Lo',d,k,s',e,ys,l,j,rfl⟩:=HU h a;exact⟨_,d,k,s',e,ys,l,j,rfl,rfl⟩
set_option maxHeartbeats 1000000 in
theorem QG (F:aA) (a tb:Nat) (lr:Int) (m:Nat) (r:m<=70368744177664) :
  CallsA PZ 44 #[.pointer (some ⟨a,0,none⟩),.int .i64 m] F (BO ex a tb (.slice none 0 0) lr 0 []) (L9 ex a tb lr 0 m []):=by
 have e:iZ (.slice none 0 0) 0 0:=.inl ⟨rfl,rfl,rfl⟩;refine L9.WL ?_;refine fL (svs:=[.own 1000 0,.v (.int .i64 m)]) rfl DH rfl rfl (qy (svs:=[.int .i64 m])) (fun _ _ _ _ _ h=>h) ?_;refine HT rfl e fun F1 k=>?_;refine CZ rfl e (by omega) (fun F2 s' ys c j d=>?_) (fun F2 c q=>?_)
 ·exact⟨[1000,1001],_,rfl,by decide,.inl ⟨s',0,ys,j,d,rfl,rfl⟩⟩
 refine aV (fun h=>?_) (fun h=>?_)
 ·refine sP.mk (by omega) (by omega) (by decide) (by decide) fun g=>?_;exact⟨[1000,41],_,rfl,by decide,.inl ⟨.slice (some ⟨g,0,none⟩) m 64,64,(List.replicate m [Value.int .u8 0]).flatten,by simp,.inr ⟨g,by rw[Nat.zero_add m],by omega,by decide⟩,by rw[Nat.zero_add m];rfl,rfl⟩⟩
 refine mT.mk (by omega) ?_;refine Fit.to (m:=0) (by decide) ?_;refine Fit.to (m:=0) (by decide) ?_;refine aV (fun d=>?_) (fun d=>?_)
 ·omega
 refine Fit.to (m:=9223372036854775807) (by decide) ?_;refine Fit.to (m:=9223372036854775807-m) (by rw[bM (by omega) (by omega)]) ?_;refine aV (fun n=>?_) (fun n=>?_)
 ·omega
 refine⟨L8 (by kernel_rfl),?_⟩;refine⟨_,rfl,⟨_,rfl,⟨_,rfl,⟨_,rfl,⟨_,rfl,⟨_,rfl,⟨_,rfl,⟨_,rfl,⟨_,rfl,⟨_,rfl,?_⟩⟩⟩⟩⟩⟩⟩⟩⟩⟩;refine mJ.mk (by omega) (by omega) (by omega) ?_;refine⟨_,rfl,⟨_,rfl,⟨_,rfl,⟨_,rfl,⟨_,rfl,⟨_,rfl,?_⟩⟩⟩⟩⟩⟩;refine Fit.to (m:=(m:Int)) (by rw[bM (by omega) (by omega)];omega) ?_;refine Ea e rfl (by omega) (by omega) rfl (by simp) rfl fun b F3 l f p o=>?_;refine⟨_,rfl,⟨_,rfl,⟨_,rfl,?_⟩⟩⟩;refine Fit.to (m:=((0+m:Nat):Int)) (by rw[bM (by omega) (by omega)];omega) ?_;refine mJ.mk (by omega) (by omega) (by omega) ?_;exact⟨[1000,1001],_,rfl,by decide,.inr ⟨⟨b,l,p,by omega,rfl⟩,rfl⟩⟩
theorem QH (F:aA) (e tb g:Nat) (lr:Int) (n c m:Nat) (xs:List Value) (s:n<=c) (a:c<=maxLen) (hm:n+m<=70368744177664) (o:xs.length=n) (d:∀u∈xs,u.oneCell'=true) :
  CallsA PZ 44 #[.pointer (some ⟨e,0,none⟩),.int .i64 m] F (BO ex e tb (.slice (some ⟨g,0,none⟩) n c) lr n xs) (L9 ex e tb lr n m xs):=by
 have k:iZ (.slice (some ⟨g,0,none⟩) n c) n c:=.inr ⟨g,rfl,s,a⟩;refine L9.WL ?_;refine fL (svs:=[.own 1000 0,.v (.int .i64 m)]) rfl DH rfl rfl (qy (svs:=[.int .i64 m])) (fun _ _ _ _ _ h=>h) ?_;refine HT rfl k fun F1 r=>?_;refine aV (fun q=>?_) (fun q=>?_) <;>
 ·refine CZ rfl k (by omega) (fun F2 s' ys f d j=>?_) (fun F2 f z=>?_)
  ·exact⟨[1000,1001],_,rfl,by decide,.inl ⟨s',c,ys,d,j,rfl,rfl⟩⟩
  have l:c<=9223372036854775807:=a;refine mT.mk (by omega) ?_;refine Fit.to (m:=((c / 2:Nat):Int)) (by rw[show((c:Int).tdiv 2)=((c / 2:Nat):Int) from rfl,bM (by omega) (by omega)]) ?_;refine Fit.to (m:=((c / 2:Nat):Int)-n) (by rw[bM (by omega) (by omega)]) ?_;refine aV (fun j=>?_) (fun j=>?_)
  ·omega
  refine Fit.to (m:=9223372036854775807-c) (by rw[bM (by omega) (by omega)]) ?_;refine Fit.to (m:=9223372036854775807-c-m) (by rw[bM (by omega) (by omega)]) ?_;refine aV (fun w=>?_) (fun w=>?_)
  ·omega
  refine⟨L8 (by kernel_rfl),?_⟩;refine⟨_,rfl,⟨_,rfl,⟨_,rfl,⟨_,rfl,⟨_,rfl,⟨_,rfl,⟨_,rfl,⟨_,rfl,⟨_,rfl,⟨_,rfl,?_⟩⟩⟩⟩⟩⟩⟩⟩⟩⟩;refine mJ.mk (by omega) (by omega) (by omega) ?_;refine⟨_,rfl,⟨_,rfl,⟨_,rfl,⟨_,rfl,⟨_,rfl,⟨_,rfl,?_⟩⟩⟩⟩⟩⟩;refine Fit.to (m:=(m:Int)) (by rw[bM (by omega) (by omega)];omega) ?_;refine Ea k rfl (by omega) (by omega) o d rfl fun b F3 t y p x=>?_;refine⟨_,rfl,⟨_,rfl,⟨_,rfl,?_⟩⟩⟩;refine Fit.to (m:=((n+m:Nat):Int)) (by rw[bM (by omega) (by omega)];omega) ?_;refine mJ.mk (by omega) (by omega) (by omega) ?_;exact⟨[1000,1001],_,rfl,by decide,.inr ⟨⟨b,t,p,by omega,rfl⟩,rfl⟩⟩
theorem QI (F:aA) (a tb:Nat) (s:Value) (lr:Int) (n c m:Nat) (xs:List Value) (j:iZ s n c) (e:n+m<=70368744177664) (b:xs.length=n) (h:∀u∈xs,u.oneCell'=true) :
  CallsA PZ 44 #[.pointer (some ⟨a,0,none⟩),.int .i64 m] F (BO ex a tb s lr n xs) (L9 ex a tb lr n m xs):=by
 rcases j with⟨rfl,rfl,rfl⟩ | ⟨g,rfl,d,f⟩
 ·obtain rfl:xs=[]:=Xu b;exact QG F a tb lr m (by omega)
 ·exact QH F a tb g lr n c m xs d f e b h
variable {ex:List Value}
theorem iZ.some {a:Option Addr}{n c:Nat}(h:iZ (.slice a n c) n c) (b:0<n):∃g,a=.some ⟨g,0,none⟩:=by
 rcases h with⟨_,rfl,_⟩ | ⟨g,e,_⟩
 ·omega
 ·injection e with e
  exact⟨g,e⟩
theorem Eb {F:aA}{L:Loc}{K:aA->Loc->Value->Prop}{b tb n c m:Nat}{s:Value}{lr:Int}{xs:List Value}(o:L=inp (BO ex b tb s lr n xs)) (r:iZ s n c) (q:n+m<=140737488355328) (t:0<n+m)
  (f:∀F' g d ys,F.le F'->ys.length=m->n+m<=d->d<=maxLen->K F' (inp (BO ex b tb (.slice (some ⟨g,0,none⟩) (n+m) d) lr (n+m) (xs++ys))) (.tuple #[.int .i64 n,.bool true]))
  (l:∀F',F.le F'->c<n+m->K F' (inp (BO ex b tb s lr n xs)) (.tuple #[.int .i64 0,.bool false])):cV PZ 43 [.pointer (some ⟨b,0,none⟩),.int .i64 m] F L K :=
 CZ o r q (fun F' s' ys p j e=>by
  obtain⟨a,rfl,h,k,_⟩:=e.form;obtain⟨g,rfl⟩:=e.some t;exact f F' g c ys p j h k) l
theorem Ec {F:aA}{L:Loc}{K:aA->Loc->Value->Prop}{d tb n c m:Nat}{s:Value}{lr:Int}{xs:List Value}(p:L=inp (BO ex d tb s lr n xs)) (w:iZ s n c) (t:n+m<=70368744177664) (f:xs.length=n) (l:∀u∈xs,u.oneCell'=true) (x:0<n+m)
  (h:∀F' g b ys,F.le F'->ys.length=m->n+m<=b->b<=maxLen->K F' (inp (BO ex d tb (.slice (some ⟨g,0,none⟩) (n+m) b) lr (n+m) (xs++ys))) (.int .i64 n)):cV PZ 44 [.pointer (some ⟨d,0,none⟩),.int .i64 m] F L K :=
 CY p (QI F d tb s lr n c m xs w t f l) fun v F' Lo q r=>by
  obtain⟨s',b,ys,k,e,rfl,rfl⟩:=r;obtain⟨a,rfl,j,o,_⟩:=e.form;obtain⟨g,rfl⟩:=e.some x;exact⟨_,_,_,_,rfl,h F' g b ys q k j o⟩
def RW (ex:List Value) (b tb n m:Nat) (ys:List Value) (r:Value):aA->List Own->Value->Prop:=fun _ Lo v=>∃s' a,iZ s' (n+m) a/\Lo=BO ex b tb s' 0 (n+m) ys/\v=r
theorem wU {xs ys zs:List Value}{n:Nat}(a:xs.length=n) (b:ys.length=zs.length):aM (xs++ys) n zs=xs++zs:=by
 subst a;simp[aM,b]
theorem HV {F:aA}{L:Loc}{j k:Nat}{K:Loc->Prop}{v:Value}{t m c:Nat}{xs:List Value}{a:Addr}(b:Int) (d:L.get k=some (.row v t 1 m xs)) (l:v=.slice (some a) m c) (e:j+1<=xs.length) (h:K (L.set k (.row v t 1 m (aM xs j [.int .u8 b])))):rM F L (some a) j [.int .u8 b] K :=
 ⟨.inl ⟨k,v,t,1,m,xs,a,c,d,rfl,l,e,fun u f=>by rw[XJ.1 f];rfl,h⟩⟩
theorem QJ (F:aA) (f tb:Nat) (s:Value) (lr:Int) (n c:Nat) (x:Int) (xs:List Value) (p:iZ s n c) (z:n+1<=70368744177664) (j:xs.length=n) (r:∀u∈xs,u.oneCell'=true) :
  CallsA PZ 42 #[.pointer (some ⟨f,0,none⟩),.int .u8 x] F (BO ex f tb s lr n xs) (RW ex f tb n 1 (xs++[.int .u8 x]) .nilIface):=by
 refine fL (svs:=[.own 1000 0,.v (.int .u8 x)]) rfl Ks rfl rfl (qy (svs:=[.int .u8 x])) (fun _ _ _ _ _ h=>h) ?_;have b:∀(g a:Nat) (ys:List Value),ys.length=1->aM (xs++ys) (((n:Int).toNat)*1) [.int .u8 x]=xs++[.int .u8 x]:=fun g a ys d=>by
  rw[Nat.mul_one];exact wU j d
 refine Eb (s:=s) (lr:=0) (m:=1) rfl p (by omega) (by omega) (fun F1 g a ys t d l o=>?_) (fun F1 t y=>?_)
 ·refine Da.mk (fun e=>by cases e) (by omega) (by omega) ?_;refine HV (k:=1001) x rfl rfl (by rw[W8,j,d];omega) ?_;exact⟨[1000,1001],_,rfl,by decide,_,a,.inr ⟨g,rfl,l,o⟩,p7 (fun q=>BO ex f tb (.slice (some ⟨g,0,none⟩) (n+1) a) 0 (n+1) q) (b g a ys d),rfl⟩
 ·refine Ec (s:=s) (lr:=0) (m:=1) rfl p (by omega) j r (by omega) fun F2 g a ys w d l o=>?_;refine Da.mk (fun e=>by cases e) (by omega) (by omega) ?_;refine HV (k:=1001) x rfl rfl (by rw[W8,j,d];omega) ?_;exact⟨[1000,1001],_,rfl,by decide,_,a,.inr ⟨g,rfl,l,o⟩,p7 (fun q=>BO ex f tb (.slice (some ⟨g,0,none⟩) (n+1) a) 0 (n+1) q) (b g a ys d),rfl⟩
theorem Lb {g c n p:Nat}(h:n+p<=c):∃j,j+p<=n+p/\(p≠0->j=n)/\fu (some ⟨g,0,none⟩) c n (n+p) 1=.slice (some ((⟨g,0,none⟩:Addr).add (j*1))) p (c-n):=by
 by_cases e:c=n
 ·refine⟨0,by omega,fun a=>xo (by omega) a,?_⟩;simp only[fu,j3 e,Nat.add_sub_cancel_left];rfl
 ·refine⟨n,Xn _,fun _=>rfl,?_⟩;simp only[fu,vv e,Nat.add_sub_cancel_left,Option.map]
theorem Ed {F:aA}{L:Loc}{K:Loc->Nat->Prop}{g a n p d:Nat}{l h:Nat}{pa:Option Addr}{xs ys news:List Value}(k:L.get 1001=some (.row (.slice (some ⟨g,0,none⟩) (n+p) a) 5 1 (n+p) (xs++ys))) (c:l=n) (v:h=n+p) (r:n+p<=a)
  (f:xs.length=n) (y:ys.length=p) (m:news.length=p) (b:bN F pa 0 news\/(p=0/\news=[])) (s:∀u∈news,u.oneCell'=true)
  (w:K (L.set 1001 (.row (.slice (some ⟨g,0,none⟩) (n+p) a) 5 1 (n+p) (xs++news))) p):ze F L 5 1 (fu (some ⟨g,0,none⟩) a l h 1) (.slice pa p d) K:=by
 subst c v;obtain⟨j,o,q,t⟩:=Lb (g:=g) r;refine⟨.inl ⟨1001,p,_,_,_,⟨g,0,none⟩,a,a-l,j,p,pa,d,news,k,rfl,t,o,rfl,by rw[Nat.min_self,m,Nat.mul_one],by rw[Nat.min_self];exact b,s,?_⟩⟩;rw[Nat.min_self];have e:aM (xs++ys) (j*1) news=xs++news:=by
  rw[Nat.mul_one]
  by_cases x:p=0
  ·obtain rfl:news=[]:=Xu (by omega);obtain rfl:ys=[]:=Xu (by omega);simp[aM]
  ·rw[q x];exact wU f (by omega)
 rw[e];exact w
theorem QK (F:aA) (j tb:Nat) (s:Value) (lr:Int) (n c p o:Nat) (pa:Option Addr) (xs news:List Value) (t:iZ s n c) (z:n+p<=70368744177664) (w:0<n+p) (d:xs.length=n) (x:∀u∈xs,u.oneCell'=true)
  (q:news.length=p) (a:bN F pa 0 news\/(p=0/\news=[])) (r:∀u∈news,u.oneCell'=true) :
  CallsA PZ 27 #[.pointer (some ⟨j,0,none⟩),.slice pa p o] F (BO ex j tb s lr n xs) (RW ex j tb n p (xs++news) (.tuple #[.int .i64 p,.nilIface])):=by
 refine fL (svs:=[.own 1000 0,.v (.slice pa p o)]) rfl Kc rfl rfl (qy (svs:=[.slice pa p o])) (fun _ _ _ _ _ h=>h) ?_;refine Eb (s:=s) (lr:=0) rfl t (by omega) w (fun F1 g e ys l f b k=>?_) (fun F1 l y=>?_)
 ·refine mJ.mk (by omega) (by omega) (by omega) ?_;refine Ed rfl (by omega) (by omega) b d f q (a.imp (fun h=>h.mono l) id) r ?_;exact⟨[1000,1001],_,rfl,by decide,_,e,.inr ⟨g,rfl,b,k⟩,rfl,rfl⟩
 ·refine Ec (s:=s) (lr:=0) rfl t (by omega) d x w fun F2 g e ys m f b k=>?_;refine mJ.mk (by omega) (by omega) (by omega) ?_;refine Ed rfl (by omega) (by omega) b d f q (a.imp (fun h=>(h.mono l).mono m) id) r ?_;exact⟨[1000,1001],_,rfl,by decide,_,e,.inr ⟨g,rfl,b,k⟩,rfl,rfl⟩
def HW (t:Nat) (a:List C) (bs:List UInt8):List TO:=[.box t (.rw 1001::IC 0::.int .i8 0::a),.row 5 1 (af bs)]
theorem OY {F:aA}{Li:List Own}{t:Nat}{k:List C}{bs:List UInt8}(hl:Li.length=(HW t k bs).length) (h:cO F (inp Li) (iO (HW t k bs))) :
  ∃f tb s ex,Li=BO ex f tb s 0 bs.length (dA bs)/\tyOk t f (tb+1)/\bs.length<=maxLen/\aB F (inp Li) k ex:=by
 match Li,hl with
 | [j,d],_ =>
  have y:cN F (inp [j,d]) (.box t (.rw 1001::IC 0::.int .i8 0::k)) j:=h 1000;have z:cN F (inp [j,d]) (.row 5 1 (af bs)) d:=h 1001;cases j with
  | row=>exact y.elim
  | box f tb us =>
   cases d with
   | box=>exact z.elim
   | row v t' b n xs =>
    obtain⟨rfl,rfl,hn,⟨hm,a,c,rfl,hc⟩,hr⟩:=z;have hx:=lC hr;subst hx;have r:n=bs.length:=by rw[hn];simp[af]
    subst r;obtain⟨x,w⟩:=y;obtain⟨tb,rfl⟩:∃m,tb=m+1:=Nat.exists_eq_succ_of_ne_zero x.2.2;simp only[aB,Rel] at w;obtain⟨v1,_,rfl,p,v2,_,rfl,l,v3,ex,rfl,q,o⟩:=w;obtain⟨a',c',t',b,n',u,_,hg⟩:=p;have e:some (Own.row (.slice a bs.length c) 5 1 bs.length (dA bs))=some (.row v1 t' b n' u):=hg;injection e with e
    injection e with e1
    subst e1;obtain⟨rfl,_⟩:=l;obtain⟨rfl,_⟩:=q;exact⟨f,tb,_,ex,rfl,x,hm,o⟩
theorem OZ {F:aA}{t d tb c:Nat}{s:Value}{f:List C}{ex:List Value}{bs:List UInt8}(b:aB F (inp (BO ex d tb s 0 bs.length (dA bs))) f ex) (h:tyOk t d (tb+1)) (n:iZ s bs.length c) (m:bs.length<=maxLen):cO F (inp (BO ex d tb s 0 bs.length (dA bs))) (iO (HW t f bs)):=by
 obtain⟨a,rfl,p,r,l⟩:=n.form;intro k;rw[bZ,aS];split
 case isFalse=>trivial
 rename_i o
 match q:k-1000 with
 | 0 =>
  refine⟨h,?_⟩;simp only[aB,Rel];exact⟨_,_,rfl,⟨a,c,5,1,bs.length,dA bs,rfl,rfl⟩,_,_,rfl,⟨rfl,by decide⟩,_,_,rfl,⟨rfl,by decide⟩,b⟩
 | 1=>exact⟨rfl,rfl,by simp[af],⟨m,a,c,rfl,fun e=>(l e).1⟩,oN bs⟩
 | j+2=>trivial
theorem CallsA.WX {P:Program}{f:FuncId}{args:Array Value}{F:aA}{Lin:List Own}{R:aA->List Own->Value->Prop}(hent:∃fn,P.funcs[f]?=some fn/\fn.body.isSome=true/\(fn.name == "runtime.NumGoroutine")=false)
  (hmono:∀F G L v,F.le G->R F L v->R G L v) (h:∀w,St F (inp Lin) w->CallsA P f args F Lin R):CallsA P f args F Lin R:=⟨hent,hmono,fun w hs=>(h w hs).run w hs⟩
theorem CallsA.to {P:Program}{f:FuncId}{args:Array Value}{F:aA}{Lin:List Own}{R R':aA->List Own->Value->Prop}(h:CallsA P f args F Lin R)
  (a:∀F G L v,F.le G->R' F L v->R' G L v) (b:∀F L v,R F L v->R' F L v):CallsA P f args F Lin R':=⟨h.ent,a,fun w l=>(h.run w l).mono fun e w' ⟨v,F',Lo,c,k,j,d⟩=>⟨v,F',Lo,c,k,j,b _ _ _ d⟩⟩
theorem Sf {f t:Nat}{args:List C}{ec:List C}{bs:List UInt8}{ys:List UInt8}{r:C}(hp:dF ec=true) (hent:∃fn,Tryd.prog.funcs[f]?=some fn/\fn.body.isSome=true/\(fn.name == "runtime.NumGoroutine")=false)
  (hm:bs.length+ys.length<=70368744177664) (rv:Value) (hr:∀F L,Rel F L r rv)
  (h:∀F gb tb s c ex vs,iZ s bs.length c->aB F (inp (BO ex gb tb s 0 bs.length (dA bs))) args vs->CallsA PZ f vs.toArray F (BO ex gb tb s 0 bs.length (dA bs)) (RW ex gb tb bs.length ys.length (dA bs++dA ys) rv)) :
  CallsT PZ f args (HW t ec bs) (iK (HW t ec (bs++ys)) r):=by
 refine⟨fun F Li vs h1 h2 h3=>?_⟩;obtain⟨gb,tb,s,ex,rfl,ht,hm0,hex⟩:=OY h1 h2;refine CallsA.WX hent gk.Wt fun w hs=>?_;obtain⟨c,hrv⟩:=z8 hs (k:=1001) rfl;have hA:=h F gb tb s c ex vs hrv h3;refine⟨hA.ent,gk.Wt,fun w hs=>(hA.run w hs).mono ?_⟩;rintro e w' ⟨v,F',Lo,h1,h2,h3,s',c',hs',rfl,rfl⟩;refine⟨_,F',_,h1,h2,h3,?_⟩;have hl:(bs++ys).length=bs.length+ys.length:=W8;rw[<-Fs,<-hl];rw[<-hl] at hs';refine⟨HW t ec (bs++ys),r,rfl,OZ (dU hp (hex.mono h3.le)) ht hs' (by rw[hl];simp only[maxLen];omega),hr _ _,fun i g t0 cs e=>?_,rfl,rfl⟩
 match i with
 | 0 =>
  injection e with e
  injection e with e1 e2 e3
  subst e1 e2;exact⟨_,rfl⟩
 | 1=>injection e with e;cases e
 | i+2=>cases e
theorem O0:∃fn,Tryd.prog.funcs[42]?=some fn/\fn.body.isSome=true/\(fn.name == "runtime.NumGoroutine")=false:=⟨_,Tryd.func42,by kernel_rfl,by kernel_rfl⟩
theorem O1:∃fn,Tryd.prog.funcs[27]?=some fn/\fn.body.isSome=true/\(fn.name == "runtime.NumGoroutine")=false:=⟨_,Tryd.func27,by kernel_rfl,by kernel_rfl⟩
theorem Ee {F:aA}{b tb:Nat}{s:Value}{n:Nat}{xs ex:List Value}{v:Value}(h:Rel F (inp (BO ex b tb s 0 n xs)) (.own 1000 0) v):v=.pointer (some ⟨b,0,none⟩):=by
 simp only[Rel] at h;obtain⟨g,t,cs,e,rfl⟩:=h;have a:some (Own.box b (tb+1) (s::.int .i64 0::.int .i8 0::ex))=some (.box g t cs):=e;injection a with a
 injection a with e1
 rw[e1]
theorem Fu (t:Nat) (b:List C) (a:dF b=true) (bs:List UInt8) (x:UInt8) (f:bs.length+1<=70368744177664) :
  CallsT PZ 42 [.own 1000 0,.int .u8 x.toNat] (HW t b bs) (iK (HW t b (bs++[x])) (.opq 0)):=by
 refine Sf (ys:=[x]) a O0 f .nilIface (fun _ _=>za) fun F j tb s c ex vs k d=>?_;simp only[aB] at d;obtain⟨v1,_,rfl,h,l,_,rfl,e,rfl⟩:=d;rw[Ee h];simp only[Rel] at e;rw[e.1];exact QJ F j tb s 0 bs.length c x.toNat (dA bs) k f (nK bs) (mD bs)
theorem O2 (t:Nat) (d:List C) (b:dF d=true) (bs ys:List UInt8) (f:bs.length+ys.length<=70368744177664) (o:0<bs.length+ys.length) :
  CallsT PZ 27 [.own 1000 0,.sl (af ys)] (HW t d bs) (iK (HW t d (bs++ys)) (.tup [IC ys.length,.opq 0])):=by
 refine Sf b O1 f (.tuple #[.int .i64 ys.length,.nilIface]) (fun F L=>?_) fun F j tb s c ex vs m e=>?_
 ·simp only[Rel,aB];exact⟨[_,_],rfl,_,_,rfl,⟨rfl,by simp[Lit.wf,IntKind.min,IntKind.max,IntKind.signed,IntKind.bits];omega⟩,_,_,rfl,za,rfl⟩
 simp only[aB] at e;obtain⟨v1,_,rfl,h,p,_,rfl,l,rfl⟩:=e;rw[Ee h];obtain⟨a,n,rfl,_,_,k⟩:=wT l;exact QK F j tb s 0 bs.length c ys.length n a (dA bs) (dA ys) m f o (nK bs) (mD bs) (nK ys) k (mD ys)
end Go.Fr.Tryd
