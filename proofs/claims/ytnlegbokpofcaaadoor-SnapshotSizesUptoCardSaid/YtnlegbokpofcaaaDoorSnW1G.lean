/- Part of the proofs of the statements of this seat. -/
import Derived.Test.YtnlegbokpofcaaaDoorFW3
import Derived.Test.YtnlegbokpofcaaaDoorSnCode
set_option maxRecDepth 10000
set_option linter.unusedVariables false
set_option linter.unusedSimpArgs false
namespace Go.Fr.Tryd
open Go Go.RowKit Go.Proofs Go.Fr Go.Fr.T Go.Fr.Api
noncomputable abbrev PZ:Program:=Tryd.prog
def eV:Value:=.iface 98 (.agg #[])
inductive Vl where
 | mk (kind id variant n:Int) (fields:List Vl) (excl:Bool) (path loans:List Int)
structure Ce where
 live:Bool
 arena:Int
 value:Vl
structure Ac where
 number:Int
 routine:Int
 block:Int
 index:Int
 dst:Int
 slots:List Vl
 since:List Int
structure Ln where
 frame:Int
 slot:Int
 excl:Bool
 re:Bool
 over:Bool
structure Tk where
 state:Int
 frames:List Ac
 loans:List Ln
 allocs:Int
 clock:Int
 next:Int
 cells:List Int
structure Ou where
 task:Int
 number:Int
structure Wd where
 cells:List Ce
 arenas:List Bool
 tasks:List Tk
 channels:List (List Vl)
 outputs:List Ou
 made:Int
 dropped:Int
 closed:Int
mutual
def rJ:Vl->List C
 | .mk k i v n f e p l=>[IC k,IC i,IC v,IC n,.sl (Le f),.bool e,.sl (wN p),.sl (wN l)]
def Le:List Vl->List (List C)
 | []=>[]
 | x::xs=>rJ x::Le xs
end
theorem sL:∀l:List Vl,Le l=l.map rJ
 | []=>rfl
 | x::xs=>by rw[Le,sL xs];rfl
def Eb (x:Ce):List C:=.bool x.live::IC x.arena::rJ x.value
def Me (l:List Vl):List C:=[.sl (l.map rJ)]
def FN (x:Ac):List C:=[IC x.number,IC x.routine,IC x.block,IC x.index,IC x.dst,.sl (x.slots.map rJ),.sl (wN x.since)]
def IL (x:Ln):List C:=[IC x.frame,IC x.slot,.bool x.excl,.bool x.re,.bool x.over]
def Ec (x:Tk):List C:=[IC x.state,.sl (x.frames.map FN),.sl (x.loans.map IL),IC x.allocs,IC x.clock,IC x.next,.sl (wN x.cells)]
def Mf (x:Ou):List C:=[IC x.task,IC x.number]
def HV (b:Bool):List C:=[.bool b]
def Om (x:Wd):List C:=[.sl (x.cells.map Eb),.sl (x.arenas.map HV),.sl (x.tasks.map Ec),.sl (x.channels.map Me),.sl (x.outputs.map Mf),IC x.made,IC x.dropped,IC x.closed]
theorem aK {bs:List UInt8}:(af bs).length=bs.length:=by simp[af]
theorem eC {bs:List UInt8}:∀es∈af bs,es.length=1:=by
 intro es h;simp only[af,XI] at h;obtain⟨b,_,rfl⟩:=h;rfl
theorem eO (bs:List UInt8) (n m:Nat):((af bs).drop n).take m=af ((bs.drop n).take m):=by simp[af]
theorem Fit.to {k:IntKind}{n m:Int}{K:Int->Prop}(h:k.wrap n=m) (a:K m):Fit k n K:=⟨by rw[h];exact a⟩
theorem bL {n:Int}(a:-9223372036854775808<=n) (b:n<=9223372036854775807):IntKind.wrap .i64 n=n:=by
 simp only[IntKind.wrap,IntKind.bits,IntKind.signed,X7,X1,ge_iff_le,Nat.reduceSub,Int.reducePow];split<;>omega
theorem qG {bs:List UInt8}{els:List (List C)}{K:Prop}(n:Nat) (a:els.length=n) (h:n+bs.length<=140737488355328) (k:K):rz els (af bs) 1 1 K :=
 ⟨eC,by rw[aK,a];simp only[maxLen];omega,by rw[aK,a];omega,k⟩
theorem tQ {L L1:TL}{k t sz:Nat}(h:L.get k=none) (a:L1.get k=some (.row t sz [])):IJ L L1 .nils (.rw k):=.inr (.inr (.inr (.inl ⟨rfl,k,t,sz,rfl,h,a⟩)))
theorem O7 {L:TL}{K:TL->Prop}(h:K L):fT L K:=by rw[eD];exact h
abbrev Dec (a:Type):=List UInt8->Option (a×List UInt8)
def bound:Int:=1099511627776
def takeD (n:Int):Dec (List UInt8):=fun l=>if 0<=n/\n<=l.length then some (l.take n.toNat,l.drop n.toNat) else none
def Mg (z:Nat):Int:=if z % 2=0 then((z / 2:Nat):Int) else -((z / 2:Nat):Int)-1
def mF:Nat->Nat->Nat->Dec Int
 | 0,_,_,_=>none
 | _+1,_,_,[]=>none
 | f+1,k,z,c::r=>if c.toNat<128 then(if 0<c.toNat\/k=0 then some (Mg (z+c.toNat*128 ^ k),r) else none)
  else mF f (k+1) (z+(c.toNat-128)*128 ^ k) r
def getD:Dec Int:=mF 6 0 0
def gk:Dec Int:=fun l=>match getD l with
 | some (n,r)=>if -bound<=n/\n<=bound then some (n,r) else none
 | none=>none
def CY:Dec Nat:=fun l=>match getD l with
 | some (n,r)=>if 0<=n/\n<=100000/\n<=r.length then some (n.toNat,r) else none
 | none=>none
def oZ:Dec Bool:=fun l=>match gk l with
 | some (n,r)=>if n=0\/n=1 then some (decide (n=1),r) else none
 | none=>none
def bA {a:Type}(f:Dec a):Nat->Dec (List a)
 | 0,l=>some ([],l)
 | n+1,l=>match f l with
  | some (x,r)=>match bA f n r with
   | some (xs,r)=>some (x::xs,r)
   | none=>none
  | none=>none
def fP {b a:Type}(f:Dec b) (k:b->Dec a):Dec a:=fun l=>match f l with
 | none=>none
 | some (x,r)=>k x r
theorem aS {a b:Type}{f:Dec a}{k:a->Dec b}{l:List UInt8}(h:f l=none):fP f k l=none:=by simp only[fP,h]
theorem aj {a b:Type}{f:Dec a}{k:a->Dec b}{l r:List UInt8}{x:a}(h:f l=some (x,r)):fP f k l=k x r:=by simp only[fP,h]
def wS {a:Type}(x:a):Dec a:=fun l=>some (x,l)
def dD {a:Type}(f:Dec a):Dec (List a):=fP CY fun n=>bA f n
def Lg:Nat->Dec Vl
 | 0=>fun _=>none
 | d+1=>fP (bA gk 4) fun a=>fP (dD (Lg d)) fun f=>fP (bA oZ 1) fun e=>fP (dD gk) fun p=>fP (dD gk) fun l=>wS (.mk (a.getD 0 0) (a.getD 1 0) (a.getD 2 0) (a.getD 3 0) f (e.getD 0 false) p l)
def HW:Dec Vl:=Lg 60
def Oo:Dec Ce:=fP (bA oZ 1) fun b=>fP (bA gk 1) fun a=>fP HW fun v=>wS ⟨b.getD 0 false,a.getD 0 0,v⟩
def P8:Dec (List Vl):=dD HW
def Oq:Dec Ac:=fP (bA gk 5) fun a=>fP P8 fun s=>fP (dD gk) fun c=>wS ⟨a.getD 0 0,a.getD 1 0,a.getD 2 0,a.getD 3 0,a.getD 4 0,s,c⟩
def O8:Dec Ln:=fP (bA gk 2) fun a=>fP (bA oZ 3) fun b=>wS ⟨a.getD 0 0,a.getD 1 0,b.getD 0 false,b.getD 1 false,b.getD 2 false⟩
def Mh:Dec Tk:=fP (bA gk 1) fun s=>fP (dD Oq) fun f=>fP (dD O8) fun l=>fP (bA gk 3) fun a=>fP (dD gk) fun c=>wS ⟨s.getD 0 0,f,l,a.getD 0 0,a.getD 1 0,a.getD 2 0,c⟩
def QC:Dec Ou:=fP (bA gk 2) fun a=>wS ⟨a.getD 0 0,a.getD 1 0⟩
def QD:Dec Bool:=fP (bA oZ 1) fun b=>wS (b.getD 0 false)
def Ed:Dec Wd:=fP (dD Oo) fun c=>fP (dD QD) fun a=>fP (dD Mh) fun t=>fP (dD P8) fun h=>fP (dD QC) fun o=>fP (bA gk 3) fun m=>wS ⟨c,a,t,h,o,m.getD 0 0,m.getD 1 0,m.getD 2 0⟩
theorem yX {n:Int}{bs:List UInt8}(h:0<=n) (k:n<=bs.length):takeD n bs=some (bs.take n.toNat,bs.drop n.toNat):=by simp[takeD,h,k]
abbrev Enc:=List UInt8×Bool
def Ot:Enc:=([],true)
def Ad (b:Bool):Enc:=([],b)
def bn (a b:Enc):Enc:=(a.1++b.1,a.2&&b.2)
def bQ (z:Nat):List UInt8:=if h:z<128 then[UInt8.ofNat z] else UInt8.ofNat (128+z % 128)::bQ (z / 128)
termination_by z
decreasing_by omega
def zz (n:Int):Nat:=if n<0 then(-2*n-1).toNat else(2*n).toNat
def aX {a:Type}(f:a->Enc):List a->Enc
 | []=>Ot
 | x::l=>bn (f x) (aX f l)
structure Kd where
 t:Nat
 tb:Nat
 num:Int->Enc
 siz:Int->Enc
 deep:Bool
def Cj (n:Int):List UInt8:=(List.range 8).map fun k=>UInt8.ofNat ((n.fdiv (2 ^ (8*k))).emod 256).toNat
def kW:Kd:=⟨60,66,fun n=>(bQ (zz n),decide (-1099511627776<=n)&&decide (n<=1099511627776)),fun n=>(bQ (zz n),decide (n<=100000)),false⟩
def kL:Kd:=⟨94,95,fun n=>(Cj n,true),fun n=>(Cj n,true),true⟩
section
variable (k:Kd)
def qg (b:Bool):Enc:=k.num (if b=true then 1 else 0)
def bS {a:Type}(f:a->Enc) (l:List a):Enc:=bn (k.siz l.length) (aX f l)
mutual
def Az:Vl->Int->Enc
 | .mk a b c n f e p l,d=>bn (Ad (decide (0<d)||k.deep)) (bn (aX k.num [a,b,c,n]) (bn (bn (k.siz f.length) (CZ f (d-1))) (bn (aX (qg k) [e]) (bn (bS k k.num p) (bS k k.num l)))))
def CZ:List Vl->Int->Enc
 | [],_=>Ot
 | x::xs,d=>bn (Az x d) (CZ xs d)
end
theorem tT (d:Int):∀l:List Vl,CZ k l d=aX (fun x=>Az k x d) l
 | []=>rfl
 | x::xs=>by rw[CZ,tT d xs];rfl
def yY (v:Vl):Enc:=Az k v 60
def QE (x:Ce):Enc:=bn (aX (qg k) [x.live]) (bn (aX k.num [x.arena]) (yY k x.value))
def P9 (l:List Vl):Enc:=bS k (yY k) l
def QF (x:Ac):Enc:=bn (aX k.num [x.number,x.routine,x.block,x.index,x.dst]) (bn (P9 k x.slots) (bS k k.num x.since))
def QG (x:Ln):Enc:=bn (aX k.num [x.frame,x.slot]) (aX (qg k) [x.excl,x.re,x.over])
def QH (x:Tk):Enc:=bn (aX k.num [x.state]) (bn (bS k (QF k) x.frames) (bn (bS k (QG k) x.loans) (bn (aX k.num [x.allocs,x.clock,x.next]) (bS k k.num x.cells))))
def QI (x:Ou):Enc:=aX k.num [x.task,x.number]
def QJ (b:Bool):Enc:=aX (qg k) [b]
def uy (x:Wd):Enc:=bn (bS k (QE k) x.cells) (bn (bS k (QJ k) x.arenas) (bn (bS k (QH k) x.tasks) (bn (bS k (P9 k) x.channels) (bn (bS k (QI k) x.outputs) (aX k.num [x.made,x.dropped,x.closed])))))
end
mutual
/-- how deep a value is -/
def Fu:Vl->Nat
 | .mk _ _ _ _ f _ _ _=>HX f+1
def HX:List Vl->Nat
 | []=>0
 | x::xs=>max (Fu x) (HX xs)
end
theorem wT:∀{l:List Vl}{x:Vl},x∈l->Fu x<=HX l
 | y::l,x,h=>by
  rw[HX];rcases Xh.1 h with rfl | h
  ·exact Nat.le_max_left _ _
  ·exact X0 (wT h) (Nat.le_max_right _ _)
def WB (t:Nat) (bs:List UInt8):List TO:=[.box t [.rw 1001,IC 0,.int .i8 0],.row 5 1 (af bs)]
def C0 (t:Nat) (bs:List UInt8):TL:=[(1000,.box t [.rw 1001,IC 0,.int .i8 0]),(1001,.row 5 1 (af bs))]
def Qa (k:Kd) (f:Nat) (args:List C) (e:Enc) (x:C):Prop:=∀bs,bs.length+e.1.length<=70368744177664 ->
 CallsTX PZ f args (WB k.tb bs) (fun Mo c=>e.2=true/\Mo=WB k.tb (bs++e.1)/\c=x) (fun v=>v=eV/\e.2=false)
abbrev eP (k:Kd) (f:Nat) (args:List C) (e:Enc):Prop:=Qa k f args e (.tup [])
def RB (bs:List UInt8):TO:=.box 54 [.sl (af bs)]
def Lh {a:Type}(f:Nat) (args:List C) (bs:List UInt8) (o:Option (a×List UInt8)) (cell:a->C):Prop :=
 CallsTX PZ f args [RB bs] (fun Mo c=>∃y r,o=some (y,r)/\Mo=[RB r]/\c=cell y) (fun v=>v=eV/\o=none)
def ga {b:Type}(f:Nat) (fi ca:List C) (a:Dec b) (z:List C) (cs:b->List C):Prop:=∀(t:Nat) (pre post:List C) (bs:List UInt8),bY pre->bY post ->
 CallsTX PZ f (fi++.ifo none 52 1000 0::.own 1001 pre.length::ca) [RB bs,.win t pre z post] (fun Mo c=>∃x r,a bs=some (x,r)/\Mo=[RB r,.win t pre (cs x) post]/\c=.tup []) (fun v=>v=eV/\a bs=none)
def Mi (b:Bool):Prop:=CallsTX PZ 36 [.bool b] [] (fun Mo c=>b=true/\Mo=[]/\c=.tup []) (fun v=>v=eV/\b=false)
section
variable {L:TL}{ρ:aU}
theorem tU {PS:o7}{b:Bool}{args:List C}{K:TL->aU->C->Prop}(h:Mi b) (a:args=[.bool b]) (f:b=false->PS.ps eV) (k:b=true->K L ρ (.tup [])) (c:kU L [] PS.hb=true:=by rfl):oh PZ PS 36 args L ρ K:=by
 subst a;refine .mk ⟨[],[],[],L,[],_,_,.inl rfl,rfl,rfl,rfl,rfl,rfl,c,h,fun v ⟨e,h⟩=>e▸f h,?_⟩;rintro v Mo ⟨j,rfl,rfl⟩ l d;exact⟨rfl,k j⟩
theorem cS {R:List TO->C->Prop}(ko:List Nat) {Lin Mo Lo:List TO}{v x:C}(c:L.sub ko=some Mo) (a:(T.bE ko&&aQ Lin (List.range' 1000 Lin.length) ko)=true) (b:Mo.map (TO.Wv (C.ren (cn ko 1000)))=Lo) (e:v.WM.ren (cn ko 1000)=x) (h:R Lo x):oU Lin L v R:=by
 simp only[Xf] at a;exact⟨[],ko,L,v,v,Mo,rfl,.inl ⟨rfl,rfl⟩,c,a.1,a.2,fun _=>by rw[b,e];exact h⟩
theorem qh {R:List TO->C->Prop}(b ko:List Nat) {Lin:List TO}{v:C}(e:vS b L (fun _=>.any) [v] fun L _ vs=>∃c Mo,vs=[c]/\L.sub ko=some Mo/\(T.bE ko&&aQ Lin (List.range' 1000 Lin.length) ko)=true/\R (Mo.map (TO.Wv (C.ren (cn ko 1000)))) (c.WM.ren (cn ko 1000))):oU Lin L v R:=by
 refine⟨b,ko,?_⟩;refine uo.frzK_imp e ?_;rintro L ρ vs ⟨c,Mo,rfl,f,a,d⟩;simp only[Xf] at a;exact⟨L,c,c,Mo,rfl,.inl ⟨rfl,rfl⟩,f,a.1,a.2,fun _=>d⟩
theorem bP (ks:List Nat) {PS:o7}{f:Nat}{args a:List C}{K:TL->aU->C->Prop}{R:List TO->C->Prop}{Pp:Value->Prop}{Lin Lin':List TO}(h:CallsTX PZ f a Lin' R Pp) (n:L.sub ks=some Lin)
  (b:(T.bE ks&&T.lu L ks ks&&aQ Lin ks ks)=true) (m:(args.map fun c=>c.WA.ren (cn ks 1000))=a) (e:Lin.map (TO.Wv (C.ren (cn ks 1000)))=Lin') (p:∀v,Pp v->PS.ps v)
  (k:∀v Mo,R Mo v->Wf v->(∀o∈Mo,o.Wf)->ks.length=Mo.length/\K (((L.Wu ks).kills (rowsOf L ks)).puts ks (Mo.map (TO.Wv (C.ren (aW ks))))) (eK (rowsOf L ks) ρ) (v.ren (aW ks)).slt) (l:kU L ks PS.hb=true:=by rfl):oh PZ PS f args L ρ K:=by
 subst m e;simp only[Xf] at b;obtain⟨⟨d,j⟩,c3⟩:=b;exact .mk ⟨[],ks,ks,L,Lin,_,_,.inl rfl,n,d,d,j,c3,l,h,p,k⟩
theorem bZ (ks:List Nat) {PS:o7}{d:List Nat}{f:Nat}{args a:List C}{K:TL->aU->C->Prop}{R:List TO->C->Prop}{Pp:Value->Prop}{Lin Lin':List TO}(h:CallsTX PZ f a Lin' R Pp) (n:L.sub ks=some Lin)
  (b:(T.bE ks&&vU ks d&&aQ Lin ks ks)=true) (m:(args.map fun c=>c.WA.ren (cn ks 1000))=a) (e:Lin.map (TO.Wv (C.ren (cn ks 1000)))=Lin') (p:∀v,Pp v->PS.ps v)
  (k:∀v Mo,R Mo v->Wf v->(∀o∈Mo,o.Wf)->ks.length=Mo.length/\K (((L.Wu ks).kills (rowsOf L ks)).puts ks (Mo.map (TO.Wv (C.ren (aW ks))))) (eK (rowsOf L ks) ρ) (v.ren (aW ks)).slt) (l:kU L ks PS.hb=true:=by rfl):mS PZ PS d f args L ρ K:=by
 subst m e;simp only[Xf] at b;obtain⟨⟨q,j⟩,c3⟩:=b;exact⟨ks,Lin,_,_,n,q,j,c3,l,h,p,k⟩
end
theorem sQ (b:Bool):Mi b:=by
 refine ai Tryd.func36 Ku rfl fun _ _=>?_;cases b
 ·exact OM rfl ⟨rfl,rfl⟩
 ·exact cS [] rfl rfl rfl rfl ⟨rfl,rfl,rfl⟩
end Go.Fr.Tryd
namespace Go.Fr.Tryd
open Go Go.RowKit Go.Proofs Go.Fr Go.Fr.T
theorem St.reslice {F:aA}{L:Loc}{w:World}{k g t sz n n' c:Nat}{xs:List Value}(m:St F L w) (l:L.get k=some (.row (.slice (some ⟨g,0,none⟩) n c) t sz n xs)) (j:n'<=c) :
  ∃ys,ys.length=n'*sz/\(∀i,i<n*sz->i<n'*sz->ys[i]?=xs[i]?)/\St F (L.set k (.row (.slice (some ⟨g,0,none⟩) n' c) t sz n' ys)) w:=by
 have h:=m.own k _ l;simp only[Own.ok] at h;obtain⟨x,⟨e,_⟩ | ⟨o,cap,a,e,q,p,v,r,f,u⟩⟩:=h
 ·cases e
 ·injection e with e1 e2 e3
  injection e1 with e1
  injection e1 with e1 _ _
  subst e1 e3;have s:n'*sz<=c*sz:=Nat.mul_le_mul_right _ j;refine⟨a.toList.take (n'*sz),?_,fun i hi b=>?_,?_⟩
  ·rw[Xx,Array.length_toList,f];omega
  ·rw[<-u,List.getElem?_take_of_lt hi,List.getElem?_take_of_lt b]
  ·refine m.turn l (o':=.row (.slice (some ⟨g,0,none⟩) n' c) t sz n' (a.toList.take (n'*sz))) ?_ (fun _ _ _=>rfl) (fun o d=>.inl d);exact⟨by rw[Xx,Array.length_toList,f];omega,.inr ⟨g,c,a,rfl,q,p,j,r,f,rfl⟩⟩
theorem CallsA.WY {P:Program}{f:FuncId}{args:Array Value}{F:aA}{Lin:List Own}{R R':aA->List Own->Value->Prop}(h:CallsA P f args F Lin R) (d:∀F G L v,F.le G->R' F L v->R' G L v)
  (l:∀F' Lo v w',St F' (inp Lo) w'->R F' Lo v->∃Lo',St F' (inp Lo') w'/\(∀b,(inp Lo').owns b->(inp Lo).owns b)/\R' F' Lo' v):CallsA P f args F Lin R':=by
 refine⟨h.ent,d,fun w m=>(h.run w m).mono ?_⟩;rintro e w' ⟨v,F',Lo,rfl,c,a,n⟩;obtain⟨Lo',j,o,k⟩:=l F' Lo v w' c n;exact⟨v,F',Lo',rfl,j,⟨a.le,a.os,a.tape,a.output,a.size,a.same,a.frz,fun b hb=>a.own b (o b hb)⟩,k⟩
def ja (s:Value) (n c:Nat):Prop:=(s=.slice none 0 0/\n=0/\c=0)\/∃g,s=.slice (some ⟨g,0,none⟩) n c/\n<=c/\c<=maxLen
theorem ja.form {s:Value}{n c:Nat}(h:ja s n c):∃a,s=.slice a n c/\n<=c/\c<=maxLen/\(a=none->n=0/\c=0):=by
 rcases h with⟨rfl,rfl,rfl⟩ | ⟨g,rfl,b,d⟩
 ·exact⟨none,rfl,Xy _,XG _,fun _=>⟨rfl,rfl⟩⟩
 ·exact⟨_,rfl,b,d,fun e=>by cases e⟩
theorem Ae {F:aA}{L:Loc}{w:World}{k t sz n:Nat}{v:Value}{xs:List Value}(l:St F L w) (j:L.get k=some (.row v t sz n xs)):∃c,ja v n c:=by
 have a:=l.own k _ j;simp only[Own.ok] at a;obtain⟨q,⟨e,m⟩ | ⟨d,cap,f,e,p,o,b,h,s,r⟩⟩:=a
 ·exact⟨0,.inl ⟨e,m,rfl⟩⟩
 ·exact⟨cap,.inr ⟨d,e,b,h⟩⟩
def BO (ex:List Value) (a tb:Nat) (s:Value) (lr:Int) (n:Nat) (xs:List Value):List Own:=[.box a (tb+1) (s::.int .i64 0::.int .i8 lr::ex),.row s 5 1 n xs]
theorem HY {ex:List Value}{a tb:Nat}{s:Value}{lr:Int}{n:Nat}{xs:List Value}:inp (BO ex a tb s lr n xs)=[(1000,.box a (tb+1) (s::.int .i64 0::.int .i8 lr::ex)),(1001,.row s 5 1 n xs)]:=rfl
theorem HZ {Lin:List Own}(svs:List SV) (n:Nat) (a:∀v∈svs,(∀k off,v=.own k off->∃g ty cs,(inp Lin).get k=some (.box g ty cs))/\(∀d j,v=.el d j->d≠none)) :
  aC (inp Lin) (rS 0 svs) {tmps:=(svs.map (conc (inp Lin))).toArray++Array.replicate (n-(svs.map (conc (inp Lin))).toArray.size) undef,defers:=[]}:=by
 have c:∀t,rS 0 svs t=.v undef\/rS 0 svs t∈svs:=by
  intro t;rw[pK];simp only[XG,XA,Nat.sub_zero];cases e:svs[t]? with
  | none=>exact .inl rfl
  | some v=>exact .inr (Xi e)
 refine⟨fun t=>?_,fun t k off e=>?_,fun t d j e=>?_⟩
 ·rw[pK];simp only[XG,XA,Nat.sub_zero,XC];cases e:svs[t]? with
  | some v =>
   have f:t<svs.length:=(Xe.1 e).1;rw[Array.getElem?_append_left (by simpa using f)];simp[e]
  | none =>
   have h:svs.length<=t:=X3.1 e;rw[Array.getElem?_append_right (by simpa using h)];simp only[Array.getElem?_replicate,Option.getD_none,conc];split<;>rfl
 ·rcases c t with b | b
  ·rw[b] at e;cases e
  ·exact(a _ b).1 k off e
 ·rcases c t with b | b
  ·rw[b] at e;cases e
  ·exact(a _ b).2 d j e
variable {ex:List Value}
theorem qE {c tb:Nat}{s:Value}{lr:Int}{n:Nat}{xs:List Value}{svs:List Value}:∀v∈(SV.own 1000 0::svs.map SV.v),(∀k off,v=.own k off->∃g ty cs,(inp (BO ex c tb s lr n xs)).get k=some (.box g ty cs))/\(∀b j,v=.el b j->b≠none):=by
 intro v a;rcases Xh.1 a with rfl | a
 ·exact⟨fun k off e=>by injection e with e1 e2;subst e1;exact⟨_,_,_,rfl⟩,fun _ _ e=>by cases e⟩
 ·obtain⟨u,_,rfl⟩:=XI.1 a;exact⟨fun _ _ e=>(by cases e),fun _ _ e=>(by cases e)⟩
theorem Ll {s:Value}{n c h:Nat}{a:Option Addr}(b:ja s n c) (e:s=.slice a n c):fC a c 0 h 1=.slice a h c:=by
 rcases b with⟨rfl,rfl,rfl⟩ | ⟨g,rfl,_,_⟩
 ·injection e with e1 e2 e3
  subst e1;simp[fC]
 ·injection e with e1 e2 e3
  subst e1;simp[fC,Addr.add]
def VU (ex:List Value) (a tb:Nat) (s:Value) (lr:Int) (n c m:Nat) (xs:List Value):aA->List Own->Value->Prop:=fun _ Lo v =>
 (∃s' ys,ys.length=m/\ja s' (n+m) c/\Lo=BO ex a tb s' lr (n+m) (xs++ys)/\v=.tuple #[.int .i64 n,.bool true]) \/
 (c<n+m/\Lo=BO ex a tb s lr n xs/\v=.tuple #[.int .i64 0,.bool false])
theorem QK (F:aA) (d tb:Nat) (s:Value) (lr:Int) (n c m:Nat) (xs:List Value) (u:ja s n c) (hm:n+m<=140737488355328) :
  CallsA PZ 43 #[.pointer (some ⟨d,0,none⟩),.int .i64 m] F (BO ex d tb s lr n xs) (VU ex d tb s lr n c m xs):=by
 obtain⟨a,rfl,y,l,ha⟩:=u.form;unfold maxLen at l;have x:CallsA PZ 43 #[.pointer (some ⟨d,0,none⟩),.int .i64 m] F (BO ex d tb (.slice a n c) lr n xs) (fun _ Lo v =>
   (n+m<=c/\Lo=[.box d (tb+1) (.slice a (n+m) c::.int .i64 0::.int .i8 lr::ex),.row (.slice a n c) 5 1 n xs]/\v=.tuple #[.int .i64 n,.bool true]) \/
   (c<n+m/\Lo=BO ex d tb (.slice a n c) lr n xs/\v=.tuple #[.int .i64 0,.bool false])):=by
  refine fQ (svs:=[.own 1000 0,.v (.int .i64 m)]) rfl KC rfl rfl (qE (svs:=[.int .i64 m])) (fun _ _ _ _ _ h=>h) ?_;refine Fit.Ww (by omega) (by omega) ?_;refine aR (fun h=>?_) (fun h=>?_)
  ·refine Fit.Ww (by omega) (by omega) ?_;refine mO.mk (by omega) (by omega) (by omega) ?_;have e:((n:Int)+m).toNat=n+m:=by omega
   have e2:fC a c 0 ((n:Int)+m).toNat 1=.slice a (n+m) c:=by rw[e];exact Ll u rfl
   exact⟨[1000,1001],_,rfl,by decide,.inl ⟨by omega,p7 (fun q=>[Own.box d (tb+1) (q::.int .i64 0::.int .i8 lr::ex),.row (.slice a n c) 5 1 n xs]) e2,rfl⟩⟩
  ·exact⟨[1000,1001],_,rfl,by decide,.inr ⟨by omega,rfl,rfl⟩⟩
 refine CallsA.WY x (fun _ _ _ _ _ h=>h) ?_;rintro F' Lo v w' f (⟨j,rfl,rfl⟩ | ⟨p,rfl,rfl⟩)
 ·rcases u with⟨e,rfl,rfl⟩ | ⟨g,e,_,_⟩
  ·injection e with e1 _ _
   subst e1;have:m=0:=by omega
   subst this;exact⟨_,f,fun b h=>h,.inl ⟨.slice none 0 0,[],rfl,.inl ⟨rfl,rfl,rfl⟩,by simp[BO],rfl⟩⟩
  ·injection e with e1 _ _
   subst e1;have w:(inp [.box d (tb+1) (.slice (some ⟨g,0,none⟩) (n+m) c::.int .i64 0::.int .i8 lr::ex),.row (.slice (some ⟨g,0,none⟩) n c) 5 1 n xs]).get 1001=some (.row (.slice (some ⟨g,0,none⟩) n c) 5 1 n xs):=rfl;have t:xs.length=n:=by
    have:=(f.own _ _ w).1;simpa using this
   obtain⟨ys,y1,y2,z⟩:=St.reslice f w j;have r:ys=xs++ys.drop n:=by
    apply XP;intro i
    by_cases hi:i<n
    ·rw[y2 i (by omega) (by omega),Xl (by omega)]
    ·rw[Xr (by omega),XH,t];congr 1;omega
   refine⟨BO ex d tb (.slice (some ⟨g,0,none⟩) (n+m) c) lr (n+m) ys,z,fun b hb=>?_,.inl ⟨_,ys.drop n,by rw[XV,y1];omega,.inr ⟨g,rfl,j,by unfold maxLen;omega⟩,by rw[<-r],rfl⟩⟩;obtain⟨k,o,e,hb⟩:=hb;rw[HY] at e;simp only[Loc.get] at e;split at e
   ·rename_i ad;injection e with e;subst e
    exact⟨1000,_,rfl,hb⟩
   ·split at e
    ·injection e with e;subst e
     exact⟨1001,_,rfl,hb⟩
    ·cases e
 ·exact⟨_,f,fun b h=>h,.inr ⟨p,rfl,rfl⟩⟩
variable {ex:List Value}
def QL:aJ:=.reg [.op (some 8) (.mov (.t 0)) none,
  .op (some 9) (.len (.t 8)) none,
  .op (some 10) (.mov (.t 1)) none,
  .op (some 11) (.bin .add (.t 9) (.t 10)) none,
  .op (some 5) (.mov (.t 11)) none]
def QM:aJ:=.seq (.reg [.op (some 12) (.mov (.t 5)) none,
  .op (some 13) (.mov (.t 0)) none,
  .op (some 14) (.capa (.t 13)) none,
  .op (some 15) (.bin .mul (.c (.int .i64 2)) (.t 14)) none,
  .op (some 16) (.bin .lss (.t 12) (.t 15)) none])
 (.cond (.t 16)
 (.reg [.op (some 17) (.mov (.t 0)) none,
   .op (some 18) (.capa (.t 17)) none,
   .op (some 19) (.bin .mul (.c (.int .i64 2)) (.t 18)) none,
   .op (some 5) (.mov (.t 19)) none])
 .skip)
def QN:aJ:=.reg [.op (some 20) (.mov (.t 5)) none,
  .op (some 21) (.appZ 5 1 .u8 (.c (.slice none 0 0)) (.t 20)) none,
  .op (some 6) (.mov (.t 21)) none]
def QO:aJ:=.seq (.reg [.op (some 22) (.mov (.t 6)) none,
  .op (some 23) (.mov (.t 0)) none,
  .op (some 24) (.copy 5 1 (.t 22) (.t 23)) none,
  .op (some 7) (.mov (.t 24)) none])
 (.seq (.reg [.op (some 25) (.mov (.t 6)) none,
  .op (some 26) (.mov (.t 7)) none,
  .op (some 27) (.slc 1 (.t 25) none (some (.t 26))) none,
  .op (some 4) (.mov (.t 27)) none])
 .ret)
theorem piece {P:Program}{A:cQ}{c:Code}{sc:aJ}(r:low P A c=some sc) {N:cF}{F:aA}{L:Loc}{ρ:Env}{a:Act}{w:World}(y:St F L w) (s:aC L ρ a) (u:a.tmps.size=A.n)
  (t:gC P sc (fun _ _ _ _=>False) (fun _ _ _=>False) N F L ρ) {Q:Exit->Act->World->Prop}
  (k:∀d w' F' L' ρ',St F' L' w'->aC L' ρ' d->d.tmps.size=A.n->d.defers=a.defers->Step F L w F' L' w'->N F' L' ρ'->Q .normal d w'):c.wp P Q a w:=by
 refine wp_mono (oJ c r y s u t) ?_;intro e d w' h;cases e with
 | normal=>obtain⟨F',L',ρ',f,m,p,o,l,q,b⟩:=h;exact k _ _ _ _ _ f m p o l b
 | exit j=>obtain⟨F',L',ρ',f,m,p,o,l,q,b⟩:=h;exact b.elim
 | ret=>obtain⟨F',L',ρ',f,m,p,o,l,q,b⟩:=h;exact b.elim
 | panic ch =>
  obtain⟨v,_,F',L',z,q2,q3,q4,q5,x⟩:=h;exact x.elim
 | _=>exact h.elim
theorem nP {ρ:Env}{k:Nat}{x:SV}(h:ρ k=x):put (some k) x ρ=ρ:=by
 funext j
 rw[put_eq];simp only[];split
 ·rename_i e;rw[e,h]
 ·rfl
def Fw:cQ:={n:=28}
theorem Af (w:World) :
  CallsD Tryd.prog 84 #[] .returning w fun e b w'=>e=.returned (.tuple #[])/\b=.returning/\w'=w:=by
 have d:Tryd.f84.ntmps=3:=by kernel_rfl
 have f:Tryd.f84.results=#[]:=by kernel_rfl
 refine callsD_of_wpS Tryd.func84 rfl fun a cs c=>?_;apply wpS_seq;apply wpS_region;simp[wpOpsS,go_sem,recoverD,c,d,Exit.thenS];refine wpS_cond (t:=false) (by simp[Act.eval,Array.replicate]) ?_;simp only[Xm,XM];refine wpS_of_wp (wp_skip ?_);cases a
 simp_all [bodyPostS,results]
theorem QR (F:aA) (a:Option Addr) (n c m:Nat) (xs:List Value) (hn:n<=c) (hc:c<n+m) (hm:n+m<=70368744177664) (hx:xs.length=n) (az:bM F a 0 xs\/(n=0/\xs=[])) (h1:∀u∈xs,u.oneCell'=true) :
  CallsA PZ 63 #[.slice a n c,.int .i64 m] F [] (fun _ Lo v=>∃l,ja v n l/\n+m<=l/\Lo=[.row v 5 1 n xs]):=by
 have bm:Tryd.f63.ntmps=28:=by kernel_rfl
 refine⟨⟨_,Tryd.func63,by kernel_rfl,by kernel_rfl⟩,fun _ _ _ _ _ h=>h,fun w hs=>?_⟩
 suffices hall:∀RR:Ending->World->Prop,(∀v F' Lo w',St F' (inp Lo) w'->Step F (inp []) w F' (inp Lo) w'->(∃l,ja v n l/\n+m<=l/\Lo=[.row v 5 1 n xs])->RR (.returned v) w')->Calls Tryd.prog 63 #[.slice a n c,.int .i64 m] w RR from
  hall _ fun v F' Lo w' h1 h2 h3=>⟨v,F',Lo,rfl,h1,h2,h3⟩
 intro RR bc;refine calls_of_wp_defers Tryd.func63 rfl ?_;rw[bm];have cd:=HZ (Lin:=[]) [.v (.slice a n c),.v (.int .i64 m)] 28 (GF [.slice a n c,.int .i64 m]);refine wp_seq (wp_region (m6 (A:=Fw) (r:=0) (List.range 1) (ss:=[.op (some 4) (.mov (.c (.slice none 0 0))) none]) (by kernel_rfl) hs cd (by simp[Fw])
  (K:=fun F' L' ρ'=>F'=F/\L'=inp []/\ρ'=put (some 4) (.v (.slice none 0 0)) (rS 0 [.v (.slice a n c),.v (.int .i64 m)])) ⟨rfl,rfl,rfl⟩ ?_))
 rintro a1 w1 ⟨F1,L1,de,cc,aa,ax,ae,ar,_,rfl,rfl,rfl⟩;simp only[Exit.then];refine wp_seq (wp_region ?_);obtain⟨tm,df⟩:=a1;simp only at ax ae;subst ae;have dd:∀w:World,(Instr.makeFunc (.func 84) #[] #[]).run Tryd.prog w=.ok (.func (.func 84) #[] #[]) w:=fun _=>rfl;simp[wpOps,go_sem,Exit.then,Act.eval];refine .inl ?_;have s:aC (inp []) (put (some 4) (.v (.slice none 0 0)) (rS 0 [.v (.slice a n c),.v (.int .i64 m)])) {tmps:=tm,defers:=[{target:=.fn (.func 84) #[],args:=#[]}]}:=⟨aa.eq,aa.own,aa.el⟩;refine wp_seq (piece (A:=Fw) (sc:=QL) (by kernel_rfl) cc s ax (N:=fun F' L' ρ'=>F'=F1/\L'=inp []/\ρ' 5=.v (.int .i64 (n+m:Nat))/\ρ' 0=.v (.slice a n c)) ?_ ?_)
 ·refine Fit.to (m:=((n+m:Nat):Int)) (by rw[bL (by omega) (by omega)];omega) ?_;exact⟨rfl,rfl,rfl,rfl⟩
 rintro a2 w2 F2 L2 be bu s ba bs ao ⟨rfl,rfl,q,p⟩;simp only[Exit.then];rw[<-nP q,<-nP (ρ:=put _ _ be) (k:=0) (x:=.v (.slice a n c)) (by rw[put_eq];simpa using p)] at s;generalize z:(if n+m<2*c then 2*c else n+m)=M;have cw:n+m<=M/\M<=140737488355328:=by subst z;split<;>omega
 refine wp_seq (piece (A:=Fw) (sc:=QM) (by kernel_rfl) bu s ba (N:=fun F' L' ρ'=>F'=F2/\L'=inp []/\ρ' 5=.v (.int .i64 M)/\ρ' 0=.v (.slice a n c)) ?_ ?_)
 ·refine Fit.to (m:=((2*c:Nat):Int)) (by rw[bL (by omega) (by omega)];omega) ?_;refine aR (fun h=>?_) (fun h=>?_)
  ·refine Fit.to (m:=((2*c:Nat):Int)) (by rw[bL (by omega) (by omega)];omega) ?_;exact⟨rfl,rfl,(by rw[<-z,j3 (by omega)];rfl),rfl⟩
  ·exact⟨rfl,rfl,(by rw[<-z,vv (by omega)];rfl),rfl⟩
 clear q p
 rintro a3 w3 F3 L3 ce bx aw bo bz an ⟨rfl,rfl,q,p⟩;simp only[Exit.then];rw[<-nP q,<-nP (ρ:=put _ _ ce) (k:=0) (x:=.v (.slice a n c)) (by rw[put_eq];simpa using p)] at aw;refine wp_seq (piece (A:=Fw) (sc:=QN) (by kernel_rfl) bx aw bo (N:=fun F' L' ρ'=>F'=F3/\∃ad l,L'=[(21,.row (.slice (some ad) M l) 5 1 M (List.replicate M (.int .u8 0)))]/\ρ' 6=.v (.slice (some ad) M l)/\ρ' 0=.v (.slice a n c)) ?_ ?_)
 ·refine FU.mk ⟨21,0,[],.inr ⟨rfl,rfl,rfl,rfl⟩,by unfold maxLen;omega,by omega,fun v hv=>?_⟩;obtain⟨a',c',rfl,bk⟩:=hv;cases a' with
  | none=>exact v7 (bk rfl) (by omega)
  | some ad =>
   rw[Nat.zero_add];exact⟨rfl,ad,c',rfl,rfl,rfl⟩
 clear q p
 rintro a4 w4 F4 L4 bj ap ab bl bt av ⟨rfl,ad,l,rfl,q,p⟩;simp only[Exit.then];obtain⟨cz,cb⟩:=Ae ap (k:=21) rfl;rcases cb with⟨e,_⟩ | ⟨g,e,cy,y⟩
 ·cases e
 injection e with e1 e2 e3
 injection e1 with e1
 subst e1 e3;rw[<-nP q,<-nP (ρ:=put _ _ bj) (k:=0) (x:=.v (.slice a n c)) (by rw[put_eq];simpa using p)] at ab;have bb:aM (List.replicate M (Value.int .u8 0)) (0*1) xs=xs++List.replicate (M-n) (.int .u8 0):=by
  simp[aM,hx]
 refine wp_mono (oJ (A:=Fw) _ (sc:=QO) (by kernel_rfl) ap ab bl (E:=fun _ _ _ _=>False) (N:=fun _ _ _=>False)
  (R:=fun F' L' ρ'=>F'=F4/\L'=[(21,.row (.slice (some ⟨g,0,none⟩) M l) 5 1 M (xs++List.replicate (M-n) (.int .u8 0)))]/\ρ' 4=.v (.slice (some ⟨g,0,none⟩) n l)) ?_) ?_
 ·refine zk.mk (.inl ⟨21,M,_,_,_,⟨g,0,none⟩,l,l,0,n,a,c,xs,rfl,rfl,rfl,by omega,rfl,by rw[Nat.min_eq_left (by omega),hx,Nat.mul_one],?_,h1,?_⟩)
  ·rw[Nat.min_eq_left (by omega)];exact az
  rw[Nat.min_eq_left (by omega),bb];refine mO.mk (by omega) (by omega) (by omega) ?_;exact⟨rfl,rfl,p7 SV.v (Ll (n:=M) (.inr ⟨g,rfl,by omega,y⟩) rfl)⟩
 intro e a5 w5 h;cases e with
 | normal=>obtain⟨F',L',ρ',h1,h2,h3,h4,h5,h6,h7⟩:=h;exact h7.elim
 | exit j=>obtain⟨F',L',ρ',h1,h2,h3,h4,h5,h6,h7⟩:=h;exact h7.elim
 | panic ch =>
  obtain⟨v,_,F',L',q1,q2,q3,q4,q5,q6⟩:=h;exact q6.elim
 | ret =>
  obtain⟨F',L',ρ',al,bv,cx,ag,ac,_,rfl,rfl,h4⟩:=h;rw[bt,bz,bs] at ag;show Leaves Tryd.prog Tryd.f63 a5.tmps RR a5.defers .returning w5;rw[ag];refine leaves_cons (f:=84) (args:=#[]) (by simp) (by simp[invoke]) ?_;refine(Af _).mono ?_;rintro e u' w6 ⟨rfl,rfl,rfl⟩;obtain⟨vs,h5,rfl⟩:=uq (P:=Tryd.prog) (fn:=Tryd.f63) (rs:=[(4,none)]) (K:=fun vs=>vs=[.slice (some ⟨g,0,none⟩) n l]) al bv (by kernel_rfl) (by
   simp only[kS,h4];rfl)
  obtain⟨ys,y1,y2,y3⟩:=St.reslice (n':=n) al (k:=21) rfl (by omega);have bd:ys=xs:=by
   apply XP;intro i
   by_cases hi:i<n
   ·rw[y2 i (by omega) (by omega),Xl (by omega)]
   ·rw[Xn (by omega),Xn (by omega)]
  subst bd;refine⟨_,h5,bc _ F' [.row (.slice (some ⟨g,0,none⟩) n l) 5 1 n ys] w6 ?_ ?_ ⟨l,.inr ⟨g,rfl,by omega,y⟩,by omega,rfl⟩⟩
  ·exact y3.handed (ks:=[21]) rfl (by simp)
  ·have d:=(((ar.trans ao).trans an).trans av).trans ac;refine⟨d.le,d.os,d.tape,d.output,d.size,d.same,d.frz,fun b hb=>?_⟩;refine d.own b ?_;obtain⟨k,o,e,hb⟩:=hb;rw[aT] at e;split at e
   case isFalse=>cases e
   rename_i hk;have t:=Xi e;simp only[XU] at t;subst t;exact⟨21,_,rfl,hb⟩
 | _=>exact h.elim
variable {ex:List Value}
theorem CallsA.W9 {P:Program}{f:FuncId}{args:Array Value}{F:aA}{v:Value}{t sz n:Nat}{xs:List Value}{R:aA->List Own->Value->Prop}(hent:∃fn,P.funcs[f]?=some fn/\fn.body.isSome=true/\(fn.name == "runtime.NumGoroutine")=false)
  (hmono:∀F G L v,F.le G->R F L v->R G L v) (h:∀F',F.le F'->FW F' v sz n xs->CallsA P f args F' [] R):CallsA P f args F [.row v t sz n xs] R:=by
 refine⟨hent,hmono,fun w hs=>?_⟩;have he:aC (inp [.row v t sz n xs]) (fun _=>.v undef) {tmps:=#[],defers:=[]}:=⟨fun t=>by simp[conc],fun _ _ _ e=>(by cases e),fun _ _ _ e=>(by cases e)⟩;obtain⟨F',L',k1,k2,k3,k4,k5⟩:=nE (k:=1000) hs he (KK:=fun F' L'=>L'=inp []/\F.le F'/\FW F' v sz n xs) ⟨v,t,sz,n,xs,rfl,fun F' h1 h2=>⟨rfl,h1,h2⟩⟩;obtain⟨rfl,k5,k6⟩:=(⟨k4,k5⟩:_/\_);refine Calls.mono ((h F' k5 k6).run w k1) ?_;rintro e w' ⟨v,F2,Lo,rfl,h1,h2,h3⟩;exact⟨v,F2,Lo,rfl,h1,k3.trans h2,h3⟩
theorem O9:∃fn,Tryd.prog.funcs[63]?=some fn/\fn.body.isSome=true/\(fn.name == "runtime.NumGoroutine")=false:=⟨_,Tryd.func63,by kernel_rfl,by kernel_rfl⟩
theorem QS (F:aA) (a:Option Addr) (n c m:Nat) (xs:List Value) (k:n<=c) (j:c<n+m) (f:n+m<=70368744177664) (l:xs.length=n) (d:∀u∈xs,u.oneCell'=true) :
  CallsA PZ 63 #[.slice a n c,.int .i64 m] F [.row (.slice a n c) 5 1 n xs] (fun _ Lo v=>∃b,ja v n b/\n+m<=b/\Lo=[.row v 5 1 n xs]):=by
 refine CallsA.W9 O9 (fun _ _ _ _ _ h=>h) fun F' _ o=>QR F' a n c m xs k j f l ?_ d;rcases o with⟨e,rfl,rfl⟩ | ⟨q,p,e,h,_⟩
 ·exact .inr ⟨rfl,rfl⟩
 ·injection e with e1 _ _
  subst e1;exact .inl h
theorem QT (F:aA) (d tb:Nat) (s:Value) (lr:Int) (n c:Nat) (xs:List Value) (e:ja s n c) :
  CallsA PZ 61 #[.pointer (some ⟨d,0,none⟩)] F (BO ex d tb s lr n xs) (fun _ Lo v=>Lo=BO ex d tb s lr n xs/\v=.int .i64 n):=by
 obtain⟨a,rfl,f,b,j⟩:=e.form;unfold maxLen at b;refine fQ (svs:=[.own 1000 0]) rfl KH rfl rfl (qE (svs:=[])) (fun _ _ _ _ _ h=>h) ?_;refine Fit.to (m:=(n:Int)) (by rw[bL (by omega) (by omega)];omega) ?_;exact⟨[1000,1001],_,rfl,by decide,rfl,rfl⟩
theorem C3 {f:Nat}{vs:List Value}{F:aA}{L:Loc}{K:aA->Loc->Value->Prop}{d tb n:Nat}{s:Value}{lr:Int}{xs:List Value}{R:aA->List Own->Value->Prop}(o:L=inp (BO ex d tb s lr n xs)) (h:CallsA PZ f vs.toArray F (BO ex d tb s lr n xs) R)
  (m:∀v F' Lo,F.le F'->R F' Lo v->∃s' c n' a,Lo=BO ex d tb s' c n' a/\K F' (inp (BO ex d tb s' c n' a)) v):cW PZ f vs F L K:=by
 subst o;refine⟨[1000,1001],[1000,1001],_,_,rfl,by decide,by decide,fun k j=>.inl j,h,fun v F' Lo l p=>?_⟩;obtain⟨s',c,n',a,rfl,q⟩:=m v F' Lo l p;refine⟨rfl,fun k g t cs j e=>?_,q⟩;simp only[Xh,List.not_mem_nil,or_false] at j;rcases j with rfl | rfl
 ·have b:(some (Own.box d (tb+1) (s::.int .i64 0::.int .i8 lr::ex)))=some (.box g t cs):=e;injection b with b
  injection b with e1 e2 e3
  subst e1 e2;exact⟨_,rfl⟩
 ·have b:(some (Own.row s 5 1 n xs))=some (.box g t cs):=e;injection b with b
  cases b
theorem H6 {F:aA}{L:Loc}{K:aA->Loc->Value->Prop}{a tb n c:Nat}{s:Value}{lr:Int}{xs:List Value}(f:L=inp (BO ex a tb s lr n xs)) (h:ja s n c)
  (e:∀F',F.le F'->K F' (inp (BO ex a tb s lr n xs)) (.int .i64 n)):cW PZ 61 [.pointer (some ⟨a,0,none⟩)] F L K :=
 C3 f (QT F a tb s lr n c xs h) fun v F' Lo b d=>⟨s,lr,n,xs,d.1,d.2▸e F' b⟩
theorem C4 {F:aA}{L:Loc}{K:aA->Loc->Value->Prop}{b tb n c m:Nat}{s:Value}{lr:Int}{xs:List Value}(e:L=inp (BO ex b tb s lr n xs)) (l:ja s n c) (f:n+m<=140737488355328)
  (k:∀F' s' ys,F.le F'->ys.length=m->ja s' (n+m) c->K F' (inp (BO ex b tb s' lr (n+m) (xs++ys))) (.tuple #[.int .i64 n,.bool true]))
  (o:∀F',F.le F'->c<n+m->K F' (inp (BO ex b tb s lr n xs)) (.tuple #[.int .i64 0,.bool false])):cW PZ 43 [.pointer (some ⟨b,0,none⟩),.int .i64 m] F L K :=
 C3 e (QK F b tb s lr n c m xs l f) fun v F' Lo a h=>by
  rcases h with⟨s',ys,d,j,rfl,rfl⟩ | ⟨d,rfl,rfl⟩
  ·exact⟨_,_,_,_,rfl,k F' s' ys a d j⟩
  ·exact⟨_,_,_,_,rfl,o F' a d⟩
theorem Ee {F:aA}{L:Loc}{K:aA->Loc->Value->Prop}{n c m:Nat}{a:Option Addr}{s:Value}{xs:List Value}(j:ja s n c) (x:L.get 1001=some (.row s 5 1 n xs)) (r:c<n+m) (p:n+m<=70368744177664) (z:xs.length=n) (k:∀u∈xs,u.oneCell'=true) (y:s=.slice a n c)
  (o:∀b F' d,F.le F'->ja (.slice b n d) n d->n+m<=d->K F' (L.set 1001 (.row (.slice b n d) 5 1 n xs)) (.slice b n d)):CallXDPt PZ (fun _ _ _=>False) [] 63 [fC a c 0 n 1,.int .i64 m] F L K:=by
 subst y;obtain⟨_,_,w,_⟩:=j.form;rw[Ll j rfl];refine⟨[1001],[.row (.slice a n c) 5 1 n xs],_,fun _ _ _=>False,by simp only[Loc.sub,x],by simp,by simp,((QS F a n c m xs (by omega) r p z k).toX (Pp:=fun _=>False)).toS,fun v F' L' Lo _ _ _ h=>h.elim,fun v F' Lo hF q=>?_⟩;obtain⟨d,f,l,rfl⟩:=q;obtain⟨b,rfl,_⟩:=f.form;refine⟨rfl,fun i g t cs e=>?_,fun _=>o b F' d hF f l⟩;cases i with
 | zero=>injection e with e;cases e
 | succ i=>cases e
theorem Mj {L:Loc}{ss:List ak}(h:(ss.all fun s=>(rZ s).isNone)=true):∀s∈ss,∀k,rZ s=some k->L.get k=none:=by
 intro s a k e;have:=Xo.1 h s a;rw[e] at this;cases this
def Mk (ex:List Value) (b tb:Nat) (lr:Int) (n m:Nat) (xs:List Value):aA->List Own->Value->Prop:=fun _ Lo v =>
 ∃s' a ys,ys.length=m/\ja s' (n+m) a/\Lo=BO ex b tb s' lr (n+m) (xs++ys)/\v=.int .i64 n
def Raw (ex:List Value) (b tb:Nat) (lr:Int) (n m:Nat) (xs:List Value) (Lo:List Own):Prop :=
 ∃a c,ja (.slice a n c) n c/\n+m<=c/\Lo=[.box b (tb+1) (fC a c 0 (n+m) 1::.int .i64 0::.int .i8 lr::ex),.row (.slice a n c) 5 1 n xs]
theorem H7 {j tb n m:Nat}{lr:Int}{xs:List Value}{Lo:List Own}{F:aA}{w:World}(h:Raw ex j tb lr n m xs Lo) (d:St F (inp Lo) w) :
  ∃Lo',St F (inp Lo') w/\(∀b,(inp Lo').owns b->(inp Lo).owns b)/\∃s' v ys,ys.length=m/\ja s' (n+m) v/\Lo'=BO ex j tb s' lr (n+m) (xs++ys):=by
 obtain⟨a,c,r,f,rfl⟩:=h;rw[Ll r rfl] at d ⊢;rcases r with⟨e,rfl,rfl⟩ | ⟨g,e,z,s⟩
 ·injection e with e1 _ _
  subst e1;have:m=0:=by omega
  subst this;exact⟨_,d,fun b h=>h,.slice none 0 0,0,[],rfl,.inl ⟨rfl,rfl,rfl⟩,by simp[BO]⟩
 ·injection e with e1 _ _
  subst e1;have q:(inp [.box j (tb+1) (.slice (some ⟨g,0,none⟩) (n+m) c::.int .i64 0::.int .i8 lr::ex),.row (.slice (some ⟨g,0,none⟩) n c) 5 1 n xs]).get 1001=some (.row (.slice (some ⟨g,0,none⟩) n c) 5 1 n xs):=rfl;have p:xs.length=n:=by
   have:=(d.own _ _ q).1;simpa using this
  obtain⟨ys,x,u,t⟩:=St.reslice d q f;have l:ys=xs++ys.drop n:=by
   apply XP;intro i
   by_cases hi:i<n
   ·rw[u i (by omega) (by omega),Xl (by omega)]
   ·rw[Xr (by omega),XH,p];congr 1;omega
  refine⟨BO ex j tb (.slice (some ⟨g,0,none⟩) (n+m) c) lr (n+m) ys,t,fun b hb=>?_,_,c,ys.drop n,by rw[XV,x];omega,.inr ⟨g,rfl,f,s⟩,by rw[<-l]⟩;obtain⟨k,o,e,hb⟩:=hb;rw[HY] at e;simp only[Loc.get] at e;split at e
  ·rename_i y;injection e with e;subst e
   exact⟨1000,_,rfl,hb⟩
  ·split at e
   ·injection e with e;subst e
    exact⟨1001,_,rfl,hb⟩
   ·cases e
theorem Mk.WY {f c tb n m:Nat}{lr:Int}{xs:List Value}{args:Array Value}{F:aA}{Lin:List Own}(h:CallsA PZ f args F Lin (fun F' Lo v=>Mk ex c tb lr n m xs F' Lo v\/(Raw ex c tb lr n m xs Lo/\v=.int .i64 n))):CallsA PZ f args F Lin (Mk ex c tb lr n m xs):=by
 refine CallsA.WY h (fun _ _ _ _ _ h=>h) ?_;rintro F' Lo v w' a (h | ⟨h,rfl⟩)
 ·exact⟨Lo,a,fun b h=>h,h⟩
 ·obtain⟨Lo',d,l,s',k,ys,e,j,rfl⟩:=H7 h a;exact⟨_,d,l,s',k,ys,e,j,rfl,rfl⟩
set_option maxHeartbeats 1000000 in
theorem QU (F:aA) (e tb:Nat) (lr:Int) (m:Nat) (q:m<=70368744177664) :
  CallsA PZ 44 #[.pointer (some ⟨e,0,none⟩),.int .i64 m] F (BO ex e tb (.slice none 0 0) lr 0 []) (Mk ex e tb lr 0 m []):=by
 have d:ja (.slice none 0 0) 0 0:=.inl ⟨rfl,rfl,rfl⟩;refine Mk.WY ?_;refine fQ (svs:=[.own 1000 0,.v (.int .i64 m)]) rfl DL rfl rfl (qE (svs:=[.int .i64 m])) (fun _ _ _ _ _ h=>h) ?_;refine H6 rfl d fun F1 k=>?_;refine C4 rfl d (by omega) (fun F2 s' ys a f c=>?_) (fun F2 a r=>?_)
 ·exact⟨[1000,1001],_,rfl,by decide,.inl ⟨s',0,ys,f,c,rfl,rfl⟩⟩
 refine aR (fun h=>?_) (fun h=>?_)
 ·refine sU.mk (by omega) (by omega) (by decide) (by decide) fun g=>?_;exact⟨[1000,41],_,rfl,by decide,.inl ⟨.slice (some ⟨g,0,none⟩) m 64,64,(List.replicate m [Value.int .u8 0]).flatten,by simp,.inr ⟨g,by rw[Nat.zero_add m],by omega,by decide⟩,by rw[Nat.zero_add m];rfl,rfl⟩⟩
 refine mW.mk (by omega) ?_;refine Fit.to (m:=0) (by decide) ?_;refine Fit.to (m:=0) (by decide) ?_;refine aR (fun c=>?_) (fun c=>?_)
 ·omega
 refine Fit.to (m:=9223372036854775807) (by decide) ?_;refine Fit.to (m:=9223372036854775807-m) (by rw[bL (by omega) (by omega)]) ?_;refine aR (fun o=>?_) (fun o=>?_)
 ·omega
 refine⟨Mj (by kernel_rfl),?_⟩;refine⟨_,rfl,⟨_,rfl,⟨_,rfl,⟨_,rfl,⟨_,rfl,⟨_,rfl,⟨_,rfl,⟨_,rfl,⟨_,rfl,⟨_,rfl,?_⟩⟩⟩⟩⟩⟩⟩⟩⟩⟩;refine mO.mk (by omega) (by omega) (by omega) ?_;refine⟨_,rfl,⟨_,rfl,⟨_,rfl,⟨_,rfl,⟨_,rfl,⟨_,rfl,?_⟩⟩⟩⟩⟩⟩;refine Fit.to (m:=(m:Int)) (by rw[bL (by omega) (by omega)];omega) ?_;refine Ee d rfl (by omega) (by omega) rfl (by simp) rfl fun b F3 l p n j=>?_;refine⟨_,rfl,⟨_,rfl,⟨_,rfl,?_⟩⟩⟩;refine Fit.to (m:=((0+m:Nat):Int)) (by rw[bL (by omega) (by omega)];omega) ?_;refine mO.mk (by omega) (by omega) (by omega) ?_;exact⟨[1000,1001],_,rfl,by decide,.inr ⟨⟨b,l,n,by omega,rfl⟩,rfl⟩⟩
theorem QV (F:aA) (k tb g:Nat) (lr:Int) (n c m:Nat) (xs:List Value) (s:n<=c) (a:c<=maxLen) (z:n+m<=70368744177664) (w:xs.length=n) (d:∀u∈xs,u.oneCell'=true) :
  CallsA PZ 44 #[.pointer (some ⟨k,0,none⟩),.int .i64 m] F (BO ex k tb (.slice (some ⟨g,0,none⟩) n c) lr n xs) (Mk ex k tb lr n m xs):=by
 have j:ja (.slice (some ⟨g,0,none⟩) n c) n c:=.inr ⟨g,rfl,s,a⟩;refine Mk.WY ?_;refine fQ (svs:=[.own 1000 0,.v (.int .i64 m)]) rfl DL rfl rfl (qE (svs:=[.int .i64 m])) (fun _ _ _ _ _ h=>h) ?_;refine H6 rfl j fun F1 p=>?_;refine aR (fun r=>?_) (fun r=>?_) <;>
 ·refine C4 rfl j (by omega) (fun F2 s' ys e d f=>?_) (fun F2 e hc=>?_)
  ·exact⟨[1000,1001],_,rfl,by decide,.inl ⟨s',c,ys,d,f,rfl,rfl⟩⟩
  have l:c<=9223372036854775807:=a;refine mW.mk (by omega) ?_;refine Fit.to (m:=((c / 2:Nat):Int)) (by rw[show((c:Int).tdiv 2)=((c / 2:Nat):Int) from rfl,bL (by omega) (by omega)]) ?_;refine Fit.to (m:=((c / 2:Nat):Int)-n) (by rw[bL (by omega) (by omega)]) ?_;refine aR (fun f=>?_) (fun f=>?_)
  ·omega
  refine Fit.to (m:=9223372036854775807-c) (by rw[bL (by omega) (by omega)]) ?_;refine Fit.to (m:=9223372036854775807-c-m) (by rw[bL (by omega) (by omega)]) ?_;refine aR (fun x=>?_) (fun x=>?_)
  ·omega
  refine⟨Mj (by kernel_rfl),?_⟩;refine⟨_,rfl,⟨_,rfl,⟨_,rfl,⟨_,rfl,⟨_,rfl,⟨_,rfl,⟨_,rfl,⟨_,rfl,⟨_,rfl,⟨_,rfl,?_⟩⟩⟩⟩⟩⟩⟩⟩⟩⟩;refine mO.mk (by omega) (by omega) (by omega) ?_;refine⟨_,rfl,⟨_,rfl,⟨_,rfl,⟨_,rfl,⟨_,rfl,⟨_,rfl,?_⟩⟩⟩⟩⟩⟩;refine Fit.to (m:=(m:Int)) (by rw[bL (by omega) (by omega)];omega) ?_;refine Ee j rfl (by omega) (by omega) w d rfl fun b F3 q y t o=>?_;refine⟨_,rfl,⟨_,rfl,⟨_,rfl,?_⟩⟩⟩;refine Fit.to (m:=((n+m:Nat):Int)) (by rw[bL (by omega) (by omega)];omega) ?_;refine mO.mk (by omega) (by omega) (by omega) ?_;exact⟨[1000,1001],_,rfl,by decide,.inr ⟨⟨b,q,t,by omega,rfl⟩,rfl⟩⟩
theorem QW (F:aA) (a tb:Nat) (s:Value) (lr:Int) (n c m:Nat) (xs:List Value) (j:ja s n c) (d:n+m<=70368744177664) (b:xs.length=n) (e:∀u∈xs,u.oneCell'=true) :
  CallsA PZ 44 #[.pointer (some ⟨a,0,none⟩),.int .i64 m] F (BO ex a tb s lr n xs) (Mk ex a tb lr n m xs):=by
 rcases j with⟨rfl,rfl,rfl⟩ | ⟨g,rfl,h,f⟩
 ·obtain rfl:xs=[]:=XD b;exact QU F a tb lr m (by omega)
 ·exact QV F a tb g lr n c m xs h f d b e
variable {ex:List Value}
theorem ja.some {a:Option Addr}{n c:Nat}(h:ja (.slice a n c) n c) (b:0<n):∃g,a=.some ⟨g,0,none⟩:=by
 rcases h with⟨_,rfl,_⟩ | ⟨g,e,_⟩
 ·omega
 ·injection e with e
  exact⟨g,e⟩
theorem Ef {F:aA}{L:Loc}{K:aA->Loc->Value->Prop}{b tb n c m:Nat}{s:Value}{lr:Int}{xs:List Value}(k:L=inp (BO ex b tb s lr n xs)) (p:ja s n c) (l:n+m<=140737488355328) (q:0<n+m)
  (o:∀F' g d ys,F.le F'->ys.length=m->n+m<=d->d<=maxLen->K F' (inp (BO ex b tb (.slice (some ⟨g,0,none⟩) (n+m) d) lr (n+m) (xs++ys))) (.tuple #[.int .i64 n,.bool true]))
  (t:∀F',F.le F'->c<n+m->K F' (inp (BO ex b tb s lr n xs)) (.tuple #[.int .i64 0,.bool false])):cW PZ 43 [.pointer (some ⟨b,0,none⟩),.int .i64 m] F L K :=
 C4 k p l (fun F' s' ys r f e=>by
  obtain⟨a,rfl,h,j,_⟩:=e.form;obtain⟨g,rfl⟩:=e.some q;exact o F' g c ys r f h j) t
theorem Eg {F:aA}{L:Loc}{K:aA->Loc->Value->Prop}{d tb n c m:Nat}{s:Value}{lr:Int}{xs:List Value}(j:L=inp (BO ex d tb s lr n xs)) (t:ja s n c) (k:n+m<=70368744177664) (r:xs.length=n) (h:∀u∈xs,u.oneCell'=true) (w:0<n+m)
  (p:∀F' g b ys,F.le F'->ys.length=m->n+m<=b->b<=maxLen->K F' (inp (BO ex d tb (.slice (some ⟨g,0,none⟩) (n+m) b) lr (n+m) (xs++ys))) (.int .i64 n)):cW PZ 44 [.pointer (some ⟨d,0,none⟩),.int .i64 m] F L K :=
 C3 j (QW F d tb s lr n c m xs t k r h) fun v F' Lo x l=>by
  obtain⟨s',b,ys,f,e,rfl,rfl⟩:=l;obtain⟨a,rfl,o,q,_⟩:=e.form;obtain⟨g,rfl⟩:=e.some w;exact⟨_,_,_,_,rfl,p F' g b ys x f o q⟩
def RW (ex:List Value) (b tb n m:Nat) (ys:List Value) (r:Value):aA->List Own->Value->Prop:=fun _ Lo v=>∃s' a,ja s' (n+m) a/\Lo=BO ex b tb s' 0 (n+m) ys/\v=r
theorem wV {xs ys zs:List Value}{n:Nat}(a:xs.length=n) (b:ys.length=zs.length):aM (xs++ys) n zs=xs++zs:=by
 subst a;simp[aM,b]
theorem H8 {F:aA}{L:Loc}{j k:Nat}{K:Loc->Prop}{v:Value}{t m c:Nat}{xs:List Value}{a:Addr}(b:Int) (l:L.get k=some (.row v t 1 m xs)) (h:v=.slice (some a) m c) (e:j+1<=xs.length) (d:K (L.set k (.row v t 1 m (aM xs j [.int .u8 b])))):rQ F L (some a) j [.int .u8 b] K :=
 ⟨.inl ⟨k,v,t,1,m,xs,a,c,l,rfl,h,e,fun u f=>by rw[XU.1 f];rfl,d⟩⟩
theorem QX (F:aA) (f tb:Nat) (s:Value) (lr:Int) (n c:Nat) (x:Int) (xs:List Value) (p:ja s n c) (y:n+1<=70368744177664) (j:xs.length=n) (r:∀u∈xs,u.oneCell'=true) :
  CallsA PZ 42 #[.pointer (some ⟨f,0,none⟩),.int .u8 x] F (BO ex f tb s lr n xs) (RW ex f tb n 1 (xs++[.int .u8 x]) .nilIface):=by
 refine fQ (svs:=[.own 1000 0,.v (.int .u8 x)]) rfl KA rfl rfl (qE (svs:=[.int .u8 x])) (fun _ _ _ _ _ h=>h) ?_;have b:∀(g a:Nat) (ys:List Value),ys.length=1->aM (xs++ys) (((n:Int).toNat)*1) [.int .u8 x]=xs++[.int .u8 x]:=fun g a ys d=>by
  rw[Nat.mul_one];exact wV j d
 refine Ef (s:=s) (lr:=0) (m:=1) rfl p (by omega) (by omega) (fun F1 g a ys w d l o=>?_) (fun F1 w z=>?_)
 ·refine Dg.mk (fun e=>by cases e) (by omega) (by omega) ?_;refine H8 (k:=1001) x rfl rfl (by rw[Xg,j,d];omega) ?_;exact⟨[1000,1001],_,rfl,by decide,_,a,.inr ⟨g,rfl,l,o⟩,p7 (fun q=>BO ex f tb (.slice (some ⟨g,0,none⟩) (n+1) a) 0 (n+1) q) (b g a ys d),rfl⟩
 ·refine Eg (s:=s) (lr:=0) (m:=1) rfl p (by omega) j r (by omega) fun F2 g a ys t d l o=>?_;refine Dg.mk (fun e=>by cases e) (by omega) (by omega) ?_;refine H8 (k:=1001) x rfl rfl (by rw[Xg,j,d];omega) ?_;exact⟨[1000,1001],_,rfl,by decide,_,a,.inr ⟨g,rfl,l,o⟩,p7 (fun q=>BO ex f tb (.slice (some ⟨g,0,none⟩) (n+1) a) 0 (n+1) q) (b g a ys d),rfl⟩
theorem Lm {g c n p:Nat}(h:n+p<=c):∃j,j+p<=n+p/\(p≠0->j=n)/\fC (some ⟨g,0,none⟩) c n (n+p) 1=.slice (some ((⟨g,0,none⟩:Addr).add (j*1))) p (c-n):=by
 by_cases e:c=n
 ·refine⟨0,by omega,fun a=>v7 (by omega) a,?_⟩;simp only[fC,j3 e,Nat.add_sub_cancel_left];rfl
 ·refine⟨n,Xy _,fun _=>rfl,?_⟩;simp only[fC,vv e,Nat.add_sub_cancel_left,Option.map]
theorem Eh {F:aA}{L:Loc}{K:Loc->Nat->Prop}{g a n p d:Nat}{l h:Nat}{pa:Option Addr}{xs ys news:List Value}(t:L.get 1001=some (.row (.slice (some ⟨g,0,none⟩) (n+p) a) 5 1 (n+p) (xs++ys))) (c:l=n) (m:h=n+p) (o:n+p<=a)
  (v:xs.length=n) (y:ys.length=p) (k:news.length=p) (b:bM F pa 0 news\/(p=0/\news=[])) (q:∀u∈news,u.oneCell'=true)
  (f:K (L.set 1001 (.row (.slice (some ⟨g,0,none⟩) (n+p) a) 5 1 (n+p) (xs++news))) p):zk F L 5 1 (fC (some ⟨g,0,none⟩) a l h 1) (.slice pa p d) K:=by
 subst c m;obtain⟨j,x,r,s⟩:=Lm (g:=g) o;refine⟨.inl ⟨1001,p,_,_,_,⟨g,0,none⟩,a,a-l,j,p,pa,d,news,t,rfl,s,x,rfl,by rw[Nat.min_self,k,Nat.mul_one],by rw[Nat.min_self];exact b,q,?_⟩⟩;rw[Nat.min_self];have e:aM (xs++ys) (j*1) news=xs++news:=by
  rw[Nat.mul_one]
  by_cases w:p=0
  ·obtain rfl:news=[]:=XD (by omega);obtain rfl:ys=[]:=XD (by omega);simp[aM]
  ·rw[r w];exact wV v (by omega)
 rw[e];exact f
theorem QY (F:aA) (k tb:Nat) (s:Value) (lr:Int) (n c p d:Nat) (pa:Option Addr) (xs news:List Value) (t:ja s n c) (y:n+p<=70368744177664) (w:0<n+p) (j:xs.length=n) (x:∀u∈xs,u.oneCell'=true)
  (q:news.length=p) (a:bM F pa 0 news\/(p=0/\news=[])) (r:∀u∈news,u.oneCell'=true) :
  CallsA PZ 27 #[.pointer (some ⟨k,0,none⟩),.slice pa p d] F (BO ex k tb s lr n xs) (RW ex k tb n p (xs++news) (.tuple #[.int .i64 p,.nilIface])):=by
 refine fQ (svs:=[.own 1000 0,.v (.slice pa p d)]) rfl Kl rfl rfl (qE (svs:=[.slice pa p d])) (fun _ _ _ _ _ h=>h) ?_;refine Ef (s:=s) (lr:=0) rfl t (by omega) w (fun F1 g l ys m o b e=>?_) (fun F1 m z=>?_)
 ·refine mO.mk (by omega) (by omega) (by omega) ?_;refine Eh rfl (by omega) (by omega) b j o q (a.imp (fun h=>h.mono m) id) r ?_;exact⟨[1000,1001],_,rfl,by decide,_,l,.inr ⟨g,rfl,b,e⟩,rfl,rfl⟩
 ·refine Eg (s:=s) (lr:=0) rfl t (by omega) j x w fun F2 g l ys f o b e=>?_;refine mO.mk (by omega) (by omega) (by omega) ?_;refine Eh rfl (by omega) (by omega) b j o q (a.imp (fun h=>(h.mono m).mono f) id) r ?_;exact⟨[1000,1001],_,rfl,by decide,_,l,.inr ⟨g,rfl,b,e⟩,rfl,rfl⟩
def H9 (t:Nat) (a:List C) (bs:List UInt8):List TO:=[.box t (.rw 1001::IC 0::.int .i8 0::a),.row 5 1 (af bs)]
theorem Pb {F:aA}{Li:List Own}{t:Nat}{f:List C}{bs:List UInt8}(hl:Li.length=(H9 t f bs).length) (h:cP F (inp Li) (iO (H9 t f bs))) :
  ∃k tb s ex,Li=BO ex k tb s 0 bs.length (dF bs)/\tyOk t k (tb+1)/\bs.length<=maxLen/\aB F (inp Li) f ex:=by
 match Li,hl with
 | [j,d],_ =>
  have w:cO F (inp [j,d]) (.box t (.rw 1001::IC 0::.int .i8 0::f)) j:=h 1000;have y:cO F (inp [j,d]) (.row 5 1 (af bs)) d:=h 1001;cases j with
  | row=>exact w.elim
  | box k tb us =>
   cases d with
   | box=>exact y.elim
   | row v t' b n xs =>
    obtain⟨rfl,rfl,hn,⟨hm,a,c,rfl,hc⟩,hr⟩:=y;have hx:=lG hr;subst hx;have q:n=bs.length:=by rw[hn];simp[af]
    subst q;obtain⟨z,x⟩:=w;obtain⟨tb,rfl⟩:∃m,tb=m+1:=Nat.exists_eq_succ_of_ne_zero z.2.2;simp only[aB,Rel] at x;obtain⟨v1,_,rfl,o,v2,_,rfl,l,v3,ex,rfl,r,p⟩:=x;obtain⟨a',c',t',b,n',u,_,hg⟩:=o;have e:some (Own.row (.slice a bs.length c) 5 1 bs.length (dF bs))=some (.row v1 t' b n' u):=hg;injection e with e
    injection e with e1
    subst e1;obtain⟨rfl,_⟩:=l;obtain⟨rfl,_⟩:=r;exact⟨k,tb,_,ex,rfl,z,hm,p⟩
theorem Pc {F:aA}{t d tb c:Nat}{s:Value}{f:List C}{ex:List Value}{bs:List UInt8}(b:aB F (inp (BO ex d tb s 0 bs.length (dF bs))) f ex) (n:tyOk t d (tb+1)) (l:ja s bs.length c) (h:bs.length<=maxLen):cP F (inp (BO ex d tb s 0 bs.length (dF bs))) (iO (H9 t f bs)):=by
 obtain⟨a,rfl,o,p,m⟩:=l.form;intro k;rw[ck,aT];split
 case isFalse=>trivial
 rename_i r
 match q:k-1000 with
 | 0 =>
  refine⟨n,?_⟩;simp only[aB,Rel];exact⟨_,_,rfl,⟨a,c,5,1,bs.length,dF bs,rfl,rfl⟩,_,_,rfl,⟨rfl,by decide⟩,_,_,rfl,⟨rfl,by decide⟩,b⟩
 | 1=>exact⟨rfl,rfl,by simp[af],⟨h,a,c,rfl,fun e=>(m e).1⟩,oQ bs⟩
 | j+2=>trivial
theorem CallsA.Xd {P:Program}{f:FuncId}{args:Array Value}{F:aA}{Lin:List Own}{R:aA->List Own->Value->Prop}(hent:∃fn,P.funcs[f]?=some fn/\fn.body.isSome=true/\(fn.name == "runtime.NumGoroutine")=false)
  (hmono:∀F G L v,F.le G->R F L v->R G L v) (h:∀w,St F (inp Lin) w->CallsA P f args F Lin R):CallsA P f args F Lin R:=⟨hent,hmono,fun w hs=>(h w hs).run w hs⟩
theorem CallsA.to {P:Program}{f:FuncId}{args:Array Value}{F:aA}{Lin:List Own}{R R':aA->List Own->Value->Prop}(h:CallsA P f args F Lin R)
  (a:∀F G L v,F.le G->R' F L v->R' G L v) (d:∀F L v,R F L v->R' F L v):CallsA P f args F Lin R':=⟨h.ent,a,fun w k=>(h.run w k).mono fun e w' ⟨v,F',Lo,b,c,l,j⟩=>⟨v,F',Lo,b,c,l,d _ _ _ j⟩⟩
theorem Sy {f t:Nat}{args:List C}{ec:List C}{bs:List UInt8}{ys:List UInt8}{r:C}(hp:dH ec=true) (hent:∃fn,Tryd.prog.funcs[f]?=some fn/\fn.body.isSome=true/\(fn.name == "runtime.NumGoroutine")=false)
  (hm:bs.length+ys.length<=70368744177664) (rv:Value) (hr:∀F L,Rel F L r rv)
  (h:∀F gb tb s c ex vs,ja s bs.length c->aB F (inp (BO ex gb tb s 0 bs.length (dF bs))) args vs->CallsA PZ f vs.toArray F (BO ex gb tb s 0 bs.length (dF bs)) (RW ex gb tb bs.length ys.length (dF bs++dF ys) rv)) :
  CallsT PZ f args (H9 t ec bs) (iZ (H9 t ec (bs++ys)) r):=by
 refine⟨fun F Li vs h1 h2 h3=>?_⟩;obtain⟨gb,tb,s,ex,rfl,ht,hm0,hex⟩:=Pb h1 h2;refine CallsA.Xd hent gu.WH fun w hs=>?_;obtain⟨c,hrv⟩:=Ae hs (k:=1001) rfl;have hA:=h F gb tb s c ex vs hrv h3;refine⟨hA.ent,gu.WH,fun w hs=>(hA.run w hs).mono ?_⟩;rintro e w' ⟨v,F',Lo,h1,h2,h3,s',c',hs',rfl,rfl⟩;refine⟨_,F',_,h1,h2,h3,?_⟩;have hl:(bs++ys).length=bs.length+ys.length:=Xg;rw[<-Fv,<-hl];rw[<-hl] at hs';refine⟨H9 t ec (bs++ys),r,rfl,Pc (dV hp (hex.mono h3.le)) ht hs' (by rw[hl];simp only[maxLen];omega),hr _ _,fun i g t0 cs e=>?_,rfl,rfl⟩
 match i with
 | 0 =>
  injection e with e
  injection e with e1 e2 e3
  subst e1 e2;exact⟨_,rfl⟩
 | 1=>injection e with e;cases e
 | i+2=>cases e
theorem Pd:∃fn,Tryd.prog.funcs[42]?=some fn/\fn.body.isSome=true/\(fn.name == "runtime.NumGoroutine")=false:=⟨_,Tryd.func42,by kernel_rfl,by kernel_rfl⟩
theorem Pe:∃fn,Tryd.prog.funcs[27]?=some fn/\fn.body.isSome=true/\(fn.name == "runtime.NumGoroutine")=false:=⟨_,Tryd.func27,by kernel_rfl,by kernel_rfl⟩
theorem Ei {F:aA}{b tb:Nat}{s:Value}{n:Nat}{xs ex:List Value}{v:Value}(h:Rel F (inp (BO ex b tb s 0 n xs)) (.own 1000 0) v):v=.pointer (some ⟨b,0,none⟩):=by
 simp only[Rel] at h;obtain⟨g,t,cs,e,rfl⟩:=h;have a:some (Own.box b (tb+1) (s::.int .i64 0::.int .i8 0::ex))=some (.box g t cs):=e;injection a with a
 injection a with e1
 rw[e1]
theorem Fx (t:Nat) (a:List C) (b:dH a=true) (bs:List UInt8) (x:UInt8) (e:bs.length+1<=70368744177664) :
  CallsT PZ 42 [.own 1000 0,.int .u8 x.toNat] (H9 t a bs) (iZ (H9 t a (bs++[x])) (.opq 0)):=by
 refine Sy (ys:=[x]) b Pd e .nilIface (fun _ _=>zi) fun F k tb s c ex vs j d=>?_;simp only[aB] at d;obtain⟨v1,_,rfl,h,l,_,rfl,f,rfl⟩:=d;rw[Ei h];simp only[Rel] at f;rw[f.1];exact QX F k tb s 0 bs.length c x.toNat (dF bs) j e (nO bs) (mG bs)
theorem Pf (t:Nat) (b:List C) (d:dH b=true) (bs ys:List UInt8) (f:bs.length+ys.length<=70368744177664) (m:0<bs.length+ys.length) :
  CallsT PZ 27 [.own 1000 0,.sl (af ys)] (H9 t b bs) (iZ (H9 t b (bs++ys)) (.tup [IC ys.length,.opq 0])):=by
 refine Sy d Pe f (.tuple #[.int .i64 ys.length,.nilIface]) (fun F L=>?_) fun F n tb s c ex vs l e=>?_
 ·simp only[Rel,aB];exact⟨[_,_],rfl,_,_,rfl,⟨rfl,by simp[Lit.wf,IntKind.min,IntKind.max,IntKind.signed,IntKind.bits];omega⟩,_,_,rfl,zi,rfl⟩
 simp only[aB] at e;obtain⟨v1,_,rfl,h,p,_,rfl,k,rfl⟩:=e;rw[Ei h];obtain⟨a,j,rfl,_,_,o⟩:=wU k;exact QY F n tb s 0 bs.length c ys.length j a (dF bs) (dF ys) l f m (nO bs) (mG bs) (nO ys) o (mG ys)
end Go.Fr.Tryd
