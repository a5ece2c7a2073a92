/- Part of the proofs of the statements of this seat. -/
import Derived.Test.YtnlegbokpofcaaaGreatDoorFW3
import Derived.Test.YtnlegbokpofcaaaGreatDoorSpCode
set_option maxRecDepth 10000
set_option linter.unusedVariables false
set_option linter.unusedSimpArgs false
namespace Go.Fr.Tryz
open Go Go.RowKit Go.Proofs Go.Fr Go.Fr.T Go.Fr.Api
noncomputable abbrev PZ:Program:=Tryz.prog
def fL:Value:=.iface 150 (.agg #[])
inductive Vl where
 | mk (kind id variant n:Int) (fields:List Vl) (excl:Bool) (path loans:List Int)
structure Ce where
 live:Bool
 arena:Int
 value:Vl
structure Ac where
 number:Int
 routine:Int
 block:Int
 index:Int
 dst:Int
 slots:List Vl
 since:List Int
structure Ln where
 frame:Int
 slot:Int
 excl:Bool
 re:Bool
 over:Bool
structure Tk where
 state:Int
 frames:List Ac
 loans:List Ln
 allocs:Int
 clock:Int
 next:Int
 cells:List Int
structure Ou where
 task:Int
 number:Int
structure Wd where
 cells:List Ce
 arenas:List Bool
 tasks:List Tk
 channels:List (List Vl)
 outputs:List Ou
 made:Int
 dropped:Int
 closed:Int
mutual
def pT:Vl->List C
 | .mk k i v n f e p l=>[IC k,IC i,IC v,IC n,.sl (MZ f),.bool e,.sl (rK p),.sl (rK l)]
def MZ:List Vl->List (List C)
 | []=>[]
 | x::xs=>pT x::MZ xs
end
theorem qO:∀l:List Vl,MZ l=l.map pT
 | []=>rfl
 | x::xs=>by rw[MZ,qO xs];rfl
def zW (x:Ce):List C:=.bool x.live::IC x.arena::pT x.value
def M0 (l:List Vl):List C:=[.sl (l.map pT)]
def D8 (x:Ac):List C:=[IC x.number,IC x.routine,IC x.block,IC x.index,IC x.dst,.sl (x.slots.map pT),.sl (rK x.since)]
def JU (x:Ln):List C:=[IC x.frame,IC x.slot,.bool x.excl,.bool x.re,.bool x.over]
def CT (x:Tk):List C:=[IC x.state,.sl (x.frames.map D8),.sl (x.loans.map JU),IC x.allocs,IC x.clock,IC x.next,.sl (rK x.cells)]
def KG (x:Ou):List C:=[IC x.task,IC x.number]
def Fe (b:Bool):List C:=[.bool b]
def QH (x:Wd):List C:=[.sl (x.cells.map zW),.sl (x.arenas.map Fe),.sl (x.tasks.map CT),.sl (x.channels.map M0),.sl (x.outputs.map KG),IC x.made,IC x.dropped,IC x.closed]
theorem aM {bs:List UInt8}:(af bs).length=bs.length:=by simp[af]
theorem gA {bs:List UInt8}:∀es∈af bs,es.length=1:=by
 intro es h;simp only[af,aaJ] at h;obtain⟨b,_,rfl⟩:=h;rfl
theorem ij (bs:List UInt8) (n m:Nat):((af bs).drop n).take m=af ((bs.drop n).take m):=by simp[af]
theorem Fit.to {k:IntKind}{n m:Int}{K:Int->Prop}(h:k.wrap n=m) (a:K m):Fit k n K:=⟨by rw[h];exact a⟩
theorem bU {n:Int}(b:-9223372036854775808<=n) (a:n<=9223372036854775807):IntKind.wrap .i64 n=n:=by
 simp only[IntKind.wrap,IntKind.bits,IntKind.signed,aa8,aaU,ge_iff_le,Nat.reduceSub,Int.reducePow];split<;>omega
theorem rM {bs:List UInt8}{els:List (List C)}{K:Prop}(n:Nat) (a:els.length=n) (h:n+bs.length<=140737488355328) (k:K):sL els (af bs) 1 1 K :=
 ⟨gA,by rw[aM,a];simp only[maxLen];omega,by rw[aM,a];omega,k⟩
theorem uZ {L L1:TL}{k t sz:Nat}(h:L.get k=none) (a:L1.get k=some (.row t sz [])):KE L L1 .nils (.rw k):=.inr (.inr (.inr (.inl ⟨rfl,k,t,sz,rfl,h,a⟩)))
theorem Rq {L:TL}{K:TL->Prop}(h:K L):fT L K:=by rw[fu];exact h
abbrev Dec (a:Type):=List UInt8->Option (a×List UInt8)
def bound:Int:=1099511627776
def takeD (n:Int):Dec (List UInt8):=fun l=>if 0<=n/\n<=l.length then some (l.take n.toNat,l.drop n.toNat) else none
def G6 (z:Nat):Int:=if z % 2=0 then((z / 2:Nat):Int) else -((z / 2:Nat):Int)-1
def lM:Nat->Nat->Nat->Dec Int
 | 0,_,_,_=>none
 | _+1,_,_,[]=>none
 | f+1,k,z,c::r=>if c.toNat<128 then(if 0<c.toNat\/k=0 then some (G6 (z+c.toNat*128 ^ k),r) else none)
  else lM f (k+1) (z+(c.toNat-128)*128 ^ k) r
def getD:Dec Int:=lM 6 0 0
def gm:Dec Int:=fun l=>match getD l with
 | some (n,r)=>if -bound<=n/\n<=bound then some (n,r) else none
 | none=>none
def yV:Dec Nat:=fun l=>match getD l with
 | some (n,r)=>if 0<=n/\n<=100000/\n<=r.length then some (n.toNat,r) else none
 | none=>none
def nW:Dec Bool:=fun l=>match gm l with
 | some (n,r)=>if n=0\/n=1 then some (decide (n=1),r) else none
 | none=>none
def bB {a:Type}(f:Dec a):Nat->Dec (List a)
 | 0,l=>some ([],l)
 | n+1,l=>match f l with
  | some (x,r)=>match bB f n r with
   | some (xs,r)=>some (x::xs,r)
   | none=>none
  | none=>none
def fV {b a:Type}(f:Dec b) (k:b->Dec a):Dec a:=fun l=>match f l with
 | none=>none
 | some (x,r)=>k x r
theorem aV {a b:Type}{f:Dec a}{k:a->Dec b}{l:List UInt8}(h:f l=none):fV f k l=none:=by simp only[fV,h]
theorem au {a b:Type}{f:Dec a}{k:a->Dec b}{l r:List UInt8}{x:a}(h:f l=some (x,r)):fV f k l=k x r:=by simp only[fV,h]
def vM {a:Type}(x:a):Dec a:=fun l=>some (x,l)
def dF {a:Type}(f:Dec a):Dec (List a):=fV yV fun n=>bB f n
def D9:Nat->Dec Vl
 | 0=>fun _=>none
 | d+1=>fV (bB gm 4) fun a=>fV (dF (D9 d)) fun f=>fV (bB nW 1) fun e=>fV (dF gm) fun p=>fV (dF gm) fun l=>vM (.mk (a.getD 0 0) (a.getD 1 0) (a.getD 2 0) (a.getD 3 0) f (e.getD 0 false) p l)
def Ff:Dec Vl:=D9 60
def NS:Dec Ce:=fV (bB nW 1) fun b=>fV (bB gm 1) fun a=>fV Ff fun v=>vM ⟨b.getD 0 false,a.getD 0 0,v⟩
def Rs:Dec (List Vl):=dF Ff
def NT:Dec Ac:=fV (bB gm 5) fun a=>fV Rs fun s=>fV (dF gm) fun c=>vM ⟨a.getD 0 0,a.getD 1 0,a.getD 2 0,a.getD 3 0,a.getD 4 0,s,c⟩
def P0:Dec Ln:=fV (bB gm 2) fun a=>fV (bB nW 3) fun b=>vM ⟨a.getD 0 0,a.getD 1 0,b.getD 0 false,b.getD 1 false,b.getD 2 false⟩
def KH:Dec Tk:=fV (bB gm 1) fun s=>fV (dF NT) fun f=>fV (dF P0) fun l=>fV (bB gm 3) fun a=>fV (dF gm) fun c=>vM ⟨s.getD 0 0,f,l,a.getD 0 0,a.getD 1 0,a.getD 2 0,c⟩
def Rt:Dec Ou:=fV (bB gm 2) fun a=>vM ⟨a.getD 0 0,a.getD 1 0⟩
def Ru:Dec Bool:=fV (bB nW 1) fun b=>vM (b.getD 0 false)
def CU:Dec Wd:=fV (dF NS) fun c=>fV (dF Ru) fun a=>fV (dF KH) fun t=>fV (dF Rs) fun h=>fV (dF Rt) fun o=>fV (bB gm 3) fun m=>vM ⟨c,a,t,h,o,m.getD 0 0,m.getD 1 0,m.getD 2 0⟩
theorem zX {n:Int}{bs:List UInt8}(h:0<=n) (k:n<=bs.length):takeD n bs=some (bs.take n.toNat,bs.drop n.toNat):=by simp[takeD,h,k]
abbrev Enc:=List UInt8×Bool
def QI:Enc:=([],true)
def Bj (b:Bool):Enc:=([],b)
def bn (a b:Enc):Enc:=(a.1++b.1,a.2&&b.2)
def bP (z:Nat):List UInt8:=if h:z<128 then[UInt8.ofNat z] else UInt8.ofNat (128+z % 128)::bP (z / 128)
termination_by z
decreasing_by omega
def zz (n:Int):Nat:=if n<0 then(-2*n-1).toNat else(2*n).toNat
def aS {a:Type}(f:a->Enc):List a->Enc
 | []=>QI
 | x::l=>bn (f x) (aS f l)
structure Kd where
 t:Nat
 tb:Nat
 num:Int->Enc
 siz:Int->Enc
 deep:Bool
def Dn (n:Int):List UInt8:=(List.range 8).map fun k=>UInt8.ofNat ((n.fdiv (2 ^ (8*k))).emod 256).toNat
def kW:Kd:=⟨102,108,fun n=>(bP (zz n),decide (-1099511627776<=n)&&decide (n<=1099511627776)),fun n=>(bP (zz n),decide (n<=100000)),false⟩
def kL:Kd:=⟨123,124,fun n=>(Dn n,true),fun n=>(Dn n,true),true⟩
section
variable (k:Kd)
def oH (b:Bool):Enc:=k.num (if b=true then 1 else 0)
def bQ {a:Type}(f:a->Enc) (l:List a):Enc:=bn (k.siz l.length) (aS f l)
mutual
def rZ:Vl->Int->Enc
 | .mk a b c n f e p l,d=>bn (Bj (decide (0<d)||k.deep)) (bn (aS k.num [a,b,c,n]) (bn (bn (k.siz f.length) (Bk f (d-1))) (bn (aS (oH k) [e]) (bn (bQ k k.num p) (bQ k k.num l)))))
def Bk:List Vl->Int->Enc
 | [],_=>QI
 | x::xs,d=>bn (rZ x d) (Bk xs d)
end
theorem oI (d:Int):∀l:List Vl,Bk k l d=aS (fun x=>rZ k x d) l
 | []=>rfl
 | x::xs=>by rw[Bk,oI d xs];rfl
def vD (v:Vl):Enc:=rZ k v 60
def QJ (x:Ce):Enc:=bn (aS (oH k) [x.live]) (bn (aS k.num [x.arena]) (vD k x.value))
def P1 (l:List Vl):Enc:=bQ k (vD k) l
def QK (x:Ac):Enc:=bn (aS k.num [x.number,x.routine,x.block,x.index,x.dst]) (bn (P1 k x.slots) (bQ k k.num x.since))
def QL (x:Ln):Enc:=bn (aS k.num [x.frame,x.slot]) (aS (oH k) [x.excl,x.re,x.over])
def QM (x:Tk):Enc:=bn (aS k.num [x.state]) (bn (bQ k (QK k) x.frames) (bn (bQ k (QL k) x.loans) (bn (aS k.num [x.allocs,x.clock,x.next]) (bQ k k.num x.cells))))
def Rv (x:Ou):Enc:=aS k.num [x.task,x.number]
def Rw (b:Bool):Enc:=aS (oH k) [b]
def rE (x:Wd):Enc:=bn (bQ k (QJ k) x.cells) (bn (bQ k (Rw k) x.arenas) (bn (bQ k (QM k) x.tasks) (bn (bQ k (P1 k) x.channels) (bn (bQ k (Rv k) x.outputs) (aS k.num [x.made,x.dropped,x.closed])))))
end
mutual
/-- how deep a value is -/
def Ea:Vl->Nat
 | .mk _ _ _ _ f _ _ _=>CV f+1
def CV:List Vl->Nat
 | []=>0
 | x::xs=>max (Ea x) (CV xs)
end
theorem x7:∀{l:List Vl}{x:Vl},x∈l->Ea x<=CV l
 | y::l,x,h=>by
  rw[CV];rcases aal.1 h with rfl | h
  ·exact Nat.le_max_left _ _
  ·exact aa1 (x7 h) (Nat.le_max_right _ _)
def WB (t:Nat) (bs:List UInt8):List TO:=[.box t [.rw 1001,IC 0,.int .i8 0],.row 5 1 (af bs)]
def Eb (t:Nat) (bs:List UInt8):TL:=[(1000,.box t [.rw 1001,IC 0,.int .i8 0]),(1001,.row 5 1 (af bs))]
def SS (k:Kd) (f:Nat) (args:List C) (e:Enc) (x:C):Prop:=∀bs,bs.length+e.1.length<=70368744177664 ->
 CallsTX PZ f args (WB k.tb bs) (fun Mo c=>e.2=true/\Mo=WB k.tb (bs++e.1)/\c=x) (fun v=>v=fL/\e.2=false)
abbrev fH (k:Kd) (f:Nat) (args:List C) (e:Enc):Prop:=SS k f args e (.tup [])
def RB (bs:List UInt8):TO:=.box 88 [.sl (af bs)]
def M5 {a:Type}(f:Nat) (args:List C) (bs:List UInt8) (o:Option (a×List UInt8)) (cell:a->C):Prop :=
 CallsTX PZ f args [RB bs] (fun Mo c=>∃y r,o=some (y,r)/\Mo=[RB r]/\c=cell y) (fun v=>v=fL/\o=none)
def gV {b:Type}(f:Nat) (fi ca:List C) (a:Dec b) (z:List C) (cs:b->List C):Prop:=∀(t:Nat) (pre post:List C) (bs:List UInt8),ct pre->ct post ->
 CallsTX PZ f (fi++.ifo none 86 1000 0::.own 1001 pre.length::ca) [RB bs,.win t pre z post] (fun Mo c=>∃x r,a bs=some (x,r)/\Mo=[RB r,.win t pre (cs x) post]/\c=.tup []) (fun v=>v=fL/\a bs=none)
def NU (b:Bool):Prop:=CallsTX PZ 36 [.bool b] [] (fun Mo c=>b=true/\Mo=[]/\c=.tup []) (fun v=>v=fL/\b=false)
section
variable {L:TL}{ρ:aX}
theorem u4 {PS:qd}{b:Bool}{args:List C}{K:TL->aX->C->Prop}(h:NU b) (d:args=[.bool b]) (f:b=false->PS.ps fL) (k:b=true->K L ρ (.tup [])) (j:lT L [] PS.hb=true:=by rfl):pq PZ PS 36 args L ρ K:=by
 subst d;refine .mk ⟨[],[],[],L,[],_,_,.inl rfl,rfl,rfl,rfl,rfl,rfl,j,h,fun v ⟨e,h⟩=>e▸f h,?_⟩;rintro v Mo ⟨a,rfl,rfl⟩ l c;exact⟨rfl,k a⟩
theorem dz {R:List TO->C->Prop}(ko:List Nat) {Lin Mo Lo:List TO}{v x:C}(b:L.sub ko=some Mo) (a:(T.bJ ko&&aU Lin (List.range' 1000 Lin.length) ko)=true) (c:Mo.map (TO.ZC (C.ren (cD ko 1000)))=Lo) (e:v.ZQ.ren (cD ko 1000)=x) (h:R Lo x):pW Lin L v R:=by
 simp only[aaj] at a;exact⟨[],ko,L,v,v,Mo,rfl,.inl ⟨rfl,rfl⟩,b,a.1,a.2,fun _=>by rw[c,e];exact h⟩
theorem qP {R:List TO->C->Prop}(b ko:List Nat) {Lin:List TO}{v:C}(f:wY b L (fun _=>.any) [v] fun L _ vs=>∃c Mo,vs=[c]/\L.sub ko=some Mo/\(T.bJ ko&&aU Lin (List.range' 1000 Lin.length) ko)=true/\R (Mo.map (TO.ZC (C.ren (cD ko 1000)))) (c.ZQ.ren (cD ko 1000))):pW Lin L v R:=by
 refine⟨b,ko,?_⟩;refine vu.frzK_imp f ?_;rintro L ρ vs ⟨c,Mo,rfl,d,a,e⟩;simp only[aaj] at a;exact⟨L,c,c,Mo,rfl,.inl ⟨rfl,rfl⟩,d,a.1,a.2,fun _=>e⟩
theorem bW (ks:List Nat) {PS:qd}{f:Nat}{args a:List C}{K:TL->aX->C->Prop}{R:List TO->C->Prop}{Pp:Value->Prop}{Lin Lin':List TO}(h:CallsTX PZ f a Lin' R Pp) (j:L.sub ks=some Lin)
  (b:(T.bJ ks&&T.mq L ks ks&&aU Lin ks ks)=true) (l:(args.map fun c=>c.ZG.ren (cD ks 1000))=a) (p:Lin.map (TO.ZC (C.ren (cD ks 1000)))=Lin') (m:∀v,Pp v->PS.ps v)
  (k:∀v Mo,R Mo v->Wf v->(∀o∈Mo,o.Wf)->ks.length=Mo.length/\K (((L.ZB ks).kills (rowsOf L ks)).puts ks (Mo.map (TO.ZC (C.ren (aZ ks))))) (fF (rowsOf L ks) ρ) (v.ren (aZ ks)).slt) (n:lT L ks PS.hb=true:=by rfl):pq PZ PS f args L ρ K:=by
 subst l p;simp only[aaj] at b;obtain⟨⟨d,e⟩,c3⟩:=b;exact .mk ⟨[],ks,ks,L,Lin,_,_,.inl rfl,j,d,d,e,c3,n,h,m,k⟩
theorem cu (ks:List Nat) {PS:qd}{b:List Nat}{f:Nat}{args a:List C}{K:TL->aX->C->Prop}{R:List TO->C->Prop}{Pp:Value->Prop}{Lin Lin':List TO}(h:CallsTX PZ f a Lin' R Pp) (j:L.sub ks=some Lin)
  (d:(T.bJ ks&&w7 ks b&&aU Lin ks ks)=true) (l:(args.map fun c=>c.ZG.ren (cD ks 1000))=a) (q:Lin.map (TO.ZC (C.ren (cD ks 1000)))=Lin') (m:∀v,Pp v->PS.ps v)
  (k:∀v Mo,R Mo v->Wf v->(∀o∈Mo,o.Wf)->ks.length=Mo.length/\K (((L.ZB ks).kills (rowsOf L ks)).puts ks (Mo.map (TO.ZC (C.ren (aZ ks))))) (fF (rowsOf L ks) ρ) (v.ren (aZ ks)).slt) (n:lT L ks PS.hb=true:=by rfl):nH PZ PS b f args L ρ K:=by
 subst l q;simp only[aaj] at d;obtain⟨⟨p,e⟩,c3⟩:=d;exact⟨ks,Lin,_,_,j,p,e,c3,n,h,m,k⟩
end
theorem uo (b:Bool):NU b:=by
 refine aq Tryz.func36 Ml rfl fun _ _=>?_;cases b
 ·exact Ra rfl ⟨rfl,rfl⟩
 ·exact dz [] rfl rfl rfl rfl ⟨rfl,rfl,rfl⟩
end Go.Fr.Tryz
namespace Go.Fr.Tryz
open Go Go.RowKit Go.Proofs Go.Fr Go.Fr.T
theorem St.reslice {F:aD}{L:Loc}{w:World}{k g t sz n n' c:Nat}{xs:List Value}(j:St F L w) (m:L.get k=some (.row (.slice (some ⟨g,0,none⟩) n c) t sz n xs)) (h:n'<=c) :
  ∃ys,ys.length=n'*sz/\(∀i,i<n*sz->i<n'*sz->ys[i]?=xs[i]?)/\St F (L.set k (.row (.slice (some ⟨g,0,none⟩) n' c) t sz n' ys)) w:=by
 have l:=j.own k _ m;simp only[Own.ok] at l;obtain⟨x,⟨e,_⟩ | ⟨u,cap,a,e,q,o,v,s,f,p⟩⟩:=l
 ·cases e
 ·injection e with e1 e2 e3
  injection e1 with e1
  injection e1 with e1 _ _
  subst e1 e3;have r:n'*sz<=c*sz:=Nat.mul_le_mul_right _ h;refine⟨a.toList.take (n'*sz),?_,fun i hi b=>?_,?_⟩
  ·rw[aaC,Array.length_toList,f];omega
  ·rw[<-p,List.getElem?_take_of_lt hi,List.getElem?_take_of_lt b]
  ·refine j.turn m (o':=.row (.slice (some ⟨g,0,none⟩) n' c) t sz n' (a.toList.take (n'*sz))) ?_ (fun _ _ _=>rfl) (fun u d=>.inl d);exact⟨by rw[aaC,Array.length_toList,f];omega,.inr ⟨g,c,a,rfl,q,o,h,s,f,rfl⟩⟩
theorem CallsA.Z2 {P:Program}{f:FuncId}{args:Array Value}{F:aD}{Lin:List Own}{R R':aD->List Own->Value->Prop}(h:CallsA P f args F Lin R) (m:∀F G L v,F.le G->R' F L v->R' G L v)
  (l:∀F' Lo v w',St F' (inp Lo) w'->R F' Lo v->∃Lo',St F' (inp Lo') w'/\(∀b,(inp Lo').owns b->(inp Lo).owns b)/\R' F' Lo' v):CallsA P f args F Lin R':=by
 refine⟨h.ent,m,fun w d=>(h.run w d).mono ?_⟩;rintro e w' ⟨v,F',Lo,rfl,j,a,n⟩;obtain⟨Lo',k,o,c⟩:=l F' Lo v w' j n;exact⟨v,F',Lo',rfl,k,⟨a.le,a.os,a.tape,a.output,a.size,a.same,a.frz,fun b hb=>a.own b (o b hb)⟩,c⟩
def jJ (s:Value) (n c:Nat):Prop:=(s=.slice none 0 0/\n=0/\c=0)\/∃g,s=.slice (some ⟨g,0,none⟩) n c/\n<=c/\c<=maxLen
theorem jJ.form {s:Value}{n c:Nat}(h:jJ s n c):∃a,s=.slice a n c/\n<=c/\c<=maxLen/\(a=none->n=0/\c=0):=by
 rcases h with⟨rfl,rfl,rfl⟩ | ⟨g,rfl,d,b⟩
 ·exact⟨none,rfl,aaB _,aaK _,fun _=>⟨rfl,rfl⟩⟩
 ·exact⟨_,rfl,d,b,fun e=>by cases e⟩
theorem Bl {F:aD}{L:Loc}{w:World}{k t sz n:Nat}{v:Value}{xs:List Value}(f:St F L w) (m:L.get k=some (.row v t sz n xs)):∃c,jJ v n c:=by
 have a:=f.own k _ m;simp only[Own.ok] at a;obtain⟨r,⟨e,b⟩ | ⟨l,cap,d,e,q,o,h,j,s,p⟩⟩:=a
 ·exact⟨0,.inl ⟨e,b,rfl⟩⟩
 ·exact⟨cap,.inr ⟨l,e,h,j⟩⟩
def BO (ex:List Value) (a tb:Nat) (s:Value) (lr:Int) (n:Nat) (xs:List Value):List Own:=[.box a (tb+1) (s::.int .i64 0::.int .i8 lr::ex),.row s 5 1 n xs]
theorem JV {ex:List Value}{a tb:Nat}{s:Value}{lr:Int}{n:Nat}{xs:List Value}:inp (BO ex a tb s lr n xs)=[(1000,.box a (tb+1) (s::.int .i64 0::.int .i8 lr::ex)),(1001,.row s 5 1 n xs)]:=rfl
theorem JW {Lin:List Own}(svs:List SV) (n:Nat) (a:∀v∈svs,(∀k off,v=.own k off->∃g ty cs,(inp Lin).get k=some (.box g ty cs))/\(∀d j,v=.el d j->d≠none)) :
  aG (inp Lin) (tv 0 svs) {tmps:=(svs.map (conc (inp Lin))).toArray++Array.replicate (n-(svs.map (conc (inp Lin))).toArray.size) undef,defers:=[]}:=by
 have c:∀t,tv 0 svs t=.v undef\/tv 0 svs t∈svs:=by
  intro t;rw[qw];simp only[aaK,aaD,Nat.sub_zero];cases e:svs[t]? with
  | none=>exact .inl rfl
  | some v=>exact .inr (aam e)
 refine⟨fun t=>?_,fun t k off e=>?_,fun t d j e=>?_⟩
 ·rw[qw];simp only[aaK,aaD,Nat.sub_zero,aaF];cases e:svs[t]? with
  | some v =>
   have h:t<svs.length:=(aai.1 e).1;rw[Array.getElem?_append_left (by simpa using h)];simp[e]
  | none =>
   have f:svs.length<=t:=aa4.1 e;rw[Array.getElem?_append_right (by simpa using f)];simp only[Array.getElem?_replicate,Option.getD_none,conc];split<;>rfl
 ·rcases c t with b | b
  ·rw[b] at e;cases e
  ·exact(a _ b).1 k off e
 ·rcases c t with b | b
  ·rw[b] at e;cases e
  ·exact(a _ b).2 d j e
variable {ex:List Value}
theorem rF {c tb:Nat}{s:Value}{lr:Int}{n:Nat}{xs:List Value}{svs:List Value}:∀v∈(SV.own 1000 0::svs.map SV.v),(∀k off,v=.own k off->∃g ty cs,(inp (BO ex c tb s lr n xs)).get k=some (.box g ty cs))/\(∀b j,v=.el b j->b≠none):=by
 intro v a;rcases aal.1 a with rfl | a
 ·exact⟨fun k off e=>by injection e with e1 e2;subst e1;exact⟨_,_,_,rfl⟩,fun _ _ e=>by cases e⟩
 ·obtain⟨u,_,rfl⟩:=aaJ.1 a;exact⟨fun _ _ e=>(by cases e),fun _ _ e=>(by cases e)⟩
theorem M7 {s:Value}{n c h:Nat}{a:Option Addr}(b:jJ s n c) (e:s=.slice a n c):gj a c 0 h 1=.slice a h c:=by
 rcases b with⟨rfl,rfl,rfl⟩ | ⟨g,rfl,_,_⟩
 ·injection e with e1 e2 e3
  subst e1;simp[gj]
 ·injection e with e1 e2 e3
  subst e1;simp[gj,Addr.add]
def Zc (ex:List Value) (a tb:Nat) (s:Value) (lr:Int) (n c m:Nat) (xs:List Value):aD->List Own->Value->Prop:=fun _ Lo v =>
 (∃s' ys,ys.length=m/\jJ s' (n+m) c/\Lo=BO ex a tb s' lr (n+m) (xs++ys)/\v=.tuple #[.int .i64 n,.bool true]) \/
 (c<n+m/\Lo=BO ex a tb s lr n xs/\v=.tuple #[.int .i64 0,.bool false])
theorem Vm (F:aD) (d tb:Nat) (s:Value) (lr:Int) (n c m:Nat) (xs:List Value) (l:jJ s n c) (hm:n+m<=140737488355328) :
  CallsA PZ 88 #[.pointer (some ⟨d,0,none⟩),.int .i64 m] F (BO ex d tb s lr n xs) (Zc ex d tb s lr n c m xs):=by
 obtain⟨a,rfl,ad,t,ha⟩:=l.form;unfold maxLen at t;have h1:CallsA PZ 88 #[.pointer (some ⟨d,0,none⟩),.int .i64 m] F (BO ex d tb (.slice a n c) lr n xs) (fun _ Lo v =>
   (n+m<=c/\Lo=[.box d (tb+1) (.slice a (n+m) c::.int .i64 0::.int .i8 lr::ex),.row (.slice a n c) 5 1 n xs]/\v=.tuple #[.int .i64 n,.bool true]) \/
   (c<n+m/\Lo=BO ex d tb (.slice a n c) lr n xs/\v=.tuple #[.int .i64 0,.bool false])):=by
  refine gN (svs:=[.own 1000 0,.v (.int .i64 m)]) rfl MG rfl rfl (rF (svs:=[.int .i64 m])) (fun _ _ _ _ _ h=>h) ?_;refine Fit.ZA (by omega) (by omega) ?_;refine aN (fun h=>?_) (fun h=>?_)
  ·refine Fit.ZA (by omega) (by omega) ?_;refine nD.mk (by omega) (by omega) (by omega) ?_;have e:((n:Int)+m).toNat=n+m:=by omega
   have y:gj a c 0 ((n:Int)+m).toNat 1=.slice a (n+m) c:=by rw[e];exact M7 l rfl
   exact⟨[1000,1001],_,rfl,by decide,.inl ⟨by omega,j3 (fun q=>[Own.box d (tb+1) (q::.int .i64 0::.int .i8 lr::ex),.row (.slice a n c) 5 1 n xs]) y,rfl⟩⟩
  ·exact⟨[1000,1001],_,rfl,by decide,.inr ⟨by omega,rfl,rfl⟩⟩
 refine CallsA.Z2 h1 (fun _ _ _ _ _ h=>h) ?_;rintro F' Lo v w' f (⟨j,rfl,rfl⟩ | ⟨p,rfl,rfl⟩)
 ·rcases l with⟨e,rfl,rfl⟩ | ⟨g,e,_,_⟩
  ·injection e with e1 _ _
   subst e1;have:m=0:=by omega
   subst this;exact⟨_,f,fun b h=>h,.inl ⟨.slice none 0 0,[],rfl,.inl ⟨rfl,rfl,rfl⟩,by simp[BO],rfl⟩⟩
  ·injection e with e1 _ _
   subst e1;have w:(inp [.box d (tb+1) (.slice (some ⟨g,0,none⟩) (n+m) c::.int .i64 0::.int .i8 lr::ex),.row (.slice (some ⟨g,0,none⟩) n c) 5 1 n xs]).get 1001=some (.row (.slice (some ⟨g,0,none⟩) n c) 5 1 n xs):=rfl;have u:xs.length=n:=by
    have:=(f.own _ _ w).1;simpa using this
   obtain⟨ys,y1,y2,x⟩:=St.reslice f w j;have r:ys=xs++ys.drop n:=by
    apply aaR;intro i
    by_cases hi:i<n
    ·rw[y2 i (by omega) (by omega),aap (by omega)]
    ·rw[aaw (by omega),aaL,u];congr 1;omega
   refine⟨BO ex d tb (.slice (some ⟨g,0,none⟩) (n+m) c) lr (n+m) ys,x,fun b hb=>?_,.inl ⟨_,ys.drop n,by rw[aa2,y1];omega,.inr ⟨g,rfl,j,by unfold maxLen;omega⟩,by rw[<-r],rfl⟩⟩;obtain⟨k,o,e,hb⟩:=hb;rw[JV] at e;simp only[Loc.get] at e;split at e
   ·rename_i z;injection e with e;subst e
    exact⟨1000,_,rfl,hb⟩
   ·split at e
    ·injection e with e;subst e
     exact⟨1001,_,rfl,hb⟩
    ·cases e
 ·exact⟨_,f,fun b h=>h,.inr ⟨p,rfl,rfl⟩⟩
variable {ex:List Value}
def Vn:aH:=.reg [.op (some 8) (.mov (.t 0)) none,
  .op (some 9) (.len (.t 8)) none,
  .op (some 10) (.mov (.t 1)) none,
  .op (some 11) (.bin .add (.t 9) (.t 10)) none,
  .op (some 5) (.mov (.t 11)) none]
def Vo:aH:=.seq (.reg [.op (some 12) (.mov (.t 5)) none,
  .op (some 13) (.mov (.t 0)) none,
  .op (some 14) (.capa (.t 13)) none,
  .op (some 15) (.bin .mul (.c (.int .i64 2)) (.t 14)) none,
  .op (some 16) (.bin .lss (.t 12) (.t 15)) none])
 (.cond (.t 16)
 (.reg [.op (some 17) (.mov (.t 0)) none,
   .op (some 18) (.capa (.t 17)) none,
   .op (some 19) (.bin .mul (.c (.int .i64 2)) (.t 18)) none,
   .op (some 5) (.mov (.t 19)) none])
 .skip)
def Vp:aH:=.reg [.op (some 20) (.mov (.t 5)) none,
  .op (some 21) (.appZ 5 1 .u8 (.c (.slice none 0 0)) (.t 20)) none,
  .op (some 6) (.mov (.t 21)) none]
def Vq:aH:=.seq (.reg [.op (some 22) (.mov (.t 6)) none,
  .op (some 23) (.mov (.t 0)) none,
  .op (some 24) (.copy 5 1 (.t 22) (.t 23)) none,
  .op (some 7) (.mov (.t 24)) none])
 (.seq (.reg [.op (some 25) (.mov (.t 6)) none,
  .op (some 26) (.mov (.t 7)) none,
  .op (some 27) (.slc 1 (.t 25) none (some (.t 26))) none,
  .op (some 4) (.mov (.t 27)) none])
 .ret)
theorem piece {P:Program}{A:cH}{c:Code}{sc:aH}(x:low P A c=some sc) {N:cS}{F:aD}{L:Loc}{ρ:Env}{a:Act}{w:World}(u:St F L w) (s:aG L ρ a) (t:a.tmps.size=A.n)
  (r:iq P sc (fun _ _ _ _=>False) (fun _ _ _=>False) N F L ρ) {Q:Exit->Act->World->Prop}
  (k:∀d w' F' L' ρ',St F' L' w'->aG L' ρ' d->d.tmps.size=A.n->d.defers=a.defers->Step F L w F' L' w'->N F' L' ρ'->Q .normal d w'):c.wp P Q a w:=by
 refine wp_mono (pK c x u s t r) ?_;intro e d w' h;cases e with
 | normal=>obtain⟨F',L',ρ',m,o,p,f,l,q,b⟩:=h;exact k _ _ _ _ _ m o p f l b
 | exit j=>obtain⟨F',L',ρ',m,o,p,f,l,q,b⟩:=h;exact b.elim
 | ret=>obtain⟨F',L',ρ',m,o,p,f,l,q,b⟩:=h;exact b.elim
 | panic ch =>
  obtain⟨v,_,F',L',q1,q2,z,q4,q5,y⟩:=h;exact y.elim
 | _=>exact h.elim
theorem oK {ρ:Env}{k:Nat}{x:SV}(h:ρ k=x):put (some k) x ρ=ρ:=by
 funext j
 rw[put_eq];simp only[];split
 ·rename_i e;rw[e,h]
 ·rfl
def GJ:cH:={n:=28}
theorem yX (w:World) :
  CallsD Tryz.prog 135 #[] .returning w fun e c w'=>e=.returned (.tuple #[])/\c=.returning/\w'=w:=by
 have d:Tryz.f135.ntmps=3:=by kernel_rfl
 have f:Tryz.f135.results=#[]:=by kernel_rfl
 refine callsD_of_wpS Tryz.func135 rfl fun a cs b=>?_;apply wpS_seq;apply wpS_region;simp[wpOpsS,go_sem,recoverD,b,d,Exit.thenS];refine wpS_cond (t:=false) (by simp[Act.eval,Array.replicate]) ?_;simp only[aaq,aaO];refine wpS_of_wp (wp_skip ?_);cases a
 simp_all [bodyPostS,results]
theorem Rx (F:aD) (a:Option Addr) (n c m:Nat) (xs:List Value) (hn:n<=c) (hc:c<n+m) (hm:n+m<=70368744177664) (hx:xs.length=n) (ap:bV F a 0 xs\/(n=0/\xs=[])) (h1:∀u∈xs,u.oneCell'=true) :
  CallsA PZ 114 #[.slice a n c,.int .i64 m] F [] (fun _ Lo v=>∃l,jJ v n l/\n+m<=l/\Lo=[.row v 5 1 n xs]):=by
 have bi:Tryz.f114.ntmps=28:=by kernel_rfl
 refine⟨⟨_,Tryz.func114,by kernel_rfl,by kernel_rfl⟩,fun _ _ _ _ _ h=>h,fun w hs=>?_⟩
 suffices hall:∀RR:Ending->World->Prop,(∀v F' Lo w',St F' (inp Lo) w'->Step F (inp []) w F' (inp Lo) w'->(∃l,jJ v n l/\n+m<=l/\Lo=[.row v 5 1 n xs])->RR (.returned v) w')->Calls Tryz.prog 114 #[.slice a n c,.int .i64 m] w RR from
  hall _ fun v F' Lo w' h1 h2 h3=>⟨v,F',Lo,rfl,h1,h2,h3⟩
 intro RR bk;refine calls_of_wp_defers Tryz.func114 rfl ?_;rw[bi];have bx:=JW (Lin:=[]) [.v (.slice a n c),.v (.int .i64 m)] 28 (H7 [.slice a n c,.int .i64 m]);refine wp_seq (wp_region (nT (A:=GJ) (r:=0) (List.range 1) (ss:=[.op (some 4) (.mov (.c (.slice none 0 0))) none]) (by kernel_rfl) hs bx (by simp[GJ])
  (K:=fun F' L' ρ'=>F'=F/\L'=inp []/\ρ'=put (some 4) (.v (.slice none 0 0)) (tv 0 [.v (.slice a n c),.v (.int .i64 m)])) ⟨rfl,rfl,rfl⟩ ?_))
 rintro a1 w1 ⟨F1,L1,cx,cb,aa,ax,av,ag,_,rfl,rfl,rfl⟩;simp only[Exit.then];refine wp_seq (wp_region ?_);obtain⟨tm,df⟩:=a1;simp only at ax av;subst av;have cs:∀w:World,(Instr.makeFunc (.func 135) #[] #[]).run Tryz.prog w=.ok (.func (.func 135) #[] #[]) w:=fun _=>rfl;simp[wpOps,go_sem,Exit.then,Act.eval];refine .inl ?_;have s:aG (inp []) (put (some 4) (.v (.slice none 0 0)) (tv 0 [.v (.slice a n c),.v (.int .i64 m)])) {tmps:=tm,defers:=[{target:=.fn (.func 135) #[],args:=#[]}]}:=⟨aa.eq,aa.own,aa.el⟩;refine wp_seq (piece (A:=GJ) (sc:=Vn) (by kernel_rfl) cb s ax (N:=fun F' L' ρ'=>F'=F1/\L'=inp []/\ρ' 5=.v (.int .i64 (n+m:Nat))/\ρ' 0=.v (.slice a n c)) ?_ ?_)
 ·refine Fit.to (m:=((n+m:Nat):Int)) (by rw[bU (by omega) (by omega)];omega) ?_;exact⟨rfl,rfl,rfl,rfl⟩
 rintro a2 w2 F2 L2 cc cf s bm ba al ⟨rfl,rfl,q,p⟩;simp only[Exit.then];rw[<-oK q,<-oK (ρ:=put _ _ cc) (k:=0) (x:=.v (.slice a n c)) (by rw[put_eq];simpa using p)] at s;generalize z:(if n+m<2*c then 2*c else n+m)=M;have dd:n+m<=M/\M<=140737488355328:=by subst z;split<;>omega
 refine wp_seq (piece (A:=GJ) (sc:=Vo) (by kernel_rfl) cf s bm (N:=fun F' L' ρ'=>F'=F2/\L'=inp []/\ρ' 5=.v (.int .i64 M)/\ρ' 0=.v (.slice a n c)) ?_ ?_)
 ·refine Fit.to (m:=((2*c:Nat):Int)) (by rw[bU (by omega) (by omega)];omega) ?_;refine aN (fun h=>?_) (fun h=>?_)
  ·refine Fit.to (m:=((2*c:Nat):Int)) (by rw[bU (by omega) (by omega)];omega) ?_;exact⟨rfl,rfl,(by rw[<-z,o6 (by omega)];rfl),rfl⟩
  ·exact⟨rfl,rfl,(by rw[<-z,vz (by omega)];rfl),rfl⟩
 clear q p
 rintro a3 w3 F3 L3 bl be ab bd bv ao ⟨rfl,rfl,q,p⟩;simp only[Exit.then];rw[<-oK q,<-oK (ρ:=put _ _ bl) (k:=0) (x:=.v (.slice a n c)) (by rw[put_eq];simpa using p)] at ab;refine wp_seq (piece (A:=GJ) (sc:=Vp) (by kernel_rfl) be ab bd (N:=fun F' L' ρ'=>F'=F3/\∃ad l,L'=[(21,.row (.slice (some ad) M l) 5 1 M (List.replicate M (.int .u8 0)))]/\ρ' 6=.v (.slice (some ad) M l)/\ρ' 0=.v (.slice a n c)) ?_ ?_)
 ·refine Hg.mk ⟨21,0,[],.inr ⟨rfl,rfl,rfl,rfl⟩,by unfold maxLen;omega,by omega,fun v hv=>?_⟩;obtain⟨a',c',rfl,bb⟩:=hv;cases a' with
  | none=>exact vv (bb rfl) (by omega)
  | some ad =>
   rw[Nat.zero_add];exact⟨rfl,ad,c',rfl,rfl,rfl⟩
 clear q p
 rintro a4 w4 F4 L4 bo az ar aE ca aw ⟨rfl,ad,l,rfl,q,p⟩;simp only[Exit.then];obtain⟨dg,bp⟩:=Bl az (k:=21) rfl;rcases bp with⟨e,_⟩ | ⟨g,e,dj,t⟩
 ·cases e
 injection e with e1 e2 e3
 injection e1 with e1
 subst e1 e3;rw[<-oK q,<-oK (ρ:=put _ _ bo) (k:=0) (x:=.v (.slice a n c)) (by rw[put_eq];simpa using p)] at ar;have bz:aP (List.replicate M (Value.int .u8 0)) (0*1) xs=xs++List.replicate (M-n) (.int .u8 0):=by
  simp[aP,hx]
 refine wp_mono (pK (A:=GJ) _ (sc:=Vq) (by kernel_rfl) az ar aE (E:=fun _ _ _ _=>False) (N:=fun _ _ _=>False)
  (R:=fun F' L' ρ'=>F'=F4/\L'=[(21,.row (.slice (some ⟨g,0,none⟩) M l) 5 1 M (xs++List.replicate (M-n) (.int .u8 0)))]/\ρ' 4=.v (.slice (some ⟨g,0,none⟩) n l)) ?_) ?_
 ·refine Ai.mk (.inl ⟨21,M,_,_,_,⟨g,0,none⟩,l,l,0,n,a,c,xs,rfl,rfl,rfl,by omega,rfl,by rw[Nat.min_eq_left (by omega),hx,Nat.mul_one],?_,h1,?_⟩)
  ·rw[Nat.min_eq_left (by omega)];exact ap
  rw[Nat.min_eq_left (by omega),bz];refine nD.mk (by omega) (by omega) (by omega) ?_;exact⟨rfl,rfl,j3 SV.v (M7 (n:=M) (.inr ⟨g,rfl,by omega,t⟩) rfl)⟩
 intro e a5 w5 h;cases e with
 | normal=>obtain⟨F',L',ρ',h1,h2,h3,h4,h5,h6,h7⟩:=h;exact h7.elim
 | exit j=>obtain⟨F',L',ρ',h1,h2,h3,h4,h5,h6,h7⟩:=h;exact h7.elim
 | panic ch =>
  obtain⟨v,_,F',L',q1,q2,q3,q4,q5,q6⟩:=h;exact q6.elim
 | ret =>
  obtain⟨F',L',ρ',ae,bj,de,an,am,_,rfl,rfl,h4⟩:=h;rw[ca,bv,ba] at an;show Leaves Tryz.prog Tryz.f114 a5.tmps RR a5.defers .returning w5;rw[an];refine leaves_cons (f:=135) (args:=#[]) (by simp) (by simp[invoke]) ?_;refine(yX _).mono ?_;rintro e u' w6 ⟨rfl,rfl,rfl⟩;obtain⟨vs,h5,rfl⟩:=vA (P:=Tryz.prog) (fn:=Tryz.f114) (rs:=[(4,none)]) (K:=fun vs=>vs=[.slice (some ⟨g,0,none⟩) n l]) ae bj (by kernel_rfl) (by
   simp only[lR,h4];rfl)
  obtain⟨ys,y1,y2,y3⟩:=St.reslice (n':=n) ae (k:=21) rfl (by omega);have bt:ys=xs:=by
   apply aaR;intro i
   by_cases hi:i<n
   ·rw[y2 i (by omega) (by omega),aap (by omega)]
   ·rw[aar (by omega),aar (by omega)]
  subst bt;refine⟨_,h5,bk _ F' [.row (.slice (some ⟨g,0,none⟩) n l) 5 1 n ys] w6 ?_ ?_ ⟨l,.inr ⟨g,rfl,by omega,t⟩,by omega,rfl⟩⟩
  ·exact y3.handed (ks:=[21]) rfl (by simp)
  ·have d:=(((ag.trans al).trans ao).trans aw).trans am;refine⟨d.le,d.os,d.tape,d.output,d.size,d.same,d.frz,fun b hb=>?_⟩;refine d.own b ?_;obtain⟨k,o,e,hb⟩:=hb;rw[aW] at e;split at e
   case isFalse=>cases e
   rename_i hk;have y:=aam e;simp only[aaW] at y;subst y;exact⟨21,_,rfl,hb⟩
 | _=>exact h.elim
variable {ex:List Value}
theorem CallsA.Z9 {P:Program}{f:FuncId}{args:Array Value}{F:aD}{v:Value}{t sz n:Nat}{xs:List Value}{R:aD->List Own->Value->Prop}(hent:∃fn,P.funcs[f]?=some fn/\fn.body.isSome=true/\(fn.name == "runtime.NumGoroutine")=false)
  (hmono:∀F G L v,F.le G->R F L v->R G L v) (h:∀F',F.le F'->Hj F' v sz n xs->CallsA P f args F' [] R):CallsA P f args F [.row v t sz n xs] R:=by
 refine⟨hent,hmono,fun w hs=>?_⟩;have he:aG (inp [.row v t sz n xs]) (fun _=>.v undef) {tmps:=#[],defers:=[]}:=⟨fun t=>by simp[conc],fun _ _ _ e=>(by cases e),fun _ _ _ e=>(by cases e)⟩;obtain⟨F',L',k1,k2,k3,k4,k5⟩:=oq (k:=1000) hs he (KK:=fun F' L'=>L'=inp []/\F.le F'/\Hj F' v sz n xs) ⟨v,t,sz,n,xs,rfl,fun F' h1 h2=>⟨rfl,h1,h2⟩⟩;obtain⟨rfl,k5,k6⟩:=(⟨k4,k5⟩:_/\_);refine Calls.mono ((h F' k5 k6).run w k1) ?_;rintro e w' ⟨v,F2,Lo,rfl,h1,h2,h3⟩;exact⟨v,F2,Lo,rfl,h1,k3.trans h2,h3⟩
theorem P2:∃fn,Tryz.prog.funcs[114]?=some fn/\fn.body.isSome=true/\(fn.name == "runtime.NumGoroutine")=false:=⟨_,Tryz.func114,by kernel_rfl,by kernel_rfl⟩
theorem Ry (F:aD) (a:Option Addr) (n c m:Nat) (xs:List Value) (d:n<=c) (f:c<n+m) (l:n+m<=70368744177664) (k:xs.length=n) (j:∀u∈xs,u.oneCell'=true) :
  CallsA PZ 114 #[.slice a n c,.int .i64 m] F [.row (.slice a n c) 5 1 n xs] (fun _ Lo v=>∃b,jJ v n b/\n+m<=b/\Lo=[.row v 5 1 n xs]):=by
 refine CallsA.Z9 P2 (fun _ _ _ _ _ h=>h) fun F' _ o=>Rx F' a n c m xs d f l k ?_ j;rcases o with⟨e,rfl,rfl⟩ | ⟨q,p,e,h,_⟩
 ·exact .inr ⟨rfl,rfl⟩
 ·injection e with e1 _ _
  subst e1;exact .inl h
theorem Rz (F:aD) (d tb:Nat) (s:Value) (lr:Int) (n c:Nat) (xs:List Value) (e:jJ s n c) :
  CallsA PZ 112 #[.pointer (some ⟨d,0,none⟩)] F (BO ex d tb s lr n xs) (fun _ Lo v=>Lo=BO ex d tb s lr n xs/\v=.int .i64 n):=by
 obtain⟨a,rfl,f,b,j⟩:=e.form;unfold maxLen at b;refine gN (svs:=[.own 1000 0]) rfl Ja rfl rfl (rF (svs:=[])) (fun _ _ _ _ _ h=>h) ?_;refine Fit.to (m:=(n:Int)) (by rw[bU (by omega) (by omega)];omega) ?_;exact⟨[1000,1001],_,rfl,by decide,rfl,rfl⟩
theorem Ed {f:Nat}{vs:List Value}{F:aD}{L:Loc}{K:aD->Loc->Value->Prop}{d tb n:Nat}{s:Value}{lr:Int}{xs:List Value}{R:aD->List Own->Value->Prop}(q:L=inp (BO ex d tb s lr n xs)) (h:CallsA PZ f vs.toArray F (BO ex d tb s lr n xs) R)
  (p:∀v F' Lo,F.le F'->R F' Lo v->∃s' a n' b,Lo=BO ex d tb s' a n' b/\K F' (inp (BO ex d tb s' a n' b)) v):dH PZ f vs F L K:=by
 subst q;refine⟨[1000,1001],[1000,1001],_,_,rfl,by decide,by decide,fun k j=>.inl j,h,fun v F' Lo l o=>?_⟩;obtain⟨s',a,n',b,rfl,m⟩:=p v F' Lo l o;refine⟨rfl,fun k g t cs j e=>?_,m⟩;simp only[aal,List.not_mem_nil,or_false] at j;rcases j with rfl | rfl
 ·have c:(some (Own.box d (tb+1) (s::.int .i64 0::.int .i8 lr::ex)))=some (.box g t cs):=e;injection c with c
  injection c with e1 e2 e3
  subst e1 e2;exact⟨_,rfl⟩
 ·have c:(some (Own.row s 5 1 n xs))=some (.box g t cs):=e;injection c with c
  cases c
theorem Fg {F:aD}{L:Loc}{K:aD->Loc->Value->Prop}{a tb n c:Nat}{s:Value}{lr:Int}{xs:List Value}(f:L=inp (BO ex a tb s lr n xs)) (e:jJ s n c)
  (h:∀F',F.le F'->K F' (inp (BO ex a tb s lr n xs)) (.int .i64 n)):dH PZ 112 [.pointer (some ⟨a,0,none⟩)] F L K :=
 Ed f (Rz F a tb s lr n c xs e) fun v F' Lo b d=>⟨s,lr,n,xs,d.1,d.2▸h F' b⟩
theorem Ee {F:aD}{L:Loc}{K:aD->Loc->Value->Prop}{a tb n c m:Nat}{s:Value}{lr:Int}{xs:List Value}(j:L=inp (BO ex a tb s lr n xs)) (f:jJ s n c) (l:n+m<=140737488355328)
  (h:∀F' s' ys,F.le F'->ys.length=m->jJ s' (n+m) c->K F' (inp (BO ex a tb s' lr (n+m) (xs++ys))) (.tuple #[.int .i64 n,.bool true]))
  (o:∀F',F.le F'->c<n+m->K F' (inp (BO ex a tb s lr n xs)) (.tuple #[.int .i64 0,.bool false])):dH PZ 88 [.pointer (some ⟨a,0,none⟩),.int .i64 m] F L K :=
 Ed j (Vm F a tb s lr n c m xs f l) fun v F' Lo b e=>by
  rcases e with⟨s',ys,d,k,rfl,rfl⟩ | ⟨d,rfl,rfl⟩
  ·exact⟨_,_,_,_,rfl,h F' s' ys b d k⟩
  ·exact⟨_,_,_,_,rfl,o F' b d⟩
theorem CY {F:aD}{L:Loc}{K:aD->Loc->Value->Prop}{n c m:Nat}{a:Option Addr}{s:Value}{xs:List Value}(j:jJ s n c) (hk:L.get 1001=some (.row s 5 1 n xs)) (o:c<n+m) (x:n+m<=70368744177664) (w:xs.length=n) (p:∀u∈xs,u.oneCell'=true) (q:s=.slice a n c)
  (l:∀b F' d,F.le F'->jJ (.slice b n d) n d->n+m<=d->K F' (L.set 1001 (.row (.slice b n d) 5 1 n xs)) (.slice b n d)):CallXDPt PZ (fun _ _ _=>False) [] 114 [gj a c 0 n 1,.int .i64 m] F L K:=by
 subst q;obtain⟨_,_,y,_⟩:=j.form;rw[M7 j rfl];refine⟨[1001],[.row (.slice a n c) 5 1 n xs],_,fun _ _ _=>False,by simp only[Loc.sub,hk],by simp,by simp,((Ry F a n c m xs (by omega) o x w p).toX (Pp:=fun _=>False)).toS,fun v F' L' Lo _ _ _ h=>h.elim,fun v F' Lo z k=>?_⟩;obtain⟨d,f,r,rfl⟩:=k;obtain⟨b,rfl,_⟩:=f.form;refine⟨rfl,fun i g t cs e=>?_,fun _=>l b F' d z f r⟩;cases i with
 | zero=>injection e with e;cases e
 | succ i=>cases e
theorem NV {L:Loc}{ss:List aA}(h:(ss.all fun s=>(tH s).isNone)=true):∀s∈ss,∀k,tH s=some k->L.get k=none:=by
 intro s a k e;have:=aas.1 h s a;rw[e] at this;cases this
def NW (ex:List Value) (b tb:Nat) (lr:Int) (n m:Nat) (xs:List Value):aD->List Own->Value->Prop:=fun _ Lo v =>
 ∃s' a ys,ys.length=m/\jJ s' (n+m) a/\Lo=BO ex b tb s' lr (n+m) (xs++ys)/\v=.int .i64 n
def Raw (ex:List Value) (b tb:Nat) (lr:Int) (n m:Nat) (xs:List Value) (Lo:List Own):Prop :=
 ∃a c,jJ (.slice a n c) n c/\n+m<=c/\Lo=[.box b (tb+1) (gj a c 0 (n+m) 1::.int .i64 0::.int .i8 lr::ex),.row (.slice a n c) 5 1 n xs]
theorem JX {j tb n m:Nat}{lr:Int}{xs:List Value}{Lo:List Own}{F:aD}{w:World}(h:Raw ex j tb lr n m xs Lo) (d:St F (inp Lo) w) :
  ∃Lo',St F (inp Lo') w/\(∀b,(inp Lo').owns b->(inp Lo).owns b)/\∃s' s ys,ys.length=m/\jJ s' (n+m) s/\Lo'=BO ex j tb s' lr (n+m) (xs++ys):=by
 obtain⟨a,c,q,f,rfl⟩:=h;rw[M7 q rfl] at d ⊢;rcases q with⟨e,rfl,rfl⟩ | ⟨g,e,z,x⟩
 ·injection e with e1 _ _
  subst e1;have:m=0:=by omega
  subst this;exact⟨_,d,fun b h=>h,.slice none 0 0,0,[],rfl,.inl ⟨rfl,rfl,rfl⟩,by simp[BO]⟩
 ·injection e with e1 _ _
  subst e1;have r:(inp [.box j (tb+1) (.slice (some ⟨g,0,none⟩) (n+m) c::.int .i64 0::.int .i8 lr::ex),.row (.slice (some ⟨g,0,none⟩) n c) 5 1 n xs]).get 1001=some (.row (.slice (some ⟨g,0,none⟩) n c) 5 1 n xs):=rfl;have p:xs.length=n:=by
   have:=(d.own _ _ r).1;simpa using this
  obtain⟨ys,v,y,t⟩:=St.reslice d r f;have l:ys=xs++ys.drop n:=by
   apply aaR;intro i
   by_cases hi:i<n
   ·rw[y i (by omega) (by omega),aap (by omega)]
   ·rw[aaw (by omega),aaL,p];congr 1;omega
  refine⟨BO ex j tb (.slice (some ⟨g,0,none⟩) (n+m) c) lr (n+m) ys,t,fun b hb=>?_,_,c,ys.drop n,by rw[aa2,v];omega,.inr ⟨g,rfl,f,x⟩,by rw[<-l]⟩;obtain⟨k,o,e,hb⟩:=hb;rw[JV] at e;simp only[Loc.get] at e;split at e
  ·rename_i u;injection e with e;subst e
   exact⟨1000,_,rfl,hb⟩
  ·split at e
   ·injection e with e;subst e
    exact⟨1001,_,rfl,hb⟩
   ·cases e
theorem NW.Z2 {f c tb n m:Nat}{lr:Int}{xs:List Value}{args:Array Value}{F:aD}{Lin:List Own}(h:CallsA PZ f args F Lin (fun F' Lo v=>NW ex c tb lr n m xs F' Lo v\/(Raw ex c tb lr n m xs Lo/\v=.int .i64 n))):CallsA PZ f args F Lin (NW ex c tb lr n m xs):=by
 refine CallsA.Z2 h (fun _ _ _ _ _ h=>h) ?_;rintro F' Lo v w' a (h | ⟨h,rfl⟩)
 ·exact⟨Lo,a,fun b h=>h,h⟩
 ·obtain⟨Lo',j,l,s',e,ys,d,k,rfl⟩:=JX h a;exact⟨_,j,l,s',e,ys,d,k,rfl,rfl⟩
set_option maxHeartbeats 1000000 in
theorem Vr (F:aD) (a tb:Nat) (lr:Int) (m:Nat) (r:m<=70368744177664) :
  CallsA PZ 89 #[.pointer (some ⟨a,0,none⟩),.int .i64 m] F (BO ex a tb (.slice none 0 0) lr 0 []) (NW ex a tb lr 0 m []):=by
 have c:jJ (.slice none 0 0) 0 0:=.inl ⟨rfl,rfl,rfl⟩;refine NW.Z2 ?_;refine gN (svs:=[.own 1000 0,.v (.int .i64 m)]) rfl Fb rfl rfl (rF (svs:=[.int .i64 m])) (fun _ _ _ _ _ h=>h) ?_;refine Fg rfl c fun F1 o=>?_;refine Ee rfl c (by omega) (fun F2 s' ys d l e=>?_) (fun F2 d q=>?_)
 ·exact⟨[1000,1001],_,rfl,by decide,.inl ⟨s',0,ys,l,e,rfl,rfl⟩⟩
 refine aN (fun h=>?_) (fun h=>?_)
 ·refine ur.mk (by omega) (by omega) (by decide) (by decide) fun g=>?_;exact⟨[1000,41],_,rfl,by decide,.inl ⟨.slice (some ⟨g,0,none⟩) m 64,64,(List.replicate m [Value.int .u8 0]).flatten,by simp,.inr ⟨g,by rw[Nat.zero_add m],by omega,by decide⟩,by rw[Nat.zero_add m];rfl,rfl⟩⟩
 refine nP.mk (by omega) ?_;refine Fit.to (m:=0) (by decide) ?_;refine Fit.to (m:=0) (by decide) ?_;refine aN (fun e=>?_) (fun e=>?_)
 ·omega
 refine Fit.to (m:=9223372036854775807) (by decide) ?_;refine Fit.to (m:=9223372036854775807-m) (by rw[bU (by omega) (by omega)]) ?_;refine aN (fun p=>?_) (fun p=>?_)
 ·omega
 refine⟨NV (by kernel_rfl),?_⟩;refine⟨_,rfl,⟨_,rfl,⟨_,rfl,⟨_,rfl,⟨_,rfl,⟨_,rfl,⟨_,rfl,⟨_,rfl,⟨_,rfl,⟨_,rfl,?_⟩⟩⟩⟩⟩⟩⟩⟩⟩⟩;refine nD.mk (by omega) (by omega) (by omega) ?_;refine⟨_,rfl,⟨_,rfl,⟨_,rfl,⟨_,rfl,⟨_,rfl,⟨_,rfl,?_⟩⟩⟩⟩⟩⟩;refine Fit.to (m:=(m:Int)) (by rw[bU (by omega) (by omega)];omega) ?_;refine CY c rfl (by omega) (by omega) rfl (by simp) rfl fun b F3 f k j n=>?_;refine⟨_,rfl,⟨_,rfl,⟨_,rfl,?_⟩⟩⟩;refine Fit.to (m:=((0+m:Nat):Int)) (by rw[bU (by omega) (by omega)];omega) ?_;refine nD.mk (by omega) (by omega) (by omega) ?_;exact⟨[1000,1001],_,rfl,by decide,.inr ⟨⟨b,f,j,by omega,rfl⟩,rfl⟩⟩
theorem Vs (F:aD) (d tb g:Nat) (lr:Int) (n c m:Nat) (xs:List Value) (q:n<=c) (a:c<=maxLen) (hm:n+m<=70368744177664) (x:xs.length=n) (j:∀u∈xs,u.oneCell'=true) :
  CallsA PZ 89 #[.pointer (some ⟨d,0,none⟩),.int .i64 m] F (BO ex d tb (.slice (some ⟨g,0,none⟩) n c) lr n xs) (NW ex d tb lr n m xs):=by
 have e:jJ (.slice (some ⟨g,0,none⟩) n c) n c:=.inr ⟨g,rfl,q,a⟩;refine NW.Z2 ?_;refine gN (svs:=[.own 1000 0,.v (.int .i64 m)]) rfl Fb rfl rfl (rF (svs:=[.int .i64 m])) (fun _ _ _ _ _ h=>h) ?_;refine Fg rfl e fun F1 w=>?_;refine aN (fun r=>?_) (fun r=>?_) <;>
 ·refine Ee rfl e (by omega) (fun F2 s' ys f j k=>?_) (fun F2 f z=>?_)
  ·exact⟨[1000,1001],_,rfl,by decide,.inl ⟨s',c,ys,j,k,rfl,rfl⟩⟩
  have l:c<=9223372036854775807:=a;refine nP.mk (by omega) ?_;refine Fit.to (m:=((c / 2:Nat):Int)) (by rw[show((c:Int).tdiv 2)=((c / 2:Nat):Int) from rfl,bU (by omega) (by omega)]) ?_;refine Fit.to (m:=((c / 2:Nat):Int)-n) (by rw[bU (by omega) (by omega)]) ?_;refine aN (fun k=>?_) (fun k=>?_)
  ·omega
  refine Fit.to (m:=9223372036854775807-c) (by rw[bU (by omega) (by omega)]) ?_;refine Fit.to (m:=9223372036854775807-c-m) (by rw[bU (by omega) (by omega)]) ?_;refine aN (fun y=>?_) (fun y=>?_)
  ·omega
  refine⟨NV (by kernel_rfl),?_⟩;refine⟨_,rfl,⟨_,rfl,⟨_,rfl,⟨_,rfl,⟨_,rfl,⟨_,rfl,⟨_,rfl,⟨_,rfl,⟨_,rfl,⟨_,rfl,?_⟩⟩⟩⟩⟩⟩⟩⟩⟩⟩;refine nD.mk (by omega) (by omega) (by omega) ?_;refine⟨_,rfl,⟨_,rfl,⟨_,rfl,⟨_,rfl,⟨_,rfl,⟨_,rfl,?_⟩⟩⟩⟩⟩⟩;refine Fit.to (m:=(m:Int)) (by rw[bU (by omega) (by omega)];omega) ?_;refine CY e rfl (by omega) (by omega) x j rfl fun b F3 o s p t=>?_;refine⟨_,rfl,⟨_,rfl,⟨_,rfl,?_⟩⟩⟩;refine Fit.to (m:=((n+m:Nat):Int)) (by rw[bU (by omega) (by omega)];omega) ?_;refine nD.mk (by omega) (by omega) (by omega) ?_;exact⟨[1000,1001],_,rfl,by decide,.inr ⟨⟨b,o,p,by omega,rfl⟩,rfl⟩⟩
theorem Vt (F:aD) (a tb:Nat) (s:Value) (lr:Int) (n c m:Nat) (xs:List Value) (d:jJ s n c) (e:n+m<=70368744177664) (b:xs.length=n) (j:∀u∈xs,u.oneCell'=true) :
  CallsA PZ 89 #[.pointer (some ⟨a,0,none⟩),.int .i64 m] F (BO ex a tb s lr n xs) (NW ex a tb lr n m xs):=by
 rcases d with⟨rfl,rfl,rfl⟩ | ⟨g,rfl,h,f⟩
 ·obtain rfl:xs=[]:=aaG b;exact Vr F a tb lr m (by omega)
 ·exact Vs F a tb g lr n c m xs h f e b j
variable {ex:List Value}
theorem jJ.some {a:Option Addr}{n c:Nat}(h:jJ (.slice a n c) n c) (b:0<n):∃g,a=.some ⟨g,0,none⟩:=by
 rcases h with⟨_,rfl,_⟩ | ⟨g,e,_⟩
 ·omega
 ·injection e with e
  exact⟨g,e⟩
theorem Fh {F:aD}{L:Loc}{K:aD->Loc->Value->Prop}{b tb n c m:Nat}{s:Value}{lr:Int}{xs:List Value}(l:L=inp (BO ex b tb s lr n xs)) (h:jJ s n c) (q:n+m<=140737488355328) (o:0<n+m)
  (k:∀F' g d ys,F.le F'->ys.length=m->n+m<=d->d<=maxLen->K F' (inp (BO ex b tb (.slice (some ⟨g,0,none⟩) (n+m) d) lr (n+m) (xs++ys))) (.tuple #[.int .i64 n,.bool true]))
  (t:∀F',F.le F'->c<n+m->K F' (inp (BO ex b tb s lr n xs)) (.tuple #[.int .i64 0,.bool false])):dH PZ 88 [.pointer (some ⟨b,0,none⟩),.int .i64 m] F L K :=
 Ee l h q (fun F' s' ys r j e=>by
  obtain⟨a,rfl,f,p,_⟩:=e.form;obtain⟨g,rfl⟩:=e.some o;exact k F' g c ys r j f p) t
theorem Fj {F:aD}{L:Loc}{K:aD->Loc->Value->Prop}{d tb n c m:Nat}{s:Value}{lr:Int}{xs:List Value}(p:L=inp (BO ex d tb s lr n xs)) (k:jJ s n c) (w:n+m<=70368744177664) (t:xs.length=n) (l:∀u∈xs,u.oneCell'=true) (r:0<n+m)
  (o:∀F' g b ys,F.le F'->ys.length=m->n+m<=b->b<=maxLen->K F' (inp (BO ex d tb (.slice (some ⟨g,0,none⟩) (n+m) b) lr (n+m) (xs++ys))) (.int .i64 n)):dH PZ 89 [.pointer (some ⟨d,0,none⟩),.int .i64 m] F L K :=
 Ed p (Vt F d tb s lr n c m xs k w t l) fun v F' Lo x h=>by
  obtain⟨s',b,ys,j,e,rfl,rfl⟩:=h;obtain⟨a,rfl,f,q,_⟩:=e.form;obtain⟨g,rfl⟩:=e.some r;exact⟨_,_,_,_,rfl,o F' g b ys x j f q⟩
def RW (ex:List Value) (b tb n m:Nat) (ys:List Value) (r:Value):aD->List Own->Value->Prop:=fun _ Lo v=>∃s' a,jJ s' (n+m) a/\Lo=BO ex b tb s' 0 (n+m) ys/\v=r
theorem yc {xs ys zs:List Value}{n:Nat}(a:xs.length=n) (b:ys.length=zs.length):aP (xs++ys) n zs=xs++zs:=by
 subst a;simp[aP,b]
theorem JY {F:aD}{L:Loc}{j k:Nat}{K:Loc->Prop}{v:Value}{t m c:Nat}{xs:List Value}{a:Addr}(b:Int) (l:L.get k=some (.row v t 1 m xs)) (e:v=.slice (some a) m c) (h:j+1<=xs.length) (f:K (L.set k (.row v t 1 m (aP xs j [.int .u8 b])))):tq F L (some a) j [.int .u8 b] K :=
 ⟨.inl ⟨k,v,t,1,m,xs,a,c,l,rfl,e,h,fun u d=>by rw[aaW.1 d];rfl,f⟩⟩
theorem RA (F:aD) (f tb:Nat) (s:Value) (lr:Int) (n c:Nat) (x:Int) (xs:List Value) (p:jJ s n c) (z:n+1<=70368744177664) (j:xs.length=n) (t:∀u∈xs,u.oneCell'=true) :
  CallsA PZ 101 #[.pointer (some ⟨f,0,none⟩),.int .u8 x] F (BO ex f tb s lr n xs) (RW ex f tb n 1 (xs++[.int .u8 x]) .nilIface):=by
 refine gN (svs:=[.own 1000 0,.v (.int .u8 x)]) rfl I9 rfl rfl (rF (svs:=[.int .u8 x])) (fun _ _ _ _ _ h=>h) ?_;have b:∀(g a:Nat) (ys:List Value),ys.length=1->aP (xs++ys) (((n:Int).toNat)*1) [.int .u8 x]=xs++[.int .u8 x]:=fun g a ys d=>by
  rw[Nat.mul_one];exact yc j d
 refine Fh (s:=s) (lr:=0) (m:=1) rfl p (by omega) (by omega) (fun F1 g a ys w d l o=>?_) (fun F1 w y=>?_)
 ·refine Es.mk (fun e=>by cases e) (by omega) (by omega) ?_;refine JY (k:=1001) x rfl rfl (by rw[aak,j,d];omega) ?_;exact⟨[1000,1001],_,rfl,by decide,_,a,.inr ⟨g,rfl,l,o⟩,j3 (fun q=>BO ex f tb (.slice (some ⟨g,0,none⟩) (n+1) a) 0 (n+1) q) (b g a ys d),rfl⟩
 ·refine Fj (s:=s) (lr:=0) (m:=1) rfl p (by omega) j t (by omega) fun F2 g a ys r d l o=>?_;refine Es.mk (fun e=>by cases e) (by omega) (by omega) ?_;refine JY (k:=1001) x rfl rfl (by rw[aak,j,d];omega) ?_;exact⟨[1000,1001],_,rfl,by decide,_,a,.inr ⟨g,rfl,l,o⟩,j3 (fun q=>BO ex f tb (.slice (some ⟨g,0,none⟩) (n+1) a) 0 (n+1) q) (b g a ys d),rfl⟩
theorem M8 {g c n p:Nat}(h:n+p<=c):∃j,j+p<=n+p/\(p≠0->j=n)/\gj (some ⟨g,0,none⟩) c n (n+p) 1=.slice (some ((⟨g,0,none⟩:Addr).add (j*1))) p (c-n):=by
 by_cases e:c=n
 ·refine⟨0,by omega,fun a=>vv (by omega) a,?_⟩;simp only[gj,o6 e,Nat.add_sub_cancel_left];rfl
 ·refine⟨n,aaB _,fun _=>rfl,?_⟩;simp only[gj,vz e,Nat.add_sub_cancel_left,Option.map]
theorem Fl {F:aD}{L:Loc}{K:Loc->Nat->Prop}{g a n p d:Nat}{l h:Nat}{pa:Option Addr}{xs ys news:List Value}(x:L.get 1001=some (.row (.slice (some ⟨g,0,none⟩) (n+p) a) 5 1 (n+p) (xs++ys))) (c:l=n) (t:h=n+p) (k:n+p<=a)
  (v:xs.length=n) (y:ys.length=p) (w:news.length=p) (b:bV F pa 0 news\/(p=0/\news=[])) (q:∀u∈news,u.oneCell'=true)
  (f:K (L.set 1001 (.row (.slice (some ⟨g,0,none⟩) (n+p) a) 5 1 (n+p) (xs++news))) p):Ai F L 5 1 (gj (some ⟨g,0,none⟩) a l h 1) (.slice pa p d) K:=by
 subst c t;obtain⟨j,o,r,m⟩:=M8 (g:=g) k;refine⟨.inl ⟨1001,p,_,_,_,⟨g,0,none⟩,a,a-l,j,p,pa,d,news,x,rfl,m,o,rfl,by rw[Nat.min_self,w,Nat.mul_one],by rw[Nat.min_self];exact b,q,?_⟩⟩;rw[Nat.min_self];have e:aP (xs++ys) (j*1) news=xs++news:=by
  rw[Nat.mul_one]
  by_cases s:p=0
  ·obtain rfl:news=[]:=aaG (by omega);obtain rfl:ys=[]:=aaG (by omega);simp[aP]
  ·rw[r s];exact yc v (by omega)
 rw[e];exact f
theorem Vu (F:aD) (e tb:Nat) (s:Value) (lr:Int) (n c p f:Nat) (pa:Option Addr) (xs news:List Value) (q:jJ s n c) (z:n+p<=70368744177664) (t:0<n+p) (m:xs.length=n) (x:∀u∈xs,u.oneCell'=true)
  (w:news.length=p) (a:bV F pa 0 news\/(p=0/\news=[])) (r:∀u∈news,u.oneCell'=true) :
  CallsA PZ 48 #[.pointer (some ⟨e,0,none⟩),.slice pa p f] F (BO ex e tb s lr n xs) (RW ex e tb n p (xs++news) (.tuple #[.int .i64 p,.nilIface])):=by
 refine gN (svs:=[.own 1000 0,.v (.slice pa p f)]) rfl Mt rfl rfl (rF (svs:=[.slice pa p f])) (fun _ _ _ _ _ h=>h) ?_;refine Fh (s:=s) (lr:=0) rfl q (by omega) t (fun F1 g d ys o k b l=>?_) (fun F1 o y=>?_)
 ·refine nD.mk (by omega) (by omega) (by omega) ?_;refine Fl rfl (by omega) (by omega) b m k w (a.imp (fun h=>h.mono o) id) r ?_;exact⟨[1000,1001],_,rfl,by decide,_,d,.inr ⟨g,rfl,b,l⟩,rfl,rfl⟩
 ·refine Fj (s:=s) (lr:=0) rfl q (by omega) m x t fun F2 g d ys j k b l=>?_;refine nD.mk (by omega) (by omega) (by omega) ?_;refine Fl rfl (by omega) (by omega) b m k w (a.imp (fun h=>(h.mono o).mono j) id) r ?_;exact⟨[1000,1001],_,rfl,by decide,_,d,.inr ⟨g,rfl,b,l⟩,rfl,rfl⟩
def JZ (t:Nat) (a:List C) (bs:List UInt8):List TO:=[.box t (.rw 1001::IC 0::.int .i8 0::a),.row 5 1 (af bs)]
theorem RD {F:aD}{Li:List Own}{t:Nat}{j:List C}{bs:List UInt8}(hl:Li.length=(JZ t j bs).length) (h:dm F (inp Li) (jn (JZ t j bs))) :
  ∃f tb s ex,Li=BO ex f tb s 0 bs.length (dS bs)/\tyOk t f (tb+1)/\bs.length<=maxLen/\aF F (inp Li) j ex:=by
 match Li,hl with
 | [k,d],_ =>
  have z:di F (inp [k,d]) (.box t (.rw 1001::IC 0::.int .i8 0::j)) k:=h 1000;have h2:di F (inp [k,d]) (.row 5 1 (af bs)) d:=h 1001;cases k with
  | row=>exact z.elim
  | box f tb us =>
   cases d with
   | box=>exact h2.elim
   | row v x b n xs =>
    obtain⟨rfl,rfl,hn,⟨hm,a,c,rfl,hc⟩,hr⟩:=h2;have hx:=mE hr;subst hx;have l:n=bs.length:=by rw[hn];simp[af]
    subst l;obtain⟨y,w⟩:=z;obtain⟨tb,rfl⟩:∃m,tb=m+1:=Nat.exists_eq_succ_of_ne_zero y.2.2;simp only[aF,Rel] at w;obtain⟨v1,_,rfl,q,v2,_,rfl,u,v3,ex,rfl,p,r⟩:=w;obtain⟨a',c',x,b,n',o,_,hg⟩:=q;have e:some (Own.row (.slice a bs.length c) 5 1 bs.length (dS bs))=some (.row v1 x b n' o):=hg;injection e with e
    injection e with e1
    subst e1;obtain⟨rfl,_⟩:=u;obtain⟨rfl,_⟩:=p;exact⟨f,tb,_,ex,rfl,y,hm,r⟩
theorem RE {F:aD}{t b tb c:Nat}{s:Value}{f:List C}{ex:List Value}{bs:List UInt8}(d:aF F (inp (BO ex b tb s 0 bs.length (dS bs))) f ex) (l:tyOk t b (tb+1)) (h:jJ s bs.length c) (m:bs.length<=maxLen):dm F (inp (BO ex b tb s 0 bs.length (dS bs))) (jn (JZ t f bs)):=by
 obtain⟨a,rfl,o,p,n⟩:=h.form;intro k;rw[cA,aW];split
 case isFalse=>trivial
 rename_i r
 match q:k-1000 with
 | 0 =>
  refine⟨l,?_⟩;simp only[aF,Rel];exact⟨_,_,rfl,⟨a,c,5,1,bs.length,dS bs,rfl,rfl⟩,_,_,rfl,⟨rfl,by decide⟩,_,_,rfl,⟨rfl,by decide⟩,d⟩
 | 1=>exact⟨rfl,rfl,by simp[af],⟨m,a,c,rfl,fun e=>(n e).1⟩,pU bs⟩
 | j+2=>trivial
theorem CallsA.aaf {P:Program}{f:FuncId}{args:Array Value}{F:aD}{Lin:List Own}{R:aD->List Own->Value->Prop}(hent:∃fn,P.funcs[f]?=some fn/\fn.body.isSome=true/\(fn.name == "runtime.NumGoroutine")=false)
  (hmono:∀F G L v,F.le G->R F L v->R G L v) (h:∀w,St F (inp Lin) w->CallsA P f args F Lin R):CallsA P f args F Lin R:=⟨hent,hmono,fun w hs=>(h w hs).run w hs⟩
theorem CallsA.to {P:Program}{f:FuncId}{args:Array Value}{F:aD}{Lin:List Own}{R R':aD->List Own->Value->Prop}(h:CallsA P f args F Lin R)
  (a:∀F G L v,F.le G->R' F L v->R' G L v) (k:∀F L v,R F L v->R' F L v):CallsA P f args F Lin R':=⟨h.ent,a,fun w c=>(h.run w c).mono fun e w' ⟨v,F',Lo,d,j,l,b⟩=>⟨v,F',Lo,d,j,l,k _ _ _ b⟩⟩
theorem WZ {f t:Nat}{args:List C}{ec:List C}{bs:List UInt8}{ys:List UInt8}{r:C}(hp:dV ec=true) (hent:∃fn,Tryz.prog.funcs[f]?=some fn/\fn.body.isSome=true/\(fn.name == "runtime.NumGoroutine")=false)
  (hm:bs.length+ys.length<=70368744177664) (rv:Value) (hr:∀F L,Rel F L r rv)
  (h:∀F gb tb s c ex vs,jJ s bs.length c->aF F (inp (BO ex gb tb s 0 bs.length (dS bs))) args vs->CallsA PZ f vs.toArray F (BO ex gb tb s 0 bs.length (dS bs)) (RW ex gb tb bs.length ys.length (dS bs++dS ys) rv)) :
  CallsT PZ f args (JZ t ec bs) (iD (JZ t ec (bs++ys)) r):=by
 refine⟨fun F Li vs h1 h2 h3=>?_⟩;obtain⟨gb,tb,s,ex,rfl,ht,hm0,hex⟩:=RD h1 h2;refine CallsA.aaf hent hO.ZL fun w hs=>?_;obtain⟨c,hrv⟩:=Bl hs (k:=1001) rfl;have hA:=h F gb tb s c ex vs hrv h3;refine⟨hA.ent,hO.ZL,fun w hs=>(hA.run w hs).mono ?_⟩;rintro e w' ⟨v,F',Lo,h1,h2,h3,s',c',hs',rfl,rfl⟩;refine⟨_,F',_,h1,h2,h3,?_⟩;have hl:(bs++ys).length=bs.length+ys.length:=aak;rw[<-GI,<-hl];rw[<-hl] at hs';refine⟨JZ t ec (bs++ys),r,rfl,RE (eS hp (hex.mono h3.le)) ht hs' (by rw[hl];simp only[maxLen];omega),hr _ _,fun i g t0 cs e=>?_,rfl,rfl⟩
 match i with
 | 0 =>
  injection e with e
  injection e with e1 e2 e3
  subst e1 e2;exact⟨_,rfl⟩
 | 1=>injection e with e;cases e
 | i+2=>cases e
theorem P3:∃fn,Tryz.prog.funcs[101]?=some fn/\fn.body.isSome=true/\(fn.name == "runtime.NumGoroutine")=false:=⟨_,Tryz.func101,by kernel_rfl,by kernel_rfl⟩
theorem RF:∃fn,Tryz.prog.funcs[48]?=some fn/\fn.body.isSome=true/\(fn.name == "runtime.NumGoroutine")=false:=⟨_,Tryz.func48,by kernel_rfl,by kernel_rfl⟩
theorem Fm {F:aD}{b tb:Nat}{s:Value}{n:Nat}{xs ex:List Value}{v:Value}(h:Rel F (inp (BO ex b tb s 0 n xs)) (.own 1000 0) v):v=.pointer (some ⟨b,0,none⟩):=by
 simp only[Rel] at h;obtain⟨g,t,cs,e,rfl⟩:=h;have a:some (Own.box b (tb+1) (s::.int .i64 0::.int .i8 0::ex))=some (.box g t cs):=e;injection a with a
 injection a with e1
 rw[e1]
theorem zY (t:Nat) (a:List C) (b:dV a=true) (bs:List UInt8) (x:UInt8) (f:bs.length+1<=70368744177664) :
  CallsT PZ 101 [.own 1000 0,.int .u8 x.toNat] (JZ t a bs) (iD (JZ t a (bs++[x])) (.opq 0)):=by
 refine WZ (ys:=[x]) b P3 f .nilIface (fun _ _=>Ag) fun F h tb s c ex vs j d=>?_;simp only[aF] at d;obtain⟨v1,_,rfl,k,l,_,rfl,e,rfl⟩:=d;rw[Fm k];simp only[Rel] at e;rw[e.1];exact RA F h tb s 0 bs.length c x.toNat (dS bs) j f (oJ bs) (nk bs)
theorem RG (t:Nat) (b:List C) (d:dV b=true) (bs ys:List UInt8) (f:bs.length+ys.length<=70368744177664) (n:0<bs.length+ys.length) :
  CallsT PZ 48 [.own 1000 0,.sl (af ys)] (JZ t b bs) (iD (JZ t b (bs++ys)) (.tup [IC ys.length,.opq 0])):=by
 refine WZ d RF f (.tuple #[.int .i64 ys.length,.nilIface]) (fun F L=>?_) fun F h tb s c ex vs j e=>?_
 ·simp only[Rel,aF];exact⟨[_,_],rfl,_,_,rfl,⟨rfl,by simp[Lit.wf,IntKind.min,IntKind.max,IntKind.signed,IntKind.bits];omega⟩,_,_,rfl,Ag,rfl⟩
 simp only[aF] at e;obtain⟨v1,_,rfl,l,p,_,rfl,m,rfl⟩:=e;rw[Fm l];obtain⟨a,k,rfl,_,_,o⟩:=x9 m;exact Vu F h tb s 0 bs.length c ys.length k a (dS bs) (dS ys) j f n (oJ bs) (nk bs) (oJ ys) o (nk ys)
end Go.Fr.Tryz
