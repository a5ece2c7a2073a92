/- Part of the proofs of the statements of this seat. -/
import Derived.Test.YtnlegbokpofcaaaGreatDoorFW3
import Derived.Test.YtnlegbokpofcaaaGreatDoorSpCode
set_option maxRecDepth 10000
set_option linter.unusedVariables false
set_option linter.unusedSimpArgs false
namespace Go.Fr.Tryz
open Go Go.RowKit Go.Proofs Go.Fr Go.Fr.T Go.Fr.Api
noncomputable abbrev PZ:Program:=Tryz.prog
def fG:Value:=.iface 150 (.agg #[])
inductive Vl where
 | mk (kind id variant n:Int) (fields:List Vl) (excl:Bool) (path loans:List Int)
structure Ce where
 live:Bool
 arena:Int
 value:Vl
structure Ac where
 number:Int
 routine:Int
 block:Int
 index:Int
 dst:Int
 slots:List Vl
 since:List Int
structure Ln where
 frame:Int
 slot:Int
 excl:Bool
 re:Bool
 over:Bool
structure Tk where
 state:Int
 frames:List Ac
 loans:List Ln
 allocs:Int
 clock:Int
 next:Int
 cells:List Int
structure Ou where
 task:Int
 number:Int
structure Wd where
 cells:List Ce
 arenas:List Bool
 tasks:List Tk
 channels:List (List Vl)
 outputs:List Ou
 made:Int
 dropped:Int
 closed:Int
mutual
def oH:Vl->List C
 | .mk k i v n f e p l=>[IC k,IC i,IC v,IC n,.sl (Io f),.bool e,.sl (tM p),.sl (tM l)]
def Io:List Vl->List (List C)
 | []=>[]
 | x::xs=>oH x::Io xs
end
theorem rp:∀l:List Vl,Io l=l.map oH
 | []=>rfl
 | x::xs=>by rw[Io,rp xs];rfl
def zk (x:Ce):List C:=.bool x.live::IC x.arena::oH x.value
def IV (l:List Vl):List C:=[.sl (l.map oH)]
def Ep (x:Ac):List C:=[IC x.number,IC x.routine,IC x.block,IC x.index,IC x.dst,.sl (x.slots.map oH),.sl (tM x.since)]
def K3 (x:Ln):List C:=[IC x.frame,IC x.slot,.bool x.excl,.bool x.re,.bool x.over]
def CC (x:Tk):List C:=[IC x.state,.sl (x.frames.map Ep),.sl (x.loans.map K3),IC x.allocs,IC x.clock,IC x.next,.sl (tM x.cells)]
def OO (x:Ou):List C:=[IC x.task,IC x.number]
def Ip (b:Bool):List C:=[.bool b]
def R7 (x:Wd):List C:=[.sl (x.cells.map zk),.sl (x.arenas.map Ip),.sl (x.tasks.map CC),.sl (x.channels.map IV),.sl (x.outputs.map OO),IC x.made,IC x.dropped,IC x.closed]
theorem aO {bs:List UInt8}:(af bs).length=bs.length:=by simp[af]
theorem eJ {bs:List UInt8}:∀es∈af bs,es.length=1:=by
 intro es h;simp only[af,abh] at h;obtain⟨b,_,rfl⟩:=h;rfl
theorem gG (bs:List UInt8) (n m:Nat):((af bs).drop n).take m=af ((bs.drop n).take m):=by simp[af]
theorem Fit.to {k:IntKind}{n m:Int}{K:Int->Prop}(h:k.wrap n=m) (a:K m):Fit k n K:=⟨by rw[h];exact a⟩
theorem bT {n:Int}(a:-9223372036854775808<=n) (b:n<=9223372036854775807):IntKind.wrap .i64 n=n:=by
 simp only[IntKind.wrap,IntKind.bits,IntKind.signed,abG,abo,ge_iff_le,Nat.reduceSub,Int.reducePow];split<;>omega
theorem sn {bs:List UInt8}{els:List (List C)}{K:Prop}(n:Nat) (a:els.length=n) (h:n+bs.length<=140737488355328) (k:K):rY els (af bs) 1 1 K :=
 ⟨eJ,by rw[aO,a];simp only[maxLen];omega,by rw[aO,a];omega,k⟩
theorem vL {L L1:TL}{k t sz:Nat}(h:L.get k=none) (a:L1.get k=some (.row t sz [])):Ml L L1 .nils (.rw k):=.inr (.inr (.inr (.inl ⟨rfl,k,t,sz,rfl,h,a⟩)))
theorem TJ {L:TL}{K:TL->Prop}(h:K L):fT L K:=by rw[fe];exact h
abbrev Dec (a:Type):=List UInt8->Option (a×List UInt8)
def bound:Int:=1099511627776
def takeD (n:Int):Dec (List UInt8):=fun l=>if 0<=n/\n<=l.length then some (l.take n.toNat,l.drop n.toNat) else none
def IW (z:Nat):Int:=if z % 2=0 then((z / 2:Nat):Int) else -((z / 2:Nat):Int)-1
def lO:Nat->Nat->Nat->Dec Int
 | 0,_,_,_=>none
 | _+1,_,_,[]=>none
 | f+1,k,z,c::r=>if c.toNat<128 then(if 0<c.toNat\/k=0 then some (IW (z+c.toNat*128 ^ k),r) else none)
  else lO f (k+1) (z+(c.toNat-128)*128 ^ k) r
def getD:Dec Int:=lO 6 0 0
def gk:Dec Int:=fun l=>match getD l with
 | some (n,r)=>if -bound<=n/\n<=bound then some (n,r) else none
 | none=>none
def zJ:Dec Nat:=fun l=>match getD l with
 | some (n,r)=>if 0<=n/\n<=100000/\n<=r.length then some (n.toNat,r) else none
 | none=>none
def oz:Dec Bool:=fun l=>match gk l with
 | some (n,r)=>if n=0\/n=1 then some (decide (n=1),r) else none
 | none=>none
def bA {a:Type}(f:Dec a):Nat->Dec (List a)
 | 0,l=>some ([],l)
 | n+1,l=>match f l with
  | some (x,r)=>match bA f n r with
   | some (xs,r)=>some (x::xs,r)
   | none=>none
  | none=>none
def fP {b a:Type}(f:Dec b) (k:b->Dec a):Dec a:=fun l=>match f l with
 | none=>none
 | some (x,r)=>k x r
theorem aW {a b:Type}{f:Dec a}{k:a->Dec b}{l:List UInt8}(h:f l=none):fP f k l=none:=by simp only[fP,h]
theorem aq {a b:Type}{f:Dec a}{k:a->Dec b}{l r:List UInt8}{x:a}(h:f l=some (x,r)):fP f k l=k x r:=by simp only[fP,h]
def wB {a:Type}(x:a):Dec a:=fun l=>some (x,l)
def dn {a:Type}(f:Dec a):Dec (List a):=fP zJ fun n=>bA f n
def Fc:Nat->Dec Vl
 | 0=>fun _=>none
 | d+1=>fP (bA gk 4) fun a=>fP (dn (Fc d)) fun f=>fP (bA oz 1) fun e=>fP (dn gk) fun p=>fP (dn gk) fun l=>wB (.mk (a.getD 0 0) (a.getD 1 0) (a.getD 2 0) (a.getD 3 0) f (e.getD 0 false) p l)
def Gu:Dec Vl:=Fc 60
def P9:Dec Ce:=fP (bA oz 1) fun b=>fP (bA gk 1) fun a=>fP Gu fun v=>wB ⟨b.getD 0 false,a.getD 0 0,v⟩
def TM:Dec (List Vl):=dn Gu
def Qa:Dec Ac:=fP (bA gk 5) fun a=>fP TM fun s=>fP (dn gk) fun c=>wB ⟨a.getD 0 0,a.getD 1 0,a.getD 2 0,a.getD 3 0,a.getD 4 0,s,c⟩
def R8:Dec Ln:=fP (bA gk 2) fun a=>fP (bA oz 3) fun b=>wB ⟨a.getD 0 0,a.getD 1 0,b.getD 0 false,b.getD 1 false,b.getD 2 false⟩
def Mp:Dec Tk:=fP (bA gk 1) fun s=>fP (dn Qa) fun f=>fP (dn R8) fun l=>fP (bA gk 3) fun a=>fP (dn gk) fun c=>wB ⟨s.getD 0 0,f,l,a.getD 0 0,a.getD 1 0,a.getD 2 0,c⟩
def TN:Dec Ou:=fP (bA gk 2) fun a=>wB ⟨a.getD 0 0,a.getD 1 0⟩
def TP:Dec Bool:=fP (bA oz 1) fun b=>wB (b.getD 0 false)
def DU:Dec Wd:=fP (dn P9) fun c=>fP (dn TP) fun a=>fP (dn Mp) fun t=>fP (dn TM) fun h=>fP (dn TN) fun o=>fP (bA gk 3) fun m=>wB ⟨c,a,t,h,o,m.getD 0 0,m.getD 1 0,m.getD 2 0⟩
theorem AL {n:Int}{bs:List UInt8}(h:0<=n) (k:n<=bs.length):takeD n bs=some (bs.take n.toNat,bs.drop n.toNat):=by simp[takeD,h,k]
abbrev Enc:=List UInt8×Bool
def Mq:Enc:=([],true)
def zK (b:Bool):Enc:=([],b)
def bh (a b:Enc):Enc:=(a.1++b.1,a.2&&b.2)
def bR (z:Nat):List UInt8:=if h:z<128 then[UInt8.ofNat z] else UInt8.ofNat (128+z % 128)::bR (z / 128)
termination_by z
decreasing_by omega
def zz (n:Int):Nat:=if n<0 then(-2*n-1).toNat else(2*n).toNat
def aS {a:Type}(f:a->Enc):List a->Enc
 | []=>Mq
 | x::l=>bh (f x) (aS f l)
structure Kd where
 t:Nat
 tb:Nat
 num:Int->Enc
 siz:Int->Enc
 deep:Bool
def Er (n:Int):List UInt8:=(List.range 8).map fun k=>UInt8.ofNat ((n.fdiv (2 ^ (8*k))).emod 256).toNat
def kW:Kd:=⟨102,108,fun n=>(bR (zz n),decide (-1099511627776<=n)&&decide (n<=1099511627776)),fun n=>(bR (zz n),decide (n<=100000)),false⟩
def kL:Kd:=⟨123,124,fun n=>(Er n,true),fun n=>(Er n,true),true⟩
section
variable (k:Kd)
def nM (b:Bool):Enc:=k.num (if b=true then 1 else 0)
def bO {a:Type}(f:a->Enc) (l:List a):Enc:=bh (k.siz l.length) (aS f l)
mutual
def sL:Vl->Int->Enc
 | .mk a b c n f e p l,d=>bh (zK (decide (0<d)||k.deep)) (bh (aS k.num [a,b,c,n]) (bh (bh (k.siz f.length) (zL f (d-1))) (bh (aS (nM k) [e]) (bh (bO k k.num p) (bO k k.num l)))))
def zL:List Vl->Int->Enc
 | [],_=>Mq
 | x::xs,d=>bh (sL x d) (zL xs d)
end
theorem pq (d:Int):∀l:List Vl,zL k l d=aS (fun x=>sL k x d) l
 | []=>rfl
 | x::xs=>by rw[zL,pq d xs];rfl
def uO (v:Vl):Enc:=sL k v 60
def OP (x:Ce):Enc:=bh (aS (nM k) [x.live]) (bh (aS k.num [x.arena]) (uO k x.value))
def Qb (l:List Vl):Enc:=bO k (uO k) l
def OQ (x:Ac):Enc:=bh (aS k.num [x.number,x.routine,x.block,x.index,x.dst]) (bh (Qb k x.slots) (bO k k.num x.since))
def OT (x:Ln):Enc:=bh (aS k.num [x.frame,x.slot]) (aS (nM k) [x.excl,x.re,x.over])
def OU (x:Tk):Enc:=bh (aS k.num [x.state]) (bh (bO k (OQ k) x.frames) (bh (bO k (OT k) x.loans) (bh (aS k.num [x.allocs,x.clock,x.next]) (bO k k.num x.cells))))
def Qc (x:Ou):Enc:=aS k.num [x.task,x.number]
def Tc (b:Bool):Enc:=aS (nM k) [b]
def kI (x:Wd):Enc:=bh (bO k (OP k) x.cells) (bh (bO k (Tc k) x.arenas) (bh (bO k (OU k) x.tasks) (bh (bO k (Qb k) x.channels) (bh (bO k (Qc k) x.outputs) (aS k.num [x.made,x.dropped,x.closed])))))
end
mutual
/-- how deep a value is -/
def Fe:Vl->Nat
 | .mk _ _ _ _ f _ _ _=>DV f+1
def DV:List Vl->Nat
 | []=>0
 | x::xs=>max (Fe x) (DV xs)
end
theorem yP:∀{l:List Vl}{x:Vl},x∈l->Fe x<=DV l
 | y::l,x,h=>by
  rw[DV];rcases xC.1 h with rfl | h
  ·exact Nat.le_max_left _ _
  ·exact abz (yP h) (Nat.le_max_right _ _)
def WB (t:Nat) (bs:List UInt8):List TO:=[.box t [.rw 1001,IC 0,.int .i8 0],.row 5 1 (af bs)]
def Ff (t:Nat) (bs:List UInt8):TL:=[(1000,.box t [.rw 1001,IC 0,.int .i8 0]),(1001,.row 5 1 (af bs))]
def Vj (k:Kd) (f:Nat) (args:List C) (e:Enc) (x:C):Prop:=∀bs,bs.length+e.1.length<=70368744177664 ->
 CallsTX PZ f args (WB k.tb bs) (fun Mo c=>e.2=true/\Mo=WB k.tb (bs++e.1)/\c=x) (fun v=>v=fG/\e.2=false)
abbrev fC (k:Kd) (f:Nat) (args:List C) (e:Enc):Prop:=Vj k f args e (.tup [])
def RB (bs:List UInt8):TO:=.box 88 [.sl (af bs)]
def OV {a:Type}(f:Nat) (args:List C) (bs:List UInt8) (o:Option (a×List UInt8)) (cell:a->C):Prop :=
 CallsTX PZ f args [RB bs] (fun Mo c=>∃y r,o=some (y,r)/\Mo=[RB r]/\c=cell y) (fun v=>v=fG/\o=none)
def gS {b:Type}(f:Nat) (fi ca:List C) (a:Dec b) (z:List C) (cs:b->List C):Prop:=∀(t:Nat) (pre post:List C) (bs:List UInt8),cq pre->cq post ->
 CallsTX PZ f (fi++.ifo none 86 1000 0::.own 1001 pre.length::ca) [RB bs,.win t pre z post] (fun Mo c=>∃x r,a bs=some (x,r)/\Mo=[RB r,.win t pre (cs x) post]/\c=.tup []) (fun v=>v=fG/\a bs=none)
def Qd (b:Bool):Prop:=CallsTX PZ 36 [.bool b] [] (fun Mo c=>b=true/\Mo=[]/\c=.tup []) (fun v=>v=fG/\b=false)
section
variable {L:TL}{ρ:aV}
theorem vM {PS:qw}{b:Bool}{args:List C}{K:TL->aV->C->Prop}(h:Qd b) (f:args=[.bool b]) (j:b=false->PS.ps fG) (k:b=true->K L ρ (.tup [])) (d:lW L [] PS.hb=true:=by rfl):pR PZ PS 36 args L ρ K:=by
 subst f;refine .mk ⟨[],[],[],L,[],_,_,.inl rfl,rfl,rfl,rfl,rfl,rfl,d,h,fun v ⟨e,h⟩=>e▸j h,?_⟩;rintro v Mo ⟨a,rfl,rfl⟩ l c;exact⟨rfl,k a⟩
theorem di {R:List TO->C->Prop}(ko:List Nat) {Lin Mo Lo:List TO}{v x:C}(c:L.sub ko=some Mo) (a:(T.bJ ko&&aT Lin (List.range' 1000 Lin.length) ko)=true) (b:Mo.map (TO.aag (C.ren (bZ ko 1000)))=Lo) (e:v.aar.ren (bZ ko 1000)=x) (h:R Lo x):o7 Lin L v R:=by
 simp only[xo] at a;exact⟨[],ko,L,v,v,Mo,rfl,.inl ⟨rfl,rfl⟩,c,a.1,a.2,fun _=>by rw[b,e];exact h⟩
theorem rq {R:List TO->C->Prop}(b ko:List Nat) {Lin:List TO}{v:C}(f:xY b L (fun _=>.any) [v] fun L _ vs=>∃c Mo,vs=[c]/\L.sub ko=some Mo/\(T.bJ ko&&aT Lin (List.range' 1000 Lin.length) ko)=true/\R (Mo.map (TO.aag (C.ren (bZ ko 1000)))) (c.aar.ren (bZ ko 1000))):o7 Lin L v R:=by
 refine⟨b,ko,?_⟩;refine uE.frzK_imp f ?_;rintro L ρ vs ⟨c,Mo,rfl,d,a,e⟩;simp only[xo] at a;exact⟨L,c,c,Mo,rfl,.inl ⟨rfl,rfl⟩,d,a.1,a.2,fun _=>e⟩
theorem bW (ks:List Nat) {PS:qw}{f:Nat}{args a:List C}{K:TL->aV->C->Prop}{R:List TO->C->Prop}{Pp:Value->Prop}{Lin Lin':List TO}(h:CallsTX PZ f a Lin' R Pp) (e:L.sub ks=some Lin)
  (d:(T.bJ ks&&T.mE L ks ks&&aT Lin ks ks)=true) (n:(args.map fun c=>c.aaj.ren (bZ ks 1000))=a) (p:Lin.map (TO.aag (C.ren (bZ ks 1000)))=Lin') (l:∀v,Pp v->PS.ps v)
  (k:∀v Mo,R Mo v->Wf v->(∀o∈Mo,o.Wf)->ks.length=Mo.length/\K (((L.aaf ks).kills (rowsOf L ks)).puts ks (Mo.map (TO.aag (C.ren (aZ ks))))) (fw (rowsOf L ks) ρ) (v.ren (aZ ks)).slt) (j:lW L ks PS.hb=true:=by rfl):pR PZ PS f args L ρ K:=by
 subst n p;simp only[xo] at d;obtain⟨⟨b,m⟩,c3⟩:=d;exact .mk ⟨[],ks,ks,L,Lin,_,_,.inl rfl,e,b,b,m,c3,j,h,l,k⟩
theorem cu (ks:List Nat) {PS:qw}{b:List Nat}{f:Nat}{args a:List C}{K:TL->aV->C->Prop}{R:List TO->C->Prop}{Pp:Value->Prop}{Lin Lin':List TO}(h:CallsTX PZ f a Lin' R Pp) (j:L.sub ks=some Lin)
  (d:(T.bJ ks&&x6 ks b&&aT Lin ks ks)=true) (p:(args.map fun c=>c.aaj.ren (bZ ks 1000))=a) (q:Lin.map (TO.aag (C.ren (bZ ks 1000)))=Lin') (m:∀v,Pp v->PS.ps v)
  (k:∀v Mo,R Mo v->Wf v->(∀o∈Mo,o.Wf)->ks.length=Mo.length/\K (((L.aaf ks).kills (rowsOf L ks)).puts ks (Mo.map (TO.aag (C.ren (aZ ks))))) (fw (rowsOf L ks) ρ) (v.ren (aZ ks)).slt) (l:lW L ks PS.hb=true:=by rfl):nT PZ PS b f args L ρ K:=by
 subst p q;simp only[xo] at d;obtain⟨⟨e,n⟩,c3⟩:=d;exact⟨ks,Lin,_,_,j,e,n,c3,l,h,m,k⟩
end
theorem uY (b:Bool):Qd b:=by
 refine ak Tryz.func36 NZ rfl fun _ _=>?_;cases b
 ·exact Tx rfl ⟨rfl,rfl⟩
 ·exact di [] rfl rfl rfl rfl ⟨rfl,rfl,rfl⟩
end Go.Fr.Tryz
namespace Go.Fr.Tryz
open Go Go.RowKit Go.Proofs Go.Fr Go.Fr.T
theorem St.reslice {F:aD}{L:Loc}{w:World}{k g t sz n n' c:Nat}{xs:List Value}(h:St F L w) (m:L.get k=some (.row (.slice (some ⟨g,0,none⟩) n c) t sz n xs)) (j:n'<=c) :
  ∃ys,ys.length=n'*sz/\(∀i,i<n*sz->i<n'*sz->ys[i]?=xs[i]?)/\St F (L.set k (.row (.slice (some ⟨g,0,none⟩) n' c) t sz n' ys)) w:=by
 have l:=h.own k _ m;simp only[Own.ok] at l;obtain⟨v,⟨e,_⟩ | ⟨o,cap,a,e,r,s,x,q,f,p⟩⟩:=l
 ·cases e
 ·injection e with e1 e2 e3
  injection e1 with e1
  injection e1 with e1 _ _
  subst e1 e3;have u:n'*sz<=c*sz:=Nat.mul_le_mul_right _ j;refine⟨a.toList.take (n'*sz),?_,fun i hi d=>?_,?_⟩
  ·rw[aa6,Array.length_toList,f];omega
  ·rw[<-p,List.getElem?_take_of_lt hi,List.getElem?_take_of_lt d]
  ·refine h.turn m (o':=.row (.slice (some ⟨g,0,none⟩) n' c) t sz n' (a.toList.take (n'*sz))) ?_ (fun _ _ _=>rfl) (fun o b=>.inl b);exact⟨by rw[aa6,Array.length_toList,f];omega,.inr ⟨g,c,a,rfl,r,s,j,q,f,rfl⟩⟩
theorem CallsA.aaE {P:Program}{f:FuncId}{args:Array Value}{F:aD}{Lin:List Own}{R R':aD->List Own->Value->Prop}(h:CallsA P f args F Lin R) (d:∀F G L v,F.le G->R' F L v->R' G L v)
  (n:∀F' Lo v w',St F' (inp Lo) w'->R F' Lo v->∃Lo',St F' (inp Lo') w'/\(∀b,(inp Lo').owns b->(inp Lo).owns b)/\R' F' Lo' v):CallsA P f args F Lin R':=by
 refine⟨h.ent,d,fun w c=>(h.run w c).mono ?_⟩;rintro e w' ⟨v,F',Lo,rfl,o,a,k⟩;obtain⟨Lo',l,j,m⟩:=n F' Lo v w' o k;exact⟨v,F',Lo',rfl,l,⟨a.le,a.os,a.tape,a.output,a.size,a.same,a.frz,fun b hb=>a.own b (j b hb)⟩,m⟩
def jJ (s:Value) (n c:Nat):Prop:=(s=.slice none 0 0/\n=0/\c=0)\/∃g,s=.slice (some ⟨g,0,none⟩) n c/\n<=c/\c<=maxLen
theorem jJ.form {s:Value}{n c:Nat}(h:jJ s n c):∃a,s=.slice a n c/\n<=c/\c<=maxLen/\(a=none->n=0/\c=0):=by
 rcases h with⟨rfl,rfl,rfl⟩ | ⟨g,rfl,b,d⟩
 ·exact⟨none,rfl,aa7 _,abk _,fun _=>⟨rfl,rfl⟩⟩
 ·exact⟨_,rfl,b,d,fun e=>by cases e⟩
theorem Ci {F:aD}{L:Loc}{w:World}{k t sz n:Nat}{v:Value}{xs:List Value}(d:St F L w) (l:L.get k=some (.row v t sz n xs)):∃c,jJ v n c:=by
 have a:=d.own k _ l;simp only[Own.ok] at a;obtain⟨s,⟨e,f⟩ | ⟨b,cap,j,e,p,r,m,h,q,o⟩⟩:=a
 ·exact⟨0,.inl ⟨e,f,rfl⟩⟩
 ·exact⟨cap,.inr ⟨b,e,m,h⟩⟩
def BO (ex:List Value) (a tb:Nat) (s:Value) (lr:Int) (n:Nat) (xs:List Value):List Own:=[.box a (tb+1) (s::.int .i64 0::.int .i8 lr::ex),.row s 5 1 n xs]
theorem K4 {ex:List Value}{a tb:Nat}{s:Value}{lr:Int}{n:Nat}{xs:List Value}:inp (BO ex a tb s lr n xs)=[(1000,.box a (tb+1) (s::.int .i64 0::.int .i8 lr::ex)),(1001,.row s 5 1 n xs)]:=rfl
theorem K5 {Lin:List Own}(svs:List SV) (n:Nat) (a:∀v∈svs,(∀k off,v=.own k off->∃g ty cs,(inp Lin).get k=some (.box g ty cs))/\(∀d j,v=.el d j->d≠none)) :
  aH (inp Lin) (tT 0 svs) {tmps:=(svs.map (conc (inp Lin))).toArray++Array.replicate (n-(svs.map (conc (inp Lin))).toArray.size) undef,defers:=[]}:=by
 have c:∀t,tT 0 svs t=.v undef\/tT 0 svs t∈svs:=by
  intro t;rw[qL];simp only[abk,aa9,Nat.sub_zero];cases e:svs[t]? with
  | none=>exact .inl rfl
  | some v=>exact .inr (aaQ e)
 refine⟨fun t=>?_,fun t k off e=>?_,fun t d j e=>?_⟩
 ·rw[qL];simp only[abk,aa9,Nat.sub_zero,abf];cases e:svs[t]? with
  | some v =>
   have f:t<svs.length:=(w7.1 e).1;rw[Array.getElem?_append_left (by simpa using f)];simp[e]
  | none =>
   have h:svs.length<=t:=abC.1 e;rw[Array.getElem?_append_right (by simpa using h)];simp only[Array.getElem?_replicate,Option.getD_none,conc];split<;>rfl
 ·rcases c t with b | b
  ·rw[b] at e;cases e
  ·exact(a _ b).1 k off e
 ·rcases c t with b | b
  ·rw[b] at e;cases e
  ·exact(a _ b).2 d j e
variable {ex:List Value}
theorem rV {c tb:Nat}{s:Value}{lr:Int}{n:Nat}{xs:List Value}{svs:List Value}:∀v∈(SV.own 1000 0::svs.map SV.v),(∀k off,v=.own k off->∃g ty cs,(inp (BO ex c tb s lr n xs)).get k=some (.box g ty cs))/\(∀b j,v=.el b j->b≠none):=by
 intro v a;rcases xC.1 a with rfl | a
 ·exact⟨fun k off e=>by injection e with e1 e2;subst e1;exact⟨_,_,_,rfl⟩,fun _ _ e=>by cases e⟩
 ·obtain⟨u,_,rfl⟩:=abh.1 a;exact⟨fun _ _ e=>(by cases e),fun _ _ e=>(by cases e)⟩
theorem OX {s:Value}{n c h:Nat}{a:Option Addr}(b:jJ s n c) (e:s=.slice a n c):gh a c 0 h 1=.slice a h c:=by
 rcases b with⟨rfl,rfl,rfl⟩ | ⟨g,rfl,_,_⟩
 ·injection e with e1 e2 e3
  subst e1;simp[gh]
 ·injection e with e1 e2 e3
  subst e1;simp[gh,Addr.add]
def R43 (ex:List Value) (a tb:Nat) (s:Value) (lr:Int) (n c m:Nat) (xs:List Value):aD->List Own->Value->Prop:=fun _ Lo v =>
 (∃s' ys,ys.length=m/\jJ s' (n+m) c/\Lo=BO ex a tb s' lr (n+m) (xs++ys)/\v=.tuple #[.int .i64 n,.bool true]) \/
 (c<n+m/\Lo=BO ex a tb s lr n xs/\v=.tuple #[.int .i64 0,.bool false])
theorem Xg (F:aD) (d tb:Nat) (s:Value) (lr:Int) (n c m:Nat) (xs:List Value) (l:jJ s n c) (hm:n+m<=140737488355328) :
  CallsA PZ 88 #[.pointer (some ⟨d,0,none⟩),.int .i64 m] F (BO ex d tb s lr n xs) (R43 ex d tb s lr n c m xs):=by
 obtain⟨a,rfl,z,p,ha⟩:=l.form;unfold maxLen at p;have h1:CallsA PZ 88 #[.pointer (some ⟨d,0,none⟩),.int .i64 m] F (BO ex d tb (.slice a n c) lr n xs) (fun _ Lo v =>
   (n+m<=c/\Lo=[.box d (tb+1) (.slice a (n+m) c::.int .i64 0::.int .i8 lr::ex),.row (.slice a n c) 5 1 n xs]/\v=.tuple #[.int .i64 n,.bool true]) \/
   (c<n+m/\Lo=BO ex d tb (.slice a n c) lr n xs/\v=.tuple #[.int .i64 0,.bool false])):=by
  refine gK (svs:=[.own 1000 0,.v (.int .i64 m)]) rfl Oy rfl rfl (rV (svs:=[.int .i64 m])) (fun _ _ _ _ _ h=>h) ?_;refine Fit.aae (by omega) (by omega) ?_;refine aM (fun h=>?_) (fun h=>?_)
  ·refine Fit.aae (by omega) (by omega) ?_;refine nP.mk (by omega) (by omega) (by omega) ?_;have e:((n:Int)+m).toNat=n+m:=by omega
   have x:gh a c 0 ((n:Int)+m).toNat 1=.slice a (n+m) c:=by rw[e];exact OX l rfl
   exact⟨[1000,1001],_,rfl,by decide,.inl ⟨by omega,j3 (fun q=>[Own.box d (tb+1) (q::.int .i64 0::.int .i8 lr::ex),.row (.slice a n c) 5 1 n xs]) x,rfl⟩⟩
  ·exact⟨[1000,1001],_,rfl,by decide,.inr ⟨by omega,rfl,rfl⟩⟩
 refine CallsA.aaE h1 (fun _ _ _ _ _ h=>h) ?_;rintro F' Lo v w' f (⟨j,rfl,rfl⟩ | ⟨u,rfl,rfl⟩)
 ·rcases l with⟨e,rfl,rfl⟩ | ⟨g,e,_,_⟩
  ·injection e with e1 _ _
   subst e1;have:m=0:=by omega
   subst this;exact⟨_,f,fun b h=>h,.inl ⟨.slice none 0 0,[],rfl,.inl ⟨rfl,rfl,rfl⟩,by simp[BO],rfl⟩⟩
  ·injection e with e1 _ _
   subst e1;have w:(inp [.box d (tb+1) (.slice (some ⟨g,0,none⟩) (n+m) c::.int .i64 0::.int .i8 lr::ex),.row (.slice (some ⟨g,0,none⟩) n c) 5 1 n xs]).get 1001=some (.row (.slice (some ⟨g,0,none⟩) n c) 5 1 n xs):=rfl;have t:xs.length=n:=by
    have:=(f.own _ _ w).1;simpa using this
   obtain⟨ys,y1,y2,y3⟩:=St.reslice f w j;have r:ys=xs++ys.drop n:=by
    apply abp;intro i
    by_cases hi:i<n
    ·rw[y2 i (by omega) (by omega),aaW (by omega)]
    ·rw[aa2 (by omega),abj,t];congr 1;omega
   refine⟨BO ex d tb (.slice (some ⟨g,0,none⟩) (n+m) c) lr (n+m) ys,y3,fun b hb=>?_,.inl ⟨_,ys.drop n,by rw[abA,y1];omega,.inr ⟨g,rfl,j,by unfold maxLen;omega⟩,by rw[<-r],rfl⟩⟩;obtain⟨k,o,e,hb⟩:=hb;rw[K4] at e;simp only[Loc.get] at e;split at e
   ·rename_i y;injection e with e;subst e
    exact⟨1000,_,rfl,hb⟩
   ·split at e
    ·injection e with e;subst e
     exact⟨1001,_,rfl,hb⟩
    ·cases e
 ·exact⟨_,f,fun b h=>h,.inr ⟨u,rfl,rfl⟩⟩
variable {ex:List Value}
def Xh:aJ:=.reg [.op (some 8) (.mov (.t 0)) none,
  .op (some 9) (.len (.t 8)) none,
  .op (some 10) (.mov (.t 1)) none,
  .op (some 11) (.bin .add (.t 9) (.t 10)) none,
  .op (some 5) (.mov (.t 11)) none]
def Xi:aJ:=.seq (.reg [.op (some 12) (.mov (.t 5)) none,
  .op (some 13) (.mov (.t 0)) none,
  .op (some 14) (.capa (.t 13)) none,
  .op (some 15) (.bin .mul (.c (.int .i64 2)) (.t 14)) none,
  .op (some 16) (.bin .lss (.t 12) (.t 15)) none])
 (.cond (.t 16)
 (.reg [.op (some 17) (.mov (.t 0)) none,
   .op (some 18) (.capa (.t 17)) none,
   .op (some 19) (.bin .mul (.c (.int .i64 2)) (.t 18)) none,
   .op (some 5) (.mov (.t 19)) none])
 .skip)
def Xj:aJ:=.reg [.op (some 20) (.mov (.t 5)) none,
  .op (some 21) (.appZ 5 1 .u8 (.c (.slice none 0 0)) (.t 20)) none,
  .op (some 6) (.mov (.t 21)) none]
def Xk:aJ:=.seq (.reg [.op (some 22) (.mov (.t 6)) none,
  .op (some 23) (.mov (.t 0)) none,
  .op (some 24) (.copy 5 1 (.t 22) (.t 23)) none,
  .op (some 7) (.mov (.t 24)) none])
 (.seq (.reg [.op (some 25) (.mov (.t 6)) none,
  .op (some 26) (.mov (.t 7)) none,
  .op (some 27) (.slc 1 (.t 25) none (some (.t 26))) none,
  .op (some 4) (.mov (.t 27)) none])
 .ret)
theorem piece {P:Program}{A:cK}{c:Code}{sc:aJ}(y:low P A c=some sc) {N:cQ}{F:aD}{L:Loc}{ρ:Env}{a:Act}{w:World}(r:St F L w) (t:aH L ρ a) (s:a.tmps.size=A.n)
  (u:ia P sc (fun _ _ _ _=>False) (fun _ _ _=>False) N F L ρ) {Q:Exit->Act->World->Prop}
  (k:∀d w' F' L' ρ',St F' L' w'->aH L' ρ' d->d.tmps.size=A.n->d.defers=a.defers->Step F L w F' L' w'->N F' L' ρ'->Q .normal d w'):c.wp P Q a w:=by
 refine wp_mono (qh c y r t s u) ?_;intro e d w' h;cases e with
 | normal=>obtain⟨F',L',ρ',o,l,m,f,p,q,b⟩:=h;exact k _ _ _ _ _ o l m f p b
 | exit j=>obtain⟨F',L',ρ',o,l,m,f,p,q,b⟩:=h;exact b.elim
 | ret=>obtain⟨F',L',ρ',o,l,m,f,p,q,b⟩:=h;exact b.elim
 | panic ch =>
  obtain⟨v,_,F',L',q1,q2,q3,q4,z,x⟩:=h;exact x.elim
 | _=>exact h.elim
theorem py {ρ:Env}{k:Nat}{x:SV}(h:ρ k=x):put (some k) x ρ=ρ:=by
 funext j
 rw[put_eq];simp only[];split
 ·rename_i e;rw[e,h]
 ·rfl
def Ir:cK:={n:=28}
theorem zM (w:World) :
  CallsD Tryz.prog 135 #[] .returning w fun e b w'=>e=.returned (.tuple #[])/\b=.returning/\w'=w:=by
 have c:Tryz.f135.ntmps=3:=by kernel_rfl
 have f:Tryz.f135.results=#[]:=by kernel_rfl
 refine callsD_of_wpS Tryz.func135 rfl fun a cs d=>?_;apply wpS_seq;apply wpS_region;simp[wpOpsS,go_sem,recoverD,d,c,Exit.thenS];refine wpS_cond (t:=false) (by simp[Act.eval,Array.replicate]) ?_;simp only[aaX,abn];refine wpS_of_wp (wp_skip ?_);cases a
 simp_all [bodyPostS,results]
theorem TQ (F:aD) (a:Option Addr) (n c m:Nat) (xs:List Value) (hn:n<=c) (hc:c<n+m) (hm:n+m<=70368744177664) (hx:xs.length=n) (ay:bU F a 0 xs\/(n=0/\xs=[])) (h1:∀u∈xs,u.oneCell'=true) :
  CallsA PZ 114 #[.slice a n c,.int .i64 m] F [] (fun _ Lo v=>∃l,jJ v n l/\n+m<=l/\Lo=[.row v 5 1 n xs]):=by
 have ca:Tryz.f114.ntmps=28:=by kernel_rfl
 refine⟨⟨_,Tryz.func114,by kernel_rfl,by kernel_rfl⟩,fun _ _ _ _ _ h=>h,fun w hs=>?_⟩
 suffices hall:∀RR:Ending->World->Prop,(∀v F' Lo w',St F' (inp Lo) w'->Step F (inp []) w F' (inp Lo) w'->(∃l,jJ v n l/\n+m<=l/\Lo=[.row v 5 1 n xs])->RR (.returned v) w')->Calls Tryz.prog 114 #[.slice a n c,.int .i64 m] w RR from
  hall _ fun v F' Lo w' h1 h2 h3=>⟨v,F',Lo,rfl,h1,h2,h3⟩
 intro RR ce;refine calls_of_wp_defers Tryz.func114 rfl ?_;rw[ca];have bk:=K5 (Lin:=[]) [.v (.slice a n c),.v (.int .i64 m)] 28 (JG [.slice a n c,.int .i64 m]);refine wp_seq (wp_region (ol (A:=Ir) (r:=0) (List.range 1) (ss:=[.op (some 4) (.mov (.c (.slice none 0 0))) none]) (by kernel_rfl) hs bk (by simp[Ir])
  (K:=fun F' L' ρ'=>F'=F/\L'=inp []/\ρ'=put (some 4) (.v (.slice none 0 0)) (tT 0 [.v (.slice a n c),.v (.int .i64 m)])) ⟨rfl,rfl,rfl⟩ ?_))
 rintro a1 w1 ⟨F1,L1,cX,bp,aa,ar,ae,ax,_,rfl,rfl,rfl⟩;simp only[Exit.then];refine wp_seq (wp_region ?_);obtain⟨tm,df⟩:=a1;simp only at ar ae;subst ae;have dg:∀w:World,(Instr.makeFunc (.func 135) #[] #[]).run Tryz.prog w=.ok (.func (.func 135) #[] #[]) w:=fun _=>rfl;simp[wpOps,go_sem,Exit.then,Act.eval];refine .inl ?_;have s:aH (inp []) (put (some 4) (.v (.slice none 0 0)) (tT 0 [.v (.slice a n c),.v (.int .i64 m)])) {tmps:=tm,defers:=[{target:=.fn (.func 135) #[],args:=#[]}]}:=⟨aa.eq,aa.own,aa.el⟩;refine wp_seq (piece (A:=Ir) (sc:=Xh) (by kernel_rfl) bp s ar (N:=fun F' L' ρ'=>F'=F1/\L'=inp []/\ρ' 5=.v (.int .i64 (n+m:Nat))/\ρ' 0=.v (.slice a n c)) ?_ ?_)
 ·refine Fit.to (m:=((n+m:Nat):Int)) (by rw[bT (by omega) (by omega)];omega) ?_;exact⟨rfl,rfl,rfl,rfl⟩
 rintro a2 w2 F2 L2 ba bd s bz bl aw ⟨rfl,rfl,q,p⟩;simp only[Exit.then];rw[<-py q,<-py (ρ:=put _ _ ba) (k:=0) (x:=.v (.slice a n c)) (by rw[put_eq];simpa using p)] at s;generalize z:(if n+m<2*c then 2*c else n+m)=M;have cy:n+m<=M/\M<=140737488355328:=by subst z;split<;>omega
 refine wp_seq (piece (A:=Ir) (sc:=Xi) (by kernel_rfl) bd s bz (N:=fun F' L' ρ'=>F'=F2/\L'=inp []/\ρ' 5=.v (.int .i64 M)/\ρ' 0=.v (.slice a n c)) ?_ ?_)
 ·refine Fit.to (m:=((2*c:Nat):Int)) (by rw[bT (by omega) (by omega)];omega) ?_;refine aM (fun h=>?_) (fun h=>?_)
  ·refine Fit.to (m:=((2*c:Nat):Int)) (by rw[bT (by omega) (by omega)];omega) ?_;exact⟨rfl,rfl,(by rw[<-z,eu (by omega)];rfl),rfl⟩
  ·exact⟨rfl,rfl,(by rw[<-z,o6 (by omega)];rfl),rfl⟩
 clear q p
 rintro a3 w3 F3 L3 bv bb ap bs bo am ⟨rfl,rfl,q,p⟩;simp only[Exit.then];rw[<-py q,<-py (ρ:=put _ _ bv) (k:=0) (x:=.v (.slice a n c)) (by rw[put_eq];simpa using p)] at ap;refine wp_seq (piece (A:=Ir) (sc:=Xj) (by kernel_rfl) bb ap bs (N:=fun F' L' ρ'=>F'=F3/\∃ad l,L'=[(21,.row (.slice (some ad) M l) 5 1 M (List.replicate M (.int .u8 0)))]/\ρ' 6=.v (.slice (some ad) M l)/\ρ' 0=.v (.slice a n c)) ?_ ?_)
 ·refine I3.mk ⟨21,0,[],.inr ⟨rfl,rfl,rfl,rfl⟩,by unfold maxLen;omega,by omega,fun v hv=>?_⟩;obtain⟨a',c',rfl,bj⟩:=hv;cases a' with
  | none=>exact o4 (bj rfl) (by omega)
  | some ad =>
   rw[Nat.zero_add];exact⟨rfl,ad,c',rfl,rfl,rfl⟩
 clear q p
 rintro a4 w4 F4 L4 cb ao ac bt cd av ⟨rfl,ad,l,rfl,q,p⟩;simp only[Exit.then];obtain⟨db,be⟩:=Ci ao (k:=21) rfl;rcases be with⟨e,_⟩ | ⟨g,e,co,y⟩
 ·cases e
 injection e with e1 e2 e3
 injection e1 with e1
 subst e1 e3;rw[<-py q,<-py (ρ:=put _ _ cb) (k:=0) (x:=.v (.slice a n c)) (by rw[put_eq];simpa using p)] at ac;have bc:aP (List.replicate M (Value.int .u8 0)) (0*1) xs=xs++List.replicate (M-n) (.int .u8 0):=by
  simp[aP,hx]
 refine wp_mono (qh (A:=Ir) _ (sc:=Xk) (by kernel_rfl) ao ac bt (E:=fun _ _ _ _=>False) (N:=fun _ _ _=>False)
  (R:=fun F' L' ρ'=>F'=F4/\L'=[(21,.row (.slice (some ⟨g,0,none⟩) M l) 5 1 M (xs++List.replicate (M-n) (.int .u8 0)))]/\ρ' 4=.v (.slice (some ⟨g,0,none⟩) n l)) ?_) ?_
 ·refine Bf.mk (.inl ⟨21,M,_,_,_,⟨g,0,none⟩,l,l,0,n,a,c,xs,rfl,rfl,rfl,by omega,rfl,by rw[Nat.min_eq_left (by omega),hx,Nat.mul_one],?_,h1,?_⟩)
  ·rw[Nat.min_eq_left (by omega)];exact ay
  rw[Nat.min_eq_left (by omega),bc];refine nP.mk (by omega) (by omega) (by omega) ?_;exact⟨rfl,rfl,j3 SV.v (OX (n:=M) (.inr ⟨g,rfl,by omega,y⟩) rfl)⟩
 intro e a5 w5 h;cases e with
 | normal=>obtain⟨F',L',ρ',h1,h2,h3,h4,h5,h6,h7⟩:=h;exact h7.elim
 | exit j=>obtain⟨F',L',ρ',h1,h2,h3,h4,h5,h6,h7⟩:=h;exact h7.elim
 | panic ch =>
  obtain⟨v,_,F',L',q1,q2,q3,q4,q5,q6⟩:=h;exact q6.elim
 | ret =>
  obtain⟨F',L',ρ',ag,cf,de,al,ab,_,rfl,rfl,h4⟩:=h;rw[cd,bo,bl] at al;show Leaves Tryz.prog Tryz.f114 a5.tmps RR a5.defers .returning w5;rw[al];refine leaves_cons (f:=135) (args:=#[]) (by simp) (by simp[invoke]) ?_;refine(zM _).mono ?_;rintro e u' w6 ⟨rfl,rfl,rfl⟩;obtain⟨vs,h5,rfl⟩:=v9 (P:=Tryz.prog) (fn:=Tryz.f114) (rs:=[(4,none)]) (K:=fun vs=>vs=[.slice (some ⟨g,0,none⟩) n l]) ag cf (by kernel_rfl) (by
   simp only[lU,h4];rfl)
  obtain⟨ys,y1,y2,y3⟩:=St.reslice (n':=n) ag (k:=21) rfl (by omega);have aE:ys=xs:=by
   apply abp;intro i
   by_cases hi:i<n
   ·rw[y2 i (by omega) (by omega),aaW (by omega)]
   ·rw[aaY (by omega),aaY (by omega)]
  subst aE;refine⟨_,h5,ce _ F' [.row (.slice (some ⟨g,0,none⟩) n l) 5 1 n ys] w6 ?_ ?_ ⟨l,.inr ⟨g,rfl,by omega,y⟩,by omega,rfl⟩⟩
  ·exact y3.handed (ks:=[21]) rfl (by simp)
  ·have d:=(((ax.trans aw).trans am).trans av).trans ab;refine⟨d.le,d.os,d.tape,d.output,d.size,d.same,d.frz,fun b hb=>?_⟩;refine d.own b ?_;obtain⟨k,o,e,hb⟩:=hb;rw[aX] at e;split at e
   case isFalse=>cases e
   rename_i hk;have t:=aaQ e;simp only[abu] at t;subst t;exact⟨21,_,rfl,hb⟩
 | _=>exact h.elim
variable {ex:List Value}
theorem CallsA.aaL {P:Program}{f:FuncId}{args:Array Value}{F:aD}{v:Value}{t sz n:Nat}{xs:List Value}{R:aD->List Own->Value->Prop}(hent:∃fn,P.funcs[f]?=some fn/\fn.body.isSome=true/\(fn.name == "runtime.NumGoroutine")=false)
  (hmono:∀F G L v,F.le G->R F L v->R G L v) (h:∀F',F.le F'->I5 F' v sz n xs->CallsA P f args F' [] R):CallsA P f args F [.row v t sz n xs] R:=by
 refine⟨hent,hmono,fun w hs=>?_⟩;have he:aH (inp [.row v t sz n xs]) (fun _=>.v undef) {tmps:=#[],defers:=[]}:=⟨fun t=>by simp[conc],fun _ _ _ e=>(by cases e),fun _ _ _ e=>(by cases e)⟩;obtain⟨F',L',k1,k2,k3,k4,k5⟩:=oO (k:=1000) hs he (KK:=fun F' L'=>L'=inp []/\F.le F'/\I5 F' v sz n xs) ⟨v,t,sz,n,xs,rfl,fun F' h1 h2=>⟨rfl,h1,h2⟩⟩;obtain⟨rfl,k5,k6⟩:=(⟨k4,k5⟩:_/\_);refine Calls.mono ((h F' k5 k6).run w k1) ?_;rintro e w' ⟨v,F2,Lo,rfl,h1,h2,h3⟩;exact⟨v,F2,Lo,rfl,h1,k3.trans h2,h3⟩
theorem R9:∃fn,Tryz.prog.funcs[114]?=some fn/\fn.body.isSome=true/\(fn.name == "runtime.NumGoroutine")=false:=⟨_,Tryz.func114,by kernel_rfl,by kernel_rfl⟩
theorem TR (F:aD) (a:Option Addr) (n c m:Nat) (xs:List Value) (f:n<=c) (k:c<n+m) (d:n+m<=70368744177664) (j:xs.length=n) (l:∀u∈xs,u.oneCell'=true) :
  CallsA PZ 114 #[.slice a n c,.int .i64 m] F [.row (.slice a n c) 5 1 n xs] (fun _ Lo v=>∃b,jJ v n b/\n+m<=b/\Lo=[.row v 5 1 n xs]):=by
 refine CallsA.aaL R9 (fun _ _ _ _ _ h=>h) fun F' _ o=>TQ F' a n c m xs f k d j ?_ l;rcases o with⟨e,rfl,rfl⟩ | ⟨p,q,e,h,_⟩
 ·exact .inr ⟨rfl,rfl⟩
 ·injection e with e1 _ _
  subst e1;exact .inl h
theorem TT (F:aD) (d tb:Nat) (s:Value) (lr:Int) (n c:Nat) (xs:List Value) (e:jJ s n c) :
  CallsA PZ 112 #[.pointer (some ⟨d,0,none⟩)] F (BO ex d tb s lr n xs) (fun _ Lo v=>Lo=BO ex d tb s lr n xs/\v=.int .i64 n):=by
 obtain⟨a,rfl,f,b,j⟩:=e.form;unfold maxLen at b;refine gK (svs:=[.own 1000 0]) rfl Kq rfl rfl (rV (svs:=[])) (fun _ _ _ _ _ h=>h) ?_;refine Fit.to (m:=(n:Int)) (by rw[bT (by omega) (by omega)];omega) ?_;exact⟨[1000,1001],_,rfl,by decide,rfl,rfl⟩
theorem Fh {f:Nat}{vs:List Value}{F:aD}{L:Loc}{K:aD->Loc->Value->Prop}{d tb n:Nat}{s:Value}{lr:Int}{xs:List Value}{R:aD->List Own->Value->Prop}(q:L=inp (BO ex d tb s lr n xs)) (h:CallsA PZ f vs.toArray F (BO ex d tb s lr n xs) R)
  (o:∀v F' Lo,F.le F'->R F' Lo v->∃s' c n' b,Lo=BO ex d tb s' c n' b/\K F' (inp (BO ex d tb s' c n' b)) v):dz PZ f vs F L K:=by
 subst q;refine⟨[1000,1001],[1000,1001],_,_,rfl,by decide,by decide,fun k j=>.inl j,h,fun v F' Lo l m=>?_⟩;obtain⟨s',c,n',b,rfl,p⟩:=o v F' Lo l m;refine⟨rfl,fun k g t cs j e=>?_,p⟩;simp only[xC,List.not_mem_nil,or_false] at j;rcases j with rfl | rfl
 ·have a:(some (Own.box d (tb+1) (s::.int .i64 0::.int .i8 lr::ex)))=some (.box g t cs):=e;injection a with a
  injection a with e1 e2 e3
  subst e1 e2;exact⟨_,rfl⟩
 ·have a:(some (Own.row s 5 1 n xs))=some (.box g t cs):=e;injection a with a
  cases a
theorem Gv {F:aD}{L:Loc}{K:aD->Loc->Value->Prop}{a tb n c:Nat}{s:Value}{lr:Int}{xs:List Value}(f:L=inp (BO ex a tb s lr n xs)) (e:jJ s n c)
  (h:∀F',F.le F'->K F' (inp (BO ex a tb s lr n xs)) (.int .i64 n)):dz PZ 112 [.pointer (some ⟨a,0,none⟩)] F L K :=
 Fh f (TT F a tb s lr n c xs e) fun v F' Lo b d=>⟨s,lr,n,xs,d.1,d.2▸h F' b⟩
theorem Fj {F:aD}{L:Loc}{K:aD->Loc->Value->Prop}{a tb n c m:Nat}{s:Value}{lr:Int}{xs:List Value}(o:L=inp (BO ex a tb s lr n xs)) (e:jJ s n c) (h:n+m<=140737488355328)
  (l:∀F' s' ys,F.le F'->ys.length=m->jJ s' (n+m) c->K F' (inp (BO ex a tb s' lr (n+m) (xs++ys))) (.tuple #[.int .i64 n,.bool true]))
  (k:∀F',F.le F'->c<n+m->K F' (inp (BO ex a tb s lr n xs)) (.tuple #[.int .i64 0,.bool false])):dz PZ 88 [.pointer (some ⟨a,0,none⟩),.int .i64 m] F L K :=
 Fh o (Xg F a tb s lr n c m xs e h) fun v F' Lo b f=>by
  rcases f with⟨s',ys,d,j,rfl,rfl⟩ | ⟨d,rfl,rfl⟩
  ·exact⟨_,_,_,_,rfl,l F' s' ys b d j⟩
  ·exact⟨_,_,_,_,rfl,k F' b d⟩
theorem DY {F:aD}{L:Loc}{K:aD->Loc->Value->Prop}{n c m:Nat}{a:Option Addr}{s:Value}{xs:List Value}(f:jJ s n c) (x:L.get 1001=some (.row s 5 1 n xs)) (w:c<n+m) (l:n+m<=70368744177664) (r:xs.length=n) (y:∀u∈xs,u.oneCell'=true) (p:s=.slice a n c)
  (o:∀b F' d,F.le F'->jJ (.slice b n d) n d->n+m<=d->K F' (L.set 1001 (.row (.slice b n d) 5 1 n xs)) (.slice b n d)):CallXDPt PZ (fun _ _ _=>False) [] 114 [gh a c 0 n 1,.int .i64 m] F L K:=by
 subst p;obtain⟨_,_,q,_⟩:=f.form;rw[OX f rfl];refine⟨[1001],[.row (.slice a n c) 5 1 n xs],_,fun _ _ _=>False,by simp only[Loc.sub,x],by simp,by simp,((TR F a n c m xs (by omega) w l r y).toX (Pp:=fun _=>False)).toS,fun v F' L' Lo _ _ _ h=>h.elim,fun v F' Lo z k=>?_⟩;obtain⟨d,j,q2,rfl⟩:=k;obtain⟨b,rfl,_⟩:=j.form;refine⟨rfl,fun i g t cs e=>?_,fun _=>o b F' d z j q2⟩;cases i with
 | zero=>injection e with e;cases e
 | succ i=>cases e
theorem Qe {L:Loc}{ss:List aA}(h:(ss.all fun s=>(uc s).isNone)=true):∀s∈ss,∀k,uc s=some k->L.get k=none:=by
 intro s a k e;have:=aaZ.1 h s a;rw[e] at this;cases this
def Qf (ex:List Value) (a tb:Nat) (lr:Int) (n m:Nat) (xs:List Value):aD->List Own->Value->Prop:=fun _ Lo v =>
 ∃s' b ys,ys.length=m/\jJ s' (n+m) b/\Lo=BO ex a tb s' lr (n+m) (xs++ys)/\v=.int .i64 n
def Raw (ex:List Value) (b tb:Nat) (lr:Int) (n m:Nat) (xs:List Value) (Lo:List Own):Prop :=
 ∃a c,jJ (.slice a n c) n c/\n+m<=c/\Lo=[.box b (tb+1) (gh a c 0 (n+m) 1::.int .i64 0::.int .i8 lr::ex),.row (.slice a n c) 5 1 n xs]
theorem K6 {j tb n m:Nat}{lr:Int}{xs:List Value}{Lo:List Own}{F:aD}{w:World}(h:Raw ex j tb lr n m xs Lo) (d:St F (inp Lo) w) :
  ∃Lo',St F (inp Lo') w/\(∀b,(inp Lo').owns b->(inp Lo).owns b)/\∃s' x ys,ys.length=m/\jJ s' (n+m) x/\Lo'=BO ex j tb s' lr (n+m) (xs++ys):=by
 obtain⟨a,c,q,f,rfl⟩:=h;rw[OX q rfl] at d ⊢;rcases q with⟨e,rfl,rfl⟩ | ⟨g,e,z,s⟩
 ·injection e with e1 _ _
  subst e1;have:m=0:=by omega
  subst this;exact⟨_,d,fun b h=>h,.slice none 0 0,0,[],rfl,.inl ⟨rfl,rfl,rfl⟩,by simp[BO]⟩
 ·injection e with e1 _ _
  subst e1;have r:(inp [.box j (tb+1) (.slice (some ⟨g,0,none⟩) (n+m) c::.int .i64 0::.int .i8 lr::ex),.row (.slice (some ⟨g,0,none⟩) n c) 5 1 n xs]).get 1001=some (.row (.slice (some ⟨g,0,none⟩) n c) 5 1 n xs):=rfl;have p:xs.length=n:=by
   have:=(d.own _ _ r).1;simpa using this
  obtain⟨ys,u,y,v⟩:=St.reslice d r f;have l:ys=xs++ys.drop n:=by
   apply abp;intro i
   by_cases hi:i<n
   ·rw[y i (by omega) (by omega),aaW (by omega)]
   ·rw[aa2 (by omega),abj,p];congr 1;omega
  refine⟨BO ex j tb (.slice (some ⟨g,0,none⟩) (n+m) c) lr (n+m) ys,v,fun b hb=>?_,_,c,ys.drop n,by rw[abA,u];omega,.inr ⟨g,rfl,f,s⟩,by rw[<-l]⟩;obtain⟨k,o,e,hb⟩:=hb;rw[K4] at e;simp only[Loc.get] at e;split at e
  ·rename_i t;injection e with e;subst e
   exact⟨1000,_,rfl,hb⟩
  ·split at e
   ·injection e with e;subst e
    exact⟨1001,_,rfl,hb⟩
   ·cases e
theorem Qf.aaE {f c tb n m:Nat}{lr:Int}{xs:List Value}{args:Array Value}{F:aD}{Lin:List Own}(h:CallsA PZ f args F Lin (fun F' Lo v=>Qf ex c tb lr n m xs F' Lo v\/(Raw ex c tb lr n m xs Lo/\v=.int .i64 n))):CallsA PZ f args F Lin (Qf ex c tb lr n m xs):=by
 refine CallsA.aaE h (fun _ _ _ _ _ h=>h) ?_;rintro F' Lo v w' a (h | ⟨h,rfl⟩)
 ·exact⟨Lo,a,fun b h=>h,h⟩
 ·obtain⟨Lo',j,d,s',l,ys,k,e,rfl⟩:=K6 h a;exact⟨_,j,d,s',l,ys,k,e,rfl,rfl⟩
set_option maxHeartbeats 1000000 in
theorem Xl (F:aD) (d tb:Nat) (lr:Int) (m:Nat) (q:m<=70368744177664) :
  CallsA PZ 89 #[.pointer (some ⟨d,0,none⟩),.int .i64 m] F (BO ex d tb (.slice none 0 0) lr 0 []) (Qf ex d tb lr 0 m []):=by
 have a:jJ (.slice none 0 0) 0 0:=.inl ⟨rfl,rfl,rfl⟩;refine Qf.aaE ?_;refine gK (svs:=[.own 1000 0,.v (.int .i64 m)]) rfl Gq rfl rfl (rV (svs:=[.int .i64 m])) (fun _ _ _ _ _ h=>h) ?_;refine Gv rfl a fun F1 f=>?_;refine Fj rfl a (by omega) (fun F2 s' ys e p c=>?_) (fun F2 e r=>?_)
 ·exact⟨[1000,1001],_,rfl,by decide,.inl ⟨s',0,ys,p,c,rfl,rfl⟩⟩
 refine aM (fun h=>?_) (fun h=>?_)
 ·refine u4.mk (by omega) (by omega) (by decide) (by decide) fun g=>?_;exact⟨[1000,41],_,rfl,by decide,.inl ⟨.slice (some ⟨g,0,none⟩) m 64,64,(List.replicate m [Value.int .u8 0]).flatten,by simp,.inr ⟨g,by rw[Nat.zero_add m],by omega,by decide⟩,by rw[Nat.zero_add m];rfl,rfl⟩⟩
 refine mr.mk (by omega) ?_;refine Fit.to (m:=0) (by decide) ?_;refine Fit.to (m:=0) (by decide) ?_;refine aM (fun c=>?_) (fun c=>?_)
 ·omega
 refine Fit.to (m:=9223372036854775807) (by decide) ?_;refine Fit.to (m:=9223372036854775807-m) (by rw[bT (by omega) (by omega)]) ?_;refine aM (fun l=>?_) (fun l=>?_)
 ·omega
 refine⟨Qe (by kernel_rfl),?_⟩;refine⟨_,rfl,⟨_,rfl,⟨_,rfl,⟨_,rfl,⟨_,rfl,⟨_,rfl,⟨_,rfl,⟨_,rfl,⟨_,rfl,⟨_,rfl,?_⟩⟩⟩⟩⟩⟩⟩⟩⟩⟩;refine nP.mk (by omega) (by omega) (by omega) ?_;refine⟨_,rfl,⟨_,rfl,⟨_,rfl,⟨_,rfl,⟨_,rfl,⟨_,rfl,?_⟩⟩⟩⟩⟩⟩;refine Fit.to (m:=(m:Int)) (by rw[bT (by omega) (by omega)];omega) ?_;refine DY a rfl (by omega) (by omega) rfl (by simp) rfl fun b F3 k o n j=>?_;refine⟨_,rfl,⟨_,rfl,⟨_,rfl,?_⟩⟩⟩;refine Fit.to (m:=((0+m:Nat):Int)) (by rw[bT (by omega) (by omega)];omega) ?_;refine nP.mk (by omega) (by omega) (by omega) ?_;exact⟨[1000,1001],_,rfl,by decide,.inr ⟨⟨b,k,n,by omega,rfl⟩,rfl⟩⟩
theorem Xm (F:aD) (f tb g:Nat) (lr:Int) (n c m:Nat) (xs:List Value) (q:n<=c) (a:c<=maxLen) (z:n+m<=70368744177664) (x:xs.length=n) (k:∀u∈xs,u.oneCell'=true) :
  CallsA PZ 89 #[.pointer (some ⟨f,0,none⟩),.int .i64 m] F (BO ex f tb (.slice (some ⟨g,0,none⟩) n c) lr n xs) (Qf ex f tb lr n m xs):=by
 have d:jJ (.slice (some ⟨g,0,none⟩) n c) n c:=.inr ⟨g,rfl,q,a⟩;refine Qf.aaE ?_;refine gK (svs:=[.own 1000 0,.v (.int .i64 m)]) rfl Gq rfl rfl (rV (svs:=[.int .i64 m])) (fun _ _ _ _ _ h=>h) ?_;refine Gv rfl d fun F1 o=>?_;refine aM (fun r=>?_) (fun r=>?_) <;>
 ·refine Fj rfl d (by omega) (fun F2 s' ys j k e=>?_) (fun F2 j hc=>?_)
  ·exact⟨[1000,1001],_,rfl,by decide,.inl ⟨s',c,ys,k,e,rfl,rfl⟩⟩
  have l:c<=9223372036854775807:=a;refine mr.mk (by omega) ?_;refine Fit.to (m:=((c / 2:Nat):Int)) (by rw[show((c:Int).tdiv 2)=((c / 2:Nat):Int) from rfl,bT (by omega) (by omega)]) ?_;refine Fit.to (m:=((c / 2:Nat):Int)-n) (by rw[bT (by omega) (by omega)]) ?_;refine aM (fun e=>?_) (fun e=>?_)
  ·omega
  refine Fit.to (m:=9223372036854775807-c) (by rw[bT (by omega) (by omega)]) ?_;refine Fit.to (m:=9223372036854775807-c-m) (by rw[bT (by omega) (by omega)]) ?_;refine aM (fun t=>?_) (fun t=>?_)
  ·omega
  refine⟨Qe (by kernel_rfl),?_⟩;refine⟨_,rfl,⟨_,rfl,⟨_,rfl,⟨_,rfl,⟨_,rfl,⟨_,rfl,⟨_,rfl,⟨_,rfl,⟨_,rfl,⟨_,rfl,?_⟩⟩⟩⟩⟩⟩⟩⟩⟩⟩;refine nP.mk (by omega) (by omega) (by omega) ?_;refine⟨_,rfl,⟨_,rfl,⟨_,rfl,⟨_,rfl,⟨_,rfl,⟨_,rfl,?_⟩⟩⟩⟩⟩⟩;refine Fit.to (m:=(m:Int)) (by rw[bT (by omega) (by omega)];omega) ?_;refine DY d rfl (by omega) (by omega) x k rfl fun b F3 s y w p=>?_;refine⟨_,rfl,⟨_,rfl,⟨_,rfl,?_⟩⟩⟩;refine Fit.to (m:=((n+m:Nat):Int)) (by rw[bT (by omega) (by omega)];omega) ?_;refine nP.mk (by omega) (by omega) (by omega) ?_;exact⟨[1000,1001],_,rfl,by decide,.inr ⟨⟨b,s,w,by omega,rfl⟩,rfl⟩⟩
theorem Xn (F:aD) (a tb:Nat) (s:Value) (lr:Int) (n c m:Nat) (xs:List Value) (d:jJ s n c) (f:n+m<=70368744177664) (b:xs.length=n) (e:∀u∈xs,u.oneCell'=true) :
  CallsA PZ 89 #[.pointer (some ⟨a,0,none⟩),.int .i64 m] F (BO ex a tb s lr n xs) (Qf ex a tb lr n m xs):=by
 rcases d with⟨rfl,rfl,rfl⟩ | ⟨g,rfl,h,j⟩
 ·obtain rfl:xs=[]:=abg b;exact Xl F a tb lr m (by omega)
 ·exact Xm F a tb g lr n c m xs h j f b e
variable {ex:List Value}
theorem jJ.some {a:Option Addr}{n c:Nat}(h:jJ (.slice a n c) n c) (b:0<n):∃g,a=.some ⟨g,0,none⟩:=by
 rcases h with⟨_,rfl,_⟩ | ⟨g,e,_⟩
 ·omega
 ·injection e with e
  exact⟨g,e⟩
theorem Gw {F:aD}{L:Loc}{K:aD->Loc->Value->Prop}{b tb n c m:Nat}{s:Value}{lr:Int}{xs:List Value}(q:L=inp (BO ex b tb s lr n xs)) (f:jJ s n c) (h:n+m<=140737488355328) (j:0<n+m)
  (l:∀F' g d ys,F.le F'->ys.length=m->n+m<=d->d<=maxLen->K F' (inp (BO ex b tb (.slice (some ⟨g,0,none⟩) (n+m) d) lr (n+m) (xs++ys))) (.tuple #[.int .i64 n,.bool true]))
  (k:∀F',F.le F'->c<n+m->K F' (inp (BO ex b tb s lr n xs)) (.tuple #[.int .i64 0,.bool false])):dz PZ 88 [.pointer (some ⟨b,0,none⟩),.int .i64 m] F L K :=
 Fj q f h (fun F' s' ys p o e=>by
  obtain⟨a,rfl,r,t,_⟩:=e.form;obtain⟨g,rfl⟩:=e.some j;exact l F' g c ys p o r t) k
theorem Gx {F:aD}{L:Loc}{K:aD->Loc->Value->Prop}{d tb n c m:Nat}{s:Value}{lr:Int}{xs:List Value}(r:L=inp (BO ex d tb s lr n xs)) (f:jJ s n c) (j:n+m<=70368744177664) (q:xs.length=n) (w:∀u∈xs,u.oneCell'=true) (k:0<n+m)
  (o:∀F' g b ys,F.le F'->ys.length=m->n+m<=b->b<=maxLen->K F' (inp (BO ex d tb (.slice (some ⟨g,0,none⟩) (n+m) b) lr (n+m) (xs++ys))) (.int .i64 n)):dz PZ 89 [.pointer (some ⟨d,0,none⟩),.int .i64 m] F L K :=
 Fh r (Xn F d tb s lr n c m xs f j q w) fun v F' Lo t h=>by
  obtain⟨s',b,ys,x,e,rfl,rfl⟩:=h;obtain⟨a,rfl,l,p,_⟩:=e.form;obtain⟨g,rfl⟩:=e.some k;exact⟨_,_,_,_,rfl,o F' g b ys t x l p⟩
def RW (ex:List Value) (a tb n m:Nat) (ys:List Value) (r:Value):aD->List Own->Value->Prop:=fun _ Lo v=>∃s' b,jJ s' (n+m) b/\Lo=BO ex a tb s' 0 (n+m) ys/\v=r
theorem yR {xs ys zs:List Value}{n:Nat}(b:xs.length=n) (a:ys.length=zs.length):aP (xs++ys) n zs=xs++zs:=by
 subst b;simp[aP,a]
theorem K7 {F:aD}{L:Loc}{j k:Nat}{K:Loc->Prop}{v:Value}{t m c:Nat}{xs:List Value}{a:Addr}(b:Int) (h:L.get k=some (.row v t 1 m xs)) (d:v=.slice (some a) m c) (e:j+1<=xs.length) (f:K (L.set k (.row v t 1 m (aP xs j [.int .u8 b])))):tO F L (some a) j [.int .u8 b] K :=
 ⟨.inl ⟨k,v,t,1,m,xs,a,c,h,rfl,d,e,fun u l=>by rw[abu.1 l];rfl,f⟩⟩
theorem TU (F:aD) (f tb:Nat) (s:Value) (lr:Int) (n c:Nat) (x:Int) (xs:List Value) (p:jJ s n c) (y:n+1<=70368744177664) (j:xs.length=n) (t:∀u∈xs,u.oneCell'=true) :
  CallsA PZ 101 #[.pointer (some ⟨f,0,none⟩),.int .u8 x] F (BO ex f tb s lr n xs) (RW ex f tb n 1 (xs++[.int .u8 x]) .nilIface):=by
 refine gK (svs:=[.own 1000 0,.v (.int .u8 x)]) rfl Ko rfl rfl (rV (svs:=[.int .u8 x])) (fun _ _ _ _ _ h=>h) ?_;have b:∀(g a:Nat) (ys:List Value),ys.length=1->aP (xs++ys) (((n:Int).toNat)*1) [.int .u8 x]=xs++[.int .u8 x]:=fun g a ys d=>by
  rw[Nat.mul_one];exact yR j d
 refine Gw (s:=s) (lr:=0) (m:=1) rfl p (by omega) (by omega) (fun F1 g a ys w d l o=>?_) (fun F1 w z=>?_)
 ·refine FG.mk (fun e=>by cases e) (by omega) (by omega) ?_;refine K7 (k:=1001) x rfl rfl (by rw[yo,j,d];omega) ?_;exact⟨[1000,1001],_,rfl,by decide,_,a,.inr ⟨g,rfl,l,o⟩,j3 (fun q=>BO ex f tb (.slice (some ⟨g,0,none⟩) (n+1) a) 0 (n+1) q) (b g a ys d),rfl⟩
 ·refine Gx (s:=s) (lr:=0) (m:=1) rfl p (by omega) j t (by omega) fun F2 g a ys r d l o=>?_;refine FG.mk (fun e=>by cases e) (by omega) (by omega) ?_;refine K7 (k:=1001) x rfl rfl (by rw[yo,j,d];omega) ?_;exact⟨[1000,1001],_,rfl,by decide,_,a,.inr ⟨g,rfl,l,o⟩,j3 (fun q=>BO ex f tb (.slice (some ⟨g,0,none⟩) (n+1) a) 0 (n+1) q) (b g a ys d),rfl⟩
theorem OY {g c n p:Nat}(h:n+p<=c):∃j,j+p<=n+p/\(p≠0->j=n)/\gh (some ⟨g,0,none⟩) c n (n+p) 1=.slice (some ((⟨g,0,none⟩:Addr).add (j*1))) p (c-n):=by
 by_cases e:c=n
 ·refine⟨0,by omega,fun a=>o4 (by omega) a,?_⟩;simp only[gh,eu e,Nat.add_sub_cancel_left];rfl
 ·refine⟨n,aa7 _,fun _=>rfl,?_⟩;simp only[gh,o6 e,Nat.add_sub_cancel_left,Option.map]
theorem Gy {F:aD}{L:Loc}{K:Loc->Nat->Prop}{g a n p d:Nat}{l h:Nat}{pa:Option Addr}{xs ys news:List Value}(v:L.get 1001=some (.row (.slice (some ⟨g,0,none⟩) (n+p) a) 5 1 (n+p) (xs++ys))) (c:l=n) (m:h=n+p) (s:n+p<=a)
  (r:xs.length=n) (y:ys.length=p) (w:news.length=p) (b:bU F pa 0 news\/(p=0/\news=[])) (o:∀u∈news,u.oneCell'=true)
  (k:K (L.set 1001 (.row (.slice (some ⟨g,0,none⟩) (n+p) a) 5 1 (n+p) (xs++news))) p):Bf F L 5 1 (gh (some ⟨g,0,none⟩) a l h 1) (.slice pa p d) K:=by
 subst c m;obtain⟨j,x,f,t⟩:=OY (g:=g) s;refine⟨.inl ⟨1001,p,_,_,_,⟨g,0,none⟩,a,a-l,j,p,pa,d,news,v,rfl,t,x,rfl,by rw[Nat.min_self,w,Nat.mul_one],by rw[Nat.min_self];exact b,o,?_⟩⟩;rw[Nat.min_self];have e:aP (xs++ys) (j*1) news=xs++news:=by
  rw[Nat.mul_one]
  by_cases q:p=0
  ·obtain rfl:news=[]:=abg (by omega);obtain rfl:ys=[]:=abg (by omega);simp[aP]
  ·rw[f q];exact yR r (by omega)
 rw[e];exact k
theorem Xo (F:aD) (d tb:Nat) (s:Value) (lr:Int) (n c p m:Nat) (pa:Option Addr) (xs news:List Value) (q:jJ s n c) (y:n+p<=70368744177664) (t:0<n+p) (f:xs.length=n) (x:∀u∈xs,u.oneCell'=true)
  (w:news.length=p) (a:bU F pa 0 news\/(p=0/\news=[])) (r:∀u∈news,u.oneCell'=true) :
  CallsA PZ 48 #[.pointer (some ⟨d,0,none⟩),.slice pa p m] F (BO ex d tb s lr n xs) (RW ex d tb n p (xs++news) (.tuple #[.int .i64 p,.nilIface])):=by
 refine gK (svs:=[.own 1000 0,.v (.slice pa p m)]) rfl Ob rfl rfl (rV (svs:=[.slice pa p m])) (fun _ _ _ _ _ h=>h) ?_;refine Gw (s:=s) (lr:=0) rfl q (by omega) t (fun F1 g l ys k e b o=>?_) (fun F1 k z=>?_)
 ·refine nP.mk (by omega) (by omega) (by omega) ?_;refine Gy rfl (by omega) (by omega) b f e w (a.imp (fun h=>h.mono k) id) r ?_;exact⟨[1000,1001],_,rfl,by decide,_,l,.inr ⟨g,rfl,b,o⟩,rfl,rfl⟩
 ·refine Gx (s:=s) (lr:=0) rfl q (by omega) f x t fun F2 g l ys j e b o=>?_;refine nP.mk (by omega) (by omega) (by omega) ?_;refine Gy rfl (by omega) (by omega) b f e w (a.imp (fun h=>(h.mono k).mono j) id) r ?_;exact⟨[1000,1001],_,rfl,by decide,_,l,.inr ⟨g,rfl,b,o⟩,rfl,rfl⟩
def K8 (t:Nat) (a:List C) (bs:List UInt8):List TO:=[.box t (.rw 1001::IC 0::.int .i8 0::a),.row 5 1 (af bs)]
theorem TV {F:aD}{Li:List Own}{t:Nat}{d:List C}{bs:List UInt8}(hl:Li.length=(K8 t d bs).length) (h:dc F (inp Li) (jm (K8 t d bs))) :
  ∃j tb s ex,Li=BO ex j tb s 0 bs.length (dM bs)/\tyOk t j (tb+1)/\bs.length<=maxLen/\aF F (inp Li) d ex:=by
 match Li,hl with
 | [k,f],_ =>
  have z:cZ F (inp [k,f]) (.box t (.rw 1001::IC 0::.int .i8 0::d)) k:=h 1000;have w:cZ F (inp [k,f]) (.row 5 1 (af bs)) f:=h 1001;cases k with
  | row=>exact z.elim
  | box j tb us =>
   cases f with
   | box=>exact w.elim
   | row v t' b n xs =>
    obtain⟨rfl,rfl,hn,⟨hm,a,c,rfl,hc⟩,hr⟩:=w;have hx:=mL hr;subst hx;have l:n=bs.length:=by rw[hn];simp[af]
    subst l;obtain⟨y,x⟩:=z;obtain⟨tb,rfl⟩:∃m,tb=m+1:=Nat.exists_eq_succ_of_ne_zero y.2.2;simp only[aF,Rel] at x;obtain⟨v1,_,rfl,u,v2,_,rfl,r,v3,ex,rfl,q,o⟩:=x;obtain⟨a',c',t',b,n',p,_,hg⟩:=u;have e:some (Own.row (.slice a bs.length c) 5 1 bs.length (dM bs))=some (.row v1 t' b n' p):=hg;injection e with e
    injection e with e1
    subst e1;obtain⟨rfl,_⟩:=r;obtain⟨rfl,_⟩:=q;exact⟨j,tb,_,ex,rfl,y,hm,o⟩
theorem TW {F:aD}{t d tb c:Nat}{s:Value}{f:List C}{ex:List Value}{bs:List UInt8}(b:aF F (inp (BO ex d tb s 0 bs.length (dM bs))) f ex) (n:tyOk t d (tb+1)) (h:jJ s bs.length c) (l:bs.length<=maxLen):dc F (inp (BO ex d tb s 0 bs.length (dM bs))) (jm (K8 t f bs)):=by
 obtain⟨a,rfl,q,o,m⟩:=h.form;intro k;rw[cB,aX];split
 case isFalse=>trivial
 rename_i p
 match r:k-1000 with
 | 0 =>
  refine⟨n,?_⟩;simp only[aF,Rel];exact⟨_,_,rfl,⟨a,c,5,1,bs.length,dM bs,rfl,rfl⟩,_,_,rfl,⟨rfl,by decide⟩,_,_,rfl,⟨rfl,by decide⟩,b⟩
 | 1=>exact⟨rfl,rfl,by simp[af],⟨l,a,c,rfl,fun e=>(m e).1⟩,qq bs⟩
 | j+2=>trivial
theorem CallsA.aaP {P:Program}{f:FuncId}{args:Array Value}{F:aD}{Lin:List Own}{R:aD->List Own->Value->Prop}(hent:∃fn,P.funcs[f]?=some fn/\fn.body.isSome=true/\(fn.name == "runtime.NumGoroutine")=false)
  (hmono:∀F G L v,F.le G->R F L v->R G L v) (h:∀w,St F (inp Lin) w->CallsA P f args F Lin R):CallsA P f args F Lin R:=⟨hent,hmono,fun w hs=>(h w hs).run w hs⟩
theorem CallsA.to {P:Program}{f:FuncId}{args:Array Value}{F:aD}{Lin:List Own}{R R':aD->List Own->Value->Prop}(h:CallsA P f args F Lin R)
  (a:∀F G L v,F.le G->R' F L v->R' G L v) (k:∀F L v,R F L v->R' F L v):CallsA P f args F Lin R':=⟨h.ent,a,fun w b=>(h.run w b).mono fun e w' ⟨v,F',Lo,l,d,j,c⟩=>⟨v,F',Lo,l,d,j,k _ _ _ c⟩⟩
theorem YQ {f t:Nat}{args:List C}{ec:List C}{bs:List UInt8}{ys:List UInt8}{r:C}(hp:dP ec=true) (hent:∃fn,Tryz.prog.funcs[f]?=some fn/\fn.body.isSome=true/\(fn.name == "runtime.NumGoroutine")=false)
  (hm:bs.length+ys.length<=70368744177664) (rv:Value) (hr:∀F L,Rel F L r rv)
  (h:∀F gb tb s c ex vs,jJ s bs.length c->aF F (inp (BO ex gb tb s 0 bs.length (dM bs))) args vs->CallsA PZ f vs.toArray F (BO ex gb tb s 0 bs.length (dM bs)) (RW ex gb tb bs.length ys.length (dM bs++dM ys) rv)) :
  CallsT PZ f args (K8 t ec bs) (iQ (K8 t ec (bs++ys)) r):=by
 refine⟨fun F Li vs h1 h2 h3=>?_⟩;obtain⟨gb,tb,s,ex,rfl,ht,hm0,hex⟩:=TV h1 h2;refine CallsA.aaP hent gW.aao fun w hs=>?_;obtain⟨c,hrv⟩:=Ci hs (k:=1001) rfl;have hA:=h F gb tb s c ex vs hrv h3;refine⟨hA.ent,gW.aao,fun w hs=>(hA.run w hs).mono ?_⟩;rintro e w' ⟨v,F',Lo,h1,h2,h3,s',c',hs',rfl,rfl⟩;refine⟨_,F',_,h1,h2,h3,?_⟩;have hl:(bs++ys).length=bs.length+ys.length:=yo;rw[<-Iq,<-hl];rw[<-hl] at hs';refine⟨K8 t ec (bs++ys),r,rfl,TW (eI hp (hex.mono h3.le)) ht hs' (by rw[hl];simp only[maxLen];omega),hr _ _,fun i g t0 cs e=>?_,rfl,rfl⟩
 match i with
 | 0 =>
  injection e with e
  injection e with e1 e2 e3
  subst e1 e2;exact⟨_,rfl⟩
 | 1=>injection e with e;cases e
 | i+2=>cases e
theorem Sb:∃fn,Tryz.prog.funcs[101]?=some fn/\fn.body.isSome=true/\(fn.name == "runtime.NumGoroutine")=false:=⟨_,Tryz.func101,by kernel_rfl,by kernel_rfl⟩
theorem TY:∃fn,Tryz.prog.funcs[48]?=some fn/\fn.body.isSome=true/\(fn.name == "runtime.NumGoroutine")=false:=⟨_,Tryz.func48,by kernel_rfl,by kernel_rfl⟩
theorem Gz {F:aD}{a tb:Nat}{s:Value}{n:Nat}{xs ex:List Value}{v:Value}(h:Rel F (inp (BO ex a tb s 0 n xs)) (.own 1000 0) v):v=.pointer (some ⟨a,0,none⟩):=by
 simp only[Rel] at h;obtain⟨g,t,cs,e,rfl⟩:=h;have b:some (Own.box a (tb+1) (s::.int .i64 0::.int .i8 0::ex))=some (.box g t cs):=e;injection b with b
 injection b with e1
 rw[e1]
theorem AO (t:Nat) (a:List C) (b:dP a=true) (bs:List UInt8) (x:UInt8) (d:bs.length+1<=70368744177664) :
  CallsT PZ 101 [.own 1000 0,.int .u8 x.toNat] (K8 t a bs) (iQ (K8 t a (bs++[x])) (.opq 0)):=by
 refine YQ (ys:=[x]) b Sb d .nilIface (fun _ _=>Bd) fun F j tb s c ex vs h f=>?_;simp only[aF] at f;obtain⟨v1,_,rfl,k,l,_,rfl,e,rfl⟩:=f;rw[Gz k];simp only[Rel] at e;rw[e.1];exact TU F j tb s 0 bs.length c x.toNat (dM bs) h d (pu bs) (nG bs)
theorem T9 (t:Nat) (b:List C) (d:dP b=true) (bs ys:List UInt8) (e:bs.length+ys.length<=70368744177664) (k:0<bs.length+ys.length) :
  CallsT PZ 48 [.own 1000 0,.sl (af ys)] (K8 t b bs) (iQ (K8 t b (bs++ys)) (.tup [IC ys.length,.opq 0])):=by
 refine YQ d TY e (.tuple #[.int .i64 ys.length,.nilIface]) (fun F L=>?_) fun F l tb s c ex vs h f=>?_
 ·simp only[Rel,aF];exact⟨[_,_],rfl,_,_,rfl,⟨rfl,by simp[Lit.wf,IntKind.min,IntKind.max,IntKind.signed,IntKind.bits];omega⟩,_,_,rfl,Bd,rfl⟩
 simp only[aF] at f;obtain⟨v1,_,rfl,m,p,_,rfl,j,rfl⟩:=f;rw[Gz m];obtain⟨a,o,rfl,_,_,n⟩:=yQ j;exact Xo F l tb s 0 bs.length c ys.length o a (dM bs) (dM ys) h e k (pu bs) (nG bs) (pu ys) n (nG ys)
end Go.Fr.Tryz
