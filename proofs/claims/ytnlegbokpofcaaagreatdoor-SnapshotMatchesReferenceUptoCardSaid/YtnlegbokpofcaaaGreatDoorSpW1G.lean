/- Part of the proofs of the statements of this seat. -/
import Derived.Test.YtnlegbokpofcaaaGreatDoorFW3
import Derived.Test.YtnlegbokpofcaaaGreatDoorSpCode
set_option maxRecDepth 10000
set_option linter.unusedVariables false
set_option linter.unusedSimpArgs false
namespace Go.Fr.Tryz
open Go Go.RowKit Go.Proofs Go.Fr Go.Fr.T Go.Fr.Api
noncomputable abbrev PZ:Program:=Tryz.prog
def gC:Value:=.iface 150 (.agg #[])
inductive Vl where
 | mk (kind id variant n:Int) (fields:List Vl) (excl:Bool) (path loans:List Int)
structure Ce where
 live:Bool
 arena:Int
 value:Vl
structure Ac where
 number:Int
 routine:Int
 block:Int
 index:Int
 dst:Int
 slots:List Vl
 since:List Int
structure Ln where
 frame:Int
 slot:Int
 excl:Bool
 re:Bool
 over:Bool
structure Tk where
 state:Int
 frames:List Ac
 loans:List Ln
 allocs:Int
 clock:Int
 next:Int
 cells:List Int
structure Ou where
 task:Int
 number:Int
structure Wd where
 cells:List Ce
 arenas:List Bool
 tasks:List Tk
 channels:List (List Vl)
 outputs:List Ou
 made:Int
 dropped:Int
 closed:Int
mutual
def mS:Vl->List C
 | .mk k i v n f e p l=>[IC k,IC i,IC v,IC n,.sl (J9 f),.bool e,.sl (oO p),.sl (oO l)]
def J9:List Vl->List (List C)
 | []=>[]
 | x::xs=>mS x::J9 xs
end
theorem si:∀l:List Vl,J9 l=l.map mS
 | []=>rfl
 | x::xs=>by rw[J9,si xs];rfl
def tY (x:Ce):List C:=.bool x.live::IC x.arena::mS x.value
def DX (l:List Vl):List C:=[.sl (l.map mS)]
def yE (x:Ac):List C:=[IC x.number,IC x.routine,IC x.block,IC x.index,IC x.dst,.sl (x.slots.map mS),.sl (oO x.since)]
def F8 (x:Ln):List C:=[IC x.frame,IC x.slot,.bool x.excl,.bool x.re,.bool x.over]
def vM (x:Tk):List C:=[IC x.state,.sl (x.frames.map yE),.sl (x.loans.map F8),IC x.allocs,IC x.clock,IC x.next,.sl (oO x.cells)]
def GR (x:Ou):List C:=[IC x.task,IC x.number]
def Af (b:Bool):List C:=[.bool b]
def UO (x:Wd):List C:=[.sl (x.cells.map tY),.sl (x.arenas.map Af),.sl (x.tasks.map vM),.sl (x.channels.map DX),.sl (x.outputs.map GR),IC x.made,IC x.dropped,IC x.closed]
theorem aG {bs:List UInt8}:(ah bs).length=bs.length:=by simp[ah]
theorem dM {bs:List UInt8}:∀es∈ah bs,es.length=1:=by
 intro es h;simp only[ah,adi] at h;obtain⟨b,_,rfl⟩:=h;rfl
theorem dI (bs:List UInt8) (n m:Nat):((ah bs).drop n).take m=ah ((bs.drop n).take m):=by simp[ah]
theorem Fit.to {k:IntKind}{n m:Int}{K:Int->Prop}(h:k.wrap n=m) (a:K m):Fit k n K:=⟨by rw[h];exact a⟩
theorem bP {n:Int}(a:-9223372036854775808<=n) (b:n<=9223372036854775807):IntKind.wrap .i64 n=n:=by
 simp only[IntKind.wrap,IntKind.bits,IntKind.signed,adH,ado,ge_iff_le,Nat.reduceSub,Int.reducePow];split<;>omega
theorem m9 {bs:List UInt8}{els:List (List C)}{K:Prop}(n:Nat) (a:els.length=n) (h:n+bs.length<=140737488355328) (k:K):uE els (ah bs) 1 1 K :=
 ⟨dM,by rw[aG,a];simp only[maxLen];omega,by rw[aG,a];omega,k⟩
theorem jK {L L1:TL}{k t sz:Nat}(h:L.get k=none) (a:L1.get k=some (.row t sz [])):Lb L L1 .nils (.rw k):=.inr (.inr (.inr (.inl ⟨rfl,k,t,sz,rfl,h,a⟩)))
theorem WK {L:TL}{K:TL->Prop}(h:K L):fT L K:=by rw[hO];exact h
abbrev Dec (a:Type):=List UInt8->Option (a×List UInt8)
def bound:Int:=1099511627776
def takeD (n:Int):Dec (List UInt8):=fun l=>if 0<=n/\n<=l.length then some (l.take n.toNat,l.drop n.toNat) else none
def Bh (z:Nat):Int:=if z % 2=0 then((z / 2:Nat):Int) else -((z / 2:Nat):Int)-1
def lp:Nat->Nat->Nat->Dec Int
 | 0,_,_,_=>none
 | _+1,_,_,[]=>none
 | f+1,k,z,c::r=>if c.toNat<128 then(if 0<c.toNat\/k=0 then some (Bh (z+c.toNat*128 ^ k),r) else none)
  else lp f (k+1) (z+(c.toNat-128)*128 ^ k) r
def getD:Dec Int:=lp 6 0 0
def gW:Dec Int:=fun l=>match getD l with
 | some (n,r)=>if -bound<=n/\n<=bound then some (n,r) else none
 | none=>none
def Bj:Dec Nat:=fun l=>match getD l with
 | some (n,r)=>if 0<=n/\n<=100000/\n<=r.length then some (n.toNat,r) else none
 | none=>none
def pu:Dec Bool:=fun l=>match gW l with
 | some (n,r)=>if n=0\/n=1 then some (decide (n=1),r) else none
 | none=>none
def bT {a:Type}(f:Dec a):Nat->Dec (List a)
 | 0,l=>some ([],l)
 | n+1,l=>match f l with
  | some (x,r)=>match bT f n r with
   | some (xs,r)=>some (x::xs,r)
   | none=>none
  | none=>none
def gN {a b:Type}(f:Dec a) (k:a->Dec b):Dec b:=fun l=>match f l with
 | none=>none
 | some (x,r)=>k x r
theorem bn {a b:Type}{f:Dec a}{k:a->Dec b}{l:List UInt8}(h:f l=none):gN f k l=none:=by simp only[gN,h]
theorem aD {a b:Type}{f:Dec a}{k:a->Dec b}{l r:List UInt8}{x:a}(h:f l=some (x,r)):gN f k l=k x r:=by simp only[gN,h]
def xU {a:Type}(x:a):Dec a:=fun l=>some (x,l)
def eu {a:Type}(f:Dec a):Dec (List a):=gN Bj fun n=>bT f n
def GS:Nat->Dec Vl
 | 0=>fun _=>none
 | d+1=>gN (bT gW 4) fun a=>gN (eu (GS d)) fun f=>gN (bT pu 1) fun e=>gN (eu gW) fun p=>gN (eu gW) fun l=>xU (.mk (a.getD 0 0) (a.getD 1 0) (a.getD 2 0) (a.getD 3 0) f (e.getD 0 false) p l)
def Iw:Dec Vl:=GS 60
def SS:Dec Ce:=gN (bT pu 1) fun b=>gN (bT gW 1) fun a=>gN Iw fun v=>xU ⟨b.getD 0 false,a.getD 0 0,v⟩
def WL:Dec (List Vl):=eu Iw
def SW:Dec Ac:=gN (bT gW 5) fun a=>gN WL fun s=>gN (eu gW) fun c=>xU ⟨a.getD 0 0,a.getD 1 0,a.getD 2 0,a.getD 3 0,a.getD 4 0,s,c⟩
def UQ:Dec Ln:=gN (bT gW 2) fun a=>gN (bT pu 3) fun b=>xU ⟨a.getD 0 0,a.getD 1 0,b.getD 0 false,b.getD 1 false,b.getD 2 false⟩
def Oo:Dec Tk:=gN (bT gW 1) fun s=>gN (eu SW) fun f=>gN (eu UQ) fun l=>gN (bT gW 3) fun a=>gN (eu gW) fun c=>xU ⟨s.getD 0 0,f,l,a.getD 0 0,a.getD 1 0,a.getD 2 0,c⟩
def WM:Dec Ou:=gN (bT gW 2) fun a=>xU ⟨a.getD 0 0,a.getD 1 0⟩
def WN:Dec Bool:=gN (bT pu 1) fun b=>xU (b.getD 0 false)
def Fm:Dec Wd:=gN (eu SS) fun c=>gN (eu WN) fun a=>gN (eu Oo) fun t=>gN (eu WL) fun h=>gN (eu WM) fun o=>gN (bT gW 3) fun m=>xU ⟨c,a,t,h,o,m.getD 0 0,m.getD 1 0,m.getD 2 0⟩
theorem Ci {n:Int}{bs:List UInt8}(h:0<=n) (k:n<=bs.length):takeD n bs=some (bs.take n.toNat,bs.drop n.toNat):=by simp[takeD,h,k]
abbrev Enc:=List UInt8×Bool
def wJ:Enc:=([],true)
def sj (b:Bool):Enc:=([],b)
def br (a b:Enc):Enc:=(a.1++b.1,a.2&&b.2)
def bN (z:Nat):List UInt8:=if h:z<128 then[UInt8.ofNat z] else UInt8.ofNat (128+z % 128)::bN (z / 128)
termination_by z
decreasing_by omega
def zz (n:Int):Nat:=if n<0 then(-2*n-1).toNat else(2*n).toNat
def aL {a:Type}(f:a->Enc):List a->Enc
 | []=>wJ
 | x::l=>br (f x) (aL f l)
structure Kd where
 t:Nat
 tb:Nat
 num:Int->Enc
 siz:Int->Enc
 deep:Bool
def AQ (n:Int):List UInt8:=(List.range 8).map fun k=>UInt8.ofNat ((n.fdiv (2 ^ (8*k))).emod 256).toNat
def kW:Kd:=⟨102,108,fun n=>(bN (zz n),decide (-1099511627776<=n)&&decide (n<=1099511627776)),fun n=>(bN (zz n),decide (n<=100000)),false⟩
def kL:Kd:=⟨123,124,fun n=>(AQ n,true),fun n=>(AQ n,true),true⟩
section
variable (k:Kd)
def iS (b:Bool):Enc:=k.num (if b=true then 1 else 0)
def bI {a:Type}(f:a->Enc) (l:List a):Enc:=br (k.siz l.length) (aL f l)
mutual
def ni:Vl->Int->Enc
 | .mk a b c n f e p l,d=>br (sj (decide (0<d)||k.deep)) (br (aL k.num [a,b,c,n]) (br (br (k.siz f.length) (vN f (d-1))) (br (aL (iS k) [e]) (br (bI k k.num p) (bI k k.num l)))))
def vN:List Vl->Int->Enc
 | [],_=>wJ
 | x::xs,d=>br (ni x d) (vN xs d)
end
theorem nU (d:Int):∀l:List Vl,vN k l d=aL (fun x=>ni k x d) l
 | []=>rfl
 | x::xs=>by rw[vN,nU d xs];rfl
def oQ (v:Vl):Enc:=ni k v 60
def Fp (x:Ce):Enc:=br (aL (iS k) [x.live]) (br (aL k.num [x.arena]) (oQ k x.value))
def GU (l:List Vl):Enc:=bI k (oQ k) l
def Fq (x:Ac):Enc:=br (aL k.num [x.number,x.routine,x.block,x.index,x.dst]) (br (GU k x.slots) (bI k k.num x.since))
def Fs (x:Ln):Enc:=br (aL k.num [x.frame,x.slot]) (aL (iS k) [x.excl,x.re,x.over])
def Du (x:Tk):Enc:=br (aL k.num [x.state]) (br (bI k (Fq k) x.frames) (br (bI k (Fs k) x.loans) (br (aL k.num [x.allocs,x.clock,x.next]) (bI k k.num x.cells))))
def F9 (x:Ou):Enc:=aL k.num [x.task,x.number]
def Iy (b:Bool):Enc:=aL (iS k) [b]
def mQ (x:Wd):Enc:=br (bI k (Fp k) x.cells) (br (bI k (Iy k) x.arenas) (br (bI k (Du k) x.tasks) (br (bI k (GU k) x.channels) (br (bI k (F9 k) x.outputs) (aL k.num [x.made,x.dropped,x.closed])))))
end
mutual
/-- how deep a value is -/
def GV:Vl->Nat
 | .mk _ _ _ _ f _ _ _=>Ft f+1
def Ft:List Vl->Nat
 | []=>0
 | x::xs=>max (GV x) (Ft xs)
end
theorem Ag:∀{l:List Vl}{x:Vl},x∈l->GV x<=Ft l
 | y::l,x,h=>by
  rw[Ft];rcases acQ.1 h with rfl | h
  ·exact Nat.le_max_left _ _
  ·exact acO (Ag h) (Nat.le_max_right _ _)
def WB (t:Nat) (bs:List UInt8):List TO:=[.box t [.rw 1001,IC 0,.int .i8 0],.row 5 1 (ah bs)]
def GW (t:Nat) (bs:List UInt8):TL:=[(1000,.box t [.rw 1001,IC 0,.int .i8 0]),(1001,.row 5 1 (ah bs))]
def Yj (k:Kd) (f:Nat) (args:List C) (e:Enc) (x:C):Prop:=∀bs,bs.length+e.1.length<=70368744177664 ->
 CallsTX PZ f args (WB k.tb bs) (fun Mo c=>e.2=true/\Mo=WB k.tb (bs++e.1)/\c=x) (fun v=>v=gC/\e.2=false)
abbrev gj (k:Kd) (f:Nat) (args:List C) (e:Enc):Prop:=Yj k f args e (.tup [])
def RB (bs:List UInt8):TO:=.box 88 [.sl (ah bs)]
def Rh {a:Type}(f:Nat) (args:List C) (bs:List UInt8) (o:Option (a×List UInt8)) (cell:a->C):Prop :=
 CallsTX PZ f args [RB bs] (fun Mo c=>∃y r,o=some (y,r)/\Mo=[RB r]/\c=cell y) (fun v=>v=gC/\o=none)
def iD {b:Type}(f:Nat) (fi ca:List C) (a:Dec b) (z:List C) (cs:b->List C):Prop:=∀(t:Nat) (pre post:List C) (bs:List UInt8),cW pre->cW post ->
 CallsTX PZ f (fi++.ifo none 86 1000 0::.own 1001 pre.length::ca) [RB bs,.win t pre z post] (fun Mo c=>∃x r,a bs=some (x,r)/\Mo=[RB r,.win t pre (cs x) post]/\c=.tup []) (fun v=>v=gC/\a bs=none)
def SX (b:Bool):Prop:=CallsTX PZ 36 [.bool b] [] (fun Mo c=>b=true/\Mo=[]/\c=.tup []) (fun v=>v=gC/\b=false)
section
variable {L:TL}{ρ:bg}
theorem wK {PS:qX}{b:Bool}{args:List C}{K:TL->bg->C->Prop}(h:SX b) (f:args=[.bool b]) (d:b=false->PS.ps gC) (k:b=true->K L ρ (.tup [])) (a:mF L [] PS.hb=true:=by rfl):qo PZ PS 36 args L ρ K:=by
 subst f;refine .mk ⟨[],[],[],L,[],_,_,.inl rfl,rfl,rfl,rfl,rfl,rfl,a,h,fun v ⟨e,h⟩=>e▸d h,?_⟩;rintro v Mo ⟨j,rfl,rfl⟩ l c;exact⟨rfl,k j⟩
theorem cD {R:List TO->C->Prop}(ko:List Nat) {Lin Mo Lo:List TO}{v x:C}(c:L.sub ko=some Mo) (a:(T.bR ko&&aY Lin (List.range' 1000 Lin.length) ko)=true) (b:Mo.map (TO.aa8 (C.ren (cn ko 1000)))=Lo) (e:v.abF.ren (cn ko 1000)=x) (h:R Lo x):o7 Lin L v R:=by
 simp only[acR] at a;exact⟨[],ko,L,v,v,Mo,rfl,.inl ⟨rfl,rfl⟩,c,a.1,a.2,fun _=>by rw[b,e];exact h⟩
theorem nB {R:List TO->C->Prop}(b ko:List Nat) {Lin:List TO}{v:C}(d:xN b L (fun _=>.any) [v] fun L _ vs=>∃c Mo,vs=[c]/\L.sub ko=some Mo/\(T.bR ko&&aY Lin (List.range' 1000 Lin.length) ko)=true/\R (Mo.map (TO.aa8 (C.ren (cn ko 1000)))) (c.abF.ren (cn ko 1000))):o7 Lin L v R:=by
 refine⟨b,ko,?_⟩;refine vG.frzK_imp d ?_;rintro L ρ vs ⟨c,Mo,rfl,f,a,e⟩;simp only[acR] at a;exact⟨L,c,c,Mo,rfl,.inl ⟨rfl,rfl⟩,f,a.1,a.2,fun _=>e⟩
theorem cH (ks:List Nat) {PS:qX}{f:Nat}{args a:List C}{K:TL->bg->C->Prop}{R:List TO->C->Prop}{Pp:Value->Prop}{Lin Lin':List TO}(h:CallsTX PZ f a Lin' R Pp) (m:L.sub ks=some Lin)
  (d:(T.bR ks&&T.lN L ks ks&&aY Lin ks ks)=true) (l:(args.map fun c=>c.abk.ren (cn ks 1000))=a) (n:Lin.map (TO.aa8 (C.ren (cn ks 1000)))=Lin') (j:∀v,Pp v->PS.ps v)
  (k:∀v Mo,R Mo v->Wf v->(∀o∈Mo,o.Wf)->ks.length=Mo.length/\K (((L.aa7 ks).kills (rowsOf L ks)).puts ks (Mo.map (TO.aa8 (C.ren (bF ks))))) (fQ (rowsOf L ks) ρ) (v.ren (bF ks)).slt) (p:mF L ks PS.hb=true:=by rfl):qo PZ PS f args L ρ K:=by
 subst l n;simp only[acR] at d;obtain⟨⟨b,e⟩,c3⟩:=d;exact .mk ⟨[],ks,ks,L,Lin,_,_,.inl rfl,m,b,b,e,c3,p,h,j,k⟩
theorem cS (ks:List Nat) {PS:qX}{d:List Nat}{f:Nat}{args a:List C}{K:TL->bg->C->Prop}{R:List TO->C->Prop}{Pp:Value->Prop}{Lin Lin':List TO}(h:CallsTX PZ f a Lin' R Pp) (n:L.sub ks=some Lin)
  (b:(T.bR ks&&wY ks d&&aY Lin ks ks)=true) (m:(args.map fun c=>c.abk.ren (cn ks 1000))=a) (p:Lin.map (TO.aa8 (C.ren (cn ks 1000)))=Lin') (j:∀v,Pp v->PS.ps v)
  (k:∀v Mo,R Mo v->Wf v->(∀o∈Mo,o.Wf)->ks.length=Mo.length/\K (((L.aa7 ks).kills (rowsOf L ks)).puts ks (Mo.map (TO.aa8 (C.ren (bF ks))))) (fQ (rowsOf L ks) ρ) (v.ren (bF ks)).slt) (q:mF L ks PS.hb=true:=by rfl):nH PZ PS d f args L ρ K:=by
 subst m p;simp only[acR] at b;obtain⟨⟨l,e⟩,c3⟩:=b;exact⟨ks,Lin,_,_,n,l,e,c3,q,h,j,k⟩
end
theorem vV (b:Bool):SX b:=by
 refine aC Tryz.func36 P9 rfl fun _ _=>?_;cases b
 ·exact WA rfl ⟨rfl,rfl⟩
 ·exact cD [] rfl rfl rfl rfl ⟨rfl,rfl,rfl⟩
end Go.Fr.Tryz
namespace Go.Fr.Tryz
open Go Go.RowKit Go.Proofs Go.Fr Go.Fr.T
theorem St.reslice {F:aJ}{L:Loc}{w:World}{k g t sz n n' c:Nat}{xs:List Value}(m:St F L w) (h:L.get k=some (.row (.slice (some ⟨g,0,none⟩) n c) t sz n xs)) (j:n'<=c) :
  ∃ys,ys.length=n'*sz/\(∀i,i<n*sz->i<n'*sz->ys[i]?=xs[i]?)/\St F (L.set k (.row (.slice (some ⟨g,0,none⟩) n' c) t sz n' ys)) w:=by
 have l:=m.own k _ h;simp only[Own.ok] at l;obtain⟨x,⟨e,_⟩ | ⟨o,cap,a,e,s,q,v,p,b,r⟩⟩:=l
 ·cases e
 ·injection e with e1 e2 e3
  injection e1 with e1
  injection e1 with e1 _ _
  subst e1 e3;have u:n'*sz<=c*sz:=Nat.mul_le_mul_right _ j;refine⟨a.toList.take (n'*sz),?_,fun i hi f=>?_,?_⟩
  ·rw[ac2,Array.length_toList,b];omega
  ·rw[<-r,List.getElem?_take_of_lt hi,List.getElem?_take_of_lt f]
  ·refine m.turn h (o':=.row (.slice (some ⟨g,0,none⟩) n' c) t sz n' (a.toList.take (n'*sz))) ?_ (fun _ _ _=>rfl) (fun o d=>.inl d);exact⟨by rw[ac2,Array.length_toList,b];omega,.inr ⟨g,c,a,rfl,s,q,j,p,b,rfl⟩⟩
theorem CallsA.acD {P:Program}{f:FuncId}{args:Array Value}{F:aJ}{Lin:List Own}{R R':aJ->List Own->Value->Prop}(h:CallsA P f args F Lin R) (m:∀F G L v,F.le G->R' F L v->R' G L v)
  (d:∀F' Lo v w',St F' (inp Lo) w'->R F' Lo v->∃Lo',St F' (inp Lo') w'/\(∀b,(inp Lo').owns b->(inp Lo).owns b)/\R' F' Lo' v):CallsA P f args F Lin R':=by
 refine⟨h.ent,m,fun w k=>(h.run w k).mono ?_⟩;rintro e w' ⟨v,F',Lo,rfl,n,a,o⟩;obtain⟨Lo',l,c,j⟩:=d F' Lo v w' n o;exact⟨v,F',Lo',rfl,l,⟨a.le,a.os,a.tape,a.output,a.size,a.same,a.frz,fun b hb=>a.own b (c b hb)⟩,j⟩
def kJ (s:Value) (n c:Nat):Prop:=(s=.slice none 0 0/\n=0/\c=0)\/∃g,s=.slice (some ⟨g,0,none⟩) n c/\n<=c/\c<=maxLen
theorem kJ.form {s:Value}{n c:Nat}(h:kJ s n c):∃a,s=.slice a n c/\n<=c/\c<=maxLen/\(a=none->n=0/\c=0):=by
 rcases h with⟨rfl,rfl,rfl⟩ | ⟨g,rfl,b,d⟩
 ·exact⟨none,rfl,ac4 _,adg _,fun _=>⟨rfl,rfl⟩⟩
 ·exact⟨_,rfl,b,d,fun e=>by cases e⟩
theorem Dv {F:aJ}{L:Loc}{w:World}{k t sz n:Nat}{v:Value}{xs:List Value}(j:St F L w) (f:L.get k=some (.row v t sz n xs)):∃c,kJ v n c:=by
 have a:=j.own k _ f;simp only[Own.ok] at a;obtain⟨s,⟨e,l⟩ | ⟨b,cap,h,e,q,o,m,d,r,p⟩⟩:=a
 ·exact⟨0,.inl ⟨e,l,rfl⟩⟩
 ·exact⟨cap,.inr ⟨b,e,m,d⟩⟩
def BO (ex:List Value) (a tb:Nat) (s:Value) (lr:Int) (n:Nat) (xs:List Value):List Own:=[.box a (tb+1) (s::.int .i64 0::.int .i8 lr::ex),.row s 5 1 n xs]
theorem Nf {ex:List Value}{a tb:Nat}{s:Value}{lr:Int}{n:Nat}{xs:List Value}:inp (BO ex a tb s lr n xs)=[(1000,.box a (tb+1) (s::.int .i64 0::.int .i8 lr::ex)),(1001,.row s 5 1 n xs)]:=rfl
theorem Ng {Lin:List Own}(svs:List SV) (n:Nat) (a:∀v∈svs,(∀k off,v=.own k off->∃g ty cs,(inp Lin).get k=some (.box g ty cs))/\(∀d j,v=.el d j->d≠none)) :
  aN (inp Lin) (uY 0 svs) {tmps:=(svs.map (conc (inp Lin))).toArray++Array.replicate (n-(svs.map (conc (inp Lin))).toArray.size) undef,defers:=[]}:=by
 have c:∀t,uY 0 svs t=.v undef\/uY 0 svs t∈svs:=by
  intro t;rw[rI];simp only[adg,adk,Nat.sub_zero];cases e:svs[t]? with
  | none=>exact .inl rfl
  | some v=>exact .inr (acS e)
 refine⟨fun t=>?_,fun t k off e=>?_,fun t d j e=>?_⟩
 ·rw[rI];simp only[adg,adk,Nat.sub_zero,adf];cases e:svs[t]? with
  | some v =>
   have f:t<svs.length:=(acP.1 e).1;rw[Array.getElem?_append_left (by simpa using f)];simp[e]
  | none =>
   have h:svs.length<=t:=adC.1 e;rw[Array.getElem?_append_right (by simpa using h)];simp only[Array.getElem?_replicate,Option.getD_none,conc];split<;>rfl
 ·rcases c t with b | b
  ·rw[b] at e;cases e
  ·exact(a _ b).1 k off e
 ·rcases c t with b | b
  ·rw[b] at e;cases e
  ·exact(a _ b).2 d j e
variable {ex:List Value}
theorem tu {c tb:Nat}{s:Value}{lr:Int}{n:Nat}{xs:List Value}{svs:List Value}:∀v∈(SV.own 1000 0::svs.map SV.v),(∀k off,v=.own k off->∃g ty cs,(inp (BO ex c tb s lr n xs)).get k=some (.box g ty cs))/\(∀b j,v=.el b j->b≠none):=by
 intro v a;rcases acQ.1 a with rfl | a
 ·exact⟨fun k off e=>by injection e with e1 e2;subst e1;exact⟨_,_,_,rfl⟩,fun _ _ e=>by cases e⟩
 ·obtain⟨u,_,rfl⟩:=adi.1 a;exact⟨fun _ _ e=>(by cases e),fun _ _ e=>(by cases e)⟩
theorem Ri {s:Value}{n c h:Nat}{a:Option Addr}(b:kJ s n c) (e:s=.slice a n c):gU a c 0 h 1=.slice a h c:=by
 rcases b with⟨rfl,rfl,rfl⟩ | ⟨g,rfl,_,_⟩
 ·injection e with e1 e2 e3
  subst e1;simp[gU]
 ·injection e with e1 e2 e3
  subst e1;simp[gU,Addr.add]
def R43 (ex:List Value) (a tb:Nat) (s:Value) (lr:Int) (n c m:Nat) (xs:List Value):aJ->List Own->Value->Prop:=fun _ Lo v =>
 (∃s' ys,ys.length=m/\kJ s' (n+m) c/\Lo=BO ex a tb s' lr (n+m) (xs++ys)/\v=.tuple #[.int .i64 n,.bool true]) \/
 (c<n+m/\Lo=BO ex a tb s lr n xs/\v=.tuple #[.int .i64 0,.bool false])
theorem aaz (F:aJ) (d tb:Nat) (s:Value) (lr:Int) (n c m:Nat) (xs:List Value) (r:kJ s n c) (hm:n+m<=140737488355328) :
  CallsA PZ 88 #[.pointer (some ⟨d,0,none⟩),.int .i64 m] F (BO ex d tb s lr n xs) (R43 ex d tb s lr n c m xs):=by
 obtain⟨a,rfl,y,l,ha⟩:=r.form;unfold maxLen at l;have h1:CallsA PZ 88 #[.pointer (some ⟨d,0,none⟩),.int .i64 m] F (BO ex d tb (.slice a n c) lr n xs) (fun _ Lo v =>
   (n+m<=c/\Lo=[.box d (tb+1) (.slice a (n+m) c::.int .i64 0::.int .i8 lr::ex),.row (.slice a n c) 5 1 n xs]/\v=.tuple #[.int .i64 n,.bool true]) \/
   (c<n+m/\Lo=BO ex d tb (.slice a n c) lr n xs/\v=.tuple #[.int .i64 0,.bool false])):=by
  refine fG (svs:=[.own 1000 0,.v (.int .i64 m)]) rfl QO rfl rfl (tu (svs:=[.int .i64 m])) (fun _ _ _ _ _ h=>h) ?_;refine bf ?_;refine aF (fun h=>?_) (fun h=>?_)
  ·refine bf ?_;refine qL.mk (by omega) (by omega) (by omega) ?_;have e:((n:Int)+m).toNat=n+m:=by omega
   have e2:gU a c 0 ((n:Int)+m).toNat 1=.slice a (n+m) c:=by rw[e];exact Ri r rfl
   exact⟨[1000,1001],_,rfl,by decide,.inl ⟨by omega,j3 (fun q=>[Own.box d (tb+1) (q::.int .i64 0::.int .i8 lr::ex),.row (.slice a n c) 5 1 n xs]) e2,rfl⟩⟩
  ·exact⟨[1000,1001],_,rfl,by decide,.inr ⟨by omega,rfl,rfl⟩⟩
 refine CallsA.acD h1 (fun _ _ _ _ _ h=>h) ?_;rintro F' Lo v w' f (⟨j,rfl,rfl⟩ | ⟨t,rfl,rfl⟩)
 ·rcases r with⟨e,rfl,rfl⟩ | ⟨g,e,_,_⟩
  ·injection e with e1 _ _
   subst e1;have:m=0:=by omega
   subst this;exact⟨_,f,fun b h=>h,.inl ⟨.slice none 0 0,[],rfl,.inl ⟨rfl,rfl,rfl⟩,by simp[BO],rfl⟩⟩
  ·injection e with e1 _ _
   subst e1;have w:(inp [.box d (tb+1) (.slice (some ⟨g,0,none⟩) (n+m) c::.int .i64 0::.int .i8 lr::ex),.row (.slice (some ⟨g,0,none⟩) n c) 5 1 n xs]).get 1001=some (.row (.slice (some ⟨g,0,none⟩) n c) 5 1 n xs):=rfl;have u:xs.length=n:=by
    have:=(f.own _ _ w).1;simpa using this
   obtain⟨ys,z,y2,y3⟩:=St.reslice f w j;have p:ys=xs++ys.drop n:=by
    apply adt;intro i
    by_cases hi:i<n
    ·rw[y2 i (by omega) (by omega),acY (by omega)]
    ·rw[ac7 (by omega),adj,u];congr 1;omega
   refine⟨BO ex d tb (.slice (some ⟨g,0,none⟩) (n+m) c) lr (n+m) ys,y3,fun b hb=>?_,.inl ⟨_,ys.drop n,by rw[ads,z];omega,.inr ⟨g,rfl,j,by unfold maxLen;omega⟩,by rw[<-p],rfl⟩⟩;obtain⟨k,o,e,hb⟩:=hb;rw[Nf] at e;simp only[Loc.get] at e;split at e
   ·rename_i x;injection e with e;subst e
    exact⟨1000,_,rfl,hb⟩
   ·split at e
    ·injection e with e;subst e
     exact⟨1001,_,rfl,hb⟩
    ·cases e
 ·exact⟨_,f,fun b h=>h,.inr ⟨t,rfl,rfl⟩⟩
variable {ex:List Value}
def aaA:aI:=.reg [.op (some 8) (.mov (.t 0)) none,
  .op (some 9) (.len (.t 8)) none,
  .op (some 10) (.mov (.t 1)) none,
  .op (some 11) (.bin .add (.t 9) (.t 10)) none,
  .op (some 5) (.mov (.t 11)) none]
def aaB:aI:=.seq (.reg [.op (some 12) (.mov (.t 5)) none,
  .op (some 13) (.mov (.t 0)) none,
  .op (some 14) (.capa (.t 13)) none,
  .op (some 15) (.bin .mul (.c (.int .i64 2)) (.t 14)) none,
  .op (some 16) (.bin .lss (.t 12) (.t 15)) none])
 (.cond (.t 16)
 (.reg [.op (some 17) (.mov (.t 0)) none,
   .op (some 18) (.capa (.t 17)) none,
   .op (some 19) (.bin .mul (.c (.int .i64 2)) (.t 18)) none,
   .op (some 5) (.mov (.t 19)) none])
 .skip)
def aaC:aI:=.reg [.op (some 20) (.mov (.t 5)) none,
  .op (some 21) (.appZ 5 1 .u8 (.c (.slice none 0 0)) (.t 20)) none,
  .op (some 6) (.mov (.t 21)) none]
def aaD:aI:=.seq (.reg [.op (some 22) (.mov (.t 6)) none,
  .op (some 23) (.mov (.t 0)) none,
  .op (some 24) (.copy 5 1 (.t 22) (.t 23)) none,
  .op (some 7) (.mov (.t 24)) none])
 (.seq (.reg [.op (some 25) (.mov (.t 6)) none,
  .op (some 26) (.mov (.t 7)) none,
  .op (some 27) (.slc 1 (.t 25) none (some (.t 26))) none,
  .op (some 4) (.mov (.t 27)) none])
 .ret)
theorem piece {P:Program}{A:cE}{c:Code}{sc:aI}(u:low P A c=some sc) {N:dP}{F:aJ}{L:Loc}{ρ:Env}{a:Act}{w:World}(t:St F L w) (y:aN L ρ a) (r:a.tmps.size=A.n)
  (x:iT P sc (fun _ _ _ _=>False) (fun _ _ _=>False) N F L ρ) {Q:Exit->Act->World->Prop}
  (k:∀d w' F' L' ρ',St F' L' w'->aN L' ρ' d->d.tmps.size=A.n->d.defers=a.defers->Step F L w F' L' w'->N F' L' ρ'->Q .normal d w'):c.wp P Q a w:=by
 refine wp_mono (qH c u t y r x) ?_;intro e d w' h;cases e with
 | normal=>obtain⟨F',L',ρ',o,f,p,l,m,q,b⟩:=h;exact k _ _ _ _ _ o f p l m b
 | exit j=>obtain⟨F',L',ρ',o,f,p,l,m,q,b⟩:=h;exact b.elim
 | ret=>obtain⟨F',L',ρ',o,f,p,l,m,q,b⟩:=h;exact b.elim
 | panic ch =>
  obtain⟨v,_,F',L',q1,q2,q3,z,q5,s⟩:=h;exact s.elim
 | _=>exact h.elim
theorem pY {ρ:Env}{k:Nat}{x:SV}(h:ρ k=x):put (some k) x ρ=ρ:=by
 funext j
 rw[put_eq];simp only[];split
 ·rename_i e;rw[e,h]
 ·rfl
def Kb:cE:={n:=28}
theorem Bk (w:World) :
  CallsD Tryz.prog 135 #[] .returning w fun e b w'=>e=.returned (.tuple #[])/\b=.returning/\w'=w:=by
 have d:Tryz.f135.ntmps=3:=by kernel_rfl
 have f:Tryz.f135.results=#[]:=by kernel_rfl
 refine callsD_of_wpS Tryz.func135 rfl fun a cs c=>?_;apply wpS_seq;apply wpS_region;simp[wpOpsS,go_sem,recoverD,c,d,Exit.thenS];refine wpS_cond (t:=false) (by simp[Act.eval,Array.replicate]) ?_;simp only[acZ,adz];refine wpS_of_wp (wp_skip ?_);cases a
 simp_all [bodyPostS,results]
theorem WO (F:aJ) (a:Option Addr) (n c m:Nat) (xs:List Value) (hn:n<=c) (hc:c<n+m) (hm:n+m<=70368744177664) (hx:xs.length=n) (ab:cC F a 0 xs\/(n=0/\xs=[])) (h1:∀u∈xs,u.oneCell'=true) :
  CallsA PZ 114 #[.slice a n c,.int .i64 m] F [] (fun _ Lo v=>∃l,kJ v n l/\n+m<=l/\Lo=[.row v 5 1 n xs]):=by
 have bD:Tryz.f114.ntmps=28:=by kernel_rfl
 refine⟨⟨_,Tryz.func114,by kernel_rfl,by kernel_rfl⟩,fun _ _ _ _ _ h=>h,fun w hs=>?_⟩
 suffices hall:∀RR:Ending->World->Prop,(∀v F' Lo w',St F' (inp Lo) w'->Step F (inp []) w F' (inp Lo) w'->(∃l,kJ v n l/\n+m<=l/\Lo=[.row v 5 1 n xs])->RR (.returned v) w')->Calls Tryz.prog 114 #[.slice a n c,.int .i64 m] w RR from
  hall _ fun v F' Lo w' h1 h2 h3=>⟨v,F',Lo,rfl,h1,h2,h3⟩
 intro RR bv;refine calls_of_wp_defers Tryz.func114 rfl ?_;rw[bD];have bk:=Ng (Lin:=[]) [.v (.slice a n c),.v (.int .i64 m)] 28 (zw [.slice a n c,.int .i64 m]);refine wp_seq (wp_region (o8 (A:=Kb) (r:=0) (List.range 1) (ss:=[.op (some 4) (.mov (.c (.slice none 0 0))) none]) (by kernel_rfl) hs bk (by simp[Kb])
  (K:=fun F' L' ρ'=>F'=F/\L'=inp []/\ρ'=put (some 4) (.v (.slice none 0 0)) (uY 0 [.v (.slice a n c),.v (.int .i64 m)])) ⟨rfl,rfl,rfl⟩ ?_))
 rintro a1 w1 ⟨F1,L1,cs,bz,aa,ap,ag,ay,_,rfl,rfl,rfl⟩;simp only[Exit.then];refine wp_seq (wp_region ?_);obtain⟨tm,df⟩:=a1;simp only at ap ag;subst ag;have cl:∀w:World,(Instr.makeFunc (.func 135) #[] #[]).run Tryz.prog w=.ok (.func (.func 135) #[] #[]) w:=fun _=>rfl;simp[wpOps,go_sem,Exit.then,Act.eval];refine .inl ?_;have s:aN (inp []) (put (some 4) (.v (.slice none 0 0)) (uY 0 [.v (.slice a n c),.v (.int .i64 m)])) {tmps:=tm,defers:=[{target:=.fn (.func 135) #[],args:=#[]}]}:=⟨aa.eq,aa.own,aa.el⟩;refine wp_seq (piece (A:=Kb) (sc:=aaA) (by kernel_rfl) bz s ap (N:=fun F' L' ρ'=>F'=F1/\L'=inp []/\ρ' 5=.v (.int .i64 (n+m:Nat))/\ρ' 0=.v (.slice a n c)) ?_ ?_)
 ·refine Fit.to (m:=((n+m:Nat):Int)) (by rw[bP (by omega) (by omega)];omega) ?_;exact⟨rfl,rfl,rfl,rfl⟩
 rintro a2 w2 F2 L2 ca az s bs bl ao ⟨rfl,rfl,q,p⟩;simp only[Exit.then];rw[<-pY q,<-pY (ρ:=put _ _ ca) (k:=0) (x:=.v (.slice a n c)) (by rw[put_eq];simpa using p)] at s;generalize z:(if n+m<2*c then 2*c else n+m)=M;have cy:n+m<=M/\M<=140737488355328:=by subst z;split<;>omega
 refine wp_seq (piece (A:=Kb) (sc:=aaB) (by kernel_rfl) az s bs (N:=fun F' L' ρ'=>F'=F2/\L'=inp []/\ρ' 5=.v (.int .i64 M)/\ρ' 0=.v (.slice a n c)) ?_ ?_)
 ·refine Fit.to (m:=((2*c:Nat):Int)) (by rw[bP (by omega) (by omega)];omega) ?_;refine aF (fun h=>?_) (fun h=>?_)
  ·refine Fit.to (m:=((2*c:Nat):Int)) (by rw[bP (by omega) (by omega)];omega) ?_;exact⟨rfl,rfl,(by rw[<-z,o6 (by omega)];rfl),rfl⟩
  ·exact⟨rfl,rfl,(by rw[<-z,s8 (by omega)];rfl),rfl⟩
 clear q p
 rintro a3 w3 F3 L3 cb bj am bd bt ac ⟨rfl,rfl,q,p⟩;simp only[Exit.then];rw[<-pY q,<-pY (ρ:=put _ _ cb) (k:=0) (x:=.v (.slice a n c)) (by rw[put_eq];simpa using p)] at am;refine wp_seq (piece (A:=Kb) (sc:=aaC) (by kernel_rfl) bj am bd (N:=fun F' L' ρ'=>F'=F3/\∃ad l,L'=[(21,.row (.slice (some ad) M l) 5 1 M (List.replicate M (.int .u8 0)))]/\ρ' 6=.v (.slice (some ad) M l)/\ρ' 0=.v (.slice a n c)) ?_ ?_)
 ·refine Kw.mk ⟨21,0,[],.inr ⟨rfl,rfl,rfl,rfl⟩,by unfold maxLen;omega,by omega,fun v hv=>?_⟩;obtain⟨a',c',rfl,bu⟩:=hv;cases a' with
  | none=>exact s6 (bu rfl) (by omega)
  | some ad =>
   rw[Nat.zero_add];exact⟨rfl,ad,c',rfl,rfl,rfl⟩
 clear q p
 rintro a4 w4 F4 L4 bi al ar bB bm ak ⟨rfl,ad,l,rfl,q,p⟩;simp only[Exit.then];obtain⟨ci,bx⟩:=Dv al (k:=21) rfl;rcases bx with⟨e,_⟩ | ⟨g,e,cw,y⟩
 ·cases e
 injection e with e1 e2 e3
 injection e1 with e1
 subst e1 e3;rw[<-pY q,<-pY (ρ:=put _ _ bi) (k:=0) (x:=.v (.slice a n c)) (by rw[put_eq];simpa using p)] at ar;have bp:bq (List.replicate M (Value.int .u8 0)) (0*1) xs=xs++List.replicate (M-n) (.int .u8 0):=by
  simp[bq,hx]
 refine wp_mono (qH (A:=Kb) _ (sc:=aaD) (by kernel_rfl) al ar bB (E:=fun _ _ _ _=>False) (N:=fun _ _ _=>False)
  (R:=fun F' L' ρ'=>F'=F4/\L'=[(21,.row (.slice (some ⟨g,0,none⟩) M l) 5 1 M (xs++List.replicate (M-n) (.int .u8 0)))]/\ρ' 4=.v (.slice (some ⟨g,0,none⟩) n l)) ?_) ?_
 ·refine CB.mk (.inl ⟨21,M,_,_,_,⟨g,0,none⟩,l,l,0,n,a,c,xs,rfl,rfl,rfl,by omega,rfl,by rw[Nat.min_eq_left (by omega),hx,Nat.mul_one],?_,h1,?_⟩)
  ·rw[Nat.min_eq_left (by omega)];exact ab
  rw[Nat.min_eq_left (by omega),bp];refine qL.mk (by omega) (by omega) (by omega) ?_;exact⟨rfl,rfl,j3 SV.v (Ri (n:=M) (.inr ⟨g,rfl,by omega,y⟩) rfl)⟩
 intro e a5 w5 h;cases e with
 | normal=>obtain⟨F',L',ρ',h1,h2,h3,h4,h5,h6,h7⟩:=h;exact h7.elim
 | exit j=>obtain⟨F',L',ρ',h1,h2,h3,h4,h5,h6,h7⟩:=h;exact h7.elim
 | panic ch =>
  obtain⟨v,_,F',L',q1,q2,q3,q4,q5,q6⟩:=h;exact q6.elim
 | ret =>
  obtain⟨F',L',ρ',aw,bo,cp,an,av,_,rfl,rfl,h4⟩:=h;rw[bm,bt,bl] at an;show Leaves Tryz.prog Tryz.f114 a5.tmps RR a5.defers .returning w5;rw[an];refine leaves_cons (f:=135) (args:=#[]) (by simp) (by simp[invoke]) ?_;refine(Bk _).mono ?_;rintro e u' w6 ⟨rfl,rfl,rfl⟩;obtain⟨vs,h5,rfl⟩:=xk (P:=Tryz.prog) (fn:=Tryz.f114) (rs:=[(4,none)]) (K:=fun vs=>vs=[.slice (some ⟨g,0,none⟩) n l]) aw bo (by kernel_rfl) (by
   simp only[mU,h4];rfl)
  obtain⟨ys,y1,y2,y3⟩:=St.reslice (n':=n) aw (k:=21) rfl (by omega);have ba:ys=xs:=by
   apply adt;intro i
   by_cases hi:i<n
   ·rw[y2 i (by omega) (by omega),acY (by omega)]
   ·rw[ac3 (by omega),ac3 (by omega)]
  subst ba;refine⟨_,h5,bv _ F' [.row (.slice (some ⟨g,0,none⟩) n l) 5 1 n ys] w6 ?_ ?_ ⟨l,.inr ⟨g,rfl,by omega,y⟩,by omega,rfl⟩⟩
  ·exact y3.handed (ks:=[21]) rfl (by simp)
  ·have d:=(((ay.trans ao).trans ac).trans ak).trans av;refine⟨d.le,d.os,d.tape,d.output,d.size,d.same,d.frz,fun b hb=>?_⟩;refine d.own b ?_;obtain⟨k,o,e,hb⟩:=hb;rw[bE] at e;split at e
   case isFalse=>cases e
   rename_i hk;have t:=acS e;simp only[adr] at t;subst t;exact⟨21,_,rfl,hb⟩
 | _=>exact h.elim
variable {ex:List Value}
theorem CallsA.acH {P:Program}{f:FuncId}{args:Array Value}{F:aJ}{v:Value}{t sz n:Nat}{xs:List Value}{R:aJ->List Own->Value->Prop}(hent:∃fn,P.funcs[f]?=some fn/\fn.body.isSome=true/\(fn.name == "runtime.NumGoroutine")=false)
  (hmono:∀F G L v,F.le G->R F L v->R G L v) (h:∀F',F.le F'->Kz F' v sz n xs->CallsA P f args F' [] R):CallsA P f args F [.row v t sz n xs] R:=by
 refine⟨hent,hmono,fun w hs=>?_⟩;have he:aN (inp [.row v t sz n xs]) (fun _=>.v undef) {tmps:=#[],defers:=[]}:=⟨fun t=>by simp[conc],fun _ _ _ e=>(by cases e),fun _ _ _ e=>(by cases e)⟩;obtain⟨F',L',k1,k2,k3,k4,k5⟩:=pI (k:=1000) hs he (KK:=fun F' L'=>L'=inp []/\F.le F'/\Kz F' v sz n xs) ⟨v,t,sz,n,xs,rfl,fun F' h1 h2=>⟨rfl,h1,h2⟩⟩;obtain⟨rfl,k5,k6⟩:=(⟨k4,k5⟩:_/\_);refine Calls.mono ((h F' k5 k6).run w k1) ?_;rintro e w' ⟨v,F2,Lo,rfl,h1,h2,h3⟩;exact⟨v,F2,Lo,rfl,h1,k3.trans h2,h3⟩
theorem UR:∃fn,Tryz.prog.funcs[114]?=some fn/\fn.body.isSome=true/\(fn.name == "runtime.NumGoroutine")=false:=⟨_,Tryz.func114,by kernel_rfl,by kernel_rfl⟩
theorem WQ (F:aJ) (a:Option Addr) (n c m:Nat) (xs:List Value) (d:n<=c) (l:c<n+m) (j:n+m<=70368744177664) (o:xs.length=n) (k:∀u∈xs,u.oneCell'=true) :
  CallsA PZ 114 #[.slice a n c,.int .i64 m] F [.row (.slice a n c) 5 1 n xs] (fun _ Lo v=>∃b,kJ v n b/\n+m<=b/\Lo=[.row v 5 1 n xs]):=by
 refine CallsA.acH UR (fun _ _ _ _ _ h=>h) fun F' _ f=>WO F' a n c m xs d l j o ?_ k;rcases f with⟨e,rfl,rfl⟩ | ⟨p,q,e,h,_⟩
 ·exact .inr ⟨rfl,rfl⟩
 ·injection e with e1 _ _
  subst e1;exact .inl h
theorem WR (F:aJ) (d tb:Nat) (s:Value) (lr:Int) (n c:Nat) (xs:List Value) (e:kJ s n c) :
  CallsA PZ 112 #[.pointer (some ⟨d,0,none⟩)] F (BO ex d tb s lr n xs) (fun _ Lo v=>Lo=BO ex d tb s lr n xs/\v=.int .i64 n):=by
 obtain⟨a,rfl,f,b,j⟩:=e.form;unfold maxLen at b;refine fG (svs:=[.own 1000 0]) rfl Mn rfl rfl (tu (svs:=[])) (fun _ _ _ _ _ h=>h) ?_;refine Fit.to (m:=(n:Int)) (by rw[bP (by omega) (by omega)];omega) ?_;exact⟨[1000,1001],_,rfl,by decide,rfl,rfl⟩
theorem GY {f:Nat}{vs:List Value}{F:aJ}{L:Loc}{K:aJ->Loc->Value->Prop}{c tb n:Nat}{s:Value}{lr:Int}{xs:List Value}{R:aJ->List Own->Value->Prop}(m:L=inp (BO ex c tb s lr n xs)) (h:CallsA PZ f vs.toArray F (BO ex c tb s lr n xs) R)
  (l:∀v F' Lo,F.le F'->R F' Lo v->∃s' b n' a,Lo=BO ex c tb s' b n' a/\K F' (inp (BO ex c tb s' b n' a)) v):eX PZ f vs F L K:=by
 subst m;refine⟨[1000,1001],[1000,1001],_,_,rfl,by decide,by decide,fun k d=>.inl d,h,fun v F' Lo j o=>?_⟩;obtain⟨s',b,n',a,rfl,p⟩:=l v F' Lo j o;refine⟨rfl,fun k g t cs d e=>?_,p⟩;simp only[acQ,List.not_mem_nil,or_false] at d;rcases d with rfl | rfl
 ·have e':(some (Own.box c (tb+1) (s::.int .i64 0::.int .i8 lr::ex)))=some (.box g t cs):=e;injection e' with e'
  injection e' with e1 e2 e3
  subst e1 e2;exact⟨_,rfl⟩
 ·have e':(some (Own.row s 5 1 n xs))=some (.box g t cs):=e;injection e' with e'
  cases e'
theorem IA {F:aJ}{L:Loc}{K:aJ->Loc->Value->Prop}{a tb n c:Nat}{s:Value}{lr:Int}{xs:List Value}(f:L=inp (BO ex a tb s lr n xs)) (h:kJ s n c)
  (e:∀F',F.le F'->K F' (inp (BO ex a tb s lr n xs)) (.int .i64 n)):eX PZ 112 [.pointer (some ⟨a,0,none⟩)] F L K :=
 GY f (WR F a tb s lr n c xs h) fun v F' Lo b d=>⟨s,lr,n,xs,d.1,d.2▸e F' b⟩
theorem GZ {F:aJ}{L:Loc}{K:aJ->Loc->Value->Prop}{a tb n c m:Nat}{s:Value}{lr:Int}{xs:List Value}(h:L=inp (BO ex a tb s lr n xs)) (j:kJ s n c) (l:n+m<=140737488355328)
  (k:∀F' s' ys,F.le F'->ys.length=m->kJ s' (n+m) c->K F' (inp (BO ex a tb s' lr (n+m) (xs++ys))) (.tuple #[.int .i64 n,.bool true]))
  (f:∀F',F.le F'->c<n+m->K F' (inp (BO ex a tb s lr n xs)) (.tuple #[.int .i64 0,.bool false])):eX PZ 88 [.pointer (some ⟨a,0,none⟩),.int .i64 m] F L K :=
 GY h (aaz F a tb s lr n c m xs j l) fun v F' Lo b o=>by
  rcases o with⟨s',ys,d,e,rfl,rfl⟩ | ⟨d,rfl,rfl⟩
  ·exact⟨_,_,_,_,rfl,k F' s' ys b d e⟩
  ·exact⟨_,_,_,_,rfl,f F' b d⟩
theorem Fw {F:aJ}{L:Loc}{K:aJ->Loc->Value->Prop}{n c m:Nat}{a:Option Addr}{s:Value}{xs:List Value}(f:kJ s n c) (k:L.get 1001=some (.row s 5 1 n xs)) (y:c<n+m) (w:n+m<=70368744177664) (hx:xs.length=n) (x:∀u∈xs,u.oneCell'=true) (r:s=.slice a n c)
  (o:∀b F' d,F.le F'->kJ (.slice b n d) n d->n+m<=d->K F' (L.set 1001 (.row (.slice b n d) 5 1 n xs)) (.slice b n d)):CallXDPt PZ (fun _ _ _=>False) [] 114 [gU a c 0 n 1,.int .i64 m] F L K:=by
 subst r;obtain⟨_,_,l,_⟩:=f.form;rw[Ri f rfl];refine⟨[1001],[.row (.slice a n c) 5 1 n xs],_,fun _ _ _=>False,by simp only[Loc.sub,k],by simp,by simp,((WQ F a n c m xs (by omega) y w hx x).toX (Pp:=fun _=>False)).toS,fun v F' L' Lo _ _ _ h=>h.elim,fun v F' Lo q z=>?_⟩;obtain⟨d,j,p,rfl⟩:=z;obtain⟨b,rfl,_⟩:=j.form;refine⟨rfl,fun i g t cs e=>?_,fun _=>o b F' d q j p⟩;cases i with
 | zero=>injection e with e;cases e
 | succ i=>cases e
theorem SY {L:Loc}{ss:List aB}(h:(ss.all fun s=>(vn s).isNone)=true):∀s∈ss,∀k,vn s=some k->L.get k=none:=by
 intro s a k e;have:=ac5.1 h s a;rw[e] at this;cases this
def SZ (ex:List Value) (b tb:Nat) (lr:Int) (n m:Nat) (xs:List Value):aJ->List Own->Value->Prop:=fun _ Lo v =>
 ∃s' a ys,ys.length=m/\kJ s' (n+m) a/\Lo=BO ex b tb s' lr (n+m) (xs++ys)/\v=.int .i64 n
def Raw (ex:List Value) (b tb:Nat) (lr:Int) (n m:Nat) (xs:List Value) (Lo:List Own):Prop :=
 ∃a c,kJ (.slice a n c) n c/\n+m<=c/\Lo=[.box b (tb+1) (gU a c 0 (n+m) 1::.int .i64 0::.int .i8 lr::ex),.row (.slice a n c) 5 1 n xs]
theorem Nh {j tb n m:Nat}{lr:Int}{xs:List Value}{Lo:List Own}{F:aJ}{w:World}(h:Raw ex j tb lr n m xs Lo) (d:St F (inp Lo) w) :
  ∃Lo',St F (inp Lo') w/\(∀b,(inp Lo').owns b->(inp Lo).owns b)/\∃s' y ys,ys.length=m/\kJ s' (n+m) y/\Lo'=BO ex j tb s' lr (n+m) (xs++ys):=by
 obtain⟨a,c,r,f,rfl⟩:=h;rw[Ri r rfl] at d ⊢;rcases r with⟨e,rfl,rfl⟩ | ⟨g,e,z,s⟩
 ·injection e with e1 _ _
  subst e1;have:m=0:=by omega
  subst this;exact⟨_,d,fun b h=>h,.slice none 0 0,0,[],rfl,.inl ⟨rfl,rfl,rfl⟩,by simp[BO]⟩
 ·injection e with e1 _ _
  subst e1;have q:(inp [.box j (tb+1) (.slice (some ⟨g,0,none⟩) (n+m) c::.int .i64 0::.int .i8 lr::ex),.row (.slice (some ⟨g,0,none⟩) n c) 5 1 n xs]).get 1001=some (.row (.slice (some ⟨g,0,none⟩) n c) 5 1 n xs):=rfl;have p:xs.length=n:=by
   have:=(d.own _ _ q).1;simpa using this
  obtain⟨ys,u,v,x⟩:=St.reslice d q f;have l:ys=xs++ys.drop n:=by
   apply adt;intro i
   by_cases hi:i<n
   ·rw[v i (by omega) (by omega),acY (by omega)]
   ·rw[ac7 (by omega),adj,p];congr 1;omega
  refine⟨BO ex j tb (.slice (some ⟨g,0,none⟩) (n+m) c) lr (n+m) ys,x,fun b hb=>?_,_,c,ys.drop n,by rw[ads,u];omega,.inr ⟨g,rfl,f,s⟩,by rw[<-l]⟩;obtain⟨k,o,e,hb⟩:=hb;rw[Nf] at e;simp only[Loc.get] at e;split at e
  ·rename_i t;injection e with e;subst e
   exact⟨1000,_,rfl,hb⟩
  ·split at e
   ·injection e with e;subst e
    exact⟨1001,_,rfl,hb⟩
   ·cases e
theorem SZ.acD {f c tb n m:Nat}{lr:Int}{xs:List Value}{args:Array Value}{F:aJ}{Lin:List Own}(h:CallsA PZ f args F Lin (fun F' Lo v=>SZ ex c tb lr n m xs F' Lo v\/(Raw ex c tb lr n m xs Lo/\v=.int .i64 n))):CallsA PZ f args F Lin (SZ ex c tb lr n m xs):=by
 refine CallsA.acD h (fun _ _ _ _ _ h=>h) ?_;rintro F' Lo v w' a (h | ⟨h,rfl⟩)
 ·exact⟨Lo,a,fun b h=>h,h⟩
 ·obtain⟨Lo',k,d,s',l,ys,j,e,rfl⟩:=Nh h a;exact⟨_,k,d,s',l,ys,j,e,rfl,rfl⟩
set_option maxHeartbeats 1000000 in
theorem aaE (F:aJ) (e tb:Nat) (lr:Int) (m:Nat) (q:m<=70368744177664) :
  CallsA PZ 89 #[.pointer (some ⟨e,0,none⟩),.int .i64 m] F (BO ex e tb (.slice none 0 0) lr 0 []) (SZ ex e tb lr 0 m []):=by
 have d:kJ (.slice none 0 0) 0 0:=.inl ⟨rfl,rfl,rfl⟩;refine SZ.acD ?_;refine fG (svs:=[.own 1000 0,.v (.int .i64 m)]) rfl Io rfl rfl (tu (svs:=[.int .i64 m])) (fun _ _ _ _ _ h=>h) ?_;refine IA rfl d fun F1 k=>?_;refine GZ rfl d (by omega) (fun F2 s' ys c o a=>?_) (fun F2 c r=>?_)
 ·exact⟨[1000,1001],_,rfl,by decide,.inl ⟨s',0,ys,o,a,rfl,rfl⟩⟩
 refine aF (fun h=>?_) (fun h=>?_)
 ·refine vY.mk (by omega) (by omega) (by decide) (by decide) fun g=>?_;exact⟨[1000,41],_,rfl,by decide,.inl ⟨.slice (some ⟨g,0,none⟩) m 64,64,(List.replicate m [Value.int .u8 0]).flatten,by simp,.inr ⟨g,by rw[Nat.zero_add m],by omega,by decide⟩,by rw[Nat.zero_add m];rfl,rfl⟩⟩
 refine kK.mk (by omega) ?_;refine Fit.to (m:=0) (by decide) ?_;refine Fit.to (m:=0) (by decide) ?_;refine aF (fun a=>?_) (fun a=>?_)
 ·omega
 refine Fit.to (m:=9223372036854775807) (by decide) ?_;refine Fit.to (m:=9223372036854775807-m) (by rw[bP (by omega) (by omega)]) ?_;refine aF (fun p=>?_) (fun p=>?_)
 ·omega
 refine⟨SY (by kernel_rfl),?_⟩;refine⟨_,rfl,⟨_,rfl,⟨_,rfl,⟨_,rfl,⟨_,rfl,⟨_,rfl,⟨_,rfl,⟨_,rfl,⟨_,rfl,⟨_,rfl,?_⟩⟩⟩⟩⟩⟩⟩⟩⟩⟩;refine qL.mk (by omega) (by omega) (by omega) ?_;refine⟨_,rfl,⟨_,rfl,⟨_,rfl,⟨_,rfl,⟨_,rfl,⟨_,rfl,?_⟩⟩⟩⟩⟩⟩;refine Fit.to (m:=(m:Int)) (by rw[bP (by omega) (by omega)];omega) ?_;refine Fw d rfl (by omega) (by omega) rfl (by simp) rfl fun b F3 f n j l=>?_;refine⟨_,rfl,⟨_,rfl,⟨_,rfl,?_⟩⟩⟩;refine Fit.to (m:=((0+m:Nat):Int)) (by rw[bP (by omega) (by omega)];omega) ?_;refine qL.mk (by omega) (by omega) (by omega) ?_;exact⟨[1000,1001],_,rfl,by decide,.inr ⟨⟨b,f,j,by omega,rfl⟩,rfl⟩⟩
theorem aaF (F:aJ) (j tb g:Nat) (lr:Int) (n c m:Nat) (xs:List Value) (p:n<=c) (a:c<=maxLen) (z:n+m<=70368744177664) (y:xs.length=n) (k:∀u∈xs,u.oneCell'=true) :
  CallsA PZ 89 #[.pointer (some ⟨j,0,none⟩),.int .i64 m] F (BO ex j tb (.slice (some ⟨g,0,none⟩) n c) lr n xs) (SZ ex j tb lr n m xs):=by
 have f:kJ (.slice (some ⟨g,0,none⟩) n c) n c:=.inr ⟨g,rfl,p,a⟩;refine SZ.acD ?_;refine fG (svs:=[.own 1000 0,.v (.int .i64 m)]) rfl Io rfl rfl (tu (svs:=[.int .i64 m])) (fun _ _ _ _ _ h=>h) ?_;refine IA rfl f fun F1 r=>?_;refine aF (fun w=>?_) (fun w=>?_) <;>
 ·refine GZ rfl f (by omega) (fun F2 s' ys e k d=>?_) (fun F2 e hc=>?_)
  ·exact⟨[1000,1001],_,rfl,by decide,.inl ⟨s',c,ys,k,d,rfl,rfl⟩⟩
  have l:c<=9223372036854775807:=a;refine kK.mk (by omega) ?_;refine Fit.to (m:=((c / 2:Nat):Int)) (by rw[show((c:Int).tdiv 2)=((c / 2:Nat):Int) from rfl,bP (by omega) (by omega)]) ?_;refine Fit.to (m:=((c / 2:Nat):Int)-n) (by rw[bP (by omega) (by omega)]) ?_;refine aF (fun d=>?_) (fun d=>?_)
  ·omega
  refine Fit.to (m:=9223372036854775807-c) (by rw[bP (by omega) (by omega)]) ?_;refine Fit.to (m:=9223372036854775807-c-m) (by rw[bP (by omega) (by omega)]) ?_;refine aF (fun x=>?_) (fun x=>?_)
  ·omega
  refine⟨SY (by kernel_rfl),?_⟩;refine⟨_,rfl,⟨_,rfl,⟨_,rfl,⟨_,rfl,⟨_,rfl,⟨_,rfl,⟨_,rfl,⟨_,rfl,⟨_,rfl,⟨_,rfl,?_⟩⟩⟩⟩⟩⟩⟩⟩⟩⟩;refine qL.mk (by omega) (by omega) (by omega) ?_;refine⟨_,rfl,⟨_,rfl,⟨_,rfl,⟨_,rfl,⟨_,rfl,⟨_,rfl,?_⟩⟩⟩⟩⟩⟩;refine Fit.to (m:=(m:Int)) (by rw[bP (by omega) (by omega)];omega) ?_;refine Fw f rfl (by omega) (by omega) y k rfl fun b F3 o t q s=>?_;refine⟨_,rfl,⟨_,rfl,⟨_,rfl,?_⟩⟩⟩;refine Fit.to (m:=((n+m:Nat):Int)) (by rw[bP (by omega) (by omega)];omega) ?_;refine qL.mk (by omega) (by omega) (by omega) ?_;exact⟨[1000,1001],_,rfl,by decide,.inr ⟨⟨b,o,q,by omega,rfl⟩,rfl⟩⟩
theorem aaG (F:aJ) (a tb:Nat) (s:Value) (lr:Int) (n c m:Nat) (xs:List Value) (j:kJ s n c) (e:n+m<=70368744177664) (b:xs.length=n) (f:∀u∈xs,u.oneCell'=true) :
  CallsA PZ 89 #[.pointer (some ⟨a,0,none⟩),.int .i64 m] F (BO ex a tb s lr n xs) (SZ ex a tb lr n m xs):=by
 rcases j with⟨rfl,rfl,rfl⟩ | ⟨g,rfl,d,h⟩
 ·obtain rfl:xs=[]:=ade b;exact aaE F a tb lr m (by omega)
 ·exact aaF F a tb g lr n c m xs d h e b f
variable {ex:List Value}
theorem kJ.some {a:Option Addr}{n c:Nat}(h:kJ (.slice a n c) n c) (b:0<n):∃g,a=.some ⟨g,0,none⟩:=by
 rcases h with⟨_,rfl,_⟩ | ⟨g,e,_⟩
 ·omega
 ·injection e with e
  exact⟨g,e⟩
theorem IB {F:aJ}{L:Loc}{K:aJ->Loc->Value->Prop}{b tb n c m:Nat}{s:Value}{lr:Int}{xs:List Value}(h:L=inp (BO ex b tb s lr n xs)) (o:kJ s n c) (q:n+m<=140737488355328) (j:0<n+m)
  (p:∀F' g d ys,F.le F'->ys.length=m->n+m<=d->d<=maxLen->K F' (inp (BO ex b tb (.slice (some ⟨g,0,none⟩) (n+m) d) lr (n+m) (xs++ys))) (.tuple #[.int .i64 n,.bool true]))
  (f:∀F',F.le F'->c<n+m->K F' (inp (BO ex b tb s lr n xs)) (.tuple #[.int .i64 0,.bool false])):eX PZ 88 [.pointer (some ⟨b,0,none⟩),.int .i64 m] F L K :=
 GZ h o q (fun F' s' ys l r e=>by
  obtain⟨a,rfl,t,k,_⟩:=e.form;obtain⟨g,rfl⟩:=e.some j;exact p F' g c ys l r t k) f
theorem IE {F:aJ}{L:Loc}{K:aJ->Loc->Value->Prop}{d tb n c m:Nat}{s:Value}{lr:Int}{xs:List Value}(j:L=inp (BO ex d tb s lr n xs)) (o:kJ s n c) (q:n+m<=70368744177664) (x:xs.length=n) (t:∀u∈xs,u.oneCell'=true) (k:0<n+m)
  (p:∀F' g b ys,F.le F'->ys.length=m->n+m<=b->b<=maxLen->K F' (inp (BO ex d tb (.slice (some ⟨g,0,none⟩) (n+m) b) lr (n+m) (xs++ys))) (.int .i64 n)):eX PZ 89 [.pointer (some ⟨d,0,none⟩),.int .i64 m] F L K :=
 GY j (aaG F d tb s lr n c m xs o q x t) fun v F' Lo l w=>by
  obtain⟨s',b,ys,r,e,rfl,rfl⟩:=w;obtain⟨a,rfl,h,f,_⟩:=e.form;obtain⟨g,rfl⟩:=e.some k;exact⟨_,_,_,_,rfl,p F' g b ys l r h f⟩
def RW (ex:List Value) (b tb n m:Nat) (ys:List Value) (r:Value):aJ->List Own->Value->Prop:=fun _ Lo v=>∃s' a,kJ s' (n+m) a/\Lo=BO ex b tb s' 0 (n+m) ys/\v=r
theorem Ai {xs ys zs:List Value}{n:Nat}(b:xs.length=n) (a:ys.length=zs.length):bq (xs++ys) n zs=xs++zs:=by
 subst b;simp[bq,a]
theorem Ni {F:aJ}{L:Loc}{j k:Nat}{K:Loc->Prop}{v:Value}{t m c:Nat}{xs:List Value}{a:Addr}(b:Int) (h:L.get k=some (.row v t 1 m xs)) (d:v=.slice (some a) m c) (l:j+1<=xs.length) (e:K (L.set k (.row v t 1 m (bq xs j [.int .u8 b])))):uW F L (some a) j [.int .u8 b] K :=
 ⟨.inl ⟨k,v,t,1,m,xs,a,c,h,rfl,d,l,fun u f=>by rw[adr.1 f];rfl,e⟩⟩
theorem WT (F:aJ) (f tb:Nat) (s:Value) (lr:Int) (n c:Nat) (x:Int) (xs:List Value) (p:kJ s n c) (y:n+1<=70368744177664) (j:xs.length=n) (w:∀u∈xs,u.oneCell'=true) :
  CallsA PZ 101 #[.pointer (some ⟨f,0,none⟩),.int .u8 x] F (BO ex f tb s lr n xs) (RW ex f tb n 1 (xs++[.int .u8 x]) .nilIface):=by
 refine fG (svs:=[.own 1000 0,.v (.int .u8 x)]) rfl Mk rfl rfl (tu (svs:=[.int .u8 x])) (fun _ _ _ _ _ h=>h) ?_;have b:∀(g a:Nat) (ys:List Value),ys.length=1->bq (xs++ys) (((n:Int).toNat)*1) [.int .u8 x]=xs++[.int .u8 x]:=fun g a ys d=>by
  rw[Nat.mul_one];exact Ai j d
 refine IB (s:=s) (lr:=0) (m:=1) rfl p (by omega) (by omega) (fun F1 g a ys t d o l=>?_) (fun F1 t z=>?_)
 ·refine D7.mk (fun e=>by cases e) (by omega) (by omega) ?_;refine Ni (k:=1001) x rfl rfl (by rw[yo,j,d];omega) ?_;exact⟨[1000,1001],_,rfl,by decide,_,a,.inr ⟨g,rfl,o,l⟩,j3 (fun q=>BO ex f tb (.slice (some ⟨g,0,none⟩) (n+1) a) 0 (n+1) q) (b g a ys d),rfl⟩
 ·refine IE (s:=s) (lr:=0) (m:=1) rfl p (by omega) j w (by omega) fun F2 g a ys r d o l=>?_;refine D7.mk (fun e=>by cases e) (by omega) (by omega) ?_;refine Ni (k:=1001) x rfl rfl (by rw[yo,j,d];omega) ?_;exact⟨[1000,1001],_,rfl,by decide,_,a,.inr ⟨g,rfl,o,l⟩,j3 (fun q=>BO ex f tb (.slice (some ⟨g,0,none⟩) (n+1) a) 0 (n+1) q) (b g a ys d),rfl⟩
theorem Rj {g c n p:Nat}(h:n+p<=c):∃j,j+p<=n+p/\(p≠0->j=n)/\gU (some ⟨g,0,none⟩) c n (n+p) 1=.slice (some ((⟨g,0,none⟩:Addr).add (j*1))) p (c-n):=by
 by_cases e:c=n
 ·refine⟨0,by omega,fun a=>s6 (by omega) a,?_⟩;simp only[gU,o6 e,Nat.add_sub_cancel_left];rfl
 ·refine⟨n,ac4 _,fun _=>rfl,?_⟩;simp only[gU,s8 e,Nat.add_sub_cancel_left,Option.map]
theorem IG {F:aJ}{L:Loc}{K:Loc->Nat->Prop}{g a n p d:Nat}{l h:Nat}{pa:Option Addr}{xs ys news:List Value}(k:L.get 1001=some (.row (.slice (some ⟨g,0,none⟩) (n+p) a) 5 1 (n+p) (xs++ys))) (c:l=n) (s:h=n+p) (v:n+p<=a)
  (x:xs.length=n) (y:ys.length=p) (r:news.length=p) (b:cC F pa 0 news\/(p=0/\news=[])) (f:∀u∈news,u.oneCell'=true)
  (o:K (L.set 1001 (.row (.slice (some ⟨g,0,none⟩) (n+p) a) 5 1 (n+p) (xs++news))) p):CB F L 5 1 (gU (some ⟨g,0,none⟩) a l h 1) (.slice pa p d) K:=by
 subst c s;obtain⟨j,t,m,w⟩:=Rj (g:=g) v;refine⟨.inl ⟨1001,p,_,_,_,⟨g,0,none⟩,a,a-l,j,p,pa,d,news,k,rfl,w,t,rfl,by rw[Nat.min_self,r,Nat.mul_one],by rw[Nat.min_self];exact b,f,?_⟩⟩;rw[Nat.min_self];have e:bq (xs++ys) (j*1) news=xs++news:=by
  rw[Nat.mul_one]
  by_cases q:p=0
  ·obtain rfl:news=[]:=ade (by omega);obtain rfl:ys=[]:=ade (by omega);simp[bq]
  ·rw[m q];exact Ai x (by omega)
 rw[e];exact o
theorem aaH (F:aJ) (l tb:Nat) (s:Value) (lr:Int) (n c p f:Nat) (pa:Option Addr) (xs news:List Value) (t:kJ s n c) (y:n+p<=70368744177664) (r:0<n+p) (o:xs.length=n) (x:∀u∈xs,u.oneCell'=true)
  (w:news.length=p) (a:cC F pa 0 news\/(p=0/\news=[])) (q:∀u∈news,u.oneCell'=true) :
  CallsA PZ 48 #[.pointer (some ⟨l,0,none⟩),.slice pa p f] F (BO ex l tb s lr n xs) (RW ex l tb n p (xs++news) (.tuple #[.int .i64 p,.nilIface])):=by
 refine fG (svs:=[.own 1000 0,.v (.slice pa p f)]) rfl Qj rfl rfl (tu (svs:=[.slice pa p f])) (fun _ _ _ _ _ h=>h) ?_;refine IB (s:=s) (lr:=0) rfl t (by omega) r (fun F1 g m ys k e b j=>?_) (fun F1 k z=>?_)
 ·refine qL.mk (by omega) (by omega) (by omega) ?_;refine IG rfl (by omega) (by omega) b o e w (a.imp (fun h=>h.mono k) id) q ?_;exact⟨[1000,1001],_,rfl,by decide,_,m,.inr ⟨g,rfl,b,j⟩,rfl,rfl⟩
 ·refine IE (s:=s) (lr:=0) rfl t (by omega) o x r fun F2 g m ys d e b j=>?_;refine qL.mk (by omega) (by omega) (by omega) ?_;refine IG rfl (by omega) (by omega) b o e w (a.imp (fun h=>(h.mono k).mono d) id) q ?_;exact⟨[1000,1001],_,rfl,by decide,_,m,.inr ⟨g,rfl,b,j⟩,rfl,rfl⟩
def Nj (t:Nat) (a:List C) (bs:List UInt8):List TO:=[.box t (.rw 1001::IC 0::.int .i8 0::a),.row 5 1 (ah bs)]
theorem WU {F:aJ}{Li:List Own}{t:Nat}{d:List C}{bs:List UInt8}(hl:Li.length=(Nj t d bs).length) (h:ep F (inp Li) (jQ (Nj t d bs))) :
  ∃j tb s ex,Li=BO ex j tb s 0 bs.length (dX bs)/\tyOk t j (tb+1)/\bs.length<=maxLen/\aK F (inp Li) d ex:=by
 match Li,hl with
 | [k,f],_ =>
  have y:dW F (inp [k,f]) (.box t (.rw 1001::IC 0::.int .i8 0::d)) k:=h 1000;have w:dW F (inp [k,f]) (.row 5 1 (ah bs)) f:=h 1001;cases k with
  | row=>exact y.elim
  | box j tb us =>
   cases f with
   | box=>exact w.elim
   | row v t' b n xs =>
    obtain⟨rfl,rfl,hn,⟨hm,a,c,rfl,hc⟩,hr⟩:=w;have hx:=lq hr;subst hx;have o:n=bs.length:=by rw[hn];simp[ah]
    subst o;obtain⟨x,z⟩:=y;obtain⟨tb,rfl⟩:∃m,tb=m+1:=Nat.exists_eq_succ_of_ne_zero x.2.2;simp only[aK,Rel] at z;obtain⟨v1,_,rfl,q,v2,_,rfl,r,v3,ex,rfl,u,p⟩:=z;obtain⟨a',c',t',b,n',l,_,hg⟩:=q;have e:some (Own.row (.slice a bs.length c) 5 1 bs.length (dX bs))=some (.row v1 t' b n' l):=hg;injection e with e
    injection e with e1
    subst e1;obtain⟨rfl,_⟩:=r;obtain⟨rfl,_⟩:=u;exact⟨j,tb,_,ex,rfl,x,hm,p⟩
theorem WV {F:aJ}{t d tb c:Nat}{s:Value}{f:List C}{ex:List Value}{bs:List UInt8}(b:aK F (inp (BO ex d tb s 0 bs.length (dX bs))) f ex) (h:tyOk t d (tb+1)) (l:kJ s bs.length c) (m:bs.length<=maxLen):ep F (inp (BO ex d tb s 0 bs.length (dX bs))) (jQ (Nj t f bs)):=by
 obtain⟨a,rfl,r,o,n⟩:=l.form;intro k;rw[dh,bE];split
 case isFalse=>trivial
 rename_i p
 match q:k-1000 with
 | 0 =>
  refine⟨h,?_⟩;simp only[aK,Rel];exact⟨_,_,rfl,⟨a,c,5,1,bs.length,dX bs,rfl,rfl⟩,_,_,rfl,⟨rfl,by decide⟩,_,_,rfl,⟨rfl,by decide⟩,b⟩
 | 1=>exact⟨rfl,rfl,by simp[ah],⟨m,a,c,rfl,fun e=>(n e).1⟩,qR bs⟩
 | j+2=>trivial
theorem CallsA.acL {P:Program}{f:FuncId}{args:Array Value}{F:aJ}{Lin:List Own}{R:aJ->List Own->Value->Prop}(hent:∃fn,P.funcs[f]?=some fn/\fn.body.isSome=true/\(fn.name == "runtime.NumGoroutine")=false)
  (hmono:∀F G L v,F.le G->R F L v->R G L v) (h:∀w,St F (inp Lin) w->CallsA P f args F Lin R):CallsA P f args F Lin R:=⟨hent,hmono,fun w hs=>(h w hs).run w hs⟩
theorem wrT {f t:Nat}{args:List C}{ec:List C}{bs:List UInt8}{ys:List UInt8}{r:C}(hp:gJ ec=true) (hent:∃fn,Tryz.prog.funcs[f]?=some fn/\fn.body.isSome=true/\(fn.name == "runtime.NumGoroutine")=false)
  (hm:bs.length+ys.length<=70368744177664) (rv:Value) (hr:∀F L,Rel F L r rv)
  (h:∀F gb tb s c ex vs,kJ s bs.length c->aK F (inp (BO ex gb tb s 0 bs.length (dX bs))) args vs->CallsA PZ f vs.toArray F (BO ex gb tb s 0 bs.length (dX bs)) (RW ex gb tb bs.length ys.length (dX bs++dX ys) rv)) :
  CallsT PZ f args (Nj t ec bs) (gL (Nj t ec (bs++ys)) r):=by
 refine⟨fun F Li vs h1 h2 h3=>?_⟩;obtain⟨gb,tb,s,ex,rfl,ht,hm0,hex⟩:=WU h1 h2;refine CallsA.acL hent iN.abM fun w hs=>?_;obtain⟨c,hrv⟩:=Dv hs (k:=1001) rfl;have hA:=h F gb tb s c ex vs hrv h3;refine⟨hA.ent,iN.abM,fun w hs=>(hA.run w hs).mono ?_⟩;rintro e w' ⟨v,F',Lo,h1,h2,h3,s',c',hs',rfl,rfl⟩;refine⟨_,F',_,h1,h2,h3,?_⟩;have hl:(bs++ys).length=bs.length+ys.length:=yo;rw[<-Ka,<-hl];rw[<-hl] at hs';refine⟨Nj t ec (bs++ys),r,rfl,WV (jb hp (hex.mono h3.le)) ht hs' (by rw[hl];simp only[maxLen];omega),hr _ _,fun i g t0 cs e=>?_,rfl,rfl⟩
 match i with
 | 0 =>
  injection e with e
  injection e with e1 e2 e3
  subst e1 e2;exact⟨_,rfl⟩
 | 1=>injection e with e;cases e
 | i+2=>cases e
theorem UU:∃fn,Tryz.prog.funcs[101]?=some fn/\fn.body.isSome=true/\(fn.name == "runtime.NumGoroutine")=false:=⟨_,Tryz.func101,by kernel_rfl,by kernel_rfl⟩
theorem WW:∃fn,Tryz.prog.funcs[48]?=some fn/\fn.body.isSome=true/\(fn.name == "runtime.NumGoroutine")=false:=⟨_,Tryz.func48,by kernel_rfl,by kernel_rfl⟩
theorem II {F:aJ}{a tb:Nat}{s:Value}{n:Nat}{xs ex:List Value}{v:Value}(h:Rel F (inp (BO ex a tb s 0 n xs)) (.own 1000 0) v):v=.pointer (some ⟨a,0,none⟩):=by
 simp only[Rel] at h;obtain⟨g,t,cs,e,rfl⟩:=h;have e':some (Own.box a (tb+1) (s::.int .i64 0::.int .i8 0::ex))=some (.box g t cs):=e;injection e' with e'
 injection e' with e1
 rw[e1]
theorem Ck (t:Nat) (a:List C) (b:gJ a=true) (bs:List UInt8) (x:UInt8) (f:bs.length+1<=70368744177664) :
  CallsT PZ 101 [.own 1000 0,.int .u8 x.toNat] (Nj t a bs) (gL (Nj t a (bs++[x])) (.opq 0)):=by
 refine wrT (ys:=[x]) b UU f .nilIface (fun _ _=>CA) fun F j tb s c ex vs h e=>?_;simp only[aK] at e;obtain⟨v1,_,rfl,k,l,_,rfl,d,rfl⟩:=e;rw[II k];simp only[Rel] at d;rw[d.1];exact WT F j tb s 0 bs.length c x.toNat (dX bs) h f (pX bs) (ow bs)
theorem WX (t:Nat) (b:List C) (d:gJ b=true) (bs ys:List UInt8) (f:bs.length+ys.length<=70368744177664) (k:0<bs.length+ys.length) :
  CallsT PZ 48 [.own 1000 0,.sl (ah ys)] (Nj t b bs) (gL (Nj t b (bs++ys)) (.tup [IC ys.length,.opq 0])):=by
 refine wrT d WW f (.tuple #[.int .i64 ys.length,.nilIface]) (fun F L=>?_) fun F n tb s c ex vs m e=>?_
 ·simp only[Rel,aK];exact⟨[_,_],rfl,_,_,rfl,⟨rfl,by simp[Lit.wf,IntKind.min,IntKind.max,IntKind.signed,IntKind.bits];omega⟩,_,_,rfl,CA,rfl⟩
 simp only[aK] at e;obtain⟨v1,_,rfl,o,p,_,rfl,h,rfl⟩:=e;rw[II o];obtain⟨a,j,rfl,_,_,l⟩:=Ah h;exact aaH F n tb s 0 bs.length c ys.length j a (dX bs) (dX ys) m f k (pX bs) (ow bs) (pX ys) l (ow ys)
end Go.Fr.Tryz
