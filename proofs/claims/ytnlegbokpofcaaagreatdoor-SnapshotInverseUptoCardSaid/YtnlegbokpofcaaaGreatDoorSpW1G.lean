/- Part of the proofs of the statements of this seat. -/
import Derived.Test.YtnlegbokpofcaaaGreatDoorFW3
import Derived.Test.YtnlegbokpofcaaaGreatDoorSpCode
set_option maxRecDepth 10000
set_option linter.unusedVariables false
set_option linter.unusedSimpArgs false
namespace Go.Fr.Tryz
open Go Go.RowKit Go.Proofs Go.Fr Go.Fr.T Go.Fr.Api
noncomputable abbrev PZ:Program:=Tryz.prog
def fW:Value:=.iface 150 (.agg #[])
inductive Vl where
 | mk (kind id variant n:Int) (fields:List Vl) (excl:Bool) (path loans:List Int)
structure Ce where
 live:Bool
 arena:Int
 value:Vl
structure Ac where
 number:Int
 routine:Int
 block:Int
 index:Int
 dst:Int
 slots:List Vl
 since:List Int
structure Ln where
 frame:Int
 slot:Int
 excl:Bool
 re:Bool
 over:Bool
structure Tk where
 state:Int
 frames:List Ac
 loans:List Ln
 allocs:Int
 clock:Int
 next:Int
 cells:List Int
structure Ou where
 task:Int
 number:Int
structure Wd where
 cells:List Ce
 arenas:List Bool
 tasks:List Tk
 channels:List (List Vl)
 outputs:List Ou
 made:Int
 dropped:Int
 closed:Int
mutual
def n9:Vl->List C
 | .mk k i v n f e p l=>[IC k,IC i,IC v,IC n,.sl (Iw f),.bool e,.sl (qK p),.sl (qK l)]
def Iw:List Vl->List (List C)
 | []=>[]
 | x::xs=>n9 x::Iw xs
end
theorem rJ:∀l:List Vl,Iw l=l.map n9
 | []=>rfl
 | x::xs=>by rw[Iw,rJ xs];rfl
def wO (x:Ce):List C:=.bool x.live::IC x.arena::n9 x.value
def Iy (l:List Vl):List C:=[.sl (l.map n9)]
def Cx (x:Ac):List C:=[IC x.number,IC x.routine,IC x.block,IC x.index,IC x.dst,.sl (x.slots.map n9),.sl (qK x.since)]
def I6 (x:Ln):List C:=[IC x.frame,IC x.slot,.bool x.excl,.bool x.re,.bool x.over]
def z8 (x:Tk):List C:=[IC x.state,.sl (x.frames.map Cx),.sl (x.loans.map I6),IC x.allocs,IC x.clock,IC x.next,.sl (qK x.cells)]
def Lh (x:Ou):List C:=[IC x.task,IC x.number]
def EH (b:Bool):List C:=[.bool b]
def Sj (x:Wd):List C:=[.sl (x.cells.map wO),.sl (x.arenas.map EH),.sl (x.tasks.map z8),.sl (x.channels.map Iy),.sl (x.outputs.map Lh),IC x.made,IC x.dropped,IC x.closed]
theorem aQ {bs:List UInt8}:(ak bs).length=bs.length:=by simp[ak]
theorem gO {bs:List UInt8}:∀es∈ak bs,es.length=1:=by
 intro es h;simp only[ak,abk] at h;obtain⟨b,_,rfl⟩:=h;rfl
theorem iH (bs:List UInt8) (n m:Nat):((ak bs).drop n).take m=ak ((bs.drop n).take m):=by simp[ak]
theorem Fit.to {k:IntKind}{n m:Int}{K:Int->Prop}(h:k.wrap n=m) (a:K m):Fit k n K:=⟨by rw[h];exact a⟩
theorem bZ {n:Int}(a:-9223372036854775808<=n) (b:n<=9223372036854775807):IntKind.wrap .i64 n=n:=by
 simp only[IntKind.wrap,IntKind.bits,IntKind.signed,abJ,abw,ge_iff_le,Nat.reduceSub,Int.reducePow];split<;>omega
theorem sJ {bs:List UInt8}{els:List (List C)}{K:Prop}(n:Nat) (a:els.length=n) (h:n+bs.length<=140737488355328) (k:K):tK els (ak bs) 1 1 K :=
 ⟨gO,by rw[aQ,a];simp only[maxLen];omega,by rw[aQ,a];omega,k⟩
theorem vU {L L1:TL}{k t sz:Nat}(h:L.get k=none) (a:L1.get k=some (.row t sz [])):Mw L L1 .nils (.rw k):=.inr (.inr (.inr (.inl ⟨rfl,k,t,sz,rfl,h,a⟩)))
theorem TV {L:TL}{K:TL->Prop}(h:K L):fT L K:=by rw[fI];exact h
abbrev Dec (a:Type):=List UInt8->Option (a×List UInt8)
def bound:Int:=1099511627776
def takeD (n:Int):Dec (List UInt8):=fun l=>if 0<=n/\n<=l.length then some (l.take n.toNat,l.drop n.toNat) else none
def I7 (z:Nat):Int:=if z % 2=0 then((z / 2:Nat):Int) else -((z / 2:Nat):Int)-1
def mr:Nat->Nat->Nat->Dec Int
 | 0,_,_,_=>none
 | _+1,_,_,[]=>none
 | f+1,k,z,c::r=>if c.toNat<128 then(if 0<c.toNat\/k=0 then some (I7 (z+c.toNat*128 ^ k),r) else none)
  else mr f (k+1) (z+(c.toNat-128)*128 ^ k) r
def getD:Dec Int:=mr 6 0 0
def gM:Dec Int:=fun l=>match getD l with
 | some (n,r)=>if -bound<=n/\n<=bound then some (n,r) else none
 | none=>none
def z9:Dec Nat:=fun l=>match getD l with
 | some (n,r)=>if 0<=n/\n<=100000/\n<=r.length then some (n.toNat,r) else none
 | none=>none
def oO:Dec Bool:=fun l=>match gM l with
 | some (n,r)=>if n=0\/n=1 then some (decide (n=1),r) else none
 | none=>none
def bH {a:Type}(f:Dec a):Nat->Dec (List a)
 | 0,l=>some ([],l)
 | n+1,l=>match f l with
  | some (x,r)=>match bH f n r with
   | some (xs,r)=>some (x::xs,r)
   | none=>none
  | none=>none
def gB {a b:Type}(f:Dec a) (k:a->Dec b):Dec b:=fun l=>match f l with
 | none=>none
 | some (x,r)=>k x r
theorem bf {a b:Type}{f:Dec a}{k:a->Dec b}{l:List UInt8}(h:f l=none):gB f k l=none:=by simp only[gB,h]
theorem aA {a b:Type}{f:Dec a}{k:a->Dec b}{l r:List UInt8}{x:a}(h:f l=some (x,r)):gB f k l=k x r:=by simp only[gB,h]
def wP {a:Type}(x:a):Dec a:=fun l=>some (x,l)
def dN {a:Type}(f:Dec a):Dec (List a):=gB z9 fun n=>bH f n
def Ft:Nat->Dec Vl
 | 0=>fun _=>none
 | d+1=>gB (bH gM 4) fun a=>gB (dN (Ft d)) fun f=>gB (bH oO 1) fun e=>gB (dN gM) fun p=>gB (dN gM) fun l=>wP (.mk (a.getD 0 0) (a.getD 1 0) (a.getD 2 0) (a.getD 3 0) f (e.getD 0 false) p l)
def GF:Dec Vl:=Ft 60
def Qm:Dec Ce:=gB (bH oO 1) fun b=>gB (bH gM 1) fun a=>gB GF fun v=>wP ⟨b.getD 0 false,a.getD 0 0,v⟩
def TW:Dec (List Vl):=dN GF
def Qn:Dec Ac:=gB (bH gM 5) fun a=>gB TW fun s=>gB (dN gM) fun c=>wP ⟨a.getD 0 0,a.getD 1 0,a.getD 2 0,a.getD 3 0,a.getD 4 0,s,c⟩
def Sk:Dec Ln:=gB (bH gM 2) fun a=>gB (bH oO 3) fun b=>wP ⟨a.getD 0 0,a.getD 1 0,b.getD 0 false,b.getD 1 false,b.getD 2 false⟩
def My:Dec Tk:=gB (bH gM 1) fun s=>gB (dN Qn) fun f=>gB (dN Sk) fun l=>gB (bH gM 3) fun a=>gB (dN gM) fun c=>wP ⟨s.getD 0 0,f,l,a.getD 0 0,a.getD 1 0,a.getD 2 0,c⟩
def TY:Dec Ou:=gB (bH gM 2) fun a=>wP ⟨a.getD 0 0,a.getD 1 0⟩
def T9:Dec Bool:=gB (bH oO 1) fun b=>wP (b.getD 0 false)
def Eb:Dec Wd:=gB (dN Qm) fun c=>gB (dN T9) fun a=>gB (dN My) fun t=>gB (dN TW) fun h=>gB (dN TY) fun o=>gB (bH gM 3) fun m=>wP ⟨c,a,t,h,o,m.getD 0 0,m.getD 1 0,m.getD 2 0⟩
theorem Bk {n:Int}{bs:List UInt8}(h:0<=n) (k:n<=bs.length):takeD n bs=some (bs.take n.toNat,bs.drop n.toNat):=by simp[takeD,h,k]
abbrev Enc:=List UInt8×Bool
def Mz:Enc:=([],true)
def Aa (b:Bool):Enc:=([],b)
def bD (a b:Enc):Enc:=(a.1++b.1,a.2&&b.2)
def bV (z:Nat):List UInt8:=if h:z<128 then[UInt8.ofNat z] else UInt8.ofNat (128+z % 128)::bV (z / 128)
termination_by z
decreasing_by omega
def zz (n:Int):Nat:=if n<0 then(-2*n-1).toNat else(2*n).toNat
def aV {a:Type}(f:a->Enc):List a->Enc
 | []=>Mz
 | x::l=>bD (f x) (aV f l)
structure Kd where
 t:Nat
 tb:Nat
 num:Int->Enc
 siz:Int->Enc
 deep:Bool
def EI (n:Int):List UInt8:=(List.range 8).map fun k=>UInt8.ofNat ((n.fdiv (2 ^ (8*k))).emod 256).toNat
def kW:Kd:=⟨102,108,fun n=>(bV (zz n),decide (-1099511627776<=n)&&decide (n<=1099511627776)),fun n=>(bV (zz n),decide (n<=100000)),false⟩
def kL:Kd:=⟨123,124,fun n=>(EI n,true),fun n=>(EI n,true),true⟩
section
variable (k:Kd)
def oe (b:Bool):Enc:=k.num (if b=true then 1 else 0)
def bT {a:Type}(f:a->Enc) (l:List a):Enc:=bD (k.siz l.length) (aV f l)
mutual
def s8:Vl->Int->Enc
 | .mk a b c n f e p l,d=>bD (Aa (decide (0<d)||k.deep)) (bD (aV k.num [a,b,c,n]) (bD (bD (k.siz f.length) (Ab f (d-1))) (bD (aV (oe k) [e]) (bD (bT k k.num p) (bT k k.num l)))))
def Ab:List Vl->Int->Enc
 | [],_=>Mz
 | x::xs,d=>bD (s8 x d) (Ab xs d)
end
theorem pJ (d:Int):∀l:List Vl,Ab k l d=aV (fun x=>s8 k x d) l
 | []=>rfl
 | x::xs=>by rw[Ab,pJ d xs];rfl
def uV (v:Vl):Enc:=s8 k v 60
def O7 (x:Ce):Enc:=bD (aV (oe k) [x.live]) (bD (aV k.num [x.arena]) (uV k x.value))
def Qo (l:List Vl):Enc:=bT k (uV k) l
def O8 (x:Ac):Enc:=bD (aV k.num [x.number,x.routine,x.block,x.index,x.dst]) (bD (Qo k x.slots) (bT k k.num x.since))
def O9 (x:Ln):Enc:=bD (aV k.num [x.frame,x.slot]) (aV (oe k) [x.excl,x.re,x.over])
def Pb (x:Tk):Enc:=bD (aV k.num [x.state]) (bD (bT k (O8 k) x.frames) (bD (bT k (O9 k) x.loans) (bD (aV k.num [x.allocs,x.clock,x.next]) (bT k k.num x.cells))))
def Qp (x:Ou):Enc:=aV k.num [x.task,x.number]
def Tn (b:Bool):Enc:=aV (oe k) [b]
def oU (x:Wd):Enc:=bD (bT k (O7 k) x.cells) (bD (bT k (Tn k) x.arenas) (bD (bT k (Pb k) x.tasks) (bD (bT k (Qo k) x.channels) (bD (bT k (Qp k) x.outputs) (aV k.num [x.made,x.dropped,x.closed])))))
end
mutual
/-- how deep a value is -/
def Fu:Vl->Nat
 | .mk _ _ _ _ f _ _ _=>Ec f+1
def Ec:List Vl->Nat
 | []=>0
 | x::xs=>max (Fu x) (Ec xs)
end
theorem zi:∀{l:List Vl}{x:Vl},x∈l->Fu x<=Ec l
 | y::l,x,h=>by
  rw[Ec];rcases aaQ.1 h with rfl | h
  ·exact Nat.le_max_left _ _
  ·exact abB (zi h) (Nat.le_max_right _ _)
def WB (t:Nat) (bs:List UInt8):List TO:=[.box t [.rw 1001,IC 0,.int .i8 0],.row 5 1 (ak bs)]
def Fv (t:Nat) (bs:List UInt8):TL:=[(1000,.box t [.rw 1001,IC 0,.int .i8 0]),(1001,.row 5 1 (ak bs))]
def Vw (k:Kd) (f:Nat) (args:List C) (e:Enc) (x:C):Prop:=∀bs,bs.length+e.1.length<=70368744177664 ->
 CallsTX PZ f args (WB k.tb bs) (fun Mo c=>e.2=true/\Mo=WB k.tb (bs++e.1)/\c=x) (fun v=>v=fW/\e.2=false)
abbrev fR (k:Kd) (f:Nat) (args:List C) (e:Enc):Prop:=Vw k f args e (.tup [])
def RB (bs:List UInt8):TO:=.box 88 [.sl (ak bs)]
def Pc {a:Type}(f:Nat) (args:List C) (bs:List UInt8) (o:Option (a×List UInt8)) (cell:a->C):Prop :=
 CallsTX PZ f args [RB bs] (fun Mo c=>∃y r,o=some (y,r)/\Mo=[RB r]/\c=cell y) (fun v=>v=fW/\o=none)
def iq {b:Type}(f:Nat) (fi ca:List C) (a:Dec b) (z:List C) (cs:b->List C):Prop:=∀(t:Nat) (pre post:List C) (bs:List UInt8),cG pre->cG post ->
 CallsTX PZ f (fi++.ifo none 86 1000 0::.own 1001 pre.length::ca) [RB bs,.win t pre z post] (fun Mo c=>∃x r,a bs=some (x,r)/\Mo=[RB r,.win t pre (cs x) post]/\c=.tup []) (fun v=>v=fW/\a bs=none)
def Qq (b:Bool):Prop:=CallsTX PZ 36 [.bool b] [] (fun Mo c=>b=true/\Mo=[]/\c=.tup []) (fun v=>v=fW/\b=false)
section
variable {L:TL}{ρ:aY}
theorem vV {PS:qJ}{b:Bool}{args:List C}{K:TL->aY->C->Prop}(h:Qq b) (f:args=[.bool b]) (d:b=false->PS.ps fW) (k:b=true->K L ρ (.tup [])) (j:mF L [] PS.hb=true:=by rfl):qf PZ PS 36 args L ρ K:=by
 subst f;refine .mk ⟨[],[],[],L,[],_,_,.inl rfl,rfl,rfl,rfl,rfl,rfl,j,h,fun v ⟨e,h⟩=>e▸d h,?_⟩;rintro v Mo ⟨a,rfl,rfl⟩ l c;exact⟨rfl,k a⟩
theorem dK {R:List TO->C->Prop}(ko:List Nat) {Lin Mo Lo:List TO}{v x:C}(c:L.sub ko=some Mo) (a:(T.bP ko&&aW Lin (List.range' 1000 Lin.length) ko)=true) (b:Mo.map (TO.aag (C.ren (cn ko 1000)))=Lo) (e:v.aar.ren (cn ko 1000)=x) (h:R Lo x):pF Lin L v R:=by
 simp only[yo] at a;exact⟨[],ko,L,v,v,Mo,rfl,.inl ⟨rfl,rfl⟩,c,a.1,a.2,fun _=>by rw[b,e];exact h⟩
theorem rK {R:List TO->C->Prop}(b ko:List Nat) {Lin:List TO}{v:C}(d:yw b L (fun _=>.any) [v] fun L _ vs=>∃c Mo,vs=[c]/\L.sub ko=some Mo/\(T.bP ko&&aW Lin (List.range' 1000 Lin.length) ko)=true/\R (Mo.map (TO.aag (C.ren (cn ko 1000)))) (c.aar.ren (cn ko 1000))):pF Lin L v R:=by
 refine⟨b,ko,?_⟩;refine wz.frzK_imp d ?_;rintro L ρ vs ⟨c,Mo,rfl,f,a,e⟩;simp only[yo] at a;exact⟨L,c,c,Mo,rfl,.inl ⟨rfl,rfl⟩,f,a.1,a.2,fun _=>e⟩
theorem ck (ks:List Nat) {PS:qJ}{f:Nat}{args a:List C}{K:TL->aY->C->Prop}{R:List TO->C->Prop}{Pp:Value->Prop}{Lin Lin':List TO}(h:CallsTX PZ f a Lin' R Pp) (e:L.sub ks=some Lin)
  (b:(T.bP ks&&T.mP L ks ks&&aW Lin ks ks)=true) (p:(args.map fun c=>c.aaj.ren (cn ks 1000))=a) (j:Lin.map (TO.aag (C.ren (cn ks 1000)))=Lin') (m:∀v,Pp v->PS.ps v)
  (k:∀v Mo,R Mo v->Wf v->(∀o∈Mo,o.Wf)->ks.length=Mo.length/\K (((L.aaf ks).kills (rowsOf L ks)).puts ks (Mo.map (TO.aag (C.ren (br ks))))) (fP (rowsOf L ks) ρ) (v.ren (br ks)).slt) (l:mF L ks PS.hb=true:=by rfl):qf PZ PS f args L ρ K:=by
 subst p j;simp only[yo] at b;obtain⟨⟨d,n⟩,c3⟩:=b;exact .mk ⟨[],ks,ks,L,Lin,_,_,.inl rfl,e,d,d,n,c3,l,h,m,k⟩
theorem cH (ks:List Nat) {PS:qJ}{d:List Nat}{f:Nat}{args a:List C}{K:TL->aY->C->Prop}{R:List TO->C->Prop}{Pp:Value->Prop}{Lin Lin':List TO}(h:CallsTX PZ f a Lin' R Pp) (e:L.sub ks=some Lin)
  (b:(T.bP ks&&yD ks d&&aW Lin ks ks)=true) (p:(args.map fun c=>c.aaj.ren (cn ks 1000))=a) (j:Lin.map (TO.aag (C.ren (cn ks 1000)))=Lin') (m:∀v,Pp v->PS.ps v)
  (k:∀v Mo,R Mo v->Wf v->(∀o∈Mo,o.Wf)->ks.length=Mo.length/\K (((L.aaf ks).kills (rowsOf L ks)).puts ks (Mo.map (TO.aag (C.ren (br ks))))) (fP (rowsOf L ks) ρ) (v.ren (br ks)).slt) (l:mF L ks PS.hb=true:=by rfl):ou PZ PS d f args L ρ K:=by
 subst p j;simp only[yo] at b;obtain⟨⟨q,n⟩,c3⟩:=b;exact⟨ks,Lin,_,_,e,q,n,c3,l,h,m,k⟩
end
theorem u9 (b:Bool):Qq b:=by
 refine au Tryz.func36 Oh rfl fun _ _=>?_;cases b
 ·exact TM rfl ⟨rfl,rfl⟩
 ·exact dK [] rfl rfl rfl rfl ⟨rfl,rfl,rfl⟩
end Go.Fr.Tryz
namespace Go.Fr.Tryz
open Go Go.RowKit Go.Proofs Go.Fr Go.Fr.T
theorem St.reslice {F:aF}{L:Loc}{w:World}{k g t sz n n' c:Nat}{xs:List Value}(h:St F L w) (j:L.get k=some (.row (.slice (some ⟨g,0,none⟩) n c) t sz n xs)) (l:n'<=c) :
  ∃ys,ys.length=n'*sz/\(∀i,i<n*sz->i<n'*sz->ys[i]?=xs[i]?)/\St F (L.set k (.row (.slice (some ⟨g,0,none⟩) n' c) t sz n' ys)) w:=by
 have m:=h.own k _ j;simp only[Own.ok] at m;obtain⟨v,⟨e,_⟩ | ⟨s,cap,a,e,o,r,x,p,f,u⟩⟩:=m
 ·cases e
 ·injection e with e1 e2 e3
  injection e1 with e1
  injection e1 with e1 _ _
  subst e1 e3;have q:n'*sz<=c*sz:=Nat.mul_le_mul_right _ l;refine⟨a.toList.take (n'*sz),?_,fun i hi d=>?_,?_⟩
  ·rw[aa9,Array.length_toList,f];omega
  ·rw[<-u,List.getElem?_take_of_lt hi,List.getElem?_take_of_lt d]
  ·refine h.turn j (o':=.row (.slice (some ⟨g,0,none⟩) n' c) t sz n' (a.toList.take (n'*sz))) ?_ (fun _ _ _=>rfl) (fun s b=>.inl b);exact⟨by rw[aa9,Array.length_toList,f];omega,.inr ⟨g,c,a,rfl,o,r,l,p,f,rfl⟩⟩
theorem CallsA.aaE {P:Program}{f:FuncId}{args:Array Value}{F:aF}{Lin:List Own}{R R':aF->List Own->Value->Prop}(h:CallsA P f args F Lin R) (c:∀F G L v,F.le G->R' F L v->R' G L v)
  (l:∀F' Lo v w',St F' (inp Lo) w'->R F' Lo v->∃Lo',St F' (inp Lo') w'/\(∀b,(inp Lo').owns b->(inp Lo).owns b)/\R' F' Lo' v):CallsA P f args F Lin R':=by
 refine⟨h.ent,c,fun w d=>(h.run w d).mono ?_⟩;rintro e w' ⟨v,F',Lo,rfl,k,a,o⟩;obtain⟨Lo',n,m,j⟩:=l F' Lo v w' k o;exact⟨v,F',Lo',rfl,n,⟨a.le,a.os,a.tape,a.output,a.size,a.same,a.frz,fun b hb=>a.own b (m b hb)⟩,j⟩
def j6 (s:Value) (n c:Nat):Prop:=(s=.slice none 0 0/\n=0/\c=0)\/∃g,s=.slice (some ⟨g,0,none⟩) n c/\n<=c/\c<=maxLen
theorem j6.form {s:Value}{n c:Nat}(h:j6 s n c):∃a,s=.slice a n c/\n<=c/\c<=maxLen/\(a=none->n=0/\c=0):=by
 rcases h with⟨rfl,rfl,rfl⟩ | ⟨g,rfl,d,b⟩
 ·exact⟨none,rfl,aa8 _,abl _,fun _=>⟨rfl,rfl⟩⟩
 ·exact⟨_,rfl,d,b,fun e=>by cases e⟩
theorem Cy {F:aF}{L:Loc}{w:World}{k t sz n:Nat}{v:Value}{xs:List Value}(d:St F L w) (l:L.get k=some (.row v t sz n xs)):∃c,j6 v n c:=by
 have a:=d.own k _ l;simp only[Own.ok] at a;obtain⟨p,⟨e,j⟩ | ⟨m,cap,f,e,o,q,h,b,r,s⟩⟩:=a
 ·exact⟨0,.inl ⟨e,j,rfl⟩⟩
 ·exact⟨cap,.inr ⟨m,e,h,b⟩⟩
def BO (ex:List Value) (a tb:Nat) (s:Value) (lr:Int) (n:Nat) (xs:List Value):List Own:=[.box a (tb+1) (s::.int .i64 0::.int .i8 lr::ex),.row s 5 1 n xs]
theorem Lj {ex:List Value}{a tb:Nat}{s:Value}{lr:Int}{n:Nat}{xs:List Value}:inp (BO ex a tb s lr n xs)=[(1000,.box a (tb+1) (s::.int .i64 0::.int .i8 lr::ex)),(1001,.row s 5 1 n xs)]:=rfl
theorem Ll {Lin:List Own}(svs:List SV) (n:Nat) (a:∀v∈svs,(∀k off,v=.own k off->∃g ty cs,(inp Lin).get k=some (.box g ty cs))/\(∀d j,v=.el d j->d≠none)) :
  aJ (inp Lin) (uj 0 svs) {tmps:=(svs.map (conc (inp Lin))).toArray++Array.replicate (n-(svs.map (conc (inp Lin))).toArray.size) undef,defers:=[]}:=by
 have c:∀t,uj 0 svs t=.v undef\/uj 0 svs t∈svs:=by
  intro t;rw[rf];simp only[abl,abd,Nat.sub_zero];cases e:svs[t]? with
  | none=>exact .inl rfl
  | some v=>exact .inr (aaS e)
 refine⟨fun t=>?_,fun t k off e=>?_,fun t d j e=>?_⟩
 ·rw[rf];simp only[abl,abd,Nat.sub_zero,abg];cases e:svs[t]? with
  | some v =>
   have f:t<svs.length:=(xD.1 e).1;rw[Array.getElem?_append_left (by simpa using f)];simp[e]
  | none =>
   have h:svs.length<=t:=abE.1 e;rw[Array.getElem?_append_right (by simpa using h)];simp only[Array.getElem?_replicate,Option.getD_none,conc];split<;>rfl
 ·rcases c t with b | b
  ·rw[b] at e;cases e
  ·exact(a _ b).1 k off e
 ·rcases c t with b | b
  ·rw[b] at e;cases e
  ·exact(a _ b).2 d j e
variable {ex:List Value}
theorem sD {c tb:Nat}{s:Value}{lr:Int}{n:Nat}{xs:List Value}{svs:List Value}:∀v∈(SV.own 1000 0::svs.map SV.v),(∀k off,v=.own k off->∃g ty cs,(inp (BO ex c tb s lr n xs)).get k=some (.box g ty cs))/\(∀b j,v=.el b j->b≠none):=by
 intro v a;rcases aaQ.1 a with rfl | a
 ·exact⟨fun k off e=>by injection e with e1 e2;subst e1;exact⟨_,_,_,rfl⟩,fun _ _ e=>by cases e⟩
 ·obtain⟨u,_,rfl⟩:=abk.1 a;exact⟨fun _ _ e=>(by cases e),fun _ _ e=>(by cases e)⟩
theorem Pe {s:Value}{n c h:Nat}{a:Option Addr}(b:j6 s n c) (e:s=.slice a n c):gK a c 0 h 1=.slice a h c:=by
 rcases b with⟨rfl,rfl,rfl⟩ | ⟨g,rfl,_,_⟩
 ·injection e with e1 e2 e3
  subst e1;simp[gK]
 ·injection e with e1 e2 e3
  subst e1;simp[gK,Addr.add]
def R43 (ex:List Value) (a tb:Nat) (s:Value) (lr:Int) (n c m:Nat) (xs:List Value):aF->List Own->Value->Prop:=fun _ Lo v =>
 (∃s' ys,ys.length=m/\j6 s' (n+m) c/\Lo=BO ex a tb s' lr (n+m) (xs++ys)/\v=.tuple #[.int .i64 n,.bool true]) \/
 (c<n+m/\Lo=BO ex a tb s lr n xs/\v=.tuple #[.int .i64 0,.bool false])
theorem XK (F:aF) (d tb:Nat) (s:Value) (lr:Int) (n c m:Nat) (xs:List Value) (l:j6 s n c) (hm:n+m<=140737488355328) :
  CallsA PZ 88 #[.pointer (some ⟨d,0,none⟩),.int .i64 m] F (BO ex d tb s lr n xs) (R43 ex d tb s lr n c m xs):=by
 obtain⟨a,rfl,ad,r,ha⟩:=l.form;unfold maxLen at r;have y:CallsA PZ 88 #[.pointer (some ⟨d,0,none⟩),.int .i64 m] F (BO ex d tb (.slice a n c) lr n xs) (fun _ Lo v =>
   (n+m<=c/\Lo=[.box d (tb+1) (.slice a (n+m) c::.int .i64 0::.int .i8 lr::ex),.row (.slice a n c) 5 1 n xs]/\v=.tuple #[.int .i64 n,.bool true]) \/
   (c<n+m/\Lo=BO ex d tb (.slice a n c) lr n xs/\v=.tuple #[.int .i64 0,.bool false])):=by
  refine gY (svs:=[.own 1000 0,.v (.int .i64 m)]) rfl OO rfl rfl (sD (svs:=[.int .i64 m])) (fun _ _ _ _ _ h=>h) ?_;refine Fit.aad (by omega) (by omega) ?_;refine aK (fun h=>?_) (fun h=>?_)
  ·refine Fit.aad (by omega) (by omega) ?_;refine oh.mk (by omega) (by omega) (by omega) ?_;have e:((n:Int)+m).toNat=n+m:=by omega
   have z:gK a c 0 ((n:Int)+m).toNat 1=.slice a (n+m) c:=by rw[e];exact Pe l rfl
   exact⟨[1000,1001],_,rfl,by decide,.inl ⟨by omega,j3 (fun q=>[Own.box d (tb+1) (q::.int .i64 0::.int .i8 lr::ex),.row (.slice a n c) 5 1 n xs]) z,rfl⟩⟩
  ·exact⟨[1000,1001],_,rfl,by decide,.inr ⟨by omega,rfl,rfl⟩⟩
 refine CallsA.aaE y (fun _ _ _ _ _ h=>h) ?_;rintro F' Lo v w' f (⟨j,rfl,rfl⟩ | ⟨u,rfl,rfl⟩)
 ·rcases l with⟨e,rfl,rfl⟩ | ⟨g,e,_,_⟩
  ·injection e with e1 _ _
   subst e1;have:m=0:=by omega
   subst this;exact⟨_,f,fun b h=>h,.inl ⟨.slice none 0 0,[],rfl,.inl ⟨rfl,rfl,rfl⟩,by simp[BO],rfl⟩⟩
  ·injection e with e1 _ _
   subst e1;have w:(inp [.box d (tb+1) (.slice (some ⟨g,0,none⟩) (n+m) c::.int .i64 0::.int .i8 lr::ex),.row (.slice (some ⟨g,0,none⟩) n c) 5 1 n xs]).get 1001=some (.row (.slice (some ⟨g,0,none⟩) n c) 5 1 n xs):=rfl;have p:xs.length=n:=by
    have:=(f.own _ _ w).1;simpa using this
   obtain⟨ys,x,y2,y3⟩:=St.reslice f w j;have t:ys=xs++ys.drop n:=by
    apply abq;intro i
    by_cases hi:i<n
    ·rw[y2 i (by omega) (by omega),aaY (by omega)]
    ·rw[aa4 (by omega),abm,p];congr 1;omega
   refine⟨BO ex d tb (.slice (some ⟨g,0,none⟩) (n+m) c) lr (n+m) ys,y3,fun b hb=>?_,.inl ⟨_,ys.drop n,by rw[abC,x];omega,.inr ⟨g,rfl,j,by unfold maxLen;omega⟩,by rw[<-t],rfl⟩⟩;obtain⟨k,o,e,hb⟩:=hb;rw[Lj] at e;simp only[Loc.get] at e;split at e
   ·rename_i ab;injection e with e;subst e
    exact⟨1000,_,rfl,hb⟩
   ·split at e
    ·injection e with e;subst e
     exact⟨1001,_,rfl,hb⟩
    ·cases e
 ·exact⟨_,f,fun b h=>h,.inr ⟨u,rfl,rfl⟩⟩
variable {ex:List Value}
def XL:aI:=.reg [.op (some 8) (.mov (.t 0)) none,
  .op (some 9) (.len (.t 8)) none,
  .op (some 10) (.mov (.t 1)) none,
  .op (some 11) (.bin .add (.t 9) (.t 10)) none,
  .op (some 5) (.mov (.t 11)) none]
def XM:aI:=.seq (.reg [.op (some 12) (.mov (.t 5)) none,
  .op (some 13) (.mov (.t 0)) none,
  .op (some 14) (.capa (.t 13)) none,
  .op (some 15) (.bin .mul (.c (.int .i64 2)) (.t 14)) none,
  .op (some 16) (.bin .lss (.t 12) (.t 15)) none])
 (.cond (.t 16)
 (.reg [.op (some 17) (.mov (.t 0)) none,
   .op (some 18) (.capa (.t 17)) none,
   .op (some 19) (.bin .mul (.c (.int .i64 2)) (.t 18)) none,
   .op (some 5) (.mov (.t 19)) none])
 .skip)
def XO:aI:=.reg [.op (some 20) (.mov (.t 5)) none,
  .op (some 21) (.appZ 5 1 .u8 (.c (.slice none 0 0)) (.t 20)) none,
  .op (some 6) (.mov (.t 21)) none]
def XP:aI:=.seq (.reg [.op (some 22) (.mov (.t 6)) none,
  .op (some 23) (.mov (.t 0)) none,
  .op (some 24) (.copy 5 1 (.t 22) (.t 23)) none,
  .op (some 7) (.mov (.t 24)) none])
 (.seq (.reg [.op (some 25) (.mov (.t 6)) none,
  .op (some 26) (.mov (.t 7)) none,
  .op (some 27) (.slc 1 (.t 25) none (some (.t 26))) none,
  .op (some 4) (.mov (.t 27)) none])
 .ret)
theorem piece {P:Program}{A:cF}{c:Code}{sc:aI}(s:low P A c=some sc) {N:dm}{F:aF}{L:Loc}{ρ:Env}{a:Act}{w:World}(r:St F L w) (x:aJ L ρ a) (t:a.tmps.size=A.n)
  (u:iI P sc (fun _ _ _ _=>False) (fun _ _ _=>False) N F L ρ) {Q:Exit->Act->World->Prop}
  (k:∀d w' F' L' ρ',St F' L' w'->aJ L' ρ' d->d.tmps.size=A.n->d.defers=a.defers->Step F L w F' L' w'->N F' L' ρ'->Q .normal d w'):c.wp P Q a w:=by
 refine wp_mono (qx c s r x t u) ?_;intro e d w' h;cases e with
 | normal=>obtain⟨F',L',ρ',l,f,m,p,o,q,b⟩:=h;exact k _ _ _ _ _ l f m p o b
 | exit j=>obtain⟨F',L',ρ',l,f,m,p,o,q,b⟩:=h;exact b.elim
 | ret=>obtain⟨F',L',ρ',l,f,m,p,o,q,b⟩:=h;exact b.elim
 | panic ch =>
  obtain⟨v,_,F',L',q1,q2,q3,z,q5,y⟩:=h;exact y.elim
 | _=>exact h.elim
theorem pL {ρ:Env}{k:Nat}{x:SV}(h:ρ k=x):put (some k) x ρ=ρ:=by
 funext j
 rw[put_eq];simp only[];split
 ·rename_i e;rw[e,h]
 ·rfl
def IA:cF:={n:=28}
theorem Ad (w:World) :
  CallsD Tryz.prog 135 #[] .returning w fun e b w'=>e=.returned (.tuple #[])/\b=.returning/\w'=w:=by
 have c:Tryz.f135.ntmps=3:=by kernel_rfl
 have f:Tryz.f135.results=#[]:=by kernel_rfl
 refine callsD_of_wpS Tryz.func135 rfl fun a cs d=>?_;apply wpS_seq;apply wpS_region;simp[wpOpsS,go_sem,recoverD,d,c,Exit.thenS];refine wpS_cond (t:=false) (by simp[Act.eval,Array.replicate]) ?_;simp only[aaZ,abp];refine wpS_of_wp (wp_skip ?_);cases a
 simp_all [bodyPostS,results]
theorem Ua (F:aF) (a:Option Addr) (n c m:Nat) (xs:List Value) (hn:n<=c) (hc:c<n+m) (hm:n+m<=70368744177664) (hx:xs.length=n) (ap:cg F a 0 xs\/(n=0/\xs=[])) (h1:∀u∈xs,u.oneCell'=true) :
  CallsA PZ 114 #[.slice a n c,.int .i64 m] F [] (fun _ Lo v=>∃l,j6 v n l/\n+m<=l/\Lo=[.row v 5 1 n xs]):=by
 have bj:Tryz.f114.ntmps=28:=by kernel_rfl
 refine⟨⟨_,Tryz.func114,by kernel_rfl,by kernel_rfl⟩,fun _ _ _ _ _ h=>h,fun w hs=>?_⟩
 suffices hall:∀RR:Ending->World->Prop,(∀v F' Lo w',St F' (inp Lo) w'->Step F (inp []) w F' (inp Lo) w'->(∃l,j6 v n l/\n+m<=l/\Lo=[.row v 5 1 n xs])->RR (.returned v) w')->Calls Tryz.prog 114 #[.slice a n c,.int .i64 m] w RR from
  hall _ fun v F' Lo w' h1 h2 h3=>⟨v,F',Lo,rfl,h1,h2,h3⟩
 intro RR bs;refine calls_of_wp_defers Tryz.func114 rfl ?_;rw[bj];have bx:=Ll (Lin:=[]) [.v (.slice a n c),.v (.int .i64 m)] 28 (JP [.slice a n c,.int .i64 m]);refine wp_seq (wp_region (oK (A:=IA) (r:=0) (List.range 1) (ss:=[.op (some 4) (.mov (.c (.slice none 0 0))) none]) (by kernel_rfl) hs bx (by simp[IA])
  (K:=fun F' L' ρ'=>F'=F/\L'=inp []/\ρ'=put (some 4) (.v (.slice none 0 0)) (uj 0 [.v (.slice a n c),.v (.int .i64 m)])) ⟨rfl,rfl,rfl⟩ ?_))
 rintro a1 w1 ⟨F1,L1,cy,bi,aa,ax,ac,ae,_,rfl,rfl,rfl⟩;simp only[Exit.then];refine wp_seq (wp_region ?_);obtain⟨tm,df⟩:=a1;simp only at ax ac;subst ac;have cp:∀w:World,(Instr.makeFunc (.func 135) #[] #[]).run Tryz.prog w=.ok (.func (.func 135) #[] #[]) w:=fun _=>rfl;simp[wpOps,go_sem,Exit.then,Act.eval];refine .inl ?_;have s:aJ (inp []) (put (some 4) (.v (.slice none 0 0)) (uj 0 [.v (.slice a n c),.v (.int .i64 m)])) {tmps:=tm,defers:=[{target:=.fn (.func 135) #[],args:=#[]}]}:=⟨aa.eq,aa.own,aa.el⟩;refine wp_seq (piece (A:=IA) (sc:=XL) (by kernel_rfl) bi s ax (N:=fun F' L' ρ'=>F'=F1/\L'=inp []/\ρ' 5=.v (.int .i64 (n+m:Nat))/\ρ' 0=.v (.slice a n c)) ?_ ?_)
 ·refine Fit.to (m:=((n+m:Nat):Int)) (by rw[bZ (by omega) (by omega)];omega) ?_;exact⟨rfl,rfl,rfl,rfl⟩
 rintro a2 w2 F2 L2 bc be s bu cf ag ⟨rfl,rfl,q,p⟩;simp only[Exit.then];rw[<-pL q,<-pL (ρ:=put _ _ bc) (k:=0) (x:=.v (.slice a n c)) (by rw[put_eq];simpa using p)] at s;generalize z:(if n+m<2*c then 2*c else n+m)=M;have co:n+m<=M/\M<=140737488355328:=by subst z;split<;>omega
 refine wp_seq (piece (A:=IA) (sc:=XM) (by kernel_rfl) be s bu (N:=fun F' L' ρ'=>F'=F2/\L'=inp []/\ρ' 5=.v (.int .i64 M)/\ρ' 0=.v (.slice a n c)) ?_ ?_)
 ·refine Fit.to (m:=((2*c:Nat):Int)) (by rw[bZ (by omega) (by omega)];omega) ?_;refine aK (fun h=>?_) (fun h=>?_)
  ·refine Fit.to (m:=((2*c:Nat):Int)) (by rw[bZ (by omega) (by omega)];omega) ?_;exact⟨rfl,rfl,(by rw[<-z,o6 (by omega)];rfl),rfl⟩
  ·exact⟨rfl,rfl,(by rw[<-z,vv (by omega)];rfl),rfl⟩
 clear q p
 rintro a3 w3 F3 L3 bv bd ao bt aE ay ⟨rfl,rfl,q,p⟩;simp only[Exit.then];rw[<-pL q,<-pL (ρ:=put _ _ bv) (k:=0) (x:=.v (.slice a n c)) (by rw[put_eq];simpa using p)] at ao;refine wp_seq (piece (A:=IA) (sc:=XO) (by kernel_rfl) bd ao bt (N:=fun F' L' ρ'=>F'=F3/\∃ad l,L'=[(21,.row (.slice (some ad) M l) 5 1 M (List.replicate M (.int .u8 0)))]/\ρ' 6=.v (.slice (some ad) M l)/\ρ' 0=.v (.slice a n c)) ?_ ?_)
 ·refine Jc.mk ⟨21,0,[],.inr ⟨rfl,rfl,rfl,rfl⟩,by unfold maxLen;omega,by omega,fun v hv=>?_⟩;obtain⟨a',c',rfl,cb⟩:=hv;cases a' with
  | none=>exact p7 (cb rfl) (by omega)
  | some ad =>
   rw[Nat.zero_add];exact⟨rfl,ad,c',rfl,rfl,rfl⟩
 clear q p
 rintro a4 w4 F4 L4 ca az an bk cd av ⟨rfl,ad,l,rfl,q,p⟩;simp only[Exit.then];obtain⟨cz,cc⟩:=Cy az (k:=21) rfl;rcases cc with⟨e,_⟩ | ⟨g,e,de,y⟩
 ·cases e
 injection e with e1 e2 e3
 injection e1 with e1
 subst e1 e3;rw[<-pL q,<-pL (ρ:=put _ _ ca) (k:=0) (x:=.v (.slice a n c)) (by rw[put_eq];simpa using p)] at an;have bl:aR (List.replicate M (Value.int .u8 0)) (0*1) xs=xs++List.replicate (M-n) (.int .u8 0):=by
  simp[aR,hx]
 refine wp_mono (qx (A:=IA) _ (sc:=XP) (by kernel_rfl) az an bk (E:=fun _ _ _ _=>False) (N:=fun _ _ _=>False)
  (R:=fun F' L' ρ'=>F'=F4/\L'=[(21,.row (.slice (some ⟨g,0,none⟩) M l) 5 1 M (xs++List.replicate (M-n) (.int .u8 0)))]/\ρ' 4=.v (.slice (some ⟨g,0,none⟩) n l)) ?_) ?_
 ·refine Bx.mk (.inl ⟨21,M,_,_,_,⟨g,0,none⟩,l,l,0,n,a,c,xs,rfl,rfl,rfl,by omega,rfl,by rw[Nat.min_eq_left (by omega),hx,Nat.mul_one],?_,h1,?_⟩)
  ·rw[Nat.min_eq_left (by omega)];exact ap
  rw[Nat.min_eq_left (by omega),bl];refine oh.mk (by omega) (by omega) (by omega) ?_;exact⟨rfl,rfl,j3 SV.v (Pe (n:=M) (.inr ⟨g,rfl,by omega,y⟩) rfl)⟩
 intro e a5 w5 h;cases e with
 | normal=>obtain⟨F',L',ρ',h1,h2,h3,h4,h5,h6,h7⟩:=h;exact h7.elim
 | exit j=>obtain⟨F',L',ρ',h1,h2,h3,h4,h5,h6,h7⟩:=h;exact h7.elim
 | panic ch =>
  obtain⟨v,_,F',L',q1,q2,q3,q4,q5,q6⟩:=h;exact q6.elim
 | ret =>
  obtain⟨F',L',ρ',ar,bm,cM,am,aw,_,rfl,rfl,h4⟩:=h;rw[cd,aE,cf] at am;show Leaves Tryz.prog Tryz.f114 a5.tmps RR a5.defers .returning w5;rw[am];refine leaves_cons (f:=135) (args:=#[]) (by simp) (by simp[invoke]) ?_;refine(Ad _).mono ?_;rintro e u' w6 ⟨rfl,rfl,rfl⟩;obtain⟨vs,h5,rfl⟩:=wA (P:=Tryz.prog) (fn:=Tryz.f114) (rs:=[(4,none)]) (K:=fun vs=>vs=[.slice (some ⟨g,0,none⟩) n l]) ar bm (by kernel_rfl) (by
   simp only[mD,h4];rfl)
  obtain⟨ys,y1,y2,y3⟩:=St.reslice (n':=n) ar (k:=21) rfl (by omega);have bo:ys=xs:=by
   apply abq;intro i
   by_cases hi:i<n
   ·rw[y2 i (by omega) (by omega),aaY (by omega)]
   ·rw[aa0 (by omega),aa0 (by omega)]
  subst bo;refine⟨_,h5,bs _ F' [.row (.slice (some ⟨g,0,none⟩) n l) 5 1 n ys] w6 ?_ ?_ ⟨l,.inr ⟨g,rfl,by omega,y⟩,by omega,rfl⟩⟩
  ·exact y3.handed (ks:=[21]) rfl (by simp)
  ·have d:=(((ae.trans ag).trans ay).trans av).trans aw;refine⟨d.le,d.os,d.tape,d.output,d.size,d.same,d.frz,fun b hb=>?_⟩;refine d.own b ?_;obtain⟨k,o,e,hb⟩:=hb;rw[bg] at e;split at e
   case isFalse=>cases e
   rename_i hk;have t:=aaS e;simp only[abv] at t;subst t;exact⟨21,_,rfl,hb⟩
 | _=>exact h.elim
variable {ex:List Value}
theorem CallsA.aaL {P:Program}{f:FuncId}{args:Array Value}{F:aF}{v:Value}{t sz n:Nat}{xs:List Value}{R:aF->List Own->Value->Prop}(hent:∃fn,P.funcs[f]?=some fn/\fn.body.isSome=true/\(fn.name == "runtime.NumGoroutine")=false)
  (hmono:∀F G L v,F.le G->R F L v->R G L v) (h:∀F',F.le F'->Je F' v sz n xs->CallsA P f args F' [] R):CallsA P f args F [.row v t sz n xs] R:=by
 refine⟨hent,hmono,fun w hs=>?_⟩;have he:aJ (inp [.row v t sz n xs]) (fun _=>.v undef) {tmps:=#[],defers:=[]}:=⟨fun t=>by simp[conc],fun _ _ _ e=>(by cases e),fun _ _ _ e=>(by cases e)⟩;obtain⟨F',L',k1,k2,k3,k4,k5⟩:=pq (k:=1000) hs he (KK:=fun F' L'=>L'=inp []/\F.le F'/\Je F' v sz n xs) ⟨v,t,sz,n,xs,rfl,fun F' h1 h2=>⟨rfl,h1,h2⟩⟩;obtain⟨rfl,k5,k6⟩:=(⟨k4,k5⟩:_/\_);refine Calls.mono ((h F' k5 k6).run w k1) ?_;rintro e w' ⟨v,F2,Lo,rfl,h1,h2,h3⟩;exact⟨v,F2,Lo,rfl,h1,k3.trans h2,h3⟩
theorem Sn:∃fn,Tryz.prog.funcs[114]?=some fn/\fn.body.isSome=true/\(fn.name == "runtime.NumGoroutine")=false:=⟨_,Tryz.func114,by kernel_rfl,by kernel_rfl⟩
theorem Ub (F:aF) (a:Option Addr) (n c m:Nat) (xs:List Value) (l:n<=c) (j:c<n+m) (d:n+m<=70368744177664) (f:xs.length=n) (k:∀u∈xs,u.oneCell'=true) :
  CallsA PZ 114 #[.slice a n c,.int .i64 m] F [.row (.slice a n c) 5 1 n xs] (fun _ Lo v=>∃b,j6 v n b/\n+m<=b/\Lo=[.row v 5 1 n xs]):=by
 refine CallsA.aaL Sn (fun _ _ _ _ _ h=>h) fun F' _ o=>Ua F' a n c m xs l j d f ?_ k;rcases o with⟨e,rfl,rfl⟩ | ⟨q,p,e,h,_⟩
 ·exact .inr ⟨rfl,rfl⟩
 ·injection e with e1 _ _
  subst e1;exact .inl h
theorem Uc (F:aF) (d tb:Nat) (s:Value) (lr:Int) (n c:Nat) (xs:List Value) (e:j6 s n c) :
  CallsA PZ 112 #[.pointer (some ⟨d,0,none⟩)] F (BO ex d tb s lr n xs) (fun _ Lo v=>Lo=BO ex d tb s lr n xs/\v=.int .i64 n):=by
 obtain⟨a,rfl,f,b,j⟩:=e.form;unfold maxLen at b;refine gY (svs:=[.own 1000 0]) rfl Kx rfl rfl (sD (svs:=[])) (fun _ _ _ _ _ h=>h) ?_;refine Fit.to (m:=(n:Int)) (by rw[bZ (by omega) (by omega)];omega) ?_;exact⟨[1000,1001],_,rfl,by decide,rfl,rfl⟩
theorem Fx {f:Nat}{vs:List Value}{F:aF}{L:Loc}{K:aF->Loc->Value->Prop}{d tb n:Nat}{s:Value}{lr:Int}{xs:List Value}{R:aF->List Own->Value->Prop}(o:L=inp (BO ex d tb s lr n xs)) (h:CallsA PZ f vs.toArray F (BO ex d tb s lr n xs) R)
  (m:∀v F' Lo,F.le F'->R F' Lo v->∃s' c n' a,Lo=BO ex d tb s' c n' a/\K F' (inp (BO ex d tb s' c n' a)) v):dQ PZ f vs F L K:=by
 subst o;refine⟨[1000,1001],[1000,1001],_,_,rfl,by decide,by decide,fun k j=>.inl j,h,fun v F' Lo l q=>?_⟩;obtain⟨s',c,n',a,rfl,p⟩:=m v F' Lo l q;refine⟨rfl,fun k g t cs j e=>?_,p⟩;simp only[aaQ,List.not_mem_nil,or_false] at j;rcases j with rfl | rfl
 ·have b:(some (Own.box d (tb+1) (s::.int .i64 0::.int .i8 lr::ex)))=some (.box g t cs):=e;injection b with b
  injection b with e1 e2 e3
  subst e1 e2;exact⟨_,rfl⟩
 ·have b:(some (Own.row s 5 1 n xs))=some (.box g t cs):=e;injection b with b
  cases b
theorem GH {F:aF}{L:Loc}{K:aF->Loc->Value->Prop}{a tb n c:Nat}{s:Value}{lr:Int}{xs:List Value}(e:L=inp (BO ex a tb s lr n xs)) (h:j6 s n c)
  (f:∀F',F.le F'->K F' (inp (BO ex a tb s lr n xs)) (.int .i64 n)):dQ PZ 112 [.pointer (some ⟨a,0,none⟩)] F L K :=
 Fx e (Uc F a tb s lr n c xs h) fun v F' Lo b d=>⟨s,lr,n,xs,d.1,d.2▸f F' b⟩
theorem Fy {F:aF}{L:Loc}{K:aF->Loc->Value->Prop}{a tb n c m:Nat}{s:Value}{lr:Int}{xs:List Value}(j:L=inp (BO ex a tb s lr n xs)) (h:j6 s n c) (f:n+m<=140737488355328)
  (l:∀F' s' ys,F.le F'->ys.length=m->j6 s' (n+m) c->K F' (inp (BO ex a tb s' lr (n+m) (xs++ys))) (.tuple #[.int .i64 n,.bool true]))
  (k:∀F',F.le F'->c<n+m->K F' (inp (BO ex a tb s lr n xs)) (.tuple #[.int .i64 0,.bool false])):dQ PZ 88 [.pointer (some ⟨a,0,none⟩),.int .i64 m] F L K :=
 Fx j (XK F a tb s lr n c m xs h f) fun v F' Lo b o=>by
  rcases o with⟨s',ys,d,e,rfl,rfl⟩ | ⟨d,rfl,rfl⟩
  ·exact⟨_,_,_,_,rfl,l F' s' ys b d e⟩
  ·exact⟨_,_,_,_,rfl,k F' b d⟩
theorem Ef {F:aF}{L:Loc}{K:aF->Loc->Value->Prop}{n c m:Nat}{a:Option Addr}{s:Value}{xs:List Value}(f:j6 s n c) (r:L.get 1001=some (.row s 5 1 n xs)) (p:c<n+m) (l:n+m<=70368744177664) (o:xs.length=n) (q:∀u∈xs,u.oneCell'=true) (z:s=.slice a n c)
  (k:∀b F' d,F.le F'->j6 (.slice b n d) n d->n+m<=d->K F' (L.set 1001 (.row (.slice b n d) 5 1 n xs)) (.slice b n d)):CallXDPt PZ (fun _ _ _=>False) [] 114 [gK a c 0 n 1,.int .i64 m] F L K:=by
 subst z;obtain⟨_,_,aa,_⟩:=f.form;rw[Pe f rfl];refine⟨[1001],[.row (.slice a n c) 5 1 n xs],_,fun _ _ _=>False,by simp only[Loc.sub,r],by simp,by simp,((Ub F a n c m xs (by omega) p l o q).toX (Pp:=fun _=>False)).toS,fun v F' L' Lo _ _ _ h=>h.elim,fun v F' Lo x y=>?_⟩;obtain⟨d,j,w,rfl⟩:=y;obtain⟨b,rfl,_⟩:=j.form;refine⟨rfl,fun i g t cs e=>?_,fun _=>k b F' d x j w⟩;cases i with
 | zero=>injection e with e;cases e
 | succ i=>cases e
theorem Qr {L:Loc}{ss:List aB}(h:(ss.all fun s=>(uy s).isNone)=true):∀s∈ss,∀k,uy s=some k->L.get k=none:=by
 intro s a k e;have:=aa1.1 h s a;rw[e] at this;cases this
def Qs (ex:List Value) (a tb:Nat) (lr:Int) (n m:Nat) (xs:List Value):aF->List Own->Value->Prop:=fun _ Lo v =>
 ∃s' b ys,ys.length=m/\j6 s' (n+m) b/\Lo=BO ex a tb s' lr (n+m) (xs++ys)/\v=.int .i64 n
def Raw (ex:List Value) (b tb:Nat) (lr:Int) (n m:Nat) (xs:List Value) (Lo:List Own):Prop :=
 ∃a c,j6 (.slice a n c) n c/\n+m<=c/\Lo=[.box b (tb+1) (gK a c 0 (n+m) 1::.int .i64 0::.int .i8 lr::ex),.row (.slice a n c) 5 1 n xs]
theorem Lm {j tb n m:Nat}{lr:Int}{xs:List Value}{Lo:List Own}{F:aF}{w:World}(h:Raw ex j tb lr n m xs Lo) (d:St F (inp Lo) w) :
  ∃Lo',St F (inp Lo') w/\(∀b,(inp Lo').owns b->(inp Lo).owns b)/\∃s' u ys,ys.length=m/\j6 s' (n+m) u/\Lo'=BO ex j tb s' lr (n+m) (xs++ys):=by
 obtain⟨a,c,q,f,rfl⟩:=h;rw[Pe q rfl] at d ⊢;rcases q with⟨e,rfl,rfl⟩ | ⟨g,e,z,s⟩
 ·injection e with e1 _ _
  subst e1;have:m=0:=by omega
  subst this;exact⟨_,d,fun b h=>h,.slice none 0 0,0,[],rfl,.inl ⟨rfl,rfl,rfl⟩,by simp[BO]⟩
 ·injection e with e1 _ _
  subst e1;have r:(inp [.box j (tb+1) (.slice (some ⟨g,0,none⟩) (n+m) c::.int .i64 0::.int .i8 lr::ex),.row (.slice (some ⟨g,0,none⟩) n c) 5 1 n xs]).get 1001=some (.row (.slice (some ⟨g,0,none⟩) n c) 5 1 n xs):=rfl;have l:xs.length=n:=by
   have:=(d.own _ _ r).1;simpa using this
  obtain⟨ys,t,v,y⟩:=St.reslice d r f;have p:ys=xs++ys.drop n:=by
   apply abq;intro i
   by_cases hi:i<n
   ·rw[v i (by omega) (by omega),aaY (by omega)]
   ·rw[aa4 (by omega),abm,l];congr 1;omega
  refine⟨BO ex j tb (.slice (some ⟨g,0,none⟩) (n+m) c) lr (n+m) ys,y,fun b hb=>?_,_,c,ys.drop n,by rw[abC,t];omega,.inr ⟨g,rfl,f,s⟩,by rw[<-p]⟩;obtain⟨k,o,e,hb⟩:=hb;rw[Lj] at e;simp only[Loc.get] at e;split at e
  ·rename_i x;injection e with e;subst e
   exact⟨1000,_,rfl,hb⟩
  ·split at e
   ·injection e with e;subst e
    exact⟨1001,_,rfl,hb⟩
   ·cases e
theorem Qs.aaE {f c tb n m:Nat}{lr:Int}{xs:List Value}{args:Array Value}{F:aF}{Lin:List Own}(h:CallsA PZ f args F Lin (fun F' Lo v=>Qs ex c tb lr n m xs F' Lo v\/(Raw ex c tb lr n m xs Lo/\v=.int .i64 n))):CallsA PZ f args F Lin (Qs ex c tb lr n m xs):=by
 refine CallsA.aaE h (fun _ _ _ _ _ h=>h) ?_;rintro F' Lo v w' a (h | ⟨h,rfl⟩)
 ·exact⟨Lo,a,fun b h=>h,h⟩
 ·obtain⟨Lo',l,k,s',j,ys,e,d,rfl⟩:=Lm h a;exact⟨_,l,k,s',j,ys,e,d,rfl,rfl⟩
set_option maxHeartbeats 1000000 in
theorem XQ (F:aF) (e tb:Nat) (lr:Int) (m:Nat) (q:m<=70368744177664) :
  CallsA PZ 89 #[.pointer (some ⟨e,0,none⟩),.int .i64 m] F (BO ex e tb (.slice none 0 0) lr 0 []) (Qs ex e tb lr 0 m []):=by
 have c:j6 (.slice none 0 0) 0 0:=.inl ⟨rfl,rfl,rfl⟩;refine Qs.aaE ?_;refine gY (svs:=[.own 1000 0,.v (.int .i64 m)]) rfl Gy rfl rfl (sD (svs:=[.int .i64 m])) (fun _ _ _ _ _ h=>h) ?_;refine GH rfl c fun F1 l=>?_;refine Fy rfl c (by omega) (fun F2 s' ys d j a=>?_) (fun F2 d r=>?_)
 ·exact⟨[1000,1001],_,rfl,by decide,.inl ⟨s',0,ys,j,a,rfl,rfl⟩⟩
 refine aK (fun h=>?_) (fun h=>?_)
 ·refine vg.mk (by omega) (by omega) (by decide) (by decide) fun g=>?_;exact⟨[1000,41],_,rfl,by decide,.inl ⟨.slice (some ⟨g,0,none⟩) m 64,64,(List.replicate m [Value.int .u8 0]).flatten,by simp,.inr ⟨g,by rw[Nat.zero_add m],by omega,by decide⟩,by rw[Nat.zero_add m];rfl,rfl⟩⟩
 refine oG.mk (by omega) ?_;refine Fit.to (m:=0) (by decide) ?_;refine Fit.to (m:=0) (by decide) ?_;refine aK (fun a=>?_) (fun a=>?_)
 ·omega
 refine Fit.to (m:=9223372036854775807) (by decide) ?_;refine Fit.to (m:=9223372036854775807-m) (by rw[bZ (by omega) (by omega)]) ?_;refine aK (fun o=>?_) (fun o=>?_)
 ·omega
 refine⟨Qr (by kernel_rfl),?_⟩;refine⟨_,rfl,⟨_,rfl,⟨_,rfl,⟨_,rfl,⟨_,rfl,⟨_,rfl,⟨_,rfl,⟨_,rfl,⟨_,rfl,⟨_,rfl,?_⟩⟩⟩⟩⟩⟩⟩⟩⟩⟩;refine oh.mk (by omega) (by omega) (by omega) ?_;refine⟨_,rfl,⟨_,rfl,⟨_,rfl,⟨_,rfl,⟨_,rfl,⟨_,rfl,?_⟩⟩⟩⟩⟩⟩;refine Fit.to (m:=(m:Int)) (by rw[bZ (by omega) (by omega)];omega) ?_;refine Ef c rfl (by omega) (by omega) rfl (by simp) rfl fun b F3 n k p f=>?_;refine⟨_,rfl,⟨_,rfl,⟨_,rfl,?_⟩⟩⟩;refine Fit.to (m:=((0+m:Nat):Int)) (by rw[bZ (by omega) (by omega)];omega) ?_;refine oh.mk (by omega) (by omega) (by omega) ?_;exact⟨[1000,1001],_,rfl,by decide,.inr ⟨⟨b,n,p,by omega,rfl⟩,rfl⟩⟩
theorem XR (F:aF) (j tb g:Nat) (lr:Int) (n c m:Nat) (xs:List Value) (r:n<=c) (a:c<=maxLen) (z:n+m<=70368744177664) (q:xs.length=n) (k:∀u∈xs,u.oneCell'=true) :
  CallsA PZ 89 #[.pointer (some ⟨j,0,none⟩),.int .i64 m] F (BO ex j tb (.slice (some ⟨g,0,none⟩) n c) lr n xs) (Qs ex j tb lr n m xs):=by
 have e:j6 (.slice (some ⟨g,0,none⟩) n c) n c:=.inr ⟨g,rfl,r,a⟩;refine Qs.aaE ?_;refine gY (svs:=[.own 1000 0,.v (.int .i64 m)]) rfl Gy rfl rfl (sD (svs:=[.int .i64 m])) (fun _ _ _ _ _ h=>h) ?_;refine GH rfl e fun F1 t=>?_;refine aK (fun o=>?_) (fun o=>?_) <;>
 ·refine Fy rfl e (by omega) (fun F2 s' ys f k d=>?_) (fun F2 f hc=>?_)
  ·exact⟨[1000,1001],_,rfl,by decide,.inl ⟨s',c,ys,k,d,rfl,rfl⟩⟩
  have l:c<=9223372036854775807:=a;refine oG.mk (by omega) ?_;refine Fit.to (m:=((c / 2:Nat):Int)) (by rw[show((c:Int).tdiv 2)=((c / 2:Nat):Int) from rfl,bZ (by omega) (by omega)]) ?_;refine Fit.to (m:=((c / 2:Nat):Int)-n) (by rw[bZ (by omega) (by omega)]) ?_;refine aK (fun d=>?_) (fun d=>?_)
  ·omega
  refine Fit.to (m:=9223372036854775807-c) (by rw[bZ (by omega) (by omega)]) ?_;refine Fit.to (m:=9223372036854775807-c-m) (by rw[bZ (by omega) (by omega)]) ?_;refine aK (fun x=>?_) (fun x=>?_)
  ·omega
  refine⟨Qr (by kernel_rfl),?_⟩;refine⟨_,rfl,⟨_,rfl,⟨_,rfl,⟨_,rfl,⟨_,rfl,⟨_,rfl,⟨_,rfl,⟨_,rfl,⟨_,rfl,⟨_,rfl,?_⟩⟩⟩⟩⟩⟩⟩⟩⟩⟩;refine oh.mk (by omega) (by omega) (by omega) ?_;refine⟨_,rfl,⟨_,rfl,⟨_,rfl,⟨_,rfl,⟨_,rfl,⟨_,rfl,?_⟩⟩⟩⟩⟩⟩;refine Fit.to (m:=(m:Int)) (by rw[bZ (by omega) (by omega)];omega) ?_;refine Ef e rfl (by omega) (by omega) q k rfl fun b F3 w s y p=>?_;refine⟨_,rfl,⟨_,rfl,⟨_,rfl,?_⟩⟩⟩;refine Fit.to (m:=((n+m:Nat):Int)) (by rw[bZ (by omega) (by omega)];omega) ?_;refine oh.mk (by omega) (by omega) (by omega) ?_;exact⟨[1000,1001],_,rfl,by decide,.inr ⟨⟨b,w,y,by omega,rfl⟩,rfl⟩⟩
theorem XS (F:aF) (a tb:Nat) (s:Value) (lr:Int) (n c m:Nat) (xs:List Value) (j:j6 s n c) (h:n+m<=70368744177664) (b:xs.length=n) (f:∀u∈xs,u.oneCell'=true) :
  CallsA PZ 89 #[.pointer (some ⟨a,0,none⟩),.int .i64 m] F (BO ex a tb s lr n xs) (Qs ex a tb lr n m xs):=by
 rcases j with⟨rfl,rfl,rfl⟩ | ⟨g,rfl,e,d⟩
 ·obtain rfl:xs=[]:=abh b;exact XQ F a tb lr m (by omega)
 ·exact XR F a tb g lr n c m xs e d h b f
variable {ex:List Value}
theorem j6.some {a:Option Addr}{n c:Nat}(h:j6 (.slice a n c) n c) (b:0<n):∃g,a=.some ⟨g,0,none⟩:=by
 rcases h with⟨_,rfl,_⟩ | ⟨g,e,_⟩
 ·omega
 ·injection e with e
  exact⟨g,e⟩
theorem GI {F:aF}{L:Loc}{K:aF->Loc->Value->Prop}{b tb n c m:Nat}{s:Value}{lr:Int}{xs:List Value}(l:L=inp (BO ex b tb s lr n xs)) (h:j6 s n c) (f:n+m<=140737488355328) (k:0<n+m)
  (p:∀F' g d ys,F.le F'->ys.length=m->n+m<=d->d<=maxLen->K F' (inp (BO ex b tb (.slice (some ⟨g,0,none⟩) (n+m) d) lr (n+m) (xs++ys))) (.tuple #[.int .i64 n,.bool true]))
  (o:∀F',F.le F'->c<n+m->K F' (inp (BO ex b tb s lr n xs)) (.tuple #[.int .i64 0,.bool false])):dQ PZ 88 [.pointer (some ⟨b,0,none⟩),.int .i64 m] F L K :=
 Fy l h f (fun F' s' ys r j e=>by
  obtain⟨a,rfl,t,q,_⟩:=e.form;obtain⟨g,rfl⟩:=e.some k;exact p F' g c ys r j t q) o
theorem GJ {F:aF}{L:Loc}{K:aF->Loc->Value->Prop}{d tb n c m:Nat}{s:Value}{lr:Int}{xs:List Value}(p:L=inp (BO ex d tb s lr n xs)) (j:j6 s n c) (h:n+m<=70368744177664) (k:xs.length=n) (l:∀u∈xs,u.oneCell'=true) (o:0<n+m)
  (q:∀F' g b ys,F.le F'->ys.length=m->n+m<=b->b<=maxLen->K F' (inp (BO ex d tb (.slice (some ⟨g,0,none⟩) (n+m) b) lr (n+m) (xs++ys))) (.int .i64 n)):dQ PZ 89 [.pointer (some ⟨d,0,none⟩),.int .i64 m] F L K :=
 Fx p (XS F d tb s lr n c m xs j h k l) fun v F' Lo r t=>by
  obtain⟨s',b,ys,w,e,rfl,rfl⟩:=t;obtain⟨a,rfl,x,f,_⟩:=e.form;obtain⟨g,rfl⟩:=e.some o;exact⟨_,_,_,_,rfl,q F' g b ys r w x f⟩
def RW (ex:List Value) (a tb n m:Nat) (ys:List Value) (r:Value):aF->List Own->Value->Prop:=fun _ Lo v=>∃s' b,j6 s' (n+m) b/\Lo=BO ex a tb s' 0 (n+m) ys/\v=r
theorem zk {xs ys zs:List Value}{n:Nat}(b:xs.length=n) (a:ys.length=zs.length):aR (xs++ys) n zs=xs++zs:=by
 subst b;simp[aR,a]
theorem Lp {F:aF}{L:Loc}{j k:Nat}{K:Loc->Prop}{v:Value}{t m c:Nat}{xs:List Value}{a:Addr}(b:Int) (d:L.get k=some (.row v t 1 m xs)) (h:v=.slice (some a) m c) (e:j+1<=xs.length) (f:K (L.set k (.row v t 1 m (aR xs j [.int .u8 b])))):uf F L (some a) j [.int .u8 b] K :=
 ⟨.inl ⟨k,v,t,1,m,xs,a,c,d,rfl,h,e,fun u l=>by rw[abv.1 l];rfl,f⟩⟩
theorem Ud (F:aF) (f tb:Nat) (s:Value) (lr:Int) (n c:Nat) (x:Int) (xs:List Value) (p:j6 s n c) (y:n+1<=70368744177664) (j:xs.length=n) (t:∀u∈xs,u.oneCell'=true) :
  CallsA PZ 101 #[.pointer (some ⟨f,0,none⟩),.int .u8 x] F (BO ex f tb s lr n xs) (RW ex f tb n 1 (xs++[.int .u8 x]) .nilIface):=by
 refine gY (svs:=[.own 1000 0,.v (.int .u8 x)]) rfl Kw rfl rfl (sD (svs:=[.int .u8 x])) (fun _ _ _ _ _ h=>h) ?_;have b:∀(g a:Nat) (ys:List Value),ys.length=1->aR (xs++ys) (((n:Int).toNat)*1) [.int .u8 x]=xs++[.int .u8 x]:=fun g a ys d=>by
  rw[Nat.mul_one];exact zk j d
 refine GI (s:=s) (lr:=0) (m:=1) rfl p (by omega) (by omega) (fun F1 g a ys w d o l=>?_) (fun F1 w z=>?_)
 ·refine FO.mk (fun e=>by cases e) (by omega) (by omega) ?_;refine Lp (k:=1001) x rfl rfl (by rw[aaR,j,d];omega) ?_;exact⟨[1000,1001],_,rfl,by decide,_,a,.inr ⟨g,rfl,o,l⟩,j3 (fun q=>BO ex f tb (.slice (some ⟨g,0,none⟩) (n+1) a) 0 (n+1) q) (b g a ys d),rfl⟩
 ·refine GJ (s:=s) (lr:=0) (m:=1) rfl p (by omega) j t (by omega) fun F2 g a ys r d o l=>?_;refine FO.mk (fun e=>by cases e) (by omega) (by omega) ?_;refine Lp (k:=1001) x rfl rfl (by rw[aaR,j,d];omega) ?_;exact⟨[1000,1001],_,rfl,by decide,_,a,.inr ⟨g,rfl,o,l⟩,j3 (fun q=>BO ex f tb (.slice (some ⟨g,0,none⟩) (n+1) a) 0 (n+1) q) (b g a ys d),rfl⟩
theorem Pf {g c n p:Nat}(h:n+p<=c):∃j,j+p<=n+p/\(p≠0->j=n)/\gK (some ⟨g,0,none⟩) c n (n+p) 1=.slice (some ((⟨g,0,none⟩:Addr).add (j*1))) p (c-n):=by
 by_cases e:c=n
 ·refine⟨0,by omega,fun a=>p7 (by omega) a,?_⟩;simp only[gK,o6 e,Nat.add_sub_cancel_left];rfl
 ·refine⟨n,aa8 _,fun _=>rfl,?_⟩;simp only[gK,vv e,Nat.add_sub_cancel_left,Option.map]
theorem GK {F:aF}{L:Loc}{K:Loc->Nat->Prop}{g a n p d:Nat}{l h:Nat}{pa:Option Addr}{xs ys news:List Value}(s:L.get 1001=some (.row (.slice (some ⟨g,0,none⟩) (n+p) a) 5 1 (n+p) (xs++ys))) (c:l=n) (q:h=n+p) (r:n+p<=a)
  (m:xs.length=n) (y:ys.length=p) (o:news.length=p) (b:cg F pa 0 news\/(p=0/\news=[])) (k:∀u∈news,u.oneCell'=true)
  (f:K (L.set 1001 (.row (.slice (some ⟨g,0,none⟩) (n+p) a) 5 1 (n+p) (xs++news))) p):Bx F L 5 1 (gK (some ⟨g,0,none⟩) a l h 1) (.slice pa p d) K:=by
 subst c q;obtain⟨j,x,t,w⟩:=Pf (g:=g) r;refine⟨.inl ⟨1001,p,_,_,_,⟨g,0,none⟩,a,a-l,j,p,pa,d,news,s,rfl,w,x,rfl,by rw[Nat.min_self,o,Nat.mul_one],by rw[Nat.min_self];exact b,k,?_⟩⟩;rw[Nat.min_self];have e:aR (xs++ys) (j*1) news=xs++news:=by
  rw[Nat.mul_one]
  by_cases v:p=0
  ·obtain rfl:news=[]:=abh (by omega);obtain rfl:ys=[]:=abh (by omega);simp[aR]
  ·rw[t v];exact zk m (by omega)
 rw[e];exact f
theorem XT (F:aF) (k tb:Nat) (s:Value) (lr:Int) (n c p d:Nat) (pa:Option Addr) (xs news:List Value) (r:j6 s n c) (y:n+p<=70368744177664) (w:0<n+p) (f:xs.length=n) (x:∀u∈xs,u.oneCell'=true)
  (t:news.length=p) (a:cg F pa 0 news\/(p=0/\news=[])) (q:∀u∈news,u.oneCell'=true) :
  CallsA PZ 48 #[.pointer (some ⟨k,0,none⟩),.slice pa p d] F (BO ex k tb s lr n xs) (RW ex k tb n p (xs++news) (.tuple #[.int .i64 p,.nilIface])):=by
 refine gY (svs:=[.own 1000 0,.v (.slice pa p d)]) rfl Oq rfl rfl (sD (svs:=[.slice pa p d])) (fun _ _ _ _ _ h=>h) ?_;refine GI (s:=s) (lr:=0) rfl r (by omega) w (fun F1 g l ys o e b m=>?_) (fun F1 o z=>?_)
 ·refine oh.mk (by omega) (by omega) (by omega) ?_;refine GK rfl (by omega) (by omega) b f e t (a.imp (fun h=>h.mono o) id) q ?_;exact⟨[1000,1001],_,rfl,by decide,_,l,.inr ⟨g,rfl,b,m⟩,rfl,rfl⟩
 ·refine GJ (s:=s) (lr:=0) rfl r (by omega) f x w fun F2 g l ys j e b m=>?_;refine oh.mk (by omega) (by omega) (by omega) ?_;refine GK rfl (by omega) (by omega) b f e t (a.imp (fun h=>(h.mono o).mono j) id) q ?_;exact⟨[1000,1001],_,rfl,by decide,_,l,.inr ⟨g,rfl,b,m⟩,rfl,rfl⟩
def Lr (t:Nat) (a:List C) (bs:List UInt8):List TO:=[.box t (.rw 1001::IC 0::.int .i8 0::a),.row 5 1 (ak bs)]
theorem Ue {F:aF}{Li:List Own}{t:Nat}{d:List C}{bs:List UInt8}(hl:Li.length=(Lr t d bs).length) (h:dH F (inp Li) (jG (Lr t d bs))) :
  ∃j tb s ex,Li=BO ex j tb s 0 bs.length (eD bs)/\tyOk t j (tb+1)/\bs.length<=maxLen/\aG F (inp Li) d ex:=by
 match Li,hl with
 | [k,f],_ =>
  have y:dG F (inp [k,f]) (.box t (.rw 1001::IC 0::.int .i8 0::d)) k:=h 1000;have w:dG F (inp [k,f]) (.row 5 1 (ak bs)) f:=h 1001;cases k with
  | row=>exact y.elim
  | box j tb us =>
   cases f with
   | box=>exact w.elim
   | row v x b n xs =>
    obtain⟨rfl,rfl,hn,⟨hm,a,c,rfl,hc⟩,hr⟩:=w;have hx:=mZ hr;subst hx;have q:n=bs.length:=by rw[hn];simp[ak]
    subst q;obtain⟨ht,z⟩:=y;obtain⟨tb,rfl⟩:∃m,tb=m+1:=Nat.exists_eq_succ_of_ne_zero ht.2.2;simp only[aG,Rel] at z;obtain⟨v1,_,rfl,u,v2,_,rfl,l,v3,ex,rfl,r,p⟩:=z;obtain⟨a',c',x,b,n',o,_,hg⟩:=u;have e:some (Own.row (.slice a bs.length c) 5 1 bs.length (eD bs))=some (.row v1 x b n' o):=hg;injection e with e
    injection e with e1
    subst e1;obtain⟨rfl,_⟩:=l;obtain⟨rfl,_⟩:=r;exact⟨j,tb,_,ex,rfl,ht,hm,p⟩
theorem Uf {F:aF}{t d tb c:Nat}{s:Value}{f:List C}{ex:List Value}{bs:List UInt8}(b:aG F (inp (BO ex d tb s 0 bs.length (eD bs))) f ex) (m:tyOk t d (tb+1)) (l:j6 s bs.length c) (h:bs.length<=maxLen):dH F (inp (BO ex d tb s 0 bs.length (eD bs))) (jG (Lr t f bs)):=by
 obtain⟨a,rfl,q,o,n⟩:=l.form;intro k;rw[cI,bg];split
 case isFalse=>trivial
 rename_i r
 match p:k-1000 with
 | 0 =>
  refine⟨m,?_⟩;simp only[aG,Rel];exact⟨_,_,rfl,⟨a,c,5,1,bs.length,eD bs,rfl,rfl⟩,_,_,rfl,⟨rfl,by decide⟩,_,_,rfl,⟨rfl,by decide⟩,b⟩
 | 1=>exact⟨rfl,rfl,by simp[ak],⟨h,a,c,rfl,fun e=>(n e).1⟩,qG bs⟩
 | j+2=>trivial
theorem CallsA.aaP {P:Program}{f:FuncId}{args:Array Value}{F:aF}{Lin:List Own}{R:aF->List Own->Value->Prop}(hent:∃fn,P.funcs[f]?=some fn/\fn.body.isSome=true/\(fn.name == "runtime.NumGoroutine")=false)
  (hmono:∀F G L v,F.le G->R F L v->R G L v) (h:∀w,St F (inp Lin) w->CallsA P f args F Lin R):CallsA P f args F Lin R:=⟨hent,hmono,fun w hs=>(h w hs).run w hs⟩
theorem CallsA.to {P:Program}{f:FuncId}{args:Array Value}{F:aF}{Lin:List Own}{R R':aF->List Own->Value->Prop}(h:CallsA P f args F Lin R)
  (a:∀F G L v,F.le G->R' F L v->R' G L v) (j:∀F L v,R F L v->R' F L v):CallsA P f args F Lin R':=⟨h.ent,a,fun w c=>(h.run w c).mono fun e w' ⟨v,F',Lo,d,b,k,l⟩=>⟨v,F',Lo,d,b,k,j _ _ _ l⟩⟩
theorem Zp {f t:Nat}{args:List C}{ec:List C}{bs:List UInt8}{ys:List UInt8}{r:C}(hp:eH ec=true) (hent:∃fn,Tryz.prog.funcs[f]?=some fn/\fn.body.isSome=true/\(fn.name == "runtime.NumGoroutine")=false)
  (hm:bs.length+ys.length<=70368744177664) (rv:Value) (hr:∀F L,Rel F L r rv)
  (h:∀F gb tb s c ex vs,j6 s bs.length c->aG F (inp (BO ex gb tb s 0 bs.length (eD bs))) args vs->CallsA PZ f vs.toArray F (BO ex gb tb s 0 bs.length (eD bs)) (RW ex gb tb bs.length ys.length (eD bs++eD ys) rv)) :
  CallsT PZ f args (Lr t ec bs) (jv (Lr t ec (bs++ys)) r):=by
 refine⟨fun F Li vs h1 h2 h3=>?_⟩;obtain⟨gb,tb,s,ex,rfl,ht,hm0,hex⟩:=Ue h1 h2;refine CallsA.aaP hent iB.aao fun w hs=>?_;obtain⟨c,hrv⟩:=Cy hs (k:=1001) rfl;have hA:=h F gb tb s c ex vs hrv h3;refine⟨hA.ent,iB.aao,fun w hs=>(hA.run w hs).mono ?_⟩;rintro e w' ⟨v,F',Lo,h1,h2,h3,s',c',hs',rfl,rfl⟩;refine⟨_,F',_,h1,h2,h3,?_⟩;have hl:(bs++ys).length=bs.length+ys.length:=aaR;rw[<-Iz,<-hl];rw[<-hl] at hs';refine⟨Lr t ec (bs++ys),r,rfl,Uf (eZ hp (hex.mono h3.le)) ht hs' (by rw[hl];simp only[maxLen];omega),hr _ _,fun i g t0 cs e=>?_,rfl,rfl⟩
 match i with
 | 0 =>
  injection e with e
  injection e with e1 e2 e3
  subst e1 e2;exact⟨_,rfl⟩
 | 1=>injection e with e;cases e
 | i+2=>cases e
theorem Sq:∃fn,Tryz.prog.funcs[101]?=some fn/\fn.body.isSome=true/\(fn.name == "runtime.NumGoroutine")=false:=⟨_,Tryz.func101,by kernel_rfl,by kernel_rfl⟩
theorem Ug:∃fn,Tryz.prog.funcs[48]?=some fn/\fn.body.isSome=true/\(fn.name == "runtime.NumGoroutine")=false:=⟨_,Tryz.func48,by kernel_rfl,by kernel_rfl⟩
theorem GL {F:aF}{b tb:Nat}{s:Value}{n:Nat}{xs ex:List Value}{v:Value}(h:Rel F (inp (BO ex b tb s 0 n xs)) (.own 1000 0) v):v=.pointer (some ⟨b,0,none⟩):=by
 simp only[Rel] at h;obtain⟨g,t,cs,e,rfl⟩:=h;have a:some (Own.box b (tb+1) (s::.int .i64 0::.int .i8 0::ex))=some (.box g t cs):=e;injection a with a
 injection a with e1
 rw[e1]
theorem Bl (t:Nat) (a:List C) (b:eH a=true) (bs:List UInt8) (x:UInt8) (e:bs.length+1<=70368744177664) :
  CallsT PZ 101 [.own 1000 0,.int .u8 x.toNat] (Lr t a bs) (jv (Lr t a (bs++[x])) (.opq 0)):=by
 refine Zp (ys:=[x]) b Sq e .nilIface (fun _ _=>Bv) fun F j tb s c ex vs h f=>?_;simp only[aG] at f;obtain⟨v1,_,rfl,k,l,_,rfl,d,rfl⟩:=f;rw[GL k];simp only[Rel] at d;rw[d.1];exact Ud F j tb s 0 bs.length c x.toNat (eD bs) h e (pK bs) (nT bs)
theorem Uh (t:Nat) (b:List C) (d:eH b=true) (bs ys:List UInt8) (e:bs.length+ys.length<=70368744177664) (n:0<bs.length+ys.length) :
  CallsT PZ 48 [.own 1000 0,.sl (ak ys)] (Lr t b bs) (jv (Lr t b (bs++ys)) (.tup [IC ys.length,.opq 0])):=by
 refine Zp d Ug e (.tuple #[.int .i64 ys.length,.nilIface]) (fun F L=>?_) fun F l tb s c ex vs k f=>?_
 ·simp only[Rel,aG];exact⟨[_,_],rfl,_,_,rfl,⟨rfl,by simp[Lit.wf,IntKind.min,IntKind.max,IntKind.signed,IntKind.bits];omega⟩,_,_,rfl,Bv,rfl⟩
 simp only[aG] at f;obtain⟨v1,_,rfl,m,p,_,rfl,j,rfl⟩:=f;rw[GL m];obtain⟨a,h,rfl,_,_,o⟩:=zj j;exact XT F l tb s 0 bs.length c ys.length h a (eD bs) (eD ys) k e n (pK bs) (nT bs) (pK ys) o (nT ys)
end Go.Fr.Tryz
