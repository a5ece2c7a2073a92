/- Part of the proofs of the statements of this seat. -/
import Derived.Test.YtnlegbokpofcaaaDoorSnE3G
import Derived.Test.YtnlegbokpofcaaaDoorFW3
import Derived.Test.YtnlegbokpofcaaaDoorSnW1G
set_option maxRecDepth 10000
set_option linter.unusedVariables false
set_option linter.unusedSimpArgs false
namespace Go.Fr.Tryd
open Go Go.RowKit Go.Proofs Go.Fr Go.Fr.T Go.Fr.Api
theorem R0 (d f:List (List C)) (b:Int) (x:Wd) (p:FO x) (bs:List UInt8) (hb:bs.length+(uy kW x).1.length<=70368744177664) :
  CallsT PZ 17 [.fn 32 [] [.own 1000 0,.pt (uI d f b x) 0]] (EB bs) (fun Mo c=>((uy kW x).2=true/\Mo=EB (bs++(uy kW x).1)/\c=.bool true)\/((uy kW x).2=false/\qP (EB bs) Mo/\c=.bool false)):=by
 have a:=t32 d f b x p bs hb;generalize uy kW x=e at a ⊢;obtain⟨s,q⟩:=e;generalize uI d f b x=es at a ⊢;refine gA (PS:=fun v=>v=eV/\q=false) (ns:=[1]) (out:=Il) Tryd.func17 uY (oO.mono vg fun v h=>h.1) (fun v h=>rfl) rfl rfl ?_ fun r o=>?_
 ·rintro v ⟨rfl,h⟩;refine⟨.bool false,.bool false,?_,?_,fun Mo k=>.inr ⟨h,k,rfl⟩⟩
  ·intro L ρ m;obtain⟨j,g,t,n⟩:=m 0 2 _ rfl rfl;simp only[kS,j,n];rfl
  ·intro F L;rw[Rel]
 refine⟨rfl,?_⟩;refine bP [1000,1001,1002] a rfl rfl rfl rfl (fun v h=>h) ?_;rintro v Mo ⟨l,rfl,rfl⟩ _ _;refine⟨rfl,?_⟩;exact cS [1000,1001,1002] rfl rfl rfl rfl (.inl ⟨l,rfl,rfl⟩)
def rM (x:Wd):List UInt8:=if(uy kW x).2=true then gG (dL++(uy kW x).1) else[]
theorem w8:dL.length=3:=rfl
theorem R2:CallsT PZ 27 [.own 1000 0,.sl (af dL)] [.box 66 [.nils,IC 0,.int .i8 0]] (iZ (H9 66 [] dL) (.tup [IC 3,.opq 0])) :=
 CallsT.gives (Pf 66 [] rfl [] dL (by decide) (by decide))
  ⟨.inl ⟨_,rfl,.inr ⟨66,_,_,rfl,rfl,⟨_,_,rfl,tQ rfl rfl,⟨_,_,rfl,aq rfl,⟨_,_,rfl,aq rfl,rfl⟩⟩⟩⟩⟩,.inr ⟨rfl,5,1,rfl⟩,trivial⟩ (by decide)
theorem SE (f j:List (List C)) (d:Int) (x:Wd) (l:FO x) (hb:(uy kW x).1.length<=35184372088832) :
  CallsT PZ 10 [.agg (uI f j d x)] [] (iZ [.row 5 1 (af (rM x))] (.rw 1000)):=by
 have a:=R0 f j d x l dL (by rw[w8];omega);have h:=SB (dL++(uy kW x).1) (by simp[w8];omega);have b:rM x=if(uy kW x).2=true then gG (dL++(uy kW x).1) else[]:=rfl;generalize rM x=eb at b ⊢;generalize uy kW x=e at a b h;obtain⟨m,o⟩:=e;refine au Tryd.func10 J5 rfl fun n k=>?_;refine jx t31 rfl fun _=>?_;refine zS [5] [5,6] R2 rfl rfl rfl rfl rfl fun _ _=>?_;refine Am [3,5,6] a rfl rfl rfl rfl ?_;rintro v Mo (⟨c,rfl,rfl⟩ | ⟨c,⟨p,M1,rfl,q,M2,rfl,M3,rfl,rfl⟩,rfl⟩) _ _
 ·refine⟨rfl,?_⟩;refine uo [6] [5] [5] (NK 66 (dL++m)) ⟨_,rfl,rfl,rfl,rfl,rfl,fun _ _=>?_⟩;refine callO [] [18] h rfl rfl rfl rfl rfl fun _ _=>?_;exact xN [18] rfl rfl (by rw[b,c];rfl) rfl
 ·refine⟨rfl,?_⟩;refine O7 ?_;exact PI 2 5 1 rfl rfl (by rw[b,vv (by rw[c];exact XZ)];rfl)
end Go.Fr.Tryd
namespace Go.Fr.Tryd
open Go Go.RowKit Go.Proofs Go.Fr Go.Fr.T Go.Fr.Api Go.Fr.Dm
def bN (n:Nat):Nat:=(n+31) / 32
def kX (a b:List UInt8) (i:Nat):Bool:=!decide (cg b i <+: cg a i)
def gO (a b:List UInt8):List Nat:=(List.range (bN b.length)).filter (kX a b)
def iW:List Int->List UInt8
 | []=>[]
 | n::l=>bQ (zz n)++iW l
def xg (b:List UInt8):Int->List Nat->List UInt8
 | _,[]=>[]
 | p,i::r=>bQ (zz (i-p))++(cg b i++xg b i r)
def mH (a b:List UInt8):List Int:=[a.length,jd a,b.length,jd b,(gO a b).length]
def cj (a b:List UInt8):List UInt8:=iW (mH a b)++xg b (-1) (gO a b)
def uJ (l:List Nat):List (List C):=l.map fun(i:Nat)=>([IC (i:Int)]:List C)
theorem xh (l:List Nat):(uJ l).length=l.length:=by simp[uJ]
theorem LH {l:List Nat}{k i:Nat}(h:l[k]?=some i):(uJ l)[k]?=some [IC i]:=by simp[uJ,h]
theorem xj {a b:List UInt8}{i:Nat}(h:i∈gO a b):i<bN b.length:=by
 simp only[gO,List.mem_filter,List.mem_range] at h;exact h.1
theorem Ao (a b:List UInt8):(gO a b).length<=bN b.length:=by
 have:=List.length_filter_le (kX a b) (List.range (bN b.length));simpa[gO] using this
theorem Ap:∀(f z:Nat),z<128 ^ (f+1)->(bQ z).length<=f+1
 | 0,z,h=>by rw[bQ,dif_pos (by omega)];simp
 | f+1,z,h=>by
  rw[bQ];split
  ·simp
  ·have:=Ap f (z / 128) (by rw[Nat.pow_succ] at h;omega);simp only[Xv];omega
theorem Im (n:Int) (m:Nat) (a:-(m:Int)<=n) (b:n<=m):zz n<=2*m:=by
 unfold zz;split<;>omega
theorem mI (n:Int) (a:-2305843009213693952<=n) (b:n<=2305843009213693952):(bQ (zz n)).length<=10 :=
 Ap 9 _ (Nat.lt_of_le_of_lt (Im n 2305843009213693952 a b) (by decide))
def Sm (n:Int):Prop:=-2305843009213693952<=n/\n<=2305843009213693952
theorem y9:∀(l:List Int),(∀n∈l,Sm n)->(iW l).length<=10*l.length
 | [],_=>by simp[iW]
 | n::l,h=>by
  have b:=mI n (h n (by simp)).1 (h n (by simp)).2;have c:=y9 l fun m a=>h m (by simp[a]);simp only[iW,Xg,Xv];omega
theorem BX (b:List UInt8) (i:Nat):(cg b i).length<=32:=by unfold cg;rw[Xx];omega
theorem Aq (b:List UInt8):∀(p:Int) (l:List Nat),-1<=p->p<=1152921504606846976->(∀i∈l,i<=1152921504606846976)->(xg b p l).length<=42*l.length
 | p,[],_,_,_=>by simp[xg]
 | p,i::l,f,d,h=>by
  have hi:=h i (by simp);have c:=mI (i-p) (by omega) (by omega);have j:=Aq b i l (by omega) (by omega) fun m a=>h m (by simp[a]);have e:=BX b i;simp only[xg,Xg,Xv];omega
theorem PJ {els:List (List C)}{c:List C}{K:Prop}(n:Nat) (d:c.length=1) (b:els.length=n) (h:n<=2 ^ 40) (k:K):rz els [c] 1 8 K :=
 ⟨fun es a=>(by rcases Xh.1 a with rfl | a;exact d;cases a),by rw[b];simp only[Xv,XJ,maxLen];omega,by
  rw[b];simp only[Xv,XJ];omega,k⟩
theorem FA (s:List Nat) (k:Nat):uJ s++[[IC (k:Int)]]=uJ (s++[k]):=by simp[uJ]
theorem R3 {l:List Nat}{k:Nat}{x:Nat}{K:List C->Prop}(a:l[k]?=some x) (h:K [IC (x:Int)]):Cw (uJ l) (k:Int) 1 K:=⟨[IC (x:Int)],by omega,LH a,rfl,h⟩
set_option maxRecDepth 20000 in
theorem t8 (a b:List UInt8) (ha:a.length<=1073741824) (hb:b.length<=1073741824) :
  CallsT PZ 8 [.sl (af a),.sl (af b)] [] (iZ [] (.sl (af (cj a b)))):=by
 have ag:(af a).length=a.length:=aK;have y:(af b).length=b.length:=aK;obtain⟨n,z⟩:∃n,bN b.length=n:=⟨_,rfl⟩;have ba:n<=33554433:=by rw[<-z];unfold bN;omega
 have ae:CallsT PZ 23 [IC ((af b).length:Nat)] [] (iZ [] (IC (n:Nat))):=by
  rw[y,<-z];exact SD b.length (by omega)
 refine au Tryd.func8 Nz rfl fun hw bb=>?_;refine bO ae rfl fun _=>?_;refine bX n 16 [5] [] (fun _=>[.rw 30]) (fun s:List Nat=>[(30,.row 3 1 (uJ s))]) (fun k s=>s=(List.range k).filter (kX a b)) rfl (aq rfl) ⟨tQ rfl rfl,trivial⟩ ⟨.inr ⟨rfl,3,1,rfl⟩,trivial⟩ (fun _=>rfl) (fun _=>rfl) ?_;rintro k s hk j _ _ r;refine aR (fun c=>?_) (fun o=>?_)
 ·have c:k<n:=by omega
  have aE:s.length<=k:=by
   have:=List.length_filter_le (kX a b) (List.range k);rw[j];simpa using this
  have ac:(List.range (k+1)).filter (kX a b)=s++if kX a b k=true then[k] else[]:=by
   rw[List.range_succ,List.filter_append,<-j];congr 1;cases e:kX a b k<;>simp[e]
  refine bO (RZ a k (by omega)) rfl fun _=>?_;refine bO (RZ b k (by omega)) rfl fun _=>?_;refine bO (SC (cg a k) (cg b k)) rfl fun _=>?_;refine aH (fun t=>?_) (fun t=>?_)
  ·have t:kX a b k=true:=t;refine PJ s.length rfl (xh s) (by omega) ?_;refine Fit.Ww (by omega) (by omega) ?_;refine⟨(k+1,s++[k]),⟨c,by rw[ac,j3 t]⟩,⟨cG,aq rfl,trivial⟩,⟨.inl ⟨_,rfl,.inl ⟨p7 (TO.row 3 1) (FA s k),rfl⟩⟩,trivial⟩,cH c⟩
  ·have t:kX a b k=false:=t;refine Fit.Ww (by omega) (by omega) ?_;refine⟨(k+1,s),⟨c,by rw[ac,vv (by rw[t];exact XZ),Xz]⟩,⟨cG,aq rfl,trivial⟩,⟨.inl ⟨_,rfl,.inl ⟨rfl,rfl⟩⟩,trivial⟩,cH c⟩
 have j:s=gO a b:=by
  have:k=n:=by omega
  rw[j,this,<-z];rfl
 have be:s.length<=n:=by rw[j,<-z];exact Ao a b
 have bd:=jE a;have bc:=jE b;have ad:[((af a).length:Int),jd a,((af b).length:Int),jd b,((uJ s).length:Int)]=mH a b:=by rw[ag,y,xh,j];rfl
 have aa:∀m∈mH a b,Sm m:=by
  intro m hm;simp only[mH,<-j,Xh,List.not_mem_nil,or_false] at hm;unfold Sm;rcases hm with rfl | rfl | rfl | rfl | rfl<;>omega
 refine bO (t9 a) rfl fun _=>?_;refine bO (t9 b) rfl fun _=>?_;have hN:=y9 _ aa;have h5:(mH a b).length=5:=rfl;have hD:(cj a b).length<=50+42*s.length:=by
  have:=Aq b (-1) (gO a b) (by omega) (by omega) fun i hi=>by have:=xj hi;omega
  rw[<-j] at this;rw[cj,Xg,<-j];omega
 refine bX 5 46 [] [] (fun _=>[]) (fun d:List UInt8=>[(33,.box 66 [.rw 60,IC 0,.int .i8 0]),(60,.row 5 1 (af d))]) (fun k d=>d++iW ((mH a b).drop k)=iW (mH a b)) rfl (aq rfl) trivial
  ⟨.inl ⟨_,rfl,.inr ⟨66,_,_,rfl,rfl,⟨_,_,rfl,tQ rfl rfl,⟨_,_,rfl,aq rfl,⟨_,_,rfl,aq rfl,rfl⟩⟩⟩⟩⟩,.inr ⟨rfl,5,1,rfl⟩,trivial⟩ (fun _=>rfl) (fun _=>rfl) ?_
 rintro k d hk f _ _ r;refine aR (fun c=>?_) (fun o=>?_)
 ·have h:(k:Int)<(5:Nat):=c;have h:k<5:=by omega
  refine ef (l:=mH a b) h fun x hx u v=>?_;rw[v] at f;obtain⟨x1,x2⟩:=aa x u;have al:=mI x x1 x2;have an:d.length+10<=1000:=by
   have:=p7 List.length f;rw[Xg] at this;omega
  refine NI (l:=[((af a).length:Int),jd a,((af b).length:Int),jd b,((uJ s).length:Int)]) (by rw[ad];exact hx) ?_;refine callO [33,60] [33,60] (Pg 66 d x (by omega) (by omega) (by omega)) rfl rfl rfl rfl rfl fun _ _=>?_;refine Fit.Ww (by omega) (by omega) ?_;refine⟨(k+1,d++bQ (zz x)),⟨h,by rw[Xk];exact f⟩,⟨cG,trivial⟩,⟨.inl ⟨_,rfl,.inl ⟨rfl,rfl⟩⟩,.inl ⟨_,rfl,.inl ⟨rfl,rfl⟩⟩,trivial⟩,cH h⟩
 have ar:¬(k:Int)<(5:Nat):=o;have f:d=iW (mH a b):=by
  rw[List.drop_eq_nil_of_le (by omega)] at f;simpa[iW] using f
 have av:(uJ s).length=s.length:=xh s;refine bX s.length 56 [10] (d,(-1:Int)) (fun x:List UInt8×Int=>[IC x.2]) (fun x=>[(33,.box 66 [.rw 60,IC 0,.int .i8 0]),(60,.row 5 1 (af x.1))])
  (fun k x=>x.1++xg b x.2 (s.drop k)=cj a b/\-1<=x.2/\x.2<=33554433) ⟨by rw[f,j];rfl,by omega,by omega⟩ (aq rfl) ⟨aq rfl,trivial⟩
  ⟨.inl ⟨_,rfl,.inl ⟨rfl,rfl⟩⟩,.inl ⟨_,rfl,.inl ⟨rfl,rfl⟩⟩,trivial⟩ (fun _=>rfl) (fun _=>rfl) ?_
 rintro k ⟨d,p⟩ hk ⟨f,ab,w⟩ _ _ r;refine aR (fun c=>?_) (fun o=>?_)
 ·have c:k<s.length:=by omega
  refine ef c fun x hx u v=>?_;have f:d++xg b p (s.drop k)=cj a b:=f;rw[v] at f;have ab:-1<=p:=ab;have w:p<=33554433:=w;have ay:x<n:=by rw[<-z];exact xj (by rw[<-j];exact u)
  have al:=mI (x-p) (by omega) (by omega);have aw:=BX b x;have an:d.length<=50+42*s.length:=by
   have:=p7 List.length f;rw[Xg] at this;omega
  refine R3 hx ?_;refine Fit.Ww (by omega) (by omega) ?_;refine callO [33,60] [33,60] (Pg 66 d (x-p) (by omega) (by omega) (by omega)) rfl rfl rfl rfl rfl fun _ _=>?_;refine jx (RZ b x (by omega)) rfl fun _=>?_;refine zS [33,60] [33,60] (Pf 66 [] rfl (d++bQ (zz (x-p))) (cg b x) (by rw[Xg];omega) (by have:=hO (zz (x-p));rw[Xg];omega)) rfl rfl rfl rfl rfl fun _ _=>?_;refine Fit.Ww (by omega) (by omega) ?_;refine⟨(k+1,(d++bQ (zz (x-p))++cg b x,(x:Int))),⟨c,by simpa[xg] using f,by show(-1:Int)<=(x:Int);omega,by show(x:Int)<=33554433;omega⟩,⟨cG,aq rfl,trivial⟩,⟨.inl ⟨_,rfl,.inl ⟨rfl,rfl⟩⟩,.inl ⟨_,rfl,.inl ⟨rfl,rfl⟩⟩,trivial⟩,cH c⟩
 have o:¬k<s.length:=by omega
 have f:d++xg b p (s.drop k)=cj a b:=f;have f:d=cj a b:=by
  rw[List.drop_eq_nil_of_le (by omega)] at f;simpa[xg] using f
 refine uo [60] [33] [33] (NK 66 d) ⟨_,rfl,rfl,rfl,rfl,rfl,fun _ _=>?_⟩;exact bD rfl (p7 (fun q=>C.sl (af q)) f)
end Go.Fr.Tryd
namespace Go.Fr.Tryd
open Go Go.RowKit Go.Proofs Go.Fr Go.Fr.T Go.Fr.Api
def w0:Wd:=⟨[],[],[],[],[],0,0,0⟩
def DB (bs:List UInt8) (cs:List C):List TO:=[.box 52 [.own 1001 0],RB bs,.box 44 cs]
def oK (bs:List UInt8):Option Wd:=match Ed bs with
 | some (x,[])=>some x
 | _=>none
theorem FB {bs:List UInt8}(h:Ed bs=none):oK bs=none:=by unfold oK;rw[h]
theorem FC {bs r:List UInt8}{x:Wd}(h:Ed bs=some (x,r)) (a:decide (((af r).length:Int)=0)=false):oK bs=none:=by
 unfold oK;rw[h];cases r with
 | nil=>simp[af] at a
 | cons=>rfl
theorem FD {bs r:List UInt8}{x:Wd}(h:Ed bs=some (x,r)) (b:decide (((af r).length:Int)=0)=true):oK bs=some x/\r=[]:=by
 unfold oK;rw[h];cases r with
 | nil=>exact⟨rfl,rfl⟩
 | cons a l=>simp[af] at b;omega
theorem t35 (d b:List (List C)) (a:Int) (bs:List UInt8) :
  CallsTX PZ 35 [.own 1000 0,.own 1002 0] (DB bs (uI d b a w0)) (fun Mo c=>∃x,oK bs=some x/\Mo=DB [] (uI d b a x)/\c=.tup []) (fun v=>v=eV/\oK bs=none):=by
 refine ai Tryd.func35 Kt rfl fun l j=>?_;refine bP [1001,1002] (Rs 44 d b a bs) rfl rfl rfl rfl (fun v h=>⟨h.1,FB h.2⟩) ?_;rintro v Mo ⟨x,r,e,rfl,rfl⟩ _ _;refine⟨rfl,?_⟩;refine bP [] (sQ (decide (((af r).length:Int)=0))) rfl rfl rfl rfl (fun v h=>⟨h.1,FC e h.2⟩) ?_;rintro v Mo ⟨f,rfl,rfl⟩ _ _;refine⟨rfl,?_⟩;obtain⟨k,rfl⟩:=FD e f;exact cS [1000,1001,1002] rfl rfl rfl rfl ⟨x,k,rfl,rfl⟩
theorem R4 (b d:List (List C)) (a:Int) (bs:List UInt8) :
  CallsT PZ 17 [.fn 35 [] [.own 1000 0,.own 1002 0]] (DB bs (uI b d a w0)) (fun Mo c=>(∃x,oK bs=some x/\Mo=DB [] (uI b d a x)/\c=.bool true)\/(oK bs=none/\qP (DB bs (uI b d a w0)) Mo/\c=.bool false)):=by
 refine gA (PS:=fun v=>v=eV/\oK bs=none) (ns:=[1]) (out:=Il) Tryd.func17 uY (oO.mono vg fun v h=>h.1) (fun v h=>rfl) rfl rfl ?_ fun n m=>?_
 ·rintro v ⟨rfl,h⟩;refine⟨.bool false,.bool false,?_,?_,fun Mo f=>.inr ⟨h,f,rfl⟩⟩
  ·intro L ρ k;obtain⟨e,g,t,l⟩:=k 0 2 _ rfl rfl;simp only[kS,e,l];rfl
  ·intro F L;rw[Rel]
 refine⟨rfl,?_⟩;refine bP [1000,1001,1002] (t35 b d a bs) rfl rfl rfl rfl (fun v h=>h) ?_;rintro v Mo ⟨x,j,rfl,rfl⟩ _ _;refine⟨rfl,?_⟩;exact cS [1000,1001,1002] rfl rfl rfl rfl (.inl ⟨x,j,rfl,rfl⟩)
theorem tV {L L1:TL}:IJ L L1 .nils (.sl []):=.inr (.inr (.inl ⟨rfl,rfl⟩))
theorem iI {t:Nat}(n:Nat) (F:aA) (L:Loc) (p:Own) (r:cO F L (.box t (List.replicate n .any)) p):cO F L (.win t (List.replicate n .any) [] []) p :=
 u7 (by simp) (yV n) (fun c h=>by cases h) F L p r
theorem PK (b d:List (List C)) (a:Int) (bs:List UInt8) :
  CallsT PZ 17 [.fn 35 [] [.own 1000 0,.own 1002 0]] [.box 52 [.own 1001 0],RB bs,.box 44 [.sl b,.sl d,IC a,.nils,.nils,.nils,.nils,.nils,IC 0,IC 0,IC 0]]
   (fun Mo c=>(∃x,oK bs=some x/\Mo=DB [] (uI b d a x)/\c=.bool true)\/(oK bs=none/\(∃f k l,Mo=[.win 52 f [] [],.win 54 k [] [],.win 44 l [] []])/\c=.bool false)) :=
 (((CallsT.gives (Lin:=[.box 52 [.own 1001 0],RB bs,.box 44 [.sl b,.sl d,IC a,.nils,.nils,.nils,.nils,.nils,IC 0,IC 0,IC 0]]) (R4 b d a bs)
    ⟨.inl ⟨_,rfl,.inl ⟨rfl,rfl⟩⟩,.inl ⟨_,rfl,.inl ⟨rfl,rfl⟩⟩,.inl ⟨_,rfl,.inr ⟨44,_,_,rfl,rfl,⟨_,_,rfl,aq rfl,⟨_,_,rfl,aq rfl,⟨_,_,rfl,aq rfl,⟨_,_,rfl,tV,⟨_,_,rfl,tV,⟨_,_,rfl,tV,⟨_,_,rfl,tV,⟨_,_,rfl,tV,⟨_,_,rfl,aq rfl,⟨_,_,rfl,aq rfl,⟨_,_,rfl,aq rfl,rfl⟩⟩⟩⟩⟩⟩⟩⟩⟩⟩⟩⟩⟩,trivial⟩ (Xy 3):CallsT PZ 17 _ _ _).toX (Pp:=fun _=>False)).view (vw.refl _) (by
  rintro Mo c (h | ⟨j,⟨m,M1,rfl,n,M2,rfl,e,M3,rfl,rfl⟩,rfl⟩)
  ·exact⟨Mo,vw.refl _,.inl h⟩
  ·exact⟨_,vw.cons (iI m) (vw.cons (iI n) (vw.cons (iI e) (vw.refl []))),.inr ⟨j,⟨_,_,_,rfl⟩,rfl⟩⟩) fun _ h=>h).noPan
def xk (bs:List UInt8):Option Wd×Int :=
 if bs.length<7\/¬dL <+: bs then(none,16)
 else if¬gG (bs.take (bs.length-4))=bs then(none,17)
 else match oK ((bs.take (bs.length-4)).drop 3) with
  | some x=>(some x,0)
  | none=>(none,16)
def R5 (c b:List (List C)) (a:Int):Option Wd×Int->C
 | (some x,e)=>.tup [.agg (uI c b a x),IC e]
 | (none,e)=>.tup [.agg (uI [] [] 0 w0),IC e]
theorem SF (o p:List (List C)) (m:Int) (bs:List UInt8) (hb:bs.length<=70368744177664) :
  CallsT PZ 11 [.agg [.sl o,.sl p,IC m],.sl (af bs)] [] (iZ [] (R5 o p m (xk bs))):=by
 have j:(af bs).length=bs.length:=aK;obtain⟨s,k⟩:∃s,bs.take (bs.length-4)=s:=⟨_,rfl⟩;have ag:s.length<=bs.length:=by rw[<-k,Xx];omega
 obtain⟨d,e⟩:∃d,xk bs=d:=⟨_,rfl⟩;rw[e];have z:bs.length<7->d=(none,16):=fun h=>by rw[<-e];unfold xk;rw[j3 (.inl h)]
 have y:¬dL <+: bs->d=(none,16):=fun h=>by rw[<-e];unfold xk;rw[j3 (.inr h)]
 have r:¬bs.length<7->dL <+: bs->¬gG s=bs->d=(none,17):=fun a w h3=>by
  rw[<-e];unfold xk;rw[vv (fun h=>h.elim a (fun h=>h w)),k,j3 h3]
 have l:¬bs.length<7->dL <+: bs->gG s=bs->d=match oK (s.drop 3) with | some x=>(some x,0) | none=>(none,16):=fun a w h3=>by
  rw[<-e];unfold xk;rw[vv (fun h=>h.elim a (fun h=>h w)),k,vv (fun h=>h h3)]
 have f:=PK o p m (s.drop 3);generalize oK (s.drop 3)=ad at l f;refine au Tryd.func11 J6 rfl fun hw al=>?_;refine aR (fun h0=>?_) (fun h0=>?_)
 ·exact bD rfl (by rw[z (by omega)];rfl)
 have h7:¬bs.length<7:=by omega
 have n:((af bs).drop 0).take (((af bs).length-4:Int).toNat-0)=af s:=by
  rw[eO,j,show((bs.length:Int)-4).toNat-0=bs.length-4 by omega,<-k];rfl
 have e2:(3:Int)<=((((af bs).drop 0).take (((af bs).length-4:Int).toNat-0)).length:Int):=by rw[n,aK,<-k,Xx];omega
 have e3:∀es∈(((af bs).drop 0).take (((af bs).length-4:Int).toNat-0)),es.length=1:=by rw[n];exact eC
 have t:((((af bs).drop 0).take (((af bs).length-4:Int).toNat-0)).drop 3).take (((((af bs).drop 0).take (((af bs).length-4:Int).toNat-0)).length:Int).toNat-3)=af (s.drop 3):=by
  rw[n,eO,aK,XS (by simp)]
 refine bO t31 rfl fun _=>?_;refine bO (SC bs dL) rfl fun _=>?_;refine aH (fun a=>?_) (fun a=>?_)
 ·have a:(!decide (dL <+: bs))=true:=a;exact bD rfl (by rw[y (by simpa using a)];rfl)
 have a:(!decide (dL <+: bs))=false:=a;have a:dL <+: bs:=by simpa using a
 refine Fit.Ww (by omega) (by omega) ?_;refine xL.mk (by omega) (by omega) (by omega) eC ?_;refine callO [] [25] (SB s (by omega)) rfl rfl (p7 (fun q=>[C.sl q]) n) rfl rfl fun _ _=>?_;refine uo [25] [] [] (t22 (gG s) bs) ⟨_,rfl,rfl,rfl,rfl,rfl,fun _ _=>?_⟩;refine aH (fun b=>?_) (fun c=>?_)
 ·have b:(!decide (gG s=bs))=true:=b;exact bD rfl (by rw[r h7 a (by simpa using b)];rfl)
 have c:(!decide (gG s=bs))=false:=c;have h4:=l h7 a (by simpa using c);refine xL.mk (by decide) e2 (XF _) e3 ?_;refine Am [7,33,8] f rfl rfl rfl (p7 (fun q=>[TO.box 52 [C.own 1001 0],.box 54 [.sl q],.box 44 [.sl o,.sl p,IC m,.nils,.nils,.nils,.nils,.nils,IC 0,IC 0,IC 0]]) t) ?_;rintro v Mo (⟨x,u,rfl,rfl⟩ | ⟨u,⟨p1,p2,p3,rfl⟩,rfl⟩) _ _
 ·refine⟨rfl,?_⟩;exact bD rfl (by rw[h4,u];rfl)
 ·refine⟨rfl,?_⟩;exact bD rfl (by rw[h4,u];rfl)
structure NZ where
 slot:Int
 excl:Bool
 re:Bool
structure Slot where
 state:Int
 type:Ty
 var:Int
 flag:Int
 lent:List NZ
structure FE where
 name:ByteArray
 params:List Ty
 result:Ty
 ties:List Int
 slots:Int
 blocks:List Block
 entry:List (List Slot)
structure Ms where
 datas:List Api.Data
 routs:List FE
 main:Int
def BZ (x:NZ):List C:=[IC x.slot,.bool x.excl,.bool x.re]
def jF (x:Slot):List C:=[IC x.state,IC x.type.kind,IC x.type.id,.sl (x.type.args.map u5),IC x.var,IC x.flag,.sl (x.lent.map BZ)]
def rN (l:List Slot):List C:=[.sl (l.map jF)]
def kZ (r:FE):List C:=[.str r.name,.sl (r.params.map u5),IC r.result.kind,IC r.result.id,.sl (r.result.args.map u5),.sl (wN r.ties),IC r.slots,.sl (r.blocks.map jA),.sl (r.entry.map rN)]
def PL (i:Ms):List C:=[.sl (i.datas.map kN),.sl (i.routs.map kZ),IC i.main]
def IQ (t:Ty):C:=.agg [IC t.kind,IC t.id,.sl (t.args.map u5)]
noncomputable def Io (p:Prop):Bool:=@decide p (Classical.propDecidable p)
theorem Ar {p:Prop}:Io p=true↔p:=by unfold Io;exact @decide_eq_true_iff p (Classical.propDecidable p)
theorem kQ {p:Prop}(h:Io p=true):p:=Ar.1 h
theorem ld {p:Prop}(h:Io p=false):¬p:=fun q=>by rw[Ar.2 q] at h;cases h
theorem bJ {p:Prop}(h:¬p):false=Io p:=by
 cases e:Io p with
 | true=>exact v7 (kQ e) h
 | false=>rfl
theorem jG {p:Prop}(h:p):true=Io p:=(Ar.2 h).symm
theorem iX {p q:Prop}(h:p↔q):Io p=Io q:=by rw[show p=q from propext h]
theorem m9 {c:Type}{a b:List c}(h:¬a.length=b.length):a≠b:=fun e=>h (by rw[e])
theorem iJ {c:Type}{a b:List c}{n:Nat}(d:a.length=n) (hb:b.length=n) (h:∀j<n,a[j]?=b[j]?):a=b:=by
 apply XP;intro i
 by_cases hi:i<n
 ·exact h i hi
 ·rw[Xn (by omega),Xn (by omega)]
theorem ni {d:Type}{a b:List d}{k:Nat}{x y:d}(c:a[k]?=some x) (f:b[k]?=some y) (h:x≠y):a≠b:=fun e=>h (by rw[e,f] at c;injection c with c;exact c.symm)
theorem iK {d:Type}{a b:List d}{k:Nat}{x y:d}(h:∀j<k,a[j]?=b[j]?) (f:a[k]?=some x) (l:b[k]?=some y) (e:x=y):∀j<k+1,a[j]?=b[j]?:=by
 intro j m
 by_cases c:j=k
 ·rw[c,f,l,e]
 ·exact h j (by omega)
theorem gh {a:Type}{l:List a}{k:Nat}(h:k<l.length):∃x,l[k]?=some x:=⟨l[k],x5 h⟩
theorem Au {a b:ByteArray}(h:a.data.toList=b.data.toList):a=b:=by
 cases a;cases b;simp only at h;rw[Array.toList_inj.1 h]
def fB (f:Nat) (args:List C) (p:Prop):Prop:=CallsT PZ f args [] (iZ [] (.bool (Io p)))
theorem R6 (a b:List (Int)):fB 79 [.sl (wN a),.sl (wN b)] (a=b):=by
 refine au Tryd.func79 KP rfl fun r _=>?_;have m:(wN a).length=a.length:=by simp[wN]
 have hb:(wN b).length=b.length:=by simp[wN]
 have s:a.length<=9223372036854775807:=by have:=mD r.1;rwa [m] at this
 refine aH (fun d=>?_) (fun d=>?_)
 ·have d:¬a.length=b.length:=fun e=>by
   rw[m,hb,e] at d;simp at d
  exact bD rfl (p7 C.bool (bJ (m9 d)))
 have d:a.length=b.length:=by
  rw[m,hb] at d;simp at d;omega
 refine bX a.length 13 [] () (fun _=>[]) (fun _=>[]) (fun k _=>∀j<k,a[j]?=b[j]?) (fun j q=>v7 q (by omega)) (aq rfl) trivial trivial (fun _=>rfl) (fun _=>rfl) ?_;rintro k ⟨⟩ t f _ _ _;refine aR (fun c=>?_) (fun n=>?_)
 ·have c:k<a.length:=by rw[m] at c;omega
  obtain⟨x,o⟩:=gh c;obtain⟨y,p⟩:=gh (l:=b) (k:=k) (by omega);refine NI o ?_;refine NI p ?_;refine aH (fun h=>?_) (fun h=>?_)
  ·have h:¬x=y:=by simpa using h
   exact bD rfl (p7 C.bool (bJ (ni o p h)))
  ·have h:x=y:=by simpa using h
   refine Fit.Ww (by omega) (by omega) ?_;exact⟨(k+1,()),⟨c,iK f o p h⟩,⟨cG,trivial⟩,trivial,cH c⟩
 ·have n:¬k<a.length:=by rw[m] at n;omega
  have:k=a.length:=by omega
  subst this;exact bD rfl (p7 C.bool (jG (iJ rfl d.symm f)))
theorem VZ (a b:List (NZ)):fB 94 [.sl (a.map BZ),.sl (b.map BZ)] (a=b):=by
 refine au Tryd.func94 K3 rfl fun r _=>?_;have m:(a.map BZ).length=a.length:=by simp
 have hb:(b.map BZ).length=b.length:=by simp
 have s:a.length<=9223372036854775807:=by have:=mD r.1;rwa [m] at this
 refine aH (fun d=>?_) (fun d=>?_)
 ·have d:¬a.length=b.length:=fun e=>by
   rw[m,hb,e] at d;simp at d
  exact bD rfl (p7 C.bool (bJ (m9 d)))
 have d:a.length=b.length:=by
  rw[m,hb] at d;simp at d;omega
 refine bX a.length 13 [] () (fun _=>[]) (fun _=>[]) (fun k _=>∀j<k,a[j]?=b[j]?) (fun j q=>v7 q (by omega)) (aq rfl) trivial trivial (fun _=>rfl) (fun _=>rfl) ?_;rintro k ⟨⟩ t f _ _ _;refine aR (fun c=>?_) (fun n=>?_)
 ·have c:k<a.length:=by rw[m] at c;omega
  obtain⟨x,o⟩:=gh c;obtain⟨y,p⟩:=gh (l:=b) (k:=k) (by omega);refine jy o rfl rfl ?_;refine jy p rfl rfl ?_;refine aH (fun h=>?_) (fun h=>?_)
  ·have h:¬x=y:=fun e=>by subst e;simp[mX] at h
   exact bD rfl (p7 C.bool (bJ (ni o p h)))
  ·have h:x=y:=by cases x;cases y;simp[mX] at h;simp[h]
   refine Fit.Ww (by omega) (by omega) ?_;exact⟨(k+1,()),⟨c,iK f o p h⟩,⟨cG,trivial⟩,trivial,cH c⟩
 ·have n:¬k<a.length:=by rw[m] at n;omega
  have:k=a.length:=by omega
  subst this;exact bD rfl (p7 C.bool (jG (iJ rfl d.symm f)))
theorem V0 (a b:List (Ty)) (q:∀x∈a,∀y,fB 77 [IQ x,IQ y] (x=y)):fB 87 [.sl (a.map u5),.sl (b.map u5),.fn 77 [] []] (a=b):=by
 refine au Tryd.func87 KW rfl fun s _=>?_;have m:(a.map u5).length=a.length:=by simp
 have hb:(b.map u5).length=b.length:=by simp
 have t:a.length<=9223372036854775807:=by have:=mD s.1;rwa [m] at this
 refine aH (fun d=>?_) (fun d=>?_)
 ·have d:¬a.length=b.length:=fun e=>by
   rw[m,hb,e] at d;simp at d
  exact bD rfl (p7 C.bool (bJ (m9 d)))
 have d:a.length=b.length:=by
  rw[m,hb] at d;simp at d;omega
 refine bX a.length 17 [] () (fun _=>[]) (fun _=>[]) (fun k _=>∀j<k,a[j]?=b[j]?) (fun j r=>v7 r (by omega)) (aq rfl) trivial trivial (fun _=>rfl) (fun _=>rfl) ?_;rintro k ⟨⟩ u f _ _ _;refine aR (fun c=>?_) (fun n=>?_)
 ·have c:k<a.length:=by rw[m] at c;omega
  obtain⟨x,o⟩:=gh c;obtain⟨y,p⟩:=gh (l:=b) (k:=k) (by omega);refine Mc o ?_;refine Mc p ?_;refine bO (q x (Xi o) y) rfl fun _=>?_;refine aH (fun h=>?_) (fun h=>?_)
  ·have h:¬x=y:=ld (by simpa using h);exact bD rfl (p7 C.bool (bJ (ni o p h)))
  ·have h:x=y:=kQ (by simpa using h);refine Fit.Ww (by omega) (by omega) ?_;exact⟨(k+1,()),⟨c,iK f o p h⟩,⟨cG,trivial⟩,trivial,cH c⟩
 ·have n:¬k<a.length:=by rw[m] at n;omega
  have:k=a.length:=by omega
  subst this;exact bD rfl (p7 C.bool (jG (iJ rfl d.symm f)))
theorem SG (a b:List (Ty)) (c:∀x∈a,∀y,fB 77 [IQ x,IQ y] (x=y)):fB 76 [.sl (a.map u5),.sl (b.map u5),.fn 77 [] []] (a=b):=by
 refine au Tryd.func76 KM rfl fun d _=>?_;refine bO (V0 a b c) rfl fun _=>?_;exact bD rfl rfl
theorem PN {x y:Ty}(c:x.kind=y.kind) (a:x.id=y.id) (b:x.args=y.args):x=y:=by
 cases x;cases y
 simp_all [Ty.kind,Ty.id,Ty.args]
theorem PO {x t:Ty}(h:x∈t.args):SizeOf.sizeOf x<SizeOf.sizeOf t:=by
 cases t;have:=List.sizeOf_lt_of_mem h;simp only[Ty.args] at this;simp only[Ty.mk.sizeOf_spec];omega
theorem PU:∀(n:Nat) (x y:Ty),SizeOf.sizeOf x<n->fB 77 [IQ x,IQ y] (x=y)
 | 0,x,y,h=>v7 h (by omega)
 | n+1,x,y,h=>by
  have d:∀z∈x.args,∀w,fB 77 [IQ z,IQ w] (z=w):=fun z c w=>PU n z w (by have:=PO c;omega);refine au Tryd.func77 KN rfl fun f _=>?_;refine aR (fun b=>?_) (fun b=>bD rfl (p7 C.bool (bJ fun e=>b (by rw[e]))));refine aR (fun a=>?_) (fun a=>bD rfl (p7 C.bool (bJ fun e=>a (by rw[e]))));refine bO (SG x.args y.args d) rfl fun _=>?_;exact bD rfl (p7 C.bool (iX ⟨fun h=>PN b a h,fun e=>by rw[e]⟩))
theorem R7 (x y:Ty):fB 77 [IQ x,IQ y] (x=y):=PU _ x y (Nat.lt_succ_self _)
theorem N0 (a b:List Ty):fB 76 [.sl (a.map u5),.sl (b.map u5),.fn 77 [] []] (a=b):=SG a b fun x _ y=>R7 x y
theorem var_eq {x y:Variant}(a:x.name=y.name) (b:x.fields=y.fields):x=y:=by
 rcases x with⟨⟩
 rcases y with⟨⟩
 simp_all
theorem V1 (x y:Variant):fB 75 [.agg (fZ x),.agg (fZ y)] (x=y):=by
 refine au Tryd.func75 KL rfl fun b _=>?_;refine aR (fun a=>?_) (fun a=>bD rfl (p7 C.bool (bJ fun e=>a (by rw[e]))));refine bO (N0 x.fields y.fields) rfl fun _=>?_;exact bD rfl (p7 C.bool (iX ⟨fun h=>var_eq (Au a) h,fun e=>by rw[e]⟩))
theorem V2 (a b:List (Variant)) (q:∀x∈a,∀y,fB 75 [.agg (fZ x),.agg (fZ y)] (x=y)):fB 86 [.sl (a.map fZ),.sl (b.map fZ),.fn 75 [] []] (a=b):=by
 refine au Tryd.func86 KV rfl fun s _=>?_;have m:(a.map fZ).length=a.length:=by simp
 have hb:(b.map fZ).length=b.length:=by simp
 have t:a.length<=9223372036854775807:=by have:=mD s.1;rwa [m] at this
 refine aH (fun d=>?_) (fun d=>?_)
 ·have d:¬a.length=b.length:=fun e=>by
   rw[m,hb,e] at d;simp at d
  exact bD rfl (p7 C.bool (bJ (m9 d)))
 have d:a.length=b.length:=by
  rw[m,hb] at d;simp at d;omega
 refine bX a.length 17 [] () (fun _=>[]) (fun _=>[]) (fun k _=>∀j<k,a[j]?=b[j]?) (fun j r=>v7 r (by omega)) (aq rfl) trivial trivial (fun _=>rfl) (fun _=>rfl) ?_;rintro k ⟨⟩ u f _ _ _;refine aR (fun c=>?_) (fun n=>?_)
 ·have c:k<a.length:=by rw[m] at c;omega
  obtain⟨x,o⟩:=gh c;obtain⟨y,p⟩:=gh (l:=b) (k:=k) (by omega);refine jy o rfl rfl ?_;refine jy p rfl rfl ?_;refine bO (q x (Xi o) y) rfl fun _=>?_;refine aH (fun h=>?_) (fun h=>?_)
  ·have h:¬x=y:=ld (by simpa using h);exact bD rfl (p7 C.bool (bJ (ni o p h)))
  ·have h:x=y:=kQ (by simpa using h);refine Fit.Ww (by omega) (by omega) ?_;exact⟨(k+1,()),⟨c,iK f o p h⟩,⟨cG,trivial⟩,trivial,cH c⟩
 ·have n:¬k<a.length:=by rw[m] at n;omega
  have:k=a.length:=by omega
  subst this;exact bD rfl (p7 C.bool (jG (iJ rfl d.symm f)))
theorem V3 (a b:List (Variant)) (c:∀x∈a,∀y,fB 75 [.agg (fZ x),.agg (fZ y)] (x=y)):fB 74 [.sl (a.map fZ),.sl (b.map fZ),.fn 75 [] []] (a=b):=by
 refine au Tryd.func74 KJ rfl fun d _=>?_;refine bO (V2 a b c) rfl fun _=>?_;exact bD rfl rfl
theorem LI {x y:Api.Data}(e:x.name=y.name) (a:x.module=y.module) (c:x.params=y.params) (b:x.drop=y.drop) (d:x.variants=y.variants):x=y:=by
 rcases x with⟨⟩
 rcases y with⟨⟩
 simp_all
theorem V4 (x y:Api.Data):fB 58 [.agg (kN x),.agg (kN y)] (x=y):=by
 refine au Tryd.func58 KE rfl fun k _=>?_;refine aR (fun j=>?_) (fun j=>bD rfl (p7 C.bool (bJ fun e=>j (by rw[e]))));refine aR (fun c=>?_) (fun c=>bD rfl (p7 C.bool (bJ fun e=>c (by rw[e]))));refine aR (fun f=>?_) (fun f=>bD rfl (p7 C.bool (bJ fun e=>f (by rw[e]))));refine aR (fun d=>?_) (fun d=>bD rfl (p7 C.bool (bJ fun e=>d (by rw[e]))));refine bO (V3 x.variants y.variants fun a _ b=>V1 a b) rfl fun _=>?_;exact bD rfl (p7 C.bool (iX ⟨fun h=>LI (Au j) c f d h,fun e=>by rw[e]⟩))
theorem V5 (a b:List (Api.Data)) (q:∀x∈a,∀y,fB 58 [.agg (kN x),.agg (kN y)] (x=y)):fB 73 [.sl (a.map kN),.sl (b.map kN),.fn 58 [] []] (a=b):=by
 refine au Tryd.func73 KI rfl fun s _=>?_;have m:(a.map kN).length=a.length:=by simp
 have hb:(b.map kN).length=b.length:=by simp
 have t:a.length<=9223372036854775807:=by have:=mD s.1;rwa [m] at this
 refine aH (fun d=>?_) (fun d=>?_)
 ·have d:¬a.length=b.length:=fun e=>by
   rw[m,hb,e] at d;simp at d
  exact bD rfl (p7 C.bool (bJ (m9 d)))
 have d:a.length=b.length:=by
  rw[m,hb] at d;simp at d;omega
 refine bX a.length 17 [] () (fun _=>[]) (fun _=>[]) (fun k _=>∀j<k,a[j]?=b[j]?) (fun j r=>v7 r (by omega)) (aq rfl) trivial trivial (fun _=>rfl) (fun _=>rfl) ?_;rintro k ⟨⟩ u f _ _ _;refine aR (fun c=>?_) (fun n=>?_)
 ·have c:k<a.length:=by rw[m] at c;omega
  obtain⟨x,o⟩:=gh c;obtain⟨y,p⟩:=gh (l:=b) (k:=k) (by omega);refine jy o rfl rfl ?_;refine jy p rfl rfl ?_;refine bO (q x (Xi o) y) rfl fun _=>?_;refine aH (fun h=>?_) (fun h=>?_)
  ·have h:¬x=y:=ld (by simpa using h);exact bD rfl (p7 C.bool (bJ (ni o p h)))
  ·have h:x=y:=kQ (by simpa using h);refine Fit.Ww (by omega) (by omega) ?_;exact⟨(k+1,()),⟨c,iK f o p h⟩,⟨cG,trivial⟩,trivial,cH c⟩
 ·have n:¬k<a.length:=by rw[m] at n;omega
  have:k=a.length:=by omega
  subst this;exact bD rfl (p7 C.bool (jG (iJ rfl d.symm f)))
theorem V6 (a b:List (Api.Data)) (c:∀x∈a,∀y,fB 58 [.agg (kN x),.agg (kN y)] (x=y)):fB 57 [.sl (a.map kN),.sl (b.map kN),.fn 58 [] []] (a=b):=by
 refine au Tryd.func57 KD rfl fun d _=>?_;refine bO (V5 a b c) rfl fun _=>?_;exact bD rfl rfl
theorem N7 {x y:HM}(k:x.op=y.op) (c:x.dst=y.dst) (f:x.a=y.a) (e:x.b=y.b) (h:x.n=y.n) (d:x.args=y.args) (j:x.types=y.types):x=y:=by
 rcases x with⟨⟩
 rcases y with⟨⟩
 simp_all
theorem V7 (x y:HM):fB 90 [.agg (tP x),.agg (tP y)] (x=y):=by
 refine au Tryd.func90 KZ rfl fun k _=>?_;refine aR (fun j=>?_) (fun j=>bD rfl (p7 C.bool (bJ fun e=>j (by rw[e]))));refine aR (fun a=>?_) (fun a=>bD rfl (p7 C.bool (bJ fun e=>a (by rw[e]))));refine aR (fun d=>?_) (fun d=>bD rfl (p7 C.bool (bJ fun e=>d (by rw[e]))));refine aR (fun c=>?_) (fun c=>bD rfl (p7 C.bool (bJ fun e=>c (by rw[e]))));refine aR (fun f=>?_) (fun f=>bD rfl (p7 C.bool (bJ fun e=>f (by rw[e]))));refine bO (R6 x.args y.args) rfl fun _=>?_;refine aH (fun b=>?_) (fun b=>bD rfl (p7 C.bool (bJ fun e=>ld b (by rw[e]))));refine bO (N0 x.types y.types) rfl fun _=>?_;exact bD rfl (p7 C.bool (iX ⟨fun h=>N7 j a d c f (kQ b) h,fun e=>by rw[e]⟩))
theorem V8 (a b:List (HM)) (q:∀x∈a,∀y,fB 90 [.agg (tP x),.agg (tP y)] (x=y)):fB 96 [.sl (a.map tP),.sl (b.map tP),.fn 90 [] []] (a=b):=by
 refine au Tryd.func96 K4 rfl fun s _=>?_;have m:(a.map tP).length=a.length:=by simp
 have hb:(b.map tP).length=b.length:=by simp
 have t:a.length<=9223372036854775807:=by have:=mD s.1;rwa [m] at this
 refine aH (fun d=>?_) (fun d=>?_)
 ·have d:¬a.length=b.length:=fun e=>by
   rw[m,hb,e] at d;simp at d
  exact bD rfl (p7 C.bool (bJ (m9 d)))
 have d:a.length=b.length:=by
  rw[m,hb] at d;simp at d;omega
 refine bX a.length 17 [] () (fun _=>[]) (fun _=>[]) (fun k _=>∀j<k,a[j]?=b[j]?) (fun j r=>v7 r (by omega)) (aq rfl) trivial trivial (fun _=>rfl) (fun _=>rfl) ?_;rintro k ⟨⟩ u f _ _ _;refine aR (fun c=>?_) (fun n=>?_)
 ·have c:k<a.length:=by rw[m] at c;omega
  obtain⟨x,o⟩:=gh c;obtain⟨y,p⟩:=gh (l:=b) (k:=k) (by omega);refine jy o rfl rfl ?_;refine jy p rfl rfl ?_;refine bO (q x (Xi o) y) rfl fun _=>?_;refine aH (fun h=>?_) (fun h=>?_)
  ·have h:¬x=y:=ld (by simpa using h);exact bD rfl (p7 C.bool (bJ (ni o p h)))
  ·have h:x=y:=kQ (by simpa using h);refine Fit.Ww (by omega) (by omega) ?_;exact⟨(k+1,()),⟨c,iK f o p h⟩,⟨cG,trivial⟩,trivial,cH c⟩
 ·have n:¬k<a.length:=by rw[m] at n;omega
  have:k=a.length:=by omega
  subst this;exact bD rfl (p7 C.bool (jG (iJ rfl d.symm f)))
theorem V9 (a b:List (HM)) (c:∀x∈a,∀y,fB 90 [.agg (tP x),.agg (tP y)] (x=y)):fB 89 [.sl (a.map tP),.sl (b.map tP),.fn 90 [] []] (a=b):=by
 refine au Tryd.func89 KY rfl fun d _=>?_;refine bO (V8 a b c) rfl fun _=>?_;exact bD rfl rfl
theorem Ip {x y:Block}(f:x.code=y.code) (b:x.fin.kind=y.fin.kind) (e:x.fin.a=y.fin.a) (d:x.fin.targets=y.fin.targets):x=y:=by
 rcases x with⟨c,⟨⟩⟩
 rcases y with⟨c,⟨⟩⟩
 simp_all
theorem Wc (x y:Block):fB 81 [.agg (jA x),.agg (jA y)] (x=y):=by
 refine au Tryd.func81 KR rfl fun j _=>?_;refine bO (V9 x.code y.code fun a _ b=>V7 a b) rfl fun _=>?_;refine aH (fun f=>?_) (fun f=>bD rfl (p7 C.bool (bJ fun e=>ld f (by rw[e]))));refine aR (fun c=>?_) (fun c=>bD rfl (p7 C.bool (bJ fun e=>c (by rw[e]))));refine aR (fun d=>?_) (fun d=>bD rfl (p7 C.bool (bJ fun e=>d (by rw[e]))));refine bO (R6 x.fin.targets y.fin.targets) rfl fun _=>?_;exact bD rfl (p7 C.bool (iX ⟨fun h=>Ip (kQ f) c d h,fun e=>by rw[e]⟩))
theorem Wg (a b:List (Block)) (q:∀x∈a,∀y,fB 81 [.agg (jA x),.agg (jA y)] (x=y)):fB 88 [.sl (a.map jA),.sl (b.map jA),.fn 81 [] []] (a=b):=by
 refine au Tryd.func88 KX rfl fun s _=>?_;have m:(a.map jA).length=a.length:=by simp
 have hb:(b.map jA).length=b.length:=by simp
 have t:a.length<=9223372036854775807:=by have:=mD s.1;rwa [m] at this
 refine aH (fun d=>?_) (fun d=>?_)
 ·have d:¬a.length=b.length:=fun e=>by
   rw[m,hb,e] at d;simp at d
  exact bD rfl (p7 C.bool (bJ (m9 d)))
 have d:a.length=b.length:=by
  rw[m,hb] at d;simp at d;omega
 refine bX a.length 17 [] () (fun _=>[]) (fun _=>[]) (fun k _=>∀j<k,a[j]?=b[j]?) (fun j r=>v7 r (by omega)) (aq rfl) trivial trivial (fun _=>rfl) (fun _=>rfl) ?_;rintro k ⟨⟩ u f _ _ _;refine aR (fun c=>?_) (fun n=>?_)
 ·have c:k<a.length:=by rw[m] at c;omega
  obtain⟨x,o⟩:=gh c;obtain⟨y,p⟩:=gh (l:=b) (k:=k) (by omega);refine jy o rfl rfl ?_;refine jy p rfl rfl ?_;refine bO (q x (Xi o) y) rfl fun _=>?_;refine aH (fun h=>?_) (fun h=>?_)
  ·have h:¬x=y:=ld (by simpa using h);exact bD rfl (p7 C.bool (bJ (ni o p h)))
  ·have h:x=y:=kQ (by simpa using h);refine Fit.Ww (by omega) (by omega) ?_;exact⟨(k+1,()),⟨c,iK f o p h⟩,⟨cG,trivial⟩,trivial,cH c⟩
 ·have n:¬k<a.length:=by rw[m] at n;omega
  have:k=a.length:=by omega
  subst this;exact bD rfl (p7 C.bool (jG (iJ rfl d.symm f)))
theorem Wh (a b:List (Block)) (c:∀x∈a,∀y,fB 81 [.agg (jA x),.agg (jA y)] (x=y)):fB 80 [.sl (a.map jA),.sl (b.map jA),.fn 81 [] []] (a=b):=by
 refine au Tryd.func80 KQ rfl fun d _=>?_;refine bO (Wg a b c) rfl fun _=>?_;exact bD rfl rfl
theorem LJ {x y:Slot}(e:x.state=y.state) (a:x.type=y.type) (c:x.var=y.var) (b:x.flag=y.flag) (d:x.lent=y.lent):x=y:=by
 rcases x with⟨⟩
 rcases y with⟨⟩
 simp_all
theorem Wi (x y:Slot):fB 93 [.agg (jF x),.agg (jF y)] (x=y):=by
 refine au Tryd.func93 K2 rfl fun f _=>?_;refine aR (fun d=>?_) (fun d=>bD rfl (p7 C.bool (bJ fun e=>d (by rw[e]))));refine bO (R7 x.type y.type) rfl fun _=>?_;refine aH (fun a=>?_) (fun a=>bD rfl (p7 C.bool (bJ fun e=>ld a (by rw[e]))));refine aR (fun c=>?_) (fun c=>bD rfl (p7 C.bool (bJ fun e=>c (by rw[e]))));refine aR (fun b=>?_) (fun b=>bD rfl (p7 C.bool (bJ fun e=>b (by rw[e]))));refine bO (VZ x.lent y.lent) rfl fun _=>?_;exact bD rfl (p7 C.bool (iX ⟨fun h=>LJ d (kQ a) c b h,fun e=>by rw[e]⟩))
theorem Wj (a b:List (Slot)) (q:∀x∈a,∀y,fB 93 [.agg (jF x),.agg (jF y)] (x=y)):fB 97 [.sl (a.map jF),.sl (b.map jF),.fn 93 [] []] (a=b):=by
 refine au Tryd.func97 K5 rfl fun s _=>?_;have m:(a.map jF).length=a.length:=by simp
 have hb:(b.map jF).length=b.length:=by simp
 have t:a.length<=9223372036854775807:=by have:=mD s.1;rwa [m] at this
 refine aH (fun d=>?_) (fun d=>?_)
 ·have d:¬a.length=b.length:=fun e=>by
   rw[m,hb,e] at d;simp at d
  exact bD rfl (p7 C.bool (bJ (m9 d)))
 have d:a.length=b.length:=by
  rw[m,hb] at d;simp at d;omega
 refine bX a.length 17 [] () (fun _=>[]) (fun _=>[]) (fun k _=>∀j<k,a[j]?=b[j]?) (fun j r=>v7 r (by omega)) (aq rfl) trivial trivial (fun _=>rfl) (fun _=>rfl) ?_;rintro k ⟨⟩ u f _ _ _;refine aR (fun c=>?_) (fun n=>?_)
 ·have c:k<a.length:=by rw[m] at c;omega
  obtain⟨x,o⟩:=gh c;obtain⟨y,p⟩:=gh (l:=b) (k:=k) (by omega);refine jy o rfl rfl ?_;refine jy p rfl rfl ?_;refine bO (q x (Xi o) y) rfl fun _=>?_;refine aH (fun h=>?_) (fun h=>?_)
  ·have h:¬x=y:=ld (by simpa using h);exact bD rfl (p7 C.bool (bJ (ni o p h)))
  ·have h:x=y:=kQ (by simpa using h);refine Fit.Ww (by omega) (by omega) ?_;exact⟨(k+1,()),⟨c,iK f o p h⟩,⟨cG,trivial⟩,trivial,cH c⟩
 ·have n:¬k<a.length:=by rw[m] at n;omega
  have:k=a.length:=by omega
  subst this;exact bD rfl (p7 C.bool (jG (iJ rfl d.symm f)))
theorem Wk (a b:List (Slot)) (c:∀x∈a,∀y,fB 93 [.agg (jF x),.agg (jF y)] (x=y)):fB 92 [.sl (a.map jF),.sl (b.map jF),.fn 93 [] []] (a=b):=by
 refine au Tryd.func92 K1 rfl fun d _=>?_;refine bO (Wj a b c) rfl fun _=>?_;exact bD rfl rfl
theorem Wl (a b:List Slot):fB 83 [.sl (a.map jF),.sl (b.map jF)] (a=b):=by
 refine au Tryd.func83 KT rfl fun c _=>?_;refine bO (Wk a b fun x _ y=>Wi x y) rfl fun _=>?_;exact bD rfl rfl
theorem Wm (a b:List (List Slot)) (q:∀x∈a,∀y,fB 83 [.sl (x.map jF),.sl (y.map jF)] (x=y)):fB 91 [.sl (a.map rN),.sl (b.map rN),.fn 83 [] []] (a=b):=by
 refine au Tryd.func91 K0 rfl fun s _=>?_;have m:(a.map rN).length=a.length:=by simp
 have hb:(b.map rN).length=b.length:=by simp
 have t:a.length<=9223372036854775807:=by have:=mD s.1;rwa [m] at this
 refine aH (fun d=>?_) (fun d=>?_)
 ·have d:¬a.length=b.length:=fun e=>by
   rw[m,hb,e] at d;simp at d
  exact bD rfl (p7 C.bool (bJ (m9 d)))
 have d:a.length=b.length:=by
  rw[m,hb] at d;simp at d;omega
 refine bX a.length 17 [] () (fun _=>[]) (fun _=>[]) (fun k _=>∀j<k,a[j]?=b[j]?) (fun j r=>v7 r (by omega)) (aq rfl) trivial trivial (fun _=>rfl) (fun _=>rfl) ?_;rintro k ⟨⟩ u f _ _ _;refine aR (fun c=>?_) (fun n=>?_)
 ·have c:k<a.length:=by rw[m] at c;omega
  obtain⟨x,o⟩:=gh c;obtain⟨y,p⟩:=gh (l:=b) (k:=k) (by omega);refine jy o rfl rfl ?_;refine jy p rfl rfl ?_;refine bO (q x (Xi o) y) rfl fun _=>?_;refine aH (fun h=>?_) (fun h=>?_)
  ·have h:¬x=y:=ld (by simpa using h);exact bD rfl (p7 C.bool (bJ (ni o p h)))
  ·have h:x=y:=kQ (by simpa using h);refine Fit.Ww (by omega) (by omega) ?_;exact⟨(k+1,()),⟨c,iK f o p h⟩,⟨cG,trivial⟩,trivial,cH c⟩
 ·have n:¬k<a.length:=by rw[m] at n;omega
  have:k=a.length:=by omega
  subst this;exact bD rfl (p7 C.bool (jG (iJ rfl d.symm f)))
theorem Wn (a b:List (List Slot)) (c:∀x∈a,∀y,fB 83 [.sl (x.map jF),.sl (y.map jF)] (x=y)):fB 82 [.sl (a.map rN),.sl (b.map rN),.fn 83 [] []] (a=b):=by
 refine au Tryd.func82 KS rfl fun d _=>?_;refine bO (Wm a b c) rfl fun _=>?_;exact bD rfl rfl
theorem LK {x y:FE}(h:x.name=y.name) (a:x.params=y.params) (d:x.result=y.result) (c:x.ties=y.ties) (e:x.slots=y.slots) (b:x.blocks=y.blocks) (f:x.entry=y.entry):x=y:=by
 rcases x with⟨⟩
 rcases y with⟨⟩
 simp_all
theorem R8 (x y:FE):fB 60 [.agg (kZ x),.agg (kZ y)] (x=y):=by
 refine au Tryd.func60 KG rfl fun m _=>?_;refine aR (fun l=>?_) (fun l=>bD rfl (p7 C.bool (bJ fun e=>l (by rw[e]))));refine bO (N0 x.params y.params) rfl fun _=>?_;refine aH (fun c=>?_) (fun c=>bD rfl (p7 C.bool (bJ fun e=>ld c (by rw[e]))));refine bO (R7 x.result y.result) rfl fun _=>?_;refine aH (fun j=>?_) (fun j=>bD rfl (p7 C.bool (bJ fun e=>ld j (by rw[e]))));refine bO (R6 x.ties y.ties) rfl fun _=>?_;refine aH (fun f=>?_) (fun f=>bD rfl (p7 C.bool (bJ fun e=>ld f (by rw[e]))));refine aR (fun k=>?_) (fun k=>bD rfl (p7 C.bool (bJ fun e=>k (by rw[e]))));refine bO (Wh x.blocks y.blocks fun a _ b=>Wc a b) rfl fun _=>?_;refine aH (fun d=>?_) (fun d=>bD rfl (p7 C.bool (bJ fun e=>ld d (by rw[e]))));refine bO (Wn x.entry y.entry fun a _ b=>Wl a b) rfl fun _=>?_;exact bD rfl (p7 C.bool (iX ⟨fun h=>LK (Au l) (kQ c) (kQ j) (kQ f) k (kQ d) h,fun e=>by rw[e]⟩))
theorem Wo (a b:List (FE)) (q:∀x∈a,∀y,fB 60 [.agg (kZ x),.agg (kZ y)] (x=y)):fB 78 [.sl (a.map kZ),.sl (b.map kZ),.fn 60 [] []] (a=b):=by
 refine au Tryd.func78 KO rfl fun s _=>?_;have m:(a.map kZ).length=a.length:=by simp
 have hb:(b.map kZ).length=b.length:=by simp
 have t:a.length<=9223372036854775807:=by have:=mD s.1;rwa [m] at this
 refine aH (fun d=>?_) (fun d=>?_)
 ·have d:¬a.length=b.length:=fun e=>by
   rw[m,hb,e] at d;simp at d
  exact bD rfl (p7 C.bool (bJ (m9 d)))
 have d:a.length=b.length:=by
  rw[m,hb] at d;simp at d;omega
 refine bX a.length 17 [] () (fun _=>[]) (fun _=>[]) (fun k _=>∀j<k,a[j]?=b[j]?) (fun j r=>v7 r (by omega)) (aq rfl) trivial trivial (fun _=>rfl) (fun _=>rfl) ?_;rintro k ⟨⟩ u f _ _ _;refine aR (fun c=>?_) (fun n=>?_)
 ·have c:k<a.length:=by rw[m] at c;omega
  obtain⟨x,o⟩:=gh c;obtain⟨y,p⟩:=gh (l:=b) (k:=k) (by omega);refine jy o rfl rfl ?_;refine jy p rfl rfl ?_;refine bO (q x (Xi o) y) rfl fun _=>?_;refine aH (fun h=>?_) (fun h=>?_)
  ·have h:¬x=y:=ld (by simpa using h);exact bD rfl (p7 C.bool (bJ (ni o p h)))
  ·have h:x=y:=kQ (by simpa using h);refine Fit.Ww (by omega) (by omega) ?_;exact⟨(k+1,()),⟨c,iK f o p h⟩,⟨cG,trivial⟩,trivial,cH c⟩
 ·have n:¬k<a.length:=by rw[m] at n;omega
  have:k=a.length:=by omega
  subst this;exact bD rfl (p7 C.bool (jG (iJ rfl d.symm f)))
theorem R9 (a b:List (FE)) (c:∀x∈a,∀y,fB 60 [.agg (kZ x),.agg (kZ y)] (x=y)):fB 59 [.sl (a.map kZ),.sl (b.map kZ),.fn 60 [] []] (a=b):=by
 refine au Tryd.func59 KF rfl fun d _=>?_;refine bO (Wo a b c) rfl fun _=>?_;exact bD rfl rfl
theorem N8 {x y:Ms}(c:x.main=y.main) (a:x.datas=y.datas) (b:x.routs=y.routs):x=y:=by
 rcases x with⟨⟩
 rcases y with⟨⟩
 simp_all
theorem Wp (x y:Ms):fB 39 [.agg (PL x),.agg (PL y)] (x=y):=by
 refine au Tryd.func39 Kx rfl fun f _=>?_;refine aR (fun d=>?_) (fun d=>bD rfl (p7 C.bool (bJ fun e=>d (by rw[e]))));refine bO (V6 x.datas y.datas fun a _ b=>V4 a b) rfl fun _=>?_;refine aH (fun c=>?_) (fun c=>bD rfl (p7 C.bool (bJ fun e=>ld c (by rw[e]))));refine bO (R9 x.routs y.routs fun a _ b=>R8 a b) rfl fun _=>?_;exact bD rfl (p7 C.bool (iX ⟨fun h=>N8 d (kQ c) h,fun e=>by rw[e]⟩))
theorem dM {a b:Enc}(h:a.2=true) (k:b.2=true):(bn a b).2=true:=by simp[bn,h,k]
theorem fL {a:Type}{f:a->Enc}(h:∀x,(f x).2=true):∀l:List a,(aX f l).2=true
 | []=>rfl
 | x::l=>dM (h x) (fL h l)
theorem gj {a:Type}{f:a->Enc}(h:∀x,(f x).2=true) (l:List a):(bS kL f l).2=true:=dM rfl (fL h l)
theorem iM (n:Int):(kL.num n).2=true:=rfl
theorem vh (b:Bool):(qg kL b).2=true:=rfl
mutual
theorem Iq:∀(v:Vl) (d:Int),(Az kL v d).2=true
 | .mk a b c n f e p l,d=>by
  rw[Az];exact dM (by simp[Ad,kL]) (dM (fL iM _) (dM (dM rfl (Es f _)) (dM (fL vh _) (dM (gj iM _) (gj iM _)))))
theorem Es:∀(l:List Vl) (d:Int),(CZ kL l d).2=true
 | [],_=>rfl
 | x::xs,d=>by rw[CZ];exact dM (Iq x d) (Es xs d)
end
theorem N9 (x:Wd):(uy kL x).2=true:=by
 have d:∀v,(yY kL v).2=true:=fun v=>Iq v 60;exact dM (gj (fun c=>dM (fL vh _) (dM (fL iM _) (d _))) _)
  (dM (gj (fun b=>fL vh _) _)
  (dM (gj (fun t=>dM (fL iM _) (dM (gj (fun a=>dM (fL iM _) (dM (gj d _) (gj iM _))) _)
   (dM (gj (fun l=>dM (fL iM _) (fL vh _)) _) (dM (fL iM _) (gj iM _))))) _)
  (dM (gj (fun l=>gj d l) _)
  (dM (gj (fun o=>fL iM _) _) (fL iM _)))))
def sN (x:Wd):List UInt8:=(uy kL x).1
theorem Sb (d b:List (List C)) (a:Int) (x:Wd) (j:FO x) (hb:(sN x).length<=70368744177664) :
  CallsT PZ 33 [.ifo none 94 1000 0,.pt (uI d b a x) 0] (WB 95 []) (iZ (WB 95 (sN x)) (.tup [])) :=
 ((PD RJ d b a x j [] (by simp only[XJ,Nat.zero_add];exact hb)).imp (Pp':=fun _=>False) (R':=iZ (WB 95 (sN x)) (.tup []))
  (fun Mo c ⟨_,e,f⟩=>⟨by rw[e];rfl,f⟩) (fun v ⟨_,h⟩=>by rw[N9] at h;cases h)).noPan
theorem t38 (d c:List (List C)) (b:Int) (x:Wd) (f:FO x) (hb:(sN x).length<=70368744177664) :
  CallsT PZ 38 [.agg (uI d c b x)] [] (iZ [] (.sl (af (sN x)))):=by
 have a:=Sb d c b x f hb;refine au Tryd.func38 Kw rfl fun h e=>?_;refine OL [(5,.box 95 [.rw 50,IC 0,.int .i8 0]),(50,.row 5 1 [])] [5,50] [5,50] a
  ⟨.inl ⟨_,rfl,.inr ⟨95,_,_,rfl,rfl,⟨_,_,rfl,tQ rfl rfl,⟨_,_,rfl,aq rfl,⟨_,_,rfl,aq rfl,rfl⟩⟩⟩⟩⟩,.inr ⟨rfl,5,1,rfl⟩,trivial⟩ rfl rfl rfl rfl rfl fun _ _=>?_
 refine uo [50] [5] [5] (NK 95 (sN x)) ⟨_,rfl,rfl,rfl,rfl,rfl,fun _ _=>?_⟩;exact bD rfl rfl
noncomputable def Da (i j:Ms) (x y:Wd):Bool:=Io (i=j)&&decide (sN x=sN y)
def SH (i:Ms) (x:Wd):List C:=uI (i.datas.map kN) (i.routs.map kZ) i.main x
theorem t16 (i j:Ms) (x y:Wd) (f:FO x) (k:FO y) (a:(sN x).length<=70368744177664) (b:(sN y).length<=70368744177664) :
  CallsT PZ 16 [.agg (SH i x),.agg (SH j y)] [] (iZ [] (.bool (Da i j x y))):=by
 have c:=t38 (i.datas.map kN) (i.routs.map kZ) i.main x f a;have e:=t38 (j.datas.map kN) (j.routs.map kZ) j.main y k b;refine au Tryd.func16 Kb rfl fun l d=>?_;refine jx (Wp i j) rfl fun _=>?_;refine aH (fun h=>?_) (fun h=>?_)
 ·refine jx c rfl fun _=>?_;refine jx e rfl fun _=>?_;refine jx (t22 (sN x) (sN y)) rfl fun _=>?_;exact bD rfl (by rw[Da,h];rfl)
 ·exact bD rfl (by rw[Da,h];rfl)
end Go.Fr.Tryd
namespace Go.Fr.Tryd
open Go Go.RowKit Go.Proofs Go.Fr Go.Fr.T Go.Fr.Api Go.Fr.Dm
theorem lH (a:List UInt8) (b:UInt8):af a++af [b]=af (a++[b]):=by simp[af]
theorem Sc (n:Int) (h:-2305843009213693952<=n) (l:n<=2305843009213693952):CallsT PZ 14 [IC n] [] (iZ [.row 5 1 (af (bQ (zz n)))] (.rw 1000)):=by
 have k:zz n<=4611686018427387904:=by unfold zz;split<;>omega
 have p:=mI n h l;refine au Tryd.func14 J9 rfl fun o _=>?_;refine Fit.Ww (by omega) (by omega) ?_;refine aR (fun e=>?_) (fun f=>?_)
 ·refine Fit.Ww (by omega) (by omega) ?_;refine Fit.Ww (by omega) (by omega) ?_;refine uh.mk ⟨Nat×List UInt8,(zz n,[]),fun y=>y.1<=4611686018427387904/\y.2++bQ y.1=bQ (zz n),[3,4],fun y=>[.int .i64 y.1,.rw 20],fun y=>[(20,.row 5 1 (af y.2))],fun y=>y.1,⟨k,rfl⟩,⟨.inr (.inl ⟨?_,rfl⟩),tQ rfl rfl,trivial⟩,
    ⟨.inr ⟨rfl,5,1,rfl⟩,trivial⟩,fun _=>rfl,fun _=>rfl,?_⟩
  ·exact p7 (C.int .i64) (by unfold zz;rw[j3 e];omega)
  rintro⟨m,done⟩ ⟨d,a⟩ _ _;simp only at a d;have j:done.length+(bQ m).length<=10:=by
   have:=p7 List.length a;simp only[Xg] at this;omega
  have h:=hO m;refine aR (fun c=>?_) (fun c=>?_)
  ·have c:128<=m:=by have:(128:Int)<=(m:Int):=c;omega
   have b:bQ m=UInt8.ofNat (128+m % 128)::bQ (m / 128):=by rw[bQ,dif_neg (by omega)]
   refine mW.mk (by omega) ?_;refine Fit.to (m:=128+(m:Int).tmod 128) (bL (by rw[show(m:Int).tmod 128=((m % 128:Nat):Int) from rfl];omega) (by rw[show(m:Int).tmod 128=((m % 128:Nat):Int) from rfl];omega)) ?_;refine Fit.to (Ag m) ?_;refine qG (bs:=[UInt8.ofNat (128+m % 128)]) done.length aK (by simp;omega) ?_;refine mW.mk (by omega) ?_;refine Fit.to (m:=((m / 128:Nat):Int)) (by show IntKind.wrap .i64 ((m / 128:Nat):Int)=_;exact bL (by omega) (by omega)) ?_;refine⟨(m / 128,done++[UInt8.ofNat (128+m % 128)]),⟨?_,?_⟩,⟨.inr (.inl ⟨rfl,rfl⟩),aq rfl,trivial⟩,⟨.inl ⟨_,rfl,.inl ⟨p7 (TO.row 5 1) (lH done _),rfl⟩⟩,trivial⟩,?_⟩
   ·show m / 128<=_;omega
   ·show done++[UInt8.ofNat (128+m % 128)]++bQ (m / 128)=bQ (zz n);rw[<-a,b];simp
   ·show m / 128<m;omega
  ·have c:m<128:=by have:¬(128:Int)<=(m:Int):=c;omega
   have b:bQ m=[UInt8.ofNat m]:=by rw[bQ,dif_pos c]
   refine Fit.to (Ah m) ?_;refine qG (bs:=[UInt8.ofNat m]) done.length aK (by simp;omega) ?_;exact xN [20] rfl rfl (p7 (fun q=>[TO.row 5 1 q]) ((lH done _).trans (p7 af (by rw[<-a,b]:done++[UInt8.ofNat m]=bQ (zz n))))) rfl
 ·refine uh.mk ⟨Nat×List UInt8,(zz n,[]),fun y=>y.1<=4611686018427387904/\y.2++bQ y.1=bQ (zz n),[3,4],fun y=>[.int .i64 y.1,.rw 20],fun y=>[(20,.row 5 1 (af y.2))],fun y=>y.1,⟨k,rfl⟩,⟨.inr (.inl ⟨?_,rfl⟩),tQ rfl rfl,trivial⟩,
    ⟨.inr ⟨rfl,5,1,rfl⟩,trivial⟩,fun _=>rfl,fun _=>rfl,?_⟩
  ·exact p7 (C.int .i64) (by unfold zz;rw[vv f];omega)
  rintro⟨m,done⟩ ⟨d,a⟩ _ _;simp only at a d;have j:done.length+(bQ m).length<=10:=by
   have:=p7 List.length a;simp only[Xg] at this;omega
  have h:=hO m;refine aR (fun c=>?_) (fun c=>?_)
  ·have c:128<=m:=by have:(128:Int)<=(m:Int):=c;omega
   have b:bQ m=UInt8.ofNat (128+m % 128)::bQ (m / 128):=by rw[bQ,dif_neg (by omega)]
   refine mW.mk (by omega) ?_;refine Fit.to (m:=128+(m:Int).tmod 128) (bL (by rw[show(m:Int).tmod 128=((m % 128:Nat):Int) from rfl];omega) (by rw[show(m:Int).tmod 128=((m % 128:Nat):Int) from rfl];omega)) ?_;refine Fit.to (Ag m) ?_;refine qG (bs:=[UInt8.ofNat (128+m % 128)]) done.length aK (by simp;omega) ?_;refine mW.mk (by omega) ?_;refine Fit.to (m:=((m / 128:Nat):Int)) (by show IntKind.wrap .i64 ((m / 128:Nat):Int)=_;exact bL (by omega) (by omega)) ?_;refine⟨(m / 128,done++[UInt8.ofNat (128+m % 128)]),⟨?_,?_⟩,⟨.inr (.inl ⟨rfl,rfl⟩),aq rfl,trivial⟩,⟨.inl ⟨_,rfl,.inl ⟨p7 (TO.row 5 1) (lH done _),rfl⟩⟩,trivial⟩,?_⟩
   ·show m / 128<=_;omega
   ·show done++[UInt8.ofNat (128+m % 128)]++bQ (m / 128)=bQ (zz n);rw[<-a,b];simp
   ·show m / 128<m;omega
  ·have c:m<128:=by have:¬(128:Int)<=(m:Int):=c;omega
   have b:bQ m=[UInt8.ofNat m]:=by rw[bQ,dif_pos c]
   refine Fit.to (Ah m) ?_;refine qG (bs:=[UInt8.ofNat m]) done.length aK (by simp;omega) ?_;exact xN [20] rfl rfl (p7 (fun q=>[TO.row 5 1 q]) ((lH done _).trans (p7 af (by rw[<-a,b]:done++[UInt8.ofNat m]=bQ (zz n))))) rfl
theorem PV (n:Nat):List.replicate (n:Int).toNat [C.int .u8 0]=af (List.replicate n 0):=by simp[af,iG]
theorem Wq (n:Nat) (b:UInt8) (o:n<=1048576):CallsT PZ 13 [IC n,iG b] [] (iZ [.row 5 1 (af (List.replicate n b))] (.rw 1000)):=by
 refine au Tryd.func13 J8 rfl fun m _=>?_;refine sU.mk (by omega) (XF _) (by omega) (by unfold maxLen;omega) ?_;refine bX n 6 [5] (List.replicate n 0) (fun _=>[.rw 8]) (fun s=>[(8,.row 5 1 (af s))]) (fun k s=>s=List.replicate k b++List.replicate (n-k) 0) rfl (aq rfl) ⟨aq rfl,trivial⟩
  ⟨.inl ⟨_,rfl,.inl ⟨p7 (TO.row 5 1) (PV n),rfl⟩⟩,trivial⟩ (fun _=>rfl) (fun _=>rfl) ?_
 rintro k s p h _ _ j;refine aR (fun a=>?_) (fun d=>?_)
 ·have a:k<n:=by omega
  have e:s[k]?=some 0:=by rw[h,Xr (by simp),List.getElem?_replicate];simp;omega
  have f:s.set k b=List.replicate (k+1) b++List.replicate (n-(k+1)) 0:=by
   rw[h,show n-k=(n-(k+1))+1 by omega,List.replicate_succ' (n:=k),List.set_append_right _ _ (by simp)];simp[X2]
  have c:(af s).length=n:=by rw[aK,h];simp;omega
  refine Mv.mk (by omega) (by rw[c];omega) ?_;have l:(af s)[k]?=some [iG 0]:=by simp[af,e]
  refine⟨rfl,?_⟩;refine Ij (es0:=[iG 0]) (by show(af s)[k]?=_;simp[af,e]) rfl ?_;refine Fit.Ww (by omega) (by omega) ?_;exact⟨(k+1,s.set k b),⟨a,f⟩,⟨cG,aq rfl,trivial⟩,⟨.inl ⟨_,rfl,.inl ⟨p7 (TO.row 5 1) (by show(af s).set k [iG b]=af (s.set k b);simp[af,List.map_set]),rfl⟩⟩,trivial⟩,cH a⟩
 ·have d:k=n:=by omega
  exact xN [8] rfl rfl (p7 (fun q=>[TO.row 5 1 (af q)]) (by rw[h,d];simp)) rfl
def qH:Dec (Int×Int):=fP getD fun x=>fP getD fun y=>wS (x,y)
def PB (bs:List UInt8) (x y:Int):List TO:=[.box 52 [.own 1001 0],RB bs,.box 3 [IC x],.box 3 [IC y]]
theorem Wr (bs:List UInt8):CallsTX PZ 18 [.own 1000 0,.own 1002 0,.own 1003 0] (PB bs 0 0) (fun Mo c=>∃x y r,qH bs=some ((x,y),r)/\Mo=PB r x y/\c=.tup []) (fun v=>v=eV/\qH bs=none):=by
 refine ai Tryd.func18 Kc rfl fun k e=>?_;refine bZ [1001] (Mn bs) rfl rfl rfl rfl (fun v h=>⟨h.1,aS h.2⟩) ?_;rintro v Mo ⟨x,r,b,rfl,rfl⟩ _ _;refine⟨rfl,?_⟩;have a:qH bs=_:=aj b;refine bZ [1001] (Mn r) rfl rfl rfl rfl (fun v h=>⟨h.1,a.trans (aS h.2)⟩) ?_;rintro v Mo ⟨y,f,d,rfl,rfl⟩ _ _;refine⟨rfl,?_⟩;have j:=a.trans (aj d);exact cS [1000,1001,1002,1003] rfl rfl rfl rfl ⟨x,y,f,j,rfl,rfl⟩
def qi (out:List UInt8) (off:Nat) (b:List UInt8):List UInt8:=out.take off++b++out.drop (off+b.length)
theorem nR {out b:List UInt8}{off:Nat}(h:off+b.length<=out.length):(qi out off b).length=out.length:=by
 simp only[qi,Xg,Xx,XV];omega
theorem za (out:List UInt8) (off:Nat) (b:List UInt8):aM (dF out) off (dF b)=dF (qi out off b):=by
 simp[aM,qi,dF]
theorem Sd (F:aA) (a:Option Addr) (n c i:Nat) (r:n<=c) (q:c<=9223372036854775807) (hi:i<=1125899906842624) :
  CallsA PZ 25 #[.slice a n c,.int .i64 i] F [] (fun _ Lo v=>Lo=[]/\v=fC a c (min (32*i) n) (min (32*i+32) n) 1):=by
 have b:(if(n:Int)<32*(i:Int) then(n:Int) else 32*(i:Int))=((min (32*i) n:Nat):Int):=by split<;>omega
 have d:(if(n:Int)<32*(i:Int)+32 then(n:Int) else 32*(i:Int)+32)=((min (32*i+32) n:Nat):Int):=by split<;>omega
 have m:0<=(if(n:Int)<32*(i:Int) then(n:Int) else 32*(i:Int)):=by rw[b];omega
 have p:(if(n:Int)<32*(i:Int) then(n:Int) else 32*(i:Int))<=(if(n:Int)<32*(i:Int)+32 then(n:Int) else 32*(i:Int)+32):=by rw[b,d];omega
 have f:(if(n:Int)<32*(i:Int)+32 then(n:Int) else 32*(i:Int)+32)<=(c:Int):=by rw[d];omega
 have l:fC a c (if(n:Int)<32*(i:Int) then(n:Int) else 32*(i:Int)).toNat (if(n:Int)<32*(i:Int)+32 then(n:Int) else 32*(i:Int)+32).toNat 1=fC a c (min (32*i) n) (min (32*i+32) n) 1:=by rw[b,d];rfl
 refine fQ (svs:=[.v (.slice a n c),.v (.int .i64 i)]) Tryd.func25 DJ rfl rfl (fun v o=>?_) (fun _ _ _ _ _ h=>h) ?_
 ·refine⟨fun k off e=>?_,fun s j e=>?_⟩<;>subst e<;>simp at o
 refine Fit.Ww (by omega) (by omega) ?_;refine Fit.Ww (by omega) (by omega) ?_;refine Fit.Ww (by omega) (by omega) ?_;refine mO.mk m p f ?_;exact⟨[],[],rfl,by decide,rfl,l⟩
section
variable {G:Nat->Option (Nat×TypeId)}{F:aA}{L:Loc}{ρ:Env}{M:TL}{τ:aU}
theorem row_of (m:TS G F L ρ M τ) {k:Nat}{out:List UInt8}(h:M.get k=some (.row 5 1 (af out))) :
  ∃a c,L.get k=some (.row (.slice a out.length c) 5 1 out.length (dF out))/\(a=none->out.length=0)/\out.length<=maxLen:=by
 have b:=m.tl k;rw[h] at b;cases e:L.get k with
 | none=>rw[e] at b;exact b.elim
 | some o =>
  rw[e] at b;cases o with
  | box=>exact b.elim
  | row v t sz n xs =>
   obtain⟨rfl,rfl,d,⟨l,a,c,rfl,j⟩,f⟩:=b;rw[aK] at d;subst d;rw[lG f];exact⟨a,c,rfl,j,l⟩
theorem B0 (h:TS G F L ρ M τ) {k n c:Nat}{a:Option Addr}{out out':List UInt8}(f:L.get k=some (.row (.slice a n c) 5 1 n (dF out))) (j:out'.length=n) (b:n<=maxLen) (d:a=none->n=0) :
  TS G F (L.set k (.row (.slice a n c) 5 1 n (dF out'))) ρ (M.set k (.row 5 1 (af out'))) τ:=by
 refine h.turn (o':=.row (.slice a n c) 5 1 n (dF out')) f ⟨rfl,rfl,rfl⟩ (fun g t cs e=>by cases e) fun L' _=>?_;refine⟨rfl,rfl,by rw[aK,j],⟨b,a,c,rfl,d⟩,oQ _⟩
theorem TS.Xa (a:TS G F L ρ M τ) {M':TL}(h:∀k,M'.get k=M.get k):TS G F L ρ M' τ:=⟨fun k=>by rw[h k];exact a.tl k,a.env,a.kp,a.glob⟩
theorem LL {P:Program}{K:TL->aU->Prop}{d:Option Nat}{z x k:Nat}{out a:List UInt8}(hk:M.get k=some (.row 5 1 (af out))) (h1:τ z=.rw k) (u:τ x=.sl (af a))
  (hK:K (M.set k (.row 5 1 (af (qi out 0 (a.take out.length))))) (bw d (IC ((min a.length out.length:Nat):Int)) τ)):OI P (.copy 5 1 (.t z) (.t x)) d M τ K:=by
 refine⟨fun G F L ρ o=>?_⟩;obtain⟨b,c,q,ha,s⟩:=row_of o hk;obtain⟨a1,c1,t1,an,n1,ao,e1,f⟩:=rC (x:=.t z) o.env h1;rw[q] at f;injection f with f
 injection f with f _ _ _ _
 injection f with e3 e4 e5
 subst e3 e4 e5;have p:=dc o.env (.t x);have u:bW τ (.t x)=.sl (af a):=u;rw[u] at p;obtain⟨v,w,p⟩:=p;obtain⟨y,r,rfl,_,av,hf⟩:=wU p;have w:ev ρ (.t x)=.v (.slice y a.length r):=w;simp only[evalOp,e1,w];have hl:(a.take out.length).length=min out.length a.length:=Xx;have l:∀{L:Loc}(m:Nat),m<=maxLen->aN F L (IC (m:Int)) (.v (.int .i64 m)):=fun m s=>⟨_,rfl,by
  rw[Rel];refine⟨rfl,?_⟩;rw[vW];simp only[IntKind.min,IntKind.max,IntKind.signed,IntKind.bits,XA];unfold maxLen at s;omega⟩
 cases b with
 | none =>
  have h0:out.length=0:=ha rfl;have n:out=[]:=XD h0;subst n;refine⟨.inr ⟨none,0,c,y,a.length,r,rfl,rfl,by simp,?_⟩⟩;refine⟨M.set k (.row 5 1 (af (qi [] 0 (a.take 0)))),bw d (IC ((min a.length 0:Nat):Int)) τ,?_,hK⟩;refine TS.Xa (M:=M) ?_ fun j=>?_
  ·have:=o.put (l 0 (by decide)) d;simpa using this
  ·rw[TL.Wt];split
   ·rename_i e;subst e;rw[hk];simp[qi]
   ·rfl
 | some b =>
  refine⟨.inl ⟨k,out.length,.slice (some b) out.length c,out.length,dF out,b,c,c,0,a.length,y,r,dF (a.take out.length),q,rfl,?_,by omega,rfl,?_,?_,mG _,?_⟩⟩
  ·rw[Nat.zero_mul,show b.add 0=b by cases b;rfl]
  ·rw[nO,hl,Nat.mul_one,Nat.min_comm]
  ·rcases hf with h | ⟨h,_⟩
   ·refine .inl ?_;rw[show dF (a.take out.length)=(dF a).take out.length by simp[dF]];exact BR h
   ·exact .inr ⟨by omega,by rw[XD h];simp[dF]⟩
  ·rw[Nat.zero_mul,za];refine⟨_,_,?_,hK⟩;have h3:=B0 o q (out':=qi out 0 (a.take out.length)) (nR (by rw[hl];omega)) s ha;exact h3.put (l _ (by omega)) d
end
end Go.Fr.Tryd
