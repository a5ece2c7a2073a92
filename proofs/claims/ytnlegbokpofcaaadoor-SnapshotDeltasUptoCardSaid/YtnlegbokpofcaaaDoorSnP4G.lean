/- Part of the proofs of the statements of this seat. -/
import Derived.Test.YtnlegbokpofcaaaDoorSnE3G
import Derived.Test.YtnlegbokpofcaaaDoorFW3
import Derived.Test.YtnlegbokpofcaaaDoorSnW1G
set_option maxRecDepth 10000
set_option linter.unusedVariables false
set_option linter.unusedSimpArgs false
namespace Go.Fr.Tryd
open Go Go.RowKit Go.Proofs Go.Fr Go.Fr.T Go.Fr.Api
theorem RH (d b:List (List C)) (f:Int) (x:Wd) (k:FJ x) (bs:List UInt8) (hb:bs.length+(uo kW x).1.length<=70368744177664) :
  CallsT PZ 17 [.fn 32 [] [.own 1000 0,.pt (uF d b f x) 0]] (EB bs) (fun Mo c=>((uo kW x).2=true/\Mo=EB (bs++(uo kW x).1)/\c=.bool true)\/((uo kW x).2=false/\qK (EB bs) Mo/\c=.bool false)):=by
 have a:=t32 d b f x k bs hb;generalize uo kW x=e at a ⊢;obtain⟨r,j⟩:=e;generalize uF d b f x=es at a ⊢;refine gm (PS:=fun v=>v=eS/\j=false) (ns:=[1]) (out:=H9) Tryd.func17 uV (oL.mono u7 fun v h=>h.1) (fun v h=>rfl) rfl rfl ?_ fun s q=>?_
 ·rintro v ⟨rfl,h⟩;refine⟨.bool false,.bool false,?_,?_,fun Mo o=>.inr ⟨h,o,rfl⟩⟩
  ·intro L ρ l;obtain⟨m,g,t,p⟩:=l 0 2 _ rfl rfl;simp only[kO,m,p];rfl
  ·intro F L;rw[Rel]
 refine⟨rfl,?_⟩;refine bO [1000,1001,1002] a rfl rfl rfl rfl (fun v h=>h) ?_;rintro v Mo ⟨n,rfl,rfl⟩ _ _;refine⟨rfl,?_⟩;exact cR [1000,1001,1002] rfl rfl rfl rfl (.inl ⟨n,rfl,rfl⟩)
def rH (x:Wd):List UInt8:=if(uo kW x).2=true then gC (dJ++(uo kW x).1) else[]
theorem w7:dJ.length=3:=rfl
theorem RI:CallsT PZ 27 [.own 1000 0,.sl (af dJ)] [.box 66 [.nils,IC 0,.int .i8 0]] (iF (HT 66 [] dJ) (.tup [IC 3,.opq 0])) :=
 CallsT.gives (OZ 66 [] rfl [] dJ (by decide) (by decide))
  ⟨.inl ⟨_,rfl,.inr ⟨66,_,_,rfl,rfl,⟨_,_,rfl,tM rfl rfl,⟨_,_,rfl,aq rfl,⟨_,_,rfl,aq rfl,rfl⟩⟩⟩⟩⟩,.inr ⟨rfl,5,1,rfl⟩,trivial⟩ (by decide)
theorem Sj (h f:List (List C)) (j:Int) (x:Wd) (k:FJ x) (hb:(uo kW x).1.length<=35184372088832) :
  CallsT PZ 10 [.agg (uF h f j x)] [] (iF [.row 5 1 (af (rH x))] (.rw 1000)):=by
 have a:=RH h f j x k dJ (by rw[w7];omega);have d:=Sg (dJ++(uo kW x).1) (by simp[w7];omega);have b:rH x=if(uo kW x).2=true then gC (dJ++(uo kW x).1) else[]:=rfl;generalize rH x=eb at b ⊢;generalize uo kW x=e at a b d;obtain⟨l,n⟩:=e;refine au Tryd.func10 JU rfl fun p m=>?_;refine jq t31 rfl fun _=>?_;refine zO [5] [5,6] RI rfl rfl rfl rfl rfl fun _ _=>?_;refine Ah [3,5,6] a rfl rfl rfl rfl ?_;rintro v Mo (⟨c,rfl,rfl⟩ | ⟨c,⟨o,M1,rfl,q,M2,rfl,M3,rfl,rfl⟩,rfl⟩) _ _
 ·refine⟨rfl,?_⟩;refine uh [6] [5] [5] (Nv 66 (dJ++l)) ⟨_,rfl,rfl,rfl,rfl,rfl,fun _ _=>?_⟩;refine callO [] [18] d rfl rfl rfl rfl rfl fun _ _=>?_;exact xJ [18] rfl rfl (by rw[b,c];rfl) rfl
 ·refine⟨rfl,?_⟩;refine OQ ?_;exact Pq 2 5 1 rfl rfl (by rw[b,vv (by rw[c];exact XJ)];rfl)
end Go.Fr.Tryd
namespace Go.Fr.Tryd
open Go Go.RowKit Go.Proofs Go.Fr Go.Fr.T Go.Fr.Api Go.Fr.Dm
def dO (n:Nat):Nat:=(n+31) / 32
def rI (a b:List UInt8) (i:Nat):Bool:=!decide (ct b i <+: ct a i)
def jG (a b:List UInt8):List Nat:=(List.range (dO b.length)).filter (rI a b)
def kT:List Int->List UInt8
 | []=>[]
 | n::l=>bQ (zz n)++kT l
def xA (b:List UInt8):Int->List Nat->List UInt8
 | _,[]=>[]
 | p,i::r=>bQ (zz (i-p))++(ct b i++xA b i r)
def mR (a b:List UInt8):List Int:=[a.length,jJ a,b.length,jJ b,(jG a b).length]
def cD (a b:List UInt8):List UInt8:=kT (mR a b)++xA b (-1) (jG a b)
def uG (l:List Nat):List (List C):=l.map fun(i:Nat)=>([IC (i:Int)]:List C)
theorem w8 (l:List Nat):(uG l).length=l.length:=by simp[uG]
theorem Lr {l:List Nat}{k i:Nat}(h:l[k]?=some i):(uG l)[k]?=some [IC i]:=by simp[uG,h]
theorem Ai {a b:List UInt8}{i:Nat}(h:i∈jG a b):i<dO b.length:=by
 simp only[jG,List.mem_filter,List.mem_range] at h;exact h.1
theorem u9 (a b:List UInt8):(jG a b).length<=dO b.length:=by
 have:=List.length_filter_le (rI a b) (List.range (dO b.length));simpa[jG] using this
theorem El:∀(f z:Nat),z<128 ^ (f+1)->(bQ z).length<=f+1
 | 0,z,h=>by rw[bQ,dif_pos (by omega)];simp
 | f+1,z,h=>by
  rw[bQ];split
  ·simp
  ·have:=El f (z / 128) (by rw[Nat.pow_succ] at h;omega);simp only[Xh];omega
theorem Mc (n:Int) (m:Nat) (a:-(m:Int)<=n) (b:n<=m):zz n<=2*m:=by
 unfold zz;split<;>omega
theorem mD (n:Int) (a:-2305843009213693952<=n) (b:n<=2305843009213693952):(bQ (zz n)).length<=10 :=
 El 9 _ (Nat.lt_of_le_of_lt (Mc n 2305843009213693952 a b) (by decide))
def Sm (n:Int):Prop:=-2305843009213693952<=n/\n<=2305843009213693952
theorem tQ:∀(l:List Int),(∀n∈l,Sm n)->(kT l).length<=10*l.length
 | [],_=>by simp[kT]
 | n::l,h=>by
  have b:=mD n (h n (by simp)).1 (h n (by simp)).2;have c:=tQ l fun m a=>h m (by simp[a]);simp only[kT,W4,Xh];omega
theorem BQ (b:List UInt8) (i:Nat):(ct b i).length<=32:=by unfold ct;rw[Xk];omega
theorem Aj (b:List UInt8):∀(p:Int) (l:List Nat),-1<=p->p<=1152921504606846976->(∀i∈l,i<=1152921504606846976)->(xA b p l).length<=42*l.length
 | p,[],_,_,_=>by simp[xA]
 | p,i::l,f,c,h=>by
  have hi:=h i (by simp);have d:=mD (i-p) (by omega) (by omega);have e:=Aj b i l (by omega) (by omega) fun m a=>h m (by simp[a]);have j:=BQ b i;simp only[xA,W4,Xh];omega
theorem Pr {els:List (List C)}{c:List C}{K:Prop}(n:Nat) (d:c.length=1) (b:els.length=n) (h:n<=2 ^ 40) (k:K):rj els [c] 1 8 K :=
 ⟨fun es a=>(by rcases WZ.1 a with rfl | a;exact d;cases a),by rw[b];simp only[Xh,XA,maxLen];omega,by
  rw[b];simp only[Xh,XA];omega,k⟩
theorem Fv (s:List Nat) (k:Nat):uG s++[[IC (k:Int)]]=uG (s++[k]):=by simp[uG]
theorem RJ {l:List Nat}{k:Nat}{x:Nat}{K:List C->Prop}(a:l[k]?=some x) (h:K [IC (x:Int)]):Cp (uG l) (k:Int) 1 K:=⟨[IC (x:Int)],by omega,Lr a,rfl,h⟩
set_option maxRecDepth 20000 in
theorem t8 (a b:List UInt8) (ha:a.length<=1073741824) (hb:b.length<=1073741824) :
  CallsT PZ 8 [.sl (af a),.sl (af b)] [] (iF [] (.sl (af (cD a b)))):=by
 have am:(af a).length=a.length:=aK;have w:(af b).length=b.length:=aK;obtain⟨n,y⟩:∃n,dO b.length=n:=⟨_,rfl⟩;have bd:n<=33554433:=by rw[<-y];unfold dO;omega
 have ag:CallsT PZ 23 [IC ((af b).length:Nat)] [] (iF [] (IC (n:Nat))):=by
  rw[w,<-y];exact Si b.length (by omega)
 refine au Tryd.func8 Nk rfl fun hw be=>?_;refine bL ag rfl fun _=>?_;refine bW n 16 [5] [] (fun _=>[.rw 30]) (fun s:List Nat=>[(30,.row 3 1 (uG s))]) (fun k s=>s=(List.range k).filter (rI a b)) rfl (aq rfl) ⟨tM rfl rfl,trivial⟩ ⟨.inr ⟨rfl,3,1,rfl⟩,trivial⟩ (fun _=>rfl) (fun _=>rfl) ?_;rintro k s hk j _ _ r;refine aV (fun c=>?_) (fun o=>?_)
 ·have c:k<n:=by omega
  have aw:s.length<=k:=by
   have:=List.length_filter_le (rI a b) (List.range k);rw[j];simpa using this
  have aa:(List.range (k+1)).filter (rI a b)=s++if rI a b k=true then[k] else[]:=by
   rw[List.range_succ,List.filter_append,<-j];congr 1;cases e:rI a b k<;>simp[e]
  refine bL (RG a k (by omega)) rfl fun _=>?_;refine bL (RG b k (by omega)) rfl fun _=>?_;refine bL (Sh (ct a k) (ct b k)) rfl fun _=>?_;refine aH (fun t=>?_) (fun t=>?_)
  ·have t:rI a b k=true:=t;refine Pr s.length rfl (w8 s) (by omega) ?_;refine Fit.Wi (by omega) (by omega) ?_;refine⟨(k+1,s++[k]),⟨c,by rw[aa,j3 t]⟩,⟨cF,aq rfl,trivial⟩,⟨.inl ⟨_,rfl,.inl ⟨o6 (TO.row 3 1) (Fv s k),rfl⟩⟩,trivial⟩,cG c⟩
  ·have t:rI a b k=false:=t;refine Fit.Wi (by omega) (by omega) ?_;refine⟨(k+1,s),⟨c,by rw[aa,vv (by rw[t];exact XJ),Xl]⟩,⟨cF,aq rfl,trivial⟩,⟨.inl ⟨_,rfl,.inl ⟨rfl,rfl⟩⟩,trivial⟩,cG c⟩
 have j:s=jG a b:=by
  have:k=n:=by omega
  rw[j,this,<-y];rfl
 have ax:s.length<=n:=by rw[j,<-y];exact u9 a b
 have ba:=ju a;have az:=ju b;have ad:[((af a).length:Int),jJ a,((af b).length:Int),jJ b,((uG s).length:Int)]=mR a b:=by rw[am,w,w8,j];rfl
 have ac:∀m∈mR a b,Sm m:=by
  intro m hm;simp only[mR,<-j,WZ,List.not_mem_nil,or_false] at hm;unfold Sm;rcases hm with rfl | rfl | rfl | rfl | rfl<;>omega
 refine bL (t9 a) rfl fun _=>?_;refine bL (t9 b) rfl fun _=>?_;have hN:=tQ _ ac;have h5:(mR a b).length=5:=rfl;have hD:(cD a b).length<=50+42*s.length:=by
  have:=Aj b (-1) (jG a b) (by omega) (by omega) fun i hi=>by have:=Ai hi;omega
  rw[<-j] at this;rw[cD,W4,<-j];omega
 refine bW 5 46 [] [] (fun _=>[]) (fun d:List UInt8=>[(33,.box 66 [.rw 60,IC 0,.int .i8 0]),(60,.row 5 1 (af d))]) (fun k d=>d++kT ((mR a b).drop k)=kT (mR a b)) rfl (aq rfl) trivial
  ⟨.inl ⟨_,rfl,.inr ⟨66,_,_,rfl,rfl,⟨_,_,rfl,tM rfl rfl,⟨_,_,rfl,aq rfl,⟨_,_,rfl,aq rfl,rfl⟩⟩⟩⟩⟩,.inr ⟨rfl,5,1,rfl⟩,trivial⟩ (fun _=>rfl) (fun _=>rfl) ?_
 rintro k d hk f _ _ r;refine aV (fun c=>?_) (fun o=>?_)
 ·have h:(k:Int)<(5:Nat):=c;have h:k<5:=by omega
  refine d9 (l:=mR a b) h fun x hx u v=>?_;rw[v] at f;obtain⟨x1,x2⟩:=ac x u;have al:=mD x x1 x2;have an:d.length+10<=1000:=by
   have:=o6 List.length f;rw[W4] at this;omega
  refine Nt (l:=[((af a).length:Int),jJ a,((af b).length:Int),jJ b,((uG s).length:Int)]) (by rw[ad];exact hx) ?_;refine callO [33,60] [33,60] (O0 66 d x (by omega) (by omega) (by omega)) rfl rfl rfl rfl rfl fun _ _=>?_;refine Fit.Wi (by omega) (by omega) ?_;refine⟨(k+1,d++bQ (zz x)),⟨h,by rw[W7];exact f⟩,⟨cF,trivial⟩,⟨.inl ⟨_,rfl,.inl ⟨rfl,rfl⟩⟩,.inl ⟨_,rfl,.inl ⟨rfl,rfl⟩⟩,trivial⟩,cG h⟩
 have av:¬(k:Int)<(5:Nat):=o;have f:d=kT (mR a b):=by
  rw[List.drop_eq_nil_of_le (by omega)] at f;simpa[kT] using f
 have ap:(uG s).length=s.length:=w8 s;refine bW s.length 56 [10] (d,(-1:Int)) (fun x:List UInt8×Int=>[IC x.2]) (fun x=>[(33,.box 66 [.rw 60,IC 0,.int .i8 0]),(60,.row 5 1 (af x.1))])
  (fun k x=>x.1++xA b x.2 (s.drop k)=cD a b/\-1<=x.2/\x.2<=33554433) ⟨by rw[f,j];rfl,by omega,by omega⟩ (aq rfl) ⟨aq rfl,trivial⟩
  ⟨.inl ⟨_,rfl,.inl ⟨rfl,rfl⟩⟩,.inl ⟨_,rfl,.inl ⟨rfl,rfl⟩⟩,trivial⟩ (fun _=>rfl) (fun _=>rfl) ?_
 rintro k ⟨d,p⟩ hk ⟨f,z,ab⟩ _ _ r;refine aV (fun c=>?_) (fun o=>?_)
 ·have c:k<s.length:=by omega
  refine d9 c fun x hx u v=>?_;have f:d++xA b p (s.drop k)=cD a b:=f;rw[v] at f;have z:-1<=p:=z;have ab:p<=33554433:=ab;have aE:x<n:=by rw[<-y];exact Ai (by rw[<-j];exact u)
  have al:=mD (x-p) (by omega) (by omega);have ay:=BQ b x;have an:d.length<=50+42*s.length:=by
   have:=o6 List.length f;rw[W4] at this;omega
  refine RJ hx ?_;refine Fit.Wi (by omega) (by omega) ?_;refine callO [33,60] [33,60] (O0 66 d (x-p) (by omega) (by omega) (by omega)) rfl rfl rfl rfl rfl fun _ _=>?_;refine jq (RG b x (by omega)) rfl fun _=>?_;refine zO [33,60] [33,60] (OZ 66 [] rfl (d++bQ (zz (x-p))) (ct b x) (by rw[W4];omega) (by have:=nM (zz (x-p));rw[W4];omega)) rfl rfl rfl rfl rfl fun _ _=>?_;refine Fit.Wi (by omega) (by omega) ?_;refine⟨(k+1,(d++bQ (zz (x-p))++ct b x,(x:Int))),⟨c,by simpa[xA] using f,by show(-1:Int)<=(x:Int);omega,by show(x:Int)<=33554433;omega⟩,⟨cF,aq rfl,trivial⟩,⟨.inl ⟨_,rfl,.inl ⟨rfl,rfl⟩⟩,.inl ⟨_,rfl,.inl ⟨rfl,rfl⟩⟩,trivial⟩,cG c⟩
 have o:¬k<s.length:=by omega
 have f:d++xA b p (s.drop k)=cD a b:=f;have f:d=cD a b:=by
  rw[List.drop_eq_nil_of_le (by omega)] at f;simpa[xA] using f
 refine uh [60] [33] [33] (Nv 66 d) ⟨_,rfl,rfl,rfl,rfl,rfl,fun _ _=>?_⟩;exact bD rfl (o6 (fun q=>C.sl (af q)) f)
end Go.Fr.Tryd
namespace Go.Fr.Tryd
open Go Go.RowKit Go.Proofs Go.Fr Go.Fr.T Go.Fr.Api
def w0:Wd:=⟨[],[],[],[],[],0,0,0⟩
def DB (bs:List UInt8) (cs:List C):List TO:=[.box 52 [.own 1001 0],RB bs,.box 44 cs]
def oH (bs:List UInt8):Option Wd:=match D7 bs with
 | some (x,[])=>some x
 | _=>none
theorem Fw {bs:List UInt8}(h:D7 bs=none):oH bs=none:=by unfold oH;rw[h]
theorem Fx {bs r:List UInt8}{x:Wd}(h:D7 bs=some (x,r)) (a:decide (((af r).length:Int)=0)=false):oH bs=none:=by
 unfold oH;rw[h];cases r with
 | nil=>simp[af] at a
 | cons=>rfl
theorem Fy {bs r:List UInt8}{x:Wd}(h:D7 bs=some (x,r)) (b:decide (((af r).length:Int)=0)=true):oH bs=some x/\r=[]:=by
 unfold oH;rw[h];cases r with
 | nil=>exact⟨rfl,rfl⟩
 | cons a l=>simp[af] at b;omega
theorem t35 (b a:List (List C)) (d:Int) (bs:List UInt8) :
  CallsTX PZ 35 [.own 1000 0,.own 1002 0] (DB bs (uF b a d w0)) (fun Mo c=>∃x,oH bs=some x/\Mo=DB [] (uF b a d x)/\c=.tup []) (fun v=>v=eS/\oH bs=none):=by
 refine ai Tryd.func35 Kh rfl fun l k=>?_;refine bO [1001,1002] (Ra 44 b a d bs) rfl rfl rfl rfl (fun v h=>⟨h.1,Fw h.2⟩) ?_;rintro v Mo ⟨x,r,e,rfl,rfl⟩ _ _;refine⟨rfl,?_⟩;refine bO [] (sN (decide (((af r).length:Int)=0))) rfl rfl rfl rfl (fun v h=>⟨h.1,Fx e h.2⟩) ?_;rintro v Mo ⟨f,rfl,rfl⟩ _ _;refine⟨rfl,?_⟩;obtain⟨j,rfl⟩:=Fy e f;exact cR [1000,1001,1002] rfl rfl rfl rfl ⟨x,j,rfl,rfl⟩
theorem RM (b a:List (List C)) (d:Int) (bs:List UInt8) :
  CallsT PZ 17 [.fn 35 [] [.own 1000 0,.own 1002 0]] (DB bs (uF b a d w0)) (fun Mo c=>(∃x,oH bs=some x/\Mo=DB [] (uF b a d x)/\c=.bool true)\/(oH bs=none/\qK (DB bs (uF b a d w0)) Mo/\c=.bool false)):=by
 refine gm (PS:=fun v=>v=eS/\oH bs=none) (ns:=[1]) (out:=H9) Tryd.func17 uV (oL.mono u7 fun v h=>h.1) (fun v h=>rfl) rfl rfl ?_ fun n m=>?_
 ·rintro v ⟨rfl,h⟩;refine⟨.bool false,.bool false,?_,?_,fun Mo k=>.inr ⟨h,k,rfl⟩⟩
  ·intro L ρ e;obtain⟨f,g,t,l⟩:=e 0 2 _ rfl rfl;simp only[kO,f,l];rfl
  ·intro F L;rw[Rel]
 refine⟨rfl,?_⟩;refine bO [1000,1001,1002] (t35 b a d bs) rfl rfl rfl rfl (fun v h=>h) ?_;rintro v Mo ⟨x,j,rfl,rfl⟩ _ _;refine⟨rfl,?_⟩;exact cR [1000,1001,1002] rfl rfl rfl rfl (.inl ⟨x,j,rfl,rfl⟩)
theorem tP {L L1:TL}:Im L L1 .nils (.sl []):=.inr (.inr (.inl ⟨rfl,rfl⟩))
theorem iH {t:Nat}(n:Nat) (F:aA) (L:Loc) (p:Own) (r:cN F L (.box t (List.replicate n .any)) p):cN F L (.win t (List.replicate n .any) [] []) p :=
 u4 (by simp) (yS n) (fun c h=>by cases h) F L p r
theorem Ps (b a:List (List C)) (d:Int) (bs:List UInt8) :
  CallsT PZ 17 [.fn 35 [] [.own 1000 0,.own 1002 0]] [.box 52 [.own 1001 0],RB bs,.box 44 [.sl b,.sl a,IC d,.nils,.nils,.nils,.nils,.nils,IC 0,IC 0,IC 0]]
   (fun Mo c=>(∃x,oH bs=some x/\Mo=DB [] (uF b a d x)/\c=.bool true)\/(oH bs=none/\(∃m j e,Mo=[.win 52 m [] [],.win 54 j [] [],.win 44 e [] []])/\c=.bool false)) :=
 (((CallsT.gives (Lin:=[.box 52 [.own 1001 0],RB bs,.box 44 [.sl b,.sl a,IC d,.nils,.nils,.nils,.nils,.nils,IC 0,IC 0,IC 0]]) (RM b a d bs)
    ⟨.inl ⟨_,rfl,.inl ⟨rfl,rfl⟩⟩,.inl ⟨_,rfl,.inl ⟨rfl,rfl⟩⟩,.inl ⟨_,rfl,.inr ⟨44,_,_,rfl,rfl,⟨_,_,rfl,aq rfl,⟨_,_,rfl,aq rfl,⟨_,_,rfl,aq rfl,⟨_,_,rfl,tP,⟨_,_,rfl,tP,⟨_,_,rfl,tP,⟨_,_,rfl,tP,⟨_,_,rfl,tP,⟨_,_,rfl,aq rfl,⟨_,_,rfl,aq rfl,⟨_,_,rfl,aq rfl,rfl⟩⟩⟩⟩⟩⟩⟩⟩⟩⟩⟩⟩⟩,trivial⟩ (Xj 3):CallsT PZ 17 _ _ _).toX (Pp:=fun _=>False)).view (vw.refl _) (by
  rintro Mo c (h | ⟨l,⟨f,M1,rfl,n,M2,rfl,k,M3,rfl,rfl⟩,rfl⟩)
  ·exact⟨Mo,vw.refl _,.inl h⟩
  ·exact⟨_,vw.cons (iH f) (vw.cons (iH n) (vw.cons (iH k) (vw.refl []))),.inr ⟨l,⟨_,_,_,rfl⟩,rfl⟩⟩) fun _ h=>h).noPan
def xg (bs:List UInt8):Option Wd×Int :=
 if bs.length<7\/¬dJ <+: bs then(none,16)
 else if¬gC (bs.take (bs.length-4))=bs then(none,17)
 else match oH ((bs.take (bs.length-4)).drop 3) with
  | some x=>(some x,0)
  | none=>(none,16)
def RN (b a:List (List C)) (c:Int):Option Wd×Int->C
 | (some x,e)=>.tup [.agg (uF b a c x),IC e]
 | (none,e)=>.tup [.agg (uF [] [] 0 w0),IC e]
theorem Sk (o n:List (List C)) (p:Int) (bs:List UInt8) (hb:bs.length<=70368744177664) :
  CallsT PZ 11 [.agg [.sl o,.sl n,IC p],.sl (af bs)] [] (iF [] (RN o n p (xg bs))):=by
 have f:(af bs).length=bs.length:=aK;obtain⟨s,l⟩:∃s,bs.take (bs.length-4)=s:=⟨_,rfl⟩;have ae:s.length<=bs.length:=by rw[<-l,Xk];omega
 obtain⟨d,e⟩:∃d,xg bs=d:=⟨_,rfl⟩;rw[e];have w:bs.length<7->d=(none,16):=fun h=>by rw[<-e];unfold xg;rw[j3 (.inl h)]
 have u:¬dJ <+: bs->d=(none,16):=fun h=>by rw[<-e];unfold xg;rw[j3 (.inr h)]
 have z:¬bs.length<7->dJ <+: bs->¬gC s=bs->d=(none,17):=fun a h2 t=>by
  rw[<-e];unfold xg;rw[vv (fun h=>h.elim a (fun h=>h h2)),l,j3 t]
 have j:¬bs.length<7->dJ <+: bs->gC s=bs->d=match oH (s.drop 3) with | some x=>(some x,0) | none=>(none,16):=fun a h2 t=>by
  rw[<-e];unfold xg;rw[vv (fun h=>h.elim a (fun h=>h h2)),l,vv (fun h=>h t)]
 have k:=Ps o n p (s.drop 3);generalize oH (s.drop 3)=ad at j k;refine au Tryd.func11 JV rfl fun hw an=>?_;refine aV (fun h0=>?_) (fun h0=>?_)
 ·exact bD rfl (by rw[w (by omega)];rfl)
 have h7:¬bs.length<7:=by omega
 have m:((af bs).drop 0).take (((af bs).length-4:Int).toNat-0)=af s:=by
  rw[gq,f,show((bs.length:Int)-4).toNat-0=bs.length-4 by omega,<-l];rfl
 have e2:(3:Int)<=((((af bs).drop 0).take (((af bs).length-4:Int).toNat-0)).length:Int):=by rw[m,aK,<-l,Xk];omega
 have e3:∀es∈(((af bs).drop 0).take (((af bs).length-4:Int).toNat-0)),es.length=1:=by rw[m];exact fA
 have r:((((af bs).drop 0).take (((af bs).length-4:Int).toNat-0)).drop 3).take (((((af bs).drop 0).take (((af bs).length-4:Int).toNat-0)).length:Int).toNat-3)=af (s.drop 3):=by
  rw[m,gq,aK,XI (by simp)]
 refine bL t31 rfl fun _=>?_;refine bL (Sh bs dJ) rfl fun _=>?_;refine aH (fun a=>?_) (fun a=>?_)
 ·have a:(!decide (dJ <+: bs))=true:=a;exact bD rfl (by rw[u (by simpa using a)];rfl)
 have a:(!decide (dJ <+: bs))=false:=a;have a:dJ <+: bs:=by simpa using a
 refine Fit.Wi (by omega) (by omega) ?_;refine AZ.mk (by omega) (by omega) (by omega) fA ?_;refine callO [] [25] (Sg s (by omega)) rfl rfl (o6 (fun q=>[C.sl q]) m) rfl rfl fun _ _=>?_;refine uh [25] [] [] (t22 (gC s) bs) ⟨_,rfl,rfl,rfl,rfl,rfl,fun _ _=>?_⟩;refine aH (fun c=>?_) (fun b=>?_)
 ·have c:(!decide (gC s=bs))=true:=c;exact bD rfl (by rw[z h7 a (by simpa using c)];rfl)
 have b:(!decide (gC s=bs))=false:=b;have h4:=j h7 a (by simpa using b);refine AZ.mk (by decide) e2 (Xr _) e3 ?_;refine Ah [7,33,8] k rfl rfl rfl (o6 (fun q=>[TO.box 52 [C.own 1001 0],.box 54 [.sl q],.box 44 [.sl o,.sl n,IC p,.nils,.nils,.nils,.nils,.nils,IC 0,IC 0,IC 0]]) r) ?_;rintro v Mo (⟨x,y,rfl,rfl⟩ | ⟨y,⟨p1,p2,p3,rfl⟩,rfl⟩) _ _
 ·refine⟨rfl,?_⟩;exact bD rfl (by rw[h4,y];rfl)
 ·refine⟨rfl,?_⟩;exact bD rfl (by rw[h4,y];rfl)
structure NJ where
 slot:Int
 excl:Bool
 re:Bool
structure Slot where
 state:Int
 type:Ty
 var:Int
 flag:Int
 lent:List NJ
structure Fz where
 name:ByteArray
 params:List Ty
 result:Ty
 ties:List Int
 slots:Int
 blocks:List Block
 entry:List (List Slot)
structure Md where
 datas:List Api.Data
 routs:List Fz
 main:Int
def BR (x:NJ):List C:=[IC x.slot,.bool x.excl,.bool x.re]
def jv (x:Slot):List C:=[IC x.state,IC x.type.kind,IC x.type.id,.sl (x.type.args.map uY),IC x.var,IC x.flag,.sl (x.lent.map BR)]
def rJ (l:List Slot):List C:=[.sl (l.map jv)]
def kU (r:Fz):List C:=[.str r.name,.sl (r.params.map uY),IC r.result.kind,IC r.result.id,.sl (r.result.args.map uY),.sl (wL r.ties),IC r.slots,.sl (r.blocks.map jt),.sl (r.entry.map rJ)]
def Pt (i:Md):List C:=[.sl (i.datas.map kJ),.sl (i.routs.map kU),IC i.main]
def Iq (t:Ty):C:=.agg [IC t.kind,IC t.id,.sl (t.args.map uY)]
noncomputable def Ia (p:Prop):Bool:=@decide p (Classical.propDecidable p)
theorem Ak {p:Prop}:Ia p=true↔p:=by unfold Ia;exact @decide_eq_true_iff p (Classical.propDecidable p)
theorem kM {p:Prop}(h:Ia p=true):p:=Ak.1 h
theorem kV {p:Prop}(h:Ia p=false):¬p:=fun q=>by rw[Ak.2 q] at h;cases h
theorem bJ {p:Prop}(h:¬p):false=Ia p:=by
 cases e:Ia p with
 | true=>exact vz (kM e) h
 | false=>rfl
theorem jw {p:Prop}(h:p):true=Ia p:=(Ak.2 h).symm
theorem iV {p q:Prop}(h:p↔q):Ia p=Ia q:=by rw[show p=q from propext h]
theorem m5 {c:Type}{a b:List c}(h:¬a.length=b.length):a≠b:=fun e=>h (by rw[e])
theorem iI {c:Type}{a b:List c}{n:Nat}(d:a.length=n) (hb:b.length=n) (h:∀j<n,a[j]?=b[j]?):a=b:=by
 apply XB;intro i
 by_cases hi:i<n
 ·exact h i hi
 ·rw[Xa (by omega),Xa (by omega)]
theorem m6 {d:Type}{a b:List d}{k:Nat}{x y:d}(c:a[k]?=some x) (f:b[k]?=some y) (h:x≠y):a≠b:=fun e=>h (by rw[e,f] at c;injection c with c;exact c.symm)
theorem iJ {d:Type}{a b:List d}{k:Nat}{x y:d}(h:∀j<k,a[j]?=b[j]?) (f:a[k]?=some x) (l:b[k]?=some y) (e:x=y):∀j<k+1,a[j]?=b[j]?:=by
 intro j m
 by_cases c:j=k
 ·rw[c,f,l,e]
 ·exact h j (by omega)
theorem fW {a:Type}{l:List a}{k:Nat}(h:k<l.length):∃x,l[k]?=some x:=⟨l[k],yo h⟩
theorem Al {a b:ByteArray}(h:a.data.toList=b.data.toList):a=b:=by
 cases a;cases b;simp only at h;rw[Array.toList_inj.1 h]
def fq (f:Nat) (args:List C) (p:Prop):Prop:=CallsT PZ f args [] (iF [] (.bool (Ia p)))
theorem RO (a b:List (Int)):fq 79 [.sl (wL a),.sl (wL b)] (a=b):=by
 refine au Tryd.func79 KD rfl fun r _=>?_;have m:(wL a).length=a.length:=by simp[wL]
 have hb:(wL b).length=b.length:=by simp[wL]
 have t:a.length<=9223372036854775807:=by have:=mr r.1;rwa [m] at this
 refine aH (fun d=>?_) (fun d=>?_)
 ·have d:¬a.length=b.length:=fun e=>by
   rw[m,hb,e] at d;simp at d
  exact bD rfl (o6 C.bool (bJ (m5 d)))
 have d:a.length=b.length:=by
  rw[m,hb] at d;simp at d;omega
 refine bW a.length 13 [] () (fun _=>[]) (fun _=>[]) (fun k _=>∀j<k,a[j]?=b[j]?) (fun j q=>vz q (by omega)) (aq rfl) trivial trivial (fun _=>rfl) (fun _=>rfl) ?_;rintro k ⟨⟩ s f _ _ _;refine aV (fun c=>?_) (fun n=>?_)
 ·have c:k<a.length:=by rw[m] at c;omega
  obtain⟨x,p⟩:=fW c;obtain⟨y,o⟩:=fW (l:=b) (k:=k) (by omega);refine Nt p ?_;refine Nt o ?_;refine aH (fun h=>?_) (fun h=>?_)
  ·have h:¬x=y:=by simpa using h
   exact bD rfl (o6 C.bool (bJ (m6 p o h)))
  ·have h:x=y:=by simpa using h
   refine Fit.Wi (by omega) (by omega) ?_;exact⟨(k+1,()),⟨c,iJ f p o h⟩,⟨cF,trivial⟩,trivial,cG c⟩
 ·have n:¬k<a.length:=by rw[m] at n;omega
  have:k=a.length:=by omega
  subst this;exact bD rfl (o6 C.bool (jw (iI rfl d.symm f)))
theorem VJ (a b:List (NJ)):fq 94 [.sl (a.map BR),.sl (b.map BR)] (a=b):=by
 refine au Tryd.func94 KS rfl fun r _=>?_;have m:(a.map BR).length=a.length:=by simp
 have hb:(b.map BR).length=b.length:=by simp
 have t:a.length<=9223372036854775807:=by have:=mr r.1;rwa [m] at this
 refine aH (fun d=>?_) (fun d=>?_)
 ·have d:¬a.length=b.length:=fun e=>by
   rw[m,hb,e] at d;simp at d
  exact bD rfl (o6 C.bool (bJ (m5 d)))
 have d:a.length=b.length:=by
  rw[m,hb] at d;simp at d;omega
 refine bW a.length 13 [] () (fun _=>[]) (fun _=>[]) (fun k _=>∀j<k,a[j]?=b[j]?) (fun j q=>vz q (by omega)) (aq rfl) trivial trivial (fun _=>rfl) (fun _=>rfl) ?_;rintro k ⟨⟩ s f _ _ _;refine aV (fun c=>?_) (fun n=>?_)
 ·have c:k<a.length:=by rw[m] at c;omega
  obtain⟨x,p⟩:=fW c;obtain⟨y,o⟩:=fW (l:=b) (k:=k) (by omega);refine jr p rfl rfl ?_;refine jr o rfl rfl ?_;refine aH (fun h=>?_) (fun h=>?_)
  ·have h:¬x=y:=fun e=>by subst e;simp[mT] at h
   exact bD rfl (o6 C.bool (bJ (m6 p o h)))
  ·have h:x=y:=by cases x;cases y;simp[mT] at h;simp[h]
   refine Fit.Wi (by omega) (by omega) ?_;exact⟨(k+1,()),⟨c,iJ f p o h⟩,⟨cF,trivial⟩,trivial,cG c⟩
 ·have n:¬k<a.length:=by rw[m] at n;omega
  have:k=a.length:=by omega
  subst this;exact bD rfl (o6 C.bool (jw (iI rfl d.symm f)))
theorem VK (a b:List (Ty)) (q:∀x∈a,∀y,fq 77 [Iq x,Iq y] (x=y)):fq 87 [.sl (a.map uY),.sl (b.map uY),.fn 77 [] []] (a=b):=by
 refine au Tryd.func87 KL rfl fun s _=>?_;have m:(a.map uY).length=a.length:=by simp
 have hb:(b.map uY).length=b.length:=by simp
 have u:a.length<=9223372036854775807:=by have:=mr s.1;rwa [m] at this
 refine aH (fun d=>?_) (fun d=>?_)
 ·have d:¬a.length=b.length:=fun e=>by
   rw[m,hb,e] at d;simp at d
  exact bD rfl (o6 C.bool (bJ (m5 d)))
 have d:a.length=b.length:=by
  rw[m,hb] at d;simp at d;omega
 refine bW a.length 17 [] () (fun _=>[]) (fun _=>[]) (fun k _=>∀j<k,a[j]?=b[j]?) (fun j r=>vz r (by omega)) (aq rfl) trivial trivial (fun _=>rfl) (fun _=>rfl) ?_;rintro k ⟨⟩ t f _ _ _;refine aV (fun c=>?_) (fun n=>?_)
 ·have c:k<a.length:=by rw[m] at c;omega
  obtain⟨x,o⟩:=fW c;obtain⟨y,p⟩:=fW (l:=b) (k:=k) (by omega);refine LR o ?_;refine LR p ?_;refine bL (q x (W5 o) y) rfl fun _=>?_;refine aH (fun h=>?_) (fun h=>?_)
  ·have h:¬x=y:=kV (by simpa using h);exact bD rfl (o6 C.bool (bJ (m6 o p h)))
  ·have h:x=y:=kM (by simpa using h);refine Fit.Wi (by omega) (by omega) ?_;exact⟨(k+1,()),⟨c,iJ f o p h⟩,⟨cF,trivial⟩,trivial,cG c⟩
 ·have n:¬k<a.length:=by rw[m] at n;omega
  have:k=a.length:=by omega
  subst this;exact bD rfl (o6 C.bool (jw (iI rfl d.symm f)))
theorem Sn (a b:List (Ty)) (c:∀x∈a,∀y,fq 77 [Iq x,Iq y] (x=y)):fq 76 [.sl (a.map uY),.sl (b.map uY),.fn 77 [] []] (a=b):=by
 refine au Tryd.func76 Kz rfl fun d _=>?_;refine bL (VK a b c) rfl fun _=>?_;exact bD rfl rfl
theorem Pu {x y:Ty}(c:x.kind=y.kind) (a:x.id=y.id) (b:x.args=y.args):x=y:=by
 cases x;cases y
 simp_all [Ty.kind,Ty.id,Ty.args]
theorem Pv {x t:Ty}(h:x∈t.args):SizeOf.sizeOf x<SizeOf.sizeOf t:=by
 cases t;have:=List.sizeOf_lt_of_mem h;simp only[Ty.args] at this;simp only[Ty.mk.sizeOf_spec];omega
theorem Pw:∀(n:Nat) (x y:Ty),SizeOf.sizeOf x<n->fq 77 [Iq x,Iq y] (x=y)
 | 0,x,y,h=>vz h (by omega)
 | n+1,x,y,h=>by
  have d:∀z∈x.args,∀w,fq 77 [Iq z,Iq w] (z=w):=fun z c w=>Pw n z w (by have:=Pv c;omega);refine au Tryd.func77 KA rfl fun f _=>?_;refine aV (fun b=>?_) (fun b=>bD rfl (o6 C.bool (bJ fun e=>b (by rw[e]))));refine aV (fun a=>?_) (fun a=>bD rfl (o6 C.bool (bJ fun e=>a (by rw[e]))));refine bL (Sn x.args y.args d) rfl fun _=>?_;exact bD rfl (o6 C.bool (iV ⟨fun h=>Pu b a h,fun e=>by rw[e]⟩))
theorem RP (x y:Ty):fq 77 [Iq x,Iq y] (x=y):=Pw _ x y (Nat.lt_succ_self _)
theorem NK (a b:List Ty):fq 76 [.sl (a.map uY),.sl (b.map uY),.fn 77 [] []] (a=b):=Sn a b fun x _ y=>RP x y
theorem var_eq {x y:Variant}(b:x.name=y.name) (a:x.fields=y.fields):x=y:=by
 rcases x with⟨⟩
 rcases y with⟨⟩
 simp_all
theorem VL (x y:Variant):fq 75 [.agg (fU x),.agg (fU y)] (x=y):=by
 refine au Tryd.func75 Ky rfl fun b _=>?_;refine aV (fun a=>?_) (fun a=>bD rfl (o6 C.bool (bJ fun e=>a (by rw[e]))));refine bL (NK x.fields y.fields) rfl fun _=>?_;exact bD rfl (o6 C.bool (iV ⟨fun h=>var_eq (Al a) h,fun e=>by rw[e]⟩))
theorem VN (a b:List (Variant)) (q:∀x∈a,∀y,fq 75 [.agg (fU x),.agg (fU y)] (x=y)):fq 86 [.sl (a.map fU),.sl (b.map fU),.fn 75 [] []] (a=b):=by
 refine au Tryd.func86 KJ rfl fun s _=>?_;have m:(a.map fU).length=a.length:=by simp
 have hb:(b.map fU).length=b.length:=by simp
 have u:a.length<=9223372036854775807:=by have:=mr s.1;rwa [m] at this
 refine aH (fun d=>?_) (fun d=>?_)
 ·have d:¬a.length=b.length:=fun e=>by
   rw[m,hb,e] at d;simp at d
  exact bD rfl (o6 C.bool (bJ (m5 d)))
 have d:a.length=b.length:=by
  rw[m,hb] at d;simp at d;omega
 refine bW a.length 17 [] () (fun _=>[]) (fun _=>[]) (fun k _=>∀j<k,a[j]?=b[j]?) (fun j r=>vz r (by omega)) (aq rfl) trivial trivial (fun _=>rfl) (fun _=>rfl) ?_;rintro k ⟨⟩ t f _ _ _;refine aV (fun c=>?_) (fun n=>?_)
 ·have c:k<a.length:=by rw[m] at c;omega
  obtain⟨x,o⟩:=fW c;obtain⟨y,p⟩:=fW (l:=b) (k:=k) (by omega);refine jr o rfl rfl ?_;refine jr p rfl rfl ?_;refine bL (q x (W5 o) y) rfl fun _=>?_;refine aH (fun h=>?_) (fun h=>?_)
  ·have h:¬x=y:=kV (by simpa using h);exact bD rfl (o6 C.bool (bJ (m6 o p h)))
  ·have h:x=y:=kM (by simpa using h);refine Fit.Wi (by omega) (by omega) ?_;exact⟨(k+1,()),⟨c,iJ f o p h⟩,⟨cF,trivial⟩,trivial,cG c⟩
 ·have n:¬k<a.length:=by rw[m] at n;omega
  have:k=a.length:=by omega
  subst this;exact bD rfl (o6 C.bool (jw (iI rfl d.symm f)))
theorem VO (a b:List (Variant)) (c:∀x∈a,∀y,fq 75 [.agg (fU x),.agg (fU y)] (x=y)):fq 74 [.sl (a.map fU),.sl (b.map fU),.fn 75 [] []] (a=b):=by
 refine au Tryd.func74 Kx rfl fun d _=>?_;refine bL (VN a b c) rfl fun _=>?_;exact bD rfl rfl
theorem Ls {x y:Api.Data}(e:x.name=y.name) (a:x.module=y.module) (c:x.params=y.params) (b:x.drop=y.drop) (d:x.variants=y.variants):x=y:=by
 rcases x with⟨⟩
 rcases y with⟨⟩
 simp_all
theorem VP (x y:Api.Data):fq 58 [.agg (kJ x),.agg (kJ y)] (x=y):=by
 refine au Tryd.func58 Ks rfl fun k _=>?_;refine aV (fun j=>?_) (fun j=>bD rfl (o6 C.bool (bJ fun e=>j (by rw[e]))));refine aV (fun c=>?_) (fun c=>bD rfl (o6 C.bool (bJ fun e=>c (by rw[e]))));refine aV (fun f=>?_) (fun f=>bD rfl (o6 C.bool (bJ fun e=>f (by rw[e]))));refine aV (fun d=>?_) (fun d=>bD rfl (o6 C.bool (bJ fun e=>d (by rw[e]))));refine bL (VO x.variants y.variants fun a _ b=>VL a b) rfl fun _=>?_;exact bD rfl (o6 C.bool (iV ⟨fun h=>Ls (Al j) c f d h,fun e=>by rw[e]⟩))
theorem VQ (a b:List (Api.Data)) (q:∀x∈a,∀y,fq 58 [.agg (kJ x),.agg (kJ y)] (x=y)):fq 73 [.sl (a.map kJ),.sl (b.map kJ),.fn 58 [] []] (a=b):=by
 refine au Tryd.func73 Kw rfl fun s _=>?_;have m:(a.map kJ).length=a.length:=by simp
 have hb:(b.map kJ).length=b.length:=by simp
 have u:a.length<=9223372036854775807:=by have:=mr s.1;rwa [m] at this
 refine aH (fun d=>?_) (fun d=>?_)
 ·have d:¬a.length=b.length:=fun e=>by
   rw[m,hb,e] at d;simp at d
  exact bD rfl (o6 C.bool (bJ (m5 d)))
 have d:a.length=b.length:=by
  rw[m,hb] at d;simp at d;omega
 refine bW a.length 17 [] () (fun _=>[]) (fun _=>[]) (fun k _=>∀j<k,a[j]?=b[j]?) (fun j r=>vz r (by omega)) (aq rfl) trivial trivial (fun _=>rfl) (fun _=>rfl) ?_;rintro k ⟨⟩ t f _ _ _;refine aV (fun c=>?_) (fun n=>?_)
 ·have c:k<a.length:=by rw[m] at c;omega
  obtain⟨x,o⟩:=fW c;obtain⟨y,p⟩:=fW (l:=b) (k:=k) (by omega);refine jr o rfl rfl ?_;refine jr p rfl rfl ?_;refine bL (q x (W5 o) y) rfl fun _=>?_;refine aH (fun h=>?_) (fun h=>?_)
  ·have h:¬x=y:=kV (by simpa using h);exact bD rfl (o6 C.bool (bJ (m6 o p h)))
  ·have h:x=y:=kM (by simpa using h);refine Fit.Wi (by omega) (by omega) ?_;exact⟨(k+1,()),⟨c,iJ f o p h⟩,⟨cF,trivial⟩,trivial,cG c⟩
 ·have n:¬k<a.length:=by rw[m] at n;omega
  have:k=a.length:=by omega
  subst this;exact bD rfl (o6 C.bool (jw (iI rfl d.symm f)))
theorem VR (a b:List (Api.Data)) (c:∀x∈a,∀y,fq 58 [.agg (kJ x),.agg (kJ y)] (x=y)):fq 57 [.sl (a.map kJ),.sl (b.map kJ),.fn 58 [] []] (a=b):=by
 refine au Tryd.func57 Kr rfl fun d _=>?_;refine bL (VQ a b c) rfl fun _=>?_;exact bD rfl rfl
theorem NM {x y:HB}(j:x.op=y.op) (c:x.dst=y.dst) (e:x.a=y.a) (d:x.b=y.b) (f:x.n=y.n) (k:x.args=y.args) (h:x.types=y.types):x=y:=by
 rcases x with⟨⟩
 rcases y with⟨⟩
 simp_all
theorem VS (x y:HB):fq 90 [.agg (tL x),.agg (tL y)] (x=y):=by
 refine au Tryd.func90 KO rfl fun k _=>?_;refine aV (fun f=>?_) (fun f=>bD rfl (o6 C.bool (bJ fun e=>f (by rw[e]))));refine aV (fun a=>?_) (fun a=>bD rfl (o6 C.bool (bJ fun e=>a (by rw[e]))));refine aV (fun c=>?_) (fun c=>bD rfl (o6 C.bool (bJ fun e=>c (by rw[e]))));refine aV (fun b=>?_) (fun b=>bD rfl (o6 C.bool (bJ fun e=>b (by rw[e]))));refine aV (fun d=>?_) (fun d=>bD rfl (o6 C.bool (bJ fun e=>d (by rw[e]))));refine bL (RO x.args y.args) rfl fun _=>?_;refine aH (fun j=>?_) (fun j=>bD rfl (o6 C.bool (bJ fun e=>kV j (by rw[e]))));refine bL (NK x.types y.types) rfl fun _=>?_;exact bD rfl (o6 C.bool (iV ⟨fun h=>NM f a c b d (kM j) h,fun e=>by rw[e]⟩))
theorem VT (a b:List (HB)) (q:∀x∈a,∀y,fq 90 [.agg (tL x),.agg (tL y)] (x=y)):fq 96 [.sl (a.map tL),.sl (b.map tL),.fn 90 [] []] (a=b):=by
 refine au Tryd.func96 KT rfl fun s _=>?_;have m:(a.map tL).length=a.length:=by simp
 have hb:(b.map tL).length=b.length:=by simp
 have u:a.length<=9223372036854775807:=by have:=mr s.1;rwa [m] at this
 refine aH (fun d=>?_) (fun d=>?_)
 ·have d:¬a.length=b.length:=fun e=>by
   rw[m,hb,e] at d;simp at d
  exact bD rfl (o6 C.bool (bJ (m5 d)))
 have d:a.length=b.length:=by
  rw[m,hb] at d;simp at d;omega
 refine bW a.length 17 [] () (fun _=>[]) (fun _=>[]) (fun k _=>∀j<k,a[j]?=b[j]?) (fun j r=>vz r (by omega)) (aq rfl) trivial trivial (fun _=>rfl) (fun _=>rfl) ?_;rintro k ⟨⟩ t f _ _ _;refine aV (fun c=>?_) (fun n=>?_)
 ·have c:k<a.length:=by rw[m] at c;omega
  obtain⟨x,o⟩:=fW c;obtain⟨y,p⟩:=fW (l:=b) (k:=k) (by omega);refine jr o rfl rfl ?_;refine jr p rfl rfl ?_;refine bL (q x (W5 o) y) rfl fun _=>?_;refine aH (fun h=>?_) (fun h=>?_)
  ·have h:¬x=y:=kV (by simpa using h);exact bD rfl (o6 C.bool (bJ (m6 o p h)))
  ·have h:x=y:=kM (by simpa using h);refine Fit.Wi (by omega) (by omega) ?_;exact⟨(k+1,()),⟨c,iJ f o p h⟩,⟨cF,trivial⟩,trivial,cG c⟩
 ·have n:¬k<a.length:=by rw[m] at n;omega
  have:k=a.length:=by omega
  subst this;exact bD rfl (o6 C.bool (jw (iI rfl d.symm f)))
theorem VU (a b:List (HB)) (c:∀x∈a,∀y,fq 90 [.agg (tL x),.agg (tL y)] (x=y)):fq 89 [.sl (a.map tL),.sl (b.map tL),.fn 90 [] []] (a=b):=by
 refine au Tryd.func89 KN rfl fun d _=>?_;refine bL (VT a b c) rfl fun _=>?_;exact bD rfl rfl
theorem Ib {x y:Block}(f:x.code=y.code) (b:x.fin.kind=y.fin.kind) (e:x.fin.a=y.fin.a) (d:x.fin.targets=y.fin.targets):x=y:=by
 rcases x with⟨c,⟨⟩⟩
 rcases y with⟨c,⟨⟩⟩
 simp_all
theorem VW (x y:Block):fq 81 [.agg (jt x),.agg (jt y)] (x=y):=by
 refine au Tryd.func81 KF rfl fun j _=>?_;refine bL (VU x.code y.code fun a _ b=>VS a b) rfl fun _=>?_;refine aH (fun f=>?_) (fun f=>bD rfl (o6 C.bool (bJ fun e=>kV f (by rw[e]))));refine aV (fun c=>?_) (fun c=>bD rfl (o6 C.bool (bJ fun e=>c (by rw[e]))));refine aV (fun d=>?_) (fun d=>bD rfl (o6 C.bool (bJ fun e=>d (by rw[e]))));refine bL (RO x.fin.targets y.fin.targets) rfl fun _=>?_;exact bD rfl (o6 C.bool (iV ⟨fun h=>Ib (kM f) c d h,fun e=>by rw[e]⟩))
theorem VX (a b:List (Block)) (q:∀x∈a,∀y,fq 81 [.agg (jt x),.agg (jt y)] (x=y)):fq 88 [.sl (a.map jt),.sl (b.map jt),.fn 81 [] []] (a=b):=by
 refine au Tryd.func88 KM rfl fun s _=>?_;have m:(a.map jt).length=a.length:=by simp
 have hb:(b.map jt).length=b.length:=by simp
 have u:a.length<=9223372036854775807:=by have:=mr s.1;rwa [m] at this
 refine aH (fun d=>?_) (fun d=>?_)
 ·have d:¬a.length=b.length:=fun e=>by
   rw[m,hb,e] at d;simp at d
  exact bD rfl (o6 C.bool (bJ (m5 d)))
 have d:a.length=b.length:=by
  rw[m,hb] at d;simp at d;omega
 refine bW a.length 17 [] () (fun _=>[]) (fun _=>[]) (fun k _=>∀j<k,a[j]?=b[j]?) (fun j r=>vz r (by omega)) (aq rfl) trivial trivial (fun _=>rfl) (fun _=>rfl) ?_;rintro k ⟨⟩ t f _ _ _;refine aV (fun c=>?_) (fun n=>?_)
 ·have c:k<a.length:=by rw[m] at c;omega
  obtain⟨x,o⟩:=fW c;obtain⟨y,p⟩:=fW (l:=b) (k:=k) (by omega);refine jr o rfl rfl ?_;refine jr p rfl rfl ?_;refine bL (q x (W5 o) y) rfl fun _=>?_;refine aH (fun h=>?_) (fun h=>?_)
  ·have h:¬x=y:=kV (by simpa using h);exact bD rfl (o6 C.bool (bJ (m6 o p h)))
  ·have h:x=y:=kM (by simpa using h);refine Fit.Wi (by omega) (by omega) ?_;exact⟨(k+1,()),⟨c,iJ f o p h⟩,⟨cF,trivial⟩,trivial,cG c⟩
 ·have n:¬k<a.length:=by rw[m] at n;omega
  have:k=a.length:=by omega
  subst this;exact bD rfl (o6 C.bool (jw (iI rfl d.symm f)))
theorem VY (a b:List (Block)) (c:∀x∈a,∀y,fq 81 [.agg (jt x),.agg (jt y)] (x=y)):fq 80 [.sl (a.map jt),.sl (b.map jt),.fn 81 [] []] (a=b):=by
 refine au Tryd.func80 KE rfl fun d _=>?_;refine bL (VX a b c) rfl fun _=>?_;exact bD rfl rfl
theorem Lu {x y:Slot}(e:x.state=y.state) (a:x.type=y.type) (c:x.var=y.var) (b:x.flag=y.flag) (d:x.lent=y.lent):x=y:=by
 rcases x with⟨⟩
 rcases y with⟨⟩
 simp_all
theorem VZ (x y:Slot):fq 93 [.agg (jv x),.agg (jv y)] (x=y):=by
 refine au Tryd.func93 KR rfl fun f _=>?_;refine aV (fun d=>?_) (fun d=>bD rfl (o6 C.bool (bJ fun e=>d (by rw[e]))));refine bL (RP x.type y.type) rfl fun _=>?_;refine aH (fun a=>?_) (fun a=>bD rfl (o6 C.bool (bJ fun e=>kV a (by rw[e]))));refine aV (fun c=>?_) (fun c=>bD rfl (o6 C.bool (bJ fun e=>c (by rw[e]))));refine aV (fun b=>?_) (fun b=>bD rfl (o6 C.bool (bJ fun e=>b (by rw[e]))));refine bL (VJ x.lent y.lent) rfl fun _=>?_;exact bD rfl (o6 C.bool (iV ⟨fun h=>Lu d (kM a) c b h,fun e=>by rw[e]⟩))
theorem V0 (a b:List (Slot)) (q:∀x∈a,∀y,fq 93 [.agg (jv x),.agg (jv y)] (x=y)):fq 97 [.sl (a.map jv),.sl (b.map jv),.fn 93 [] []] (a=b):=by
 refine au Tryd.func97 KU rfl fun s _=>?_;have m:(a.map jv).length=a.length:=by simp
 have hb:(b.map jv).length=b.length:=by simp
 have u:a.length<=9223372036854775807:=by have:=mr s.1;rwa [m] at this
 refine aH (fun d=>?_) (fun d=>?_)
 ·have d:¬a.length=b.length:=fun e=>by
   rw[m,hb,e] at d;simp at d
  exact bD rfl (o6 C.bool (bJ (m5 d)))
 have d:a.length=b.length:=by
  rw[m,hb] at d;simp at d;omega
 refine bW a.length 17 [] () (fun _=>[]) (fun _=>[]) (fun k _=>∀j<k,a[j]?=b[j]?) (fun j r=>vz r (by omega)) (aq rfl) trivial trivial (fun _=>rfl) (fun _=>rfl) ?_;rintro k ⟨⟩ t f _ _ _;refine aV (fun c=>?_) (fun n=>?_)
 ·have c:k<a.length:=by rw[m] at c;omega
  obtain⟨x,o⟩:=fW c;obtain⟨y,p⟩:=fW (l:=b) (k:=k) (by omega);refine jr o rfl rfl ?_;refine jr p rfl rfl ?_;refine bL (q x (W5 o) y) rfl fun _=>?_;refine aH (fun h=>?_) (fun h=>?_)
  ·have h:¬x=y:=kV (by simpa using h);exact bD rfl (o6 C.bool (bJ (m6 o p h)))
  ·have h:x=y:=kM (by simpa using h);refine Fit.Wi (by omega) (by omega) ?_;exact⟨(k+1,()),⟨c,iJ f o p h⟩,⟨cF,trivial⟩,trivial,cG c⟩
 ·have n:¬k<a.length:=by rw[m] at n;omega
  have:k=a.length:=by omega
  subst this;exact bD rfl (o6 C.bool (jw (iI rfl d.symm f)))
theorem V1 (a b:List (Slot)) (c:∀x∈a,∀y,fq 93 [.agg (jv x),.agg (jv y)] (x=y)):fq 92 [.sl (a.map jv),.sl (b.map jv),.fn 93 [] []] (a=b):=by
 refine au Tryd.func92 KQ rfl fun d _=>?_;refine bL (V0 a b c) rfl fun _=>?_;exact bD rfl rfl
theorem V2 (a b:List Slot):fq 83 [.sl (a.map jv),.sl (b.map jv)] (a=b):=by
 refine au Tryd.func83 KH rfl fun c _=>?_;refine bL (V1 a b fun x _ y=>VZ x y) rfl fun _=>?_;exact bD rfl rfl
theorem V3 (a b:List (List Slot)) (q:∀x∈a,∀y,fq 83 [.sl (x.map jv),.sl (y.map jv)] (x=y)):fq 91 [.sl (a.map rJ),.sl (b.map rJ),.fn 83 [] []] (a=b):=by
 refine au Tryd.func91 KP rfl fun s _=>?_;have m:(a.map rJ).length=a.length:=by simp
 have hb:(b.map rJ).length=b.length:=by simp
 have u:a.length<=9223372036854775807:=by have:=mr s.1;rwa [m] at this
 refine aH (fun d=>?_) (fun d=>?_)
 ·have d:¬a.length=b.length:=fun e=>by
   rw[m,hb,e] at d;simp at d
  exact bD rfl (o6 C.bool (bJ (m5 d)))
 have d:a.length=b.length:=by
  rw[m,hb] at d;simp at d;omega
 refine bW a.length 17 [] () (fun _=>[]) (fun _=>[]) (fun k _=>∀j<k,a[j]?=b[j]?) (fun j r=>vz r (by omega)) (aq rfl) trivial trivial (fun _=>rfl) (fun _=>rfl) ?_;rintro k ⟨⟩ t f _ _ _;refine aV (fun c=>?_) (fun n=>?_)
 ·have c:k<a.length:=by rw[m] at c;omega
  obtain⟨x,o⟩:=fW c;obtain⟨y,p⟩:=fW (l:=b) (k:=k) (by omega);refine jr o rfl rfl ?_;refine jr p rfl rfl ?_;refine bL (q x (W5 o) y) rfl fun _=>?_;refine aH (fun h=>?_) (fun h=>?_)
  ·have h:¬x=y:=kV (by simpa using h);exact bD rfl (o6 C.bool (bJ (m6 o p h)))
  ·have h:x=y:=kM (by simpa using h);refine Fit.Wi (by omega) (by omega) ?_;exact⟨(k+1,()),⟨c,iJ f o p h⟩,⟨cF,trivial⟩,trivial,cG c⟩
 ·have n:¬k<a.length:=by rw[m] at n;omega
  have:k=a.length:=by omega
  subst this;exact bD rfl (o6 C.bool (jw (iI rfl d.symm f)))
theorem V4 (a b:List (List Slot)) (c:∀x∈a,∀y,fq 83 [.sl (x.map jv),.sl (y.map jv)] (x=y)):fq 82 [.sl (a.map rJ),.sl (b.map rJ),.fn 83 [] []] (a=b):=by
 refine au Tryd.func82 KG rfl fun d _=>?_;refine bL (V3 a b c) rfl fun _=>?_;exact bD rfl rfl
theorem Lv {x y:Fz}(f:x.name=y.name) (a:x.params=y.params) (c:x.result=y.result) (b:x.ties=y.ties) (d:x.slots=y.slots) (h:x.blocks=y.blocks) (e:x.entry=y.entry):x=y:=by
 rcases x with⟨⟩
 rcases y with⟨⟩
 simp_all
theorem RQ (x y:Fz):fq 60 [.agg (kU x),.agg (kU y)] (x=y):=by
 refine au Tryd.func60 Ku rfl fun m _=>?_;refine aV (fun k=>?_) (fun k=>bD rfl (o6 C.bool (bJ fun e=>k (by rw[e]))));refine bL (NK x.params y.params) rfl fun _=>?_;refine aH (fun c=>?_) (fun c=>bD rfl (o6 C.bool (bJ fun e=>kV c (by rw[e]))));refine bL (RP x.result y.result) rfl fun _=>?_;refine aH (fun f=>?_) (fun f=>bD rfl (o6 C.bool (bJ fun e=>kV f (by rw[e]))));refine bL (RO x.ties y.ties) rfl fun _=>?_;refine aH (fun d=>?_) (fun d=>bD rfl (o6 C.bool (bJ fun e=>kV d (by rw[e]))));refine aV (fun j=>?_) (fun j=>bD rfl (o6 C.bool (bJ fun e=>j (by rw[e]))));refine bL (VY x.blocks y.blocks fun a _ b=>VW a b) rfl fun _=>?_;refine aH (fun l=>?_) (fun l=>bD rfl (o6 C.bool (bJ fun e=>kV l (by rw[e]))));refine bL (V4 x.entry y.entry fun a _ b=>V2 a b) rfl fun _=>?_;exact bD rfl (o6 C.bool (iV ⟨fun h=>Lv (Al k) (kM c) (kM f) (kM d) j (kM l) h,fun e=>by rw[e]⟩))
theorem V5 (a b:List (Fz)) (q:∀x∈a,∀y,fq 60 [.agg (kU x),.agg (kU y)] (x=y)):fq 78 [.sl (a.map kU),.sl (b.map kU),.fn 60 [] []] (a=b):=by
 refine au Tryd.func78 KC rfl fun s _=>?_;have m:(a.map kU).length=a.length:=by simp
 have hb:(b.map kU).length=b.length:=by simp
 have u:a.length<=9223372036854775807:=by have:=mr s.1;rwa [m] at this
 refine aH (fun d=>?_) (fun d=>?_)
 ·have d:¬a.length=b.length:=fun e=>by
   rw[m,hb,e] at d;simp at d
  exact bD rfl (o6 C.bool (bJ (m5 d)))
 have d:a.length=b.length:=by
  rw[m,hb] at d;simp at d;omega
 refine bW a.length 17 [] () (fun _=>[]) (fun _=>[]) (fun k _=>∀j<k,a[j]?=b[j]?) (fun j r=>vz r (by omega)) (aq rfl) trivial trivial (fun _=>rfl) (fun _=>rfl) ?_;rintro k ⟨⟩ t f _ _ _;refine aV (fun c=>?_) (fun n=>?_)
 ·have c:k<a.length:=by rw[m] at c;omega
  obtain⟨x,o⟩:=fW c;obtain⟨y,p⟩:=fW (l:=b) (k:=k) (by omega);refine jr o rfl rfl ?_;refine jr p rfl rfl ?_;refine bL (q x (W5 o) y) rfl fun _=>?_;refine aH (fun h=>?_) (fun h=>?_)
  ·have h:¬x=y:=kV (by simpa using h);exact bD rfl (o6 C.bool (bJ (m6 o p h)))
  ·have h:x=y:=kM (by simpa using h);refine Fit.Wi (by omega) (by omega) ?_;exact⟨(k+1,()),⟨c,iJ f o p h⟩,⟨cF,trivial⟩,trivial,cG c⟩
 ·have n:¬k<a.length:=by rw[m] at n;omega
  have:k=a.length:=by omega
  subst this;exact bD rfl (o6 C.bool (jw (iI rfl d.symm f)))
theorem RS (a b:List (Fz)) (c:∀x∈a,∀y,fq 60 [.agg (kU x),.agg (kU y)] (x=y)):fq 59 [.sl (a.map kU),.sl (b.map kU),.fn 60 [] []] (a=b):=by
 refine au Tryd.func59 Kt rfl fun d _=>?_;refine bL (V5 a b c) rfl fun _=>?_;exact bD rfl rfl
theorem NN {x y:Md}(c:x.main=y.main) (a:x.datas=y.datas) (b:x.routs=y.routs):x=y:=by
 rcases x with⟨⟩
 rcases y with⟨⟩
 simp_all
theorem V6 (x y:Md):fq 39 [.agg (Pt x),.agg (Pt y)] (x=y):=by
 refine au Tryd.func39 Kl rfl fun f _=>?_;refine aV (fun d=>?_) (fun d=>bD rfl (o6 C.bool (bJ fun e=>d (by rw[e]))));refine bL (VR x.datas y.datas fun a _ b=>VP a b) rfl fun _=>?_;refine aH (fun c=>?_) (fun c=>bD rfl (o6 C.bool (bJ fun e=>kV c (by rw[e]))));refine bL (RS x.routs y.routs fun a _ b=>RQ a b) rfl fun _=>?_;exact bD rfl (o6 C.bool (iV ⟨fun h=>NN d (kM c) h,fun e=>by rw[e]⟩))
theorem dK {a b:Enc}(h:a.2=true) (k:b.2=true):(bn a b).2=true:=by simp[bn,h,k]
theorem fH {a:Type}{f:a->Enc}(h:∀x,(f x).2=true):∀l:List a,(aX f l).2=true
 | []=>rfl
 | x::l=>dK (h x) (fH h l)
theorem fZ {a:Type}{f:a->Enc}(h:∀x,(f x).2=true) (l:List a):(bR kL f l).2=true:=dK rfl (fH h l)
theorem iL (n:Int):(kL.num n).2=true:=rfl
theorem ve (b:Bool):(qb kL b).2=true:=rfl
mutual
theorem Ic:∀(v:Vl) (d:Int),(Aq kL v d).2=true
 | .mk a b c n f e p l,d=>by
  rw[Aq];exact dK (by simp[z7,kL]) (dK (fH iL _) (dK (dK rfl (Em f _)) (dK (fH ve _) (dK (fZ iL _) (fZ iL _)))))
theorem Em:∀(l:List Vl) (d:Int),(CT kL l d).2=true
 | [],_=>rfl
 | x::xs,d=>by rw[CT];exact dK (Ic x d) (Em xs d)
end
theorem NP (x:Wd):(uo kL x).2=true:=by
 have d:∀v,(yU kL v).2=true:=fun v=>Ic v 60;exact dK (fZ (fun c=>dK (fH ve _) (dK (fH iL _) (d _))) _)
  (dK (fZ (fun b=>fH ve _) _)
  (dK (fZ (fun t=>dK (fH iL _) (dK (fZ (fun a=>dK (fH iL _) (dK (fZ d _) (fZ iL _))) _)
   (dK (fZ (fun l=>dK (fH iL _) (fH ve _)) _) (dK (fH iL _) (fZ iL _))))) _)
  (dK (fZ (fun l=>fZ d l) _)
  (dK (fZ (fun o=>fH iL _) _) (fH iL _)))))
def sJ (x:Wd):List UInt8:=(uo kL x).1
theorem RT (b a:List (List C)) (d:Int) (x:Wd) (f:FJ x) (hb:(sJ x).length<=70368744177664) :
  CallsT PZ 33 [.ifo none 94 1000 0,.pt (uF b a d x) 0] (WB 95 []) (iF (WB 95 (sJ x)) (.tup [])) :=
 ((Pk Rt b a d x f [] (by simp only[XA,Nat.zero_add];exact hb)).imp (Pp':=fun _=>False) (R':=iF (WB 95 (sJ x)) (.tup []))
  (fun Mo c ⟨_,e,j⟩=>⟨by rw[e];rfl,j⟩) (fun v ⟨_,h⟩=>by rw[NP] at h;cases h)).noPan
theorem t38 (c b:List (List C)) (d:Int) (x:Wd) (e:FJ x) (hb:(sJ x).length<=70368744177664) :
  CallsT PZ 38 [.agg (uF c b d x)] [] (iF [] (.sl (af (sJ x)))):=by
 have a:=RT c b d x e hb;refine au Tryd.func38 Kk rfl fun h f=>?_;refine Ov [(5,.box 95 [.rw 50,IC 0,.int .i8 0]),(50,.row 5 1 [])] [5,50] [5,50] a
  ⟨.inl ⟨_,rfl,.inr ⟨95,_,_,rfl,rfl,⟨_,_,rfl,tM rfl rfl,⟨_,_,rfl,aq rfl,⟨_,_,rfl,aq rfl,rfl⟩⟩⟩⟩⟩,.inr ⟨rfl,5,1,rfl⟩,trivial⟩ rfl rfl rfl rfl rfl fun _ _=>?_
 refine uh [50] [5] [5] (Nv 95 (sJ x)) ⟨_,rfl,rfl,rfl,rfl,rfl,fun _ _=>?_⟩;exact bD rfl rfl
noncomputable def C3 (i j:Md) (x y:Wd):Bool:=Ia (i=j)&&decide (sJ x=sJ y)
def Sq (i:Md) (x:Wd):List C:=uF (i.datas.map kJ) (i.routs.map kU) i.main x
theorem t16 (i j:Md) (x y:Wd) (e:FJ x) (d:FJ y) (b:(sJ x).length<=70368744177664) (a:(sJ y).length<=70368744177664) :
  CallsT PZ 16 [.agg (Sq i x),.agg (Sq j y)] [] (iF [] (.bool (C3 i j x y))):=by
 have c:=t38 (i.datas.map kJ) (i.routs.map kU) i.main x e b;have f:=t38 (j.datas.map kJ) (j.routs.map kU) j.main y d a;refine au Tryd.func16 J0 rfl fun l k=>?_;refine jq (V6 i j) rfl fun _=>?_;refine aH (fun h=>?_) (fun h=>?_)
 ·refine jq c rfl fun _=>?_;refine jq f rfl fun _=>?_;refine jq (t22 (sJ x) (sJ y)) rfl fun _=>?_;exact bD rfl (by rw[C3,h];rfl)
 ·exact bD rfl (by rw[C3,h];rfl)
end Go.Fr.Tryd
namespace Go.Fr.Tryd
open Go Go.RowKit Go.Proofs Go.Fr Go.Fr.T Go.Fr.Api Go.Fr.Dm
theorem lC (a:List UInt8) (b:UInt8):af a++af [b]=af (a++[b]):=by simp[af]
theorem RU (n:Int) (h:-2305843009213693952<=n) (l:n<=2305843009213693952):CallsT PZ 14 [IC n] [] (iF [.row 5 1 (af (bQ (zz n)))] (.rw 1000)):=by
 have k:zz n<=4611686018427387904:=by unfold zz;split<;>omega
 have o:=mD n h l;refine au Tryd.func14 JY rfl fun p _=>?_;refine Fit.Wi (by omega) (by omega) ?_;refine aV (fun f=>?_) (fun e=>?_)
 ·refine Fit.Wi (by omega) (by omega) ?_;refine Fit.Wi (by omega) (by omega) ?_;refine vT.mk ⟨Nat×List UInt8,(zz n,[]),fun y=>y.1<=4611686018427387904/\y.2++bQ y.1=bQ (zz n),[3,4],fun y=>[.int .i64 y.1,.rw 20],fun y=>[(20,.row 5 1 (af y.2))],fun y=>y.1,⟨k,rfl⟩,⟨.inr (.inl ⟨?_,rfl⟩),tM rfl rfl,trivial⟩,
    ⟨.inr ⟨rfl,5,1,rfl⟩,trivial⟩,fun _=>rfl,fun _=>rfl,?_⟩
  ·exact o6 (C.int .i64) (by unfold zz;rw[j3 f];omega)
  rintro⟨m,done⟩ ⟨d,a⟩ _ _;simp only at a d;have j:done.length+(bQ m).length<=10:=by
   have:=o6 List.length a;simp only[W4] at this;omega
  have h:=nM m;refine aV (fun c=>?_) (fun c=>?_)
  ·have c:128<=m:=by have:(128:Int)<=(m:Int):=c;omega
   have b:bQ m=UInt8.ofNat (128+m % 128)::bQ (m / 128):=by rw[bQ,dif_neg (by omega)]
   refine mS.mk (by omega) ?_;refine Fit.to (m:=128+(m:Int).tmod 128) (bM (by rw[show(m:Int).tmod 128=((m % 128:Nat):Int) from rfl];omega) (by rw[show(m:Int).tmod 128=((m % 128:Nat):Int) from rfl];omega)) ?_;refine Fit.to (Aa m) ?_;refine qB (bs:=[UInt8.ofNat (128+m % 128)]) done.length aK (by simp;omega) ?_;refine mS.mk (by omega) ?_;refine Fit.to (m:=((m / 128:Nat):Int)) (by show IntKind.wrap .i64 ((m / 128:Nat):Int)=_;exact bM (by omega) (by omega)) ?_;refine⟨(m / 128,done++[UInt8.ofNat (128+m % 128)]),⟨?_,?_⟩,⟨.inr (.inl ⟨rfl,rfl⟩),aq rfl,trivial⟩,⟨.inl ⟨_,rfl,.inl ⟨o6 (TO.row 5 1) (lC done _),rfl⟩⟩,trivial⟩,?_⟩
   ·show m / 128<=_;omega
   ·show done++[UInt8.ofNat (128+m % 128)]++bQ (m / 128)=bQ (zz n);rw[<-a,b];simp
   ·show m / 128<m;omega
  ·have c:m<128:=by have:¬(128:Int)<=(m:Int):=c;omega
   have b:bQ m=[UInt8.ofNat m]:=by rw[bQ,dif_pos c]
   refine Fit.to (Ab m) ?_;refine qB (bs:=[UInt8.ofNat m]) done.length aK (by simp;omega) ?_;exact xJ [20] rfl rfl (o6 (fun q=>[TO.row 5 1 q]) ((lC done _).trans (o6 af (by rw[<-a,b]:done++[UInt8.ofNat m]=bQ (zz n))))) rfl
 ·refine vT.mk ⟨Nat×List UInt8,(zz n,[]),fun y=>y.1<=4611686018427387904/\y.2++bQ y.1=bQ (zz n),[3,4],fun y=>[.int .i64 y.1,.rw 20],fun y=>[(20,.row 5 1 (af y.2))],fun y=>y.1,⟨k,rfl⟩,⟨.inr (.inl ⟨?_,rfl⟩),tM rfl rfl,trivial⟩,
    ⟨.inr ⟨rfl,5,1,rfl⟩,trivial⟩,fun _=>rfl,fun _=>rfl,?_⟩
  ·exact o6 (C.int .i64) (by unfold zz;rw[vv e];omega)
  rintro⟨m,done⟩ ⟨d,a⟩ _ _;simp only at a d;have j:done.length+(bQ m).length<=10:=by
   have:=o6 List.length a;simp only[W4] at this;omega
  have h:=nM m;refine aV (fun c=>?_) (fun c=>?_)
  ·have c:128<=m:=by have:(128:Int)<=(m:Int):=c;omega
   have b:bQ m=UInt8.ofNat (128+m % 128)::bQ (m / 128):=by rw[bQ,dif_neg (by omega)]
   refine mS.mk (by omega) ?_;refine Fit.to (m:=128+(m:Int).tmod 128) (bM (by rw[show(m:Int).tmod 128=((m % 128:Nat):Int) from rfl];omega) (by rw[show(m:Int).tmod 128=((m % 128:Nat):Int) from rfl];omega)) ?_;refine Fit.to (Aa m) ?_;refine qB (bs:=[UInt8.ofNat (128+m % 128)]) done.length aK (by simp;omega) ?_;refine mS.mk (by omega) ?_;refine Fit.to (m:=((m / 128:Nat):Int)) (by show IntKind.wrap .i64 ((m / 128:Nat):Int)=_;exact bM (by omega) (by omega)) ?_;refine⟨(m / 128,done++[UInt8.ofNat (128+m % 128)]),⟨?_,?_⟩,⟨.inr (.inl ⟨rfl,rfl⟩),aq rfl,trivial⟩,⟨.inl ⟨_,rfl,.inl ⟨o6 (TO.row 5 1) (lC done _),rfl⟩⟩,trivial⟩,?_⟩
   ·show m / 128<=_;omega
   ·show done++[UInt8.ofNat (128+m % 128)]++bQ (m / 128)=bQ (zz n);rw[<-a,b];simp
   ·show m / 128<m;omega
  ·have c:m<128:=by have:¬(128:Int)<=(m:Int):=c;omega
   have b:bQ m=[UInt8.ofNat m]:=by rw[bQ,dif_pos c]
   refine Fit.to (Ab m) ?_;refine qB (bs:=[UInt8.ofNat m]) done.length aK (by simp;omega) ?_;exact xJ [20] rfl rfl (o6 (fun q=>[TO.row 5 1 q]) ((lC done _).trans (o6 af (by rw[<-a,b]:done++[UInt8.ofNat m]=bQ (zz n))))) rfl
theorem Px (n:Nat):List.replicate (n:Int).toNat [C.int .u8 0]=af (List.replicate n 0):=by simp[af,iE]
theorem V7 (n:Nat) (b:UInt8) (m:n<=1048576):CallsT PZ 13 [IC n,iE b] [] (iF [.row 5 1 (af (List.replicate n b))] (.rw 1000)):=by
 refine au Tryd.func13 JX rfl fun p _=>?_;refine sP.mk (by omega) (Xr _) (by omega) (by unfold maxLen;omega) ?_;refine bW n 6 [5] (List.replicate n 0) (fun _=>[.rw 8]) (fun s=>[(8,.row 5 1 (af s))]) (fun k s=>s=List.replicate k b++List.replicate (n-k) 0) rfl (aq rfl) ⟨aq rfl,trivial⟩
  ⟨.inl ⟨_,rfl,.inl ⟨o6 (TO.row 5 1) (Px n),rfl⟩⟩,trivial⟩ (fun _=>rfl) (fun _=>rfl) ?_
 rintro k s o h _ _ j;refine aV (fun a=>?_) (fun d=>?_)
 ·have a:k<n:=by omega
  have e:s[k]?=some 0:=by rw[h,Xe (by simp),List.getElem?_replicate];simp;omega
  have c:s.set k b=List.replicate (k+1) b++List.replicate (n-(k+1)) 0:=by
   rw[h,show n-k=(n-(k+1))+1 by omega,List.replicate_succ' (n:=k),List.set_append_right _ _ (by simp)];simp[XO]
  have f:(af s).length=n:=by rw[aK,h];simp;omega
  refine Mg.mk (by omega) (by rw[f];omega) ?_;have l:(af s)[k]?=some [iE 0]:=by simp[af,e]
  refine⟨rfl,?_⟩;refine H7 (es0:=[iE 0]) (by show(af s)[k]?=_;simp[af,e]) rfl ?_;refine Fit.Wi (by omega) (by omega) ?_;exact⟨(k+1,s.set k b),⟨a,c⟩,⟨cF,aq rfl,trivial⟩,⟨.inl ⟨_,rfl,.inl ⟨o6 (TO.row 5 1) (by show(af s).set k [iE b]=af (s.set k b);simp[af,List.map_set]),rfl⟩⟩,trivial⟩,cG a⟩
 ·have d:k=n:=by omega
  exact xJ [8] rfl rfl (o6 (fun q=>[TO.row 5 1 (af q)]) (by rw[h,d];simp)) rfl
def qC:Dec (Int×Int):=fK getD fun x=>fK getD fun y=>wR (x,y)
def PB (bs:List UInt8) (x y:Int):List TO:=[.box 52 [.own 1001 0],RB bs,.box 3 [IC x],.box 3 [IC y]]
theorem V8 (bs:List UInt8):CallsTX PZ 18 [.own 1000 0,.own 1002 0,.own 1003 0] (PB bs 0 0) (fun Mo c=>∃x y r,qC bs=some ((x,y),r)/\Mo=PB r x y/\c=.tup []) (fun v=>v=eS/\qC bs=none):=by
 refine ai Tryd.func18 J1 rfl fun k j=>?_;refine bY [1001] (L8 bs) rfl rfl rfl rfl (fun v h=>⟨h.1,aR h.2⟩) ?_;rintro v Mo ⟨x,r,b,rfl,rfl⟩ _ _;refine⟨rfl,?_⟩;have a:qC bs=_:=aj b;refine bY [1001] (L8 r) rfl rfl rfl rfl (fun v h=>⟨h.1,a.trans (aR h.2)⟩) ?_;rintro v Mo ⟨y,d,e,rfl,rfl⟩ _ _;refine⟨rfl,?_⟩;have f:=a.trans (aj e);exact cR [1000,1001,1002,1003] rfl rfl rfl rfl ⟨x,y,d,f,rfl,rfl⟩
def qe (out:List UInt8) (off:Nat) (b:List UInt8):List UInt8:=out.take off++b++out.drop (off+b.length)
theorem nO {out b:List UInt8}{off:Nat}(h:off+b.length<=out.length):(qe out off b).length=out.length:=by
 simp only[qe,W4,Xk,XM];omega
theorem y5 (out:List UInt8) (off:Nat) (b:List UInt8):aM (dA out) off (dA b)=dA (qe out off b):=by
 simp[aM,qe,dA]
theorem RX (F:aA) (a:Option Addr) (n c i:Nat) (q:n<=c) (r:c<=9223372036854775807) (hi:i<=1125899906842624) :
  CallsA PZ 25 #[.slice a n c,.int .i64 i] F [] (fun _ Lo v=>Lo=[]/\v=fu a c (min (32*i) n) (min (32*i+32) n) 1):=by
 have b:(if(n:Int)<32*(i:Int) then(n:Int) else 32*(i:Int))=((min (32*i) n:Nat):Int):=by split<;>omega
 have d:(if(n:Int)<32*(i:Int)+32 then(n:Int) else 32*(i:Int)+32)=((min (32*i+32) n:Nat):Int):=by split<;>omega
 have f:0<=(if(n:Int)<32*(i:Int) then(n:Int) else 32*(i:Int)):=by rw[b];omega
 have m:(if(n:Int)<32*(i:Int) then(n:Int) else 32*(i:Int))<=(if(n:Int)<32*(i:Int)+32 then(n:Int) else 32*(i:Int)+32):=by rw[b,d];omega
 have p:(if(n:Int)<32*(i:Int)+32 then(n:Int) else 32*(i:Int)+32)<=(c:Int):=by rw[d];omega
 have o:fu a c (if(n:Int)<32*(i:Int) then(n:Int) else 32*(i:Int)).toNat (if(n:Int)<32*(i:Int)+32 then(n:Int) else 32*(i:Int)+32).toNat 1=fu a c (min (32*i) n) (min (32*i+32) n) 1:=by rw[b,d];rfl
 refine fL (svs:=[.v (.slice a n c),.v (.int .i64 i)]) Tryd.func25 DC rfl rfl (fun v l=>?_) (fun _ _ _ _ _ h=>h) ?_
 ·refine⟨fun k off e=>?_,fun s j e=>?_⟩<;>subst e<;>simp at l
 refine Fit.Wi (by omega) (by omega) ?_;refine Fit.Wi (by omega) (by omega) ?_;refine Fit.Wi (by omega) (by omega) ?_;refine mI.mk f m p ?_;exact⟨[],[],rfl,by decide,rfl,o⟩
section
variable {G:Nat->Option (Nat×TypeId)}{F:aA}{L:Loc}{ρ:Env}{M:TL}{τ:aT}
theorem row_of (m:TS G F L ρ M τ) {k:Nat}{out:List UInt8}(f:M.get k=some (.row 5 1 (af out))) :
  ∃a c,L.get k=some (.row (.slice a out.length c) 5 1 out.length (dA out))/\(a=none->out.length=0)/\out.length<=maxLen:=by
 have b:=m.tl k;rw[f] at b;cases e:L.get k with
 | none=>rw[e] at b;exact b.elim
 | some o =>
  rw[e] at b;cases o with
  | box=>exact b.elim
  | row v t sz n xs =>
   obtain⟨rfl,rfl,d,⟨h,a,c,rfl,l⟩,j⟩:=b;rw[aK] at d;subst d;rw[lB j];exact⟨a,c,rfl,l,h⟩
theorem BS (j:TS G F L ρ M τ) {k n c:Nat}{a:Option Addr}{out out':List UInt8}(h:L.get k=some (.row (.slice a n c) 5 1 n (dA out))) (d:out'.length=n) (b:n<=maxLen) (f:a=none->n=0) :
  TS G F (L.set k (.row (.slice a n c) 5 1 n (dA out'))) ρ (M.set k (.row 5 1 (af out'))) τ:=by
 refine j.turn (o':=.row (.slice a n c) 5 1 n (dA out')) h ⟨rfl,rfl,rfl⟩ (fun g t cs e=>by cases e) fun L' _=>?_;refine⟨rfl,rfl,by rw[aK,d],⟨b,a,c,rfl,f⟩,oN _⟩
theorem TS.WS (a:TS G F L ρ M τ) {M':TL}(h:∀k,M'.get k=M.get k):TS G F L ρ M' τ:=⟨fun k=>by rw[h k];exact a.tl k,a.env,a.kp,a.glob⟩
theorem Lw {P:Program}{K:TL->aT->Prop}{d:Option Nat}{q x k:Nat}{out a:List UInt8}(hk:M.get k=some (.row 5 1 (af out))) (h1:τ q=.rw k) (y:τ x=.sl (af a))
  (hK:K (M.set k (.row 5 1 (af (qe out 0 (a.take out.length))))) (bw d (IC ((min a.length out.length:Nat):Int)) τ)):Oq P (.copy 5 1 (.t q) (.t x)) d M τ K:=by
 refine⟨fun G F L ρ o=>?_⟩;obtain⟨b,c,z,ha,u⟩:=row_of o hk;obtain⟨a1,c1,t1,ag,n1,av,e1,f⟩:=rq (x:=.t q) o.env h1;rw[z] at f;injection f with f
 injection f with f _ _ _ _
 injection f with e3 e4 e5
 subst e3 e4 e5;have p:=cZ o.env (.t x);have y:bV τ (.t x)=.sl (af a):=y;rw[y] at p;obtain⟨v,r,p⟩:=p;obtain⟨s,w,rfl,_,an,hf⟩:=wT p;have r:ev ρ (.t x)=.v (.slice s a.length w):=r;simp only[evalOp,e1,r];have hl:(a.take out.length).length=min out.length a.length:=Xk;have l:∀{L:Loc}(m:Nat),m<=maxLen->aN F L (IC (m:Int)) (.v (.int .i64 m)):=fun m u=>⟨_,rfl,by
  rw[Rel];refine⟨rfl,?_⟩;rw[zC];simp only[IntKind.min,IntKind.max,IntKind.signed,IntKind.bits,Xm];unfold maxLen at u;omega⟩
 cases b with
 | none =>
  have h0:out.length=0:=ha rfl;have n:out=[]:=Xp h0;subst n;refine⟨.inr ⟨none,0,c,s,a.length,w,rfl,rfl,by simp,?_⟩⟩;refine⟨M.set k (.row 5 1 (af (qe [] 0 (a.take 0)))),bw d (IC ((min a.length 0:Nat):Int)) τ,?_,hK⟩;refine TS.WS (M:=M) ?_ fun j=>?_
  ·have:=o.put (l 0 (by decide)) d;simpa using this
  ·rw[TL.Wc];split
   ·rename_i e;subst e;rw[hk];simp[qe]
   ·rfl
 | some b =>
  refine⟨.inl ⟨k,out.length,.slice (some b) out.length c,out.length,dA out,b,c,c,0,a.length,s,w,dA (a.take out.length),z,rfl,?_,by omega,rfl,?_,?_,mC _,?_⟩⟩
  ·rw[Nat.zero_mul,show b.add 0=b by cases b;rfl]
  ·rw[nK,hl,Nat.mul_one,Nat.min_comm]
  ·rcases hf with h | ⟨h,_⟩
   ·refine .inl ?_;rw[show dA (a.take out.length)=(dA a).take out.length by simp[dA]];exact BK h
   ·exact .inr ⟨by omega,by rw[Xp h];simp[dA]⟩
  ·rw[Nat.zero_mul,y5];refine⟨_,_,?_,hK⟩;have h3:=BS o z (out':=qe out 0 (a.take out.length)) (nO (by rw[hl];omega)) u ha;exact h3.put (l _ (by omega)) d
end
end Go.Fr.Tryd
