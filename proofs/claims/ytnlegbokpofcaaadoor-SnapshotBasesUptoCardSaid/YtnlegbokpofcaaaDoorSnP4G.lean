/- Part of the proofs of the statements of this seat. -/
import Derived.Test.YtnlegbokpofcaaaDoorSnE3G
import Derived.Test.YtnlegbokpofcaaaDoorFW3
import Derived.Test.YtnlegbokpofcaaaDoorSnW1G
set_option maxRecDepth 10000
set_option linter.unusedVariables false
set_option linter.unusedSimpArgs false
namespace Go.Fr.Tryd
open Go Go.RowKit Go.Proofs Go.Fr Go.Fr.T Go.Fr.Api
theorem RJ (b d:List (List C)) (f:Int) (x:Wd) (j:FM x) (bs:List UInt8) (hb:bs.length+(uo kW x).1.length<=70368744177664) :
  CallsT PZ 17 [.fn 32 [] [.own 1000 0,.pt (uF b d f x) 0]] (EB bs) (fun Mo c=>((uo kW x).2=true/\Mo=EB (bs++(uo kW x).1)/\c=.bool true)\/((uo kW x).2=false/\qK (EB bs) Mo/\c=.bool false)):=by
 have a:=t32 b d f x j bs hb;generalize uo kW x=e at a ⊢;obtain⟨s,q⟩:=e;generalize uF b d f x=es at a ⊢;refine gm (PS:=fun v=>v=eS/\q=false) (ns:=[1]) (out:=Ic) Tryd.func17 uV (oL.mono u7 fun v h=>h.1) (fun v h=>rfl) rfl rfl ?_ fun r n=>?_
 ·rintro v ⟨rfl,h⟩;refine⟨.bool false,.bool false,?_,?_,fun Mo l=>.inr ⟨h,l,rfl⟩⟩
  ·intro L ρ o;obtain⟨m,g,t,p⟩:=o 0 2 _ rfl rfl;simp only[kP,m,p];rfl
  ·intro F L;rw[Rel]
 refine⟨rfl,?_⟩;refine bO [1000,1001,1002] a rfl rfl rfl rfl (fun v h=>h) ?_;rintro v Mo ⟨k,rfl,rfl⟩ _ _;refine⟨rfl,?_⟩;exact cR [1000,1001,1002] rfl rfl rfl rfl (.inl ⟨k,rfl,rfl⟩)
def rH (x:Wd):List UInt8:=if(uo kW x).2=true then gC (dJ++(uo kW x).1) else[]
theorem w7:dJ.length=3:=rfl
theorem RM:CallsT PZ 27 [.own 1000 0,.sl (af dJ)] [.box 66 [.nils,IC 0,.int .i8 0]] (iK (HW 66 [] dJ) (.tup [IC 3,.opq 0])) :=
 CallsT.gives (O2 66 [] rfl [] dJ (by decide) (by decide))
  ⟨.inl ⟨_,rfl,.inr ⟨66,_,_,rfl,rfl,⟨_,_,rfl,tM rfl rfl,⟨_,_,rfl,aq rfl,⟨_,_,rfl,aq rfl,rfl⟩⟩⟩⟩⟩,.inr ⟨rfl,5,1,rfl⟩,trivial⟩ (by decide)
theorem Sn (d f:List (List C)) (h:Int) (x:Wd) (k:FM x) (hb:(uo kW x).1.length<=35184372088832) :
  CallsT PZ 10 [.agg (uF d f h x)] [] (iK [.row 5 1 (af (rH x))] (.rw 1000)):=by
 have a:=RJ d f h x k dJ (by rw[w7];omega);have j:=Si (dJ++(uo kW x).1) (by simp[w7];omega);have b:rH x=if(uo kW x).2=true then gC (dJ++(uo kW x).1) else[]:=rfl;generalize rH x=eb at b ⊢;generalize uo kW x=e at a b j;obtain⟨m,o⟩:=e;refine au Tryd.func10 JX rfl fun n l=>?_;refine gW t31 rfl fun _=>?_;refine zO [5] [5,6] RM rfl rfl rfl rfl rfl fun _ _=>?_;refine Ah [3,5,6] a rfl rfl rfl rfl ?_;rintro v Mo (⟨c,rfl,rfl⟩ | ⟨c,⟨q,M1,rfl,p,M2,rfl,M3,rfl,rfl⟩,rfl⟩) _ _
 ·refine⟨rfl,?_⟩;refine uh [6] [5] [5] (Ny 66 (dJ++m)) ⟨_,rfl,rfl,rfl,rfl,rfl,fun _ _=>?_⟩;refine callO [] [18] j rfl rfl rfl rfl rfl fun _ _=>?_;exact xJ [18] rfl rfl (by rw[b,c];rfl) rfl
 ·refine⟨rfl,?_⟩;refine OV ?_;exact Pt 2 5 1 rfl rfl (by rw[b,vv (by rw[c];exact XP)];rfl)
end Go.Fr.Tryd
namespace Go.Fr.Tryd
open Go Go.RowKit Go.Proofs Go.Fr Go.Fr.T Go.Fr.Api Go.Fr.Dm
def dO (n:Nat):Nat:=(n+31) / 32
def rI (a b:List UInt8) (i:Nat):Bool:=!decide (ct b i <+: ct a i)
def jI (a b:List UInt8):List Nat:=(List.range (dO b.length)).filter (rI a b)
def kU:List Int->List UInt8
 | []=>[]
 | n::l=>bQ (zz n)++kU l
def xA (b:List UInt8):Int->List Nat->List UInt8
 | _,[]=>[]
 | p,i::r=>bQ (zz (i-p))++(ct b i++xA b i r)
def mS (a b:List UInt8):List Int:=[a.length,iW a,b.length,iW b,(jI a b).length]
def cA (a b:List UInt8):List UInt8:=kU (mS a b)++xA b (-1) (jI a b)
def uG (l:List Nat):List (List C):=l.map fun(i:Nat)=>([IC (i:Int)]:List C)
theorem w8 (l:List Nat):(uG l).length=l.length:=by simp[uG]
theorem Lv {l:List Nat}{k i:Nat}(h:l[k]?=some i):(uG l)[k]?=some [IC i]:=by simp[uG,h]
theorem Ai {a b:List UInt8}{i:Nat}(h:i∈jI a b):i<dO b.length:=by
 simp only[jI,List.mem_filter,List.mem_range] at h;exact h.1
theorem u9 (a b:List UInt8):(jI a b).length<=dO b.length:=by
 have:=List.length_filter_le (rI a b) (List.range (dO b.length));simpa[jI] using this
theorem En:∀(f z:Nat),z<128 ^ (f+1)->(bQ z).length<=f+1
 | 0,z,h=>by rw[bQ,dif_pos (by omega)];simp
 | f+1,z,h=>by
  rw[bQ];split
  ·simp
  ·have:=En f (z / 128) (by rw[Nat.pow_succ] at h;omega);simp only[Xl];omega
theorem Mf (n:Int) (m:Nat) (b:-(m:Int)<=n) (a:n<=m):zz n<=2*m:=by
 unfold zz;split<;>omega
theorem mE (n:Int) (a:-2305843009213693952<=n) (b:n<=2305843009213693952):(bQ (zz n)).length<=10 :=
 En 9 _ (Nat.lt_of_le_of_lt (Mf n 2305843009213693952 a b) (by decide))
def Sm (n:Int):Prop:=-2305843009213693952<=n/\n<=2305843009213693952
theorem tQ:∀(l:List Int),(∀n∈l,Sm n)->(kU l).length<=10*l.length
 | [],_=>by simp[kU]
 | n::l,h=>by
  have c:=mE n (h n (by simp)).1 (h n (by simp)).2;have b:=tQ l fun m a=>h m (by simp[a]);simp only[kU,W8,Xl];omega
theorem BQ (b:List UInt8) (i:Nat):(ct b i).length<=32:=by unfold ct;rw[Xo];omega
theorem Aj (b:List UInt8):∀(p:Int) (l:List Nat),-1<=p->p<=1152921504606846976->(∀i∈l,i<=1152921504606846976)->(xA b p l).length<=42*l.length
 | p,[],_,_,_=>by simp[xA]
 | p,i::l,c,f,h=>by
  have hi:=h i (by simp);have e:=mE (i-p) (by omega) (by omega);have j:=Aj b i l (by omega) (by omega) fun m a=>h m (by simp[a]);have d:=BQ b i;simp only[xA,W8,Xl];omega
theorem Pu {els:List (List C)}{c:List C}{K:Prop}(n:Nat) (d:c.length=1) (b:els.length=n) (h:n<=2 ^ 40) (k:K):rj els [c] 1 8 K :=
 ⟨fun es a=>(by rcases W7.1 a with rfl | a;exact d;cases a),by rw[b];simp only[Xl,XE,maxLen];omega,by
  rw[b];simp only[Xl,XE];omega,k⟩
theorem Fx (s:List Nat) (k:Nat):uG s++[[IC (k:Int)]]=uG (s++[k]):=by simp[uG]
theorem RN {l:List Nat}{k:Nat}{x:Nat}{K:List C->Prop}(a:l[k]?=some x) (h:K [IC (x:Int)]):Cr (uG l) (k:Int) 1 K:=⟨[IC (x:Int)],by omega,Lv a,rfl,h⟩
set_option maxRecDepth 20000 in
theorem t8 (a b:List UInt8) (ha:a.length<=1073741824) (hb:b.length<=1073741824) :
  CallsT PZ 8 [.sl (af a),.sl (af b)] [] (iK [] (.sl (af (cA a b)))):=by
 have ag:(af a).length=a.length:=aK;have w:(af b).length=b.length:=aK;obtain⟨n,y⟩:∃n,dO b.length=n:=⟨_,rfl⟩;have bc:n<=33554433:=by rw[<-y];unfold dO;omega
 have al:CallsT PZ 23 [IC ((af b).length:Nat)] [] (iK [] (IC (n:Nat))):=by
  rw[w,<-y];exact Sk b.length (by omega)
 refine au Tryd.func8 Nn rfl fun hw ba=>?_;refine bK al rfl fun _=>?_;refine bW n 16 [5] [] (fun _=>[.rw 30]) (fun s:List Nat=>[(30,.row 3 1 (uG s))]) (fun k s=>s=(List.range k).filter (rI a b)) rfl (aq rfl) ⟨tM rfl rfl,trivial⟩ ⟨.inr ⟨rfl,3,1,rfl⟩,trivial⟩ (fun _=>rfl) (fun _=>rfl) ?_;rintro k s hk j _ _ r;refine aV (fun c=>?_) (fun o=>?_)
 ·have c:k<n:=by omega
  have bb:s.length<=k:=by
   have:=List.length_filter_le (rI a b) (List.range k);rw[j];simpa using this
  have z:(List.range (k+1)).filter (rI a b)=s++if rI a b k=true then[k] else[]:=by
   rw[List.range_succ,List.filter_append,<-j];congr 1;cases e:rI a b k<;>simp[e]
  refine bK (RI a k (by omega)) rfl fun _=>?_;refine bK (RI b k (by omega)) rfl fun _=>?_;refine bK (Sj (ct a k) (ct b k)) rfl fun _=>?_;refine aF (fun v=>?_) (fun v=>?_)
  ·have v:rI a b k=true:=v;refine Pu s.length rfl (w8 s) (by omega) ?_;refine Fit.Wk (by omega) (by omega) ?_;refine⟨(k+1,s++[k]),⟨c,by rw[z,j3 v]⟩,⟨cF,aq rfl,trivial⟩,⟨.inl ⟨_,rfl,.inl ⟨p7 (TO.row 3 1) (Fx s k),rfl⟩⟩,trivial⟩,cG c⟩
  ·have v:rI a b k=false:=v;refine Fit.Wk (by omega) (by omega) ?_;refine⟨(k+1,s),⟨c,by rw[z,vv (by rw[v];exact XP),Xp]⟩,⟨cF,aq rfl,trivial⟩,⟨.inl ⟨_,rfl,.inl ⟨rfl,rfl⟩⟩,trivial⟩,cG c⟩
 have j:s=jI a b:=by
  have:k=n:=by omega
  rw[j,this,<-y];rfl
 have be:s.length<=n:=by rw[j,<-y];exact u9 a b
 have ay:=jv a;have ax:=jv b;have am:[((af a).length:Int),iW a,((af b).length:Int),iW b,((uG s).length:Int)]=mS a b:=by rw[ag,w,w8,j];rfl
 have ab:∀m∈mS a b,Sm m:=by
  intro m hm;simp only[mS,<-j,W7,List.not_mem_nil,or_false] at hm;unfold Sm;rcases hm with rfl | rfl | rfl | rfl | rfl<;>omega
 refine bK (t9 a) rfl fun _=>?_;refine bK (t9 b) rfl fun _=>?_;have hN:=tQ _ ab;have h5:(mS a b).length=5:=rfl;have hD:(cA a b).length<=50+42*s.length:=by
  have:=Aj b (-1) (jI a b) (by omega) (by omega) fun i hi=>by have:=Ai hi;omega
  rw[<-j] at this;rw[cA,W8,<-j];omega
 refine bW 5 46 [] [] (fun _=>[]) (fun d:List UInt8=>[(33,.box 66 [.rw 60,IC 0,.int .i8 0]),(60,.row 5 1 (af d))]) (fun k d=>d++kU ((mS a b).drop k)=kU (mS a b)) rfl (aq rfl) trivial
  ⟨.inl ⟨_,rfl,.inr ⟨66,_,_,rfl,rfl,⟨_,_,rfl,tM rfl rfl,⟨_,_,rfl,aq rfl,⟨_,_,rfl,aq rfl,rfl⟩⟩⟩⟩⟩,.inr ⟨rfl,5,1,rfl⟩,trivial⟩ (fun _=>rfl) (fun _=>rfl) ?_
 rintro k d hk f _ _ r;refine aV (fun c=>?_) (fun o=>?_)
 ·have h:(k:Int)<(5:Nat):=c;have h:k<5:=by omega
  refine d9 (l:=mS a b) h fun x hx t u=>?_;rw[u] at f;obtain⟨x1,x2⟩:=ab x t;have ae:=mE x x1 x2;have an:d.length+10<=1000:=by
   have:=p7 List.length f;rw[W8] at this;omega
  refine Nw (l:=[((af a).length:Int),iW a,((af b).length:Int),iW b,((uG s).length:Int)]) (by rw[am];exact hx) ?_;refine callO [33,60] [33,60] (O3 66 d x (by omega) (by omega) (by omega)) rfl rfl rfl rfl rfl fun _ _=>?_;refine Fit.Wk (by omega) (by omega) ?_;refine⟨(k+1,d++bQ (zz x)),⟨h,by rw[Xb];exact f⟩,⟨cF,trivial⟩,⟨.inl ⟨_,rfl,.inl ⟨rfl,rfl⟩⟩,.inl ⟨_,rfl,.inl ⟨rfl,rfl⟩⟩,trivial⟩,cG h⟩
 have ar:¬(k:Int)<(5:Nat):=o;have f:d=kU (mS a b):=by
  rw[List.drop_eq_nil_of_le (by omega)] at f;simpa[kU] using f
 have ao:(uG s).length=s.length:=w8 s;refine bW s.length 56 [10] (d,(-1:Int)) (fun x:List UInt8×Int=>[IC x.2]) (fun x=>[(33,.box 66 [.rw 60,IC 0,.int .i8 0]),(60,.row 5 1 (af x.1))])
  (fun k x=>x.1++xA b x.2 (s.drop k)=cA a b/\-1<=x.2/\x.2<=33554433) ⟨by rw[f,j];rfl,by omega,by omega⟩ (aq rfl) ⟨aq rfl,trivial⟩
  ⟨.inl ⟨_,rfl,.inl ⟨rfl,rfl⟩⟩,.inl ⟨_,rfl,.inl ⟨rfl,rfl⟩⟩,trivial⟩ (fun _=>rfl) (fun _=>rfl) ?_
 rintro k ⟨d,p⟩ hk ⟨f,aa,ac⟩ _ _ r;refine aV (fun c=>?_) (fun o=>?_)
 ·have c:k<s.length:=by omega
  refine d9 c fun x hx t u=>?_;have f:d++xA b p (s.drop k)=cA a b:=f;rw[u] at f;have aa:-1<=p:=aa;have ac:p<=33554433:=ac;have az:x<n:=by rw[<-y];exact Ai (by rw[<-j];exact t)
  have ae:=mE (x-p) (by omega) (by omega);have aw:=BQ b x;have an:d.length<=50+42*s.length:=by
   have:=p7 List.length f;rw[W8] at this;omega
  refine RN hx ?_;refine Fit.Wk (by omega) (by omega) ?_;refine callO [33,60] [33,60] (O3 66 d (x-p) (by omega) (by omega) (by omega)) rfl rfl rfl rfl rfl fun _ _=>?_;refine gW (RI b x (by omega)) rfl fun _=>?_;refine zO [33,60] [33,60] (O2 66 [] rfl (d++bQ (zz (x-p))) (ct b x) (by rw[W8];omega) (by have:=nM (zz (x-p));rw[W8];omega)) rfl rfl rfl rfl rfl fun _ _=>?_;refine Fit.Wk (by omega) (by omega) ?_;refine⟨(k+1,(d++bQ (zz (x-p))++ct b x,(x:Int))),⟨c,by simpa[xA] using f,by show(-1:Int)<=(x:Int);omega,by show(x:Int)<=33554433;omega⟩,⟨cF,aq rfl,trivial⟩,⟨.inl ⟨_,rfl,.inl ⟨rfl,rfl⟩⟩,.inl ⟨_,rfl,.inl ⟨rfl,rfl⟩⟩,trivial⟩,cG c⟩
 have o:¬k<s.length:=by omega
 have f:d++xA b p (s.drop k)=cA a b:=f;have f:d=cA a b:=by
  rw[List.drop_eq_nil_of_le (by omega)] at f;simpa[xA] using f
 refine uh [60] [33] [33] (Ny 66 d) ⟨_,rfl,rfl,rfl,rfl,rfl,fun _ _=>?_⟩;exact bC rfl (p7 (fun q=>C.sl (af q)) f)
end Go.Fr.Tryd
namespace Go.Fr.Tryd
open Go Go.RowKit Go.Proofs Go.Fr Go.Fr.T Go.Fr.Api
def w0:Wd:=⟨[],[],[],[],[],0,0,0⟩
def DB (bs:List UInt8) (cs:List C):List TO:=[.box 52 [.own 1001 0],RB bs,.box 44 cs]
def oH (bs:List UInt8):Option Wd:=match D9 bs with
 | some (x,[])=>some x
 | _=>none
theorem Fy {bs:List UInt8}(h:D9 bs=none):oH bs=none:=by unfold oH;rw[h]
theorem Fz {bs r:List UInt8}{x:Wd}(h:D9 bs=some (x,r)) (a:decide (((af r).length:Int)=0)=false):oH bs=none:=by
 unfold oH;rw[h];cases r with
 | nil=>simp[af] at a
 | cons=>rfl
theorem FA {bs r:List UInt8}{x:Wd}(h:D9 bs=some (x,r)) (b:decide (((af r).length:Int)=0)=true):oH bs=some x/\r=[]:=by
 unfold oH;rw[h];cases r with
 | nil=>exact⟨rfl,rfl⟩
 | cons a l=>simp[af] at b;omega
theorem t35 (a d:List (List C)) (b:Int) (bs:List UInt8) :
  CallsTX PZ 35 [.own 1000 0,.own 1002 0] (DB bs (uF a d b w0)) (fun Mo c=>∃x,oH bs=some x/\Mo=DB [] (uF a d b x)/\c=.tup []) (fun v=>v=eS/\oH bs=none):=by
 refine ai Tryd.func35 Kk rfl fun l j=>?_;refine bO [1001,1002] (Rc 44 a d b bs) rfl rfl rfl rfl (fun v h=>⟨h.1,Fy h.2⟩) ?_;rintro v Mo ⟨x,r,e,rfl,rfl⟩ _ _;refine⟨rfl,?_⟩;refine bO [] (sN (decide (((af r).length:Int)=0))) rfl rfl rfl rfl (fun v h=>⟨h.1,Fz e h.2⟩) ?_;rintro v Mo ⟨f,rfl,rfl⟩ _ _;refine⟨rfl,?_⟩;obtain⟨k,rfl⟩:=FA e f;exact cR [1000,1001,1002] rfl rfl rfl rfl ⟨x,k,rfl,rfl⟩
theorem RO (a b:List (List C)) (d:Int) (bs:List UInt8) :
  CallsT PZ 17 [.fn 35 [] [.own 1000 0,.own 1002 0]] (DB bs (uF a b d w0)) (fun Mo c=>(∃x,oH bs=some x/\Mo=DB [] (uF a b d x)/\c=.bool true)\/(oH bs=none/\qK (DB bs (uF a b d w0)) Mo/\c=.bool false)):=by
 refine gm (PS:=fun v=>v=eS/\oH bs=none) (ns:=[1]) (out:=Ic) Tryd.func17 uV (oL.mono u7 fun v h=>h.1) (fun v h=>rfl) rfl rfl ?_ fun n k=>?_
 ·rintro v ⟨rfl,h⟩;refine⟨.bool false,.bool false,?_,?_,fun Mo f=>.inr ⟨h,f,rfl⟩⟩
  ·intro L ρ l;obtain⟨j,g,t,m⟩:=l 0 2 _ rfl rfl;simp only[kP,j,m];rfl
  ·intro F L;rw[Rel]
 refine⟨rfl,?_⟩;refine bO [1000,1001,1002] (t35 a b d bs) rfl rfl rfl rfl (fun v h=>h) ?_;rintro v Mo ⟨x,e,rfl,rfl⟩ _ _;refine⟨rfl,?_⟩;exact cR [1000,1001,1002] rfl rfl rfl rfl (.inl ⟨x,e,rfl,rfl⟩)
theorem tP {L L1:TL}:Iq L L1 .nils (.sl []):=.inr (.inr (.inl ⟨rfl,rfl⟩))
theorem iH {t:Nat}(n:Nat) (F:aA) (L:Loc) (p:Own) (r:cN F L (.box t (List.replicate n .any)) p):cN F L (.win t (List.replicate n .any) [] []) p :=
 u4 (by simp) (yS n) (fun c h=>by cases h) F L p r
theorem Pv (a b:List (List C)) (d:Int) (bs:List UInt8) :
  CallsT PZ 17 [.fn 35 [] [.own 1000 0,.own 1002 0]] [.box 52 [.own 1001 0],RB bs,.box 44 [.sl a,.sl b,IC d,.nils,.nils,.nils,.nils,.nils,IC 0,IC 0,IC 0]]
   (fun Mo c=>(∃x,oH bs=some x/\Mo=DB [] (uF a b d x)/\c=.bool true)\/(oH bs=none/\(∃k l f,Mo=[.win 52 k [] [],.win 54 l [] [],.win 44 f [] []])/\c=.bool false)) :=
 (((CallsT.gives (Lin:=[.box 52 [.own 1001 0],RB bs,.box 44 [.sl a,.sl b,IC d,.nils,.nils,.nils,.nils,.nils,IC 0,IC 0,IC 0]]) (RO a b d bs)
    ⟨.inl ⟨_,rfl,.inl ⟨rfl,rfl⟩⟩,.inl ⟨_,rfl,.inl ⟨rfl,rfl⟩⟩,.inl ⟨_,rfl,.inr ⟨44,_,_,rfl,rfl,⟨_,_,rfl,aq rfl,⟨_,_,rfl,aq rfl,⟨_,_,rfl,aq rfl,⟨_,_,rfl,tP,⟨_,_,rfl,tP,⟨_,_,rfl,tP,⟨_,_,rfl,tP,⟨_,_,rfl,tP,⟨_,_,rfl,aq rfl,⟨_,_,rfl,aq rfl,⟨_,_,rfl,aq rfl,rfl⟩⟩⟩⟩⟩⟩⟩⟩⟩⟩⟩⟩⟩,trivial⟩ (Xn 3):CallsT PZ 17 _ _ _).toX (Pp:=fun _=>False)).view (vw.refl _) (by
  rintro Mo c (h | ⟨e,⟨n,M1,rfl,m,M2,rfl,j,M3,rfl,rfl⟩,rfl⟩)
  ·exact⟨Mo,vw.refl _,.inl h⟩
  ·exact⟨_,vw.cons (iH n) (vw.cons (iH m) (vw.cons (iH j) (vw.refl []))),.inr ⟨e,⟨_,_,_,rfl⟩,rfl⟩⟩) fun _ h=>h).noPan
def xg (bs:List UInt8):Option Wd×Int :=
 if bs.length<7\/¬dJ <+: bs then(none,16)
 else if¬gC (bs.take (bs.length-4))=bs then(none,17)
 else match oH ((bs.take (bs.length-4)).drop 3) with
  | some x=>(some x,0)
  | none=>(none,16)
def RP (a c:List (List C)) (b:Int):Option Wd×Int->C
 | (some x,e)=>.tup [.agg (uF a c b x),IC e]
 | (none,e)=>.tup [.agg (uF [] [] 0 w0),IC e]
theorem Sq (m o:List (List C)) (p:Int) (bs:List UInt8) (hb:bs.length<=70368744177664) :
  CallsT PZ 11 [.agg [.sl m,.sl o,IC p],.sl (af bs)] [] (iK [] (RP m o p (xg bs))):=by
 have j:(af bs).length=bs.length:=aK;obtain⟨s,l⟩:∃s,bs.take (bs.length-4)=s:=⟨_,rfl⟩;have al:s.length<=bs.length:=by rw[<-l,Xo];omega
 obtain⟨d,f⟩:∃d,xg bs=d:=⟨_,rfl⟩;rw[f];have w:bs.length<7->d=(none,16):=fun h=>by rw[<-f];unfold xg;rw[j3 (.inl h)]
 have u:¬dJ <+: bs->d=(none,16):=fun h=>by rw[<-f];unfold xg;rw[j3 (.inr h)]
 have r:¬bs.length<7->dJ <+: bs->¬gC s=bs->d=(none,17):=fun a h2 z=>by
  rw[<-f];unfold xg;rw[vv (fun h=>h.elim a (fun h=>h h2)),l,j3 z]
 have e:¬bs.length<7->dJ <+: bs->gC s=bs->d=match oH (s.drop 3) with | some x=>(some x,0) | none=>(none,16):=fun a h2 z=>by
  rw[<-f];unfold xg;rw[vv (fun h=>h.elim a (fun h=>h h2)),l,vv (fun h=>h z)]
 have k:=Pv m o p (s.drop 3);generalize oH (s.drop 3)=ad at e k;refine au Tryd.func11 JY rfl fun hw ag=>?_;refine aV (fun h0=>?_) (fun h0=>?_)
 ·exact bC rfl (by rw[w (by omega)];rfl)
 have h7:¬bs.length<7:=by omega
 have n:((af bs).drop 0).take (((af bs).length-4:Int).toNat-0)=af s:=by
  rw[gq,j,show((bs.length:Int)-4).toNat-0=bs.length-4 by omega,<-l];rfl
 have e2:(3:Int)<=((((af bs).drop 0).take (((af bs).length-4:Int).toNat-0)).length:Int):=by rw[n,aK,<-l,Xo];omega
 have e3:∀es∈(((af bs).drop 0).take (((af bs).length-4:Int).toNat-0)),es.length=1:=by rw[n];exact fA
 have y:((((af bs).drop 0).take (((af bs).length-4:Int).toNat-0)).drop 3).take (((((af bs).drop 0).take (((af bs).length-4:Int).toNat-0)).length:Int).toNat-3)=af (s.drop 3):=by
  rw[n,gq,aK,XO (by simp)]
 refine bK t31 rfl fun _=>?_;refine bK (Sj bs dJ) rfl fun _=>?_;refine aF (fun a=>?_) (fun a=>?_)
 ·have a:(!decide (dJ <+: bs))=true:=a;exact bC rfl (by rw[u (by simpa using a)];rfl)
 have a:(!decide (dJ <+: bs))=false:=a;have a:dJ <+: bs:=by simpa using a
 refine Fit.Wk (by omega) (by omega) ?_;refine AZ.mk (by omega) (by omega) (by omega) fA ?_;refine callO [] [25] (Si s (by omega)) rfl rfl (p7 (fun q=>[C.sl q]) n) rfl rfl fun _ _=>?_;refine uh [25] [] [] (t22 (gC s) bs) ⟨_,rfl,rfl,rfl,rfl,rfl,fun _ _=>?_⟩;refine aF (fun c=>?_) (fun b=>?_)
 ·have c:(!decide (gC s=bs))=true:=c;exact bC rfl (by rw[r h7 a (by simpa using c)];rfl)
 have b:(!decide (gC s=bs))=false:=b;have h4:=e h7 a (by simpa using b);refine AZ.mk (by decide) e2 (Xw _) e3 ?_;refine Ah [7,33,8] k rfl rfl rfl (p7 (fun q=>[TO.box 52 [C.own 1001 0],.box 54 [.sl q],.box 44 [.sl m,.sl o,IC p,.nils,.nils,.nils,.nils,.nils,IC 0,IC 0,IC 0]]) y) ?_;rintro v Mo (⟨x,t,rfl,rfl⟩ | ⟨t,⟨p1,p2,p3,rfl⟩,rfl⟩) _ _
 ·refine⟨rfl,?_⟩;exact bC rfl (by rw[h4,t];rfl)
 ·refine⟨rfl,?_⟩;exact bC rfl (by rw[h4,t];rfl)
structure NN where
 slot:Int
 excl:Bool
 re:Bool
structure Slot where
 state:Int
 type:Ty
 var:Int
 flag:Int
 lent:List NN
structure FB where
 name:ByteArray
 params:List Ty
 result:Ty
 ties:List Int
 slots:Int
 blocks:List Block
 entry:List (List Slot)
structure Mg where
 datas:List Api.Data
 routs:List FB
 main:Int
def BR (x:NN):List C:=[IC x.slot,.bool x.excl,.bool x.re]
def jw (x:Slot):List C:=[IC x.state,IC x.type.kind,IC x.type.id,.sl (x.type.args.map uY),IC x.var,IC x.flag,.sl (x.lent.map BR)]
def rJ (l:List Slot):List C:=[.sl (l.map jw)]
def kV (r:FB):List C:=[.str r.name,.sl (r.params.map uY),IC r.result.kind,IC r.result.id,.sl (r.result.args.map uY),.sl (wL r.ties),IC r.slots,.sl (r.blocks.map ju),.sl (r.entry.map rJ)]
def Pw (i:Mg):List C:=[.sl (i.datas.map kK),.sl (i.routs.map kV),IC i.main]
def Iv (t:Ty):C:=.agg [IC t.kind,IC t.id,.sl (t.args.map uY)]
noncomputable def Ie (p:Prop):Bool:=@decide p (Classical.propDecidable p)
theorem Ak {p:Prop}:Ie p=true↔p:=by unfold Ie;exact @decide_eq_true_iff p (Classical.propDecidable p)
theorem kN {p:Prop}(h:Ie p=true):p:=Ak.1 h
theorem kX {p:Prop}(h:Ie p=false):¬p:=fun q=>by rw[Ak.2 q] at h;cases h
theorem bJ {p:Prop}(h:¬p):false=Ie p:=by
 cases e:Ie p with
 | true=>exact xo (kN e) h
 | false=>rfl
theorem jx {p:Prop}(h:p):true=Ie p:=(Ak.2 h).symm
theorem iX {p q:Prop}(h:p↔q):Ie p=Ie q:=by rw[show p=q from propext h]
theorem m6 {c:Type}{a b:List c}(h:¬a.length=b.length):a≠b:=fun e=>h (by rw[e])
theorem iI {c:Type}{a b:List c}{n:Nat}(d:a.length=n) (hb:b.length=n) (h:∀j<n,a[j]?=b[j]?):a=b:=by
 apply XF;intro i
 by_cases hi:i<n
 ·exact h i hi
 ·rw[Xe (by omega),Xe (by omega)]
theorem m7 {d:Type}{a b:List d}{k:Nat}{x y:d}(c:a[k]?=some x) (f:b[k]?=some y) (h:x≠y):a≠b:=fun e=>h (by rw[e,f] at c;injection c with c;exact c.symm)
theorem iJ {d:Type}{a b:List d}{k:Nat}{x y:d}(h:∀j<k,a[j]?=b[j]?) (l:a[k]?=some x) (f:b[k]?=some y) (e:x=y):∀j<k+1,a[j]?=b[j]?:=by
 intro j m
 by_cases c:j=k
 ·rw[c,l,f,e]
 ·exact h j (by omega)
theorem fW {a:Type}{l:List a}{k:Nat}(h:k<l.length):∃x,l[k]?=some x:=⟨l[k],WZ h⟩
theorem Al {a b:ByteArray}(h:a.data.toList=b.data.toList):a=b:=by
 cases a;cases b;simp only at h;rw[Array.toList_inj.1 h]
def fq (f:Nat) (args:List C) (p:Prop):Prop:=CallsT PZ f args [] (iK [] (.bool (Ie p)))
theorem RQ (a b:List (Int)):fq 79 [.sl (wL a),.sl (wL b)] (a=b):=by
 refine au Tryd.func79 KG rfl fun q _=>?_;have m:(wL a).length=a.length:=by simp[wL]
 have hb:(wL b).length=b.length:=by simp[wL]
 have t:a.length<=9223372036854775807:=by have:=mA q.1;rwa [m] at this
 refine aF (fun d=>?_) (fun d=>?_)
 ·have d:¬a.length=b.length:=fun e=>by
   rw[m,hb,e] at d;simp at d
  exact bC rfl (p7 C.bool (bJ (m6 d)))
 have d:a.length=b.length:=by
  rw[m,hb] at d;simp at d;omega
 refine bW a.length 13 [] () (fun _=>[]) (fun _=>[]) (fun k _=>∀j<k,a[j]?=b[j]?) (fun j r=>xo r (by omega)) (aq rfl) trivial trivial (fun _=>rfl) (fun _=>rfl) ?_;rintro k ⟨⟩ s f _ _ _;refine aV (fun c=>?_) (fun n=>?_)
 ·have c:k<a.length:=by rw[m] at c;omega
  obtain⟨x,o⟩:=fW c;obtain⟨y,p⟩:=fW (l:=b) (k:=k) (by omega);refine Nw o ?_;refine Nw p ?_;refine aF (fun h=>?_) (fun h=>?_)
  ·have h:¬x=y:=by simpa using h
   exact bC rfl (p7 C.bool (bJ (m7 o p h)))
  ·have h:x=y:=by simpa using h
   refine Fit.Wk (by omega) (by omega) ?_;exact⟨(k+1,()),⟨c,iJ f o p h⟩,⟨cF,trivial⟩,trivial,cG c⟩
 ·have n:¬k<a.length:=by rw[m] at n;omega
  have:k=a.length:=by omega
  subst this;exact bC rfl (p7 C.bool (jx (iI rfl d.symm f)))
theorem VL (a b:List (NN)):fq 94 [.sl (a.map BR),.sl (b.map BR)] (a=b):=by
 refine au Tryd.func94 KV rfl fun q _=>?_;have m:(a.map BR).length=a.length:=by simp
 have hb:(b.map BR).length=b.length:=by simp
 have t:a.length<=9223372036854775807:=by have:=mA q.1;rwa [m] at this
 refine aF (fun d=>?_) (fun d=>?_)
 ·have d:¬a.length=b.length:=fun e=>by
   rw[m,hb,e] at d;simp at d
  exact bC rfl (p7 C.bool (bJ (m6 d)))
 have d:a.length=b.length:=by
  rw[m,hb] at d;simp at d;omega
 refine bW a.length 13 [] () (fun _=>[]) (fun _=>[]) (fun k _=>∀j<k,a[j]?=b[j]?) (fun j r=>xo r (by omega)) (aq rfl) trivial trivial (fun _=>rfl) (fun _=>rfl) ?_;rintro k ⟨⟩ s f _ _ _;refine aV (fun c=>?_) (fun n=>?_)
 ·have c:k<a.length:=by rw[m] at c;omega
  obtain⟨x,o⟩:=fW c;obtain⟨y,p⟩:=fW (l:=b) (k:=k) (by omega);refine js o rfl rfl ?_;refine js p rfl rfl ?_;refine aF (fun h=>?_) (fun h=>?_)
  ·have h:¬x=y:=fun e=>by subst e;simp[mU] at h
   exact bC rfl (p7 C.bool (bJ (m7 o p h)))
  ·have h:x=y:=by cases x;cases y;simp[mU] at h;simp[h]
   refine Fit.Wk (by omega) (by omega) ?_;exact⟨(k+1,()),⟨c,iJ f o p h⟩,⟨cF,trivial⟩,trivial,cG c⟩
 ·have n:¬k<a.length:=by rw[m] at n;omega
  have:k=a.length:=by omega
  subst this;exact bC rfl (p7 C.bool (jx (iI rfl d.symm f)))
theorem VN (a b:List (Ty)) (s:∀x∈a,∀y,fq 77 [Iv x,Iv y] (x=y)):fq 87 [.sl (a.map uY),.sl (b.map uY),.fn 77 [] []] (a=b):=by
 refine au Tryd.func87 KO rfl fun q _=>?_;have m:(a.map uY).length=a.length:=by simp
 have hb:(b.map uY).length=b.length:=by simp
 have u:a.length<=9223372036854775807:=by have:=mA q.1;rwa [m] at this
 refine aF (fun d=>?_) (fun d=>?_)
 ·have d:¬a.length=b.length:=fun e=>by
   rw[m,hb,e] at d;simp at d
  exact bC rfl (p7 C.bool (bJ (m6 d)))
 have d:a.length=b.length:=by
  rw[m,hb] at d;simp at d;omega
 refine bW a.length 17 [] () (fun _=>[]) (fun _=>[]) (fun k _=>∀j<k,a[j]?=b[j]?) (fun j r=>xo r (by omega)) (aq rfl) trivial trivial (fun _=>rfl) (fun _=>rfl) ?_;rintro k ⟨⟩ t f _ _ _;refine aV (fun c=>?_) (fun n=>?_)
 ·have c:k<a.length:=by rw[m] at c;omega
  obtain⟨x,o⟩:=fW c;obtain⟨y,p⟩:=fW (l:=b) (k:=k) (by omega);refine LV o ?_;refine LV p ?_;refine bK (s x (W9 o) y) rfl fun _=>?_;refine aF (fun h=>?_) (fun h=>?_)
  ·have h:¬x=y:=kX (by simpa using h);exact bC rfl (p7 C.bool (bJ (m7 o p h)))
  ·have h:x=y:=kN (by simpa using h);refine Fit.Wk (by omega) (by omega) ?_;exact⟨(k+1,()),⟨c,iJ f o p h⟩,⟨cF,trivial⟩,trivial,cG c⟩
 ·have n:¬k<a.length:=by rw[m] at n;omega
  have:k=a.length:=by omega
  subst this;exact bC rfl (p7 C.bool (jx (iI rfl d.symm f)))
theorem Sr (a b:List (Ty)) (c:∀x∈a,∀y,fq 77 [Iv x,Iv y] (x=y)):fq 76 [.sl (a.map uY),.sl (b.map uY),.fn 77 [] []] (a=b):=by
 refine au Tryd.func76 KD rfl fun d _=>?_;refine bK (VN a b c) rfl fun _=>?_;exact bC rfl rfl
theorem Px {x y:Ty}(a:x.kind=y.kind) (c:x.id=y.id) (b:x.args=y.args):x=y:=by
 cases x;cases y
 simp_all [Ty.kind,Ty.id,Ty.args]
theorem Py {x t:Ty}(h:x∈t.args):SizeOf.sizeOf x<SizeOf.sizeOf t:=by
 cases t;have:=List.sizeOf_lt_of_mem h;simp only[Ty.args] at this;simp only[Ty.mk.sizeOf_spec];omega
theorem Pz:∀(n:Nat) (x y:Ty),SizeOf.sizeOf x<n->fq 77 [Iv x,Iv y] (x=y)
 | 0,x,y,h=>xo h (by omega)
 | n+1,x,y,h=>by
  have c:∀z∈x.args,∀w,fq 77 [Iv z,Iv w] (z=w):=fun z d w=>Pz n z w (by have:=Py d;omega);refine au Tryd.func77 KE rfl fun f _=>?_;refine aV (fun a=>?_) (fun a=>bC rfl (p7 C.bool (bJ fun e=>a (by rw[e]))));refine aV (fun b=>?_) (fun b=>bC rfl (p7 C.bool (bJ fun e=>b (by rw[e]))));refine bK (Sr x.args y.args c) rfl fun _=>?_;exact bC rfl (p7 C.bool (iX ⟨fun h=>Px a b h,fun e=>by rw[e]⟩))
theorem RS (x y:Ty):fq 77 [Iv x,Iv y] (x=y):=Pz _ x y (Nat.lt_succ_self _)
theorem NP (a b:List Ty):fq 76 [.sl (a.map uY),.sl (b.map uY),.fn 77 [] []] (a=b):=Sr a b fun x _ y=>RS x y
theorem var_eq {x y:Variant}(b:x.name=y.name) (a:x.fields=y.fields):x=y:=by
 rcases x with⟨⟩
 rcases y with⟨⟩
 simp_all
theorem VO (x y:Variant):fq 75 [.agg (fU x),.agg (fU y)] (x=y):=by
 refine au Tryd.func75 KC rfl fun b _=>?_;refine aV (fun a=>?_) (fun a=>bC rfl (p7 C.bool (bJ fun e=>a (by rw[e]))));refine bK (NP x.fields y.fields) rfl fun _=>?_;exact bC rfl (p7 C.bool (iX ⟨fun h=>var_eq (Al a) h,fun e=>by rw[e]⟩))
theorem VP (a b:List (Variant)) (s:∀x∈a,∀y,fq 75 [.agg (fU x),.agg (fU y)] (x=y)):fq 86 [.sl (a.map fU),.sl (b.map fU),.fn 75 [] []] (a=b):=by
 refine au Tryd.func86 KN rfl fun q _=>?_;have m:(a.map fU).length=a.length:=by simp
 have hb:(b.map fU).length=b.length:=by simp
 have u:a.length<=9223372036854775807:=by have:=mA q.1;rwa [m] at this
 refine aF (fun d=>?_) (fun d=>?_)
 ·have d:¬a.length=b.length:=fun e=>by
   rw[m,hb,e] at d;simp at d
  exact bC rfl (p7 C.bool (bJ (m6 d)))
 have d:a.length=b.length:=by
  rw[m,hb] at d;simp at d;omega
 refine bW a.length 17 [] () (fun _=>[]) (fun _=>[]) (fun k _=>∀j<k,a[j]?=b[j]?) (fun j r=>xo r (by omega)) (aq rfl) trivial trivial (fun _=>rfl) (fun _=>rfl) ?_;rintro k ⟨⟩ t f _ _ _;refine aV (fun c=>?_) (fun n=>?_)
 ·have c:k<a.length:=by rw[m] at c;omega
  obtain⟨x,o⟩:=fW c;obtain⟨y,p⟩:=fW (l:=b) (k:=k) (by omega);refine js o rfl rfl ?_;refine js p rfl rfl ?_;refine bK (s x (W9 o) y) rfl fun _=>?_;refine aF (fun h=>?_) (fun h=>?_)
  ·have h:¬x=y:=kX (by simpa using h);exact bC rfl (p7 C.bool (bJ (m7 o p h)))
  ·have h:x=y:=kN (by simpa using h);refine Fit.Wk (by omega) (by omega) ?_;exact⟨(k+1,()),⟨c,iJ f o p h⟩,⟨cF,trivial⟩,trivial,cG c⟩
 ·have n:¬k<a.length:=by rw[m] at n;omega
  have:k=a.length:=by omega
  subst this;exact bC rfl (p7 C.bool (jx (iI rfl d.symm f)))
theorem VQ (a b:List (Variant)) (c:∀x∈a,∀y,fq 75 [.agg (fU x),.agg (fU y)] (x=y)):fq 74 [.sl (a.map fU),.sl (b.map fU),.fn 75 [] []] (a=b):=by
 refine au Tryd.func74 KA rfl fun d _=>?_;refine bK (VP a b c) rfl fun _=>?_;exact bC rfl rfl
theorem Lw {x y:Api.Data}(a:x.name=y.name) (c:x.module=y.module) (b:x.params=y.params) (d:x.drop=y.drop) (e:x.variants=y.variants):x=y:=by
 rcases x with⟨⟩
 rcases y with⟨⟩
 simp_all
theorem VR (x y:Api.Data):fq 58 [.agg (kK x),.agg (kK y)] (x=y):=by
 refine au Tryd.func58 Kv rfl fun k _=>?_;refine aV (fun c=>?_) (fun c=>bC rfl (p7 C.bool (bJ fun e=>c (by rw[e]))));refine aV (fun f=>?_) (fun f=>bC rfl (p7 C.bool (bJ fun e=>f (by rw[e]))));refine aV (fun d=>?_) (fun d=>bC rfl (p7 C.bool (bJ fun e=>d (by rw[e]))));refine aV (fun j=>?_) (fun j=>bC rfl (p7 C.bool (bJ fun e=>j (by rw[e]))));refine bK (VQ x.variants y.variants fun a _ b=>VO a b) rfl fun _=>?_;exact bC rfl (p7 C.bool (iX ⟨fun h=>Lw (Al c) f d j h,fun e=>by rw[e]⟩))
theorem VS (a b:List (Api.Data)) (s:∀x∈a,∀y,fq 58 [.agg (kK x),.agg (kK y)] (x=y)):fq 73 [.sl (a.map kK),.sl (b.map kK),.fn 58 [] []] (a=b):=by
 refine au Tryd.func73 Kz rfl fun q _=>?_;have m:(a.map kK).length=a.length:=by simp
 have hb:(b.map kK).length=b.length:=by simp
 have u:a.length<=9223372036854775807:=by have:=mA q.1;rwa [m] at this
 refine aF (fun d=>?_) (fun d=>?_)
 ·have d:¬a.length=b.length:=fun e=>by
   rw[m,hb,e] at d;simp at d
  exact bC rfl (p7 C.bool (bJ (m6 d)))
 have d:a.length=b.length:=by
  rw[m,hb] at d;simp at d;omega
 refine bW a.length 17 [] () (fun _=>[]) (fun _=>[]) (fun k _=>∀j<k,a[j]?=b[j]?) (fun j r=>xo r (by omega)) (aq rfl) trivial trivial (fun _=>rfl) (fun _=>rfl) ?_;rintro k ⟨⟩ t f _ _ _;refine aV (fun c=>?_) (fun n=>?_)
 ·have c:k<a.length:=by rw[m] at c;omega
  obtain⟨x,o⟩:=fW c;obtain⟨y,p⟩:=fW (l:=b) (k:=k) (by omega);refine js o rfl rfl ?_;refine js p rfl rfl ?_;refine bK (s x (W9 o) y) rfl fun _=>?_;refine aF (fun h=>?_) (fun h=>?_)
  ·have h:¬x=y:=kX (by simpa using h);exact bC rfl (p7 C.bool (bJ (m7 o p h)))
  ·have h:x=y:=kN (by simpa using h);refine Fit.Wk (by omega) (by omega) ?_;exact⟨(k+1,()),⟨c,iJ f o p h⟩,⟨cF,trivial⟩,trivial,cG c⟩
 ·have n:¬k<a.length:=by rw[m] at n;omega
  have:k=a.length:=by omega
  subst this;exact bC rfl (p7 C.bool (jx (iI rfl d.symm f)))
theorem VT (a b:List (Api.Data)) (c:∀x∈a,∀y,fq 58 [.agg (kK x),.agg (kK y)] (x=y)):fq 57 [.sl (a.map kK),.sl (b.map kK),.fn 58 [] []] (a=b):=by
 refine au Tryd.func57 Ku rfl fun d _=>?_;refine bK (VS a b c) rfl fun _=>?_;exact bC rfl rfl
theorem NQ {x y:HF}(c:x.op=y.op) (f:x.dst=y.dst) (d:x.a=y.a) (h:x.b=y.b) (k:x.n=y.n) (j:x.args=y.args) (e:x.types=y.types):x=y:=by
 rcases x with⟨⟩
 rcases y with⟨⟩
 simp_all
theorem VU (x y:HF):fq 90 [.agg (tL x),.agg (tL y)] (x=y):=by
 refine au Tryd.func90 KR rfl fun k _=>?_;refine aV (fun a=>?_) (fun a=>bC rfl (p7 C.bool (bJ fun e=>a (by rw[e]))));refine aV (fun c=>?_) (fun c=>bC rfl (p7 C.bool (bJ fun e=>c (by rw[e]))));refine aV (fun b=>?_) (fun b=>bC rfl (p7 C.bool (bJ fun e=>b (by rw[e]))));refine aV (fun d=>?_) (fun d=>bC rfl (p7 C.bool (bJ fun e=>d (by rw[e]))));refine aV (fun j=>?_) (fun j=>bC rfl (p7 C.bool (bJ fun e=>j (by rw[e]))));refine bK (RQ x.args y.args) rfl fun _=>?_;refine aF (fun f=>?_) (fun f=>bC rfl (p7 C.bool (bJ fun e=>kX f (by rw[e]))));refine bK (NP x.types y.types) rfl fun _=>?_;exact bC rfl (p7 C.bool (iX ⟨fun h=>NQ a c b d j (kN f) h,fun e=>by rw[e]⟩))
theorem VW (a b:List (HF)) (s:∀x∈a,∀y,fq 90 [.agg (tL x),.agg (tL y)] (x=y)):fq 96 [.sl (a.map tL),.sl (b.map tL),.fn 90 [] []] (a=b):=by
 refine au Tryd.func96 KW rfl fun q _=>?_;have m:(a.map tL).length=a.length:=by simp
 have hb:(b.map tL).length=b.length:=by simp
 have u:a.length<=9223372036854775807:=by have:=mA q.1;rwa [m] at this
 refine aF (fun d=>?_) (fun d=>?_)
 ·have d:¬a.length=b.length:=fun e=>by
   rw[m,hb,e] at d;simp at d
  exact bC rfl (p7 C.bool (bJ (m6 d)))
 have d:a.length=b.length:=by
  rw[m,hb] at d;simp at d;omega
 refine bW a.length 17 [] () (fun _=>[]) (fun _=>[]) (fun k _=>∀j<k,a[j]?=b[j]?) (fun j r=>xo r (by omega)) (aq rfl) trivial trivial (fun _=>rfl) (fun _=>rfl) ?_;rintro k ⟨⟩ t f _ _ _;refine aV (fun c=>?_) (fun n=>?_)
 ·have c:k<a.length:=by rw[m] at c;omega
  obtain⟨x,o⟩:=fW c;obtain⟨y,p⟩:=fW (l:=b) (k:=k) (by omega);refine js o rfl rfl ?_;refine js p rfl rfl ?_;refine bK (s x (W9 o) y) rfl fun _=>?_;refine aF (fun h=>?_) (fun h=>?_)
  ·have h:¬x=y:=kX (by simpa using h);exact bC rfl (p7 C.bool (bJ (m7 o p h)))
  ·have h:x=y:=kN (by simpa using h);refine Fit.Wk (by omega) (by omega) ?_;exact⟨(k+1,()),⟨c,iJ f o p h⟩,⟨cF,trivial⟩,trivial,cG c⟩
 ·have n:¬k<a.length:=by rw[m] at n;omega
  have:k=a.length:=by omega
  subst this;exact bC rfl (p7 C.bool (jx (iI rfl d.symm f)))
theorem VX (a b:List (HF)) (c:∀x∈a,∀y,fq 90 [.agg (tL x),.agg (tL y)] (x=y)):fq 89 [.sl (a.map tL),.sl (b.map tL),.fn 90 [] []] (a=b):=by
 refine au Tryd.func89 KQ rfl fun d _=>?_;refine bK (VW a b c) rfl fun _=>?_;exact bC rfl rfl
theorem Ig {x y:Block}(b:x.code=y.code) (e:x.fin.kind=y.fin.kind) (d:x.fin.a=y.fin.a) (f:x.fin.targets=y.fin.targets):x=y:=by
 rcases x with⟨c,⟨⟩⟩
 rcases y with⟨c,⟨⟩⟩
 simp_all
theorem VY (x y:Block):fq 81 [.agg (ju x),.agg (ju y)] (x=y):=by
 refine au Tryd.func81 KI rfl fun j _=>?_;refine bK (VX x.code y.code fun a _ b=>VU a b) rfl fun _=>?_;refine aF (fun c=>?_) (fun c=>bC rfl (p7 C.bool (bJ fun e=>kX c (by rw[e]))));refine aV (fun f=>?_) (fun f=>bC rfl (p7 C.bool (bJ fun e=>f (by rw[e]))));refine aV (fun d=>?_) (fun d=>bC rfl (p7 C.bool (bJ fun e=>d (by rw[e]))));refine bK (RQ x.fin.targets y.fin.targets) rfl fun _=>?_;exact bC rfl (p7 C.bool (iX ⟨fun h=>Ig (kN c) f d h,fun e=>by rw[e]⟩))
theorem VZ (a b:List (Block)) (s:∀x∈a,∀y,fq 81 [.agg (ju x),.agg (ju y)] (x=y)):fq 88 [.sl (a.map ju),.sl (b.map ju),.fn 81 [] []] (a=b):=by
 refine au Tryd.func88 KP rfl fun q _=>?_;have m:(a.map ju).length=a.length:=by simp
 have hb:(b.map ju).length=b.length:=by simp
 have u:a.length<=9223372036854775807:=by have:=mA q.1;rwa [m] at this
 refine aF (fun d=>?_) (fun d=>?_)
 ·have d:¬a.length=b.length:=fun e=>by
   rw[m,hb,e] at d;simp at d
  exact bC rfl (p7 C.bool (bJ (m6 d)))
 have d:a.length=b.length:=by
  rw[m,hb] at d;simp at d;omega
 refine bW a.length 17 [] () (fun _=>[]) (fun _=>[]) (fun k _=>∀j<k,a[j]?=b[j]?) (fun j r=>xo r (by omega)) (aq rfl) trivial trivial (fun _=>rfl) (fun _=>rfl) ?_;rintro k ⟨⟩ t f _ _ _;refine aV (fun c=>?_) (fun n=>?_)
 ·have c:k<a.length:=by rw[m] at c;omega
  obtain⟨x,o⟩:=fW c;obtain⟨y,p⟩:=fW (l:=b) (k:=k) (by omega);refine js o rfl rfl ?_;refine js p rfl rfl ?_;refine bK (s x (W9 o) y) rfl fun _=>?_;refine aF (fun h=>?_) (fun h=>?_)
  ·have h:¬x=y:=kX (by simpa using h);exact bC rfl (p7 C.bool (bJ (m7 o p h)))
  ·have h:x=y:=kN (by simpa using h);refine Fit.Wk (by omega) (by omega) ?_;exact⟨(k+1,()),⟨c,iJ f o p h⟩,⟨cF,trivial⟩,trivial,cG c⟩
 ·have n:¬k<a.length:=by rw[m] at n;omega
  have:k=a.length:=by omega
  subst this;exact bC rfl (p7 C.bool (jx (iI rfl d.symm f)))
theorem V0 (a b:List (Block)) (c:∀x∈a,∀y,fq 81 [.agg (ju x),.agg (ju y)] (x=y)):fq 80 [.sl (a.map ju),.sl (b.map ju),.fn 81 [] []] (a=b):=by
 refine au Tryd.func80 KH rfl fun d _=>?_;refine bK (VZ a b c) rfl fun _=>?_;exact bC rfl rfl
theorem Lx {x y:Slot}(a:x.state=y.state) (c:x.type=y.type) (b:x.var=y.var) (d:x.flag=y.flag) (e:x.lent=y.lent):x=y:=by
 rcases x with⟨⟩
 rcases y with⟨⟩
 simp_all
theorem V1 (x y:Slot):fq 93 [.agg (jw x),.agg (jw y)] (x=y):=by
 refine au Tryd.func93 KU rfl fun f _=>?_;refine aV (fun a=>?_) (fun a=>bC rfl (p7 C.bool (bJ fun e=>a (by rw[e]))));refine bK (RS x.type y.type) rfl fun _=>?_;refine aF (fun c=>?_) (fun c=>bC rfl (p7 C.bool (bJ fun e=>kX c (by rw[e]))));refine aV (fun b=>?_) (fun b=>bC rfl (p7 C.bool (bJ fun e=>b (by rw[e]))));refine aV (fun d=>?_) (fun d=>bC rfl (p7 C.bool (bJ fun e=>d (by rw[e]))));refine bK (VL x.lent y.lent) rfl fun _=>?_;exact bC rfl (p7 C.bool (iX ⟨fun h=>Lx a (kN c) b d h,fun e=>by rw[e]⟩))
theorem V2 (a b:List (Slot)) (s:∀x∈a,∀y,fq 93 [.agg (jw x),.agg (jw y)] (x=y)):fq 97 [.sl (a.map jw),.sl (b.map jw),.fn 93 [] []] (a=b):=by
 refine au Tryd.func97 KX rfl fun q _=>?_;have m:(a.map jw).length=a.length:=by simp
 have hb:(b.map jw).length=b.length:=by simp
 have u:a.length<=9223372036854775807:=by have:=mA q.1;rwa [m] at this
 refine aF (fun d=>?_) (fun d=>?_)
 ·have d:¬a.length=b.length:=fun e=>by
   rw[m,hb,e] at d;simp at d
  exact bC rfl (p7 C.bool (bJ (m6 d)))
 have d:a.length=b.length:=by
  rw[m,hb] at d;simp at d;omega
 refine bW a.length 17 [] () (fun _=>[]) (fun _=>[]) (fun k _=>∀j<k,a[j]?=b[j]?) (fun j r=>xo r (by omega)) (aq rfl) trivial trivial (fun _=>rfl) (fun _=>rfl) ?_;rintro k ⟨⟩ t f _ _ _;refine aV (fun c=>?_) (fun n=>?_)
 ·have c:k<a.length:=by rw[m] at c;omega
  obtain⟨x,o⟩:=fW c;obtain⟨y,p⟩:=fW (l:=b) (k:=k) (by omega);refine js o rfl rfl ?_;refine js p rfl rfl ?_;refine bK (s x (W9 o) y) rfl fun _=>?_;refine aF (fun h=>?_) (fun h=>?_)
  ·have h:¬x=y:=kX (by simpa using h);exact bC rfl (p7 C.bool (bJ (m7 o p h)))
  ·have h:x=y:=kN (by simpa using h);refine Fit.Wk (by omega) (by omega) ?_;exact⟨(k+1,()),⟨c,iJ f o p h⟩,⟨cF,trivial⟩,trivial,cG c⟩
 ·have n:¬k<a.length:=by rw[m] at n;omega
  have:k=a.length:=by omega
  subst this;exact bC rfl (p7 C.bool (jx (iI rfl d.symm f)))
theorem V3 (a b:List (Slot)) (c:∀x∈a,∀y,fq 93 [.agg (jw x),.agg (jw y)] (x=y)):fq 92 [.sl (a.map jw),.sl (b.map jw),.fn 93 [] []] (a=b):=by
 refine au Tryd.func92 KT rfl fun d _=>?_;refine bK (V2 a b c) rfl fun _=>?_;exact bC rfl rfl
theorem V4 (a b:List Slot):fq 83 [.sl (a.map jw),.sl (b.map jw)] (a=b):=by
 refine au Tryd.func83 KL rfl fun c _=>?_;refine bK (V3 a b fun x _ y=>V1 x y) rfl fun _=>?_;exact bC rfl rfl
theorem V5 (a b:List (List Slot)) (s:∀x∈a,∀y,fq 83 [.sl (x.map jw),.sl (y.map jw)] (x=y)):fq 91 [.sl (a.map rJ),.sl (b.map rJ),.fn 83 [] []] (a=b):=by
 refine au Tryd.func91 KS rfl fun q _=>?_;have m:(a.map rJ).length=a.length:=by simp
 have hb:(b.map rJ).length=b.length:=by simp
 have u:a.length<=9223372036854775807:=by have:=mA q.1;rwa [m] at this
 refine aF (fun d=>?_) (fun d=>?_)
 ·have d:¬a.length=b.length:=fun e=>by
   rw[m,hb,e] at d;simp at d
  exact bC rfl (p7 C.bool (bJ (m6 d)))
 have d:a.length=b.length:=by
  rw[m,hb] at d;simp at d;omega
 refine bW a.length 17 [] () (fun _=>[]) (fun _=>[]) (fun k _=>∀j<k,a[j]?=b[j]?) (fun j r=>xo r (by omega)) (aq rfl) trivial trivial (fun _=>rfl) (fun _=>rfl) ?_;rintro k ⟨⟩ t f _ _ _;refine aV (fun c=>?_) (fun n=>?_)
 ·have c:k<a.length:=by rw[m] at c;omega
  obtain⟨x,o⟩:=fW c;obtain⟨y,p⟩:=fW (l:=b) (k:=k) (by omega);refine js o rfl rfl ?_;refine js p rfl rfl ?_;refine bK (s x (W9 o) y) rfl fun _=>?_;refine aF (fun h=>?_) (fun h=>?_)
  ·have h:¬x=y:=kX (by simpa using h);exact bC rfl (p7 C.bool (bJ (m7 o p h)))
  ·have h:x=y:=kN (by simpa using h);refine Fit.Wk (by omega) (by omega) ?_;exact⟨(k+1,()),⟨c,iJ f o p h⟩,⟨cF,trivial⟩,trivial,cG c⟩
 ·have n:¬k<a.length:=by rw[m] at n;omega
  have:k=a.length:=by omega
  subst this;exact bC rfl (p7 C.bool (jx (iI rfl d.symm f)))
theorem V6 (a b:List (List Slot)) (c:∀x∈a,∀y,fq 83 [.sl (x.map jw),.sl (y.map jw)] (x=y)):fq 82 [.sl (a.map rJ),.sl (b.map rJ),.fn 83 [] []] (a=b):=by
 refine au Tryd.func82 KJ rfl fun d _=>?_;refine bK (V5 a b c) rfl fun _=>?_;exact bC rfl rfl
theorem Ly {x y:FB}(a:x.name=y.name) (d:x.params=y.params) (b:x.result=y.result) (e:x.ties=y.ties) (h:x.slots=y.slots) (f:x.blocks=y.blocks) (c:x.entry=y.entry):x=y:=by
 rcases x with⟨⟩
 rcases y with⟨⟩
 simp_all
theorem RT (x y:FB):fq 60 [.agg (kV x),.agg (kV y)] (x=y):=by
 refine au Tryd.func60 Kx rfl fun m _=>?_;refine aV (fun c=>?_) (fun c=>bC rfl (p7 C.bool (bJ fun e=>c (by rw[e]))));refine bK (NP x.params y.params) rfl fun _=>?_;refine aF (fun f=>?_) (fun f=>bC rfl (p7 C.bool (bJ fun e=>kX f (by rw[e]))));refine bK (RS x.result y.result) rfl fun _=>?_;refine aF (fun d=>?_) (fun d=>bC rfl (p7 C.bool (bJ fun e=>kX d (by rw[e]))));refine bK (RQ x.ties y.ties) rfl fun _=>?_;refine aF (fun j=>?_) (fun j=>bC rfl (p7 C.bool (bJ fun e=>kX j (by rw[e]))));refine aV (fun l=>?_) (fun l=>bC rfl (p7 C.bool (bJ fun e=>l (by rw[e]))));refine bK (V0 x.blocks y.blocks fun a _ b=>VY a b) rfl fun _=>?_;refine aF (fun k=>?_) (fun k=>bC rfl (p7 C.bool (bJ fun e=>kX k (by rw[e]))));refine bK (V6 x.entry y.entry fun a _ b=>V4 a b) rfl fun _=>?_;exact bC rfl (p7 C.bool (iX ⟨fun h=>Ly (Al c) (kN f) (kN d) (kN j) l (kN k) h,fun e=>by rw[e]⟩))
theorem V7 (a b:List (FB)) (s:∀x∈a,∀y,fq 60 [.agg (kV x),.agg (kV y)] (x=y)):fq 78 [.sl (a.map kV),.sl (b.map kV),.fn 60 [] []] (a=b):=by
 refine au Tryd.func78 KF rfl fun q _=>?_;have m:(a.map kV).length=a.length:=by simp
 have hb:(b.map kV).length=b.length:=by simp
 have u:a.length<=9223372036854775807:=by have:=mA q.1;rwa [m] at this
 refine aF (fun d=>?_) (fun d=>?_)
 ·have d:¬a.length=b.length:=fun e=>by
   rw[m,hb,e] at d;simp at d
  exact bC rfl (p7 C.bool (bJ (m6 d)))
 have d:a.length=b.length:=by
  rw[m,hb] at d;simp at d;omega
 refine bW a.length 17 [] () (fun _=>[]) (fun _=>[]) (fun k _=>∀j<k,a[j]?=b[j]?) (fun j r=>xo r (by omega)) (aq rfl) trivial trivial (fun _=>rfl) (fun _=>rfl) ?_;rintro k ⟨⟩ t f _ _ _;refine aV (fun c=>?_) (fun n=>?_)
 ·have c:k<a.length:=by rw[m] at c;omega
  obtain⟨x,o⟩:=fW c;obtain⟨y,p⟩:=fW (l:=b) (k:=k) (by omega);refine js o rfl rfl ?_;refine js p rfl rfl ?_;refine bK (s x (W9 o) y) rfl fun _=>?_;refine aF (fun h=>?_) (fun h=>?_)
  ·have h:¬x=y:=kX (by simpa using h);exact bC rfl (p7 C.bool (bJ (m7 o p h)))
  ·have h:x=y:=kN (by simpa using h);refine Fit.Wk (by omega) (by omega) ?_;exact⟨(k+1,()),⟨c,iJ f o p h⟩,⟨cF,trivial⟩,trivial,cG c⟩
 ·have n:¬k<a.length:=by rw[m] at n;omega
  have:k=a.length:=by omega
  subst this;exact bC rfl (p7 C.bool (jx (iI rfl d.symm f)))
theorem RU (a b:List (FB)) (c:∀x∈a,∀y,fq 60 [.agg (kV x),.agg (kV y)] (x=y)):fq 59 [.sl (a.map kV),.sl (b.map kV),.fn 60 [] []] (a=b):=by
 refine au Tryd.func59 Kw rfl fun d _=>?_;refine bK (V7 a b c) rfl fun _=>?_;exact bC rfl rfl
theorem NR {x y:Mg}(a:x.main=y.main) (c:x.datas=y.datas) (b:x.routs=y.routs):x=y:=by
 rcases x with⟨⟩
 rcases y with⟨⟩
 simp_all
theorem V8 (x y:Mg):fq 39 [.agg (Pw x),.agg (Pw y)] (x=y):=by
 refine au Tryd.func39 Ko rfl fun f _=>?_;refine aV (fun c=>?_) (fun c=>bC rfl (p7 C.bool (bJ fun e=>c (by rw[e]))));refine bK (VT x.datas y.datas fun a _ b=>VR a b) rfl fun _=>?_;refine aF (fun d=>?_) (fun d=>bC rfl (p7 C.bool (bJ fun e=>kX d (by rw[e]))));refine bK (RU x.routs y.routs fun a _ b=>RT a b) rfl fun _=>?_;exact bC rfl (p7 C.bool (iX ⟨fun h=>NR c (kN d) h,fun e=>by rw[e]⟩))
theorem dK {a b:Enc}(h:a.2=true) (k:b.2=true):(bn a b).2=true:=by simp[bn,h,k]
theorem fH {a:Type}{f:a->Enc}(h:∀x,(f x).2=true):∀l:List a,(aX f l).2=true
 | []=>rfl
 | x::l=>dK (h x) (fH h l)
theorem fZ {a:Type}{f:a->Enc}(h:∀x,(f x).2=true) (l:List a):(bR kL f l).2=true:=dK rfl (fH h l)
theorem iM (n:Int):(kL.num n).2=true:=rfl
theorem ve (b:Bool):(qb kL b).2=true:=rfl
mutual
theorem Ih:∀(v:Vl) (d:Int),(Aq kL v d).2=true
 | .mk a b c n f e p l,d=>by
  rw[Aq];exact dK (by simp[z7,kL]) (dK (fH iM _) (dK (dK rfl (Eo f _)) (dK (fH ve _) (dK (fZ iM _) (fZ iM _)))))
theorem Eo:∀(l:List Vl) (d:Int),(CV kL l d).2=true
 | [],_=>rfl
 | x::xs,d=>by rw[CV];exact dK (Ih x d) (Eo xs d)
end
theorem NS (x:Wd):(uo kL x).2=true:=by
 have d:∀v,(yU kL v).2=true:=fun v=>Ih v 60;exact dK (fZ (fun c=>dK (fH ve _) (dK (fH iM _) (d _))) _)
  (dK (fZ (fun b=>fH ve _) _)
  (dK (fZ (fun t=>dK (fH iM _) (dK (fZ (fun a=>dK (fH iM _) (dK (fZ d _) (fZ iM _))) _)
   (dK (fZ (fun l=>dK (fH iM _) (fH ve _)) _) (dK (fH iM _) (fZ iM _))))) _)
  (dK (fZ (fun l=>fZ d l) _)
  (dK (fZ (fun o=>fH iM _) _) (fH iM _)))))
def sJ (x:Wd):List UInt8:=(uo kL x).1
theorem RX (a b:List (List C)) (d:Int) (x:Wd) (f:FM x) (hb:(sJ x).length<=70368744177664) :
  CallsT PZ 33 [.ifo none 94 1000 0,.pt (uF a b d x) 0] (WB 95 []) (iK (WB 95 (sJ x)) (.tup [])) :=
 ((Po Rv a b d x f [] (by simp only[XE,Nat.zero_add];exact hb)).imp (Pp':=fun _=>False) (R':=iK (WB 95 (sJ x)) (.tup []))
  (fun Mo c ⟨_,j,e⟩=>⟨by rw[j];rfl,e⟩) (fun v ⟨_,h⟩=>by rw[NS] at h;cases h)).noPan
theorem t38 (b d:List (List C)) (c:Int) (x:Wd) (e:FM x) (hb:(sJ x).length<=70368744177664) :
  CallsT PZ 38 [.agg (uF b d c x)] [] (iK [] (.sl (af (sJ x)))):=by
 have a:=RX b d c x e hb;refine au Tryd.func38 Kn rfl fun h f=>?_;refine Oy [(5,.box 95 [.rw 50,IC 0,.int .i8 0]),(50,.row 5 1 [])] [5,50] [5,50] a
  ⟨.inl ⟨_,rfl,.inr ⟨95,_,_,rfl,rfl,⟨_,_,rfl,tM rfl rfl,⟨_,_,rfl,aq rfl,⟨_,_,rfl,aq rfl,rfl⟩⟩⟩⟩⟩,.inr ⟨rfl,5,1,rfl⟩,trivial⟩ rfl rfl rfl rfl rfl fun _ _=>?_
 refine uh [50] [5] [5] (Ny 95 (sJ x)) ⟨_,rfl,rfl,rfl,rfl,rfl,fun _ _=>?_⟩;exact bC rfl rfl
noncomputable def C5 (i j:Mg) (x y:Wd):Bool:=Ie (i=j)&&decide (sJ x=sJ y)
def Ss (i:Mg) (x:Wd):List C:=uF (i.datas.map kK) (i.routs.map kV) i.main x
theorem t16 (i j:Mg) (x y:Wd) (d:FM x) (f:FM y) (a:(sJ x).length<=70368744177664) (b:(sJ y).length<=70368744177664) :
  CallsT PZ 16 [.agg (Ss i x),.agg (Ss j y)] [] (iK [] (.bool (C5 i j x y))):=by
 have e:=t38 (i.datas.map kK) (i.routs.map kV) i.main x d a;have c:=t38 (j.datas.map kK) (j.routs.map kV) j.main y f b;refine au Tryd.func16 J3 rfl fun l k=>?_;refine gW (V8 i j) rfl fun _=>?_;refine aF (fun h=>?_) (fun h=>?_)
 ·refine gW e rfl fun _=>?_;refine gW c rfl fun _=>?_;refine gW (t22 (sJ x) (sJ y)) rfl fun _=>?_;exact bC rfl (by rw[C5,h];rfl)
 ·exact bC rfl (by rw[C5,h];rfl)
end Go.Fr.Tryd
namespace Go.Fr.Tryd
open Go Go.RowKit Go.Proofs Go.Fr Go.Fr.T Go.Fr.Api Go.Fr.Dm
theorem lD (a:List UInt8) (b:UInt8):af a++af [b]=af (a++[b]):=by simp[af]
theorem RY (n:Int) (h:-2305843009213693952<=n) (l:n<=2305843009213693952):CallsT PZ 14 [IC n] [] (iK [.row 5 1 (af (bQ (zz n)))] (.rw 1000)):=by
 have k:zz n<=4611686018427387904:=by unfold zz;split<;>omega
 have p:=mE n h l;refine au Tryd.func14 J1 rfl fun o _=>?_;refine Fit.Wk (by omega) (by omega) ?_;refine aV (fun e=>?_) (fun f=>?_)
 ·refine Fit.Wk (by omega) (by omega) ?_;refine Fit.Wk (by omega) (by omega) ?_;refine vT.mk ⟨Nat×List UInt8,(zz n,[]),fun y=>y.1<=4611686018427387904/\y.2++bQ y.1=bQ (zz n),[3,4],fun y=>[.int .i64 y.1,.rw 20],fun y=>[(20,.row 5 1 (af y.2))],fun y=>y.1,⟨k,rfl⟩,⟨.inr (.inl ⟨?_,rfl⟩),tM rfl rfl,trivial⟩,
    ⟨.inr ⟨rfl,5,1,rfl⟩,trivial⟩,fun _=>rfl,fun _=>rfl,?_⟩
  ·exact p7 (C.int .i64) (by unfold zz;rw[j3 e];omega)
  rintro⟨m,done⟩ ⟨d,a⟩ _ _;simp only at a d;have j:done.length+(bQ m).length<=10:=by
   have:=p7 List.length a;simp only[W8] at this;omega
  have h:=nM m;refine aV (fun c=>?_) (fun c=>?_)
  ·have c:128<=m:=by have:(128:Int)<=(m:Int):=c;omega
   have b:bQ m=UInt8.ofNat (128+m % 128)::bQ (m / 128):=by rw[bQ,dif_neg (by omega)]
   refine mT.mk (by omega) ?_;refine Fit.to (m:=128+(m:Int).tmod 128) (bM (by rw[show(m:Int).tmod 128=((m % 128:Nat):Int) from rfl];omega) (by rw[show(m:Int).tmod 128=((m % 128:Nat):Int) from rfl];omega)) ?_;refine Fit.to (Aa m) ?_;refine qA (bs:=[UInt8.ofNat (128+m % 128)]) done.length aK (by simp;omega) ?_;refine mT.mk (by omega) ?_;refine Fit.to (m:=((m / 128:Nat):Int)) (by show IntKind.wrap .i64 ((m / 128:Nat):Int)=_;exact bM (by omega) (by omega)) ?_;refine⟨(m / 128,done++[UInt8.ofNat (128+m % 128)]),⟨?_,?_⟩,⟨.inr (.inl ⟨rfl,rfl⟩),aq rfl,trivial⟩,⟨.inl ⟨_,rfl,.inl ⟨p7 (TO.row 5 1) (lD done _),rfl⟩⟩,trivial⟩,?_⟩
   ·show m / 128<=_;omega
   ·show done++[UInt8.ofNat (128+m % 128)]++bQ (m / 128)=bQ (zz n);rw[<-a,b];simp
   ·show m / 128<m;omega
  ·have c:m<128:=by have:¬(128:Int)<=(m:Int):=c;omega
   have b:bQ m=[UInt8.ofNat m]:=by rw[bQ,dif_pos c]
   refine Fit.to (Ab m) ?_;refine qA (bs:=[UInt8.ofNat m]) done.length aK (by simp;omega) ?_;exact xJ [20] rfl rfl (p7 (fun q=>[TO.row 5 1 q]) ((lD done _).trans (p7 af (by rw[<-a,b]:done++[UInt8.ofNat m]=bQ (zz n))))) rfl
 ·refine vT.mk ⟨Nat×List UInt8,(zz n,[]),fun y=>y.1<=4611686018427387904/\y.2++bQ y.1=bQ (zz n),[3,4],fun y=>[.int .i64 y.1,.rw 20],fun y=>[(20,.row 5 1 (af y.2))],fun y=>y.1,⟨k,rfl⟩,⟨.inr (.inl ⟨?_,rfl⟩),tM rfl rfl,trivial⟩,
    ⟨.inr ⟨rfl,5,1,rfl⟩,trivial⟩,fun _=>rfl,fun _=>rfl,?_⟩
  ·exact p7 (C.int .i64) (by unfold zz;rw[vv f];omega)
  rintro⟨m,done⟩ ⟨d,a⟩ _ _;simp only at a d;have j:done.length+(bQ m).length<=10:=by
   have:=p7 List.length a;simp only[W8] at this;omega
  have h:=nM m;refine aV (fun c=>?_) (fun c=>?_)
  ·have c:128<=m:=by have:(128:Int)<=(m:Int):=c;omega
   have b:bQ m=UInt8.ofNat (128+m % 128)::bQ (m / 128):=by rw[bQ,dif_neg (by omega)]
   refine mT.mk (by omega) ?_;refine Fit.to (m:=128+(m:Int).tmod 128) (bM (by rw[show(m:Int).tmod 128=((m % 128:Nat):Int) from rfl];omega) (by rw[show(m:Int).tmod 128=((m % 128:Nat):Int) from rfl];omega)) ?_;refine Fit.to (Aa m) ?_;refine qA (bs:=[UInt8.ofNat (128+m % 128)]) done.length aK (by simp;omega) ?_;refine mT.mk (by omega) ?_;refine Fit.to (m:=((m / 128:Nat):Int)) (by show IntKind.wrap .i64 ((m / 128:Nat):Int)=_;exact bM (by omega) (by omega)) ?_;refine⟨(m / 128,done++[UInt8.ofNat (128+m % 128)]),⟨?_,?_⟩,⟨.inr (.inl ⟨rfl,rfl⟩),aq rfl,trivial⟩,⟨.inl ⟨_,rfl,.inl ⟨p7 (TO.row 5 1) (lD done _),rfl⟩⟩,trivial⟩,?_⟩
   ·show m / 128<=_;omega
   ·show done++[UInt8.ofNat (128+m % 128)]++bQ (m / 128)=bQ (zz n);rw[<-a,b];simp
   ·show m / 128<m;omega
  ·have c:m<128:=by have:¬(128:Int)<=(m:Int):=c;omega
   have b:bQ m=[UInt8.ofNat m]:=by rw[bQ,dif_pos c]
   refine Fit.to (Ab m) ?_;refine qA (bs:=[UInt8.ofNat m]) done.length aK (by simp;omega) ?_;exact xJ [20] rfl rfl (p7 (fun q=>[TO.row 5 1 q]) ((lD done _).trans (p7 af (by rw[<-a,b]:done++[UInt8.ofNat m]=bQ (zz n))))) rfl
theorem PA (n:Nat):List.replicate (n:Int).toNat [C.int .u8 0]=af (List.replicate n 0):=by simp[af,iF]
theorem V9 (n:Nat) (b:UInt8) (o:n<=1048576):CallsT PZ 13 [IC n,iF b] [] (iK [.row 5 1 (af (List.replicate n b))] (.rw 1000)):=by
 refine au Tryd.func13 J0 rfl fun p _=>?_;refine sP.mk (by omega) (Xw _) (by omega) (by unfold maxLen;omega) ?_;refine bW n 6 [5] (List.replicate n 0) (fun _=>[.rw 8]) (fun s=>[(8,.row 5 1 (af s))]) (fun k s=>s=List.replicate k b++List.replicate (n-k) 0) rfl (aq rfl) ⟨aq rfl,trivial⟩
  ⟨.inl ⟨_,rfl,.inl ⟨p7 (TO.row 5 1) (PA n),rfl⟩⟩,trivial⟩ (fun _=>rfl) (fun _=>rfl) ?_
 rintro k s m h _ _ j;refine aV (fun a=>?_) (fun d=>?_)
 ·have a:k<n:=by omega
  have e:s[k]?=some 0:=by rw[h,Xi (by simp),List.getElem?_replicate];simp;omega
  have c:s.set k b=List.replicate (k+1) b++List.replicate (n-(k+1)) 0:=by
   rw[h,show n-k=(n-(k+1))+1 by omega,List.replicate_succ' (n:=k),List.set_append_right _ _ (by simp)];simp[XS]
  have f:(af s).length=n:=by rw[aK,h];simp;omega
  refine Mj.mk (by omega) (by rw[f];omega) ?_;have l:(af s)[k]?=some [iF 0]:=by simp[af,e]
  refine⟨rfl,?_⟩;refine Ia (es0:=[iF 0]) (by show(af s)[k]?=_;simp[af,e]) rfl ?_;refine Fit.Wk (by omega) (by omega) ?_;exact⟨(k+1,s.set k b),⟨a,c⟩,⟨cF,aq rfl,trivial⟩,⟨.inl ⟨_,rfl,.inl ⟨p7 (TO.row 5 1) (by show(af s).set k [iF b]=af (s.set k b);simp[af,List.map_set]),rfl⟩⟩,trivial⟩,cG a⟩
 ·have d:k=n:=by omega
  exact xJ [8] rfl rfl (p7 (fun q=>[TO.row 5 1 (af q)]) (by rw[h,d];simp)) rfl
def qB:Dec (Int×Int):=fK getD fun x=>fK getD fun y=>wR (x,y)
def PB (bs:List UInt8) (x y:Int):List TO:=[.box 52 [.own 1001 0],RB bs,.box 3 [IC x],.box 3 [IC y]]
theorem Wc (bs:List UInt8):CallsTX PZ 18 [.own 1000 0,.own 1002 0,.own 1003 0] (PB bs 0 0) (fun Mo c=>∃x y r,qB bs=some ((x,y),r)/\Mo=PB r x y/\c=.tup []) (fun v=>v=eS/\qB bs=none):=by
 refine ai Tryd.func18 J4 rfl fun k f=>?_;refine bY [1001] (Mb bs) rfl rfl rfl rfl (fun v h=>⟨h.1,aR h.2⟩) ?_;rintro v Mo ⟨x,r,b,rfl,rfl⟩ _ _;refine⟨rfl,?_⟩;have a:qB bs=_:=aj b;refine bY [1001] (Mb r) rfl rfl rfl rfl (fun v h=>⟨h.1,a.trans (aR h.2)⟩) ?_;rintro v Mo ⟨y,d,e,rfl,rfl⟩ _ _;refine⟨rfl,?_⟩;have j:=a.trans (aj e);exact cR [1000,1001,1002,1003] rfl rfl rfl rfl ⟨x,y,d,j,rfl,rfl⟩
def qe (out:List UInt8) (off:Nat) (b:List UInt8):List UInt8:=out.take off++b++out.drop (off+b.length)
theorem nO {out b:List UInt8}{off:Nat}(h:off+b.length<=out.length):(qe out off b).length=out.length:=by
 simp only[qe,W8,Xo,XR];omega
theorem y5 (out:List UInt8) (off:Nat) (b:List UInt8):aM (dA out) off (dA b)=dA (qe out off b):=by
 simp[aM,qe,dA]
theorem RZ (F:aA) (a:Option Addr) (n c i:Nat) (q:n<=c) (s:c<=9223372036854775807) (hi:i<=1125899906842624) :
  CallsA PZ 25 #[.slice a n c,.int .i64 i] F [] (fun _ Lo v=>Lo=[]/\v=fu a c (min (32*i) n) (min (32*i+32) n) 1):=by
 have b:(if(n:Int)<32*(i:Int) then(n:Int) else 32*(i:Int))=((min (32*i) n:Nat):Int):=by split<;>omega
 have d:(if(n:Int)<32*(i:Int)+32 then(n:Int) else 32*(i:Int)+32)=((min (32*i+32) n:Nat):Int):=by split<;>omega
 have m:0<=(if(n:Int)<32*(i:Int) then(n:Int) else 32*(i:Int)):=by rw[b];omega
 have f:(if(n:Int)<32*(i:Int) then(n:Int) else 32*(i:Int))<=(if(n:Int)<32*(i:Int)+32 then(n:Int) else 32*(i:Int)+32):=by rw[b,d];omega
 have l:(if(n:Int)<32*(i:Int)+32 then(n:Int) else 32*(i:Int)+32)<=(c:Int):=by rw[d];omega
 have o:fu a c (if(n:Int)<32*(i:Int) then(n:Int) else 32*(i:Int)).toNat (if(n:Int)<32*(i:Int)+32 then(n:Int) else 32*(i:Int)+32).toNat 1=fu a c (min (32*i) n) (min (32*i+32) n) 1:=by rw[b,d];rfl
 refine fL (svs:=[.v (.slice a n c),.v (.int .i64 i)]) Tryd.func25 DF rfl rfl (fun v p=>?_) (fun _ _ _ _ _ h=>h) ?_
 ·refine⟨fun k off e=>?_,fun r j e=>?_⟩<;>subst e<;>simp at p
 refine Fit.Wk (by omega) (by omega) ?_;refine Fit.Wk (by omega) (by omega) ?_;refine Fit.Wk (by omega) (by omega) ?_;refine mJ.mk m f l ?_;exact⟨[],[],rfl,by decide,rfl,o⟩
section
variable {G:Nat->Option (Nat×TypeId)}{F:aA}{L:Loc}{ρ:Env}{M:TL}{τ:aT}
theorem row_of (f:TS G F L ρ M τ) {k:Nat}{out:List UInt8}(h:M.get k=some (.row 5 1 (af out))) :
  ∃a c,L.get k=some (.row (.slice a out.length c) 5 1 out.length (dA out))/\(a=none->out.length=0)/\out.length<=maxLen:=by
 have b:=f.tl k;rw[h] at b;cases e:L.get k with
 | none=>rw[e] at b;exact b.elim
 | some o =>
  rw[e] at b;cases o with
  | box=>exact b.elim
  | row v t sz n xs =>
   obtain⟨rfl,rfl,d,⟨l,a,c,rfl,j⟩,m⟩:=b;rw[aK] at d;subst d;rw[lC m];exact⟨a,c,rfl,j,l⟩
theorem BS (j:TS G F L ρ M τ) {k n c:Nat}{a:Option Addr}{out out':List UInt8}(f:L.get k=some (.row (.slice a n c) 5 1 n (dA out))) (h:out'.length=n) (d:n<=maxLen) (b:a=none->n=0) :
  TS G F (L.set k (.row (.slice a n c) 5 1 n (dA out'))) ρ (M.set k (.row 5 1 (af out'))) τ:=by
 refine j.turn (o':=.row (.slice a n c) 5 1 n (dA out')) f ⟨rfl,rfl,rfl⟩ (fun g t cs e=>by cases e) fun L' _=>?_;refine⟨rfl,rfl,by rw[aK,h],⟨d,a,c,rfl,b⟩,oN _⟩
theorem TS.WU (a:TS G F L ρ M τ) {M':TL}(h:∀k,M'.get k=M.get k):TS G F L ρ M' τ:=⟨fun k=>by rw[h k];exact a.tl k,a.env,a.kp,a.glob⟩
theorem LC {P:Program}{K:TL->aT->Prop}{d:Option Nat}{r x k:Nat}{out a:List UInt8}(hk:M.get k=some (.row 5 1 (af out))) (h1:τ r=.rw k) (w:τ x=.sl (af a))
  (hK:K (M.set k (.row 5 1 (af (qe out 0 (a.take out.length))))) (bw d (IC ((min a.length out.length:Nat):Int)) τ)):Ow P (.copy 5 1 (.t r) (.t x)) d M τ K:=by
 refine⟨fun G F L ρ n=>?_⟩;obtain⟨b,c,u,ha,y⟩:=row_of n hk;obtain⟨a1,c1,t1,ag,n1,ao,e1,f⟩:=rq (x:=.t r) n.env h1;rw[u] at f;injection f with f
 injection f with f _ _ _ _
 injection f with e3 e4 e5
 subst e3 e4 e5;have p:=cZ n.env (.t x);have w:bV τ (.t x)=.sl (af a):=w;rw[w] at p;obtain⟨v,z,p⟩:=p;obtain⟨q,s,rfl,_,an,hf⟩:=wT p;have z:ev ρ (.t x)=.v (.slice q a.length s):=z;simp only[evalOp,e1,z];have hl:(a.take out.length).length=min out.length a.length:=Xo;have o:∀{L:Loc}(m:Nat),m<=maxLen->aN F L (IC (m:Int)) (.v (.int .i64 m)):=fun m y=>⟨_,rfl,by
  rw[Rel];refine⟨rfl,?_⟩;rw[zC];simp only[IntKind.min,IntKind.max,IntKind.signed,IntKind.bits,Xq];unfold maxLen at y;omega⟩
 cases b with
 | none =>
  have h0:out.length=0:=ha rfl;have l:out=[]:=Xu h0;subst l;refine⟨.inr ⟨none,0,c,q,a.length,s,rfl,rfl,by simp,?_⟩⟩;refine⟨M.set k (.row 5 1 (af (qe [] 0 (a.take 0)))),bw d (IC ((min a.length 0:Nat):Int)) τ,?_,hK⟩;refine TS.WU (M:=M) ?_ fun j=>?_
  ·have:=n.put (o 0 (by decide)) d;simpa using this
  ·rw[TL.Wh];split
   ·rename_i e;subst e;rw[hk];simp[qe]
   ·rfl
 | some b =>
  refine⟨.inl ⟨k,out.length,.slice (some b) out.length c,out.length,dA out,b,c,c,0,a.length,q,s,dA (a.take out.length),u,rfl,?_,by omega,rfl,?_,?_,mD _,?_⟩⟩
  ·rw[Nat.zero_mul,show b.add 0=b by cases b;rfl]
  ·rw[nK,hl,Nat.mul_one,Nat.min_comm]
  ·rcases hf with h | ⟨h,_⟩
   ·refine .inl ?_;rw[show dA (a.take out.length)=(dA a).take out.length by simp[dA]];exact BK h
   ·exact .inr ⟨by omega,by rw[Xu h];simp[dA]⟩
  ·rw[Nat.zero_mul,y5];refine⟨_,_,?_,hK⟩;have h3:=BS n u (out':=qe out 0 (a.take out.length)) (nO (by rw[hl];omega)) y ha;exact h3.put (o _ (by omega)) d
end
end Go.Fr.Tryd
