/- Part of the proofs of the statements of this seat. -/
import Derived.Test.YtnlegbokpofcaaaGreatDoorSpE3G
import Derived.Test.YtnlegbokpofcaaaGreatDoorFW3
import Derived.Test.YtnlegbokpofcaaaGreatDoorSpW1G
set_option maxRecDepth 10000
set_option linter.unusedVariables false
set_option linter.unusedSimpArgs false
namespace Go.Fr.Tryz
open Go Go.RowKit Go.Proofs Go.Fr Go.Fr.T Go.Fr.Api
theorem Yt (d b:List (List C)) (f:Int) (x:Wd) (k:FD x) (bs:List UInt8) (hb:bs.length+(oU kW x).1.length<=70368744177664) :
  CallsT PZ 33 [.fn 49 [] [.own 1000 0,.pt (uX d b f x) 0]] (EB bs) (fun Mo c=>((oU kW x).2=true/\Mo=EB (bs++(oU kW x).1)/\c=.bool true)\/((oU kW x).2=false/\sW (EB bs) Mo/\c=.bool false)):=by
 have a:=t49 d b f x k bs hb;generalize oU kW x=e at a ⊢;obtain⟨s,o⟩:=e;generalize uX d b f x=es at a ⊢;refine iE (PS:=fun v=>v=fW/\o=false) (ns:=[1]) (out:=LH) Tryz.func33 xI (qD.mono xN fun v h=>h.1) (fun v h=>rfl) rfl rfl ?_ fun r q=>?_
 ·rintro v ⟨rfl,h⟩;refine⟨.bool false,.bool false,?_,?_,fun Mo l=>.inr ⟨h,l,rfl⟩⟩
  ·intro L ρ m;obtain⟨n,g,t,j⟩:=m 0 2 _ rfl rfl;simp only[mD,n,j];rfl
  ·intro F L;rw[Rel]
 refine⟨rfl,?_⟩;refine ck [1000,1001,1002] a rfl rfl rfl rfl (fun v h=>h) ?_;rintro v Mo ⟨p,rfl,rfl⟩ _ _;refine⟨rfl,?_⟩;exact dK [1000,1001,1002] rfl rfl rfl rfl (.inl ⟨p,rfl,rfl⟩)
def lH (x:Wd):List UInt8:=if(oU kW x).2=true then gJ (di++(oU kW x).1) else[]
theorem zq:di.length=3:=rfl
theorem Yu:CallsT PZ 48 [.own 1000 0,.sl (ak di)] [.box 108 [.nils,IC 0,.int .i8 0]] (jv (Lr 108 [] di) (.tup [IC 3,.opq 0])) :=
 CallsT.gives (Uh 108 [] rfl [] di (by decide) (by decide))
  ⟨.inl ⟨_,rfl,.inr ⟨108,_,_,rfl,rfl,⟨_,_,rfl,vU rfl rfl,⟨_,_,rfl,aj rfl,⟨_,_,rfl,aj rfl,rfl⟩⟩⟩⟩⟩,.inr ⟨rfl,5,1,rfl⟩,trivial⟩ (by decide)
theorem Yv (h f:List (List C)) (j:Int) (x:Wd) (k:FD x) (hb:(oU kW x).1.length<=35184372088832) :
  CallsT PZ 14 [.agg (uX h f j x)] [] (jv [.row 5 1 (ak (lH x))] (.rw 1000)):=by
 have a:=Yt h f j x k di (by rw[zq];omega);have d:=t32 (di++(oU kW x).1) (by simp[zq];omega);have b:lH x=if(oU kW x).2=true then gJ (di++(oU kW x).1) else[]:=rfl;generalize lH x=eb at b ⊢;generalize oU kW x=e at a b d;obtain⟨l,p⟩:=e;refine aq Tryz.func14 NS rfl fun n m=>?_;refine eK Zs rfl fun _=>?_;refine Ch [5] [5,6] Yu rfl rfl rfl rfl rfl fun _ _=>?_;refine CG [3,5,6] a rfl rfl rfl rfl ?_;rintro v Mo (⟨c,rfl,rfl⟩ | ⟨c,⟨q,M1,rfl,o,M2,rfl,M3,rfl,rfl⟩,rfl⟩) _ _
 ·refine⟨rfl,?_⟩;refine wz [6] [5] [5] (Sr 108 (di++l)) ⟨_,rfl,rfl,rfl,rfl,rfl,fun _ _=>?_⟩;refine callO [] [18] d rfl rfl rfl rfl rfl fun _ _=>?_;exact zW [18] rfl rfl (by rw[b,c];rfl) rfl
 ·refine⟨rfl,?_⟩;refine TV ?_;exact UN 2 5 1 rfl rfl (by rw[b,vv (by rw[c];exact abA)];rfl)
end Go.Fr.Tryz
namespace Go.Fr.Tryz
open Go Go.RowKit Go.Proofs Go.Fr Go.Fr.T Go.Fr.Api Go.Fr.Dm
def fH (n:Nat):Nat:=(n+31) / 32
def tZ (a b:List UInt8) (i:Nat):Bool:=!decide (cQ b i <+: cQ a i)
def lI (a b:List UInt8):List Nat:=(List.range (fH b.length)).filter (tZ a b)
def mJ:List Int->List UInt8
 | []=>[]
 | n::l=>bV (zz n)++mJ l
def zM (b:List UInt8):Int->List Nat->List UInt8
 | _,[]=>[]
 | p,i::r=>bV (zz (i-p))++(cQ b i++zM b i r)
def rM (a b:List UInt8):List Int:=[a.length,kZ a,b.length,kZ b,(lI a b).length]
def eU (a b:List UInt8):List UInt8:=mJ (rM a b)++zM b (-1) (lI a b)
def wQ (l:List Nat):List (List C):=l.map fun(i:Nat)=>([IC (i:Int)]:List C)
theorem zu (l:List Nat):(wQ l).length=l.length:=by simp[wQ]
theorem Pv {l:List Nat}{k i:Nat}(h:l[k]?=some i):(wQ l)[k]?=some [IC i]:=by simp[wQ,h]
theorem FE {a b:List UInt8}{i:Nat}(h:i∈lI a b):i<fH b.length:=by
 simp only[lI,List.mem_filter,List.mem_range] at h;exact h.1
theorem GX (a b:List UInt8):(lI a b).length<=fH b.length:=by
 have:=List.length_filter_le (tZ a b) (List.range (fH b.length));simpa[lI] using this
theorem xO:∀(f z:Nat),z<128 ^ (f+1)->(bV z).length<=f+1
 | 0,z,h=>by rw[bV,dif_pos (by omega)];simp
 | f+1,z,h=>by
  rw[bV];split
  ·simp
  ·have:=xO f (z / 128) (by rw[Nat.pow_succ] at h;omega);simp only[aaW];omega
theorem QD (n:Int) (m:Nat) (a:-(m:Int)<=n) (b:n<=m):zz n<=2*m:=by
 unfold zz;split<;>omega
theorem nU (n:Int) (a:-2305843009213693952<=n) (b:n<=2305843009213693952):(bV (zz n)).length<=10 :=
 xO 9 _ (Nat.lt_of_le_of_lt (QD n 2305843009213693952 a b) (by decide))
def Sm (n:Int):Prop:=-2305843009213693952<=n/\n<=2305843009213693952
theorem Bq:∀(l:List Int),(∀n∈l,Sm n)->(mJ l).length<=10*l.length
 | [],_=>by simp[mJ]
 | n::l,h=>by
  have c:=nU n (h n (by simp)).1 (h n (by simp)).2;have b:=Bq l fun m a=>h m (by simp[a]);simp only[mJ,aaR,aaW];omega
theorem El (b:List UInt8) (i:Nat):(cQ b i).length<=32:=by unfold cQ;rw[aa9];omega
theorem GY (b:List UInt8):∀(p:Int) (l:List Nat),-1<=p->p<=1152921504606846976->(∀i∈l,i<=1152921504606846976)->(zM b p l).length<=42*l.length
 | p,[],_,_,_=>by simp[zM]
 | p,i::l,c,e,h=>by
  have hi:=h i (by simp);have f:=nU (i-p) (by omega) (by omega);have j:=GY b i l (by omega) (by omega) fun m a=>h m (by simp[a]);have d:=El b i;simp only[zM,aaR,aaW];omega
theorem UO {els:List (List C)}{c:List C}{K:Prop}(n:Nat) (d:c.length=1) (b:els.length=n) (h:n<=2 ^ 40) (k:K):tK els [c] 1 8 K :=
 ⟨fun es a=>(by rcases aaQ.1 a with rfl | a;exact d;cases a),by rw[b];simp only[aaW,abe,maxLen];omega,by
  rw[b];simp only[aaW,abe];omega,k⟩
theorem IG (s:List Nat) (k:Nat):wQ s++[[IC (k:Int)]]=wQ (s++[k]):=by simp[wQ]
theorem Yw {l:List Nat}{k:Nat}{x:Nat}{K:List C->Prop}(a:l[k]?=some x) (h:K [IC (x:Int)]):BQ (wQ l) (k:Int) 1 K:=⟨[IC (x:Int)],by omega,Pv a,rfl,h⟩
set_option maxRecDepth 20000 in
theorem Zu (a b:List UInt8) (ha:a.length<=1073741824) (hb:b.length<=1073741824) :
  CallsT PZ 18 [.sl (ak a),.sl (ak b)] [] (jv [] (.sl (ak (eU a b)))):=by
 have an:(ak a).length=a.length:=aQ;have z:(ak b).length=b.length:=aQ;obtain⟨n,hn⟩:∃n,fH b.length=n:=⟨_,rfl⟩;have aw:n<=33554433:=by rw[<-hn];unfold fH;omega
 have ag:CallsT PZ 61 [IC ((ak b).length:Nat)] [] (jv [] (IC (n:Nat))):=by
  rw[z,<-hn];exact Zt b.length (by omega)
 refine aq Tryz.func18 NV rfl fun hw aE=>?_;refine bM ag rfl fun _=>?_;refine aZ n 16 [5] [] (fun _=>[.rw 30]) (fun s:List Nat=>[(30,.row 3 1 (wQ s))]) (fun k s=>s=(List.range k).filter (tZ a b)) rfl (aj rfl) ⟨vU rfl rfl,trivial⟩ ⟨.inr ⟨rfl,3,1,rfl⟩,trivial⟩ (fun _=>rfl) (fun _=>rfl) ?_;rintro k s hk j _ _ r;refine aK (fun c=>?_) (fun o=>?_)
 ·have c:k<n:=by omega
  have ax:s.length<=k:=by
   have:=List.length_filter_le (tZ a b) (List.range k);rw[j];simpa using this
  have ab:(List.range (k+1)).filter (tZ a b)=s++if tZ a b k=true then[k] else[]:=by
   rw[List.range_succ,List.filter_append,<-j];congr 1;cases e:tZ a b k<;>simp[e]
  refine bM (Yr a k (by omega)) rfl fun _=>?_;refine bM (Yr b k (by omega)) rfl fun _=>?_;refine bM (t29 (cQ a k) (cQ b k)) rfl fun _=>?_;refine af (fun v=>?_) (fun v=>?_)
  ·have v:tZ a b k=true:=v;refine UO s.length rfl (zu s) (by omega) ?_;refine Fit.aad (by omega) (by omega) ?_;refine⟨(k+1,s++[k]),⟨c,by rw[ab,o6 v]⟩,⟨bn,aj rfl,trivial⟩,⟨.inl ⟨_,rfl,.inl ⟨j3 (TO.row 3 1) (IG s k),rfl⟩⟩,trivial⟩,bq c⟩
  ·have v:tZ a b k=false:=v;refine Fit.aad (by omega) (by omega) ?_;refine⟨(k+1,s),⟨c,by rw[ab,vv (by rw[v];exact abA),aaX]⟩,⟨bn,aj rfl,trivial⟩,⟨.inl ⟨_,rfl,.inl ⟨rfl,rfl⟩⟩,trivial⟩,bq c⟩
 have j:s=lI a b:=by
  have:k=n:=by omega
  rw[j,this,<-hn];rfl
 have bc:s.length<=n:=by rw[j,<-hn];exact GX a b
 have az:=mH a;have be:=mH b;have al:[((ak a).length:Int),kZ a,((ak b).length:Int),kZ b,((wQ s).length:Int)]=rM a b:=by rw[an,z,zu,j];rfl
 have w:∀m∈rM a b,Sm m:=by
  intro m hm;simp only[rM,<-j,aaQ,List.not_mem_nil,or_false] at hm;unfold Sm;rcases hm with rfl | rfl | rfl | rfl | rfl<;>omega
 refine bM (Tp a) rfl fun _=>?_;refine bM (Tp b) rfl fun _=>?_;have hN:=Bq _ w;have h5:(rM a b).length=5:=rfl;have hD:(eU a b).length<=50+42*s.length:=by
  have:=GY b (-1) (lI a b) (by omega) (by omega) fun i hi=>by have:=FE hi;omega
  rw[<-j] at this;rw[eU,aaR,<-j];omega
 refine aZ 5 46 [] [] (fun _=>[]) (fun d:List UInt8=>[(33,.box 108 [.rw 60,IC 0,.int .i8 0]),(60,.row 5 1 (ak d))]) (fun k d=>d++mJ ((rM a b).drop k)=mJ (rM a b)) rfl (aj rfl) trivial
  ⟨.inl ⟨_,rfl,.inr ⟨108,_,_,rfl,rfl,⟨_,_,rfl,vU rfl rfl,⟨_,_,rfl,aj rfl,⟨_,_,rfl,aj rfl,rfl⟩⟩⟩⟩⟩,.inr ⟨rfl,5,1,rfl⟩,trivial⟩ (fun _=>rfl) (fun _=>rfl) ?_
 rintro k d hk f _ _ r;refine aK (fun c=>?_) (fun o=>?_)
 ·have h:(k:Int)<(5:Nat):=c;have h:k<5:=by omega
  refine fC (l:=rM a b) h fun x hx t u=>?_;rw[u] at f;obtain⟨x1,x2⟩:=w x t;have am:=nU x x1 x2;have ad:d.length+10<=1000:=by
   have:=j3 List.length f;rw[aaR] at this;omega
  refine Cv (l:=[((ak a).length:Int),kZ a,((ak b).length:Int),kZ b,((wQ s).length:Int)]) (by rw[al];exact hx) ?_;refine callO [33,60] [33,60] (Ui 108 d x (by omega) (by omega) (by omega)) rfl rfl rfl rfl rfl fun _ _=>?_;refine Fit.aad (by omega) (by omega) ?_;refine⟨(k+1,d++bV (zz x)),⟨h,by rw[aaT];exact f⟩,⟨bn,trivial⟩,⟨.inl ⟨_,rfl,.inl ⟨rfl,rfl⟩⟩,.inl ⟨_,rfl,.inl ⟨rfl,rfl⟩⟩,trivial⟩,bq h⟩
 have av:¬(k:Int)<(5:Nat):=o;have f:d=mJ (rM a b):=by
  rw[List.drop_eq_nil_of_le (by omega)] at f;simpa[mJ] using f
 have ap:(wQ s).length=s.length:=zu s;refine aZ s.length 56 [10] (d,(-1:Int)) (fun x:List UInt8×Int=>[IC x.2]) (fun x=>[(33,.box 108 [.rw 60,IC 0,.int .i8 0]),(60,.row 5 1 (ak x.1))])
  (fun k x=>x.1++zM b x.2 (s.drop k)=eU a b/\-1<=x.2/\x.2<=33554433) ⟨by rw[f,j];rfl,by omega,by omega⟩ (aj rfl) ⟨aj rfl,trivial⟩
  ⟨.inl ⟨_,rfl,.inl ⟨rfl,rfl⟩⟩,.inl ⟨_,rfl,.inl ⟨rfl,rfl⟩⟩,trivial⟩ (fun _=>rfl) (fun _=>rfl) ?_
 rintro k ⟨d,p⟩ hk ⟨f,y,aa⟩ _ _ r;refine aK (fun c=>?_) (fun o=>?_)
 ·have c:k<s.length:=by omega
  refine fC c fun x hx t u=>?_;have f:d++zM b p (s.drop k)=eU a b:=f;rw[u] at f;have y:-1<=p:=y;have aa:p<=33554433:=aa;have bd:x<n:=by rw[<-hn];exact FE (by rw[<-j];exact t)
  have am:=nU (x-p) (by omega) (by omega);have bb:=El b x;have ad:d.length<=50+42*s.length:=by
   have:=j3 List.length f;rw[aaR] at this;omega
  refine Yw hx ?_;refine Fit.aad (by omega) (by omega) ?_;refine callO [33,60] [33,60] (Ui 108 d (x-p) (by omega) (by omega) (by omega)) rfl rfl rfl rfl rfl fun _ _=>?_;refine eK (Yr b x (by omega)) rfl fun _=>?_;refine Ch [33,60] [33,60] (Uh 108 [] rfl (d++bV (zz (x-p))) (cQ b x) (by rw[aaR];omega) (by have:=kR (zz (x-p));rw[aaR];omega)) rfl rfl rfl rfl rfl fun _ _=>?_;refine Fit.aad (by omega) (by omega) ?_;refine⟨(k+1,(d++bV (zz (x-p))++cQ b x,(x:Int))),⟨c,by simpa[zM] using f,by show(-1:Int)<=(x:Int);omega,by show(x:Int)<=33554433;omega⟩,⟨bn,aj rfl,trivial⟩,⟨.inl ⟨_,rfl,.inl ⟨rfl,rfl⟩⟩,.inl ⟨_,rfl,.inl ⟨rfl,rfl⟩⟩,trivial⟩,bq c⟩
 have o:¬k<s.length:=by omega
 have f:d++zM b p (s.drop k)=eU a b:=f;have f:d=eU a b:=by
  rw[List.drop_eq_nil_of_le (by omega)] at f;simpa[zM] using f
 refine wz [60] [33] [33] (Sr 108 d) ⟨_,rfl,rfl,rfl,rfl,rfl,fun _ _=>?_⟩;exact aO rfl (j3 (fun q=>C.sl (ak q)) f)
end Go.Fr.Tryz
namespace Go.Fr.Tryz
open Go Go.RowKit Go.Proofs Go.Fr Go.Fr.T Go.Fr.Api
def w0:Wd:=⟨[],[],[],[],[],0,0,0⟩
def DB (bs:List UInt8) (cs:List C):List TO:=[.box 86 [.own 1001 0],RB bs,.box 34 cs]
def oP (bs:List UInt8):Option Wd:=match Eb bs with
 | some (x,[])=>some x
 | _=>none
theorem II {bs:List UInt8}(h:Eb bs=none):oP bs=none:=by unfold oP;rw[h]
theorem IJ {bs r:List UInt8}{x:Wd}(h:Eb bs=some (x,r)) (a:decide (((ak r).length:Int)=0)=false):oP bs=none:=by
 unfold oP;rw[h];cases r with
 | nil=>simp[ak] at a
 | cons=>rfl
theorem IK {bs r:List UInt8}{x:Wd}(h:Eb bs=some (x,r)) (b:decide (((ak r).length:Int)=0)=true):oP bs=some x/\r=[]:=by
 unfold oP;rw[h];cases r with
 | nil=>exact⟨rfl,rfl⟩
 | cons a l=>simp[ak] at b;omega
theorem t34 (a b:List (List C)) (d:Int) (bs:List UInt8) :
  CallsTX PZ 34 [.own 1000 0,.own 1002 0] (DB bs (uX a b d w0)) (fun Mo c=>∃x,oP bs=some x/\Mo=DB [] (uX a b d x)/\c=.tup []) (fun v=>v=fW/\oP bs=none):=by
 refine au Tryz.func34 Og rfl fun l j=>?_;refine ck [1001,1002] (X9 34 a b d bs) rfl rfl rfl rfl (fun v h=>⟨h.1,II h.2⟩) ?_;rintro v Mo ⟨x,r,e,rfl,rfl⟩ _ _;refine⟨rfl,?_⟩;refine ck [] (u9 (decide (((ak r).length:Int)=0))) rfl rfl rfl rfl (fun v h=>⟨h.1,IJ e h.2⟩) ?_;rintro v Mo ⟨k,rfl,rfl⟩ _ _;refine⟨rfl,?_⟩;obtain⟨f,rfl⟩:=IK e k;exact dK [1000,1001,1002] rfl rfl rfl rfl ⟨x,f,rfl,rfl⟩
theorem Yx (b a:List (List C)) (d:Int) (bs:List UInt8) :
  CallsT PZ 33 [.fn 34 [] [.own 1000 0,.own 1002 0]] (DB bs (uX b a d w0)) (fun Mo c=>(∃x,oP bs=some x/\Mo=DB [] (uX b a d x)/\c=.bool true)\/(oP bs=none/\sW (DB bs (uX b a d w0)) Mo/\c=.bool false)):=by
 refine iE (PS:=fun v=>v=fW/\oP bs=none) (ns:=[1]) (out:=LH) Tryz.func33 xI (qD.mono xN fun v h=>h.1) (fun v h=>rfl) rfl rfl ?_ fun n m=>?_
 ·rintro v ⟨rfl,h⟩;refine⟨.bool false,.bool false,?_,?_,fun Mo f=>.inr ⟨h,f,rfl⟩⟩
  ·intro L ρ j;obtain⟨k,g,t,e⟩:=j 0 2 _ rfl rfl;simp only[mD,k,e];rfl
  ·intro F L;rw[Rel]
 refine⟨rfl,?_⟩;refine ck [1000,1001,1002] (t34 b a d bs) rfl rfl rfl rfl (fun v h=>h) ?_;rintro v Mo ⟨x,l,rfl,rfl⟩ _ _;refine⟨rfl,?_⟩;exact dK [1000,1001,1002] rfl rfl rfl rfl (.inl ⟨x,l,rfl,rfl⟩)
theorem vW {L L1:TL}:Mw L L1 .nils (.sl []):=.inr (.inr (.inl ⟨rfl,rfl⟩))
theorem jI {t:Nat}(n:Nat) (F:aF) (L:Loc) (p:Own) (r:dG F L (.box t (List.replicate n .any)) p):dG F L (.win t (List.replicate n .any) [] []) p :=
 xK (by simp) (Bj n) (fun c h=>by cases h) F L p r
theorem UQ (b a:List (List C)) (d:Int) (bs:List UInt8) :
  CallsT PZ 33 [.fn 34 [] [.own 1000 0,.own 1002 0]] [.box 86 [.own 1001 0],RB bs,.box 34 [.sl b,.sl a,IC d,.nils,.nils,.nils,.nils,.nils,IC 0,IC 0,IC 0]]
   (fun Mo c=>(∃x,oP bs=some x/\Mo=DB [] (uX b a d x)/\c=.bool true)\/(oP bs=none/\(∃e f l,Mo=[.win 86 e [] [],.win 88 f [] [],.win 34 l [] []])/\c=.bool false)) :=
 (((CallsT.gives (Lin:=[.box 86 [.own 1001 0],RB bs,.box 34 [.sl b,.sl a,IC d,.nils,.nils,.nils,.nils,.nils,IC 0,IC 0,IC 0]]) (Yx b a d bs)
    ⟨.inl ⟨_,rfl,.inl ⟨rfl,rfl⟩⟩,.inl ⟨_,rfl,.inl ⟨rfl,rfl⟩⟩,.inl ⟨_,rfl,.inr ⟨34,_,_,rfl,rfl,⟨_,_,rfl,aj rfl,⟨_,_,rfl,aj rfl,⟨_,_,rfl,aj rfl,⟨_,_,rfl,vW,⟨_,_,rfl,vW,⟨_,_,rfl,vW,⟨_,_,rfl,vW,⟨_,_,rfl,vW,⟨_,_,rfl,aj rfl,⟨_,_,rfl,aj rfl,⟨_,_,rfl,aj rfl,rfl⟩⟩⟩⟩⟩⟩⟩⟩⟩⟩⟩⟩⟩,trivial⟩ (aa8 3):CallsT PZ 33 _ _ _).toX (Pp:=fun _=>False)).view (vw.refl _) (by
  rintro Mo c (h | ⟨k,⟨n,M1,rfl,j,M2,rfl,m,M3,rfl,rfl⟩,rfl⟩)
  ·exact⟨Mo,vw.refl _,.inl h⟩
  ·exact⟨_,vw.cons (jI n) (vw.cons (jI j) (vw.cons (jI m) (vw.refl []))),.inr ⟨k,⟨_,_,_,rfl⟩,rfl⟩⟩) fun _ h=>h).noPan
def vX (bs:List UInt8):Option Wd×Int :=
 if bs.length<7\/¬di <+: bs then(none,16)
 else if¬gJ (bs.take (bs.length-4))=bs then(none,17)
 else match oP ((bs.take (bs.length-4)).drop 3) with
  | some x=>(some x,0)
  | none=>(none,16)
def Yy (a b:List (List C)) (c:Int):Option Wd×Int->C
 | (some x,e)=>.tup [.agg (uX a b c x),IC e]
 | (none,e)=>.tup [.agg (uX [] [] 0 w0),IC e]
theorem Yz (o m:List (List C)) (p:Int) (bs:List UInt8) (hb:bs.length<=70368744177664) :
  CallsT PZ 10 [.agg [.sl o,.sl m,IC p],.sl (ak bs)] [] (jv [] (Yy o m p (vX bs))):=by
 have f:(ak bs).length=bs.length:=aQ;obtain⟨s,e⟩:∃s,bs.take (bs.length-4)=s:=⟨_,rfl⟩;have ag:s.length<=bs.length:=by rw[<-e,aa9];omega
 obtain⟨d,j⟩:∃d,vX bs=d:=⟨_,rfl⟩;rw[j];have w:bs.length<7->d=(none,16):=fun h=>by rw[<-j];unfold vX;rw[o6 (.inl h)]
 have aa:¬di <+: bs->d=(none,16):=fun h=>by rw[<-j];unfold vX;rw[o6 (.inr h)]
 have r:¬bs.length<7->di <+: bs->¬gJ s=bs->d=(none,17):=fun a t z=>by
  rw[<-j];unfold vX;rw[vv (fun h=>h.elim a (fun h=>h t)),e,o6 z]
 have k:¬bs.length<7->di <+: bs->gJ s=bs->d=match oP (s.drop 3) with | some x=>(some x,0) | none=>(none,16):=fun a t z=>by
  rw[<-j];unfold vX;rw[vv (fun h=>h.elim a (fun h=>h t)),e,vv (fun h=>h z)]
 have l:=UQ o m p (s.drop 3);generalize oP (s.drop 3)=ad at k l;refine aq Tryz.func10 NQ rfl fun hw am=>?_;refine aK (fun h0=>?_) (fun h0=>?_)
 ·exact aO rfl (by rw[w (by omega)];rfl)
 have h7:¬bs.length<7:=by omega
 have n:((ak bs).drop 0).take (((ak bs).length-4:Int).toNat-0)=ak s:=by
  rw[iH,f,show((bs.length:Int)-4).toNat-0=bs.length-4 by omega,<-e];rfl
 have e2:(3:Int)<=((((ak bs).drop 0).take (((ak bs).length-4:Int).toNat-0)).length:Int):=by rw[n,aQ,<-e,aa9];omega
 have e3:∀es∈(((ak bs).drop 0).take (((ak bs).length-4:Int).toNat-0)),es.length=1:=by rw[n];exact gO
 have u:((((ak bs).drop 0).take (((ak bs).length-4:Int).toNat-0)).drop 3).take (((((ak bs).drop 0).take (((ak bs).length-4:Int).toNat-0)).length:Int).toNat-3)=ak (s.drop 3):=by
  rw[n,iH,aQ,abz (by simp)]
 refine bM Zs rfl fun _=>?_;refine bM (t29 bs di) rfl fun _=>?_;refine af (fun a=>?_) (fun a=>?_)
 ·have a:(!decide (di <+: bs))=true:=a;exact aO rfl (by rw[aa (by simpa using a)];rfl)
 have a:(!decide (di <+: bs))=false:=a;have a:di <+: bs:=by simpa using a
 refine Fit.aad (by omega) (by omega) ?_;refine Dl.mk (by omega) (by omega) (by omega) gO ?_;refine callO [] [25] (t32 s (by omega)) rfl rfl (j3 (fun q=>[C.sl q]) n) rfl rfl fun _ _=>?_;refine wz [25] [] [] (t31 (gJ s) bs) ⟨_,rfl,rfl,rfl,rfl,rfl,fun _ _=>?_⟩;refine af (fun b=>?_) (fun c=>?_)
 ·have b:(!decide (gJ s=bs))=true:=b;exact aO rfl (by rw[r h7 a (by simpa using b)];rfl)
 have c:(!decide (gJ s=bs))=false:=c;have h4:=k h7 a (by simpa using c);refine Dl.mk (by decide) e2 (abj _) e3 ?_;refine CG [7,33,8] l rfl rfl rfl (j3 (fun q=>[TO.box 86 [C.own 1001 0],.box 88 [.sl q],.box 34 [.sl o,.sl m,IC p,.nils,.nils,.nils,.nils,.nils,IC 0,IC 0,IC 0]]) u) ?_;rintro v Mo (⟨x,y,rfl,rfl⟩ | ⟨y,⟨p1,p2,p3,rfl⟩,rfl⟩) _ _
 ·refine⟨rfl,?_⟩;exact aO rfl (by rw[h4,y];rfl)
 ·refine⟨rfl,?_⟩;exact aO rfl (by rw[h4,y];rfl)
structure IL where
 slot:Int
 excl:Bool
 re:Bool
structure Slot where
 state:Int
 type:Ty
 var:Int
 flag:Int
 lent:List IL
structure zw where
 name:ByteArray
 params:List Ty
 result:Ty
 ties:List Int
 slots:Int
 blocks:List Block
 entry:List (List Slot)
structure wG where
 datas:List Api.Data
 routs:List zw
 main:Int
def zx (x:IL):List C:=[IC x.slot,.bool x.excl,.bool x.re]
def iM (x:Slot):List C:=[IC x.state,IC x.type.kind,IC x.type.id,.sl (x.type.args.map s5),IC x.var,IC x.flag,.sl (x.lent.map zx)]
def nV (l:List Slot):List C:=[.sl (l.map iM)]
def iT (r:zw):List C:=[.str r.name,.sl (r.params.map s5),IC r.result.kind,IC r.result.id,.sl (r.result.args.map s5),.sl (qK r.ties),IC r.slots,.sl (r.blocks.map iF),.sl (r.entry.map nV)]
def Aj (i:wG):List C:=[.sl (i.datas.map iL),.sl (i.routs.map iT),IC i.main]
def Ak (t:Ty):C:=.agg [IC t.kind,IC t.id,.sl (t.args.map s5)]
noncomputable def IQ (p:Prop):Bool:=@decide p (Classical.propDecidable p)
theorem CH {p:Prop}:IQ p=true↔p:=by unfold IQ;exact @decide_eq_true_iff p (Classical.propDecidable p)
theorem jY {p:Prop}(h:IQ p=true):p:=CH.1 h
theorem kS {p:Prop}(h:IQ p=false):¬p:=fun q=>by rw[CH.2 q] at h;cases h
theorem aD {p:Prop}(h:¬p):false=IQ p:=by
 cases e:IQ p with
 | true=>exact p7 (jY e) h
 | false=>rfl
theorem dF {p:Prop}(h:p):true=IQ p:=(CH.2 h).symm
theorem iy {p q:Prop}(h:p↔q):IQ p=IQ q:=by rw[show p=q from propext h]
theorem oQ {c:Type}{a b:List c}(h:¬a.length=b.length):a≠b:=fun e=>h (by rw[e])
theorem bW {c:Type}{a b:List c}{n:Nat}(d:a.length=n) (hb:b.length=n) (h:∀j<n,a[j]?=b[j]?):a=b:=by
 apply abq;intro i
 by_cases hi:i<n
 ·exact h i hi
 ·rw[aa0 (by omega),aa0 (by omega)]
theorem cq {d:Type}{a b:List d}{k:Nat}{x y:d}(c:a[k]?=some x) (f:b[k]?=some y) (h:x≠y):a≠b:=fun e=>h (by rw[e,f] at c;injection c with c;exact c.symm)
theorem bX {d:Type}{a b:List d}{k:Nat}{x y:d}(h:∀j<k,a[j]?=b[j]?) (l:a[k]?=some x) (f:b[k]?=some y) (e:x=y):∀j<k+1,a[j]?=b[j]?:=by
 intro j m
 by_cases c:j=k
 ·rw[c,l,f,e]
 ·exact h j (by omega)
theorem aS {a:Type}{l:List a}{k:Nat}(h:k<l.length):∃x,l[k]?=some x:=⟨l[k],w8 h⟩
theorem sF {a b:ByteArray}(h:a.data.toList=b.data.toList):a=b:=by
 cases a;cases b;simp only at h;rw[Array.toList_inj.1 h]
def dI (f:Nat) (args:List C) (p:Prop):Prop:=CallsT PZ f args [] (jv [] (.bool (IQ p)))
theorem SI (a b:List (Int)):dI 129 [.sl (qK a),.sl (qK b)] (a=b):=by
 refine aq Tryz.func129 KO rfl fun q _=>?_;have m:(qK a).length=a.length:=by simp[qK]
 have hb:(qK b).length=b.length:=by simp[qK]
 have s:a.length<=9223372036854775807:=by have:=nS q.1;rwa [m] at this
 refine af (fun d=>?_) (fun d=>?_)
 ·have d:¬a.length=b.length:=fun e=>by
   rw[m,hb,e] at d;simp at d
  exact aO rfl (j3 C.bool (aD (oQ d)))
 have d:a.length=b.length:=by
  rw[m,hb] at d;simp at d;omega
 refine aZ a.length 13 [] () (fun _=>[]) (fun _=>[]) (fun k _=>∀j<k,a[j]?=b[j]?) (fun j r=>p7 r (by omega)) (aj rfl) trivial trivial (fun _=>rfl) (fun _=>rfl) ?_;rintro k ⟨⟩ t f _ _ _;refine aK (fun c=>?_) (fun n=>?_)
 ·have c:k<a.length:=by rw[m] at c;omega
  obtain⟨x,p⟩:=aS c;obtain⟨y,o⟩:=aS (l:=b) (k:=k) (by omega);refine Cv p ?_;refine Cv o ?_;refine af (fun h=>?_) (fun h=>?_)
  ·have h:¬x=y:=by simpa using h
   exact aO rfl (j3 C.bool (aD (cq p o h)))
  ·have h:x=y:=by simpa using h
   refine Fit.aad (by omega) (by omega) ?_;exact⟨(k+1,()),⟨c,bX f p o h⟩,⟨bn,trivial⟩,trivial,bq c⟩
 ·have n:¬k<a.length:=by rw[m] at n;omega
  have:k=a.length:=by omega
  subst this;exact aO rfl (j3 C.bool (dF (bW rfl d.symm f)))
theorem YA (a b:List (IL)):dI 145 [.sl (a.map zx),.sl (b.map zx)] (a=b):=by
 refine aq Tryz.func145 K3 rfl fun q _=>?_;have m:(a.map zx).length=a.length:=by simp
 have hb:(b.map zx).length=b.length:=by simp
 have s:a.length<=9223372036854775807:=by have:=nS q.1;rwa [m] at this
 refine af (fun d=>?_) (fun d=>?_)
 ·have d:¬a.length=b.length:=fun e=>by
   rw[m,hb,e] at d;simp at d
  exact aO rfl (j3 C.bool (aD (oQ d)))
 have d:a.length=b.length:=by
  rw[m,hb] at d;simp at d;omega
 refine aZ a.length 13 [] () (fun _=>[]) (fun _=>[]) (fun k _=>∀j<k,a[j]?=b[j]?) (fun j r=>p7 r (by omega)) (aj rfl) trivial trivial (fun _=>rfl) (fun _=>rfl) ?_;rintro k ⟨⟩ t f _ _ _;refine aK (fun c=>?_) (fun n=>?_)
 ·have c:k<a.length:=by rw[m] at c;omega
  obtain⟨x,p⟩:=aS c;obtain⟨y,o⟩:=aS (l:=b) (k:=k) (by omega);refine bw p rfl rfl ?_;refine bw o rfl rfl ?_;refine af (fun h=>?_) (fun h=>?_)
  ·have h:¬x=y:=fun e=>by subst e;simp[lS] at h
   exact aO rfl (j3 C.bool (aD (cq p o h)))
  ·have h:x=y:=by cases x;cases y;simp[lS] at h;simp[h]
   refine Fit.aad (by omega) (by omega) ?_;exact⟨(k+1,()),⟨c,bX f p o h⟩,⟨bn,trivial⟩,trivial,bq c⟩
 ·have n:¬k<a.length:=by rw[m] at n;omega
  have:k=a.length:=by omega
  subst this;exact aO rfl (j3 C.bool (dF (bW rfl d.symm f)))
theorem t138 (a b:List (Ty)) (s:∀x∈a,∀y,dI 127 [Ak x,Ak y] (x=y)):dI 138 [.sl (a.map s5),.sl (b.map s5),.fn 127 [] []] (a=b):=by
 refine aq Tryz.func138 KW rfl fun q _=>?_;have m:(a.map s5).length=a.length:=by simp
 have hb:(b.map s5).length=b.length:=by simp
 have t:a.length<=9223372036854775807:=by have:=nS q.1;rwa [m] at this
 refine af (fun d=>?_) (fun d=>?_)
 ·have d:¬a.length=b.length:=fun e=>by
   rw[m,hb,e] at d;simp at d
  exact aO rfl (j3 C.bool (aD (oQ d)))
 have d:a.length=b.length:=by
  rw[m,hb] at d;simp at d;omega
 refine aZ a.length 17 [] () (fun _=>[]) (fun _=>[]) (fun k _=>∀j<k,a[j]?=b[j]?) (fun j r=>p7 r (by omega)) (aj rfl) trivial trivial (fun _=>rfl) (fun _=>rfl) ?_;rintro k ⟨⟩ u f _ _ _;refine aK (fun c=>?_) (fun n=>?_)
 ·have c:k<a.length:=by rw[m] at c;omega
  obtain⟨x,o⟩:=aS c;obtain⟨y,p⟩:=aS (l:=b) (k:=k) (by omega);refine wC o ?_;refine wC p ?_;refine bM (s x (aaS o) y) rfl fun _=>?_;refine af (fun h=>?_) (fun h=>?_)
  ·have h:¬x=y:=kS (by simpa using h);exact aO rfl (j3 C.bool (aD (cq o p h)))
  ·have h:x=y:=jY (by simpa using h);refine Fit.aad (by omega) (by omega) ?_;exact⟨(k+1,()),⟨c,bX f o p h⟩,⟨bn,trivial⟩,trivial,bq c⟩
 ·have n:¬k<a.length:=by rw[m] at n;omega
  have:k=a.length:=by omega
  subst this;exact aO rfl (j3 C.bool (dF (bW rfl d.symm f)))
theorem UR (a b:List (Ty)) (c:∀x∈a,∀y,dI 127 [Ak x,Ak y] (x=y)):dI 126 [.sl (a.map s5),.sl (b.map s5),.fn 127 [] []] (a=b):=by
 refine aq Tryz.func126 KL rfl fun d _=>?_;refine bM (t138 a b c) rfl fun _=>?_;exact aO rfl rfl
theorem QE {x y:Ty}(a:x.kind=y.kind) (c:x.id=y.id) (b:x.args=y.args):x=y:=by
 cases x;cases y
 simp_all [Ty.kind,Ty.id,Ty.args]
theorem LI {x t:Ty}(h:x∈t.args):SizeOf.sizeOf x<SizeOf.sizeOf t:=by
 cases t;have:=List.sizeOf_lt_of_mem h;simp only[Ty.args] at this;simp only[Ty.mk.sizeOf_spec];omega
theorem QF:∀(n:Nat) (x y:Ty),SizeOf.sizeOf x<n->dI 127 [Ak x,Ak y] (x=y)
 | 0,x,y,h=>p7 h (by omega)
 | n+1,x,y,h=>by
  have d:∀z∈x.args,∀w,dI 127 [Ak z,Ak w] (z=w):=fun z c w=>QF n z w (by have:=LI c;omega);refine aq Tryz.func127 KM rfl fun f _=>?_;refine aK (fun a=>?_) (fun a=>aO rfl (j3 C.bool (aD fun e=>a (by rw[e]))));refine aK (fun b=>?_) (fun b=>aO rfl (j3 C.bool (aD fun e=>b (by rw[e]))));refine bM (UR x.args y.args d) rfl fun _=>?_;exact aO rfl (j3 C.bool (iy ⟨fun h=>QE a b h,fun e=>by rw[e]⟩))
theorem SJ (x y:Ty):dI 127 [Ak x,Ak y] (x=y):=QF _ x y (abH _)
theorem LJ (a b:List Ty):dI 126 [.sl (a.map s5),.sl (b.map s5),.fn 127 [] []] (a=b):=UR a b fun x _ y=>SJ x y
theorem var_eq {x y:Variant}(b:x.name=y.name) (a:x.fields=y.fields):x=y:=by
 rcases x with⟨⟩
 rcases y with⟨⟩
 simp_all
theorem YB (x y:Variant):dI 125 [.agg (fB x),.agg (fB y)] (x=y):=by
 refine aq Tryz.func125 KJ rfl fun b _=>?_;refine aK (fun a=>?_) (fun a=>aO rfl (j3 C.bool (aD fun e=>a (by rw[e]))));refine bM (LJ x.fields y.fields) rfl fun _=>?_;exact aO rfl (j3 C.bool (iy ⟨fun h=>var_eq (sF a) h,fun e=>by rw[e]⟩))
theorem YC (a b:List (Variant)) (s:∀x∈a,∀y,dI 125 [.agg (fB x),.agg (fB y)] (x=y)):dI 137 [.sl (a.map fB),.sl (b.map fB),.fn 125 [] []] (a=b):=by
 refine aq Tryz.func137 KV rfl fun q _=>?_;have m:(a.map fB).length=a.length:=by simp
 have hb:(b.map fB).length=b.length:=by simp
 have t:a.length<=9223372036854775807:=by have:=nS q.1;rwa [m] at this
 refine af (fun d=>?_) (fun d=>?_)
 ·have d:¬a.length=b.length:=fun e=>by
   rw[m,hb,e] at d;simp at d
  exact aO rfl (j3 C.bool (aD (oQ d)))
 have d:a.length=b.length:=by
  rw[m,hb] at d;simp at d;omega
 refine aZ a.length 17 [] () (fun _=>[]) (fun _=>[]) (fun k _=>∀j<k,a[j]?=b[j]?) (fun j r=>p7 r (by omega)) (aj rfl) trivial trivial (fun _=>rfl) (fun _=>rfl) ?_;rintro k ⟨⟩ u f _ _ _;refine aK (fun c=>?_) (fun n=>?_)
 ·have c:k<a.length:=by rw[m] at c;omega
  obtain⟨x,o⟩:=aS c;obtain⟨y,p⟩:=aS (l:=b) (k:=k) (by omega);refine bw o rfl rfl ?_;refine bw p rfl rfl ?_;refine bM (s x (aaS o) y) rfl fun _=>?_;refine af (fun h=>?_) (fun h=>?_)
  ·have h:¬x=y:=kS (by simpa using h);exact aO rfl (j3 C.bool (aD (cq o p h)))
  ·have h:x=y:=jY (by simpa using h);refine Fit.aad (by omega) (by omega) ?_;exact⟨(k+1,()),⟨c,bX f o p h⟩,⟨bn,trivial⟩,trivial,bq c⟩
 ·have n:¬k<a.length:=by rw[m] at n;omega
  have:k=a.length:=by omega
  subst this;exact aO rfl (j3 C.bool (dF (bW rfl d.symm f)))
theorem YD (a b:List (Variant)) (c:∀x∈a,∀y,dI 125 [.agg (fB x),.agg (fB y)] (x=y)):dI 124 [.sl (a.map fB),.sl (b.map fB),.fn 125 [] []] (a=b):=by
 refine aq Tryz.func124 KI rfl fun d _=>?_;refine bM (YC a b c) rfl fun _=>?_;exact aO rfl rfl
theorem GZ {x y:Api.Data}(a:x.name=y.name) (e:x.module=y.module) (c:x.params=y.params) (b:x.drop=y.drop) (d:x.variants=y.variants):x=y:=by
 rcases x with⟨⟩
 rcases y with⟨⟩
 simp_all
theorem t98 (x y:Api.Data):dI 98 [.agg (iL x),.agg (iL y)] (x=y):=by
 refine aq Tryz.func98 OY rfl fun k _=>?_;refine aK (fun c=>?_) (fun c=>aO rfl (j3 C.bool (aD fun e=>c (by rw[e]))));refine aK (fun j=>?_) (fun j=>aO rfl (j3 C.bool (aD fun e=>j (by rw[e]))));refine aK (fun f=>?_) (fun f=>aO rfl (j3 C.bool (aD fun e=>f (by rw[e]))));refine aK (fun d=>?_) (fun d=>aO rfl (j3 C.bool (aD fun e=>d (by rw[e]))));refine bM (YD x.variants y.variants fun a _ b=>YB a b) rfl fun _=>?_;exact aO rfl (j3 C.bool (iy ⟨fun h=>GZ (sF c) j f d h,fun e=>by rw[e]⟩))
theorem YE (a b:List (Api.Data)) (s:∀x∈a,∀y,dI 98 [.agg (iL x),.agg (iL y)] (x=y)):dI 123 [.sl (a.map iL),.sl (b.map iL),.fn 98 [] []] (a=b):=by
 refine aq Tryz.func123 KH rfl fun q _=>?_;have m:(a.map iL).length=a.length:=by simp
 have hb:(b.map iL).length=b.length:=by simp
 have t:a.length<=9223372036854775807:=by have:=nS q.1;rwa [m] at this
 refine af (fun d=>?_) (fun d=>?_)
 ·have d:¬a.length=b.length:=fun e=>by
   rw[m,hb,e] at d;simp at d
  exact aO rfl (j3 C.bool (aD (oQ d)))
 have d:a.length=b.length:=by
  rw[m,hb] at d;simp at d;omega
 refine aZ a.length 17 [] () (fun _=>[]) (fun _=>[]) (fun k _=>∀j<k,a[j]?=b[j]?) (fun j r=>p7 r (by omega)) (aj rfl) trivial trivial (fun _=>rfl) (fun _=>rfl) ?_;rintro k ⟨⟩ u f _ _ _;refine aK (fun c=>?_) (fun n=>?_)
 ·have c:k<a.length:=by rw[m] at c;omega
  obtain⟨x,o⟩:=aS c;obtain⟨y,p⟩:=aS (l:=b) (k:=k) (by omega);refine bw o rfl rfl ?_;refine bw p rfl rfl ?_;refine bM (s x (aaS o) y) rfl fun _=>?_;refine af (fun h=>?_) (fun h=>?_)
  ·have h:¬x=y:=kS (by simpa using h);exact aO rfl (j3 C.bool (aD (cq o p h)))
  ·have h:x=y:=jY (by simpa using h);refine Fit.aad (by omega) (by omega) ?_;exact⟨(k+1,()),⟨c,bX f o p h⟩,⟨bn,trivial⟩,trivial,bq c⟩
 ·have n:¬k<a.length:=by rw[m] at n;omega
  have:k=a.length:=by omega
  subst this;exact aO rfl (j3 C.bool (dF (bW rfl d.symm f)))
theorem t97 (a b:List (Api.Data)) (c:∀x∈a,∀y,dI 98 [.agg (iL x),.agg (iL y)] (x=y)):dI 97 [.sl (a.map iL),.sl (b.map iL),.fn 98 [] []] (a=b):=by
 refine aq Tryz.func97 OX rfl fun d _=>?_;refine bM (YE a b c) rfl fun _=>?_;exact aO rfl rfl
theorem LK {x y:EG}(c:x.op=y.op) (j:x.dst=y.dst) (e:x.a=y.a) (d:x.b=y.b) (h:x.n=y.n) (f:x.args=y.args) (k:x.types=y.types):x=y:=by
 rcases x with⟨⟩
 rcases y with⟨⟩
 simp_all
theorem t141 (x y:EG):dI 141 [.agg (qw x),.agg (qw y)] (x=y):=by
 refine aq Tryz.func141 KZ rfl fun k _=>?_;refine aK (fun a=>?_) (fun a=>aO rfl (j3 C.bool (aD fun e=>a (by rw[e]))));refine aK (fun j=>?_) (fun j=>aO rfl (j3 C.bool (aD fun e=>j (by rw[e]))));refine aK (fun c=>?_) (fun c=>aO rfl (j3 C.bool (aD fun e=>c (by rw[e]))));refine aK (fun b=>?_) (fun b=>aO rfl (j3 C.bool (aD fun e=>b (by rw[e]))));refine aK (fun d=>?_) (fun d=>aO rfl (j3 C.bool (aD fun e=>d (by rw[e]))));refine bM (SI x.args y.args) rfl fun _=>?_;refine af (fun f=>?_) (fun f=>aO rfl (j3 C.bool (aD fun e=>kS f (by rw[e]))));refine bM (LJ x.types y.types) rfl fun _=>?_;exact aO rfl (j3 C.bool (iy ⟨fun h=>LK a j c b d (jY f) h,fun e=>by rw[e]⟩))
theorem YF (a b:List (EG)) (s:∀x∈a,∀y,dI 141 [.agg (qw x),.agg (qw y)] (x=y)):dI 147 [.sl (a.map qw),.sl (b.map qw),.fn 141 [] []] (a=b):=by
 refine aq Tryz.func147 K4 rfl fun q _=>?_;have m:(a.map qw).length=a.length:=by simp
 have hb:(b.map qw).length=b.length:=by simp
 have t:a.length<=9223372036854775807:=by have:=nS q.1;rwa [m] at this
 refine af (fun d=>?_) (fun d=>?_)
 ·have d:¬a.length=b.length:=fun e=>by
   rw[m,hb,e] at d;simp at d
  exact aO rfl (j3 C.bool (aD (oQ d)))
 have d:a.length=b.length:=by
  rw[m,hb] at d;simp at d;omega
 refine aZ a.length 17 [] () (fun _=>[]) (fun _=>[]) (fun k _=>∀j<k,a[j]?=b[j]?) (fun j r=>p7 r (by omega)) (aj rfl) trivial trivial (fun _=>rfl) (fun _=>rfl) ?_;rintro k ⟨⟩ u f _ _ _;refine aK (fun c=>?_) (fun n=>?_)
 ·have c:k<a.length:=by rw[m] at c;omega
  obtain⟨x,o⟩:=aS c;obtain⟨y,p⟩:=aS (l:=b) (k:=k) (by omega);refine bw o rfl rfl ?_;refine bw p rfl rfl ?_;refine bM (s x (aaS o) y) rfl fun _=>?_;refine af (fun h=>?_) (fun h=>?_)
  ·have h:¬x=y:=kS (by simpa using h);exact aO rfl (j3 C.bool (aD (cq o p h)))
  ·have h:x=y:=jY (by simpa using h);refine Fit.aad (by omega) (by omega) ?_;exact⟨(k+1,()),⟨c,bX f o p h⟩,⟨bn,trivial⟩,trivial,bq c⟩
 ·have n:¬k<a.length:=by rw[m] at n;omega
  have:k=a.length:=by omega
  subst this;exact aO rfl (j3 C.bool (dF (bW rfl d.symm f)))
theorem YG (a b:List (EG)) (c:∀x∈a,∀y,dI 141 [.agg (qw x),.agg (qw y)] (x=y)):dI 140 [.sl (a.map qw),.sl (b.map qw),.fn 141 [] []] (a=b):=by
 refine aq Tryz.func140 KY rfl fun d _=>?_;refine bM (YF a b c) rfl fun _=>?_;exact aO rfl rfl
theorem Em {x y:Block}(b:x.code=y.code) (f:x.fin.kind=y.fin.kind) (e:x.fin.a=y.fin.a) (d:x.fin.targets=y.fin.targets):x=y:=by
 rcases x with⟨c,⟨⟩⟩
 rcases y with⟨c,⟨⟩⟩
 simp_all
theorem YH (x y:Block):dI 131 [.agg (iF x),.agg (iF y)] (x=y):=by
 refine aq Tryz.func131 KQ rfl fun j _=>?_;refine bM (YG x.code y.code fun a _ b=>t141 a b) rfl fun _=>?_;refine af (fun c=>?_) (fun c=>aO rfl (j3 C.bool (aD fun e=>kS c (by rw[e]))));refine aK (fun f=>?_) (fun f=>aO rfl (j3 C.bool (aD fun e=>f (by rw[e]))));refine aK (fun d=>?_) (fun d=>aO rfl (j3 C.bool (aD fun e=>d (by rw[e]))));refine bM (SI x.fin.targets y.fin.targets) rfl fun _=>?_;exact aO rfl (j3 C.bool (iy ⟨fun h=>Em (jY c) f d h,fun e=>by rw[e]⟩))
theorem t139 (a b:List (Block)) (s:∀x∈a,∀y,dI 131 [.agg (iF x),.agg (iF y)] (x=y)):dI 139 [.sl (a.map iF),.sl (b.map iF),.fn 131 [] []] (a=b):=by
 refine aq Tryz.func139 KX rfl fun q _=>?_;have m:(a.map iF).length=a.length:=by simp
 have hb:(b.map iF).length=b.length:=by simp
 have t:a.length<=9223372036854775807:=by have:=nS q.1;rwa [m] at this
 refine af (fun d=>?_) (fun d=>?_)
 ·have d:¬a.length=b.length:=fun e=>by
   rw[m,hb,e] at d;simp at d
  exact aO rfl (j3 C.bool (aD (oQ d)))
 have d:a.length=b.length:=by
  rw[m,hb] at d;simp at d;omega
 refine aZ a.length 17 [] () (fun _=>[]) (fun _=>[]) (fun k _=>∀j<k,a[j]?=b[j]?) (fun j r=>p7 r (by omega)) (aj rfl) trivial trivial (fun _=>rfl) (fun _=>rfl) ?_;rintro k ⟨⟩ u f _ _ _;refine aK (fun c=>?_) (fun n=>?_)
 ·have c:k<a.length:=by rw[m] at c;omega
  obtain⟨x,o⟩:=aS c;obtain⟨y,p⟩:=aS (l:=b) (k:=k) (by omega);refine bw o rfl rfl ?_;refine bw p rfl rfl ?_;refine bM (s x (aaS o) y) rfl fun _=>?_;refine af (fun h=>?_) (fun h=>?_)
  ·have h:¬x=y:=kS (by simpa using h);exact aO rfl (j3 C.bool (aD (cq o p h)))
  ·have h:x=y:=jY (by simpa using h);refine Fit.aad (by omega) (by omega) ?_;exact⟨(k+1,()),⟨c,bX f o p h⟩,⟨bn,trivial⟩,trivial,bq c⟩
 ·have n:¬k<a.length:=by rw[m] at n;omega
  have:k=a.length:=by omega
  subst this;exact aO rfl (j3 C.bool (dF (bW rfl d.symm f)))
theorem YI (a b:List (Block)) (c:∀x∈a,∀y,dI 131 [.agg (iF x),.agg (iF y)] (x=y)):dI 130 [.sl (a.map iF),.sl (b.map iF),.fn 131 [] []] (a=b):=by
 refine aq Tryz.func130 KP rfl fun d _=>?_;refine bM (t139 a b c) rfl fun _=>?_;exact aO rfl rfl
theorem G0 {x y:Slot}(a:x.state=y.state) (e:x.type=y.type) (c:x.var=y.var) (b:x.flag=y.flag) (d:x.lent=y.lent):x=y:=by
 rcases x with⟨⟩
 rcases y with⟨⟩
 simp_all
theorem YJ (x y:Slot):dI 144 [.agg (iM x),.agg (iM y)] (x=y):=by
 refine aq Tryz.func144 K2 rfl fun f _=>?_;refine aK (fun a=>?_) (fun a=>aO rfl (j3 C.bool (aD fun e=>a (by rw[e]))));refine bM (SJ x.type y.type) rfl fun _=>?_;refine af (fun d=>?_) (fun d=>aO rfl (j3 C.bool (aD fun e=>kS d (by rw[e]))));refine aK (fun c=>?_) (fun c=>aO rfl (j3 C.bool (aD fun e=>c (by rw[e]))));refine aK (fun b=>?_) (fun b=>aO rfl (j3 C.bool (aD fun e=>b (by rw[e]))));refine bM (YA x.lent y.lent) rfl fun _=>?_;exact aO rfl (j3 C.bool (iy ⟨fun h=>G0 a (jY d) c b h,fun e=>by rw[e]⟩))
theorem YK (a b:List (Slot)) (s:∀x∈a,∀y,dI 144 [.agg (iM x),.agg (iM y)] (x=y)):dI 148 [.sl (a.map iM),.sl (b.map iM),.fn 144 [] []] (a=b):=by
 refine aq Tryz.func148 K5 rfl fun q _=>?_;have m:(a.map iM).length=a.length:=by simp
 have hb:(b.map iM).length=b.length:=by simp
 have t:a.length<=9223372036854775807:=by have:=nS q.1;rwa [m] at this
 refine af (fun d=>?_) (fun d=>?_)
 ·have d:¬a.length=b.length:=fun e=>by
   rw[m,hb,e] at d;simp at d
  exact aO rfl (j3 C.bool (aD (oQ d)))
 have d:a.length=b.length:=by
  rw[m,hb] at d;simp at d;omega
 refine aZ a.length 17 [] () (fun _=>[]) (fun _=>[]) (fun k _=>∀j<k,a[j]?=b[j]?) (fun j r=>p7 r (by omega)) (aj rfl) trivial trivial (fun _=>rfl) (fun _=>rfl) ?_;rintro k ⟨⟩ u f _ _ _;refine aK (fun c=>?_) (fun n=>?_)
 ·have c:k<a.length:=by rw[m] at c;omega
  obtain⟨x,o⟩:=aS c;obtain⟨y,p⟩:=aS (l:=b) (k:=k) (by omega);refine bw o rfl rfl ?_;refine bw p rfl rfl ?_;refine bM (s x (aaS o) y) rfl fun _=>?_;refine af (fun h=>?_) (fun h=>?_)
  ·have h:¬x=y:=kS (by simpa using h);exact aO rfl (j3 C.bool (aD (cq o p h)))
  ·have h:x=y:=jY (by simpa using h);refine Fit.aad (by omega) (by omega) ?_;exact⟨(k+1,()),⟨c,bX f o p h⟩,⟨bn,trivial⟩,trivial,bq c⟩
 ·have n:¬k<a.length:=by rw[m] at n;omega
  have:k=a.length:=by omega
  subst this;exact aO rfl (j3 C.bool (dF (bW rfl d.symm f)))
theorem YL (a b:List (Slot)) (c:∀x∈a,∀y,dI 144 [.agg (iM x),.agg (iM y)] (x=y)):dI 143 [.sl (a.map iM),.sl (b.map iM),.fn 144 [] []] (a=b):=by
 refine aq Tryz.func143 K1 rfl fun d _=>?_;refine bM (YK a b c) rfl fun _=>?_;exact aO rfl rfl
theorem YM (a b:List Slot):dI 133 [.sl (a.map iM),.sl (b.map iM)] (a=b):=by
 refine aq Tryz.func133 KS rfl fun c _=>?_;refine bM (YL a b fun x _ y=>YJ x y) rfl fun _=>?_;exact aO rfl rfl
theorem YN (a b:List (List Slot)) (s:∀x∈a,∀y,dI 133 [.sl (x.map iM),.sl (y.map iM)] (x=y)):dI 142 [.sl (a.map nV),.sl (b.map nV),.fn 133 [] []] (a=b):=by
 refine aq Tryz.func142 K0 rfl fun q _=>?_;have m:(a.map nV).length=a.length:=by simp
 have hb:(b.map nV).length=b.length:=by simp
 have t:a.length<=9223372036854775807:=by have:=nS q.1;rwa [m] at this
 refine af (fun d=>?_) (fun d=>?_)
 ·have d:¬a.length=b.length:=fun e=>by
   rw[m,hb,e] at d;simp at d
  exact aO rfl (j3 C.bool (aD (oQ d)))
 have d:a.length=b.length:=by
  rw[m,hb] at d;simp at d;omega
 refine aZ a.length 17 [] () (fun _=>[]) (fun _=>[]) (fun k _=>∀j<k,a[j]?=b[j]?) (fun j r=>p7 r (by omega)) (aj rfl) trivial trivial (fun _=>rfl) (fun _=>rfl) ?_;rintro k ⟨⟩ u f _ _ _;refine aK (fun c=>?_) (fun n=>?_)
 ·have c:k<a.length:=by rw[m] at c;omega
  obtain⟨x,o⟩:=aS c;obtain⟨y,p⟩:=aS (l:=b) (k:=k) (by omega);refine bw o rfl rfl ?_;refine bw p rfl rfl ?_;refine bM (s x (aaS o) y) rfl fun _=>?_;refine af (fun h=>?_) (fun h=>?_)
  ·have h:¬x=y:=kS (by simpa using h);exact aO rfl (j3 C.bool (aD (cq o p h)))
  ·have h:x=y:=jY (by simpa using h);refine Fit.aad (by omega) (by omega) ?_;exact⟨(k+1,()),⟨c,bX f o p h⟩,⟨bn,trivial⟩,trivial,bq c⟩
 ·have n:¬k<a.length:=by rw[m] at n;omega
  have:k=a.length:=by omega
  subst this;exact aO rfl (j3 C.bool (dF (bW rfl d.symm f)))
theorem YO (a b:List (List Slot)) (c:∀x∈a,∀y,dI 133 [.sl (x.map iM),.sl (y.map iM)] (x=y)):dI 132 [.sl (a.map nV),.sl (b.map nV),.fn 133 [] []] (a=b):=by
 refine aq Tryz.func132 KR rfl fun d _=>?_;refine bM (YN a b c) rfl fun _=>?_;exact aO rfl rfl
theorem G3 {x y:zw}(a:x.name=y.name) (f:x.params=y.params) (c:x.result=y.result) (b:x.ties=y.ties) (e:x.slots=y.slots) (d:x.blocks=y.blocks) (h:x.entry=y.entry):x=y:=by
 rcases x with⟨⟩
 rcases y with⟨⟩
 simp_all
theorem SK (x y:zw):dI 100 [.agg (iT x),.agg (iT y)] (x=y):=by
 refine aq Tryz.func100 Kv rfl fun m _=>?_;refine aK (fun c=>?_) (fun c=>aO rfl (j3 C.bool (aD fun e=>c (by rw[e]))));refine bM (LJ x.params y.params) rfl fun _=>?_;refine af (fun l=>?_) (fun l=>aO rfl (j3 C.bool (aD fun e=>kS l (by rw[e]))));refine bM (SJ x.result y.result) rfl fun _=>?_;refine af (fun f=>?_) (fun f=>aO rfl (j3 C.bool (aD fun e=>kS f (by rw[e]))));refine bM (SI x.ties y.ties) rfl fun _=>?_;refine af (fun d=>?_) (fun d=>aO rfl (j3 C.bool (aD fun e=>kS d (by rw[e]))));refine aK (fun j=>?_) (fun j=>aO rfl (j3 C.bool (aD fun e=>j (by rw[e]))));refine bM (YI x.blocks y.blocks fun a _ b=>YH a b) rfl fun _=>?_;refine af (fun k=>?_) (fun k=>aO rfl (j3 C.bool (aD fun e=>kS k (by rw[e]))));refine bM (YO x.entry y.entry fun a _ b=>YM a b) rfl fun _=>?_;exact aO rfl (j3 C.bool (iy ⟨fun h=>G3 (sF c) (jY l) (jY f) (jY d) j (jY k) h,fun e=>by rw[e]⟩))
theorem YP (a b:List (zw)) (s:∀x∈a,∀y,dI 100 [.agg (iT x),.agg (iT y)] (x=y)):dI 128 [.sl (a.map iT),.sl (b.map iT),.fn 100 [] []] (a=b):=by
 refine aq Tryz.func128 KN rfl fun q _=>?_;have m:(a.map iT).length=a.length:=by simp
 have hb:(b.map iT).length=b.length:=by simp
 have t:a.length<=9223372036854775807:=by have:=nS q.1;rwa [m] at this
 refine af (fun d=>?_) (fun d=>?_)
 ·have d:¬a.length=b.length:=fun e=>by
   rw[m,hb,e] at d;simp at d
  exact aO rfl (j3 C.bool (aD (oQ d)))
 have d:a.length=b.length:=by
  rw[m,hb] at d;simp at d;omega
 refine aZ a.length 17 [] () (fun _=>[]) (fun _=>[]) (fun k _=>∀j<k,a[j]?=b[j]?) (fun j r=>p7 r (by omega)) (aj rfl) trivial trivial (fun _=>rfl) (fun _=>rfl) ?_;rintro k ⟨⟩ u f _ _ _;refine aK (fun c=>?_) (fun n=>?_)
 ·have c:k<a.length:=by rw[m] at c;omega
  obtain⟨x,o⟩:=aS c;obtain⟨y,p⟩:=aS (l:=b) (k:=k) (by omega);refine bw o rfl rfl ?_;refine bw p rfl rfl ?_;refine bM (s x (aaS o) y) rfl fun _=>?_;refine af (fun h=>?_) (fun h=>?_)
  ·have h:¬x=y:=kS (by simpa using h);exact aO rfl (j3 C.bool (aD (cq o p h)))
  ·have h:x=y:=jY (by simpa using h);refine Fit.aad (by omega) (by omega) ?_;exact⟨(k+1,()),⟨c,bX f o p h⟩,⟨bn,trivial⟩,trivial,bq c⟩
 ·have n:¬k<a.length:=by rw[m] at n;omega
  have:k=a.length:=by omega
  subst this;exact aO rfl (j3 C.bool (dF (bW rfl d.symm f)))
theorem YQ (a b:List (zw)) (c:∀x∈a,∀y,dI 100 [.agg (iT x),.agg (iT y)] (x=y)):dI 99 [.sl (a.map iT),.sl (b.map iT),.fn 100 [] []] (a=b):=by
 refine aq Tryz.func99 OZ rfl fun d _=>?_;refine bM (YP a b c) rfl fun _=>?_;exact aO rfl rfl
theorem LL {x y:wG}(a:x.main=y.main) (c:x.datas=y.datas) (b:x.routs=y.routs):x=y:=by
 rcases x with⟨⟩
 rcases y with⟨⟩
 simp_all
theorem t60 (x y:wG):dI 60 [.agg (Aj x),.agg (Aj y)] (x=y):=by
 refine aq Tryz.func60 Oz rfl fun f _=>?_;refine aK (fun c=>?_) (fun c=>aO rfl (j3 C.bool (aD fun e=>c (by rw[e]))));refine bM (t97 x.datas y.datas fun a _ b=>t98 a b) rfl fun _=>?_;refine af (fun d=>?_) (fun d=>aO rfl (j3 C.bool (aD fun e=>kS d (by rw[e]))));refine bM (YQ x.routs y.routs fun a _ b=>SK a b) rfl fun _=>?_;exact aO rfl (j3 C.bool (iy ⟨fun h=>LL c (jY d) h,fun e=>by rw[e]⟩))
theorem eM {a b:Enc}(h:a.2=true) (k:b.2=true):(bD a b).2=true:=by simp[bD,h,k]
theorem gV {a:Type}{f:a->Enc}(h:∀x,(f x).2=true):∀l:List a,(aV f l).2=true
 | []=>rfl
 | x::l=>eM (h x) (gV h l)
theorem iz {a:Type}{f:a->Enc}(h:∀x,(f x).2=true) (l:List a):(bT kL f l).2=true:=eM rfl (gV h l)
theorem jK (n:Int):(kL.num n).2=true:=rfl
theorem xP (b:Bool):(oe kL b).2=true:=rfl
mutual
theorem LM:∀(v:Vl) (d:Int),(s8 kL v d).2=true
 | .mk a b c n f e p l,d=>by
  rw[s8];exact eM (by simp[Aa,kL]) (eM (gV jK _) (eM (eM rfl (G5 f _)) (eM (gV xP _) (eM (iz jK _) (iz jK _)))))
theorem G5:∀(l:List Vl) (d:Int),(Ab kL l d).2=true
 | [],_=>rfl
 | x::xs,d=>by rw[Ab];exact eM (LM x d) (G5 xs d)
end
theorem SL (x:Wd):(oU kL x).2=true:=by
 have d:∀v,(uV kL v).2=true:=fun v=>LM v 60;exact eM (iz (fun c=>eM (gV xP _) (eM (gV jK _) (d _))) _)
  (eM (iz (fun b=>gV xP _) _)
  (eM (iz (fun t=>eM (gV jK _) (eM (iz (fun a=>eM (gV jK _) (eM (iz d _) (iz jK _))) _)
   (eM (iz (fun l=>eM (gV jK _) (gV xP _)) _) (eM (gV jK _) (iz jK _))))) _)
  (eM (iz (fun l=>iz d l) _)
  (eM (iz (fun o=>gV jK _) _) (gV jK _)))))
def uY (x:Wd):List UInt8:=(oU kL x).1
theorem YR (a b:List (List C)) (d:Int) (x:Wd) (j:FD x) (hb:(uY x).length<=70368744177664) :
  CallsT PZ 35 [.ifo none 123 1000 0,.pt (uX a b d x) 0] (WB 124 []) (jv (WB 124 (uY x)) (.tup [])) :=
 ((UJ Yj a b d x j [] (by simp only[abe,Nat.zero_add];exact hb)).imp (Pp':=fun _=>False) (R':=jv (WB 124 (uY x)) (.tup []))
  (fun Mo c ⟨_,f,e⟩=>⟨by rw[f];rfl,e⟩) (fun v ⟨_,h⟩=>by rw[SL] at h;cases h)).noPan
theorem Zv (b c:List (List C)) (d:Int) (x:Wd) (f:FD x) (hb:(uY x).length<=70368744177664) :
  CallsT PZ 59 [.agg (uX b c d x)] [] (jv [] (.sl (ak (uY x)))):=by
 have a:=YR b c d x f hb;refine aq Tryz.func59 Oy rfl fun h e=>?_;refine TJ [(5,.box 124 [.rw 50,IC 0,.int .i8 0]),(50,.row 5 1 [])] [5,50] [5,50] a
  ⟨.inl ⟨_,rfl,.inr ⟨124,_,_,rfl,rfl,⟨_,_,rfl,vU rfl rfl,⟨_,_,rfl,aj rfl,⟨_,_,rfl,aj rfl,rfl⟩⟩⟩⟩⟩,.inr ⟨rfl,5,1,rfl⟩,trivial⟩ rfl rfl rfl rfl rfl fun _ _=>?_
 refine wz [50] [5] [5] (Sr 124 (uY x)) ⟨_,rfl,rfl,rfl,rfl,rfl,fun _ _=>?_⟩;exact aO rfl rfl
noncomputable def FG (i j:wG) (x y:Wd):Bool:=IQ (i=j)&&decide (uY x=uY y)
def IU (i:wG) (x:Wd):List C:=uX (i.datas.map iL) (i.routs.map iT) i.main x
theorem Zw (i j:wG) (x y:Wd) (c:FD x) (f:FD y) (a:(uY x).length<=70368744177664) (b:(uY y).length<=70368744177664) :
  CallsT PZ 17 [.agg (IU i x),.agg (IU j y)] [] (jv [] (.bool (FG i j x y))):=by
 have k:=Zv (i.datas.map iL) (i.routs.map iT) i.main x c a;have e:=Zv (j.datas.map iL) (j.routs.map iT) j.main y f b;refine aq Tryz.func17 NU rfl fun l d=>?_;refine eK (t60 i j) rfl fun _=>?_;refine af (fun h=>?_) (fun h=>?_)
 ·refine eK k rfl fun _=>?_;refine eK e rfl fun _=>?_;refine eK (t31 (uY x) (uY y)) rfl fun _=>?_;exact aO rfl (by rw[FG,h];rfl)
 ·exact aO rfl (by rw[FG,h];rfl)
end Go.Fr.Tryz
namespace Go.Fr.Tryz
open Go Go.RowKit Go.Proofs Go.Fr Go.Fr.T Go.Fr.Api Go.Fr.Dm
theorem m5 (a:List UInt8) (b:UInt8):ak a++ak [b]=ak (a++[b]):=by simp[ak]
theorem t22 (n:Int) (j:-2305843009213693952<=n) (l:n<=2305843009213693952):CallsT PZ 22 [IC n] [] (jv [.row 5 1 (ak (bV (zz n)))] (.rw 1000)):=by
 have k:zz n<=4611686018427387904:=by unfold zz;split<;>omega
 have p:=nU n j l;refine aq Tryz.func22 NY rfl fun o _=>?_;refine Fit.aad (by omega) (by omega) ?_;refine aK (fun f=>?_) (fun e=>?_)
 ·refine Fit.aad (by omega) (by omega) ?_;refine Fit.aad (by omega) (by omega) ?_;refine yE.mk ⟨Nat×List UInt8,(zz n,[]),fun y=>y.1<=4611686018427387904/\y.2++bV y.1=bV (zz n),[3,4],fun y=>[.int .i64 y.1,.rw 20],fun y=>[(20,.row 5 1 (ak y.2))],fun y=>y.1,⟨k,rfl⟩,⟨.inr (.inl ⟨?_,rfl⟩),vU rfl rfl,trivial⟩,
    ⟨.inr ⟨rfl,5,1,rfl⟩,trivial⟩,fun _=>rfl,fun _=>rfl,?_⟩
  ·exact j3 (C.int .i64) (by unfold zz;rw[o6 f];omega)
  rintro⟨m,done⟩ ⟨d,a⟩ _ _;simp only at a d;have h:done.length+(bV m).length<=10:=by
   have:=j3 List.length a;simp only[aaR] at this;omega
  have j:=kR m;refine aK (fun c=>?_) (fun c=>?_)
  ·have c:128<=m:=by have:(128:Int)<=(m:Int):=c;omega
   have b:bV m=UInt8.ofNat (128+m % 128)::bV (m / 128):=by rw[bV,dif_neg (by omega)]
   refine oG.mk (by omega) ?_;refine Fit.to (m:=128+(m:Int).tmod 128) (bZ (by rw[show(m:Int).tmod 128=((m % 128:Nat):Int) from rfl];omega) (by rw[show(m:Int).tmod 128=((m % 128:Nat):Int) from rfl];omega)) ?_;refine Fit.to (Cz m) ?_;refine sJ (bs:=[UInt8.ofNat (128+m % 128)]) done.length aQ (by simp;omega) ?_;refine oG.mk (by omega) ?_;refine Fit.to (m:=((m / 128:Nat):Int)) (by show IntKind.wrap .i64 ((m / 128:Nat):Int)=_;exact bZ (by omega) (by omega)) ?_;refine⟨(m / 128,done++[UInt8.ofNat (128+m % 128)]),⟨?_,?_⟩,⟨.inr (.inl ⟨rfl,rfl⟩),aj rfl,trivial⟩,⟨.inl ⟨_,rfl,.inl ⟨j3 (TO.row 5 1) (m5 done _),rfl⟩⟩,trivial⟩,?_⟩
   ·show m / 128<=_;omega
   ·show done++[UInt8.ofNat (128+m % 128)]++bV (m / 128)=bV (zz n);rw[<-a,b];simp
   ·show m / 128<m;omega
  ·have c:m<128:=by have:¬(128:Int)<=(m:Int):=c;omega
   have b:bV m=[UInt8.ofNat m]:=by rw[bV,dif_pos c]
   refine Fit.to (CA m) ?_;refine sJ (bs:=[UInt8.ofNat m]) done.length aQ (by simp;omega) ?_;exact zW [20] rfl rfl (j3 (fun q=>[TO.row 5 1 q]) ((m5 done _).trans (j3 ak (by rw[<-a,b]:done++[UInt8.ofNat m]=bV (zz n))))) rfl
 ·refine yE.mk ⟨Nat×List UInt8,(zz n,[]),fun y=>y.1<=4611686018427387904/\y.2++bV y.1=bV (zz n),[3,4],fun y=>[.int .i64 y.1,.rw 20],fun y=>[(20,.row 5 1 (ak y.2))],fun y=>y.1,⟨k,rfl⟩,⟨.inr (.inl ⟨?_,rfl⟩),vU rfl rfl,trivial⟩,
    ⟨.inr ⟨rfl,5,1,rfl⟩,trivial⟩,fun _=>rfl,fun _=>rfl,?_⟩
  ·exact j3 (C.int .i64) (by unfold zz;rw[vv e];omega)
  rintro⟨m,done⟩ ⟨d,a⟩ _ _;simp only at a d;have h:done.length+(bV m).length<=10:=by
   have:=j3 List.length a;simp only[aaR] at this;omega
  have j:=kR m;refine aK (fun c=>?_) (fun c=>?_)
  ·have c:128<=m:=by have:(128:Int)<=(m:Int):=c;omega
   have b:bV m=UInt8.ofNat (128+m % 128)::bV (m / 128):=by rw[bV,dif_neg (by omega)]
   refine oG.mk (by omega) ?_;refine Fit.to (m:=128+(m:Int).tmod 128) (bZ (by rw[show(m:Int).tmod 128=((m % 128:Nat):Int) from rfl];omega) (by rw[show(m:Int).tmod 128=((m % 128:Nat):Int) from rfl];omega)) ?_;refine Fit.to (Cz m) ?_;refine sJ (bs:=[UInt8.ofNat (128+m % 128)]) done.length aQ (by simp;omega) ?_;refine oG.mk (by omega) ?_;refine Fit.to (m:=((m / 128:Nat):Int)) (by show IntKind.wrap .i64 ((m / 128:Nat):Int)=_;exact bZ (by omega) (by omega)) ?_;refine⟨(m / 128,done++[UInt8.ofNat (128+m % 128)]),⟨?_,?_⟩,⟨.inr (.inl ⟨rfl,rfl⟩),aj rfl,trivial⟩,⟨.inl ⟨_,rfl,.inl ⟨j3 (TO.row 5 1) (m5 done _),rfl⟩⟩,trivial⟩,?_⟩
   ·show m / 128<=_;omega
   ·show done++[UInt8.ofNat (128+m % 128)]++bV (m / 128)=bV (zz n);rw[<-a,b];simp
   ·show m / 128<m;omega
  ·have c:m<128:=by have:¬(128:Int)<=(m:Int):=c;omega
   have b:bV m=[UInt8.ofNat m]:=by rw[bV,dif_pos c]
   refine Fit.to (CA m) ?_;refine sJ (bs:=[UInt8.ofNat m]) done.length aQ (by simp;omega) ?_;exact zW [20] rfl rfl (j3 (fun q=>[TO.row 5 1 q]) ((m5 done _).trans (j3 ak (by rw[<-a,b]:done++[UInt8.ofNat m]=bV (zz n))))) rfl
theorem UU (n:Nat):List.replicate (n:Int).toNat [C.int .u8 0]=ak (List.replicate n 0):=by simp[ak,jU]
theorem t21 (n:Nat) (b:UInt8) (p:n<=1048576):CallsT PZ 21 [IC n,jU b] [] (jv [.row 5 1 (ak (List.replicate n b))] (.rw 1000)):=by
 refine aq Tryz.func21 NX rfl fun m _=>?_;refine vg.mk (by omega) (abj _) (by omega) (by unfold maxLen;omega) ?_;refine aZ n 6 [5] (List.replicate n 0) (fun _=>[.rw 8]) (fun s=>[(8,.row 5 1 (ak s))]) (fun k s=>s=List.replicate k b++List.replicate (n-k) 0) rfl (aj rfl) ⟨aj rfl,trivial⟩
  ⟨.inl ⟨_,rfl,.inl ⟨j3 (TO.row 5 1) (UU n),rfl⟩⟩,trivial⟩ (fun _=>rfl) (fun _=>rfl) ?_
 rintro k s o h _ _ l;refine aK (fun a=>?_) (fun e=>?_)
 ·have a:k<n:=by omega
  have d:s[k]?=some 0:=by rw[h,aa4 (by simp),List.getElem?_replicate];simp;omega
  have f:s.set k b=List.replicate (k+1) b++List.replicate (n-(k+1)) 0:=by
   rw[h,show n-k=(n-(k+1))+1 by omega,List.replicate_succ' (n:=k),List.set_append_right _ _ (by simp)];simp[abD]
  have c:(ak s).length=n:=by rw[aQ,h];simp;omega
  refine QY.mk (by omega) (by rw[c];omega) ?_;have j:(ak s)[k]?=some [jU 0]:=by simp[ak,d]
  refine⟨rfl,?_⟩;refine LF (es0:=[jU 0]) (by show(ak s)[k]?=_;simp[ak,d]) rfl ?_;refine Fit.aad (by omega) (by omega) ?_;exact⟨(k+1,s.set k b),⟨a,f⟩,⟨bn,aj rfl,trivial⟩,⟨.inl ⟨_,rfl,.inl ⟨j3 (TO.row 5 1) (by show(ak s).set k [jU b]=ak (s.set k b);simp[ak,List.map_set]),rfl⟩⟩,trivial⟩,bq a⟩
 ·have e:k=n:=by omega
  exact zW [8] rfl rfl (j3 (fun q=>[TO.row 5 1 (ak q)]) (by rw[h,e];simp)) rfl
def sL:Dec (Int×Int):=gB getD fun x=>gB getD fun y=>wP (x,y)
def PB (bs:List UInt8) (x y:Int):List TO:=[.box 86 [.own 1001 0],RB bs,.box 3 [IC x],.box 3 [IC y]]
theorem t43 (bs:List UInt8):CallsTX PZ 43 [.own 1000 0,.own 1002 0,.own 1003 0] (PB bs 0 0) (fun Mo c=>∃x y r,sL bs=some ((x,y),r)/\Mo=PB r x y/\c=.tup []) (fun v=>v=fW/\sL bs=none):=by
 refine au Tryz.func43 Oi rfl fun k b=>?_;refine cH [1001] (Qu bs) rfl rfl rfl rfl (fun v h=>⟨h.1,bf h.2⟩) ?_;rintro v Mo ⟨x,r,j,rfl,rfl⟩ _ _;refine⟨rfl,?_⟩;have a:sL bs=_:=aA j;refine cH [1001] (Qu r) rfl rfl rfl rfl (fun v h=>⟨h.1,a.trans (bf h.2)⟩) ?_;rintro v Mo ⟨y,e,d,rfl,rfl⟩ _ _;refine⟨rfl,?_⟩;have f:=a.trans (aA d);exact dK [1000,1001,1002,1003] rfl rfl rfl rfl ⟨x,y,e,f,rfl,rfl⟩
def rN (out:List UInt8) (off:Nat) (b:List UInt8):List UInt8:=out.take off++b++out.drop (off+b.length)
theorem pO {out b:List UInt8}{off:Nat}(h:off+b.length<=out.length):(rN out off b).length=out.length:=by
 simp only[rN,aaR,aa9,abC];omega
theorem Br (out:List UInt8) (off:Nat) (b:List UInt8):aR (eD out) off (eD b)=eD (rN out off b):=by
 simp[aR,rN,eD]
theorem YS (F:aF) (a:Option Addr) (n c i:Nat) (s:n<=c) (r:c<=9223372036854775807) (hi:i<=1125899906842624) :
  CallsA PZ 62 #[.slice a n c,.int .i64 i] F [] (fun _ Lo v=>Lo=[]/\v=gK a c (min (32*i) n) (min (32*i+32) n) 1):=by
 have d:(if(n:Int)<32*(i:Int) then(n:Int) else 32*(i:Int))=((min (32*i) n:Nat):Int):=by split<;>omega
 have b:(if(n:Int)<32*(i:Int)+32 then(n:Int) else 32*(i:Int)+32)=((min (32*i+32) n:Nat):Int):=by split<;>omega
 have l:0<=(if(n:Int)<32*(i:Int) then(n:Int) else 32*(i:Int)):=by rw[d];omega
 have f:(if(n:Int)<32*(i:Int) then(n:Int) else 32*(i:Int))<=(if(n:Int)<32*(i:Int)+32 then(n:Int) else 32*(i:Int)+32):=by rw[d,b];omega
 have m:(if(n:Int)<32*(i:Int)+32 then(n:Int) else 32*(i:Int)+32)<=(c:Int):=by rw[b];omega
 have o:gK a c (if(n:Int)<32*(i:Int) then(n:Int) else 32*(i:Int)).toNat (if(n:Int)<32*(i:Int)+32 then(n:Int) else 32*(i:Int)+32).toNat 1=gK a c (min (32*i) n) (min (32*i+32) n) 1:=by rw[d,b];rfl
 refine gY (svs:=[.v (.slice a n c),.v (.int .i64 i)]) Tryz.func62 Gk rfl rfl (fun v p=>?_) (fun _ _ _ _ _ h=>h) ?_
 ·refine⟨fun k off e=>?_,fun q j e=>?_⟩<;>subst e<;>simp at p
 refine Fit.aad (by omega) (by omega) ?_;refine Fit.aad (by omega) (by omega) ?_;refine Fit.aad (by omega) (by omega) ?_;refine oh.mk l f m ?_;exact⟨[],[],rfl,by decide,rfl,o⟩
section
variable {G:Nat->Option (Nat×TypeId)}{F:aF}{L:Loc}{ρ:Env}{M:TL}{τ:aY}
theorem row_of (h:TS G F L ρ M τ) {k:Nat}{out:List UInt8}(f:M.get k=some (.row 5 1 (ak out))) :
  ∃a c,L.get k=some (.row (.slice a out.length c) 5 1 out.length (eD out))/\(a=none->out.length=0)/\out.length<=maxLen:=by
 have b:=h.tl k;rw[f] at b;cases e:L.get k with
 | none=>rw[e] at b;exact b.elim
 | some o =>
  rw[e] at b;cases o with
  | box=>exact b.elim
  | row v t sz n xs =>
   obtain⟨rfl,rfl,d,⟨j,a,c,rfl,m⟩,l⟩:=b;rw[aQ] at d;subst d;rw[mZ l];exact⟨a,c,rfl,m,j⟩
theorem En (j:TS G F L ρ M τ) {k n c:Nat}{a:Option Addr}{out out':List UInt8}(b:L.get k=some (.row (.slice a n c) 5 1 n (eD out))) (d:out'.length=n) (h:n<=maxLen) (f:a=none->n=0) :
  TS G F (L.set k (.row (.slice a n c) 5 1 n (eD out'))) ρ (M.set k (.row 5 1 (ak out'))) τ:=by
 refine j.turn (o':=.row (.slice a n c) 5 1 n (eD out')) b ⟨rfl,rfl,rfl⟩ (fun g t cs e=>by cases e) fun L' _=>?_;refine⟨rfl,rfl,by rw[aQ,d],⟨h,a,c,rfl,f⟩,qG _⟩
theorem TS.aaM (a:TS G F L ρ M τ) {M':TL}(h:∀k,M'.get k=M.get k):TS G F L ρ M' τ:=⟨fun k=>by rw[h k];exact a.tl k,a.env,a.kp,a.glob⟩
theorem Pw {P:Program}{K:TL->aY->Prop}{d:Option Nat}{u x k:Nat}{out a:List UInt8}(hk:M.get k=some (.row 5 1 (ak out))) (h1:τ u=.rw k) (q:τ x=.sl (ak a))
  (hK:K (M.set k (.row 5 1 (ak (rN out 0 (a.take out.length))))) (bL d (IC ((min a.length out.length:Nat):Int)) τ)):TH P (.copy 5 1 (.t u) (.t x)) d M τ K:=by
 refine⟨fun G F L ρ o=>?_⟩;obtain⟨b,c,w,ha,s⟩:=row_of o hk;obtain⟨a1,c1,t1,ap,n1,ag,e1,f⟩:=tO (x:=.t u) o.env h1;rw[w] at f;injection f with f
 injection f with f _ _ _ _
 injection f with e3 e4 e5
 subst e3 e4 e5;have p:=dS o.env (.t x);have q:cB τ (.t x)=.sl (ak a):=q;rw[q] at p;obtain⟨v,z,p⟩:=p;obtain⟨r,y,rfl,_,av,hf⟩:=zj p;have z:ev ρ (.t x)=.v (.slice r a.length y):=z;simp only[evalOp,e1,z];have hl:(a.take out.length).length=min out.length a.length:=aa9;have n:∀{L:Loc}(m:Nat),m<=maxLen->aT F L (IC (m:Int)) (.v (.int .i64 m)):=fun m s=>⟨_,rfl,by
  rw[Rel];refine⟨rfl,?_⟩;rw[BV];simp only[IntKind.min,IntKind.max,IntKind.signed,IntKind.bits,abd];unfold maxLen at s;omega⟩
 cases b with
 | none =>
  have h0:out.length=0:=ha rfl;have l:out=[]:=abh h0;subst l;refine⟨.inr ⟨none,0,c,r,a.length,y,rfl,rfl,by simp,?_⟩⟩;refine⟨M.set k (.row 5 1 (ak (rN [] 0 (a.take 0)))),bL d (IC ((min a.length 0:Nat):Int)) τ,?_,hK⟩;refine TS.aaM (M:=M) ?_ fun j=>?_
  ·have:=o.put (n 0 (by decide)) d;simpa using this
  ·rw[TL.aac];split
   ·rename_i e;subst e;rw[hk];simp[rN]
   ·rfl
 | some b =>
  refine⟨.inl ⟨k,out.length,.slice (some b) out.length c,out.length,eD out,b,c,c,0,a.length,r,y,eD (a.take out.length),w,rfl,?_,by omega,rfl,?_,?_,nT _,?_⟩⟩
  ·rw[Nat.zero_mul,show b.add 0=b by cases b;rfl]
  ·rw[pK,hl,Nat.mul_one,Nat.min_comm]
  ·rcases hf with h | ⟨h,_⟩
   ·refine .inl ?_;rw[show eD (a.take out.length)=(eD a).take out.length by simp[eD]];exact Ee h
   ·exact .inr ⟨by omega,by rw[abh h];simp[eD]⟩
  ·rw[Nat.zero_mul,Br];refine⟨_,_,?_,hK⟩;have h3:=En o w (out':=rN out 0 (a.take out.length)) (pO (by rw[hl];omega)) s ha;exact h3.put (n _ (by omega)) d
end
end Go.Fr.Tryz
