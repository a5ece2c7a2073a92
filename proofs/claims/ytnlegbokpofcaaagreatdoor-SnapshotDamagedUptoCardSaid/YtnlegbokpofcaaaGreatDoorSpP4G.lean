/- Part of the proofs of the statements of this seat. -/
import Derived.Test.YtnlegbokpofcaaaGreatDoorSpE3G
import Derived.Test.YtnlegbokpofcaaaGreatDoorFW3
import Derived.Test.YtnlegbokpofcaaaGreatDoorSpW1G
set_option maxRecDepth 10000
set_option linter.unusedVariables false
set_option linter.unusedSimpArgs false
namespace Go.Fr.Tryz
open Go Go.RowKit Go.Proofs Go.Fr Go.Fr.T Go.Fr.Api
theorem XZ (b f:List (List C)) (d:Int) (x:Wd) (m:Fs x) (bs:List UInt8) (hb:bs.length+(kI kW x).1.length<=70368744177664) :
  CallsT PZ 33 [.fn 49 [] [.own 1000 0,.pt (uQ b f d x) 0]] (EB bs) (fun Mo c=>((kI kW x).2=true/\Mo=EB (bs++(kI kW x).1)/\c=.bool true)\/((kI kW x).2=false/\sI (EB bs) Mo/\c=.bool false)):=by
 have a:=t49 b f d x m bs hb;generalize kI kW x=e at a ⊢;obtain⟨s,j⟩:=e;generalize uQ b f d x=es at a ⊢;refine gZ (PS:=fun v=>v=fG/\j=false) (ns:=[1]) (out:=Lp) Tryz.func33 wT (qo.mono wY fun v h=>h.1) (fun v h=>rfl) rfl rfl ?_ fun r n=>?_
 ·rintro v ⟨rfl,h⟩;refine⟨.bool false,.bool false,?_,?_,fun Mo p=>.inr ⟨h,p,rfl⟩⟩
  ·intro L ρ o;obtain⟨q,g,t,l⟩:=o 0 2 _ rfl rfl;simp only[lU,q,l];rfl
  ·intro F L;rw[Rel]
 refine⟨rfl,?_⟩;refine bW [1000,1001,1002] a rfl rfl rfl rfl (fun v h=>h) ?_;rintro v Mo ⟨k,rfl,rfl⟩ _ _;refine⟨rfl,?_⟩;exact di [1000,1001,1002] rfl rfl rfl rfl (.inl ⟨k,rfl,rfl⟩)
def dQ (x:Wd):List UInt8:=if(kI kW x).2=true then fR (bM++(kI kW x).1) else[]
theorem yY:bM.length=3:=rfl
theorem X0:CallsT PZ 48 [.own 1000 0,.sl (af bM)] [.box 108 [.nils,IC 0,.int .i8 0]] (iQ (K8 108 [] bM) (.tup [IC 3,.opq 0])) :=
 CallsT.gives (T9 108 [] rfl [] bM (by decide) (by decide))
  ⟨.inl ⟨_,rfl,.inr ⟨108,_,_,rfl,rfl,⟨_,_,rfl,vL rfl rfl,⟨_,_,rfl,ah rfl,⟨_,_,rfl,ah rfl,rfl⟩⟩⟩⟩⟩,.inr ⟨rfl,5,1,rfl⟩,trivial⟩ (by decide)
theorem X1 (f j:List (List C)) (h:Int) (x:Wd) (l:Fs x) (hb:(kI kW x).1.length<=35184372088832) :
  CallsT PZ 14 [.agg (uQ f j h x)] [] (iQ [.row 5 1 (af (dQ x))] (.rw 1000)):=by
 have a:=XZ f j h x l bM (by rw[yY];omega);have d:=t32 (bM++(kI kW x).1) (by simp[yY];omega);have b:dQ x=if(kI kW x).2=true then fR (bM++(kI kW x).1) else[]:=rfl;generalize dQ x=eb at b ⊢;generalize kI kW x=e at a b d;obtain⟨k,o⟩:=e;refine au Tryz.func14 NG rfl fun p m=>?_;refine jy YT rfl fun _=>?_;refine BQ [5] [5,6] X0 rfl rfl rfl rfl rfl fun _ _=>?_;refine Co [3,5,6] a rfl rfl rfl rfl ?_;rintro v Mo (⟨c,rfl,rfl⟩ | ⟨c,⟨n,M1,rfl,q,M2,rfl,M3,rfl,rfl⟩,rfl⟩) _ _
 ·refine⟨rfl,?_⟩;refine uE [6] [5] [5] (Sc 108 (bM++k)) ⟨_,rfl,rfl,rfl,rfl,rfl,fun _ _=>?_⟩;refine callO [] [18] d rfl rfl rfl rfl rfl fun _ _=>?_;exact zA [18] rfl rfl (by rw[b,c];rfl) rfl
 ·refine⟨rfl,?_⟩;refine TJ ?_;exact UE 2 5 1 rfl rfl (by rw[b,o6 (by rw[c];exact aby)];rfl)
end Go.Fr.Tryz
namespace Go.Fr.Tryz
open Go Go.RowKit Go.Proofs Go.Fr Go.Fr.T Go.Fr.Api Go.Fr.Dm
def eZ (n:Nat):Nat:=(n+31) / 32
def tJ (a b:List UInt8) (i:Nat):Bool:=!decide (cH b i <+: cH a i)
def kU (a b:List UInt8):List Nat:=(List.range (eZ b.length)).filter (tJ a b)
def mh:List Int->List UInt8
 | []=>[]
 | n::l=>bR (zz n)++mh l
def zm (b:List UInt8):Int->List Nat->List UInt8
 | _,[]=>[]
 | p,i::r=>bR (zz (i-p))++(cH b i++zm b i r)
def rA (a b:List UInt8):List Int:=[a.length,jf a,b.length,jf b,(kU a b).length]
def ep (a b:List UInt8):List UInt8:=mh (rA a b)++zm b (-1) (kU a b)
def wC (l:List Nat):List (List C):=l.map fun(i:Nat)=>([IC (i:Int)]:List C)
theorem yZ (l:List Nat):(wC l).length=l.length:=by simp[wC]
theorem Pc {l:List Nat}{k i:Nat}(h:l[k]?=some i):(wC l)[k]?=some [IC i]:=by simp[wC,h]
theorem Ft {a b:List UInt8}{i:Nat}(h:i∈kU a b):i<eZ b.length:=by
 simp only[kU,List.mem_filter,List.mem_range] at h;exact h.1
theorem GN (a b:List UInt8):(kU a b).length<=eZ b.length:=by
 have:=List.length_filter_le (tJ a b) (List.range (eZ b.length));simpa[kU] using this
theorem wZ:∀(f z:Nat),z<128 ^ (f+1)->(bR z).length<=f+1
 | 0,z,h=>by rw[bR,dif_pos (by omega)];simp
 | f+1,z,h=>by
  rw[bR];split
  ·simp
  ·have:=wZ f (z / 128) (by rw[Nat.pow_succ] at h;omega);simp only[aaV];omega
theorem Qr (n:Int) (m:Nat) (a:-(m:Int)<=n) (b:n<=m):zz n<=2*m:=by
 unfold zz;split<;>omega
theorem nH (n:Int) (a:-2305843009213693952<=n) (b:n<=2305843009213693952):(bR (zz n)).length<=10 :=
 wZ 9 _ (Nat.lt_of_le_of_lt (Qr n 2305843009213693952 a b) (by decide))
def Sm (n:Int):Prop:=-2305843009213693952<=n/\n<=2305843009213693952
theorem AV:∀(l:List Int),(∀n∈l,Sm n)->(mh l).length<=10*l.length
 | [],_=>by simp[mh]
 | n::l,h=>by
  have b:=nH n (h n (by simp)).1 (h n (by simp)).2;have c:=AV l fun m a=>h m (by simp[a]);simp only[mh,yo,aaV];omega
theorem D7 (b:List UInt8) (i:Nat):(cH b i).length<=32:=by unfold cH;rw[aa6];omega
theorem GP (b:List UInt8):∀(p:Int) (l:List Nat),-1<=p->p<=1152921504606846976->(∀i∈l,i<=1152921504606846976)->(zm b p l).length<=42*l.length
 | p,[],_,_,_=>by simp[zm]
 | p,i::l,c,e,h=>by
  have hi:=h i (by simp);have j:=nH (i-p) (by omega) (by omega);have d:=GP b i l (by omega) (by omega) fun m a=>h m (by simp[a]);have f:=D7 b i;simp only[zm,yo,aaV];omega
theorem UF {els:List (List C)}{c:List C}{K:Prop}(n:Nat) (d:c.length=1) (b:els.length=n) (h:n<=2 ^ 40) (k:K):rY els [c] 1 8 K :=
 ⟨fun es a=>(by rcases xC.1 a with rfl | a;exact d;cases a),by rw[b];simp only[aaV,abb,maxLen];omega,by
  rw[b];simp only[aaV,abb];omega,k⟩
theorem Iw (s:List Nat) (k:Nat):wC s++[[IC (k:Int)]]=wC (s++[k]):=by simp[wC]
theorem X2 {l:List Nat}{k:Nat}{x:Nat}{K:List C->Prop}(a:l[k]?=some x) (h:K [IC (x:Int)]):Bv (wC l) (k:Int) 1 K:=⟨[IC (x:Int)],by omega,Pc a,rfl,h⟩
set_option maxRecDepth 20000 in
theorem YV (a b:List UInt8) (ha:a.length<=1073741824) (hb:b.length<=1073741824) :
  CallsT PZ 18 [.sl (af a),.sl (af b)] [] (iQ [] (.sl (af (ep a b)))):=by
 have ag:(af a).length=a.length:=aO;have w:(af b).length=b.length:=aO;obtain⟨n,y⟩:∃n,eZ b.length=n:=⟨_,rfl⟩;have bd:n<=33554433:=by rw[<-y];unfold eZ;omega
 have am:CallsT PZ 61 [IC ((af b).length:Nat)] [] (iQ [] (IC (n:Nat))):=by
  rw[w,<-y];exact YU b.length (by omega)
 refine au Tryz.func18 NI rfl fun hw bc=>?_;refine bY am rfl fun _=>?_;refine bw n 16 [5] [] (fun _=>[.rw 30]) (fun s:List Nat=>[(30,.row 3 1 (wC s))]) (fun k s=>s=(List.range k).filter (tJ a b)) rfl (ah rfl) ⟨vL rfl rfl,trivial⟩ ⟨.inr ⟨rfl,3,1,rfl⟩,trivial⟩ (fun _=>rfl) (fun _=>rfl) ?_;rintro k s hk j _ _ r;refine aM (fun c=>?_) (fun o=>?_)
 ·have c:k<n:=by omega
  have aw:s.length<=k:=by
   have:=List.length_filter_le (tJ a b) (List.range k);rw[j];simpa using this
  have ac:(List.range (k+1)).filter (tJ a b)=s++if tJ a b k=true then[k] else[]:=by
   rw[List.range_succ,List.filter_append,<-j];congr 1;cases e:tJ a b k<;>simp[e]
  refine bY (XY a k (by omega)) rfl fun _=>?_;refine bY (XY b k (by omega)) rfl fun _=>?_;refine bY (t29 (cH a k) (cH b k)) rfl fun _=>?_;refine aB (fun u=>?_) (fun u=>?_)
  ·have u:tJ a b k=true:=u;refine UF s.length rfl (yZ s) (by omega) ?_;refine Fit.aae (by omega) (by omega) ?_;refine⟨(k+1,s++[k]),⟨c,by rw[ac,eu u]⟩,⟨bE,ah rfl,trivial⟩,⟨.inl ⟨_,rfl,.inl ⟨j3 (TO.row 3 1) (Iw s k),rfl⟩⟩,trivial⟩,bF c⟩
  ·have u:tJ a b k=false:=u;refine Fit.aae (by omega) (by omega) ?_;refine⟨(k+1,s),⟨c,by rw[ac,o6 (by rw[u];exact aby),aaU]⟩,⟨bE,ah rfl,trivial⟩,⟨.inl ⟨_,rfl,.inl ⟨rfl,rfl⟩⟩,trivial⟩,bF c⟩
 have j:s=kU a b:=by
  have:k=n:=by omega
  rw[j,this,<-y];rfl
 have be:s.length<=n:=by rw[j,<-y];exact GN a b
 have ay:=kg a;have ba:=kg b;have ad:[((af a).length:Int),jf a,((af b).length:Int),jf b,((wC s).length:Int)]=rA a b:=by rw[ag,w,yZ,j];rfl
 have z:∀m∈rA a b,Sm m:=by
  intro m hm;simp only[rA,<-j,xC,List.not_mem_nil,or_false] at hm;unfold Sm;rcases hm with rfl | rfl | rfl | rfl | rfl<;>omega
 refine bY (Td a) rfl fun _=>?_;refine bY (Td b) rfl fun _=>?_;have hN:=AV _ z;have h5:(rA a b).length=5:=rfl;have hD:(ep a b).length<=50+42*s.length:=by
  have:=GP b (-1) (kU a b) (by omega) (by omega) fun i hi=>by have:=Ft hi;omega
  rw[<-j] at this;rw[ep,yo,<-j];omega
 refine bw 5 46 [] [] (fun _=>[]) (fun d:List UInt8=>[(33,.box 108 [.rw 60,IC 0,.int .i8 0]),(60,.row 5 1 (af d))]) (fun k d=>d++mh ((rA a b).drop k)=mh (rA a b)) rfl (ah rfl) trivial
  ⟨.inl ⟨_,rfl,.inr ⟨108,_,_,rfl,rfl,⟨_,_,rfl,vL rfl rfl,⟨_,_,rfl,ah rfl,⟨_,_,rfl,ah rfl,rfl⟩⟩⟩⟩⟩,.inr ⟨rfl,5,1,rfl⟩,trivial⟩ (fun _=>rfl) (fun _=>rfl) ?_
 rintro k d hk f _ _ r;refine aM (fun c=>?_) (fun o=>?_)
 ·have h:(k:Int)<(5:Nat):=c;have h:k<5:=by omega
  refine eU (l:=rA a b) h fun x hx v t=>?_;rw[t] at f;obtain⟨x1,x2⟩:=z x v;have ae:=nH x x1 x2;have an:d.length+10<=1000:=by
   have:=j3 List.length f;rw[yo] at this;omega
  refine K0 (l:=[((af a).length:Int),jf a,((af b).length:Int),jf b,((wC s).length:Int)]) (by rw[ad];exact hx) ?_;refine callO [33,60] [33,60] (Ua 108 d x (by omega) (by omega) (by omega)) rfl rfl rfl rfl rfl fun _ _=>?_;refine Fit.aae (by omega) (by omega) ?_;refine⟨(k+1,d++bR (zz x)),⟨h,by rw[aaR];exact f⟩,⟨bE,trivial⟩,⟨.inl ⟨_,rfl,.inl ⟨rfl,rfl⟩⟩,.inl ⟨_,rfl,.inl ⟨rfl,rfl⟩⟩,trivial⟩,bF h⟩
 have ap:¬(k:Int)<(5:Nat):=o;have f:d=mh (rA a b):=by
  rw[List.drop_eq_nil_of_le (by omega)] at f;simpa[mh] using f
 have av:(wC s).length=s.length:=yZ s;refine bw s.length 56 [10] (d,(-1:Int)) (fun x:List UInt8×Int=>[IC x.2]) (fun x=>[(33,.box 108 [.rw 60,IC 0,.int .i8 0]),(60,.row 5 1 (af x.1))])
  (fun k x=>x.1++zm b x.2 (s.drop k)=ep a b/\-1<=x.2/\x.2<=33554433) ⟨by rw[f,j];rfl,by omega,by omega⟩ (ah rfl) ⟨ah rfl,trivial⟩
  ⟨.inl ⟨_,rfl,.inl ⟨rfl,rfl⟩⟩,.inl ⟨_,rfl,.inl ⟨rfl,rfl⟩⟩,trivial⟩ (fun _=>rfl) (fun _=>rfl) ?_
 rintro k ⟨d,p⟩ hk ⟨f,ab,aa⟩ _ _ r;refine aM (fun c=>?_) (fun o=>?_)
 ·have c:k<s.length:=by omega
  refine eU c fun x hx v t=>?_;have f:d++zm b p (s.drop k)=ep a b:=f;rw[t] at f;have ab:-1<=p:=ab;have aa:p<=33554433:=aa;have aE:x<n:=by rw[<-y];exact Ft (by rw[<-j];exact v)
  have ae:=nH (x-p) (by omega) (by omega);have bb:=D7 b x;have an:d.length<=50+42*s.length:=by
   have:=j3 List.length f;rw[yo] at this;omega
  refine X2 hx ?_;refine Fit.aae (by omega) (by omega) ?_;refine callO [33,60] [33,60] (Ua 108 d (x-p) (by omega) (by omega) (by omega)) rfl rfl rfl rfl rfl fun _ _=>?_;refine jy (XY b x (by omega)) rfl fun _=>?_;refine BQ [33,60] [33,60] (T9 108 [] rfl (d++bR (zz (x-p))) (cH b x) (by rw[yo];omega) (by have:=j9 (zz (x-p));rw[yo];omega)) rfl rfl rfl rfl rfl fun _ _=>?_;refine Fit.aae (by omega) (by omega) ?_;refine⟨(k+1,(d++bR (zz (x-p))++cH b x,(x:Int))),⟨c,by simpa[zm] using f,by show(-1:Int)<=(x:Int);omega,by show(x:Int)<=33554433;omega⟩,⟨bE,ah rfl,trivial⟩,⟨.inl ⟨_,rfl,.inl ⟨rfl,rfl⟩⟩,.inl ⟨_,rfl,.inl ⟨rfl,rfl⟩⟩,trivial⟩,bF c⟩
 have o:¬k<s.length:=by omega
 have f:d++zm b p (s.drop k)=ep a b:=f;have f:d=ep a b:=by
  rw[List.drop_eq_nil_of_le (by omega)] at f;simpa[zm] using f
 refine uE [60] [33] [33] (Sc 108 d) ⟨_,rfl,rfl,rfl,rfl,rfl,fun _ _=>?_⟩;exact bK rfl (j3 (fun q=>C.sl (af q)) f)
end Go.Fr.Tryz
namespace Go.Fr.Tryz
open Go Go.RowKit Go.Proofs Go.Fr Go.Fr.T Go.Fr.Api
def w0:Wd:=⟨[],[],[],[],[],0,0,0⟩
def DB (bs:List UInt8) (cs:List C):List TO:=[.box 86 [.own 1001 0],RB bs,.box 34 cs]
def oC (bs:List UInt8):Option Wd:=match DU bs with
 | some (x,[])=>some x
 | _=>none
theorem Iy {bs:List UInt8}(h:DU bs=none):oC bs=none:=by unfold oC;rw[h]
theorem Iz {bs r:List UInt8}{x:Wd}(h:DU bs=some (x,r)) (a:decide (((af r).length:Int)=0)=false):oC bs=none:=by
 unfold oC;rw[h];cases r with
 | nil=>simp[af] at a
 | cons=>rfl
theorem IA {bs r:List UInt8}{x:Wd}(h:DU bs=some (x,r)) (b:decide (((af r).length:Int)=0)=true):oC bs=some x/\r=[]:=by
 unfold oC;rw[h];cases r with
 | nil=>exact⟨rfl,rfl⟩
 | cons a l=>simp[af] at b;omega
theorem t34 (b a:List (List C)) (d:Int) (bs:List UInt8) :
  CallsTX PZ 34 [.own 1000 0,.own 1002 0] (DB bs (uQ b a d w0)) (fun Mo c=>∃x,oC bs=some x/\Mo=DB [] (uQ b a d x)/\c=.tup []) (fun v=>v=fG/\oC bs=none):=by
 refine ak Tryz.func34 NY rfl fun l j=>?_;refine bW [1001,1002] (XE 34 b a d bs) rfl rfl rfl rfl (fun v h=>⟨h.1,Iy h.2⟩) ?_;rintro v Mo ⟨x,r,e,rfl,rfl⟩ _ _;refine⟨rfl,?_⟩;refine bW [] (uY (decide (((af r).length:Int)=0))) rfl rfl rfl rfl (fun v h=>⟨h.1,Iz e h.2⟩) ?_;rintro v Mo ⟨k,rfl,rfl⟩ _ _;refine⟨rfl,?_⟩;obtain⟨f,rfl⟩:=IA e k;exact di [1000,1001,1002] rfl rfl rfl rfl ⟨x,f,rfl,rfl⟩
theorem X3 (a d:List (List C)) (b:Int) (bs:List UInt8) :
  CallsT PZ 33 [.fn 34 [] [.own 1000 0,.own 1002 0]] (DB bs (uQ a d b w0)) (fun Mo c=>(∃x,oC bs=some x/\Mo=DB [] (uQ a d b x)/\c=.bool true)\/(oC bs=none/\sI (DB bs (uQ a d b w0)) Mo/\c=.bool false)):=by
 refine gZ (PS:=fun v=>v=fG/\oC bs=none) (ns:=[1]) (out:=Lp) Tryz.func33 wT (qo.mono wY fun v h=>h.1) (fun v h=>rfl) rfl rfl ?_ fun n j=>?_
 ·rintro v ⟨rfl,h⟩;refine⟨.bool false,.bool false,?_,?_,fun Mo l=>.inr ⟨h,l,rfl⟩⟩
  ·intro L ρ k;obtain⟨m,g,t,f⟩:=k 0 2 _ rfl rfl;simp only[lU,m,f];rfl
  ·intro F L;rw[Rel]
 refine⟨rfl,?_⟩;refine bW [1000,1001,1002] (t34 a d b bs) rfl rfl rfl rfl (fun v h=>h) ?_;rintro v Mo ⟨x,e,rfl,rfl⟩ _ _;refine⟨rfl,?_⟩;exact di [1000,1001,1002] rfl rfl rfl rfl (.inl ⟨x,e,rfl,rfl⟩)
theorem vN {L L1:TL}:Ml L L1 .nils (.sl []):=.inr (.inr (.inl ⟨rfl,rfl⟩))
theorem jo {t:Nat}(n:Nat) (F:aD) (L:Loc) (p:Own) (r:cZ F L (.box t (List.replicate n .any)) p):cZ F L (.win t (List.replicate n .any) [] []) p :=
 wV (by simp) (AK n) (fun c h=>by cases h) F L p r
theorem UG (a d:List (List C)) (b:Int) (bs:List UInt8) :
  CallsT PZ 33 [.fn 34 [] [.own 1000 0,.own 1002 0]] [.box 86 [.own 1001 0],RB bs,.box 34 [.sl a,.sl d,IC b,.nils,.nils,.nils,.nils,.nils,IC 0,IC 0,IC 0]]
   (fun Mo c=>(∃x,oC bs=some x/\Mo=DB [] (uQ a d b x)/\c=.bool true)\/(oC bs=none/\(∃m k f,Mo=[.win 86 m [] [],.win 88 k [] [],.win 34 f [] []])/\c=.bool false)) :=
 (((CallsT.gives (Lin:=[.box 86 [.own 1001 0],RB bs,.box 34 [.sl a,.sl d,IC b,.nils,.nils,.nils,.nils,.nils,IC 0,IC 0,IC 0]]) (X3 a d b bs)
    ⟨.inl ⟨_,rfl,.inl ⟨rfl,rfl⟩⟩,.inl ⟨_,rfl,.inl ⟨rfl,rfl⟩⟩,.inl ⟨_,rfl,.inr ⟨34,_,_,rfl,rfl,⟨_,_,rfl,ah rfl,⟨_,_,rfl,ah rfl,⟨_,_,rfl,ah rfl,⟨_,_,rfl,vN,⟨_,_,rfl,vN,⟨_,_,rfl,vN,⟨_,_,rfl,vN,⟨_,_,rfl,vN,⟨_,_,rfl,ah rfl,⟨_,_,rfl,ah rfl,⟨_,_,rfl,ah rfl,rfl⟩⟩⟩⟩⟩⟩⟩⟩⟩⟩⟩⟩⟩,trivial⟩ (aa7 3):CallsT PZ 33 _ _ _).toX (Pp:=fun _=>False)).view (vw.refl _) (by
  rintro Mo c (h | ⟨j,⟨e,M1,rfl,l,M2,rfl,n,M3,rfl,rfl⟩,rfl⟩)
  ·exact⟨Mo,vw.refl _,.inl h⟩
  ·exact⟨_,vw.cons (jo e) (vw.cons (jo l) (vw.cons (jo n) (vw.refl []))),.inr ⟨j,⟨_,_,_,rfl⟩,rfl⟩⟩) fun _ h=>h).noPan
def nN (bs:List UInt8):Option Wd×Int :=
 if bs.length<7\/¬bM <+: bs then(none,16)
 else if¬fR (bs.take (bs.length-4))=bs then(none,17)
 else match oC ((bs.take (bs.length-4)).drop 3) with
  | some x=>(some x,0)
  | none=>(none,16)
def X4 (c a:List (List C)) (b:Int):Option Wd×Int->C
 | (some x,e)=>.tup [.agg (uQ c a b x),IC e]
 | (none,e)=>.tup [.agg (uQ [] [] 0 w0),IC e]
theorem Vm (m p:List (List C)) (o:Int) (bs:List UInt8) (hb:bs.length<=70368744177664) :
  CallsT PZ 10 [.agg [.sl m,.sl p,IC o],.sl (af bs)] [] (iQ [] (X4 m p o (nN bs))):=by
 have l:(af bs).length=bs.length:=aO;obtain⟨s,f⟩:∃s,bs.take (bs.length-4)=s:=⟨_,rfl⟩;have ag:s.length<=bs.length:=by rw[<-f,aa6];omega
 obtain⟨d,k⟩:∃d,nN bs=d:=⟨_,rfl⟩;rw[k];have w:bs.length<7->d=(none,16):=fun h=>by rw[<-k];unfold nN;rw[eu (.inl h)]
 have y:¬bM <+: bs->d=(none,16):=fun h=>by rw[<-k];unfold nN;rw[eu (.inr h)]
 have u:¬bs.length<7->bM <+: bs->¬fR s=bs->d=(none,17):=fun a t z=>by
  rw[<-k];unfold nN;rw[o6 (fun h=>h.elim a (fun h=>h t)),f,eu z]
 have j:¬bs.length<7->bM <+: bs->fR s=bs->d=match oC (s.drop 3) with | some x=>(some x,0) | none=>(none,16):=fun a t z=>by
  rw[<-k];unfold nN;rw[o6 (fun h=>h.elim a (fun h=>h t)),f,o6 (fun h=>h z)]
 have e:=UG m p o (s.drop 3);generalize oC (s.drop 3)=ad at j e;refine au Tryz.func10 NE rfl fun hw am=>?_;refine aM (fun h0=>?_) (fun h0=>?_)
 ·exact bK rfl (by rw[w (by omega)];rfl)
 have h7:¬bs.length<7:=by omega
 have n:((af bs).drop 0).take (((af bs).length-4:Int).toNat-0)=af s:=by
  rw[gG,l,show((bs.length:Int)-4).toNat-0=bs.length-4 by omega,<-f];rfl
 have e2:(3:Int)<=((((af bs).drop 0).take (((af bs).length-4:Int).toNat-0)).length:Int):=by rw[n,aO,<-f,aa6];omega
 have e3:∀es∈(((af bs).drop 0).take (((af bs).length-4:Int).toNat-0)),es.length=1:=by rw[n];exact eJ
 have aa:((((af bs).drop 0).take (((af bs).length-4:Int).toNat-0)).drop 3).take (((((af bs).drop 0).take (((af bs).length-4:Int).toNat-0)).length:Int).toNat-3)=af (s.drop 3):=by
  rw[n,gG,aO,abv (by simp)]
 refine bY YT rfl fun _=>?_;refine bY (t29 bs bM) rfl fun _=>?_;refine aB (fun a=>?_) (fun a=>?_)
 ·have a:(!decide (bM <+: bs))=true:=a;exact bK rfl (by rw[y (by simpa using a)];rfl)
 have a:(!decide (bM <+: bs))=false:=a;have a:bM <+: bs:=by simpa using a
 refine Fit.aae (by omega) (by omega) ?_;refine Bw.mk (by omega) (by omega) (by omega) eJ ?_;refine callO [] [25] (t32 s (by omega)) rfl rfl (j3 (fun q=>[C.sl q]) n) rfl rfl fun _ _=>?_;refine uE [25] [] [] (t31 (fR s) bs) ⟨_,rfl,rfl,rfl,rfl,rfl,fun _ _=>?_⟩;refine aB (fun c=>?_) (fun b=>?_)
 ·have c:(!decide (fR s=bs))=true:=c;exact bK rfl (by rw[u h7 a (by simpa using c)];rfl)
 have b:(!decide (fR s=bs))=false:=b;have h4:=j h7 a (by simpa using b);refine Bw.mk (by decide) e2 (abe _) e3 ?_;refine Co [7,33,8] e rfl rfl rfl (j3 (fun q=>[TO.box 86 [C.own 1001 0],.box 88 [.sl q],.box 34 [.sl m,.sl p,IC o,.nils,.nils,.nils,.nils,.nils,IC 0,IC 0,IC 0]]) aa) ?_;rintro v Mo (⟨x,r,rfl,rfl⟩ | ⟨r,⟨p1,p2,p3,rfl⟩,rfl⟩) _ _
 ·refine⟨rfl,?_⟩;exact bK rfl (by rw[h4,r];rfl)
 ·refine⟨rfl,?_⟩;exact bK rfl (by rw[h4,r];rfl)
structure IB where
 slot:Int
 excl:Bool
 re:Bool
structure Slot where
 state:Int
 type:Ty
 var:Int
 flag:Int
 lent:List IB
structure zS where
 name:ByteArray
 params:List Ty
 result:Ty
 ties:List Int
 slots:Int
 blocks:List Block
 entry:List (List Slot)
structure zT where
 datas:List Api.Data
 routs:List zS
 main:Int
def AW (x:IB):List C:=[IC x.slot,.bool x.excl,.bool x.re]
def iP (x:Slot):List C:=[IC x.state,IC x.type.kind,IC x.type.id,.sl (x.type.args.map uL),IC x.var,IC x.flag,.sl (x.lent.map AW)]
def oD (l:List Slot):List C:=[.sl (l.map iP)]
def jd (r:zS):List C:=[.str r.name,.sl (r.params.map uL),IC r.result.kind,IC r.result.id,.sl (r.result.args.map uL),.sl (tM r.ties),IC r.slots,.sl (r.blocks.map iO),.sl (r.entry.map oD)]
def Lr (i:zT):List C:=[.sl (i.datas.map jc),.sl (i.routs.map jd),IC i.main]
def GQ (t:Ty):C:=.agg [IC t.kind,IC t.id,.sl (t.args.map uL)]
noncomputable def Ls (p:Prop):Bool:=@decide p (Classical.propDecidable p)
theorem Cp {p:Prop}:Ls p=true↔p:=by unfold Ls;exact @decide_eq_true_iff p (Classical.propDecidable p)
theorem lR {p:Prop}(h:Ls p=true):p:=Cp.1 h
theorem mo {p:Prop}(h:Ls p=false):¬p:=fun q=>by rw[Cp.2 q] at h;cases h
theorem bQ {p:Prop}(h:¬p):false=Ls p:=by
 cases e:Ls p with
 | true=>exact o4 (lR e) h
 | false=>rfl
theorem kh {p:Prop}(h:p):true=Ls p:=(Cp.2 h).symm
theorem jH {p q:Prop}(h:p↔q):Ls p=Ls q:=by rw[show p=q from propext h]
theorem oE {c:Type}{a b:List c}(h:¬a.length=b.length):a≠b:=fun e=>h (by rw[e])
theorem jq {c:Type}{a b:List c}{n:Nat}(d:a.length=n) (hb:b.length=n) (h:∀j<n,a[j]?=b[j]?):a=b:=by
 apply abp;intro i
 by_cases hi:i<n
 ·exact h i hi
 ·rw[aaY (by omega),aaY (by omega)]
theorem oF {d:Type}{a b:List d}{k:Nat}{x y:d}(c:a[k]?=some x) (f:b[k]?=some y) (h:x≠y):a≠b:=fun e=>h (by rw[e,f] at c;injection c with c;exact c.symm)
theorem jr {d:Type}{a b:List d}{k:Nat}{x y:d}(h:∀j<k,a[j]?=b[j]?) (f:a[k]?=some x) (l:b[k]?=some y) (e:x=y):∀j<k+1,a[j]?=b[j]?:=by
 intro j m
 by_cases c:j=k
 ·rw[c,f,l,e]
 ·exact h j (by omega)
theorem bV {a:Type}{l:List a}{k:Nat}(h:k<l.length):∃x,l[k]?=some x:=⟨l[k],v7 h⟩
theorem Cq {a b:ByteArray}(h:a.data.toList=b.data.toList):a=b:=by
 cases a;cases b;simp only at h;rw[Array.toList_inj.1 h]
def ga (f:Nat) (args:List C) (p:Prop):Prop:=CallsT PZ f args [] (iQ [] (.bool (Ls p)))
theorem Sw (a b:List (Int)):ga 129 [.sl (tM a),.sl (tM b)] (a=b):=by
 refine au Tryz.func129 Kx rfl fun q _=>?_;have m:(tM a).length=a.length:=by simp[tM]
 have hb:(tM b).length=b.length:=by simp[tM]
 have s:a.length<=9223372036854775807:=by have:=nE q.1;rwa [m] at this
 refine aB (fun d=>?_) (fun d=>?_)
 ·have d:¬a.length=b.length:=fun e=>by
   rw[m,hb,e] at d;simp at d
  exact bK rfl (j3 C.bool (bQ (oE d)))
 have d:a.length=b.length:=by
  rw[m,hb] at d;simp at d;omega
 refine bw a.length 13 [] () (fun _=>[]) (fun _=>[]) (fun k _=>∀j<k,a[j]?=b[j]?) (fun j r=>o4 r (by omega)) (ah rfl) trivial trivial (fun _=>rfl) (fun _=>rfl) ?_;rintro k ⟨⟩ t f _ _ _;refine aM (fun c=>?_) (fun n=>?_)
 ·have c:k<a.length:=by rw[m] at c;omega
  obtain⟨x,p⟩:=bV c;obtain⟨y,o⟩:=bV (l:=b) (k:=k) (by omega);refine K0 p ?_;refine K0 o ?_;refine aB (fun h=>?_) (fun h=>?_)
  ·have h:¬x=y:=by simpa using h
   exact bK rfl (j3 C.bool (bQ (oF p o h)))
  ·have h:x=y:=by simpa using h
   refine Fit.aae (by omega) (by omega) ?_;exact⟨(k+1,()),⟨c,jr f p o h⟩,⟨bE,trivial⟩,trivial,bF c⟩
 ·have n:¬k<a.length:=by rw[m] at n;omega
  have:k=a.length:=by omega
  subst this;exact bK rfl (j3 C.bool (kh (jq rfl d.symm f)))
theorem X5 (a b:List (IB)):ga 145 [.sl (a.map AW),.sl (b.map AW)] (a=b):=by
 refine au Tryz.func145 KN rfl fun q _=>?_;have m:(a.map AW).length=a.length:=by simp
 have hb:(b.map AW).length=b.length:=by simp
 have s:a.length<=9223372036854775807:=by have:=nE q.1;rwa [m] at this
 refine aB (fun d=>?_) (fun d=>?_)
 ·have d:¬a.length=b.length:=fun e=>by
   rw[m,hb,e] at d;simp at d
  exact bK rfl (j3 C.bool (bQ (oE d)))
 have d:a.length=b.length:=by
  rw[m,hb] at d;simp at d;omega
 refine bw a.length 13 [] () (fun _=>[]) (fun _=>[]) (fun k _=>∀j<k,a[j]?=b[j]?) (fun j r=>o4 r (by omega)) (ah rfl) trivial trivial (fun _=>rfl) (fun _=>rfl) ?_;rintro k ⟨⟩ t f _ _ _;refine aM (fun c=>?_) (fun n=>?_)
 ·have c:k<a.length:=by rw[m] at c;omega
  obtain⟨x,p⟩:=bV c;obtain⟨y,o⟩:=bV (l:=b) (k:=k) (by omega);refine cD p rfl rfl ?_;refine cD o rfl rfl ?_;refine aB (fun h=>?_) (fun h=>?_)
  ·have h:¬x=y:=fun e=>by subst e;simp[n9] at h
   exact bK rfl (j3 C.bool (bQ (oF p o h)))
  ·have h:x=y:=by cases x;cases y;simp[n9] at h;simp[h]
   refine Fit.aae (by omega) (by omega) ?_;exact⟨(k+1,()),⟨c,jr f p o h⟩,⟨bE,trivial⟩,trivial,bF c⟩
 ·have n:¬k<a.length:=by rw[m] at n;omega
  have:k=a.length:=by omega
  subst this;exact bK rfl (j3 C.bool (kh (jq rfl d.symm f)))
theorem t138 (a b:List (Ty)) (r:∀x∈a,∀y,ga 127 [GQ x,GQ y] (x=y)):ga 138 [.sl (a.map uL),.sl (b.map uL),.fn 127 [] []] (a=b):=by
 refine au Tryz.func138 KF rfl fun q _=>?_;have m:(a.map uL).length=a.length:=by simp
 have hb:(b.map uL).length=b.length:=by simp
 have t:a.length<=9223372036854775807:=by have:=nE q.1;rwa [m] at this
 refine aB (fun d=>?_) (fun d=>?_)
 ·have d:¬a.length=b.length:=fun e=>by
   rw[m,hb,e] at d;simp at d
  exact bK rfl (j3 C.bool (bQ (oE d)))
 have d:a.length=b.length:=by
  rw[m,hb] at d;simp at d;omega
 refine bw a.length 17 [] () (fun _=>[]) (fun _=>[]) (fun k _=>∀j<k,a[j]?=b[j]?) (fun j s=>o4 s (by omega)) (ah rfl) trivial trivial (fun _=>rfl) (fun _=>rfl) ?_;rintro k ⟨⟩ u f _ _ _;refine aM (fun c=>?_) (fun n=>?_)
 ·have c:k<a.length:=by rw[m] at c;omega
  obtain⟨x,o⟩:=bV c;obtain⟨y,p⟩:=bV (l:=b) (k:=k) (by omega);refine Gt o ?_;refine Gt p ?_;refine bY (r x (aaQ o) y) rfl fun _=>?_;refine aB (fun h=>?_) (fun h=>?_)
  ·have h:¬x=y:=mo (by simpa using h);exact bK rfl (j3 C.bool (bQ (oF o p h)))
  ·have h:x=y:=lR (by simpa using h);refine Fit.aae (by omega) (by omega) ?_;exact⟨(k+1,()),⟨c,jr f o p h⟩,⟨bE,trivial⟩,trivial,bF c⟩
 ·have n:¬k<a.length:=by rw[m] at n;omega
  have:k=a.length:=by omega
  subst this;exact bK rfl (j3 C.bool (kh (jq rfl d.symm f)))
theorem UH (a b:List (Ty)) (c:∀x∈a,∀y,ga 127 [GQ x,GQ y] (x=y)):ga 126 [.sl (a.map uL),.sl (b.map uL),.fn 127 [] []] (a=b):=by
 refine au Tryz.func126 Ku rfl fun d _=>?_;refine bY (t138 a b c) rfl fun _=>?_;exact bK rfl rfl
theorem UI {x y:Ty}(a:x.kind=y.kind) (b:x.id=y.id) (c:x.args=y.args):x=y:=by
 cases x;cases y
 simp_all [Ty.kind,Ty.id,Ty.args]
theorem Qs {x t:Ty}(h:x∈t.args):SizeOf.sizeOf x<SizeOf.sizeOf t:=by
 cases t;have:=List.sizeOf_lt_of_mem h;simp only[Ty.args] at this;simp only[Ty.mk.sizeOf_spec];omega
theorem Qt:∀(n:Nat) (x y:Ty),SizeOf.sizeOf x<n->ga 127 [GQ x,GQ y] (x=y)
 | 0,x,y,h=>o4 h (by omega)
 | n+1,x,y,h=>by
  have c:∀z∈x.args,∀w,ga 127 [GQ z,GQ w] (z=w):=fun z d w=>Qt n z w (by have:=Qs d;omega);refine au Tryz.func127 Kv rfl fun f _=>?_;refine aM (fun a=>?_) (fun a=>bK rfl (j3 C.bool (bQ fun e=>a (by rw[e]))));refine aM (fun b=>?_) (fun b=>bK rfl (j3 C.bool (bQ fun e=>b (by rw[e]))));refine bY (UH x.args y.args c) rfl fun _=>?_;exact bK rfl (j3 C.bool (jH ⟨fun h=>UI a b h,fun e=>by rw[e]⟩))
theorem Sy (x y:Ty):ga 127 [GQ x,GQ y] (x=y):=Qt _ x y (abL _)
theorem Lu (a b:List Ty):ga 126 [.sl (a.map uL),.sl (b.map uL),.fn 127 [] []] (a=b):=UH a b fun x _ y=>Sy x y
theorem var_eq {x y:Variant}(b:x.name=y.name) (a:x.fields=y.fields):x=y:=by
 rcases x with⟨⟩
 rcases y with⟨⟩
 simp_all
theorem X6 (x y:Variant):ga 125 [.agg (fk x),.agg (fk y)] (x=y):=by
 refine au Tryz.func125 Kt rfl fun b _=>?_;refine aM (fun a=>?_) (fun a=>bK rfl (j3 C.bool (bQ fun e=>a (by rw[e]))));refine bY (Lu x.fields y.fields) rfl fun _=>?_;exact bK rfl (j3 C.bool (jH ⟨fun h=>var_eq (Cq a) h,fun e=>by rw[e]⟩))
theorem X7 (a b:List (Variant)) (r:∀x∈a,∀y,ga 125 [.agg (fk x),.agg (fk y)] (x=y)):ga 137 [.sl (a.map fk),.sl (b.map fk),.fn 125 [] []] (a=b):=by
 refine au Tryz.func137 KE rfl fun q _=>?_;have m:(a.map fk).length=a.length:=by simp
 have hb:(b.map fk).length=b.length:=by simp
 have t:a.length<=9223372036854775807:=by have:=nE q.1;rwa [m] at this
 refine aB (fun d=>?_) (fun d=>?_)
 ·have d:¬a.length=b.length:=fun e=>by
   rw[m,hb,e] at d;simp at d
  exact bK rfl (j3 C.bool (bQ (oE d)))
 have d:a.length=b.length:=by
  rw[m,hb] at d;simp at d;omega
 refine bw a.length 17 [] () (fun _=>[]) (fun _=>[]) (fun k _=>∀j<k,a[j]?=b[j]?) (fun j s=>o4 s (by omega)) (ah rfl) trivial trivial (fun _=>rfl) (fun _=>rfl) ?_;rintro k ⟨⟩ u f _ _ _;refine aM (fun c=>?_) (fun n=>?_)
 ·have c:k<a.length:=by rw[m] at c;omega
  obtain⟨x,o⟩:=bV c;obtain⟨y,p⟩:=bV (l:=b) (k:=k) (by omega);refine cD o rfl rfl ?_;refine cD p rfl rfl ?_;refine bY (r x (aaQ o) y) rfl fun _=>?_;refine aB (fun h=>?_) (fun h=>?_)
  ·have h:¬x=y:=mo (by simpa using h);exact bK rfl (j3 C.bool (bQ (oF o p h)))
  ·have h:x=y:=lR (by simpa using h);refine Fit.aae (by omega) (by omega) ?_;exact⟨(k+1,()),⟨c,jr f o p h⟩,⟨bE,trivial⟩,trivial,bF c⟩
 ·have n:¬k<a.length:=by rw[m] at n;omega
  have:k=a.length:=by omega
  subst this;exact bK rfl (j3 C.bool (kh (jq rfl d.symm f)))
theorem X8 (a b:List (Variant)) (c:∀x∈a,∀y,ga 125 [.agg (fk x),.agg (fk y)] (x=y)):ga 124 [.sl (a.map fk),.sl (b.map fk),.fn 125 [] []] (a=b):=by
 refine au Tryz.func124 Ks rfl fun d _=>?_;refine bY (X7 a b c) rfl fun _=>?_;exact bK rfl rfl
theorem Pd {x y:Api.Data}(a:x.name=y.name) (b:x.module=y.module) (d:x.params=y.params) (e:x.drop=y.drop) (c:x.variants=y.variants):x=y:=by
 rcases x with⟨⟩
 rcases y with⟨⟩
 simp_all
theorem t98 (x y:Api.Data):ga 98 [.agg (jc x),.agg (jc y)] (x=y):=by
 refine au Tryz.func98 OA rfl fun k _=>?_;refine aM (fun c=>?_) (fun c=>bK rfl (j3 C.bool (bQ fun e=>c (by rw[e]))));refine aM (fun d=>?_) (fun d=>bK rfl (j3 C.bool (bQ fun e=>d (by rw[e]))));refine aM (fun f=>?_) (fun f=>bK rfl (j3 C.bool (bQ fun e=>f (by rw[e]))));refine aM (fun j=>?_) (fun j=>bK rfl (j3 C.bool (bQ fun e=>j (by rw[e]))));refine bY (X8 x.variants y.variants fun a _ b=>X6 a b) rfl fun _=>?_;exact bK rfl (j3 C.bool (jH ⟨fun h=>Pd (Cq c) d f j h,fun e=>by rw[e]⟩))
theorem X9 (a b:List (Api.Data)) (r:∀x∈a,∀y,ga 98 [.agg (jc x),.agg (jc y)] (x=y)):ga 123 [.sl (a.map jc),.sl (b.map jc),.fn 98 [] []] (a=b):=by
 refine au Tryz.func123 Kr rfl fun q _=>?_;have m:(a.map jc).length=a.length:=by simp
 have hb:(b.map jc).length=b.length:=by simp
 have t:a.length<=9223372036854775807:=by have:=nE q.1;rwa [m] at this
 refine aB (fun d=>?_) (fun d=>?_)
 ·have d:¬a.length=b.length:=fun e=>by
   rw[m,hb,e] at d;simp at d
  exact bK rfl (j3 C.bool (bQ (oE d)))
 have d:a.length=b.length:=by
  rw[m,hb] at d;simp at d;omega
 refine bw a.length 17 [] () (fun _=>[]) (fun _=>[]) (fun k _=>∀j<k,a[j]?=b[j]?) (fun j s=>o4 s (by omega)) (ah rfl) trivial trivial (fun _=>rfl) (fun _=>rfl) ?_;rintro k ⟨⟩ u f _ _ _;refine aM (fun c=>?_) (fun n=>?_)
 ·have c:k<a.length:=by rw[m] at c;omega
  obtain⟨x,o⟩:=bV c;obtain⟨y,p⟩:=bV (l:=b) (k:=k) (by omega);refine cD o rfl rfl ?_;refine cD p rfl rfl ?_;refine bY (r x (aaQ o) y) rfl fun _=>?_;refine aB (fun h=>?_) (fun h=>?_)
  ·have h:¬x=y:=mo (by simpa using h);exact bK rfl (j3 C.bool (bQ (oF o p h)))
  ·have h:x=y:=lR (by simpa using h);refine Fit.aae (by omega) (by omega) ?_;exact⟨(k+1,()),⟨c,jr f o p h⟩,⟨bE,trivial⟩,trivial,bF c⟩
 ·have n:¬k<a.length:=by rw[m] at n;omega
  have:k=a.length:=by omega
  subst this;exact bK rfl (j3 C.bool (kh (jq rfl d.symm f)))
theorem t97 (a b:List (Api.Data)) (c:∀x∈a,∀y,ga 98 [.agg (jc x),.agg (jc y)] (x=y)):ga 97 [.sl (a.map jc),.sl (b.map jc),.fn 98 [] []] (a=b):=by
 refine au Tryz.func97 Oz rfl fun d _=>?_;refine bY (X9 a b c) rfl fun _=>?_;exact bK rfl rfl
theorem Sz {x y:E9}(c:x.op=y.op) (e:x.dst=y.dst) (h:x.a=y.a) (j:x.b=y.b) (f:x.n=y.n) (k:x.args=y.args) (d:x.types=y.types):x=y:=by
 rcases x with⟨⟩
 rcases y with⟨⟩
 simp_all
theorem t141 (x y:E9):ga 141 [.agg (sj x),.agg (sj y)] (x=y):=by
 refine au Tryz.func141 KI rfl fun k _=>?_;refine aM (fun a=>?_) (fun a=>bK rfl (j3 C.bool (bQ fun e=>a (by rw[e]))));refine aM (fun b=>?_) (fun b=>bK rfl (j3 C.bool (bQ fun e=>b (by rw[e]))));refine aM (fun d=>?_) (fun d=>bK rfl (j3 C.bool (bQ fun e=>d (by rw[e]))));refine aM (fun f=>?_) (fun f=>bK rfl (j3 C.bool (bQ fun e=>f (by rw[e]))));refine aM (fun c=>?_) (fun c=>bK rfl (j3 C.bool (bQ fun e=>c (by rw[e]))));refine bY (Sw x.args y.args) rfl fun _=>?_;refine aB (fun j=>?_) (fun j=>bK rfl (j3 C.bool (bQ fun e=>mo j (by rw[e]))));refine bY (Lu x.types y.types) rfl fun _=>?_;exact bK rfl (j3 C.bool (jH ⟨fun h=>Sz a b d f c (lR j) h,fun e=>by rw[e]⟩))
theorem Ya (a b:List (E9)) (r:∀x∈a,∀y,ga 141 [.agg (sj x),.agg (sj y)] (x=y)):ga 147 [.sl (a.map sj),.sl (b.map sj),.fn 141 [] []] (a=b):=by
 refine au Tryz.func147 KO rfl fun q _=>?_;have m:(a.map sj).length=a.length:=by simp
 have hb:(b.map sj).length=b.length:=by simp
 have t:a.length<=9223372036854775807:=by have:=nE q.1;rwa [m] at this
 refine aB (fun d=>?_) (fun d=>?_)
 ·have d:¬a.length=b.length:=fun e=>by
   rw[m,hb,e] at d;simp at d
  exact bK rfl (j3 C.bool (bQ (oE d)))
 have d:a.length=b.length:=by
  rw[m,hb] at d;simp at d;omega
 refine bw a.length 17 [] () (fun _=>[]) (fun _=>[]) (fun k _=>∀j<k,a[j]?=b[j]?) (fun j s=>o4 s (by omega)) (ah rfl) trivial trivial (fun _=>rfl) (fun _=>rfl) ?_;rintro k ⟨⟩ u f _ _ _;refine aM (fun c=>?_) (fun n=>?_)
 ·have c:k<a.length:=by rw[m] at c;omega
  obtain⟨x,o⟩:=bV c;obtain⟨y,p⟩:=bV (l:=b) (k:=k) (by omega);refine cD o rfl rfl ?_;refine cD p rfl rfl ?_;refine bY (r x (aaQ o) y) rfl fun _=>?_;refine aB (fun h=>?_) (fun h=>?_)
  ·have h:¬x=y:=mo (by simpa using h);exact bK rfl (j3 C.bool (bQ (oF o p h)))
  ·have h:x=y:=lR (by simpa using h);refine Fit.aae (by omega) (by omega) ?_;exact⟨(k+1,()),⟨c,jr f o p h⟩,⟨bE,trivial⟩,trivial,bF c⟩
 ·have n:¬k<a.length:=by rw[m] at n;omega
  have:k=a.length:=by omega
  subst this;exact bK rfl (j3 C.bool (kh (jq rfl d.symm f)))
theorem Yb (a b:List (E9)) (c:∀x∈a,∀y,ga 141 [.agg (sj x),.agg (sj y)] (x=y)):ga 140 [.sl (a.map sj),.sl (b.map sj),.fn 141 [] []] (a=b):=by
 refine au Tryz.func140 KH rfl fun d _=>?_;refine bY (Ya a b c) rfl fun _=>?_;exact bK rfl rfl
theorem Lv {x y:Block}(b:x.code=y.code) (d:x.fin.kind=y.fin.kind) (e:x.fin.a=y.fin.a) (f:x.fin.targets=y.fin.targets):x=y:=by
 rcases x with⟨c,⟨⟩⟩
 rcases y with⟨c,⟨⟩⟩
 simp_all
theorem Yc (x y:Block):ga 131 [.agg (iO x),.agg (iO y)] (x=y):=by
 refine au Tryz.func131 Kz rfl fun j _=>?_;refine bY (Yb x.code y.code fun a _ b=>t141 a b) rfl fun _=>?_;refine aB (fun c=>?_) (fun c=>bK rfl (j3 C.bool (bQ fun e=>mo c (by rw[e]))));refine aM (fun d=>?_) (fun d=>bK rfl (j3 C.bool (bQ fun e=>d (by rw[e]))));refine aM (fun f=>?_) (fun f=>bK rfl (j3 C.bool (bQ fun e=>f (by rw[e]))));refine bY (Sw x.fin.targets y.fin.targets) rfl fun _=>?_;exact bK rfl (j3 C.bool (jH ⟨fun h=>Lv (lR c) d f h,fun e=>by rw[e]⟩))
theorem t139 (a b:List (Block)) (r:∀x∈a,∀y,ga 131 [.agg (iO x),.agg (iO y)] (x=y)):ga 139 [.sl (a.map iO),.sl (b.map iO),.fn 131 [] []] (a=b):=by
 refine au Tryz.func139 KG rfl fun q _=>?_;have m:(a.map iO).length=a.length:=by simp
 have hb:(b.map iO).length=b.length:=by simp
 have t:a.length<=9223372036854775807:=by have:=nE q.1;rwa [m] at this
 refine aB (fun d=>?_) (fun d=>?_)
 ·have d:¬a.length=b.length:=fun e=>by
   rw[m,hb,e] at d;simp at d
  exact bK rfl (j3 C.bool (bQ (oE d)))
 have d:a.length=b.length:=by
  rw[m,hb] at d;simp at d;omega
 refine bw a.length 17 [] () (fun _=>[]) (fun _=>[]) (fun k _=>∀j<k,a[j]?=b[j]?) (fun j s=>o4 s (by omega)) (ah rfl) trivial trivial (fun _=>rfl) (fun _=>rfl) ?_;rintro k ⟨⟩ u f _ _ _;refine aM (fun c=>?_) (fun n=>?_)
 ·have c:k<a.length:=by rw[m] at c;omega
  obtain⟨x,o⟩:=bV c;obtain⟨y,p⟩:=bV (l:=b) (k:=k) (by omega);refine cD o rfl rfl ?_;refine cD p rfl rfl ?_;refine bY (r x (aaQ o) y) rfl fun _=>?_;refine aB (fun h=>?_) (fun h=>?_)
  ·have h:¬x=y:=mo (by simpa using h);exact bK rfl (j3 C.bool (bQ (oF o p h)))
  ·have h:x=y:=lR (by simpa using h);refine Fit.aae (by omega) (by omega) ?_;exact⟨(k+1,()),⟨c,jr f o p h⟩,⟨bE,trivial⟩,trivial,bF c⟩
 ·have n:¬k<a.length:=by rw[m] at n;omega
  have:k=a.length:=by omega
  subst this;exact bK rfl (j3 C.bool (kh (jq rfl d.symm f)))
theorem Yd (a b:List (Block)) (c:∀x∈a,∀y,ga 131 [.agg (iO x),.agg (iO y)] (x=y)):ga 130 [.sl (a.map iO),.sl (b.map iO),.fn 131 [] []] (a=b):=by
 refine au Tryz.func130 Ky rfl fun d _=>?_;refine bY (t139 a b c) rfl fun _=>?_;exact bK rfl rfl
theorem Pe {x y:Slot}(a:x.state=y.state) (b:x.type=y.type) (d:x.var=y.var) (e:x.flag=y.flag) (c:x.lent=y.lent):x=y:=by
 rcases x with⟨⟩
 rcases y with⟨⟩
 simp_all
theorem Ye (x y:Slot):ga 144 [.agg (iP x),.agg (iP y)] (x=y):=by
 refine au Tryz.func144 KM rfl fun f _=>?_;refine aM (fun a=>?_) (fun a=>bK rfl (j3 C.bool (bQ fun e=>a (by rw[e]))));refine bY (Sy x.type y.type) rfl fun _=>?_;refine aB (fun b=>?_) (fun b=>bK rfl (j3 C.bool (bQ fun e=>mo b (by rw[e]))));refine aM (fun c=>?_) (fun c=>bK rfl (j3 C.bool (bQ fun e=>c (by rw[e]))));refine aM (fun d=>?_) (fun d=>bK rfl (j3 C.bool (bQ fun e=>d (by rw[e]))));refine bY (X5 x.lent y.lent) rfl fun _=>?_;exact bK rfl (j3 C.bool (jH ⟨fun h=>Pe a (lR b) c d h,fun e=>by rw[e]⟩))
theorem Yf (a b:List (Slot)) (r:∀x∈a,∀y,ga 144 [.agg (iP x),.agg (iP y)] (x=y)):ga 148 [.sl (a.map iP),.sl (b.map iP),.fn 144 [] []] (a=b):=by
 refine au Tryz.func148 KP rfl fun q _=>?_;have m:(a.map iP).length=a.length:=by simp
 have hb:(b.map iP).length=b.length:=by simp
 have t:a.length<=9223372036854775807:=by have:=nE q.1;rwa [m] at this
 refine aB (fun d=>?_) (fun d=>?_)
 ·have d:¬a.length=b.length:=fun e=>by
   rw[m,hb,e] at d;simp at d
  exact bK rfl (j3 C.bool (bQ (oE d)))
 have d:a.length=b.length:=by
  rw[m,hb] at d;simp at d;omega
 refine bw a.length 17 [] () (fun _=>[]) (fun _=>[]) (fun k _=>∀j<k,a[j]?=b[j]?) (fun j s=>o4 s (by omega)) (ah rfl) trivial trivial (fun _=>rfl) (fun _=>rfl) ?_;rintro k ⟨⟩ u f _ _ _;refine aM (fun c=>?_) (fun n=>?_)
 ·have c:k<a.length:=by rw[m] at c;omega
  obtain⟨x,o⟩:=bV c;obtain⟨y,p⟩:=bV (l:=b) (k:=k) (by omega);refine cD o rfl rfl ?_;refine cD p rfl rfl ?_;refine bY (r x (aaQ o) y) rfl fun _=>?_;refine aB (fun h=>?_) (fun h=>?_)
  ·have h:¬x=y:=mo (by simpa using h);exact bK rfl (j3 C.bool (bQ (oF o p h)))
  ·have h:x=y:=lR (by simpa using h);refine Fit.aae (by omega) (by omega) ?_;exact⟨(k+1,()),⟨c,jr f o p h⟩,⟨bE,trivial⟩,trivial,bF c⟩
 ·have n:¬k<a.length:=by rw[m] at n;omega
  have:k=a.length:=by omega
  subst this;exact bK rfl (j3 C.bool (kh (jq rfl d.symm f)))
theorem Yg (a b:List (Slot)) (c:∀x∈a,∀y,ga 144 [.agg (iP x),.agg (iP y)] (x=y)):ga 143 [.sl (a.map iP),.sl (b.map iP),.fn 144 [] []] (a=b):=by
 refine au Tryz.func143 KL rfl fun d _=>?_;refine bY (Yf a b c) rfl fun _=>?_;exact bK rfl rfl
theorem Yh (a b:List Slot):ga 133 [.sl (a.map iP),.sl (b.map iP)] (a=b):=by
 refine au Tryz.func133 KC rfl fun c _=>?_;refine bY (Yg a b fun x _ y=>Ye x y) rfl fun _=>?_;exact bK rfl rfl
theorem Yi (a b:List (List Slot)) (r:∀x∈a,∀y,ga 133 [.sl (x.map iP),.sl (y.map iP)] (x=y)):ga 142 [.sl (a.map oD),.sl (b.map oD),.fn 133 [] []] (a=b):=by
 refine au Tryz.func142 KJ rfl fun q _=>?_;have m:(a.map oD).length=a.length:=by simp
 have hb:(b.map oD).length=b.length:=by simp
 have t:a.length<=9223372036854775807:=by have:=nE q.1;rwa [m] at this
 refine aB (fun d=>?_) (fun d=>?_)
 ·have d:¬a.length=b.length:=fun e=>by
   rw[m,hb,e] at d;simp at d
  exact bK rfl (j3 C.bool (bQ (oE d)))
 have d:a.length=b.length:=by
  rw[m,hb] at d;simp at d;omega
 refine bw a.length 17 [] () (fun _=>[]) (fun _=>[]) (fun k _=>∀j<k,a[j]?=b[j]?) (fun j s=>o4 s (by omega)) (ah rfl) trivial trivial (fun _=>rfl) (fun _=>rfl) ?_;rintro k ⟨⟩ u f _ _ _;refine aM (fun c=>?_) (fun n=>?_)
 ·have c:k<a.length:=by rw[m] at c;omega
  obtain⟨x,o⟩:=bV c;obtain⟨y,p⟩:=bV (l:=b) (k:=k) (by omega);refine cD o rfl rfl ?_;refine cD p rfl rfl ?_;refine bY (r x (aaQ o) y) rfl fun _=>?_;refine aB (fun h=>?_) (fun h=>?_)
  ·have h:¬x=y:=mo (by simpa using h);exact bK rfl (j3 C.bool (bQ (oF o p h)))
  ·have h:x=y:=lR (by simpa using h);refine Fit.aae (by omega) (by omega) ?_;exact⟨(k+1,()),⟨c,jr f o p h⟩,⟨bE,trivial⟩,trivial,bF c⟩
 ·have n:¬k<a.length:=by rw[m] at n;omega
  have:k=a.length:=by omega
  subst this;exact bK rfl (j3 C.bool (kh (jq rfl d.symm f)))
theorem Yj (a b:List (List Slot)) (c:∀x∈a,∀y,ga 133 [.sl (x.map iP),.sl (y.map iP)] (x=y)):ga 132 [.sl (a.map oD),.sl (b.map oD),.fn 133 [] []] (a=b):=by
 refine au Tryz.func132 KA rfl fun d _=>?_;refine bY (Yi a b c) rfl fun _=>?_;exact bK rfl rfl
theorem Pf {x y:zS}(a:x.name=y.name) (c:x.params=y.params) (e:x.result=y.result) (f:x.ties=y.ties) (d:x.slots=y.slots) (h:x.blocks=y.blocks) (b:x.entry=y.entry):x=y:=by
 rcases x with⟨⟩
 rcases y with⟨⟩
 simp_all
theorem SA (x y:zS):ga 100 [.agg (jd x),.agg (jd y)] (x=y):=by
 refine au Tryz.func100 Kn rfl fun m _=>?_;refine aM (fun c=>?_) (fun c=>bK rfl (j3 C.bool (bQ fun e=>c (by rw[e]))));refine bY (Lu x.params y.params) rfl fun _=>?_;refine aB (fun d=>?_) (fun d=>bK rfl (j3 C.bool (bQ fun e=>mo d (by rw[e]))));refine bY (Sy x.result y.result) rfl fun _=>?_;refine aB (fun j=>?_) (fun j=>bK rfl (j3 C.bool (bQ fun e=>mo j (by rw[e]))));refine bY (Sw x.ties y.ties) rfl fun _=>?_;refine aB (fun k=>?_) (fun k=>bK rfl (j3 C.bool (bQ fun e=>mo k (by rw[e]))));refine aM (fun f=>?_) (fun f=>bK rfl (j3 C.bool (bQ fun e=>f (by rw[e]))));refine bY (Yd x.blocks y.blocks fun a _ b=>Yc a b) rfl fun _=>?_;refine aB (fun l=>?_) (fun l=>bK rfl (j3 C.bool (bQ fun e=>mo l (by rw[e]))));refine bY (Yj x.entry y.entry fun a _ b=>Yh a b) rfl fun _=>?_;exact bK rfl (j3 C.bool (jH ⟨fun h=>Pf (Cq c) (lR d) (lR j) (lR k) f (lR l) h,fun e=>by rw[e]⟩))
theorem Yk (a b:List (zS)) (r:∀x∈a,∀y,ga 100 [.agg (jd x),.agg (jd y)] (x=y)):ga 128 [.sl (a.map jd),.sl (b.map jd),.fn 100 [] []] (a=b):=by
 refine au Tryz.func128 Kw rfl fun q _=>?_;have m:(a.map jd).length=a.length:=by simp
 have hb:(b.map jd).length=b.length:=by simp
 have t:a.length<=9223372036854775807:=by have:=nE q.1;rwa [m] at this
 refine aB (fun d=>?_) (fun d=>?_)
 ·have d:¬a.length=b.length:=fun e=>by
   rw[m,hb,e] at d;simp at d
  exact bK rfl (j3 C.bool (bQ (oE d)))
 have d:a.length=b.length:=by
  rw[m,hb] at d;simp at d;omega
 refine bw a.length 17 [] () (fun _=>[]) (fun _=>[]) (fun k _=>∀j<k,a[j]?=b[j]?) (fun j s=>o4 s (by omega)) (ah rfl) trivial trivial (fun _=>rfl) (fun _=>rfl) ?_;rintro k ⟨⟩ u f _ _ _;refine aM (fun c=>?_) (fun n=>?_)
 ·have c:k<a.length:=by rw[m] at c;omega
  obtain⟨x,o⟩:=bV c;obtain⟨y,p⟩:=bV (l:=b) (k:=k) (by omega);refine cD o rfl rfl ?_;refine cD p rfl rfl ?_;refine bY (r x (aaQ o) y) rfl fun _=>?_;refine aB (fun h=>?_) (fun h=>?_)
  ·have h:¬x=y:=mo (by simpa using h);exact bK rfl (j3 C.bool (bQ (oF o p h)))
  ·have h:x=y:=lR (by simpa using h);refine Fit.aae (by omega) (by omega) ?_;exact⟨(k+1,()),⟨c,jr f o p h⟩,⟨bE,trivial⟩,trivial,bF c⟩
 ·have n:¬k<a.length:=by rw[m] at n;omega
  have:k=a.length:=by omega
  subst this;exact bK rfl (j3 C.bool (kh (jq rfl d.symm f)))
theorem Yl (a b:List (zS)) (c:∀x∈a,∀y,ga 100 [.agg (jd x),.agg (jd y)] (x=y)):ga 99 [.sl (a.map jd),.sl (b.map jd),.fn 100 [] []] (a=b):=by
 refine au Tryz.func99 OB rfl fun d _=>?_;refine bY (Yk a b c) rfl fun _=>?_;exact bK rfl rfl
theorem SB {x y:zT}(a:x.main=y.main) (b:x.datas=y.datas) (c:x.routs=y.routs):x=y:=by
 rcases x with⟨⟩
 rcases y with⟨⟩
 simp_all
theorem t60 (x y:zT):ga 60 [.agg (Lr x),.agg (Lr y)] (x=y):=by
 refine au Tryz.func60 Og rfl fun f _=>?_;refine aM (fun c=>?_) (fun c=>bK rfl (j3 C.bool (bQ fun e=>c (by rw[e]))));refine bY (t97 x.datas y.datas fun a _ b=>t98 a b) rfl fun _=>?_;refine aB (fun d=>?_) (fun d=>bK rfl (j3 C.bool (bQ fun e=>mo d (by rw[e]))));refine bY (Yl x.routs y.routs fun a _ b=>SA a b) rfl fun _=>?_;exact bK rfl (j3 C.bool (jH ⟨fun h=>SB c (lR d) h,fun e=>by rw[e]⟩))
theorem dW {a b:Enc}(h:a.2=true) (k:b.2=true):(bh a b).2=true:=by simp[bh,h,k]
theorem gH {a:Type}{f:a->Enc}(h:∀x,(f x).2=true):∀l:List a,(aS f l).2=true
 | []=>rfl
 | x::l=>dW (h x) (gH h l)
theorem gU {a:Type}{f:a->Enc}(h:∀x,(f x).2=true) (l:List a):(bO kL f l).2=true:=dW rfl (gH h l)
theorem jt (n:Int):(kL.num n).2=true:=rfl
theorem xg (b:Bool):(nM kL b).2=true:=rfl
mutual
theorem Lw:∀(v:Vl) (d:Int),(sL kL v d).2=true
 | .mk a b c n f e p l,d=>by
  rw[sL];exact dW (by simp[zK,kL]) (dW (gH jt _) (dW (dW rfl (GR f _)) (dW (gH xg _) (dW (gU jt _) (gU jt _)))))
theorem GR:∀(l:List Vl) (d:Int),(zL kL l d).2=true
 | [],_=>rfl
 | x::xs,d=>by rw[zL];exact dW (Lw x d) (GR xs d)
end
theorem SC (x:Wd):(kI kL x).2=true:=by
 have d:∀v,(uO kL v).2=true:=fun v=>Lw v 60;exact dW (gU (fun c=>dW (gH xg _) (dW (gH jt _) (d _))) _)
  (dW (gU (fun b=>gH xg _) _)
  (dW (gU (fun t=>dW (gH jt _) (dW (gU (fun a=>dW (gH jt _) (dW (gU d _) (gU jt _))) _)
   (dW (gU (fun l=>dW (gH jt _) (gH xg _)) _) (dW (gH jt _) (gU jt _))))) _)
  (dW (gU (fun l=>gU d l) _)
  (dW (gU (fun o=>gH jt _) _) (gH jt _)))))
def uR (x:Wd):List UInt8:=(kI kL x).1
theorem Ym (b a:List (List C)) (d:Int) (x:Wd) (f:Fs x) (hb:(uR x).length<=70368744177664) :
  CallsT PZ 35 [.ifo none 123 1000 0,.pt (uQ b a d x) 0] (WB 124 []) (iQ (WB 124 (uR x)) (.tup [])) :=
 ((UB XP b a d x f [] (by simp only[abb,Nat.zero_add];exact hb)).imp (Pp':=fun _=>False) (R':=iQ (WB 124 (uR x)) (.tup []))
  (fun Mo c ⟨_,e,j⟩=>⟨by rw[e];rfl,j⟩) (fun v ⟨_,h⟩=>by rw[SC] at h;cases h)).noPan
theorem YW (c b:List (List C)) (d:Int) (x:Wd) (e:Fs x) (hb:(uR x).length<=70368744177664) :
  CallsT PZ 59 [.agg (uQ c b d x)] [] (iQ [] (.sl (af (uR x)))):=by
 have a:=Ym c b d x e hb;refine au Tryz.func59 Oe rfl fun h f=>?_;refine Tw [(5,.box 124 [.rw 50,IC 0,.int .i8 0]),(50,.row 5 1 [])] [5,50] [5,50] a
  ⟨.inl ⟨_,rfl,.inr ⟨124,_,_,rfl,rfl,⟨_,_,rfl,vL rfl rfl,⟨_,_,rfl,ah rfl,⟨_,_,rfl,ah rfl,rfl⟩⟩⟩⟩⟩,.inr ⟨rfl,5,1,rfl⟩,trivial⟩ rfl rfl rfl rfl rfl fun _ _=>?_
 refine uE [50] [5] [5] (Sc 124 (uR x)) ⟨_,rfl,rfl,rfl,rfl,rfl,fun _ _=>?_⟩;exact bK rfl rfl
noncomputable def Fu (i j:zT) (x y:Wd):Bool:=Ls (i=j)&&decide (uR x=uR y)
def Mr (i:zT) (x:Wd):List C:=uQ (i.datas.map jc) (i.routs.map jd) i.main x
theorem YX (i j:zT) (x y:Wd) (e:Fs x) (c:Fs y) (a:(uR x).length<=70368744177664) (b:(uR y).length<=70368744177664) :
  CallsT PZ 17 [.agg (Mr i x),.agg (Mr j y)] [] (iQ [] (.bool (Fu i j x y))):=by
 have d:=YW (i.datas.map jc) (i.routs.map jd) i.main x e a;have k:=YW (j.datas.map jc) (j.routs.map jd) j.main y c b;refine au Tryz.func17 NH rfl fun l f=>?_;refine jy (t60 i j) rfl fun _=>?_;refine aB (fun h=>?_) (fun h=>?_)
 ·refine jy d rfl fun _=>?_;refine jy k rfl fun _=>?_;refine jy (t31 (uR x) (uR y)) rfl fun _=>?_;exact bK rfl (by rw[Fu,h];rfl)
 ·exact bK rfl (by rw[Fu,h];rfl)
end Go.Fr.Tryz
namespace Go.Fr.Tryz
open Go Go.RowKit Go.Proofs Go.Fr Go.Fr.T Go.Fr.Api Go.Fr.Dm
theorem mM (a:List UInt8) (b:UInt8):af a++af [b]=af (a++[b]):=by simp[af]
theorem t22 (n:Int) (h:-2305843009213693952<=n) (l:n<=2305843009213693952):CallsT PZ 22 [IC n] [] (iQ [.row 5 1 (af (bR (zz n)))] (.rw 1000)):=by
 have k:zz n<=4611686018427387904:=by unfold zz;split<;>omega
 have o:=nH n h l;refine au Tryz.func22 NM rfl fun p _=>?_;refine Fit.aae (by omega) (by omega) ?_;refine aM (fun e=>?_) (fun f=>?_)
 ·refine Fit.aae (by omega) (by omega) ?_;refine Fit.aae (by omega) (by omega) ?_;refine x7.mk ⟨Nat×List UInt8,(zz n,[]),fun y=>y.1<=4611686018427387904/\y.2++bR y.1=bR (zz n),[3,4],fun y=>[.int .i64 y.1,.rw 20],fun y=>[(20,.row 5 1 (af y.2))],fun y=>y.1,⟨k,rfl⟩,⟨.inr (.inl ⟨?_,rfl⟩),vL rfl rfl,trivial⟩,
    ⟨.inr ⟨rfl,5,1,rfl⟩,trivial⟩,fun _=>rfl,fun _=>rfl,?_⟩
  ·exact j3 (C.int .i64) (by unfold zz;rw[eu e];omega)
  rintro⟨m,done⟩ ⟨d,a⟩ _ _;simp only at a d;have j:done.length+(bR m).length<=10:=by
   have:=j3 List.length a;simp only[yo] at this;omega
  have h:=j9 m;refine aM (fun c=>?_) (fun c=>?_)
  ·have c:128<=m:=by have:(128:Int)<=(m:Int):=c;omega
   have b:bR m=UInt8.ofNat (128+m % 128)::bR (m / 128):=by rw[bR,dif_neg (by omega)]
   refine mr.mk (by omega) ?_;refine Fit.to (m:=128+(m:Int).tmod 128) (bT (by rw[show(m:Int).tmod 128=((m % 128:Nat):Int) from rfl];omega) (by rw[show(m:Int).tmod 128=((m % 128:Nat):Int) from rfl];omega)) ?_;refine Fit.to (Cj m) ?_;refine sn (bs:=[UInt8.ofNat (128+m % 128)]) done.length aO (by simp;omega) ?_;refine mr.mk (by omega) ?_;refine Fit.to (m:=((m / 128:Nat):Int)) (by show IntKind.wrap .i64 ((m / 128:Nat):Int)=_;exact bT (by omega) (by omega)) ?_;refine⟨(m / 128,done++[UInt8.ofNat (128+m % 128)]),⟨?_,?_⟩,⟨.inr (.inl ⟨rfl,rfl⟩),ah rfl,trivial⟩,⟨.inl ⟨_,rfl,.inl ⟨j3 (TO.row 5 1) (mM done _),rfl⟩⟩,trivial⟩,?_⟩
   ·show m / 128<=_;omega
   ·show done++[UInt8.ofNat (128+m % 128)]++bR (m / 128)=bR (zz n);rw[<-a,b];simp
   ·show m / 128<m;omega
  ·have c:m<128:=by have:¬(128:Int)<=(m:Int):=c;omega
   have b:bR m=[UInt8.ofNat m]:=by rw[bR,dif_pos c]
   refine Fit.to (Ck m) ?_;refine sn (bs:=[UInt8.ofNat m]) done.length aO (by simp;omega) ?_;exact zA [20] rfl rfl (j3 (fun q=>[TO.row 5 1 q]) ((mM done _).trans (j3 af (by rw[<-a,b]:done++[UInt8.ofNat m]=bR (zz n))))) rfl
 ·refine x7.mk ⟨Nat×List UInt8,(zz n,[]),fun y=>y.1<=4611686018427387904/\y.2++bR y.1=bR (zz n),[3,4],fun y=>[.int .i64 y.1,.rw 20],fun y=>[(20,.row 5 1 (af y.2))],fun y=>y.1,⟨k,rfl⟩,⟨.inr (.inl ⟨?_,rfl⟩),vL rfl rfl,trivial⟩,
    ⟨.inr ⟨rfl,5,1,rfl⟩,trivial⟩,fun _=>rfl,fun _=>rfl,?_⟩
  ·exact j3 (C.int .i64) (by unfold zz;rw[o6 f];omega)
  rintro⟨m,done⟩ ⟨d,a⟩ _ _;simp only at a d;have j:done.length+(bR m).length<=10:=by
   have:=j3 List.length a;simp only[yo] at this;omega
  have h:=j9 m;refine aM (fun c=>?_) (fun c=>?_)
  ·have c:128<=m:=by have:(128:Int)<=(m:Int):=c;omega
   have b:bR m=UInt8.ofNat (128+m % 128)::bR (m / 128):=by rw[bR,dif_neg (by omega)]
   refine mr.mk (by omega) ?_;refine Fit.to (m:=128+(m:Int).tmod 128) (bT (by rw[show(m:Int).tmod 128=((m % 128:Nat):Int) from rfl];omega) (by rw[show(m:Int).tmod 128=((m % 128:Nat):Int) from rfl];omega)) ?_;refine Fit.to (Cj m) ?_;refine sn (bs:=[UInt8.ofNat (128+m % 128)]) done.length aO (by simp;omega) ?_;refine mr.mk (by omega) ?_;refine Fit.to (m:=((m / 128:Nat):Int)) (by show IntKind.wrap .i64 ((m / 128:Nat):Int)=_;exact bT (by omega) (by omega)) ?_;refine⟨(m / 128,done++[UInt8.ofNat (128+m % 128)]),⟨?_,?_⟩,⟨.inr (.inl ⟨rfl,rfl⟩),ah rfl,trivial⟩,⟨.inl ⟨_,rfl,.inl ⟨j3 (TO.row 5 1) (mM done _),rfl⟩⟩,trivial⟩,?_⟩
   ·show m / 128<=_;omega
   ·show done++[UInt8.ofNat (128+m % 128)]++bR (m / 128)=bR (zz n);rw[<-a,b];simp
   ·show m / 128<m;omega
  ·have c:m<128:=by have:¬(128:Int)<=(m:Int):=c;omega
   have b:bR m=[UInt8.ofNat m]:=by rw[bR,dif_pos c]
   refine Fit.to (Ck m) ?_;refine sn (bs:=[UInt8.ofNat m]) done.length aO (by simp;omega) ?_;exact zA [20] rfl rfl (j3 (fun q=>[TO.row 5 1 q]) ((mM done _).trans (j3 af (by rw[<-a,b]:done++[UInt8.ofNat m]=bR (zz n))))) rfl
theorem UJ (n:Nat):List.replicate (n:Int).toNat [C.int .u8 0]=af (List.replicate n 0):=by simp[af,gR]
theorem t21 (n:Nat) (b:UInt8) (p:n<=1048576):CallsT PZ 21 [IC n,gR b] [] (iQ [.row 5 1 (af (List.replicate n b))] (.rw 1000)):=by
 refine au Tryz.func21 NK rfl fun m _=>?_;refine u4.mk (by omega) (abe _) (by omega) (by unfold maxLen;omega) ?_;refine bw n 6 [5] (List.replicate n 0) (fun _=>[.rw 8]) (fun s=>[(8,.row 5 1 (af s))]) (fun k s=>s=List.replicate k b++List.replicate (n-k) 0) rfl (ah rfl) ⟨ah rfl,trivial⟩
  ⟨.inl ⟨_,rfl,.inl ⟨j3 (TO.row 5 1) (UJ n),rfl⟩⟩,trivial⟩ (fun _=>rfl) (fun _=>rfl) ?_
 rintro k s o h _ _ j;refine aM (fun a=>?_) (fun c=>?_)
 ·have a:k<n:=by omega
  have e:s[k]?=some 0:=by rw[h,aa2 (by simp),List.getElem?_replicate];simp;omega
  have f:s.set k b=List.replicate (k+1) b++List.replicate (n-(k+1)) 0:=by
   rw[h,show n-k=(n-(k+1))+1 by omega,List.replicate_succ' (n:=k),List.set_append_right _ _ (by simp)];simp[abB]
  have d:(af s).length=n:=by rw[aO,h];simp;omega
  refine Mu.mk (by omega) (by rw[d];omega) ?_;have l:(af s)[k]?=some [gR 0]:=by simp[af,e]
  refine⟨rfl,?_⟩;refine Ll (es0:=[gR 0]) (by show(af s)[k]?=_;simp[af,e]) rfl ?_;refine Fit.aae (by omega) (by omega) ?_;exact⟨(k+1,s.set k b),⟨a,f⟩,⟨bE,ah rfl,trivial⟩,⟨.inl ⟨_,rfl,.inl ⟨j3 (TO.row 5 1) (by show(af s).set k [gR b]=af (s.set k b);simp[af,List.map_set]),rfl⟩⟩,trivial⟩,bF a⟩
 ·have c:k=n:=by omega
  exact zA [8] rfl rfl (j3 (fun q=>[TO.row 5 1 (af q)]) (by rw[h,c];simp)) rfl
def su:Dec (Int×Int):=fP getD fun x=>fP getD fun y=>wB (x,y)
def PB (bs:List UInt8) (x y:Int):List TO:=[.box 86 [.own 1001 0],RB bs,.box 3 [IC x],.box 3 [IC y]]
theorem t43 (bs:List UInt8):CallsTX PZ 43 [.own 1000 0,.own 1002 0,.own 1003 0] (PB bs 0 0) (fun Mo c=>∃x y r,su bs=some ((x,y),r)/\Mo=PB r x y/\c=.tup []) (fun v=>v=fG/\su bs=none):=by
 refine ak Tryz.func43 N0 rfl fun k e=>?_;refine cu [1001] (Qh bs) rfl rfl rfl rfl (fun v h=>⟨h.1,aW h.2⟩) ?_;rintro v Mo ⟨x,r,b,rfl,rfl⟩ _ _;refine⟨rfl,?_⟩;have a:su bs=_:=aq b;refine cu [1001] (Qh r) rfl rfl rfl rfl (fun v h=>⟨h.1,a.trans (aW h.2)⟩) ?_;rintro v Mo ⟨y,j,f,rfl,rfl⟩ _ _;refine⟨rfl,?_⟩;have d:=a.trans (aq f);exact di [1000,1001,1002,1003] rfl rfl rfl rfl ⟨x,y,j,d,rfl,rfl⟩
def rB (out:List UInt8) (off:Nat) (b:List UInt8):List UInt8:=out.take off++b++out.drop (off+b.length)
theorem pB {out b:List UInt8}{off:Nat}(h:off+b.length<=out.length):(rB out off b).length=out.length:=by
 simp only[rB,yo,aa6,abA];omega
theorem AX (out:List UInt8) (off:Nat) (b:List UInt8):aP (dM out) off (dM b)=dM (rB out off b):=by
 simp[aP,rB,dM]
theorem Yn (F:aD) (a:Option Addr) (n c i:Nat) (q:n<=c) (s:c<=9223372036854775807) (hi:i<=1125899906842624) :
  CallsA PZ 62 #[.slice a n c,.int .i64 i] F [] (fun _ Lo v=>Lo=[]/\v=gh a c (min (32*i) n) (min (32*i+32) n) 1):=by
 have d:(if(n:Int)<32*(i:Int) then(n:Int) else 32*(i:Int))=((min (32*i) n:Nat):Int):=by split<;>omega
 have b:(if(n:Int)<32*(i:Int)+32 then(n:Int) else 32*(i:Int)+32)=((min (32*i+32) n:Nat):Int):=by split<;>omega
 have p:0<=(if(n:Int)<32*(i:Int) then(n:Int) else 32*(i:Int)):=by rw[d];omega
 have f:(if(n:Int)<32*(i:Int) then(n:Int) else 32*(i:Int))<=(if(n:Int)<32*(i:Int)+32 then(n:Int) else 32*(i:Int)+32):=by rw[d,b];omega
 have l:(if(n:Int)<32*(i:Int)+32 then(n:Int) else 32*(i:Int)+32)<=(c:Int):=by rw[b];omega
 have o:gh a c (if(n:Int)<32*(i:Int) then(n:Int) else 32*(i:Int)).toNat (if(n:Int)<32*(i:Int)+32 then(n:Int) else 32*(i:Int)+32).toNat 1=gh a c (min (32*i) n) (min (32*i+32) n) 1:=by rw[d,b];rfl
 refine gK (svs:=[.v (.slice a n c),.v (.int .i64 i)]) Tryz.func62 Gc rfl rfl (fun v m=>?_) (fun _ _ _ _ _ h=>h) ?_
 ·refine⟨fun k off e=>?_,fun r j e=>?_⟩<;>subst e<;>simp at m
 refine Fit.aae (by omega) (by omega) ?_;refine Fit.aae (by omega) (by omega) ?_;refine Fit.aae (by omega) (by omega) ?_;refine nP.mk p f l ?_;exact⟨[],[],rfl,by decide,rfl,o⟩
section
variable {G:Nat->Option (Nat×TypeId)}{F:aD}{L:Loc}{ρ:Env}{M:TL}{τ:aV}
theorem row_of (l:TS G F L ρ M τ) {k:Nat}{out:List UInt8}(j:M.get k=some (.row 5 1 (af out))) :
  ∃a c,L.get k=some (.row (.slice a out.length c) 5 1 out.length (dM out))/\(a=none->out.length=0)/\out.length<=maxLen:=by
 have b:=l.tl k;rw[j] at b;cases e:L.get k with
 | none=>rw[e] at b;exact b.elim
 | some o =>
  rw[e] at b;cases o with
  | box=>exact b.elim
  | row v t sz n xs =>
   obtain⟨rfl,rfl,d,⟨h,a,c,rfl,f⟩,m⟩:=b;rw[aO] at d;subst d;rw[mL m];exact⟨a,c,rfl,f,h⟩
theorem D8 (b:TS G F L ρ M τ) {k n c:Nat}{a:Option Addr}{out out':List UInt8}(d:L.get k=some (.row (.slice a n c) 5 1 n (dM out))) (j:out'.length=n) (f:n<=maxLen) (h:a=none->n=0) :
  TS G F (L.set k (.row (.slice a n c) 5 1 n (dM out'))) ρ (M.set k (.row 5 1 (af out'))) τ:=by
 refine b.turn (o':=.row (.slice a n c) 5 1 n (dM out')) d ⟨rfl,rfl,rfl⟩ (fun g t cs e=>by cases e) fun L' _=>?_;refine⟨rfl,rfl,by rw[aO,j],⟨f,a,c,rfl,h⟩,qq _⟩
theorem TS.aaM (a:TS G F L ρ M τ) {M':TL}(h:∀k,M'.get k=M.get k):TS G F L ρ M' τ:=⟨fun k=>by rw[h k];exact a.tl k,a.env,a.kp,a.glob⟩
theorem Pg {P:Program}{K:TL->aV->Prop}{d:Option Nat}{y x k:Nat}{out a:List UInt8}(hk:M.get k=some (.row 5 1 (af out))) (h1:τ y=.rw k) (r:τ x=.sl (af a))
  (hK:K (M.set k (.row 5 1 (af (rB out 0 (a.take out.length))))) (bD d (IC ((min a.length out.length:Nat):Int)) τ)):Tt P (.copy 5 1 (.t y) (.t x)) d M τ K:=by
 refine⟨fun G F L ρ o=>?_⟩;obtain⟨b,c,z,ha,q⟩:=row_of o hk;obtain⟨a1,c1,t1,ag,n1,ao,e1,f⟩:=tu (x:=.t y) o.env h1;rw[z] at f;injection f with f
 injection f with f _ _ _ _
 injection f with e3 e4 e5
 subst e3 e4 e5;have p:=dD o.env (.t x);have r:cm τ (.t x)=.sl (af a):=r;rw[r] at p;obtain⟨v,w,p⟩:=p;obtain⟨s,u,rfl,_,ap,hf⟩:=yQ p;have w:ev ρ (.t x)=.v (.slice s a.length u):=w;simp only[evalOp,e1,w];have hl:(a.take out.length).length=min out.length a.length:=aa6;have l:∀{L:Loc}(m:Nat),m<=maxLen->aQ F L (IC (m:Int)) (.v (.int .i64 m)):=fun m q=>⟨_,rfl,by
  rw[Rel];refine⟨rfl,?_⟩;rw[BB];simp only[IntKind.min,IntKind.max,IntKind.signed,IntKind.bits,aa9];unfold maxLen at q;omega⟩
 cases b with
 | none =>
  have h0:out.length=0:=ha rfl;have n:out=[]:=abg h0;subst n;refine⟨.inr ⟨none,0,c,s,a.length,u,rfl,rfl,by simp,?_⟩⟩;refine⟨M.set k (.row 5 1 (af (rB [] 0 (a.take 0)))),bD d (IC ((min a.length 0:Nat):Int)) τ,?_,hK⟩;refine TS.aaM (M:=M) ?_ fun j=>?_
  ·have:=o.put (l 0 (by decide)) d;simpa using this
  ·rw[TL.aac];split
   ·rename_i e;subst e;rw[hk];simp[rB]
   ·rfl
 | some b =>
  refine⟨.inl ⟨k,out.length,.slice (some b) out.length c,out.length,dM out,b,c,c,0,a.length,s,u,dM (a.take out.length),z,rfl,?_,by omega,rfl,?_,?_,nG _,?_⟩⟩
  ·rw[Nat.zero_mul,show b.add 0=b by cases b;rfl]
  ·rw[pu,hl,Nat.mul_one,Nat.min_comm]
  ·rcases hf with h | ⟨h,_⟩
   ·refine .inl ?_;rw[show dM (a.take out.length)=(dM a).take out.length by simp[dM]];exact DX h
   ·exact .inr ⟨by omega,by rw[abg h];simp[dM]⟩
  ·rw[Nat.zero_mul,AX];refine⟨_,_,?_,hK⟩;have h3:=D8 o z (out':=rB out 0 (a.take out.length)) (pB (by rw[hl];omega)) q ha;exact h3.put (l _ (by omega)) d
end
end Go.Fr.Tryz
