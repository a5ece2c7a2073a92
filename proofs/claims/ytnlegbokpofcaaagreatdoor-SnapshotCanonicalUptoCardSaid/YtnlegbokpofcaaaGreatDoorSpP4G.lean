/- Part of the proofs of the statements of this seat. -/
import Derived.Test.YtnlegbokpofcaaaGreatDoorSpE3G
import Derived.Test.YtnlegbokpofcaaaGreatDoorFW3
import Derived.Test.YtnlegbokpofcaaaGreatDoorSpW1G
set_option maxRecDepth 10000
set_option linter.unusedVariables false
set_option linter.unusedSimpArgs false
namespace Go.Fr.Tryz
open Go Go.RowKit Go.Proofs Go.Fr Go.Fr.T Go.Fr.Api
theorem V5 (f b:List (List C)) (d:Int) (x:Wd) (q:Fw x) (bs:List UInt8) (hb:bs.length+(rE kW x).1.length<=70368744177664) :
  CallsT PZ 33 [.fn 49 [] [.own 1000 0,.pt (qb f b d x) 0]] (EB bs) (fun Mo c=>((rE kW x).2=true/\Mo=EB (bs++(rE kW x).1)/\c=.bool true)\/((rE kW x).2=false/\rW (EB bs) Mo/\c=.bool false)):=by
 have a:=t49 f b d x q bs hb;generalize rE kW x=e at a ⊢;obtain⟨s,k⟩:=e;generalize qb f b d x=es at a ⊢;refine ig (PS:=fun v=>v=fL/\k=false) (ns:=[1]) (out:=Ka) Tryz.func33 wk (pQ.mono wz fun v h=>h.1) (fun v h=>rfl) rfl rfl ?_ fun r j=>?_
 ·rintro v ⟨rfl,h⟩;refine⟨.bool false,.bool false,?_,?_,fun Mo p=>.inr ⟨h,p,rfl⟩⟩
  ·intro L ρ l;obtain⟨m,g,t,o⟩:=l 0 2 _ rfl rfl;simp only[lR,m,o];rfl
  ·intro F L;rw[Rel]
 refine⟨rfl,?_⟩;refine bW [1000,1001,1002] a rfl rfl rfl rfl (fun v h=>h) ?_;rintro v Mo ⟨n,rfl,rfl⟩ _ _;refine⟨rfl,?_⟩;exact dz [1000,1001,1002] rfl rfl rfl rfl (.inl ⟨n,rfl,rfl⟩)
def mF (x:Wd):List UInt8:=if(rE kW x).2=true then gQ (dc++(rE kW x).1) else[]
theorem yp:dc.length=3:=rfl
theorem V6:CallsT PZ 48 [.own 1000 0,.sl (af dc)] [.box 108 [.nils,IC 0,.int .i8 0]] (iD (JZ 108 [] dc) (.tup [IC 3,.opq 0])) :=
 CallsT.gives (RG 108 [] rfl [] dc (by decide) (by decide))
  ⟨.inl ⟨_,rfl,.inr ⟨108,_,_,rfl,rfl,⟨_,_,rfl,uZ rfl rfl,⟨_,_,rfl,ak rfl,⟨_,_,rfl,ak rfl,rfl⟩⟩⟩⟩⟩,.inr ⟨rfl,5,1,rfl⟩,trivial⟩ (by decide)
theorem V7 (j d:List (List C)) (h:Int) (x:Wd) (m:Fw x) (hb:(rE kW x).1.length<=35184372088832) :
  CallsT PZ 14 [.agg (qb j d h x)] [] (iD [.row 5 1 (af (mF x))] (.rw 1000)):=by
 have a:=V5 j d h x m dc (by rw[yp];omega);have f:=t32 (dc++(rE kW x).1) (by simp[yp];omega);have b:mF x=if(rE kW x).2=true then gQ (dc++(rE kW x).1) else[]:=rfl;generalize mF x=eb at b ⊢;generalize rE kW x=e at a b f;obtain⟨l,o⟩:=e;refine aj Tryz.func14 L7 rfl fun n k=>?_;refine dW W6 rfl fun _=>?_;refine AY [5] [5,6] V6 rfl rfl rfl rfl rfl fun _ _=>?_;refine Bs [3,5,6] a rfl rfl rfl rfl ?_;rintro v Mo (⟨c,rfl,rfl⟩ | ⟨c,⟨q,M1,rfl,p,M2,rfl,M3,rfl,rfl⟩,rfl⟩) _ _
 ·refine⟨rfl,?_⟩;refine vu [6] [5] [5] (P4 108 (dc++l)) ⟨_,rfl,rfl,rfl,rfl,rfl,fun _ _=>?_⟩;refine callO [] [18] f rfl rfl rfl rfl rfl fun _ _=>?_;exact yO [18] rfl rfl (by rw[b,c];rfl) rfl
 ·refine⟨rfl,?_⟩;refine Rq ?_;exact Sj 2 5 1 rfl rfl (by rw[b,vz (by rw[c];exact aa0)];rfl)
end Go.Fr.Tryz
namespace Go.Fr.Tryz
open Go Go.RowKit Go.Proofs Go.Fr Go.Fr.T Go.Fr.Api Go.Fr.Dm
def fq (n:Nat):Nat:=(n+31) / 32
def s6 (a b:List UInt8) (i:Nat):Bool:=!decide (cK b i <+: cK a i)
def kT (a b:List UInt8):List Nat:=(List.range (fq b.length)).filter (s6 a b)
def lY:List Int->List UInt8
 | []=>[]
 | n::l=>bP (zz n)++lY l
def yG (b:List UInt8):Int->List Nat->List UInt8
 | _,[]=>[]
 | p,i::r=>bP (zz (i-p))++(cK b i++yG b i r)
def qQ (a b:List UInt8):List Int:=[a.length,kH a,b.length,kH b,(kT a b).length]
def eH (a b:List UInt8):List UInt8:=lY (qQ a b)++yG b (-1) (kT a b)
def vN (l:List Nat):List (List C):=l.map fun(i:Nat)=>([IC (i:Int)]:List C)
theorem yq (l:List Nat):(vN l).length=l.length:=by simp[vN]
theorem Nm {l:List Nat}{k i:Nat}(h:l[k]?=some i):(vN l)[k]?=some [IC i]:=by simp[vN,h]
theorem Ej {a b:List UInt8}{i:Nat}(h:i∈kT a b):i<fq b.length:=by
 simp only[kT,List.mem_filter,List.mem_range] at h;exact h.1
theorem Fz (a b:List UInt8):(kT a b).length<=fq b.length:=by
 have:=List.length_filter_le (s6 a b) (List.range (fq b.length));simpa[kT] using this
theorem FA:∀(f z:Nat),z<128 ^ (f+1)->(bP z).length<=f+1
 | 0,z,h=>by rw[bP,dif_pos (by omega)];simp
 | f+1,z,h=>by
  rw[bP];split
  ·simp
  ·have:=FA f (z / 128) (by rw[Nat.pow_succ] at h;omega);simp only[aau];omega
theorem Oc (n:Int) (m:Nat) (b:-(m:Int)<=n) (a:n<=m):zz n<=2*m:=by
 unfold zz;split<;>omega
theorem nu (n:Int) (b:-2305843009213693952<=n) (a:n<=2305843009213693952):(bP (zz n)).length<=10 :=
 FA 9 _ (Nat.lt_of_le_of_lt (Oc n 2305843009213693952 b a) (by decide))
def Sm (n:Int):Prop:=-2305843009213693952<=n/\n<=2305843009213693952
theorem z8:∀(l:List Int),(∀n∈l,Sm n)->(lY l).length<=10*l.length
 | [],_=>by simp[lY]
 | n::l,h=>by
  have c:=nu n (h n (by simp)).1 (h n (by simp)).2;have b:=z8 l fun m a=>h m (by simp[a]);simp only[lY,aak,aau];omega
theorem C5 (b:List UInt8) (i:Nat):(cK b i).length<=32:=by unfold cK;rw[aaC];omega
theorem FB (b:List UInt8):∀(p:Int) (l:List Nat),-1<=p->p<=1152921504606846976->(∀i∈l,i<=1152921504606846976)->(yG b p l).length<=42*l.length
 | p,[],_,_,_=>by simp[yG]
 | p,i::l,c,j,h=>by
  have hi:=h i (by simp);have f:=nu (i-p) (by omega) (by omega);have e:=FB b i l (by omega) (by omega) fun m a=>h m (by simp[a]);have d:=C5 b i;simp only[yG,aak,aau];omega
theorem Sk {els:List (List C)}{c:List C}{K:Prop}(n:Nat) (d:c.length=1) (b:els.length=n) (h:n<=2 ^ 40) (k:K):sL els [c] 1 8 K :=
 ⟨fun es a=>(by rcases aal.1 a with rfl | a;exact d;cases a),by rw[b];simp only[aau,aaQ,maxLen];omega,by
  rw[b];simp only[aau,aaQ];omega,k⟩
theorem GN (s:List Nat) (k:Nat):vN s++[[IC (k:Int)]]=vN (s++[k]):=by simp[vN]
theorem V8 {l:List Nat}{k:Nat}{x:Nat}{K:List C->Prop}(a:l[k]?=some x) (h:K [IC (x:Int)]):AB (vN l) (k:Int) 1 K:=⟨[IC (x:Int)],by omega,Nm a,rfl,h⟩
set_option maxRecDepth 20000 in
theorem W8 (a b:List UInt8) (ha:a.length<=1073741824) (hb:b.length<=1073741824) :
  CallsT PZ 18 [.sl (af a),.sl (af b)] [] (iD [] (.sl (af (eH a b)))):=by
 have an:(af a).length=a.length:=aM;have aa:(af b).length=b.length:=aM;obtain⟨n,z⟩:∃n,fq b.length=n:=⟨_,rfl⟩;have aE:n<=33554433:=by rw[<-z];unfold fq;omega
 have ag:CallsT PZ 61 [IC ((af b).length:Nat)] [] (iD [] (IC (n:Nat))):=by
  rw[aa,<-z];exact W7 b.length (by omega)
 refine aj Tryz.func18 Ma rfl fun hw aw=>?_;refine bA ag rfl fun _=>?_;refine bF n 16 [5] [] (fun _=>[.rw 30]) (fun s:List Nat=>[(30,.row 3 1 (vN s))]) (fun k s=>s=(List.range k).filter (s6 a b)) rfl (ak rfl) ⟨uZ rfl rfl,trivial⟩ ⟨.inr ⟨rfl,3,1,rfl⟩,trivial⟩ (fun _=>rfl) (fun _=>rfl) ?_;rintro k s hk j _ _ r;refine aN (fun c=>?_) (fun o=>?_)
 ·have c:k<n:=by omega
  have az:s.length<=k:=by
   have:=List.length_filter_le (s6 a b) (List.range k);rw[j];simpa using this
  have ab:(List.range (k+1)).filter (s6 a b)=s++if s6 a b k=true then[k] else[]:=by
   rw[List.range_succ,List.filter_append,<-j];congr 1;cases e:s6 a b k<;>simp[e]
  refine bA (V4 a k (by omega)) rfl fun _=>?_;refine bA (V4 b k (by omega)) rfl fun _=>?_;refine bA (t29 (cK a k) (cK b k)) rfl fun _=>?_;refine ah (fun v=>?_) (fun v=>?_)
  ·have v:s6 a b k=true:=v;refine Sk s.length rfl (yq s) (by omega) ?_;refine Fit.ZA (by omega) (by omega) ?_;refine⟨(k+1,s++[k]),⟨c,by rw[ab,o6 v]⟩,⟨bL,ak rfl,trivial⟩,⟨.inl ⟨_,rfl,.inl ⟨j3 (TO.row 3 1) (GN s k),rfl⟩⟩,trivial⟩,bM c⟩
  ·have v:s6 a b k=false:=v;refine Fit.ZA (by omega) (by omega) ?_;refine⟨(k+1,s),⟨c,by rw[ab,vz (by rw[v];exact aa0),aaA]⟩,⟨bL,ak rfl,trivial⟩,⟨.inl ⟨_,rfl,.inl ⟨rfl,rfl⟩⟩,trivial⟩,bM c⟩
 have j:s=kT a b:=by
  have:k=n:=by omega
  rw[j,this,<-z];rfl
 have bc:s.length<=n:=by rw[j,<-z];exact Fz a b
 have bd:=lW a;have ax:=lW b;have al:[((af a).length:Int),kH a,((af b).length:Int),kH b,((vN s).length:Int)]=qQ a b:=by rw[an,aa,yq,j];rfl
 have w:∀m∈qQ a b,Sm m:=by
  intro m hm;simp only[qQ,<-j,aal,List.not_mem_nil,or_false] at hm;unfold Sm;rcases hm with rfl | rfl | rfl | rfl | rfl<;>omega
 refine bA (QN a) rfl fun _=>?_;refine bA (QN b) rfl fun _=>?_;have hN:=z8 _ w;have h5:(qQ a b).length=5:=rfl;have hD:(eH a b).length<=50+42*s.length:=by
  have:=FB b (-1) (kT a b) (by omega) (by omega) fun i hi=>by have:=Ej hi;omega
  rw[<-j] at this;rw[eH,aak,<-j];omega
 refine bF 5 46 [] [] (fun _=>[]) (fun d:List UInt8=>[(33,.box 108 [.rw 60,IC 0,.int .i8 0]),(60,.row 5 1 (af d))]) (fun k d=>d++lY ((qQ a b).drop k)=lY (qQ a b)) rfl (ak rfl) trivial
  ⟨.inl ⟨_,rfl,.inr ⟨108,_,_,rfl,rfl,⟨_,_,rfl,uZ rfl rfl,⟨_,_,rfl,ak rfl,⟨_,_,rfl,ak rfl,rfl⟩⟩⟩⟩⟩,.inr ⟨rfl,5,1,rfl⟩,trivial⟩ (fun _=>rfl) (fun _=>rfl) ?_
 rintro k d hk f _ _ r;refine aN (fun c=>?_) (fun o=>?_)
 ·have h:(k:Int)<(5:Nat):=c;have h:k<5:=by omega
  refine fj (l:=qQ a b) h fun x hx u t=>?_;rw[t] at f;obtain⟨x1,x2⟩:=w x u;have ae:=nu x x1 x2;have am:d.length+10<=1000:=by
   have:=j3 List.length f;rw[aak] at this;omega
  refine D6 (l:=[((af a).length:Int),kH a,((af b).length:Int),kH b,((vN s).length:Int)]) (by rw[al];exact hx) ?_;refine callO [33,60] [33,60] (RH 108 d x (by omega) (by omega) (by omega)) rfl rfl rfl rfl rfl fun _ _=>?_;refine Fit.ZA (by omega) (by omega) ?_;refine⟨(k+1,d++bP (zz x)),⟨h,by rw[aan];exact f⟩,⟨bL,trivial⟩,⟨.inl ⟨_,rfl,.inl ⟨rfl,rfl⟩⟩,.inl ⟨_,rfl,.inl ⟨rfl,rfl⟩⟩,trivial⟩,bM h⟩
 have ap:¬(k:Int)<(5:Nat):=o;have f:d=lY (qQ a b):=by
  rw[List.drop_eq_nil_of_le (by omega)] at f;simpa[lY] using f
 have ao:(vN s).length=s.length:=yq s;refine bF s.length 56 [10] (d,(-1:Int)) (fun x:List UInt8×Int=>[IC x.2]) (fun x=>[(33,.box 108 [.rw 60,IC 0,.int .i8 0]),(60,.row 5 1 (af x.1))])
  (fun k x=>x.1++yG b x.2 (s.drop k)=eH a b/\-1<=x.2/\x.2<=33554433) ⟨by rw[f,j];rfl,by omega,by omega⟩ (ak rfl) ⟨ak rfl,trivial⟩
  ⟨.inl ⟨_,rfl,.inl ⟨rfl,rfl⟩⟩,.inl ⟨_,rfl,.inl ⟨rfl,rfl⟩⟩,trivial⟩ (fun _=>rfl) (fun _=>rfl) ?_
 rintro k ⟨d,p⟩ hk ⟨f,ac,y⟩ _ _ r;refine aN (fun c=>?_) (fun o=>?_)
 ·have c:k<s.length:=by omega
  refine fj c fun x hx u t=>?_;have f:d++yG b p (s.drop k)=eH a b:=f;rw[t] at f;have ac:-1<=p:=ac;have y:p<=33554433:=y;have be:x<n:=by rw[<-z];exact Ej (by rw[<-j];exact u)
  have ae:=nu (x-p) (by omega) (by omega);have ay:=C5 b x;have am:d.length<=50+42*s.length:=by
   have:=j3 List.length f;rw[aak] at this;omega
  refine V8 hx ?_;refine Fit.ZA (by omega) (by omega) ?_;refine callO [33,60] [33,60] (RH 108 d (x-p) (by omega) (by omega) (by omega)) rfl rfl rfl rfl rfl fun _ _=>?_;refine dW (V4 b x (by omega)) rfl fun _=>?_;refine AY [33,60] [33,60] (RG 108 [] rfl (d++bP (zz (x-p))) (cK b x) (by rw[aak];omega) (by have:=j9 (zz (x-p));rw[aak];omega)) rfl rfl rfl rfl rfl fun _ _=>?_;refine Fit.ZA (by omega) (by omega) ?_;refine⟨(k+1,(d++bP (zz (x-p))++cK b x,(x:Int))),⟨c,by simpa[yG] using f,by show(-1:Int)<=(x:Int);omega,by show(x:Int)<=33554433;omega⟩,⟨bL,ak rfl,trivial⟩,⟨.inl ⟨_,rfl,.inl ⟨rfl,rfl⟩⟩,.inl ⟨_,rfl,.inl ⟨rfl,rfl⟩⟩,trivial⟩,bM c⟩
 have o:¬k<s.length:=by omega
 have f:d++yG b p (s.drop k)=eH a b:=f;have f:d=eH a b:=by
  rw[List.drop_eq_nil_of_le (by omega)] at f;simpa[yG] using f
 refine vu [60] [33] [33] (P4 108 d) ⟨_,rfl,rfl,rfl,rfl,rfl,fun _ _=>?_⟩;exact aK rfl (j3 (fun q=>C.sl (af q)) f)
end Go.Fr.Tryz
namespace Go.Fr.Tryz
open Go Go.RowKit Go.Proofs Go.Fr Go.Fr.T Go.Fr.Api
def w0:Wd:=⟨[],[],[],[],[],0,0,0⟩
def DB (bs:List UInt8) (cs:List C):List TO:=[.box 86 [.own 1001 0],RB bs,.box 34 cs]
def nX (bs:List UInt8):Option Wd:=match CU bs with
 | some (x,[])=>some x
 | _=>none
theorem GP {bs:List UInt8}(h:CU bs=none):nX bs=none:=by unfold nX;rw[h]
theorem GQ {bs r:List UInt8}{x:Wd}(h:CU bs=some (x,r)) (a:decide (((af r).length:Int)=0)=false):nX bs=none:=by
 unfold nX;rw[h];cases r with
 | nil=>simp[af] at a
 | cons=>rfl
theorem GR {bs r:List UInt8}{x:Wd}(h:CU bs=some (x,r)) (b:decide (((af r).length:Int)=0)=true):nX bs=some x/\r=[]:=by
 unfold nX;rw[h];cases r with
 | nil=>exact⟨rfl,rfl⟩
 | cons a l=>simp[af] at b;omega
theorem Zh (d a:List (List C)) (b:Int) (bs:List UInt8) :
  CallsTX PZ 34 [.own 1000 0,.own 1002 0] (DB bs (qb d a b w0)) (fun Mo c=>∃x,nX bs=some x/\Mo=DB [] (qb d a b x)/\c=.tup []) (fun v=>v=fL/\nX bs=none):=by
 refine aq Tryz.func34 Mk rfl fun l k=>?_;refine bW [1001,1002] (VK 34 d a b bs) rfl rfl rfl rfl (fun v h=>⟨h.1,GP h.2⟩) ?_;rintro v Mo ⟨x,r,e,rfl,rfl⟩ _ _;refine⟨rfl,?_⟩;refine bW [] (uo (decide (((af r).length:Int)=0))) rfl rfl rfl rfl (fun v h=>⟨h.1,GQ e h.2⟩) ?_;rintro v Mo ⟨f,rfl,rfl⟩ _ _;refine⟨rfl,?_⟩;obtain⟨j,rfl⟩:=GR e f;exact dz [1000,1001,1002] rfl rfl rfl rfl ⟨x,j,rfl,rfl⟩
theorem V9 (d a:List (List C)) (b:Int) (bs:List UInt8) :
  CallsT PZ 33 [.fn 34 [] [.own 1000 0,.own 1002 0]] (DB bs (qb d a b w0)) (fun Mo c=>(∃x,nX bs=some x/\Mo=DB [] (qb d a b x)/\c=.bool true)\/(nX bs=none/\rW (DB bs (qb d a b w0)) Mo/\c=.bool false)):=by
 refine ig (PS:=fun v=>v=fL/\nX bs=none) (ns:=[1]) (out:=Ka) Tryz.func33 wk (pQ.mono wz fun v h=>h.1) (fun v h=>rfl) rfl rfl ?_ fun n e=>?_
 ·rintro v ⟨rfl,h⟩;refine⟨.bool false,.bool false,?_,?_,fun Mo m=>.inr ⟨h,m,rfl⟩⟩
  ·intro L ρ f;obtain⟨j,g,t,l⟩:=f 0 2 _ rfl rfl;simp only[lR,j,l];rfl
  ·intro F L;rw[Rel]
 refine⟨rfl,?_⟩;refine bW [1000,1001,1002] (Zh d a b bs) rfl rfl rfl rfl (fun v h=>h) ?_;rintro v Mo ⟨x,k,rfl,rfl⟩ _ _;refine⟨rfl,?_⟩;exact dz [1000,1001,1002] rfl rfl rfl rfl (.inl ⟨x,k,rfl,rfl⟩)
theorem u5 {L L1:TL}:KE L L1 .nils (.sl []):=.inr (.inr (.inl ⟨rfl,rfl⟩))
theorem js {t:Nat}(n:Nat) (F:aD) (L:Loc) (p:Own) (r:di F L (.box t (List.replicate n .any)) p):di F L (.win t (List.replicate n .any) [] []) p :=
 wo (by simp) (zU n) (fun c h=>by cases h) F L p r
theorem Sn (d a:List (List C)) (b:Int) (bs:List UInt8) :
  CallsT PZ 33 [.fn 34 [] [.own 1000 0,.own 1002 0]] [.box 86 [.own 1001 0],RB bs,.box 34 [.sl d,.sl a,IC b,.nils,.nils,.nils,.nils,.nils,IC 0,IC 0,IC 0]]
   (fun Mo c=>(∃x,nX bs=some x/\Mo=DB [] (qb d a b x)/\c=.bool true)\/(nX bs=none/\(∃f l k,Mo=[.win 86 f [] [],.win 88 l [] [],.win 34 k [] []])/\c=.bool false)) :=
 (((CallsT.gives (Lin:=[.box 86 [.own 1001 0],RB bs,.box 34 [.sl d,.sl a,IC b,.nils,.nils,.nils,.nils,.nils,IC 0,IC 0,IC 0]]) (V9 d a b bs)
    ⟨.inl ⟨_,rfl,.inl ⟨rfl,rfl⟩⟩,.inl ⟨_,rfl,.inl ⟨rfl,rfl⟩⟩,.inl ⟨_,rfl,.inr ⟨34,_,_,rfl,rfl,⟨_,_,rfl,ak rfl,⟨_,_,rfl,ak rfl,⟨_,_,rfl,ak rfl,⟨_,_,rfl,u5,⟨_,_,rfl,u5,⟨_,_,rfl,u5,⟨_,_,rfl,u5,⟨_,_,rfl,u5,⟨_,_,rfl,ak rfl,⟨_,_,rfl,ak rfl,⟨_,_,rfl,ak rfl,rfl⟩⟩⟩⟩⟩⟩⟩⟩⟩⟩⟩⟩⟩,trivial⟩ (aaB 3):CallsT PZ 33 _ _ _).toX (Pp:=fun _=>False)).view (vw.refl _) (by
  rintro Mo c (h | ⟨m,⟨j,M1,rfl,e,M2,rfl,n,M3,rfl,rfl⟩,rfl⟩)
  ·exact⟨Mo,vw.refl _,.inl h⟩
  ·exact⟨_,vw.cons (js j) (vw.cons (js e) (vw.cons (js n) (vw.refl []))),.inr ⟨m,⟨_,_,_,rfl⟩,rfl⟩⟩) fun _ h=>h).noPan
def s8 (bs:List UInt8):Option Wd×Int :=
 if bs.length<7\/¬dc <+: bs then(none,16)
 else if¬gQ (bs.take (bs.length-4))=bs then(none,17)
 else match nX ((bs.take (bs.length-4)).drop 3) with
  | some x=>(some x,0)
  | none=>(none,16)
def Wc (c a:List (List C)) (b:Int):Option Wd×Int->C
 | (some x,e)=>.tup [.agg (qb c a b x),IC e]
 | (none,e)=>.tup [.agg (qb [] [] 0 w0),IC e]
theorem Wg (p m:List (List C)) (o:Int) (bs:List UInt8) (hb:bs.length<=70368744177664) :
  CallsT PZ 10 [.agg [.sl p,.sl m,IC o],.sl (af bs)] [] (iD [] (Wc p m o (s8 bs))):=by
 have e:(af bs).length=bs.length:=aM;obtain⟨s,j⟩:∃s,bs.take (bs.length-4)=s:=⟨_,rfl⟩;have am:s.length<=bs.length:=by rw[<-j,aaC];omega
 obtain⟨d,k⟩:∃d,s8 bs=d:=⟨_,rfl⟩;rw[k];have z:bs.length<7->d=(none,16):=fun h=>by rw[<-k];unfold s8;rw[o6 (.inl h)]
 have t:¬dc <+: bs->d=(none,16):=fun h=>by rw[<-k];unfold s8;rw[o6 (.inr h)]
 have u:¬bs.length<7->dc <+: bs->¬gQ s=bs->d=(none,17):=fun a y h3=>by
  rw[<-k];unfold s8;rw[vz (fun h=>h.elim a (fun h=>h y)),j,o6 h3]
 have l:¬bs.length<7->dc <+: bs->gQ s=bs->d=match nX (s.drop 3) with | some x=>(some x,0) | none=>(none,16):=fun a y h3=>by
  rw[<-k];unfold s8;rw[vz (fun h=>h.elim a (fun h=>h y)),j,vz (fun h=>h h3)]
 have f:=Sn p m o (s.drop 3);generalize nX (s.drop 3)=ad at l f;refine aj Tryz.func10 LZ rfl fun hw ae=>?_;refine aN (fun h0=>?_) (fun h0=>?_)
 ·exact aK rfl (by rw[z (by omega)];rfl)
 have h7:¬bs.length<7:=by omega
 have n:((af bs).drop 0).take (((af bs).length-4:Int).toNat-0)=af s:=by
  rw[ij,e,show((bs.length:Int)-4).toNat-0=bs.length-4 by omega,<-j];rfl
 have e2:(3:Int)<=((((af bs).drop 0).take (((af bs).length-4:Int).toNat-0)).length:Int):=by rw[n,aM,<-j,aaC];omega
 have e3:∀es∈(((af bs).drop 0).take (((af bs).length-4:Int).toNat-0)),es.length=1:=by rw[n];exact gA
 have r:((((af bs).drop 0).take (((af bs).length-4:Int).toNat-0)).drop 3).take (((((af bs).drop 0).take (((af bs).length-4:Int).toNat-0)).length:Int).toNat-3)=af (s.drop 3):=by
  rw[n,ij,aM,aaZ (by simp)]
 refine bA W6 rfl fun _=>?_;refine bA (t29 bs dc) rfl fun _=>?_;refine ah (fun a=>?_) (fun a=>?_)
 ·have a:(!decide (dc <+: bs))=true:=a;exact aK rfl (by rw[t (by simpa using a)];rfl)
 have a:(!decide (dc <+: bs))=false:=a;have a:dc <+: bs:=by simpa using a
 refine Fit.ZA (by omega) (by omega) ?_;refine Cb.mk (by omega) (by omega) (by omega) gA ?_;refine callO [] [25] (t32 s (by omega)) rfl rfl (j3 (fun q=>[C.sl q]) n) rfl rfl fun _ _=>?_;refine vu [25] [] [] (t31 (gQ s) bs) ⟨_,rfl,rfl,rfl,rfl,rfl,fun _ _=>?_⟩;refine ah (fun b=>?_) (fun c=>?_)
 ·have b:(!decide (gQ s=bs))=true:=b;exact aK rfl (by rw[u h7 a (by simpa using b)];rfl)
 have c:(!decide (gQ s=bs))=false:=c;have h4:=l h7 a (by simpa using c);refine Cb.mk (by decide) e2 (aaI _) e3 ?_;refine Bs [7,33,8] f rfl rfl rfl (j3 (fun q=>[TO.box 86 [C.own 1001 0],.box 88 [.sl q],.box 34 [.sl p,.sl m,IC o,.nils,.nils,.nils,.nils,.nils,IC 0,IC 0,IC 0]]) r) ?_;rintro v Mo (⟨x,w,rfl,rfl⟩ | ⟨w,⟨p1,p2,p3,rfl⟩,rfl⟩) _ _
 ·refine⟨rfl,?_⟩;exact aK rfl (by rw[h4,w];rfl)
 ·refine⟨rfl,?_⟩;exact aK rfl (by rw[h4,w];rfl)
structure Qi where
 slot:Int
 excl:Bool
 re:Bool
structure Slot where
 state:Int
 type:Ty
 var:Int
 flag:Int
 lent:List Qi
structure Ek where
 name:ByteArray
 params:List Ty
 result:Ty
 ties:List Int
 slots:Int
 blocks:List Block
 entry:List (List Slot)
structure G7 where
 datas:List Api.Data
 routs:List Ek
 main:Int
def z9 (x:Qi):List C:=[IC x.slot,.bool x.excl,.bool x.re]
def jt (x:Slot):List C:=[IC x.state,IC x.type.kind,IC x.type.id,.sl (x.type.args.map uY),IC x.var,IC x.flag,.sl (x.lent.map z9)]
def qR (l:List Slot):List C:=[.sl (l.map jt)]
def kg (r:Ek):List C:=[.str r.name,.sl (r.params.map uY),IC r.result.kind,IC r.result.id,.sl (r.result.args.map uY),.sl (rK r.ties),IC r.slots,.sl (r.blocks.map jf),.sl (r.entry.map qR)]
def Nn (i:G7):List C:=[.sl (i.datas.map jr),.sl (i.routs.map kg),IC i.main]
def C6 (t:Ty):C:=.agg [IC t.kind,IC t.id,.sl (t.args.map uY)]
noncomputable def GS (p:Prop):Bool:=@decide p (Classical.propDecidable p)
theorem Bt {p:Prop}:GS p=true↔p:=by unfold GS;exact @decide_eq_true_iff p (Classical.propDecidable p)
theorem jH {p:Prop}(h:GS p=true):p:=Bt.1 h
theorem kh {p:Prop}(h:GS p=false):¬p:=fun q=>by rw[Bt.2 q] at h;cases h
theorem aC {p:Prop}(h:¬p):false=GS p:=by
 cases e:GS p with
 | true=>exact vv (jH e) h
 | false=>rfl
theorem dh {p:Prop}(h:p):true=GS p:=(Bt.2 h).symm
theorem gW {p q:Prop}(h:p↔q):GS p=GS q:=by rw[show p=q from propext h]
theorem nY {c:Type}{a b:List c}(h:¬a.length=b.length):a≠b:=fun e=>h (by rw[e])
theorem bR {c:Type}{a b:List c}{n:Nat}(d:a.length=n) (hb:b.length=n) (h:∀j<n,a[j]?=b[j]?):a=b:=by
 apply aaR;intro i
 by_cases hi:i<n
 ·exact h i hi
 ·rw[aar (by omega),aar (by omega)]
theorem bY {d:Type}{a b:List d}{k:Nat}{x y:d}(c:a[k]?=some x) (f:b[k]?=some y) (h:x≠y):a≠b:=fun e=>h (by rw[e,f] at c;injection c with c;exact c.symm)
theorem bS {d:Type}{a b:List d}{k:Nat}{x y:d}(h:∀j<k,a[j]?=b[j]?) (l:a[k]?=some x) (f:b[k]?=some y) (e:x=y):∀j<k+1,a[j]?=b[j]?:=by
 intro j m
 by_cases c:j=k
 ·rw[c,l,f,e]
 ·exact h j (by omega)
theorem bf {a:Type}{l:List a}{k:Nat}(h:k<l.length):∃x,l[k]?=some x:=⟨l[k],aag h⟩
theorem rG {a b:ByteArray}(h:a.data.toList=b.data.toList):a=b:=by
 cases a;cases b;simp only at h;rw[Array.toList_inj.1 h]
def dn (f:Nat) (args:List C) (p:Prop):Prop:=CallsT PZ f args [] (iD [] (.bool (GS p)))
theorem Qj (a b:List (Int)):dn 129 [.sl (rK a),.sl (rK b)] (a=b):=by
 refine aj Tryz.func129 Jq rfl fun q _=>?_;have n:(rK a).length=a.length:=by simp[rK]
 have hb:(rK b).length=b.length:=by simp[rK]
 have s:a.length<=9223372036854775807:=by have:=nj q.1;rwa [n] at this
 refine ah (fun d=>?_) (fun d=>?_)
 ·have d:¬a.length=b.length:=fun e=>by
   rw[n,hb,e] at d;simp at d
  exact aK rfl (j3 C.bool (aC (nY d)))
 have d:a.length=b.length:=by
  rw[n,hb] at d;simp at d;omega
 refine bF a.length 13 [] () (fun _=>[]) (fun _=>[]) (fun k _=>∀j<k,a[j]?=b[j]?) (fun j r=>vv r (by omega)) (ak rfl) trivial trivial (fun _=>rfl) (fun _=>rfl) ?_;rintro k ⟨⟩ t f _ _ _;refine aN (fun c=>?_) (fun m=>?_)
 ·have c:k<a.length:=by rw[n] at c;omega
  obtain⟨x,p⟩:=bf c;obtain⟨y,o⟩:=bf (l:=b) (k:=k) (by omega);refine D6 p ?_;refine D6 o ?_;refine ah (fun h=>?_) (fun h=>?_)
  ·have h:¬x=y:=by simpa using h
   exact aK rfl (j3 C.bool (aC (bY p o h)))
  ·have h:x=y:=by simpa using h
   refine Fit.ZA (by omega) (by omega) ?_;exact⟨(k+1,()),⟨c,bS f p o h⟩,⟨bL,trivial⟩,trivial,bM c⟩
 ·have m:¬k<a.length:=by rw[n] at m;omega
  have:k=a.length:=by omega
  subst this;exact aK rfl (j3 C.bool (dh (bR rfl d.symm f)))
theorem Wh (a b:List (Qi)):dn 145 [.sl (a.map z9),.sl (b.map z9)] (a=b):=by
 refine aj Tryz.func145 JG rfl fun q _=>?_;have n:(a.map z9).length=a.length:=by simp
 have hb:(b.map z9).length=b.length:=by simp
 have s:a.length<=9223372036854775807:=by have:=nj q.1;rwa [n] at this
 refine ah (fun d=>?_) (fun d=>?_)
 ·have d:¬a.length=b.length:=fun e=>by
   rw[n,hb,e] at d;simp at d
  exact aK rfl (j3 C.bool (aC (nY d)))
 have d:a.length=b.length:=by
  rw[n,hb] at d;simp at d;omega
 refine bF a.length 13 [] () (fun _=>[]) (fun _=>[]) (fun k _=>∀j<k,a[j]?=b[j]?) (fun j r=>vv r (by omega)) (ak rfl) trivial trivial (fun _=>rfl) (fun _=>rfl) ?_;rintro k ⟨⟩ t f _ _ _;refine aN (fun c=>?_) (fun m=>?_)
 ·have c:k<a.length:=by rw[n] at c;omega
  obtain⟨x,p⟩:=bf c;obtain⟨y,o⟩:=bf (l:=b) (k:=k) (by omega);refine ck p rfl rfl ?_;refine ck o rfl rfl ?_;refine ah (fun h=>?_) (fun h=>?_)
  ·have h:¬x=y:=fun e=>by subst e;simp[lm] at h
   exact aK rfl (j3 C.bool (aC (bY p o h)))
  ·have h:x=y:=by cases x;cases y;simp[lm] at h;simp[h]
   refine Fit.ZA (by omega) (by omega) ?_;exact⟨(k+1,()),⟨c,bS f p o h⟩,⟨bL,trivial⟩,trivial,bM c⟩
 ·have m:¬k<a.length:=by rw[n] at m;omega
  have:k=a.length:=by omega
  subst this;exact aK rfl (j3 C.bool (dh (bR rfl d.symm f)))
theorem t138 (a b:List (Ty)) (r:∀x∈a,∀y,dn 127 [C6 x,C6 y] (x=y)):dn 138 [.sl (a.map uY),.sl (b.map uY),.fn 127 [] []] (a=b):=by
 refine aj Tryz.func138 Jz rfl fun q _=>?_;have n:(a.map uY).length=a.length:=by simp
 have hb:(b.map uY).length=b.length:=by simp
 have t:a.length<=9223372036854775807:=by have:=nj q.1;rwa [n] at this
 refine ah (fun d=>?_) (fun d=>?_)
 ·have d:¬a.length=b.length:=fun e=>by
   rw[n,hb,e] at d;simp at d
  exact aK rfl (j3 C.bool (aC (nY d)))
 have d:a.length=b.length:=by
  rw[n,hb] at d;simp at d;omega
 refine bF a.length 17 [] () (fun _=>[]) (fun _=>[]) (fun k _=>∀j<k,a[j]?=b[j]?) (fun j s=>vv s (by omega)) (ak rfl) trivial trivial (fun _=>rfl) (fun _=>rfl) ?_;rintro k ⟨⟩ u f _ _ _;refine aN (fun c=>?_) (fun m=>?_)
 ·have c:k<a.length:=by rw[n] at c;omega
  obtain⟨x,o⟩:=bf c;obtain⟨y,p⟩:=bf (l:=b) (k:=k) (by omega);refine zR o ?_;refine zR p ?_;refine bA (r x (aam o) y) rfl fun _=>?_;refine ah (fun h=>?_) (fun h=>?_)
  ·have h:¬x=y:=kh (by simpa using h);exact aK rfl (j3 C.bool (aC (bY o p h)))
  ·have h:x=y:=jH (by simpa using h);refine Fit.ZA (by omega) (by omega) ?_;exact⟨(k+1,()),⟨c,bS f o p h⟩,⟨bL,trivial⟩,trivial,bM c⟩
 ·have m:¬k<a.length:=by rw[n] at m;omega
  have:k=a.length:=by omega
  subst this;exact aK rfl (j3 C.bool (dh (bR rfl d.symm f)))
theorem Sq (a b:List (Ty)) (c:∀x∈a,∀y,dn 127 [C6 x,C6 y] (x=y)):dn 126 [.sl (a.map uY),.sl (b.map uY),.fn 127 [] []] (a=b):=by
 refine aj Tryz.func126 Jm rfl fun d _=>?_;refine bA (t138 a b c) rfl fun _=>?_;exact aK rfl rfl
theorem Od {x y:Ty}(a:x.kind=y.kind) (c:x.id=y.id) (b:x.args=y.args):x=y:=by
 cases x;cases y
 simp_all [Ty.kind,Ty.id,Ty.args]
theorem Oe {x t:Ty}(h:x∈t.args):SizeOf.sizeOf x<SizeOf.sizeOf t:=by
 cases t;have:=List.sizeOf_lt_of_mem h;simp only[Ty.args] at this;simp only[Ty.mk.sizeOf_spec];omega
theorem Og:∀(n:Nat) (x y:Ty),SizeOf.sizeOf x<n->dn 127 [C6 x,C6 y] (x=y)
 | 0,x,y,h=>vv h (by omega)
 | n+1,x,y,h=>by
  have d:∀z∈x.args,∀w,dn 127 [C6 z,C6 w] (z=w):=fun z c w=>Og n z w (by have:=Oe c;omega);refine aj Tryz.func127 Jo rfl fun f _=>?_;refine aN (fun a=>?_) (fun a=>aK rfl (j3 C.bool (aC fun e=>a (by rw[e]))));refine aN (fun b=>?_) (fun b=>aK rfl (j3 C.bool (aC fun e=>b (by rw[e]))));refine bA (Sq x.args y.args d) rfl fun _=>?_;exact aK rfl (j3 C.bool (gW ⟨fun h=>Od a b h,fun e=>by rw[e]⟩))
theorem Qk (x y:Ty):dn 127 [C6 x,C6 y] (x=y):=Og _ x y (abh _)
theorem Kb (a b:List Ty):dn 126 [.sl (a.map uY),.sl (b.map uY),.fn 127 [] []] (a=b):=Sq a b fun x _ y=>Qk x y
theorem var_eq {x y:Variant}(a:x.name=y.name) (b:x.fields=y.fields):x=y:=by
 rcases x with⟨⟩
 rcases y with⟨⟩
 simp_all
theorem Wi (x y:Variant):dn 125 [.agg (gJ x),.agg (gJ y)] (x=y):=by
 refine aj Tryz.func125 Jl rfl fun b _=>?_;refine aN (fun a=>?_) (fun a=>aK rfl (j3 C.bool (aC fun e=>a (by rw[e]))));refine bA (Kb x.fields y.fields) rfl fun _=>?_;exact aK rfl (j3 C.bool (gW ⟨fun h=>var_eq (rG a) h,fun e=>by rw[e]⟩))
theorem Wj (a b:List (Variant)) (r:∀x∈a,∀y,dn 125 [.agg (gJ x),.agg (gJ y)] (x=y)):dn 137 [.sl (a.map gJ),.sl (b.map gJ),.fn 125 [] []] (a=b):=by
 refine aj Tryz.func137 Jy rfl fun q _=>?_;have n:(a.map gJ).length=a.length:=by simp
 have hb:(b.map gJ).length=b.length:=by simp
 have t:a.length<=9223372036854775807:=by have:=nj q.1;rwa [n] at this
 refine ah (fun d=>?_) (fun d=>?_)
 ·have d:¬a.length=b.length:=fun e=>by
   rw[n,hb,e] at d;simp at d
  exact aK rfl (j3 C.bool (aC (nY d)))
 have d:a.length=b.length:=by
  rw[n,hb] at d;simp at d;omega
 refine bF a.length 17 [] () (fun _=>[]) (fun _=>[]) (fun k _=>∀j<k,a[j]?=b[j]?) (fun j s=>vv s (by omega)) (ak rfl) trivial trivial (fun _=>rfl) (fun _=>rfl) ?_;rintro k ⟨⟩ u f _ _ _;refine aN (fun c=>?_) (fun m=>?_)
 ·have c:k<a.length:=by rw[n] at c;omega
  obtain⟨x,o⟩:=bf c;obtain⟨y,p⟩:=bf (l:=b) (k:=k) (by omega);refine ck o rfl rfl ?_;refine ck p rfl rfl ?_;refine bA (r x (aam o) y) rfl fun _=>?_;refine ah (fun h=>?_) (fun h=>?_)
  ·have h:¬x=y:=kh (by simpa using h);exact aK rfl (j3 C.bool (aC (bY o p h)))
  ·have h:x=y:=jH (by simpa using h);refine Fit.ZA (by omega) (by omega) ?_;exact⟨(k+1,()),⟨c,bS f o p h⟩,⟨bL,trivial⟩,trivial,bM c⟩
 ·have m:¬k<a.length:=by rw[n] at m;omega
  have:k=a.length:=by omega
  subst this;exact aK rfl (j3 C.bool (dh (bR rfl d.symm f)))
theorem Wk (a b:List (Variant)) (c:∀x∈a,∀y,dn 125 [.agg (gJ x),.agg (gJ y)] (x=y)):dn 124 [.sl (a.map gJ),.sl (b.map gJ),.fn 125 [] []] (a=b):=by
 refine aj Tryz.func124 Jk rfl fun d _=>?_;refine bA (Wj a b c) rfl fun _=>?_;exact aK rfl rfl
theorem FC {x y:Api.Data}(a:x.name=y.name) (e:x.module=y.module) (c:x.params=y.params) (b:x.drop=y.drop) (d:x.variants=y.variants):x=y:=by
 rcases x with⟨⟩
 rcases y with⟨⟩
 simp_all
theorem Zi (x y:Api.Data):dn 98 [.agg (jr x),.agg (jr y)] (x=y):=by
 refine aj Tryz.func98 MP rfl fun k _=>?_;refine aN (fun c=>?_) (fun c=>aK rfl (j3 C.bool (aC fun e=>c (by rw[e]))));refine aN (fun j=>?_) (fun j=>aK rfl (j3 C.bool (aC fun e=>j (by rw[e]))));refine aN (fun f=>?_) (fun f=>aK rfl (j3 C.bool (aC fun e=>f (by rw[e]))));refine aN (fun d=>?_) (fun d=>aK rfl (j3 C.bool (aC fun e=>d (by rw[e]))));refine bA (Wk x.variants y.variants fun a _ b=>Wi a b) rfl fun _=>?_;exact aK rfl (j3 C.bool (gW ⟨fun h=>FC (rG c) j f d h,fun e=>by rw[e]⟩))
theorem Wl (a b:List (Api.Data)) (r:∀x∈a,∀y,dn 98 [.agg (jr x),.agg (jr y)] (x=y)):dn 123 [.sl (a.map jr),.sl (b.map jr),.fn 98 [] []] (a=b):=by
 refine aj Tryz.func123 Jj rfl fun q _=>?_;have n:(a.map jr).length=a.length:=by simp
 have hb:(b.map jr).length=b.length:=by simp
 have t:a.length<=9223372036854775807:=by have:=nj q.1;rwa [n] at this
 refine ah (fun d=>?_) (fun d=>?_)
 ·have d:¬a.length=b.length:=fun e=>by
   rw[n,hb,e] at d;simp at d
  exact aK rfl (j3 C.bool (aC (nY d)))
 have d:a.length=b.length:=by
  rw[n,hb] at d;simp at d;omega
 refine bF a.length 17 [] () (fun _=>[]) (fun _=>[]) (fun k _=>∀j<k,a[j]?=b[j]?) (fun j s=>vv s (by omega)) (ak rfl) trivial trivial (fun _=>rfl) (fun _=>rfl) ?_;rintro k ⟨⟩ u f _ _ _;refine aN (fun c=>?_) (fun m=>?_)
 ·have c:k<a.length:=by rw[n] at c;omega
  obtain⟨x,o⟩:=bf c;obtain⟨y,p⟩:=bf (l:=b) (k:=k) (by omega);refine ck o rfl rfl ?_;refine ck p rfl rfl ?_;refine bA (r x (aam o) y) rfl fun _=>?_;refine ah (fun h=>?_) (fun h=>?_)
  ·have h:¬x=y:=kh (by simpa using h);exact aK rfl (j3 C.bool (aC (bY o p h)))
  ·have h:x=y:=jH (by simpa using h);refine Fit.ZA (by omega) (by omega) ?_;exact⟨(k+1,()),⟨c,bS f o p h⟩,⟨bL,trivial⟩,trivial,bM c⟩
 ·have m:¬k<a.length:=by rw[n] at m;omega
  have:k=a.length:=by omega
  subst this;exact aK rfl (j3 C.bool (dh (bR rfl d.symm f)))
theorem Zj (a b:List (Api.Data)) (c:∀x∈a,∀y,dn 98 [.agg (jr x),.agg (jr y)] (x=y)):dn 97 [.sl (a.map jr),.sl (b.map jr),.fn 98 [] []] (a=b):=by
 refine aj Tryz.func97 MO rfl fun d _=>?_;refine bA (Wl a b c) rfl fun _=>?_;exact aK rfl rfl
theorem Kc {x y:G5}(c:x.op=y.op) (k:x.dst=y.dst) (h:x.a=y.a) (e:x.b=y.b) (j:x.n=y.n) (d:x.args=y.args) (f:x.types=y.types):x=y:=by
 rcases x with⟨⟩
 rcases y with⟨⟩
 simp_all
theorem t141 (x y:G5):dn 141 [.agg (rL x),.agg (rL y)] (x=y):=by
 refine aj Tryz.func141 JC rfl fun k _=>?_;refine aN (fun a=>?_) (fun a=>aK rfl (j3 C.bool (aC fun e=>a (by rw[e]))));refine aN (fun j=>?_) (fun j=>aK rfl (j3 C.bool (aC fun e=>j (by rw[e]))));refine aN (fun d=>?_) (fun d=>aK rfl (j3 C.bool (aC fun e=>d (by rw[e]))));refine aN (fun c=>?_) (fun c=>aK rfl (j3 C.bool (aC fun e=>c (by rw[e]))));refine aN (fun f=>?_) (fun f=>aK rfl (j3 C.bool (aC fun e=>f (by rw[e]))));refine bA (Qj x.args y.args) rfl fun _=>?_;refine ah (fun b=>?_) (fun b=>aK rfl (j3 C.bool (aC fun e=>kh b (by rw[e]))));refine bA (Kb x.types y.types) rfl fun _=>?_;exact aK rfl (j3 C.bool (gW ⟨fun h=>Kc a j d c f (jH b) h,fun e=>by rw[e]⟩))
theorem Wm (a b:List (G5)) (r:∀x∈a,∀y,dn 141 [.agg (rL x),.agg (rL y)] (x=y)):dn 147 [.sl (a.map rL),.sl (b.map rL),.fn 141 [] []] (a=b):=by
 refine aj Tryz.func147 JH rfl fun q _=>?_;have n:(a.map rL).length=a.length:=by simp
 have hb:(b.map rL).length=b.length:=by simp
 have t:a.length<=9223372036854775807:=by have:=nj q.1;rwa [n] at this
 refine ah (fun d=>?_) (fun d=>?_)
 ·have d:¬a.length=b.length:=fun e=>by
   rw[n,hb,e] at d;simp at d
  exact aK rfl (j3 C.bool (aC (nY d)))
 have d:a.length=b.length:=by
  rw[n,hb] at d;simp at d;omega
 refine bF a.length 17 [] () (fun _=>[]) (fun _=>[]) (fun k _=>∀j<k,a[j]?=b[j]?) (fun j s=>vv s (by omega)) (ak rfl) trivial trivial (fun _=>rfl) (fun _=>rfl) ?_;rintro k ⟨⟩ u f _ _ _;refine aN (fun c=>?_) (fun m=>?_)
 ·have c:k<a.length:=by rw[n] at c;omega
  obtain⟨x,o⟩:=bf c;obtain⟨y,p⟩:=bf (l:=b) (k:=k) (by omega);refine ck o rfl rfl ?_;refine ck p rfl rfl ?_;refine bA (r x (aam o) y) rfl fun _=>?_;refine ah (fun h=>?_) (fun h=>?_)
  ·have h:¬x=y:=kh (by simpa using h);exact aK rfl (j3 C.bool (aC (bY o p h)))
  ·have h:x=y:=jH (by simpa using h);refine Fit.ZA (by omega) (by omega) ?_;exact⟨(k+1,()),⟨c,bS f o p h⟩,⟨bL,trivial⟩,trivial,bM c⟩
 ·have m:¬k<a.length:=by rw[n] at m;omega
  have:k=a.length:=by omega
  subst this;exact aK rfl (j3 C.bool (dh (bR rfl d.symm f)))
theorem Wn (a b:List (G5)) (c:∀x∈a,∀y,dn 141 [.agg (rL x),.agg (rL y)] (x=y)):dn 140 [.sl (a.map rL),.sl (b.map rL),.fn 141 [] []] (a=b):=by
 refine aj Tryz.func140 JB rfl fun d _=>?_;refine bA (Wm a b c) rfl fun _=>?_;exact aK rfl rfl
theorem C8 {x y:Block}(b:x.code=y.code) (f:x.fin.kind=y.fin.kind) (e:x.fin.a=y.fin.a) (d:x.fin.targets=y.fin.targets):x=y:=by
 rcases x with⟨c,⟨⟩⟩
 rcases y with⟨c,⟨⟩⟩
 simp_all
theorem Wo (x y:Block):dn 131 [.agg (jf x),.agg (jf y)] (x=y):=by
 refine aj Tryz.func131 Js rfl fun j _=>?_;refine bA (Wn x.code y.code fun a _ b=>t141 a b) rfl fun _=>?_;refine ah (fun c=>?_) (fun c=>aK rfl (j3 C.bool (aC fun e=>kh c (by rw[e]))));refine aN (fun f=>?_) (fun f=>aK rfl (j3 C.bool (aC fun e=>f (by rw[e]))));refine aN (fun d=>?_) (fun d=>aK rfl (j3 C.bool (aC fun e=>d (by rw[e]))));refine bA (Qj x.fin.targets y.fin.targets) rfl fun _=>?_;exact aK rfl (j3 C.bool (gW ⟨fun h=>C8 (jH c) f d h,fun e=>by rw[e]⟩))
theorem t139 (a b:List (Block)) (r:∀x∈a,∀y,dn 131 [.agg (jf x),.agg (jf y)] (x=y)):dn 139 [.sl (a.map jf),.sl (b.map jf),.fn 131 [] []] (a=b):=by
 refine aj Tryz.func139 JA rfl fun q _=>?_;have n:(a.map jf).length=a.length:=by simp
 have hb:(b.map jf).length=b.length:=by simp
 have t:a.length<=9223372036854775807:=by have:=nj q.1;rwa [n] at this
 refine ah (fun d=>?_) (fun d=>?_)
 ·have d:¬a.length=b.length:=fun e=>by
   rw[n,hb,e] at d;simp at d
  exact aK rfl (j3 C.bool (aC (nY d)))
 have d:a.length=b.length:=by
  rw[n,hb] at d;simp at d;omega
 refine bF a.length 17 [] () (fun _=>[]) (fun _=>[]) (fun k _=>∀j<k,a[j]?=b[j]?) (fun j s=>vv s (by omega)) (ak rfl) trivial trivial (fun _=>rfl) (fun _=>rfl) ?_;rintro k ⟨⟩ u f _ _ _;refine aN (fun c=>?_) (fun m=>?_)
 ·have c:k<a.length:=by rw[n] at c;omega
  obtain⟨x,o⟩:=bf c;obtain⟨y,p⟩:=bf (l:=b) (k:=k) (by omega);refine ck o rfl rfl ?_;refine ck p rfl rfl ?_;refine bA (r x (aam o) y) rfl fun _=>?_;refine ah (fun h=>?_) (fun h=>?_)
  ·have h:¬x=y:=kh (by simpa using h);exact aK rfl (j3 C.bool (aC (bY o p h)))
  ·have h:x=y:=jH (by simpa using h);refine Fit.ZA (by omega) (by omega) ?_;exact⟨(k+1,()),⟨c,bS f o p h⟩,⟨bL,trivial⟩,trivial,bM c⟩
 ·have m:¬k<a.length:=by rw[n] at m;omega
  have:k=a.length:=by omega
  subst this;exact aK rfl (j3 C.bool (dh (bR rfl d.symm f)))
theorem Wp (a b:List (Block)) (c:∀x∈a,∀y,dn 131 [.agg (jf x),.agg (jf y)] (x=y)):dn 130 [.sl (a.map jf),.sl (b.map jf),.fn 131 [] []] (a=b):=by
 refine aj Tryz.func130 Jr rfl fun d _=>?_;refine bA (t139 a b c) rfl fun _=>?_;exact aK rfl rfl
theorem FD {x y:Slot}(a:x.state=y.state) (e:x.type=y.type) (c:x.var=y.var) (b:x.flag=y.flag) (d:x.lent=y.lent):x=y:=by
 rcases x with⟨⟩
 rcases y with⟨⟩
 simp_all
theorem Wq (x y:Slot):dn 144 [.agg (jt x),.agg (jt y)] (x=y):=by
 refine aj Tryz.func144 JF rfl fun f _=>?_;refine aN (fun a=>?_) (fun a=>aK rfl (j3 C.bool (aC fun e=>a (by rw[e]))));refine bA (Qk x.type y.type) rfl fun _=>?_;refine ah (fun d=>?_) (fun d=>aK rfl (j3 C.bool (aC fun e=>kh d (by rw[e]))));refine aN (fun c=>?_) (fun c=>aK rfl (j3 C.bool (aC fun e=>c (by rw[e]))));refine aN (fun b=>?_) (fun b=>aK rfl (j3 C.bool (aC fun e=>b (by rw[e]))));refine bA (Wh x.lent y.lent) rfl fun _=>?_;exact aK rfl (j3 C.bool (gW ⟨fun h=>FD a (jH d) c b h,fun e=>by rw[e]⟩))
theorem Wr (a b:List (Slot)) (r:∀x∈a,∀y,dn 144 [.agg (jt x),.agg (jt y)] (x=y)):dn 148 [.sl (a.map jt),.sl (b.map jt),.fn 144 [] []] (a=b):=by
 refine aj Tryz.func148 JI rfl fun q _=>?_;have n:(a.map jt).length=a.length:=by simp
 have hb:(b.map jt).length=b.length:=by simp
 have t:a.length<=9223372036854775807:=by have:=nj q.1;rwa [n] at this
 refine ah (fun d=>?_) (fun d=>?_)
 ·have d:¬a.length=b.length:=fun e=>by
   rw[n,hb,e] at d;simp at d
  exact aK rfl (j3 C.bool (aC (nY d)))
 have d:a.length=b.length:=by
  rw[n,hb] at d;simp at d;omega
 refine bF a.length 17 [] () (fun _=>[]) (fun _=>[]) (fun k _=>∀j<k,a[j]?=b[j]?) (fun j s=>vv s (by omega)) (ak rfl) trivial trivial (fun _=>rfl) (fun _=>rfl) ?_;rintro k ⟨⟩ u f _ _ _;refine aN (fun c=>?_) (fun m=>?_)
 ·have c:k<a.length:=by rw[n] at c;omega
  obtain⟨x,o⟩:=bf c;obtain⟨y,p⟩:=bf (l:=b) (k:=k) (by omega);refine ck o rfl rfl ?_;refine ck p rfl rfl ?_;refine bA (r x (aam o) y) rfl fun _=>?_;refine ah (fun h=>?_) (fun h=>?_)
  ·have h:¬x=y:=kh (by simpa using h);exact aK rfl (j3 C.bool (aC (bY o p h)))
  ·have h:x=y:=jH (by simpa using h);refine Fit.ZA (by omega) (by omega) ?_;exact⟨(k+1,()),⟨c,bS f o p h⟩,⟨bL,trivial⟩,trivial,bM c⟩
 ·have m:¬k<a.length:=by rw[n] at m;omega
  have:k=a.length:=by omega
  subst this;exact aK rfl (j3 C.bool (dh (bR rfl d.symm f)))
theorem Ws (a b:List (Slot)) (c:∀x∈a,∀y,dn 144 [.agg (jt x),.agg (jt y)] (x=y)):dn 143 [.sl (a.map jt),.sl (b.map jt),.fn 144 [] []] (a=b):=by
 refine aj Tryz.func143 JE rfl fun d _=>?_;refine bA (Wr a b c) rfl fun _=>?_;exact aK rfl rfl
theorem Wt (a b:List Slot):dn 133 [.sl (a.map jt),.sl (b.map jt)] (a=b):=by
 refine aj Tryz.func133 Ju rfl fun c _=>?_;refine bA (Ws a b fun x _ y=>Wq x y) rfl fun _=>?_;exact aK rfl rfl
theorem Wu (a b:List (List Slot)) (r:∀x∈a,∀y,dn 133 [.sl (x.map jt),.sl (y.map jt)] (x=y)):dn 142 [.sl (a.map qR),.sl (b.map qR),.fn 133 [] []] (a=b):=by
 refine aj Tryz.func142 JD rfl fun q _=>?_;have n:(a.map qR).length=a.length:=by simp
 have hb:(b.map qR).length=b.length:=by simp
 have t:a.length<=9223372036854775807:=by have:=nj q.1;rwa [n] at this
 refine ah (fun d=>?_) (fun d=>?_)
 ·have d:¬a.length=b.length:=fun e=>by
   rw[n,hb,e] at d;simp at d
  exact aK rfl (j3 C.bool (aC (nY d)))
 have d:a.length=b.length:=by
  rw[n,hb] at d;simp at d;omega
 refine bF a.length 17 [] () (fun _=>[]) (fun _=>[]) (fun k _=>∀j<k,a[j]?=b[j]?) (fun j s=>vv s (by omega)) (ak rfl) trivial trivial (fun _=>rfl) (fun _=>rfl) ?_;rintro k ⟨⟩ u f _ _ _;refine aN (fun c=>?_) (fun m=>?_)
 ·have c:k<a.length:=by rw[n] at c;omega
  obtain⟨x,o⟩:=bf c;obtain⟨y,p⟩:=bf (l:=b) (k:=k) (by omega);refine ck o rfl rfl ?_;refine ck p rfl rfl ?_;refine bA (r x (aam o) y) rfl fun _=>?_;refine ah (fun h=>?_) (fun h=>?_)
  ·have h:¬x=y:=kh (by simpa using h);exact aK rfl (j3 C.bool (aC (bY o p h)))
  ·have h:x=y:=jH (by simpa using h);refine Fit.ZA (by omega) (by omega) ?_;exact⟨(k+1,()),⟨c,bS f o p h⟩,⟨bL,trivial⟩,trivial,bM c⟩
 ·have m:¬k<a.length:=by rw[n] at m;omega
  have:k=a.length:=by omega
  subst this;exact aK rfl (j3 C.bool (dh (bR rfl d.symm f)))
theorem Wv (a b:List (List Slot)) (c:∀x∈a,∀y,dn 133 [.sl (x.map jt),.sl (y.map jt)] (x=y)):dn 132 [.sl (a.map qR),.sl (b.map qR),.fn 133 [] []] (a=b):=by
 refine aj Tryz.func132 Jt rfl fun d _=>?_;refine bA (Wu a b c) rfl fun _=>?_;exact aK rfl rfl
theorem FE {x y:Ek}(a:x.name=y.name) (h:x.params=y.params) (e:x.result=y.result) (c:x.ties=y.ties) (f:x.slots=y.slots) (b:x.blocks=y.blocks) (d:x.entry=y.entry):x=y:=by
 rcases x with⟨⟩
 rcases y with⟨⟩
 simp_all
theorem Ql (x y:Ek):dn 100 [.agg (kg x),.agg (kg y)] (x=y):=by
 refine aj Tryz.func100 I8 rfl fun m _=>?_;refine aN (fun c=>?_) (fun c=>aK rfl (j3 C.bool (aC fun e=>c (by rw[e]))));refine bA (Kb x.params y.params) rfl fun _=>?_;refine ah (fun l=>?_) (fun l=>aK rfl (j3 C.bool (aC fun e=>kh l (by rw[e]))));refine bA (Qk x.result y.result) rfl fun _=>?_;refine ah (fun j=>?_) (fun j=>aK rfl (j3 C.bool (aC fun e=>kh j (by rw[e]))));refine bA (Qj x.ties y.ties) rfl fun _=>?_;refine ah (fun f=>?_) (fun f=>aK rfl (j3 C.bool (aC fun e=>kh f (by rw[e]))));refine aN (fun k=>?_) (fun k=>aK rfl (j3 C.bool (aC fun e=>k (by rw[e]))));refine bA (Wp x.blocks y.blocks fun a _ b=>Wo a b) rfl fun _=>?_;refine ah (fun d=>?_) (fun d=>aK rfl (j3 C.bool (aC fun e=>kh d (by rw[e]))));refine bA (Wv x.entry y.entry fun a _ b=>Wt a b) rfl fun _=>?_;exact aK rfl (j3 C.bool (gW ⟨fun h=>FE (rG c) (jH l) (jH j) (jH f) k (jH d) h,fun e=>by rw[e]⟩))
theorem Ww (a b:List (Ek)) (r:∀x∈a,∀y,dn 100 [.agg (kg x),.agg (kg y)] (x=y)):dn 128 [.sl (a.map kg),.sl (b.map kg),.fn 100 [] []] (a=b):=by
 refine aj Tryz.func128 Jp rfl fun q _=>?_;have n:(a.map kg).length=a.length:=by simp
 have hb:(b.map kg).length=b.length:=by simp
 have t:a.length<=9223372036854775807:=by have:=nj q.1;rwa [n] at this
 refine ah (fun d=>?_) (fun d=>?_)
 ·have d:¬a.length=b.length:=fun e=>by
   rw[n,hb,e] at d;simp at d
  exact aK rfl (j3 C.bool (aC (nY d)))
 have d:a.length=b.length:=by
  rw[n,hb] at d;simp at d;omega
 refine bF a.length 17 [] () (fun _=>[]) (fun _=>[]) (fun k _=>∀j<k,a[j]?=b[j]?) (fun j s=>vv s (by omega)) (ak rfl) trivial trivial (fun _=>rfl) (fun _=>rfl) ?_;rintro k ⟨⟩ u f _ _ _;refine aN (fun c=>?_) (fun m=>?_)
 ·have c:k<a.length:=by rw[n] at c;omega
  obtain⟨x,o⟩:=bf c;obtain⟨y,p⟩:=bf (l:=b) (k:=k) (by omega);refine ck o rfl rfl ?_;refine ck p rfl rfl ?_;refine bA (r x (aam o) y) rfl fun _=>?_;refine ah (fun h=>?_) (fun h=>?_)
  ·have h:¬x=y:=kh (by simpa using h);exact aK rfl (j3 C.bool (aC (bY o p h)))
  ·have h:x=y:=jH (by simpa using h);refine Fit.ZA (by omega) (by omega) ?_;exact⟨(k+1,()),⟨c,bS f o p h⟩,⟨bL,trivial⟩,trivial,bM c⟩
 ·have m:¬k<a.length:=by rw[n] at m;omega
  have:k=a.length:=by omega
  subst this;exact aK rfl (j3 C.bool (dh (bR rfl d.symm f)))
theorem Wx (a b:List (Ek)) (c:∀x∈a,∀y,dn 100 [.agg (kg x),.agg (kg y)] (x=y)):dn 99 [.sl (a.map kg),.sl (b.map kg),.fn 100 [] []] (a=b):=by
 refine aj Tryz.func99 MQ rfl fun d _=>?_;refine bA (Ww a b c) rfl fun _=>?_;exact aK rfl rfl
theorem Ke {x y:G7}(a:x.main=y.main) (c:x.datas=y.datas) (b:x.routs=y.routs):x=y:=by
 rcases x with⟨⟩
 rcases y with⟨⟩
 simp_all
theorem Zk (x y:G7):dn 60 [.agg (Nn x),.agg (Nn y)] (x=y):=by
 refine aj Tryz.func60 Mz rfl fun f _=>?_;refine aN (fun c=>?_) (fun c=>aK rfl (j3 C.bool (aC fun e=>c (by rw[e]))));refine bA (Zj x.datas y.datas fun a _ b=>Zi a b) rfl fun _=>?_;refine ah (fun d=>?_) (fun d=>aK rfl (j3 C.bool (aC fun e=>kh d (by rw[e]))));refine bA (Wx x.routs y.routs fun a _ b=>Ql a b) rfl fun _=>?_;exact aK rfl (j3 C.bool (gW ⟨fun h=>Ke c (jH d) h,fun e=>by rw[e]⟩))
theorem ef {a b:Enc}(h:a.2=true) (k:b.2=true):(bn a b).2=true:=by simp[bn,h,k]
theorem gK {a:Type}{f:a->Enc}(h:∀x,(f x).2=true):∀l:List a,(aS f l).2=true
 | []=>rfl
 | x::l=>ef (h x) (gK h l)
theorem gX {a:Type}{f:a->Enc}(h:∀x,(f x).2=true) (l:List a):(bQ kL f l).2=true:=ef rfl (gK h l)
theorem jv (n:Int):(kL.num n).2=true:=rfl
theorem wA (b:Bool):(oH kL b).2=true:=rfl
mutual
theorem Kf:∀(v:Vl) (d:Int),(rZ kL v d).2=true
 | .mk a b c n f e p l,d=>by
  rw[rZ];exact ef (by simp[Bj,kL]) (ef (gK jv _) (ef (ef rfl (FG f _)) (ef (gK wA _) (ef (gX jv _) (gX jv _)))))
theorem FG:∀(l:List Vl) (d:Int),(Bk kL l d).2=true
 | [],_=>rfl
 | x::xs,d=>by rw[Bk];exact ef (Kf x d) (FG xs d)
end
theorem Qm (x:Wd):(rE kL x).2=true:=by
 have d:∀v,(vD kL v).2=true:=fun v=>Kf v 60;exact ef (gX (fun c=>ef (gK wA _) (ef (gK jv _) (d _))) _)
  (ef (gX (fun b=>gK wA _) _)
  (ef (gX (fun t=>ef (gK jv _) (ef (gX (fun a=>ef (gK jv _) (ef (gX d _) (gX jv _))) _)
   (ef (gX (fun l=>ef (gK jv _) (gK wA _)) _) (ef (gK jv _) (gX jv _))))) _)
  (ef (gX (fun l=>gX d l) _)
  (ef (gX (fun o=>gK jv _) _) (gK jv _)))))
def uh (x:Wd):List UInt8:=(rE kL x).1
theorem Wy (d a:List (List C)) (b:Int) (x:Wd) (e:Fw x) (hb:(uh x).length<=70368744177664) :
  CallsT PZ 35 [.ifo none 123 1000 0,.pt (qb d a b x) 0] (WB 124 []) (iD (WB 124 (uh x)) (.tup [])) :=
 ((Sf VW d a b x e [] (by simp only[aaQ,Nat.zero_add];exact hb)).imp (Pp':=fun _=>False) (R':=iD (WB 124 (uh x)) (.tup []))
  (fun Mo c ⟨_,j,f⟩=>⟨by rw[j];rfl,f⟩) (fun v ⟨_,h⟩=>by rw[Qm] at h;cases h)).noPan
theorem W9 (d b:List (List C)) (c:Int) (x:Wd) (e:Fw x) (hb:(uh x).length<=70368744177664) :
  CallsT PZ 59 [.agg (qb d b c x)] [] (iD [] (.sl (af (uh x)))):=by
 have a:=Wy d b c x e hb;refine aj Tryz.func59 My rfl fun h f=>?_;refine Q9 [(5,.box 124 [.rw 50,IC 0,.int .i8 0]),(50,.row 5 1 [])] [5,50] [5,50] a
  ⟨.inl ⟨_,rfl,.inr ⟨124,_,_,rfl,rfl,⟨_,_,rfl,uZ rfl rfl,⟨_,_,rfl,ak rfl,⟨_,_,rfl,ak rfl,rfl⟩⟩⟩⟩⟩,.inr ⟨rfl,5,1,rfl⟩,trivial⟩ rfl rfl rfl rfl rfl fun _ _=>?_
 refine vu [50] [5] [5] (P4 124 (uh x)) ⟨_,rfl,rfl,rfl,rfl,rfl,fun _ _=>?_⟩;exact aK rfl rfl
noncomputable def El (i j:G7) (x y:Wd):Bool:=GS (i=j)&&decide (uh x=uh y)
def Qn (i:G7) (x:Wd):List C:=qb (i.datas.map jr) (i.routs.map kg) i.main x
theorem Xa (i j:G7) (x y:Wd) (c:Fw x) (e:Fw y) (a:(uh x).length<=70368744177664) (b:(uh y).length<=70368744177664) :
  CallsT PZ 17 [.agg (Qn i x),.agg (Qn j y)] [] (iD [] (.bool (El i j x y))):=by
 have k:=W9 (i.datas.map jr) (i.routs.map kg) i.main x c a;have f:=W9 (j.datas.map jr) (j.routs.map kg) j.main y e b;refine aj Tryz.func17 L9 rfl fun l d=>?_;refine dW (Zk i j) rfl fun _=>?_;refine ah (fun h=>?_) (fun h=>?_)
 ·refine dW k rfl fun _=>?_;refine dW f rfl fun _=>?_;refine dW (t31 (uh x) (uh y)) rfl fun _=>?_;exact aK rfl (by rw[El,h];rfl)
 ·exact aK rfl (by rw[El,h];rfl)
end Go.Fr.Tryz
namespace Go.Fr.Tryz
open Go Go.RowKit Go.Proofs Go.Fr Go.Fr.T Go.Fr.Api Go.Fr.Dm
theorem mG (a:List UInt8) (b:UInt8):af a++af [b]=af (a++[b]):=by simp[af]
theorem t22 (n:Int) (h:-2305843009213693952<=n) (l:n<=2305843009213693952):CallsT PZ 22 [IC n] [] (iD [.row 5 1 (af (bP (zz n)))] (.rw 1000)):=by
 have k:zz n<=4611686018427387904:=by unfold zz;split<;>omega
 have o:=nu n h l;refine aj Tryz.func22 Md rfl fun p _=>?_;refine Fit.ZA (by omega) (by omega) ?_;refine aN (fun e=>?_) (fun f=>?_)
 ·refine Fit.ZA (by omega) (by omega) ?_;refine Fit.ZA (by omega) (by omega) ?_;refine xg.mk ⟨Nat×List UInt8,(zz n,[]),fun y=>y.1<=4611686018427387904/\y.2++bP y.1=bP (zz n),[3,4],fun y=>[.int .i64 y.1,.rw 20],fun y=>[(20,.row 5 1 (af y.2))],fun y=>y.1,⟨k,rfl⟩,⟨.inr (.inl ⟨?_,rfl⟩),uZ rfl rfl,trivial⟩,
    ⟨.inr ⟨rfl,5,1,rfl⟩,trivial⟩,fun _=>rfl,fun _=>rfl,?_⟩
  ·exact j3 (C.int .i64) (by unfold zz;rw[o6 e];omega)
  rintro⟨m,done⟩ ⟨d,a⟩ _ _;simp only at a d;have j:done.length+(bP m).length<=10:=by
   have:=j3 List.length a;simp only[aak] at this;omega
  have h:=j9 m;refine aN (fun c=>?_) (fun c=>?_)
  ·have c:128<=m:=by have:(128:Int)<=(m:Int):=c;omega
   have b:bP m=UInt8.ofNat (128+m % 128)::bP (m / 128):=by rw[bP,dif_neg (by omega)]
   refine nP.mk (by omega) ?_;refine Fit.to (m:=128+(m:Int).tmod 128) (bU (by rw[show(m:Int).tmod 128=((m % 128:Nat):Int) from rfl];omega) (by rw[show(m:Int).tmod 128=((m % 128:Nat):Int) from rfl];omega)) ?_;refine Fit.to (Bm m) ?_;refine rM (bs:=[UInt8.ofNat (128+m % 128)]) done.length aM (by simp;omega) ?_;refine nP.mk (by omega) ?_;refine Fit.to (m:=((m / 128:Nat):Int)) (by show IntKind.wrap .i64 ((m / 128:Nat):Int)=_;exact bU (by omega) (by omega)) ?_;refine⟨(m / 128,done++[UInt8.ofNat (128+m % 128)]),⟨?_,?_⟩,⟨.inr (.inl ⟨rfl,rfl⟩),ak rfl,trivial⟩,⟨.inl ⟨_,rfl,.inl ⟨j3 (TO.row 5 1) (mG done _),rfl⟩⟩,trivial⟩,?_⟩
   ·show m / 128<=_;omega
   ·show done++[UInt8.ofNat (128+m % 128)]++bP (m / 128)=bP (zz n);rw[<-a,b];simp
   ·show m / 128<m;omega
  ·have c:m<128:=by have:¬(128:Int)<=(m:Int):=c;omega
   have b:bP m=[UInt8.ofNat m]:=by rw[bP,dif_pos c]
   refine Fit.to (Bn m) ?_;refine rM (bs:=[UInt8.ofNat m]) done.length aM (by simp;omega) ?_;exact yO [20] rfl rfl (j3 (fun q=>[TO.row 5 1 q]) ((mG done _).trans (j3 af (by rw[<-a,b]:done++[UInt8.ofNat m]=bP (zz n))))) rfl
 ·refine xg.mk ⟨Nat×List UInt8,(zz n,[]),fun y=>y.1<=4611686018427387904/\y.2++bP y.1=bP (zz n),[3,4],fun y=>[.int .i64 y.1,.rw 20],fun y=>[(20,.row 5 1 (af y.2))],fun y=>y.1,⟨k,rfl⟩,⟨.inr (.inl ⟨?_,rfl⟩),uZ rfl rfl,trivial⟩,
    ⟨.inr ⟨rfl,5,1,rfl⟩,trivial⟩,fun _=>rfl,fun _=>rfl,?_⟩
  ·exact j3 (C.int .i64) (by unfold zz;rw[vz f];omega)
  rintro⟨m,done⟩ ⟨d,a⟩ _ _;simp only at a d;have j:done.length+(bP m).length<=10:=by
   have:=j3 List.length a;simp only[aak] at this;omega
  have h:=j9 m;refine aN (fun c=>?_) (fun c=>?_)
  ·have c:128<=m:=by have:(128:Int)<=(m:Int):=c;omega
   have b:bP m=UInt8.ofNat (128+m % 128)::bP (m / 128):=by rw[bP,dif_neg (by omega)]
   refine nP.mk (by omega) ?_;refine Fit.to (m:=128+(m:Int).tmod 128) (bU (by rw[show(m:Int).tmod 128=((m % 128:Nat):Int) from rfl];omega) (by rw[show(m:Int).tmod 128=((m % 128:Nat):Int) from rfl];omega)) ?_;refine Fit.to (Bm m) ?_;refine rM (bs:=[UInt8.ofNat (128+m % 128)]) done.length aM (by simp;omega) ?_;refine nP.mk (by omega) ?_;refine Fit.to (m:=((m / 128:Nat):Int)) (by show IntKind.wrap .i64 ((m / 128:Nat):Int)=_;exact bU (by omega) (by omega)) ?_;refine⟨(m / 128,done++[UInt8.ofNat (128+m % 128)]),⟨?_,?_⟩,⟨.inr (.inl ⟨rfl,rfl⟩),ak rfl,trivial⟩,⟨.inl ⟨_,rfl,.inl ⟨j3 (TO.row 5 1) (mG done _),rfl⟩⟩,trivial⟩,?_⟩
   ·show m / 128<=_;omega
   ·show done++[UInt8.ofNat (128+m % 128)]++bP (m / 128)=bP (zz n);rw[<-a,b];simp
   ·show m / 128<m;omega
  ·have c:m<128:=by have:¬(128:Int)<=(m:Int):=c;omega
   have b:bP m=[UInt8.ofNat m]:=by rw[bP,dif_pos c]
   refine Fit.to (Bn m) ?_;refine rM (bs:=[UInt8.ofNat m]) done.length aM (by simp;omega) ?_;exact yO [20] rfl rfl (j3 (fun q=>[TO.row 5 1 q]) ((mG done _).trans (j3 af (by rw[<-a,b]:done++[UInt8.ofNat m]=bP (zz n))))) rfl
theorem Sr (n:Nat):List.replicate (n:Int).toNat [C.int .u8 0]=af (List.replicate n 0):=by simp[af,jo]
theorem t21 (n:Nat) (b:UInt8) (o:n<=1048576):CallsT PZ 21 [IC n,jo b] [] (iD [.row 5 1 (af (List.replicate n b))] (.rw 1000)):=by
 refine aj Tryz.func21 Mc rfl fun p _=>?_;refine ur.mk (by omega) (aaI _) (by omega) (by unfold maxLen;omega) ?_;refine bF n 6 [5] (List.replicate n 0) (fun _=>[.rw 8]) (fun s=>[(8,.row 5 1 (af s))]) (fun k s=>s=List.replicate k b++List.replicate (n-k) 0) rfl (ak rfl) ⟨ak rfl,trivial⟩
  ⟨.inl ⟨_,rfl,.inl ⟨j3 (TO.row 5 1) (Sr n),rfl⟩⟩,trivial⟩ (fun _=>rfl) (fun _=>rfl) ?_
 rintro k s m h _ _ l;refine aN (fun a=>?_) (fun e=>?_)
 ·have a:k<n:=by omega
  have f:s[k]?=some 0:=by rw[h,aaw (by simp),List.getElem?_replicate];simp;omega
  have c:s.set k b=List.replicate (k+1) b++List.replicate (n-(k+1)) 0:=by
   rw[h,show n-k=(n-(k+1))+1 by omega,List.replicate_succ' (n:=k),List.set_append_right _ _ (by simp)];simp[aa3]
  have d:(af s).length=n:=by rw[aM,h];simp;omega
  refine OA.mk (by omega) (by rw[d];omega) ?_;have j:(af s)[k]?=some [jo 0]:=by simp[af,f]
  refine⟨rfl,?_⟩;refine J8 (es0:=[jo 0]) (by show(af s)[k]?=_;simp[af,f]) rfl ?_;refine Fit.ZA (by omega) (by omega) ?_;exact⟨(k+1,s.set k b),⟨a,c⟩,⟨bL,ak rfl,trivial⟩,⟨.inl ⟨_,rfl,.inl ⟨j3 (TO.row 5 1) (by show(af s).set k [jo b]=af (s.set k b);simp[af,List.map_set]),rfl⟩⟩,trivial⟩,bM a⟩
 ·have e:k=n:=by omega
  exact yO [8] rfl rfl (j3 (fun q=>[TO.row 5 1 (af q)]) (by rw[h,e];simp)) rfl
def rN:Dec (Int×Int):=fV getD fun x=>fV getD fun y=>vM (x,y)
def PB (bs:List UInt8) (x y:Int):List TO:=[.box 86 [.own 1001 0],RB bs,.box 3 [IC x],.box 3 [IC y]]
theorem Zl (bs:List UInt8):CallsTX PZ 43 [.own 1000 0,.own 1002 0,.own 1003 0] (PB bs 0 0) (fun Mo c=>∃x y r,rN bs=some ((x,y),r)/\Mo=PB r x y/\c=.tup []) (fun v=>v=fL/\rN bs=none):=by
 refine aq Tryz.func43 Mn rfl fun k b=>?_;refine cu [1001] (NY bs) rfl rfl rfl rfl (fun v h=>⟨h.1,aV h.2⟩) ?_;rintro v Mo ⟨x,r,j,rfl,rfl⟩ _ _;refine⟨rfl,?_⟩;have a:rN bs=_:=au j;refine cu [1001] (NY r) rfl rfl rfl rfl (fun v h=>⟨h.1,a.trans (aV h.2)⟩) ?_;rintro v Mo ⟨y,d,e,rfl,rfl⟩ _ _;refine⟨rfl,?_⟩;have f:=a.trans (au e);exact dz [1000,1001,1002,1003] rfl rfl rfl rfl ⟨x,y,d,f,rfl,rfl⟩
def qU (out:List UInt8) (off:Nat) (b:List UInt8):List UInt8:=out.take off++b++out.drop (off+b.length)
theorem oM {out b:List UInt8}{off:Nat}(h:off+b.length<=out.length):(qU out off b).length=out.length:=by
 simp only[qU,aak,aaC,aa2];omega
theorem Aa (out:List UInt8) (off:Nat) (b:List UInt8):aP (dS out) off (dS b)=dS (qU out off b):=by
 simp[aP,qU,dS]
theorem Wz (F:aD) (a:Option Addr) (n c i:Nat) (q:n<=c) (s:c<=9223372036854775807) (hi:i<=1125899906842624) :
  CallsA PZ 62 #[.slice a n c,.int .i64 i] F [] (fun _ Lo v=>Lo=[]/\v=gj a c (min (32*i) n) (min (32*i+32) n) 1):=by
 have b:(if(n:Int)<32*(i:Int) then(n:Int) else 32*(i:Int))=((min (32*i) n:Nat):Int):=by split<;>omega
 have d:(if(n:Int)<32*(i:Int)+32 then(n:Int) else 32*(i:Int)+32)=((min (32*i+32) n:Nat):Int):=by split<;>omega
 have l:0<=(if(n:Int)<32*(i:Int) then(n:Int) else 32*(i:Int)):=by rw[b];omega
 have p:(if(n:Int)<32*(i:Int) then(n:Int) else 32*(i:Int))<=(if(n:Int)<32*(i:Int)+32 then(n:Int) else 32*(i:Int)+32):=by rw[b,d];omega
 have o:(if(n:Int)<32*(i:Int)+32 then(n:Int) else 32*(i:Int)+32)<=(c:Int):=by rw[d];omega
 have m:gj a c (if(n:Int)<32*(i:Int) then(n:Int) else 32*(i:Int)).toNat (if(n:Int)<32*(i:Int)+32 then(n:Int) else 32*(i:Int)+32).toNat 1=gj a c (min (32*i) n) (min (32*i+32) n) 1:=by rw[b,d];rfl
 refine gN (svs:=[.v (.slice a n c),.v (.int .i64 i)]) Tryz.func62 EU rfl rfl (fun v f=>?_) (fun _ _ _ _ _ h=>h) ?_
 ·refine⟨fun k off e=>?_,fun r j e=>?_⟩<;>subst e<;>simp at f
 refine Fit.ZA (by omega) (by omega) ?_;refine Fit.ZA (by omega) (by omega) ?_;refine Fit.ZA (by omega) (by omega) ?_;refine nD.mk l p o ?_;exact⟨[],[],rfl,by decide,rfl,m⟩
section
variable {G:Nat->Option (Nat×TypeId)}{F:aD}{L:Loc}{ρ:Env}{M:TL}{τ:aX}
theorem row_of (j:TS G F L ρ M τ) {k:Nat}{out:List UInt8}(m:M.get k=some (.row 5 1 (af out))) :
  ∃a c,L.get k=some (.row (.slice a out.length c) 5 1 out.length (dS out))/\(a=none->out.length=0)/\out.length<=maxLen:=by
 have b:=j.tl k;rw[m] at b;cases e:L.get k with
 | none=>rw[e] at b;exact b.elim
 | some o =>
  rw[e] at b;cases o with
  | box=>exact b.elim
  | row v t sz n xs =>
   obtain⟨rfl,rfl,d,⟨l,a,c,rfl,f⟩,h⟩:=b;rw[aM] at d;subst d;rw[mE h];exact⟨a,c,rfl,f,l⟩
theorem C9 (h:TS G F L ρ M τ) {k n c:Nat}{a:Option Addr}{out out':List UInt8}(b:L.get k=some (.row (.slice a n c) 5 1 n (dS out))) (j:out'.length=n) (d:n<=maxLen) (f:a=none->n=0) :
  TS G F (L.set k (.row (.slice a n c) 5 1 n (dS out'))) ρ (M.set k (.row 5 1 (af out'))) τ:=by
 refine h.turn (o':=.row (.slice a n c) 5 1 n (dS out')) b ⟨rfl,rfl,rfl⟩ (fun g t cs e=>by cases e) fun L' _=>?_;refine⟨rfl,rfl,by rw[aM,j],⟨d,a,c,rfl,f⟩,pU _⟩
theorem TS.aac (a:TS G F L ρ M τ) {M':TL}(h:∀k,M'.get k=M.get k):TS G F L ρ M' τ:=⟨fun k=>by rw[h k];exact a.tl k,a.env,a.kp,a.glob⟩
theorem Np {P:Program}{K:TL->aX->Prop}{d:Option Nat}{s x k:Nat}{out a:List UInt8}(hk:M.get k=some (.row 5 1 (af out))) (h1:τ s=.rw k) (w:τ x=.sl (af a))
  (hK:K (M.set k (.row 5 1 (af (qU out 0 (a.take out.length))))) (bE d (IC ((min a.length out.length:Nat):Int)) τ)):Q7 P (.copy 5 1 (.t s) (.t x)) d M τ K:=by
 refine⟨fun G F L ρ n=>?_⟩;obtain⟨b,c,u,ha,y⟩:=row_of n hk;obtain⟨a1,c1,t1,ag,n1,ar,e1,f⟩:=sO (x:=.t s) n.env h1;rw[u] at f;injection f with f
 injection f with f _ _ _ _
 injection f with e3 e4 e5
 subst e3 e4 e5;have p:=dJ n.env (.t x);have w:cn τ (.t x)=.sl (af a):=w;rw[w] at p;obtain⟨v,q,p⟩:=p;obtain⟨z,r,rfl,_,am,hf⟩:=x9 p;have q:ev ρ (.t x)=.v (.slice z a.length r):=q;simp only[evalOp,e1,q];have hl:(a.take out.length).length=min out.length a.length:=aaC;have o:∀{L:Loc}(m:Nat),m<=maxLen->aQ F L (IC (m:Int)) (.v (.int .i64 m)):=fun m y=>⟨_,rfl,by
  rw[Rel];refine⟨rfl,?_⟩;rw[AH];simp only[IntKind.min,IntKind.max,IntKind.signed,IntKind.bits,aaD];unfold maxLen at y;omega⟩
 cases b with
 | none =>
  have h0:out.length=0:=ha rfl;have l:out=[]:=aaG h0;subst l;refine⟨.inr ⟨none,0,c,z,a.length,r,rfl,rfl,by simp,?_⟩⟩;refine⟨M.set k (.row 5 1 (af (qU [] 0 (a.take 0)))),bE d (IC ((min a.length 0:Nat):Int)) τ,?_,hK⟩;refine TS.aac (M:=M) ?_ fun j=>?_
  ·have:=n.put (o 0 (by decide)) d;simpa using this
  ·rw[TL.Zz];split
   ·rename_i e;subst e;rw[hk];simp[qU]
   ·rfl
 | some b =>
  refine⟨.inl ⟨k,out.length,.slice (some b) out.length c,out.length,dS out,b,c,c,0,a.length,z,r,dS (a.take out.length),u,rfl,?_,by omega,rfl,?_,?_,nk _,?_⟩⟩
  ·rw[Nat.zero_mul,show b.add 0=b by cases b;rfl]
  ·rw[oJ,hl,Nat.mul_one,Nat.min_comm]
  ·rcases hf with h | ⟨h,_⟩
   ·refine .inl ?_;rw[show dS (a.take out.length)=(dS a).take out.length by simp[dS]];exact CX h
   ·exact .inr ⟨by omega,by rw[aaG h];simp[dS]⟩
  ·rw[Nat.zero_mul,Aa];refine⟨_,_,?_,hK⟩;have h3:=C9 n u (out':=qU out 0 (a.take out.length)) (oM (by rw[hl];omega)) y ha;exact h3.put (o _ (by omega)) d
end
end Go.Fr.Tryz
