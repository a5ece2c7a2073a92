/- Part of the proofs of the statements of this seat. -/
import Derived.Test.YtnlegbokpofcaaaDoorSnP4G
import Derived.Test.YtnlegbokpofcaaaDoorSnIds
import Derived.Deep.DeepWitnessRowRef
set_option maxRecDepth 10000
set_option linter.unusedVariables false
set_option linter.unusedSimpArgs false
namespace Go.Fr.Tryd
open Go Go.RowKit Go.Proofs Go.Fr Go.Fr.T Go.Fr.Api Go.Fr.Dm
def Mt:List ak:=[.op (some 56) (.mov (.t 8)) none,
     .op (some 57) (.mov (.t 9)) none,
     .op (some 58) (.bin .mul (.c (.int .i64 32)) (.t 57)) none,
     .op (some 59) (.slc 1 (.t 56) (some (.t 58)) none) none,
     .op (some 60) (.mov (.t 0)) none,
     .op (some 61) (.mov (.t 8)) none,
     .op (some 62) (.mov (.t 9)) none,
     .op (some 63) (.callD 25 [(.t 61),(.t 62)]) none,
     .op (some 64) (.len (.t 63)) none,
     .pc (some 65) (.call 41 [(.t 60),(.t 64)]) none,
     .op (some 66) (.copyX 5 1 (.t 59) (.t 65)) none]
def B6 (k:Nat) (a:Nat) (b:aU):aU :=
 bw (some 64) (IC (a:Int)) (bw (some 63) .any (bw (some 62) .any (bw (some 61) .any (bw (some 60) (.own 1000 0) (bw (some 59) .any (bw (some 58) .any (bw (some 57) .any (bw (some 56) (.rw k) b))))))))
theorem Db {ρ:Env}{j:Nat}{v:SV}(h:ρ j=v):ρ=put (some j) v ρ:=by
 funext i
 simp only[put];cases e:Nat.beq i j with
 | true=>rw[v8 e,h]
 | false=>rfl
theorem Oa {PS:o7}{M:TL}{l:aU}{N:TK}(k i:Nat) (out a:List UInt8) (aE:PS.st=none) (hs:M.sub [1000]=some [RB a]) (hk:M.get k=some (.row 5 1 (af out))) (h8:l 8=.rw k) (h9:l 9=IC (i:Int)) (h0:l 0=.own 1000 0)
  (ar:rowsOf M [1000]=[]) (hh:kU M [1000] PS.hb=true) (ca:k≠1000) (hi:32*i<out.length) (cM:out.length<=1073741824)
  (hp:takeD (((cg out i).length:Nat):Int) a=none->PS.ps eV)
  (ap:∀r,(((M.Wu [1000]).kills []).puts [1000] [RB r]).get k=some (.row 5 1 (af out)))
  (hN:∀b r,takeD (((cg out i).length:Nat):Int) a=some (b,r) ->
   N ((((M.Wu [1000]).kills []).puts [1000] [RB r]).set k (.row 5 1 (af (qi out (32*i) b)))) (bw (some 66) .any (bw (some 65) .any (eK [] (B6 k (cg out i).length l))))) :
  M6 PZ PS Mt M l N:=by
 refine⟨aE,fun G PX aa F L ρ hr o=>?_⟩;obtain⟨ad,c,hL,ha,hm⟩:=row_of o hk;obtain⟨a1,c1,t1,cl,n1,cY,e8,e2⟩:=rC (x:=.t 8) o.env h8;rw[hL] at e2;injection e2 with e2
 injection e2 with e2 _ _ _ _
 injection e2 with e3 e4 e5
 subst e3 e4 e5;obtain⟨e9,w9⟩:=dY (x:=.t 9) o.env h9;obtain⟨e0,_⟩:=eB (x:=.t 0) o.env h0;have e8:ρ 8=.v (.slice ad out.length c):=e8;have e9:ρ 9=.v (.int .i64 i):=e9;have e0:ρ 0=.own 1000 0:=e0;have p:out.length<=c/\c<=9223372036854775807:=by
  obtain⟨w,hw⟩:=hr;obtain⟨c',hv⟩:=Ae hw hL;obtain⟨a',e,q1,j,_⟩:=hv.form;injection e with _ _ e
  subst e;exact⟨q1,by unfold maxLen at j;exact j⟩
 have az:(cg out i).length=min (32*i+32) out.length-min (32*i) out.length:=by
  unfold cg;rw[Xx,XV];omega
 rw[az] at hp hN;have f:ρ=put (some 8) (.v (.slice ad out.length c)) (put (some 9) (.v (.int .i64 i)) (put (some 0) (.own 1000 0) ρ)) :=
  (Db e8).trans (p7 (put (some 8) _) ((Db e9).trans (p7 (put (some 9) _) (Db e0))))
 generalize q:ρ=ρ1 at f;rw[q] at o
 clear e8 e9 e0
 subst q;rw[f] at o ⊢
 clear f
 refine⟨_,rfl,?_⟩;refine⟨_,rfl,?_⟩;refine⟨_,rfl,?_⟩;refine Fit.Ww (by omega) (by omega) ?_;refine⟨_,rfl,?_⟩;refine mO.mk (by omega) (by omega) (by omega) ?_;refine⟨_,rfl,?_⟩;refine⟨_,rfl,?_⟩;refine⟨_,rfl,?_⟩;refine⟨_,rfl,?_⟩;refine .frz _ (Sd F ad out.length c i p.1 p.2 (by omega)) fun v F1 Lo u hR=>?_;obtain⟨rfl,rfl⟩:=hR;refine⟨rfl,fun dg=>?_⟩;refine⟨_,rfl,?_⟩;have hI:∀{L:Loc}(m:Nat),m<=9223372036854775807->aN F1 L (IC (m:Int)) (.v (.int .i64 m)):=fun m hm=>⟨_,rfl,by
  rw[Rel];refine⟨rfl,?_⟩;rw[vW];simp only[IntKind.min,IntKind.max,IntKind.signed,IntKind.bits,XA];omega⟩
 have RY:=(o.mono u).put (o.mono u |>.env 8) (some 56);have any:∀sv,aN F1 L .any sv:=fun sv=>trivial;have R9:=(((RY.put (any (.v (.int .i64 i))) (some 57)).put (any (.v (.int .i64 (32*(i:Int))))) (some 58)).put (any (.v (fC ad c (32*(i:Int)).toNat (out.length:Int).toNat 1))) (some 59));have R8:=R9.put (o.mono u |>.env 0) (some 60);have av:=((R8.put (any (.v (.slice ad out.length c))) (some 61)).put (any (.v (.int .i64 i))) (some 62)).put (any (.v (fC ad c (min (32*i) out.length) (min (32*i+32) out.length) 1))) (some 63);have d:=av.put (hI (min (32*i+32) out.length-min (32*i) out.length) (by omega)) (some 64);rw[h8,h0] at d;have d:TS G F1 L _ M (B6 k (min (32*i+32) out.length-min (32*i) out.length) l):=d;have hx:mS PZ PS (zB Mt) 41 [.own 1000 0,IC (((min (32*i+32) out.length-min (32*i) out.length):Nat):Int)] M (B6 k (min (32*i+32) out.length-min (32*i) out.length) l) (fun M' ba v=>∃b r,takeD (((min (32*i+32) out.length-min (32*i) out.length):Nat):Int) a=some (b,r)/\M'=(((M.Wu [1000]).kills []).puts [1000] [RB r])/\ba=eK [] (B6 k (min (32*i+32) out.length-min (32*i) out.length) l)/\v=.sl (af b)):=by
  refine bZ [1000] (Sz (((min (32*i+32) out.length-min (32*i) out.length):Nat):Int) a) hs rfl rfl rfl (fun v h=>h.1▸hp h.2) ?_ hh;rintro v Mo ⟨b,r,h1,rfl,rfl⟩ _ _;rw[ar];exact⟨rfl,b,r,h1,rfl,rfl,rfl⟩
 have hc:=aa F1 L _ M (B6 k (min (32*i+32) out.length-min (32*i) out.length) l) 41 [.own 1000 0,IC (((min (32*i+32) out.length-min (32*i) out.length):Nat):Int)] _ _ d (cN d.env [.t 60,.t 64]) hx;refine CallXDPt.imp hc fun F2 L2 v cp bs bu _ cz hK=>?_;obtain⟨M2,da,c2,ab,s,b,r,hb,rfl,rfl,rfl⟩:=hK;obtain⟨v',y,s⟩:=s;injection y with y
 subst y;obtain⟨a2,c2,rfl,_,dd,hf⟩:=wU s;obtain⟨ax,cx,z,_,_⟩:=row_of ab (ap r);obtain⟨ay,cy,ty,ch,ny,xy,q1,j⟩:=rC (x:=.t 56) ab.env (k:=k) rfl;have q1:(SV.v (.slice ad out.length c))=.v (.slice ay ny cy):=q1;injection q1 with q1
 injection q1 with q3 q4 q5
 subst q3 q4 q5;rw[z] at j;injection j with j
 injection j with j _ _ _ _
 injection j with q3 _ q5
 subst q3 q5;obtain⟨n,rfl⟩:∃x,ax=some x:=by
  cases ax with
  | none=>have:=ha rfl;omega
  | some x=>exact⟨x,rfl⟩
 have db:b.length=min (32*i+32) out.length-min (32*i) out.length:=by
  unfold takeD at hb;split at hb
  case isFalse=>cases hb
  rename_i h;injection hb with hb
  injection hb with hb _
  rw[<-hb,Xx];omega
 have aw:fC (some n) cx (32*(i:Int)).toNat (out.length:Int).toNat 1=.slice (some (n.add (32*i*1))) (out.length-32*i) (cx-32*i):=by
  rw[show(32*(i:Int)).toNat=32*i by omega,show(out.length:Int).toNat=out.length by omega];unfold fC;rw[vv (by omega)];rfl
 refine⟨_,rfl,?_⟩;refine⟨.inl ⟨k,out.length-32*i,.slice (some n) out.length cx,out.length,dF out,n,cx,cx-32*i,32*i,b.length,a2,c2,dF b,z,rfl,aw,by omega,rfl,by rw[nO];omega,?_,mG _,fun _=>?_⟩⟩
 ·rcases hf with h | ⟨h1,h2⟩
  ·exact .inl h
  ·exact .inr ⟨by omega,h2⟩
 ·rw[Nat.mul_one,za];refine⟨_,_,?_,hN b r hb⟩;have h3:=B0 ab z (out':=qi out (32*i) b) (nR (by omega)) hm ha;exact(h3.put (c:=.any) trivial (some 65)).put (c:=.any) trivial (some 66)
theorem Ca:∀(f k z:Nat) (l:List UInt8) (n:Int) (r:List UInt8),mF f k z l=some (n,r)->z<128 ^ k->f+k=6->(-4398046511104<=n/\n<=4398046511104)/\r.length<l.length
 | 0,_,_,_,_,_,h,_,_=>by simp[mF] at h
 | _+1,_,_,[],_,_,h,_,_=>by simp[mF] at h
 | f+1,k,z,c::d,n,r,h,p,m=>by
  have o:=c.toNat_lt;rw[mF] at h;split at h
  ·rename_i a;split at h
   ·injection h with h
    injection h with h1 h2
    subst h2;have s:z+c.toNat*128 ^ k<128 ^ (k+1):=by
     have:c.toNat*128 ^ k<=127*128 ^ k:=Nat.mul_le_mul_right _ (by omega);rw[Nat.pow_succ];omega
    have q:128 ^ (k+1)<=128 ^ 6:=Nat.pow_le_pow_right (by omega) (by omega);have e:(128:Nat) ^ 6=4398046511104:=by decide
    refine⟨?_,by simp⟩;rw[<-h1];unfold Mg;split<;>omega
   ·cases h
  ·obtain⟨b,j⟩:=Ca f (k+1) _ d n r h (by
    have:(c.toNat-128)*128 ^ k<=127*128 ^ k:=Nat.mul_le_mul_right _ (by omega);rw[Nat.pow_succ];omega) (by omega)
   exact⟨b,by simp;omega⟩
theorem lI {l r:List UInt8}{n:Int}(h:getD l=some (n,r)):(-4398046511104<=n/\n<=4398046511104)/\r.length<l.length:=Ca 6 0 0 l n r h (by decide) rfl
def sO (size:Nat):Nat->Int->List UInt8->Dec (List UInt8)
 | 0,_,out=>wS out
 | n+1,p,out=>fP getD fun d=>if 0<=p+d/\p+d<bN size then fP (takeD (((cg out (p+d).toNat).length:Nat):Int)) fun b=>sO size n (p+d) (qi out (32*(p+d).toNat) b) else fun _=>none
def Av (a:List UInt8) (size:Nat):List UInt8:=qi (List.replicate size 0) 0 (a.take size)
def Cb (a:List UInt8) (s c:Int):Dec (List UInt8):=fun r=>if(0<=s/\s<=(a.length:Int)+r.length)/\0<=c then sO s.toNat c.toNat (-1) (Av a s.toNat) r else none
def nj (a:List UInt8):Dec (List UInt8):=fP getD fun s=>fP getD fun _=>fP getD fun c=>Cb a s c
theorem sP (a:List UInt8) (n:Nat):(Av a n).length=n:=by
 unfold Av;rw[nR (by simp;omega)];simp
theorem Dc (n:Nat):List.replicate n [C.int .u8 0]=af (List.replicate n 0):=by simp[af,iG]
theorem vk {i n:Nat}(h:i<bN n):32*i<n:=by unfold bN at h;omega
theorem Se (s:Int) (a:0<=s) (b:s<=4611686018427387904):CallsT PZ 23 [IC s] [] (iZ [] (IC ((bN s.toNat:Nat):Int))):=by
 obtain⟨n,rfl⟩:=Int.eq_ofNat_of_zero_le a;exact SD n (by omega)
set_option maxRecDepth 20000 in
theorem t21 (a bs:List UInt8) (ha:a.length<=268435456) (hb:bs.length<=268435456):CallsTX PZ 21 [.own 1000 0,.sl (af a)] [RB bs]
  (fun Mo c=>∃out r,nj a bs=some (out,r)/\Mo=[RB r]/\c=.sl (af out)) (fun v=>v=eV/\nj a bs=none):=by
 have be:(af a).length=a.length:=aK;refine ai Tryd.func21 Kg rfl fun hw bi=>?_;refine rn 1000 (Mn bs) rfl rfl rfl (fun h=>⟨rfl,aS h⟩) fun s r1 e1 _=>?_;refine rn 1000 (Mn r1) rfl rfl rfl (fun h=>⟨rfl,(aj e1).trans (aS h)⟩) fun s2 r2 e2 _=>?_;refine rn 1000 (Mn r2) rfl rfl rfl (fun h=>⟨rfl,(aj e1).trans ((aj e2).trans (aS h))⟩) fun n y e3 _=>?_;have l:nj a bs=Cb a s n y:=(aj e1).trans ((aj e2).trans (aj e3));obtain⟨⟨b1,b2⟩,b3⟩:=lI e1;obtain⟨_,b4⟩:=lI e2;obtain⟨⟨b5,b6⟩,b7⟩:=lI e3;have bb:(af y).length=y.length:=aK;refine aR (fun w=>?_) (fun w=>?_)
 ·refine Fit.Ww (by omega) (by omega) ?_;refine aR (fun h1=>?_) (fun h1=>?_)
  ·refine tU (sQ (decide (0<=n))) rfl (fun h=>⟨rfl,?_⟩) fun h2=>?_
   ·rw[l,Cb,vv (fun h3=>by have:=XT h;omega)]
   have h2:=Xw h2;have w:0<=s:=w;have h1:s<=(a.length:Int)+y.length:=by omega
   have ag:nj a bs=sO s.toNat n.toNat (-1) (Av a s.toNat) y:=by rw[l,Cb,j3 ⟨⟨w,h1⟩,h2⟩]
   have bd:s.toNat<=536870912:=by omega
   have ap:(List.replicate s.toNat (0:UInt8)).length=s.toNat:=XW;have ab:=Se s w (by omega);refine sU.mk w (XF _) (by omega) (by unfold maxLen;omega) ?_;refine LL (k:=36) (out:=List.replicate s.toNat 0) (a:=a) (p7 (fun q=>some (TO.row 5 1 q)) (Dc s.toNat)) rfl rfl ?_;refine bX n.toNat 41 [9,8] ((y,(-1:Int),Av a s.toNat):List UInt8×Int×List UInt8) (fun x=>[IC x.2.1,.rw 36]) (fun x=>[(1000,RB x.1),(36,.row 5 1 (af x.2.2))])
    (fun k x=>sO s.toNat (n.toNat-k) x.2.1 x.2.2 x.1=nj a bs/\(-1<=x.2.1/\x.2.1<=4294967296)/\x.2.2.length=s.toNat) ⟨ag.symm,⟨(by decide:(-1:Int)<=-1),(by decide:(-1:Int)<=4294967296)⟩,sP a s.toNat⟩ (aq rfl) ⟨aq rfl,aq rfl,trivial⟩
    ⟨.inl ⟨_,rfl,.inl ⟨rfl,rfl⟩⟩,.inl ⟨_,rfl,.inl ⟨p7 (fun q=>TO.row 5 1 (af q)) (by rw[Av,ap]),rfl⟩⟩,trivial⟩ (fun _=>rfl) (fun _=>rfl) ?_
   rintro k ⟨j,p,out⟩ hk ⟨e,⟨p1,p2⟩,o⟩ _ _ aE;have e:sO s.toNat (n.toNat-k) p out j=nj a bs:=e;have p1:-1<=p:=p1;have p2:p<=4294967296:=p2;have o:out.length=s.toNat:=o;refine aR (fun t=>?_) (fun ar=>?_)
   ·have t:k<n.toNat:=by omega
    have aa:nj a bs=fP getD (fun d=>if 0<=p+d/\p+d<bN s.toNat then fP (takeD (((cg out (p+d).toNat).length:Nat):Int)) fun b=>sO s.toNat (n.toNat-(k+1)) (p+d) (qi out (32*(p+d).toNat) b) else fun _=>none) j:=by
     rw[<-e,show n.toNat-k=(n.toNat-(k+1))+1 by omega];rfl
    refine rn 1000 (Mn j) rfl rfl rfl (fun h=>⟨rfl,aa.trans (aS h)⟩) fun d r4 e4 _=>?_;have f:=aa.trans (aj e4);obtain⟨⟨d1,d2⟩,_⟩:=lI e4;refine Fit.Ww (by omega) (by omega) ?_;refine aR (fun u=>?_) (fun u=>?_)
    ·have u:0<=p+d:=u;refine bO ab rfl fun _=>?_;refine tU (sQ (decide (p+d<((bN s.toNat:Nat):Int)))) rfl (fun h=>⟨rfl,?_⟩) fun g1=>?_
     ·rw[f,vv (fun h3=>by have:=XT h;omega)]
     have g1:=Xw g1;rw[j3 ⟨u,g1⟩] at f;have hi:32*(p+d).toNat<out.length:=by rw[o];exact vk (by omega)
     refine Oa 36 (p+d).toNat out r4 rfl rfl rfl rfl (p7 IC (show p+d=(((p+d).toNat:Nat):Int) by omega)) rfl rfl rfl (by decide) hi (by omega) (fun h=>⟨rfl,f.trans (aS h)⟩) (fun _=>rfl) fun b r5 m=>?_;have z:=f.trans (aj m);have bc:bN s.toNat<=4294967296:=by unfold bN;omega
     have ao:b.length=(cg out (p+d).toNat).length:=by
      unfold takeD at m;split at m
      case isFalse=>cases m
      rename_i h;injection m with m
      injection m with m _
      rw[<-m,Xx];omega
     have an:32*(p+d).toNat+b.length<=out.length:=by
      rw[ao];unfold cg;rw[Xx,XV];omega
     refine Fit.Ww (by omega) (by omega) ?_;exact⟨(k+1,(r5,p+d,qi out (32*(p+d).toNat) b)),⟨t,z.symm,⟨by show -1<=p+d;omega,by show p+d<=4294967296;omega⟩,(nR an).trans o⟩,⟨cG,aq rfl,aq rfl,trivial⟩,
      ⟨.inl ⟨_,rfl,.inl ⟨rfl,rfl⟩⟩,.inl ⟨_,rfl,.inl ⟨rfl,rfl⟩⟩,trivial⟩,cH t⟩
    ·have u:¬0<=p+d:=u;refine tU (sQ false) rfl (fun _=>⟨rfl,?_⟩) fun h=>by cases h
     rw[f,vv (fun h3=>u h3.1)]
   ·have ar:¬k<n.toNat:=by omega
    have e:wS out j=nj a bs:=by rw[<-e,show n.toNat-k=0 by omega];rfl
    exact qh [36] [1000] ⟨_,_,rfl,rfl,rfl,out,j,e.symm,rfl,rfl⟩
  ·refine tU (sQ false) rfl (fun _=>⟨rfl,?_⟩) fun h=>by cases h
   rw[l,Cb,vv (fun h3=>by omega)]
 ·refine tU (sQ false) rfl (fun _=>⟨rfl,?_⟩) fun h=>by cases h
  rw[l,Cb,vv (fun h3=>by omega)]
theorem FG {n:Int}{l b r:List UInt8}(h:takeD n l=some (b,r)):(b.length:Int)=n/\l=b++r:=by
 unfold takeD at h;split at h
 case isFalse=>cases h
 rename_i k;injection h with h
 injection h with h1 h2
 subst h1 h2;refine⟨?_,(List.take_append_drop _ _).symm⟩;rw[Xx];omega
theorem mJ {c b:Type}{f:Dec c}{k:c->Dec b}{l r:List UInt8}{y:b}(h:fP f k l=some (y,r)):∃x a,f l=some (x,a)/\k x a=some (y,r):=by
 unfold fP at h;split at h
 ·cases h
 ·rename_i x a e;exact⟨x,a,e,h⟩
theorem zb (size:Nat):∀(n:Nat) (p:Int) (out:List UInt8) (bs:List UInt8) (o r:List UInt8),out.length=size->sO size n p out bs=some (o,r)->o.length=size
 | 0,p,out,bs,o,r,a,h=>by
  have h:some (out,bs)=some (o,r):=h;injection h with h;injection h with h _;rw[<-h,a]
 | n+1,p,out,bs,o,r,a,h=>by
  rw[sO] at h;obtain⟨d,e,_,h⟩:=mJ h;split at h
  case isFalse=>cases h
  rename_i f;obtain⟨b,j,hb,h⟩:=mJ h;have c:=(FG hb).1;have hi:32*(p+d).toNat<out.length:=by rw[a];exact vk (by omega)
  refine zb size n _ _ _ o r ?_ h;rw[nR,a];have:(cg out (p+d).toNat).length<=out.length-32*(p+d).toNat:=by
   unfold cg;rw[Xx,XV];omega
  omega
theorem Ir {a bs o r:List UInt8}(h:nj a bs=some (o,r)):o.length<=a.length+bs.length:=by
 obtain⟨s,m,e,h⟩:=mJ h;obtain⟨n,q,d,h⟩:=mJ h;obtain⟨c,l,b,h⟩:=mJ h;have p:=(lI e).2;have f:=(lI d).2;have j:=(lI b).2;unfold Cb at h;split at h
 case isFalse=>cases h
 rename_i k;have:=zb _ _ _ _ _ o r (sP a s.toNat) h;omega
def QB (bs:List UInt8) (o:C):List TO:=[.box 52 [.own 1001 0],RB bs,.box 22 [o]]
theorem Ws (a bs:List UInt8) (d:a.length<=268435456) (hb:bs.length<=268435456):CallsTX PZ 20 [.own 1000 0,.pt [.sl (af a)] 0,.own 1002 0] (QB bs .nils)
  (fun Mo c=>∃out r,nj a bs=some (out,r)/\Mo=QB r (.sl (af out))/\c=.tup []) (fun v=>v=eV/\nj a bs=none):=by
 refine ai Tryd.func20 Kf rfl fun f e=>?_;refine bP [1001] (t21 a bs d hb) rfl rfl rfl rfl (fun v h=>h) ?_;rintro v Mo ⟨out,r,b,rfl,rfl⟩ _ _;refine⟨rfl,?_⟩;exact cS [1000,1001,1002] rfl rfl rfl rfl ⟨out,r,b,rfl,rfl⟩
def PW (Mo:List TO):Prop:=∃b a c,Mo=[.win 52 b [] [],.win 54 a [] [],.win 22 c [] []]
def PY (Mo:List TO):Prop:=∃a b d c,Mo=[.win 52 a [] [],.win 54 b [] [],.win 3 d [] [],.win 3 c [] []]
theorem Sf (a bs:List UInt8) (m:a.length<=268435456) (hb:bs.length<=268435456) :
  CallsT PZ 17 [.fn 20 [] [.own 1000 0,.pt [.sl (af a)] 0,.own 1002 0]] (QB bs .nils) (fun Mo c=>(∃out r,nj a bs=some (out,r)/\Mo=QB r (.sl (af out))/\c=.bool true)\/(nj a bs=none/\PW Mo/\c=.bool false)):=by
 have h:CallsT PZ 17 [.fn 20 [] [.own 1000 0,.pt [.sl (af a)] 0,.own 1002 0]] (QB bs .nils) (fun Mo c=>(∃out r,nj a bs=some (out,r)/\Mo=QB r (.sl (af out))/\c=.bool true)\/(nj a bs=none/\qP (QB bs .nils) Mo/\c=.bool false)):=by
  refine gA (PS:=fun v=>v=eV/\nj a bs=none) (ns:=[1]) (out:=Il) Tryd.func17 uY (oO.mono vg fun v h=>h.1) (fun v h=>rfl) rfl rfl ?_ fun q n=>?_
  ·rintro v ⟨rfl,h⟩;refine⟨.bool false,.bool false,?_,?_,fun Mo e=>.inr ⟨h,e,rfl⟩⟩
   ·intro L ρ k;obtain⟨d,g,t,l⟩:=k 0 2 _ rfl rfl;simp only[kS,d,l];rfl
   ·intro F L;rw[Rel]
  refine⟨rfl,?_⟩;refine bP [1000,1001,1002] (Ws a bs m hb) rfl rfl rfl rfl (fun v h=>h) ?_;rintro v Mo ⟨out,r,b,rfl,rfl⟩ _ _;refine⟨rfl,?_⟩;exact cS [1000,1001,1002] rfl rfl rfl rfl (.inl ⟨out,r,b,rfl,rfl⟩)
 refine((h.toX (Pp:=fun _=>False)).view (vw.refl _) (fun Mo c j=>?_) fun _ h=>h).noPan;rcases j with h | ⟨b,⟨o,M1,rfl,p,M2,rfl,f,M3,rfl,rfl⟩,rfl⟩
 ·exact⟨Mo,vw.refl _,.inl h⟩
 ·exact⟨_,vw.cons (iI o) (vw.cons (iI p) (vw.cons (iI f) (vw.refl []))),.inr ⟨b,⟨_,_,_,rfl⟩,rfl⟩⟩
theorem Sg (bs:List UInt8) :
  CallsT PZ 17 [.fn 18 [] [.own 1000 0,.own 1002 0,.own 1003 0]] (PB bs 0 0) (fun Mo c=>(∃x y r,qH bs=some ((x,y),r)/\Mo=PB r x y/\c=.bool true)\/(qH bs=none/\PY Mo/\c=.bool false)):=by
 have h:CallsT PZ 17 [.fn 18 [] [.own 1000 0,.own 1002 0,.own 1003 0]] (PB bs 0 0) (fun Mo c=>(∃x y r,qH bs=some ((x,y),r)/\Mo=PB r x y/\c=.bool true)\/(qH bs=none/\qP (PB bs 0 0) Mo/\c=.bool false)):=by
  refine gA (PS:=fun v=>v=eV/\qH bs=none) (ns:=[1]) (out:=Il) Tryd.func17 uY (oO.mono vg fun v h=>h.1) (fun v h=>rfl) rfl rfl ?_ fun p l=>?_
  ·rintro v ⟨rfl,h⟩;refine⟨.bool false,.bool false,?_,?_,fun Mo d=>.inr ⟨h,d,rfl⟩⟩
   ·intro L ρ j;obtain⟨b,g,t,k⟩:=j 0 2 _ rfl rfl;simp only[kS,b,k];rfl
   ·intro F L;rw[Rel]
  refine⟨rfl,?_⟩;refine bP [1000,1001,1002,1003] (Wr bs) rfl rfl rfl rfl (fun v h=>h) ?_;rintro v Mo ⟨x,y,r,a,rfl,rfl⟩ _ _;refine⟨rfl,?_⟩;exact cS [1000,1001,1002,1003] rfl rfl rfl rfl (.inl ⟨x,y,r,a,rfl,rfl⟩)
 refine((h.toX (Pp:=fun _=>False)).view (vw.refl _) (fun Mo c f=>?_) fun _ h=>h).noPan;rcases f with h | ⟨a,⟨m,M1,rfl,o,M2,rfl,e,M3,rfl,n,M4,rfl,rfl⟩,rfl⟩
 ·exact⟨Mo,vw.refl _,.inl h⟩
 ·exact⟨_,vw.cons (iI m) (vw.cons (iI o) (vw.cons (iI e) (vw.cons (iI n) (vw.refl [])))),.inr ⟨a,⟨_,_,_,_,rfl⟩,rfl⟩⟩
def qj (a d:List UInt8):List UInt8×Int :=
 match qH d with
 | none=>([],16)
 | some ((n,s),r)=>if n≠a.length\/s≠jd a then([],17)
  else match nj a r with
   | some (out,_)=>if cj a out=d then(out,0) else([],16)
   | none=>([],16)
end Go.Fr.Tryd
namespace Go.Fr.Tryd
open Go Go.Fr.T
theorem ofNat_toNat {n:Nat}(h:n<256):(UInt8.ofNat n).toNat=n:=by
 rw[UInt8.toNat_ofNat'];omega
theorem xq {f k z m:Nat}{r:List UInt8}(a:m<128) (b:0<m\/k=0):mF (f+1) k z (bQ m++r)=some (Mg (z+m*128 ^ k),r):=by
 rw[bQ,dif_pos a];simp only[Xu,XO,mF];rw[ofNat_toNat (by omega),j3 a,j3 b]
theorem Df {f k z m:Nat}{r:List UInt8}(a:¬m<128):mF (f+1) k z (bQ m++r)=mF f (k+1) (z+m % 128*128 ^ k) (bQ (m / 128)++r):=by
 rw[bQ,dif_neg a];simp only[Xu,mF];rw[ofNat_toNat (by omega),vv (by omega),Nat.add_sub_cancel_left]
theorem FH (m k:Nat):m % 128*128 ^ k+m / 128*128 ^ (k+1)=m*128 ^ k:=by
 have h:m % 128+128*(m / 128)=m:=Nat.mod_add_div m 128;have e:128 ^ (k+1)=128*128 ^ k:=by rw[Nat.pow_succ,Nat.mul_comm]
 rw[e,<-Nat.mul_assoc,Nat.mul_comm (m / 128) 128,<-Nat.add_mul,h]
theorem xu:∀(f k z m:Nat) (r:List UInt8),(0<m\/k=0)->m<128 ^ (f+1)->mF (f+1) k z (bQ m++r)=some (Mg (z+m*128 ^ k),r)
 | 0,k,z,m,r,a,h=>xq (by simpa using h) a
 | f+1,k,z,m,r,a,h=>by
  by_cases b:m<128
  ·exact xq b a
  ·rw[Df b,xu f (k+1) _ (m / 128) r (.inl (by omega)) (by rw[Nat.pow_succ] at h;omega),Nat.add_assoc,FH]
theorem Ob (n:Int):Mg (zz n)=n:=by
 unfold Mg zz;split<;>split<;>omega
theorem nS (n:Int) (r:List UInt8) (a:-1099511627776<=n) (b:n<=1099511627776):getD (bQ (zz n)++r)=some (n,r):=by
 have h:=xu 5 0 0 (zz n) r (.inr rfl) (Nat.lt_of_le_of_lt (Im n 1099511627776 (by omega) (by omega)) (by decide));unfold getD;rw[h];simp only[Nat.pow_zero,Nat.mul_one,Nat.zero_add,Ob]
theorem FI (b r:List UInt8):takeD ((b.length:Nat):Int) (b++r)=some (b,r):=by
 unfold takeD;rw[j3 ⟨by omega,by rw[Xg];omega⟩];simp
theorem qk (x:List UInt8) (i t:Nat):(cg x i)[t]?=if t<32 then x[32*i+t]? else none:=by
 unfold cg;rw[XL];split
 ·rw[XH]
 ·rfl
theorem fE (x:List UInt8) (i:Nat):(cg x i).length=min 32 (x.length-32*i):=by
 unfold cg;rw[Xx,XV]
theorem FJ {x y:List UInt8}(a:x.length=y.length) (h:∀i<bN y.length,cg x i=cg y i):x=y:=by
 apply XP;intro j
 by_cases b:j<y.length
 ·have:=p7 (fun l:List UInt8=>l[j % 32]?) (h (j / 32) (by unfold bN;omega));simp only[qk] at this;rw[j3 (by omega),j3 (by omega),show 32*(j / 32)+j % 32=j by omega] at this;exact this
 ·rw[Xn (by omega),Xn (by omega)]
theorem Et {out b:List UInt8}{o:Nat}(h:o+b.length<=out.length) (j:Nat):(qi out o b)[j]?=if o<=j/\j<o+b.length then b[j-o]? else out[j]?:=by
 unfold qi;rw[Xk,List.getElem?_append];have d:(out.take o).length=o:=by rw[Xx];omega
 rw[d];split
 ·rename_i a;rw[vv (by omega),XL,j3 a]
 ·rename_i a;rw[List.getElem?_append];split
  ·rename_i c;rw[j3 (by omega)]
  ·rename_i c;rw[vv (by omega),XH];congr 1;omega
theorem Iu {out b:List UInt8}{i:Nat}(h:out.length=b.length) (hi:32*i<b.length) (j:Nat):cg (qi out (32*i) (cg b i)) j=if j=i then cg b i else cg out j:=by
 have e:=fE b i;have c:32*i+(cg b i).length<=out.length:=by omega
 apply XP;intro t;rw[qk,Et c]
 by_cases d:j=i
 ·subst d;rw[j3 rfl]
  by_cases a:t<32
  ·rw[j3 a]
   by_cases f:32*j+t<b.length
   ·rw[j3 (by omega),show 32*j+t-32*j=t by omega]
   ·rw[vv (by omega),Xn (by omega),Xn (by omega)]
  ·rw[vv a,Xn (by omega)]
 ·rw[vv d,qk out]
  by_cases a:t<32
  ·rw[j3 a,j3 a,vv (by omega)]
  ·rw[vv a,vv a]
def Up:Int->List Nat->Prop
 | _,[]=>True
 | p,i::l=>p<i/\Up i l
theorem Eu (b:List UInt8) (hb:b.length<=268435456):∀(l:List Nat) (p:Int) (out:List UInt8),-1<=p->Up p l->(∀i∈l,i<bN b.length)->p<=1073741824->out.length=b.length ->
  (∀i<bN b.length,i∉l->cg out i=cg b i)->sO b.length l.length p out (xg b p l)=some (b,[])
 | [],p,out,_,_,_,_,a,h=>by
  have:out=b:=FJ a fun i hi=>h i hi (by simp);rw[this];rfl
 | i::l,p,out,s,m,n,o,a,h=>by
  have d:=n i (by simp);have hi:=vk d;have q:bN b.length<=1073741824:=by unfold bN;omega
  have c:(cg out i).length=(cg b i).length:=by rw[fE,fE,a]
  show fP getD _ (bQ (zz (i-p))++(cg b i++xg b i l))=_;rw[aj (nS (i-p) _ (by have:=m.1;omega) (by omega))];have e:p+((i:Int)-p)=i:=by omega
  rw[e];rw[j3 ⟨by omega,by omega⟩];rw[show((i:Int)).toNat=i from rfl,c,aj (FI _ _)];refine Eu b hb l i _ (by omega) m.2 (fun j k=>n j (by simp[k])) (by omega) ?_ fun j k r=>?_
  ·rw[nR (by have:=fE b i;omega),a]
  ·rw[Iu a hi];split
   ·rename_i e;rw[e]
   ·rename_i f;exact h j k (by simp[f,r])
theorem xw (f:Nat->Bool):∀(n m:Nat) (p:Int),p<m->Up p ((List.range' m n).filter f)
 | 0,m,p,h=>by simp[Up]
 | n+1,m,p,h=>by
  rw[List.range'_succ,List.filter_cons];split
  ·exact⟨h,xw f n (m+1) m (by omega)⟩
  ·exact xw f n (m+1) p (by omega)
theorem Iv (a b:List UInt8):Up (-1) (gO a b):=by
 unfold gO;rw[List.range_eq_range'];exact xw _ _ 0 (-1) (by omega)
theorem LM {x y:List UInt8}(h:x <+: y) {t:Nat}(a:t<x.length):y[t]?=x[t]?:=by
 obtain⟨s,rfl⟩:=h;rw[Xl a]
theorem FK (a b:List UInt8) (i:Nat) (h:cg b i <+: cg a i):cg (Av a b.length) i=cg b i:=by
 apply XP;intro t;have j:(a.take b.length).length<=b.length:=by rw[Xx];omega
 rw[qk]
 by_cases e:t<(cg b i).length
 ·have d:=LM h e;have c:=fE b i;rw[<-d,qk,j3 (by omega),j3 (by omega)];unfold Av;have f:32*i+t<a.length:=by
   have:=h.length_le;have:=fE a i;omega
  rw[Et (by simp;omega),j3 (by rw[Xx];omega),Nat.sub_zero,XL,j3 (by omega)]
 ·have c:=fE b i;rw[Xn (by omega:(cg b i).length<=t)];split
  ·rw[Xn (by rw[sP];omega)]
  ·rfl
def ql (b:List UInt8):List Nat->Nat
 | []=>0
 | i::l=>(cg b i).length+ql b l
theorem Aw (b:List UInt8):∀(p:Int) (l:List Nat),ql b l+l.length<=(xg b p l).length
 | p,[]=>by simp[ql,xg]
 | p,i::l=>by
  have a:=Aw b i l;have c:=hO (zz (i-p));simp only[ql,xg,Xg,Xv];omega
theorem Cc (b:List UInt8):∀(l m:List Nat),ql b (l++m)=ql b l+ql b m
 | [],m=>by simp[ql]
 | i::l,m=>by simp only[Xu,ql,Cc b l m];omega
theorem ze (a b:List UInt8):∀k:Nat,min (32*k) b.length<=min (32*k) a.length+ql b ((List.range k).filter (kX a b))
 | 0=>by simp
 | k+1=>by
  have f:=ze a b k;have hb:=fE b k;rw[List.range_succ,List.filter_append,Cc];cases e:kX a b k with
  | true =>
   simp only[List.filter_cons,e,XA,List.filter_nil,ql];omega
  | false =>
   have h:cg b k <+: cg a k:=by simpa[kX] using e
   have d:=h.length_le;have c:=fE a k;simp only[List.filter_cons,e,List.filter_nil];simp only[Xm,XM,ql];omega
theorem LN (a b:List UInt8):b.length<=a.length+(xg b (-1) (gO a b)).length:=by
 have c:=ze a b (bN b.length);have e:=Aw b (-1) (gO a b);have d:b.length<=32*bN b.length:=by unfold bN;omega
 have f:ql b ((List.range (bN b.length)).filter (kX a b))=ql b (gO a b):=rfl;omega
theorem zf (a b:List UInt8) (d:a.length<=268435456):qH (cj a b)=some (((a.length:Int),jd a),iW [(b.length:Int),jd b,((gO a b).length:Int)]++xg b (-1) (gO a b)):=by
 have c:=jE a;have e:cj a b=bQ (zz (a.length:Int))++(bQ (zz (jd a))++(iW [(b.length:Int),jd b,((gO a b).length:Int)]++xg b (-1) (gO a b))):=by
  simp only[cj,mH,iW,Xk]
 unfold qH;rw[e,aj (nS _ _ (by omega) (by omega)),aj (nS _ _ (by omega) (by omega))];rfl
theorem Cd (a b:List UInt8) (c:a.length<=268435456) (hb:b.length<=268435456):qj a (cj a b)=(b,0):=by
 have k:=jE b;have j:(gO a b).length<=268435456:=by have:=Ao a b;unfold bN at this;omega
 have d:nj a (iW [(b.length:Int),jd b,((gO a b).length:Int)]++xg b (-1) (gO a b))=some (b,[]):=by
  have e:iW [(b.length:Int),jd b,((gO a b).length:Int)]++xg b (-1) (gO a b)=bQ (zz (b.length:Int))++(bQ (zz (jd b))++(bQ (zz ((gO a b).length:Int))++xg b (-1) (gO a b))):=by
   simp only[iW,Xk,XO]
  unfold nj;rw[e,aj (nS _ _ (by omega) (by omega)),aj (nS _ _ (by omega) (by omega)),aj (nS _ _ (by omega) (by omega))];unfold Cb;have l:=LN a b;rw[j3 ⟨⟨by omega,by omega⟩,by omega⟩];refine Eu b hb (gO a b) (-1) (Av a b.length) (by omega) (Iv a b) (fun i hi=>xj hi) (by omega) (sP a b.length) fun i hi f=>?_;refine FK a b i ?_;have:¬(kX a b i=true):=fun h=>f (by simp only[gO,List.mem_filter,List.mem_range];exact⟨hi,h⟩);simpa[kX] using this
 unfold qj;rw[zf a b c];simp only[];rw[vv (by simp),d];simp
theorem Cf (c a b:List UInt8) (d:a.length<=268435456) (h:a.length≠c.length\/jd a≠jd c):qj c (cj a b)=([],17):=by
 unfold qj;rw[zf a b d];simp only[];rw[j3 (by rcases h with h | h;exact .inl (by omega);exact .inr h)]
end Go.Fr.Tryd
namespace Go.Fr.Tryd
open Go Go.RowKit Go.Proofs Go.Fr Go.Fr.T Go.Fr.Api Go.Fr.Dm
def rO:Wd:=⟨[⟨true,-1,.mk 2 2 0 0 [] false [] []⟩],[],[⟨0,[⟨1,0,0,0,0,[.mk 1 0 0 (-3) [] false [] [],.mk 6 0 0 0 [] true [0,-1] [0]],[4,5]⟩],[⟨0,1,false,true,false⟩],0,6,2,[]⟩],[[]],[⟨0,7⟩],1,0,0⟩
theorem Sh:CallsT PZ 12 [] [] (iZ [] (.agg (uI [] [] 0 rO))):=by
 refine au Tryd.func12 J7 rfl fun a _=>?_;exact bD rfl rfl
theorem xA {z:Nat}(h:z<128):bQ z=[UInt8.ofNat z]:=by rw[bQ,dif_pos h]
def jH:List UInt8:=[76,83,1,0,0,0,0,0,0,0,0]
theorem Si:rM w0=jH++rL jH:=by
 have h:uy kW w0=([0,0,0,0,0,0,0,0],true):=by
  simp[w0,uy,bS,aX,bn,Ot,kW,zz,xA]
 simp[rM,h,gG,dL,jH]
def qf:List UInt8:=[2,2,1,4,4,0,0,0,0,0,0,0,2,0,2,2,0,0,0,0,4,2,0,0,5,0,0,0,0,12,0,0,0,0,2,4,0,1,2,0,4,8,10,2,0,2,0,2,0,0,12,4,0,2,0,2,0,14,2,0,0]
theorem Iw:uy kW rO=(qf,true):=by
 simp[rO,qf,uy,bS,aX,bn,Ot,kW,zz,xA,QE,QJ,qg,QH,QF,QG,P9,QI,yY,Az,CZ,Ad]
theorem P0:rM rO=gG (dL++qf):=by
 unfold rM;rw[Iw,j3 rfl]
theorem Sj:oK qf=some rO:=by rfl
theorem FL (b:List UInt8):(gG b).take ((gG b).length-4)=b:=by
 have h:(gG b).length-4=b.length:=by simp[gG,rL]
 rw[h];simp[gG]
theorem Iy (x:List UInt8):xk (gG (dL++x))=match oK x with | some y=>(some y,0) | none=>(none,16):=by
 have b:¬(gG (dL++x)).length<7:=by simp[gG,rL,dL]
 have c:dL <+: gG (dL++x):=⟨x++rL (dL++x),by simp[gG]⟩;have a:(dL++x).drop 3=x:=by simp[dL]
 unfold xk;rw[vv (fun h=>h.elim b (fun h=>h c)),FL,vv (fun h=>h rfl),a];cases oK x<;>rfl
theorem Sk:xk (rM rO)=(some rO,0):=by rw[P0,Iy,Sj]
def w7:List UInt8:=jH++[0,0,0,0]
theorem Sn:xk w7=(none,17):=by
 have a:w7.take (w7.length-4)=jH:=rfl;have b:¬gG jH=w7:=by
  intro h;have c:rL jH=[0,0,0,0]:=by
   have:=List.append_cancel_left (h:jH++rL jH=jH++[0,0,0,0]);exact this
  exact v7 c (by decide)
 unfold xk;rw[vv (fun h=>h.elim (by decide) (fun h=>h ⟨[0,0,0,0,0,0,0,0,0,0,0,0],rfl⟩)),a,j3 b]
def dN:List UInt8:=List.replicate 40 1
def qm:List UInt8:=dN.set 39 2
theorem Sq:gO dN qm=[1]:=by decide
theorem Oc:jd dN≠jd qm:=by decide
theorem Iz:cj dN qm=bQ (zz 40)++bQ (zz (jd dN))++bQ (zz 40)++bQ (zz (jd qm))++[2,4]++[1,1,1,1,1,1,1,2]:=by
 have a:bQ (zz 1)=[2]:=xA (by decide);have d:bQ (zz (((1:Nat):Int) - -1))=[4]:=xA (by decide);have c:cg qm 1=[1,1,1,1,1,1,1,2]:=by decide
 have e:(dN.length:Int)=40:=by decide
 have b:(qm.length:Int)=40:=by decide
 have f:(([1]:List Nat).length:Int)=1:=rfl;simp only[cj,mH,Sq,iW,xg,e,b,f,a,d,c,Xk,Xz,XO,Xu]
theorem pat1:qj dN (cj dN qm)=(qm,0):=Cd _ _ (by decide) (by decide)
theorem pat2:qj qm (cj dN qm)=([],17):=Cf qm dN qm (by decide) (.inr Oc)
def SI:Ms:=⟨[],[],0⟩
def Ow:Ms:=⟨[],[],5⟩
theorem P1:Da Ow Ow rO rO=true:=by unfold Da;rw[<-jG rfl];simp
theorem P2:Da Ow SI rO rO=false:=by
 unfold Da;rw[<-bJ (by intro h;injection h with _ _ h;cases h)];rfl
theorem Sr:FO w0:=by simp[FO,w0]
theorem IA:FO rO:=by simp[FO,rO,RM,RO,RN,vsB,Fu,HX]
theorem Od {a d:List UInt8}(h:qH d=none):qj a d=([],16):=by unfold qj;rw[h]
theorem Oe {a d r:List UInt8}{n s:Int}(h:qH d=some ((n,s),r)) (k:n≠a.length\/s≠jd a):qj a d=([],17):=by
 unfold qj;rw[h];simp only[];rw[j3 k]
theorem Og {a d r:List UInt8}{n s:Int}(h:qH d=some ((n,s),r)) (b:n=a.length) (c:s=jd a) (e:nj a r=none):qj a d=([],16):=by
 unfold qj;rw[h];simp only[];rw[vv (fun k=>k.elim (fun k=>k b) (fun k=>k c)),e]
theorem Oh {a d r b out:List UInt8}{n s:Int}(h:qH d=some ((n,s),r)) (c:n=a.length) (f:s=jd a) (e:nj a r=some (out,b)):qj a d=if cj a out=d then(out,0) else([],16):=by
 unfold qj;rw[h];simp only[];rw[vv (fun k=>k.elim (fun k=>k c) (fun k=>k f)),e]
theorem IB {d r:List UInt8}{p:Int×Int}(h:qH d=some (p,r)):r.length<=d.length:=by
 obtain⟨x,f,c,h⟩:=mJ h;obtain⟨y,b,a,h⟩:=mJ h;have j:=(lI c).2;have e:=(lI a).2;have h:some ((x,y),b)=some (p,r):=h;injection h with h;injection h with _ h
 rw[<-h];omega
set_option maxRecDepth 20000 in
theorem t7 (a d:List UInt8) (x:a.length<=268435456) (hb:d.length<=268435456) :
  CallsT PZ 7 [.sl (af a),.sl (af d)] [] (iZ [] (.tup [.sl (af (qj a d).1),IC (qj a d).2])):=by
 have h:(af a).length=a.length:=aK;have q:=Sg d;have l:=@Od a d;have k:=@Oe a d;have m:=@Og a d;have o:=@Oh a d;have y:=@IB d;generalize qj a d=pd at l k m o ⊢;refine au Tryd.func7 Ny rfl fun hw z=>?_;refine Am [6,12,7,8] q rfl rfl rfl rfl ?_;rintro v Mo (⟨n,s,r,e,rfl,rfl⟩ | ⟨e,⟨t,p2,p3,p4,rfl⟩,rfl⟩) _ _
 ·refine⟨rfl,?_⟩;have aa:=y e;have u:=Sf a r x (by omega);refine aH (fun b=>?_) (fun b=>?_)
  ·have b:(!decide (n=((af a).length:Int)))=true:=b;have b:n≠a.length:=by rw[h] at b;simpa using b
   exact bD rfl (by rw[k e (.inl b)];rfl)
  have b:(!decide (n=((af a).length:Int)))=false:=b;have b:n=a.length:=by rw[h] at b;simpa using b
  refine jx (t9 a) rfl fun _=>?_;refine aH (fun c=>?_) (fun c=>?_)
  ·have c:(!decide (s=jd a))=true:=c;exact bD rfl (by rw[k e (.inr (by simpa using c))];rfl)
  have c:(!decide (s=jd a))=false:=c;have c:s=jd a:=by simpa using c
  refine Am [6,12,9] u rfl rfl rfl rfl ?_;rintro v Mo (⟨out,r',j,rfl,rfl⟩ | ⟨j,⟨t,p2,p3,rfl⟩,rfl⟩) _ _
  ·refine⟨rfl,?_⟩;have w:=Ir j;refine bO (t8 a out (by omega) (by omega)) rfl fun _=>?_;refine bO (t22 (cj a out) d) rfl fun _=>?_;have p:=o e b c j;refine aH (fun f=>?_) (fun f=>?_)
   ·have f:(!decide (cj a out=d))=true:=f;exact bD rfl (by rw[p,vv (by simpa using f)];rfl)
   ·have f:(!decide (cj a out=d))=false:=f;exact bD rfl (by rw[p,j3 (by simpa using f)];rfl)
  ·refine⟨rfl,?_⟩;exact bD rfl (by rw[m e b c j];rfl)
 ·refine⟨rfl,?_⟩;exact bD rfl (by rw[l e];rfl)
theorem Ss:¬(true=false):=by decide
theorem SJ (a b:List UInt8):af a++af b=af (a++b):=by simp[af]
set_option maxRecDepth 100000 in
theorem t6:CallsT PZ 6 [] [] (iZ [] (.bool true)):=by
 have r:CallsT PZ 10 [.agg (uI [] [] 0 w0)] [] (iZ [.row 5 1 (af (rM w0))] (.rw 1000)):=SE [] [] 0 w0 Sr (by
  have:uy kW w0=([0,0,0,0,0,0,0,0],true):=by simp[w0,uy,bS,aX,bn,Ot,kW,zz,xA]
  rw[this];decide)
 have f:CallsT PZ 10 [.agg (uI [] [] 0 rO)] [] (iZ [.row 5 1 (af (rM rO))] (.rw 1000)):=SE [] [] 0 rO IA (by rw[Iw];decide);have ax:(rM rO).length<=70368744177664:=by rw[P0];simp[gG,rL,dL,qf]
 have y:CallsT PZ 11 [.agg [.sl [],.sl [],IC 5],.sl (af (rM rO))] [] (iZ [] (.tup [.agg (uI [] [] 5 rO),IC 0])):=by
  have:=SF [] [] 5 (rM rO) ax;rw[Sk] at this;exact this
 have t:CallsT PZ 11 [.agg [.sl [],.sl [],IC 0],.sl (af w7)] [] (iZ [] (.tup [.agg (uI [] [] 0 w0),IC 17])):=by
  have:=SF [] [] 0 w7 (by decide);rw[Sn] at this;exact this
 have e:=Si;generalize rM w0=n at r e;have a:(af dN).set 39 [iG 2]=af qm:=by simp[af,qm,List.map_set]
 have h8:CallsT PZ 8 [.sl (af dN),.sl ((af dN).set 39 [iG 2])] [] (iZ [] (.sl (af (cj dN qm)))):=by
  rw[a];exact t8 dN qm (by decide) (by decide)
 have c:(cj dN qm).length<=268435456:=by
  have q1:=mI (jd dN) (by have:=jE dN;omega) (by have:=jE dN;omega);have q2:=mI (jd qm) (by have:=jE qm;omega) (by have:=jE qm;omega);have q3:(bQ (zz 40)).length<=10:=mI 40 (by omega) (by omega);rw[Iz];simp only[Xg,Xv,XJ];omega
 have h7:CallsT PZ 7 [.sl (af dN),.sl (af (cj dN qm))] [] (iZ [] (.tup [.sl (af qm),IC 0])):=by
  have:=t7 dN (cj dN qm) (by decide) c;rw[pat1] at this;exact this
 have q:CallsT PZ 7 [.sl ((af dN).set 39 [iG 2]),.sl (af (cj dN qm))] [] (iZ [] (.tup [.sl (af []),IC 17])):=by
  have:=t7 qm (cj dN qm) (by decide) c;rw[pat2] at this;rw[a];exact this
 have p:CallsT PZ 9 [.sl ((af dN).set 39 [iG 2])] [] (iZ [] (IC (jd qm))):=by rw[a];exact t9 qm
 have b:=Iz;have b1:=jE dN;have b2:=jE qm;have k1:CallsT PZ 14 [IC 40] [] (iZ [.row 5 1 (af (bQ (zz 40)))] (.rw 1000)):=Sc 40 (by omega) (by omega);have k2:=Sc (jd dN) (by omega) (by omega);have k3:=Sc (jd qm) (by omega) (by omega);have m1:(bQ (zz 40)).length<=10:=mI 40 (by omega) (by omega);have m2:=mI (jd dN) (by omega) (by omega);have m3:=mI (jd qm) (by omega) (by omega);have d:(sN rO).length<=70368744177664:=X0 (Xq (by kernel_rfl:Nat.ble (sN rO).length 100000=true)) (by decide);have ab:CallsT PZ 16 [.agg (uI [] [] 5 rO),.agg (uI [] [] 5 rO)] [] (iZ [] (.bool true)):=by
  have:=t16 Ow Ow rO rO IA IA d d;rw[P1] at this;exact this
 have u:CallsT PZ 16 [.agg (uI [] [] 5 rO),.agg (uI [] [] 0 rO)] [] (iZ [] (.bool false)):=by
  have:=t16 Ow SI rO rO IA IA d d;rw[P2] at this;exact this
 have o:o9 ⟨n.toArray⟩ ⟨(jH++rL jH).toArray⟩=true:=by rw[kO,e];simp
 have s:∀x:List UInt8,o9 ⟨x.toArray⟩ ⟨x.toArray⟩=true:=fun x=>by rw[kO];simp
 generalize bQ (zz 40)=v1 at k1 m1 b c;generalize bQ (zz (jd dN))=k at k2 m2 b c;generalize bQ (zz (jd qm))=v3 at k3 m3 b c;generalize cj dN qm=dB at h8 h7 q b;generalize rM rO=ebE at f y;have l:CallsT PZ 13 [IC 40,iG 1] [] (iZ [.row 5 1 (af dN)] (.rw 1000)):=Wq 40 1 (by decide);have m:=t9 dN;have w:(af dN).length=40:=by rw[aK];rfl
 have j:(af dN)[39]?=some [iG 1]:=rfl;have z:=VY jH
 clear c
 have az:(rL jH).length=4:=rfl;generalize rL jH=d4 at e o z az;obtain⟨zd,ba,ap⟩:∃zd,af jH++af d4=af zd/\o9 ⟨n.toArray⟩ ⟨zd.toArray⟩=true:=⟨jH++d4,SJ _ _,o⟩
 clear e o
 generalize jd dN=n1 at m k2 b1;generalize jd qm=n2 at p k3 b2;generalize qm=tb at a h7;generalize dN=fb at l m w j a h8 h7 q p;have v:af v1++af k++af v1++af v3++af [2,4]++af [1,1,1,1,1,1,1,2]=af dB:=by rw[b];simp only[SJ]
 obtain⟨d2,am,ay⟩:∃d2,af v1++af k++af v1++af v3++af [2,4]++af [1,1,1,1,1,1,1,2]=af d2/\o9 ⟨dB.toArray⟩ ⟨d2.toArray⟩=true:=⟨dB,v,s dB⟩;obtain⟨t2,ar,av⟩:∃t2,(af fb).set 39 [iG 2]=af t2/\o9 ⟨tb.toArray⟩ ⟨t2.toArray⟩=true:=⟨tb,a,s tb⟩
 clear b v
 refine au Tryd.func6 Nx rfl fun hw _=>?_;refine callO [] [19] r rfl rfl rfl rfl rfl fun _ _=>?_;refine bO Sh rfl fun _=>?_;refine callO [] [23] f rfl rfl rfl rfl rfl fun _ _=>?_;refine uo [23] [] [] y ⟨_,rfl,rfl,rfl,rfl,rfl,fun _ _=>?_⟩;refine bO Sh rfl fun _=>?_;refine⟨Nat.succ_pos 3,eC (bs:=jH),?_⟩;refine qG (bs:=[0,0,0,0]) 11 rfl (by decide) ?_;refine uo [34] [] [] t ⟨_,rfl,rfl,rfl,rfl,rfl,fun _ _=>?_⟩;refine callO [] [38] l rfl rfl rfl rfl rfl fun _ _=>?_;refine callO [] [39] l rfl rfl rfl rfl rfl fun _ _=>?_;refine Mv.mk (by decide) (by rw[w];decide) ?_;refine⟨rfl,?_⟩;refine Ij (es0:=[iG 1]) j rfl ?_;refine uo [38,39] [] [] h8 ⟨_,rfl,rfl,rfl,rfl,rfl,fun _ _=>?_⟩;refine bO h7 rfl fun _=>?_;refine bO q rfl fun _=>?_;refine callO [] [57] k1 rfl rfl rfl rfl rfl fun _ _=>?_;refine bO m rfl fun _=>?_;refine callO [] [60] k2 rfl rfl rfl rfl rfl fun _ _=>?_;refine qG (bs:=k) v1.length aK (by omega) ?_;refine callO [] [62] k1 rfl rfl rfl rfl rfl fun _ _=>?_;refine qG (bs:=v1) (v1.length+k.length) (xY aK aK) (by omega) ?_;refine bO p rfl fun _=>?_;refine callO [] [66] k3 rfl rfl rfl rfl rfl fun _ _=>?_;refine qG (bs:=v3) (v1.length+k.length+v1.length) (xY (xY aK aK) aK) (by omega) ?_;refine qG (bs:=[2,4]) (v1.length+k.length+v1.length+v3.length) (xY (xY (xY aK aK) aK) aK) (by simp only[Xv,XJ];omega) ?_;refine jT.mk ⟨n,rfl,?_⟩;refine⟨Nat.succ_pos 10,eC (bs:=[]),?_⟩;refine qG (bs:=jH) 0 rfl (by decide) ?_;refine jx z rfl fun _=>?_;refine qG (bs:=d4) 11 rfl (by omega) ?_;refine jT.mk ⟨zd,ba,?_⟩;refine aH (fun _=>?_) (fun h=>v7 (ap.symm.trans h) Ss);refine jx ab rfl fun _=>?_;refine jx Sh rfl fun _=>?_;refine jx u rfl fun _=>?_;refine jT.mk ⟨dB,rfl,?_⟩;refine qG (bs:=[1,1,1,1,1,1,1,2]) (v1.length+k.length+v1.length+v3.length+2) (xY (xY (xY (xY aK aK) aK) aK) rfl) (by simp only[Xv,XJ];omega) ?_;refine jT.mk ⟨d2,am,?_⟩;refine aH (fun _=>?_) (fun h=>v7 (ay.symm.trans h) Ss);refine jT.mk ⟨tb,rfl,?_⟩;refine jT.mk ⟨t2,ar,?_⟩;refine aH (fun _=>?_) (fun h=>v7 (av.symm.trans h) Ss);exact bD rfl rfl
end Go.Fr.Tryd
namespace Go.Fr.Tryd
open Go Go.Fr.T
theorem xB (n:Int) (f m:Nat) (b:0<=n) (h:n<=m) (a:2*m<128 ^ (f+1)):(bQ (zz n)).length<=f+1 :=
 Ap f _ (Nat.lt_of_le_of_lt (Im n m (by omega) h) a)
theorem zh (a b:List UInt8) (h:a.length<=3000) (hb:b.length<=3000):(iW (mH a b)).length<=16:=by
 have m:=jE a;have k:=jE b;have c:=Ao a b;unfold bN at c;have d:=xB (a.length:Int) 1 3000 (by omega) (by omega) (by decide);have j:=xB (jd a) 4 2147483647 (by omega) (by omega) (by decide);have f:=xB (b.length:Int) 1 3000 (by omega) (by omega) (by decide);have l:=xB (jd b) 4 2147483647 (by omega) (by omega) (by decide);have e:=xB ((gO a b).length:Int) 1 3000 (by omega) (by omega) (by decide);simp only[mH,iW,Xg,XJ];omega
theorem FM (a b:List UInt8):5<=(iW (mH a b)).length:=by
 have c:=hO (zz (a.length:Int));have f:=hO (zz (jd a));have e:=hO (zz (b.length:Int));have h:=hO (zz (jd b));have d:=hO (zz ((gO a b).length:Int));simp only[mH,iW,Xg,XJ];omega
theorem Ev (b:List UInt8):∀(l:List Nat) (p:Int),Up p l->(∀i∈l,i<bN b.length)->32*l.length<=ql b l+32
 | [],_,_,_=>by simp
 | [i],_,_,_=>by simp[ql]
 | i::j::l,p,c,a=>by
  have e:=Ev b (j::l) i c.2 fun k d=>a k (by simp[d]);have m:=vk (a j (by simp));have f:(i:Int)<j:=c.2.1;have h:=fE b i;simp only[ql,Xv] at e ⊢;omega
theorem IE (a:List UInt8):gO a a=[]:=by
 unfold gO;apply List.filter_eq_nil_iff.2;intro i _;simp[kX]
theorem LO (a b:List UInt8) (c:a.length<=3000) (hb:b.length<=3000):(cj a b).length<=40+42*(gO a b).length:=by
 have d:=zh a b c hb;have e:=Aq b (-1) (gO a b) (by omega) (by omega) fun i hi=>by have:=xj hi;unfold bN at this;omega
 rw[cj,Xg];omega
theorem LP (a b:List UInt8) (e:a.length<=3000) (hb:b.length<=3000):32*(gO a b).length<(cj a b).length+32:=by
 have c:=FM a b;have f:=Aw b (-1) (gO a b);have d:=Ev b (gO a b) (-1) (Iv a b) fun i hi=>xj hi;rw[cj,Xg];omega
theorem LQ (a:List UInt8) (b:a.length<=3000):(cj a a).length<=28:=by
 have c:=zh a a b b;rw[cj,Xg,IE];simp only[xg,XJ];omega
theorem IG (a b:List UInt8) (k:Nat) (m:32*k<b.length) :
  kX a b k=true↔(a.length<min (32*k+32) b.length\/¬((a.drop (32*k)).take (min (32*k+32) b.length-32*k)=(b.drop (32*k)).take (min (32*k+32) b.length-32*k))):=by
 have l:=fE b k;have j:=fE a k;have hb:(b.drop (32*k)).take (min (32*k+32) b.length-32*k)=cg b k:=by
  unfold cg
  by_cases h:32*k+32<=b.length
  ·congr 1;omega
  ·rw[XS (by rw[XV];omega),XS (by rw[XV];omega)]
 rw[hb];simp only[kX,Bool.not_eq_true',Ye];constructor
 ·intro h
  by_cases d:a.length<min (32*k+32) b.length
  ·exact .inl d
  ·refine .inr fun e=>h ?_;rw[<-e];unfold cg;rw[show min (32*k+32) b.length-32*k=min (min (32*k+32) b.length-32*k) 32 by omega,<-List.take_take];exact List.take_prefix _ _
 ·intro h c;have f:=c.length_le;rcases h with h | h
  ·omega
  ·apply h;rw[List.prefix_iff_eq_take.1 c];unfold cg;rw[List.take_take];congr 1;rw[Xx,XV];omega
end Go.Fr.Tryd
namespace Go.Fr.Tryd
open Go Go.RowKit Go.Proofs Go.Fr Go.Fr.T Go.Fr.Api Go.Fr.Dm
def mK (a b:List UInt8) (k:Nat):Nat:=((List.range k).filter (kX a b)).length
theorem II (a b:List UInt8) (k:Nat):mK a b (k+1)=mK a b k+if kX a b k=true then 1 else 0:=by
 unfold mK;rw[List.range_succ,List.filter_append,Xg];congr 1;cases e:kX a b k<;>simp[e]
theorem Oi (a b:List UInt8) (k:Nat):mK a b k<=k:=by
 have:=List.length_filter_le (kX a b) (List.range k);simpa[mK] using this
set_option maxRecDepth 20000 in
theorem t5 (a b:List UInt8):CallsT PZ 5 [.sl (af a),.sl (af b)] [] (iZ [] (.bool true)):=by
 have az:(af a).length=a.length:=aK;have h:(af b).length=b.length:=aK;have aa:=IG a b;refine au Tryd.func5 Nw rfl fun hw _=>?_;refine bO t6 rfl fun _=>?_;refine aR (fun t=>?_) (fun t=>?_)
 ·exact bD rfl rfl
 refine aR (fun x=>?_) (fun x=>?_)
 ·exact bD rfl rfl
 have t:a.length<=3000:=by omega
 have x:b.length<=3000:=by omega
 have ap:bN b.length<=100:=by unfold bN;omega
 refine uh.mk ⟨Nat,0,fun k=>k<=bN b.length,[6,7],fun k=>[IC (mK a b k:Nat),IC ((32*k:Nat):Int)],fun _=>[],fun k=>bN b.length-k,XG _,⟨aq rfl,aq rfl,trivial⟩,trivial,fun _=>rfl,fun _=>rfl,?_⟩;rintro k z _ _;have z:k<=bN b.length:=z;have ay:=Oi a b k;have n:=II a b k;refine aR (fun j=>?_) (fun v=>?_)
 ·have j:32*k<b.length:=by rw[h] at j;omega
  have u:k<bN b.length:=by unfold bN;omega
  obtain⟨e,he⟩:∃e,e=min (32*k+32) b.length:=⟨_,rfl⟩;have c:=aa k j;rw[<-he] at c;have o:(if((af b).length:Int)<((32*k:Nat):Int)+32 then((af b).length:Int) else((32*k:Nat):Int)+32)=(e:Int):=by rw[h];split<;>omega
  obtain⟨pa,s⟩:∃pa,pa=(a.drop (32*k)).take (e-32*k):=⟨_,rfl⟩;obtain⟨p,w⟩:∃p,p=(b.drop (32*k)).take (e-32*k):=⟨_,rfl⟩;rw[<-s,<-w] at c;have ra:((af a).drop (((32*k:Nat):Int)).toNat).take ((if((af b).length:Int)<((32*k:Nat):Int)+32 then((af b).length:Int) else((32*k:Nat):Int)+32).toNat-(((32*k:Nat):Int)).toNat)=af pa:=by
   rw[o,eO,s];rfl
  have rb:((af b).drop (((32*k:Nat):Int)).toNat).take ((if((af b).length:Int)<((32*k:Nat):Int)+32 then((af b).length:Int) else((32*k:Nat):Int)+32).toNat-(((32*k:Nat):Int)).toNat)=af p:=by
   rw[o,eO,w];rfl
  have a2:((32*k:Nat):Int)<=(if((af b).length:Int)<((32*k:Nat):Int)+32 then((af b).length:Int) else((32*k:Nat):Int)+32):=by rw[o];omega
  have a3:(if((af b).length:Int)<((32*k:Nat):Int)+32 then((af b).length:Int) else((32*k:Nat):Int)+32)<=((af b).length:Int):=by rw[o];omega
  have wf:(Lit.int .i64 (if((af b).length:Int)<((32*k:Nat):Int)+32 then((af b).length:Int) else((32*k:Nat):Int)+32)).wf=true:=by
   rw[o];simp[Lit.wf,IntKind.min,IntKind.max,IntKind.bits,IntKind.signed];omega
  refine Fit.Ww (by omega) (by omega) ?_;refine⟨wf,?_⟩;refine aR (fun f=>?_) (fun f=>?_)
  ·have f:((af a).length:Int)<(if((af b).length:Int)<((32*k:Nat):Int)+32 then((af b).length:Int) else((32*k:Nat):Int)+32):=f;rw[o] at f;have m:kX a b k=true:=c.2 (.inl (by omega));refine Fit.Ww (by omega) (by omega) ?_;refine Fit.Ww (by omega) (by omega) ?_;exact⟨k+1,(show k+1<=bN b.length by omega),⟨.inr (.inl ⟨p7 (C.int .i64) (by rw[n,j3 m];omega),rfl⟩),.inr (.inl ⟨p7 (C.int .i64) (by omega),rfl⟩),trivial⟩,trivial,(show bN b.length-(k+1)<bN b.length-k by omega)⟩
  ·have f:¬((af a).length:Int)<(if((af b).length:Int)<((32*k:Nat):Int)+32 then((af b).length:Int) else((32*k:Nat):Int)+32):=f;have a4:(if((af b).length:Int)<((32*k:Nat):Int)+32 then((af b).length:Int) else((32*k:Nat):Int)+32)<=((af a).length:Int):=by omega
   rw[o] at f;refine xL.mk (by omega) a2 a4 eC ?_;refine jT.mk ⟨pa,ra,?_⟩;refine xL.mk (by omega) a2 a3 eC ?_;refine jT.mk ⟨p,rb,?_⟩;refine aH (fun d=>?_) (fun d=>?_)
   ·have d:(!o9 ⟨pa.toArray⟩ ⟨p.toArray⟩)=true:=d;have m:kX a b k=true:=c.2 (.inr (by rw[kO] at d;simpa using d));refine Fit.Ww (by omega) (by omega) ?_;refine Fit.Ww (by omega) (by omega) ?_;exact⟨k+1,(show k+1<=bN b.length by omega),⟨.inr (.inl ⟨p7 (C.int .i64) (by rw[n,j3 m];omega),rfl⟩),.inr (.inl ⟨p7 (C.int .i64) (by omega),rfl⟩),trivial⟩,trivial,(show bN b.length-(k+1)<bN b.length-k by omega)⟩
   ·have d:(!o9 ⟨pa.toArray⟩ ⟨p.toArray⟩)=false:=d;have m:¬kX a b k=true:=fun q=>(c.1 q).elim (fun q=>by omega) (fun q=>by rw[kO] at d;simp[q] at d);refine Fit.Ww (by omega) (by omega) ?_;exact⟨k+1,(show k+1<=bN b.length by omega),⟨.inr (.inl ⟨p7 (C.int .i64) (by rw[n,vv m];rfl),rfl⟩),.inr (.inl ⟨p7 (C.int .i64) (by omega),rfl⟩),trivial⟩,trivial,(show bN b.length-(k+1)<bN b.length-k by omega)⟩
 ·have v:¬32*k<b.length:=by rw[h] at v;omega
  have u:k=bN b.length:=by unfold bN at z ⊢;omega
  have m:mK a b k=(gO a b).length:=by rw[u];rfl
  have s1:=LO a b t x;have s2:=LP a b t x;have s3:=LQ a t;have ab:(af (cj a b)).length=(cj a b).length:=aK;have r:(af (cj a a)).length=(cj a a).length:=aK;have h8:=t8 a b (by omega) (by omega);have l:=t8 a a (by omega) (by omega);generalize cj a b=dB at s1 s2 ab h8;generalize cj a a=dA at s3 r l;rw[<-m] at s1 s2;have hm:(if((af b).length:Int)<32*((mK a b k:Nat):Int)-32 then((af b).length:Int) else 32*((mK a b k:Nat):Int)-32)<=32*((mK a b k:Nat):Int)-32:=by split<;>omega
  have ac:1<=mK a b k->0<=(if((af b).length:Int)<32*((mK a b k:Nat):Int)-32 then((af b).length:Int) else 32*((mK a b k:Nat):Int)-32):=fun q=>by split<;>omega
  have ba:(if((af b).length:Int)<32*((mK a b k:Nat):Int)-32 then((af b).length:Int) else 32*((mK a b k:Nat):Int)-32)<=9223372036854775807:=by omega
  have wf:1<=mK a b k->(Lit.int .i64 (if((af b).length:Int)<32*((mK a b k:Nat):Int)-32 then((af b).length:Int) else 32*((mK a b k:Nat):Int)-32)).wf=true:=fun q=>by
   have:=ac q;rw[vW];simp only[IntKind.min,IntKind.max,IntKind.signed,IntKind.bits,XA];omega
  refine bO h8 rfl fun _=>?_;refine Fit.Ww (by omega) (by omega) ?_;refine Fit.Ww (by omega) (by omega) ?_;refine aR (fun q1=>?_) (fun q1=>v7 (show((af dB).length:Int)<=40+42*((mK a b k:Nat):Int) by omega) q1);refine aR (fun y=>?_) (fun y=>?_)
  ·refine bO l rfl fun _=>?_;exact bD rfl (p7 C.bool (Yd (show((af dA).length:Int)<=28 by omega)))
  ·have y:¬((mK a b k:Nat):Int)=0:=y;have q3:1<=mK a b k:=by omega
   refine Fit.Ww (by omega) (by omega) ?_;refine Fit.Ww (by omega) (by omega) ?_;refine⟨wf q3,?_⟩;refine aR (fun q4=>?_) (fun q4=>v7 (show(if((af b).length:Int)<32*((mK a b k:Nat):Int)-32 then((af b).length:Int) else 32*((mK a b k:Nat):Int)-32)<((af dB).length:Int) by omega) q4);refine bO l rfl fun _=>?_;exact bD rfl (p7 C.bool (Yd (show((af dA).length:Int)<=28 by omega)))
end Go.Fr.Tryd
namespace Go.Fr.Tryd
open Go Go.RowKit Go.Proofs Go.Fr Go.Fr.T
theorem Ay {W:World}{p:Prop}(h:p):qV (oP W):=trivial
end Go.Fr.Tryd
