/- Part of the proofs of the statements of this seat. -/
import Derived.Test.YtnlegbokpofcaaaGreatDoorSpP4G
set_option maxRecDepth 10000
set_option linter.unusedVariables false
set_option linter.unusedSimpArgs false
namespace Go.Fr.Tryz
open Go Go.RowKit Go.Proofs Go.Fr Go.Fr.T Go.Fr.Api Go.Fr.Dm
def Oh:List aA:=[.op (some 56) (.mov (.t 8)) none,
     .op (some 57) (.mov (.t 9)) none,
     .op (some 58) (.bin .mul (.c (.int .i64 32)) (.t 57)) none,
     .op (some 59) (.slc 1 (.t 56) (some (.t 58)) none) none,
     .op (some 60) (.mov (.t 0)) none,
     .op (some 61) (.mov (.t 8)) none,
     .op (some 62) (.mov (.t 9)) none,
     .op (some 63) (.callD 62 [(.t 61),(.t 62)]) none,
     .op (some 64) (.len (.t 63)) none,
     .pc (some 65) (.call 87 [(.t 60),(.t 64)]) none,
     .op (some 66) (.copyX 5 1 (.t 59) (.t 65)) none]
def Da (k:Nat) (a:Nat) (τ:aX):aX :=
 bE (some 64) (IC (a:Int)) (bE (some 63) .any (bE (some 62) .any (bE (some 61) .any (bE (some 60) (.own 1000 0) (bE (some 59) .any (bE (some 58) .any (bE (some 57) .any (bE (some 56) (.rw k) τ))))))))
theorem Em {ρ:Env}{j:Nat}{v:SV}(h:ρ j=v):ρ=put (some j) v ρ:=by
 funext i
 simp only[put];cases e:Nat.beq i j with
 | true=>rw[xo e,h]
 | false=>rfl
theorem Qo {PS:qd}{M:TL}{τ:aX}{N:TK}(k i:Nat) (out d:List UInt8) (ap:PS.st=none) (hs:M.sub [1000]=some [RB d]) (hk:M.get k=some (.row 5 1 (af out))) (h8:τ 8=.rw k) (h9:τ 9=IC (i:Int)) (h0:τ 0=.own 1000 0)
  (aE:rowsOf M [1000]=[]) (hh:lT M [1000] PS.hb=true) (cf:k≠1000) (hi:32*i<out.length) (db:out.length<=1073741824)
  (hp:takeD (((cK out i).length:Nat):Int) d=none->PS.ps fL)
  (aw:∀r,(((M.ZB [1000]).kills []).puts [1000] [RB r]).get k=some (.row 5 1 (af out)))
  (hN:∀b r,takeD (((cK out i).length:Nat):Int) d=some (b,r) ->
   N ((((M.ZB [1000]).kills []).puts [1000] [RB r]).set k (.row 5 1 (af (qU out (32*i) b)))) (bE (some 66) .any (bE (some 65) .any (fF [] (Da k (cK out i).length τ))))) :
  Pc PZ PS Oh M τ N:=by
 refine⟨ap,fun G PX ab F L ρ hr n=>?_⟩;obtain⟨s,c,hL,ha,hm⟩:=row_of n hk;obtain⟨a1,c1,t1,cp,n1,bs,e8,e2⟩:=sO (x:=.t 8) n.env h8;rw[hL] at e2;injection e2 with e2
 injection e2 with e2 _ _ _ _
 injection e2 with e3 e4 e5
 subst e3 e4 e5;obtain⟨e9,w9⟩:=eX (x:=.t 9) n.env h9;obtain⟨e0,_⟩:=fo (x:=.t 0) n.env h0;have e8:ρ 8=.v (.slice s out.length c):=e8;have e9:ρ 9=.v (.int .i64 i):=e9;have e0:ρ 0=.own 1000 0:=e0;have p:out.length<=c/\c<=9223372036854775807:=by
  obtain⟨w,hw⟩:=hr;obtain⟨c',hv⟩:=Bl hw hL;obtain⟨a',e,q,l,_⟩:=hv.form;injection e with _ _ e
  subst e;exact⟨q,by unfold maxLen at l;exact l⟩
 have av:(cK out i).length=min (32*i+32) out.length-min (32*i) out.length:=by
  unfold cK;rw[aaC,aa2];omega
 rw[av] at hp hN;have f:ρ=put (some 8) (.v (.slice s out.length c)) (put (some 9) (.v (.int .i64 i)) (put (some 0) (.own 1000 0) ρ)) :=
  (Em e8).trans (j3 (put (some 8) _) ((Em e9).trans (j3 (put (some 9) _) (Em e0))))
 generalize o:ρ=ρ1 at f;rw[o] at n
 clear e8 e9 e0
 subst o;rw[f] at n ⊢
 clear f
 refine⟨_,rfl,?_⟩;refine⟨_,rfl,?_⟩;refine⟨_,rfl,?_⟩;refine Fit.ZA (by omega) (by omega) ?_;refine⟨_,rfl,?_⟩;refine nD.mk (by omega) (by omega) (by omega) ?_;refine⟨_,rfl,?_⟩;refine⟨_,rfl,?_⟩;refine⟨_,rfl,?_⟩;refine⟨_,rfl,?_⟩;refine .frz _ (Wz F s out.length c i p.1 p.2 (by omega)) fun v F1 Lo ac hR=>?_;obtain⟨rfl,rfl⟩:=hR;refine⟨rfl,fun ce=>?_⟩;refine⟨_,rfl,?_⟩;have hI:∀{L:Loc}(m:Nat),m<=9223372036854775807->aQ F1 L (IC (m:Int)) (.v (.int .i64 m)):=fun m hm=>⟨_,rfl,by
  rw[Rel];refine⟨rfl,?_⟩;rw[AH];simp only[IntKind.min,IntKind.max,IntKind.signed,IntKind.bits,aaD];omega⟩
 have V3:=(n.mono ac).put (n.mono ac |>.env 8) (some 56);have any:∀sv,aQ F1 L .any sv:=fun sv=>trivial;have Wx:=(((V3.put (any (.v (.int .i64 i))) (some 57)).put (any (.v (.int .i64 (32*(i:Int))))) (some 58)).put (any (.v (gj s c (32*(i:Int)).toNat (out.length:Int).toNat 1))) (some 59));have Ql:=Wx.put (n.mono ac |>.env 0) (some 60);have ag:=((Ql.put (any (.v (.slice s out.length c))) (some 61)).put (any (.v (.int .i64 i))) (some 62)).put (any (.v (gj s c (min (32*i) out.length) (min (32*i+32) out.length) 1))) (some 63);have a:=ag.put (hI (min (32*i+32) out.length-min (32*i) out.length) (by omega)) (some 64);rw[h8,h0] at a;have a:TS G F1 L _ M (Da k (min (32*i+32) out.length-min (32*i) out.length) τ):=a;have hx:nH PZ PS (Ay Oh) 87 [.own 1000 0,IC (((min (32*i+32) out.length-min (32*i) out.length):Nat):Int)] M (Da k (min (32*i+32) out.length-min (32*i) out.length) τ) (fun M' ar v=>∃b r,takeD (((min (32*i+32) out.length-min (32*i) out.length):Nat):Int) d=some (b,r)/\M'=(((M.ZB [1000]).kills []).puts [1000] [RB r])/\ar=fF [] (Da k (min (32*i+32) out.length-min (32*i) out.length) τ)/\v=.sl (af b)):=by
  refine cu [1000] (W4 (((min (32*i+32) out.length-min (32*i) out.length):Nat):Int) d) hs rfl rfl rfl (fun v h=>h.1▸hp h.2) ?_ hh;rintro v Mo ⟨b,r,h1,rfl,rfl⟩ _ _;rw[aE];exact⟨rfl,b,r,h1,rfl,rfl,rfl⟩
 have hc:=ab F1 L _ M (Da k (min (32*i+32) out.length-min (32*i) out.length) τ) 87 [.own 1000 0,IC (((min (32*i+32) out.length-min (32*i) out.length):Nat):Int)] _ _ a (cZ a.env [.t 60,.t 64]) hx;refine CallXDPt.imp hc fun F2 L2 v cr cb bv _ bz hK=>?_;obtain⟨M2,bx,c2,z,y,b,r,hb,rfl,rfl,rfl⟩:=hK;obtain⟨v',aa,y⟩:=y;injection aa with aa
 subst aa;obtain⟨a2,c2,rfl,_,cX,hf⟩:=x9 y;obtain⟨ax,cx,u,_,_⟩:=row_of z (aw r);obtain⟨ay,cy,ty,cc,ny,xy,q,l⟩:=sO (x:=.t 56) z.env (k:=k) rfl;have q:(SV.v (.slice s out.length c))=.v (.slice ay ny cy):=q;injection q with q
 injection q with q3 q4 q5
 subst q3 q4 q5;rw[u] at l;injection l with l
 injection l with l _ _ _ _
 injection l with q3 _ q5
 subst q3 q5;obtain⟨j,rfl⟩:∃x,ax=some x:=by
  cases ax with
  | none=>have:=ha rfl;omega
  | some x=>exact⟨x,rfl⟩
 have da:b.length=min (32*i+32) out.length-min (32*i) out.length:=by
  unfold takeD at hb;split at hb
  case isFalse=>cases hb
  rename_i h;injection hb with hb
  injection hb with hb _
  rw[<-hb,aaC];omega
 have az:gj (some j) cx (32*(i:Int)).toNat (out.length:Int).toNat 1=.slice (some (j.add (32*i*1))) (out.length-32*i) (cx-32*i):=by
  rw[show(32*(i:Int)).toNat=32*i by omega,show(out.length:Int).toNat=out.length by omega];unfold gj;rw[vz (by omega)];rfl
 refine⟨_,rfl,?_⟩;refine⟨.inl ⟨k,out.length-32*i,.slice (some j) out.length cx,out.length,dS out,j,cx,cx-32*i,32*i,b.length,a2,c2,dS b,u,rfl,az,by omega,rfl,by rw[oJ];omega,?_,nk _,fun _=>?_⟩⟩
 ·rcases hf with h | ⟨h1,h2⟩
  ·exact .inl h
  ·exact .inr ⟨by omega,h2⟩
 ·rw[Nat.mul_one,Aa];refine⟨_,_,?_,hN b r hb⟩;have h3:=C9 z u (out':=qU out (32*i) b) (oM (by omega)) hm ha;exact(h3.put (c:=.any) trivial (some 65)).put (c:=.any) trivial (some 66)
theorem Db:∀(f k z:Nat) (l:List UInt8) (n:Int) (r:List UInt8),lM f k z l=some (n,r)->z<128 ^ k->f+k=6->(-4398046511104<=n/\n<=4398046511104)/\r.length<l.length
 | 0,_,_,_,_,_,h,_,_=>by simp[lM] at h
 | _+1,_,_,[],_,_,h,_,_=>by simp[lM] at h
 | f+1,k,z,c::d,n,r,h,m,p=>by
  have o:=c.toNat_lt;rw[lM] at h;split at h
  ·rename_i a;split at h
   ·injection h with h
    injection h with h1 h2
    subst h2;have s:z+c.toNat*128 ^ k<128 ^ (k+1):=by
     have:c.toNat*128 ^ k<=127*128 ^ k:=Nat.mul_le_mul_right _ (by omega);rw[Nat.pow_succ];omega
    have e:128 ^ (k+1)<=128 ^ 6:=Nat.pow_le_pow_right (by omega) (by omega);have j:(128:Nat) ^ 6=4398046511104:=by decide
    refine⟨?_,by simp⟩;rw[<-h1];unfold G6;split<;>omega
   ·cases h
  ·obtain⟨b,q⟩:=Db f (k+1) _ d n r h (by
    have:(c.toNat-128)*128 ^ k<=127*128 ^ k:=Nat.mul_le_mul_right _ (by omega);rw[Nat.pow_succ];omega) (by omega)
   exact⟨b,by simp;omega⟩
theorem mH {l r:List UInt8}{n:Int}(h:getD l=some (n,r)):(-4398046511104<=n/\n<=4398046511104)/\r.length<l.length:=Db 6 0 0 l n r h (by decide) rfl
def uj (size:Nat):Nat->Int->List UInt8->Dec (List UInt8)
 | 0,_,out=>vM out
 | n+1,p,out=>fV getD fun d=>if 0<=p+d/\p+d<fq size then fV (takeD (((cK out (p+d).toNat).length:Nat):Int)) fun b=>uj size n (p+d) (qU out (32*(p+d).toNat) b) else fun _=>none
def Bu (a:List UInt8) (size:Nat):List UInt8:=qU (List.replicate size 0) 0 (a.take size)
def Dc (a:List UInt8) (s c:Int):Dec (List UInt8):=fun r=>if(0<=s/\s<=(a.length:Int)+r.length)/\0<=c then uj s.toNat c.toNat (-1) (Bu a s.toNat) r else none
def nZ (a:List UInt8):Dec (List UInt8):=fV getD fun s=>fV getD fun _=>fV getD fun c=>Dc a s c
theorem ul (a:List UInt8) (n:Nat):(Bu a n).length=n:=by
 unfold Bu;rw[oM (by simp;omega)];simp
theorem En (n:Nat):List.replicate n [C.int .u8 0]=af (List.replicate n 0):=by simp[af,jo]
theorem Bv {i n:Nat}(h:i<fq n):32*i<n:=by unfold fq at h;omega
theorem WA (s:Int) (a:0<=s) (b:s<=4611686018427387904):CallsT PZ 61 [IC s] [] (iD [] (IC ((fq s.toNat:Nat):Int))):=by
 obtain⟨n,rfl⟩:=Int.eq_ofNat_of_zero_le a;exact W7 n (by omega)
set_option maxRecDepth 20000 in
theorem Zm (a bs:List UInt8) (ha:a.length<=268435456) (hb:bs.length<=268435456):CallsTX PZ 46 [.own 1000 0,.sl (af a)] [RB bs]
  (fun Mo c=>∃out r,nZ a bs=some (out,r)/\Mo=[RB r]/\c=.sl (af out)) (fun v=>v=fL/\nZ a bs=none):=by
 have bl:(af a).length=a.length:=aM;refine aq Tryz.func46 Mr rfl fun hw ba=>?_;refine rn 1000 (NY bs) rfl rfl rfl (fun h=>⟨rfl,aV h⟩) fun s r1 e1 _=>?_;refine rn 1000 (NY r1) rfl rfl rfl (fun h=>⟨rfl,(au e1).trans (aV h)⟩) fun s2 r2 e2 _=>?_;refine rn 1000 (NY r2) rfl rfl rfl (fun h=>⟨rfl,(au e1).trans ((au e2).trans (aV h))⟩) fun n y e3 _=>?_;have m:nZ a bs=Dc a s n y:=(au e1).trans ((au e2).trans (au e3));obtain⟨⟨b1,b2⟩,b3⟩:=mH e1;obtain⟨_,b4⟩:=mH e2;obtain⟨⟨b5,b6⟩,b7⟩:=mH e3;have be:(af y).length=y.length:=aM;refine aN (fun w=>?_) (fun w=>?_)
 ·refine Fit.ZA (by omega) (by omega) ?_;refine aN (fun h1=>?_) (fun h1=>?_)
  ·refine u4 (uo (decide (0<=n))) rfl (fun h=>⟨rfl,?_⟩) fun h2=>?_
   ·rw[m,Dc,vz (fun h3=>by have:=aaV h;omega)]
   have h2:=aaz h2;have w:0<=s:=w;have h1:s<=(a.length:Int)+y.length:=by omega
   have ae:nZ a bs=uj s.toNat n.toNat (-1) (Bu a s.toNat) y:=by rw[m,Dc,o6 ⟨⟨w,h1⟩,h2⟩]
   have bb:s.toNat<=536870912:=by omega
   have al:(List.replicate s.toNat (0:UInt8)).length=s.toNat:=aaX;have aa:=WA s w (by omega);refine ur.mk w (aaI _) (by omega) (by unfold maxLen;omega) ?_;refine Np (k:=36) (out:=List.replicate s.toNat 0) (a:=a) (j3 (fun q=>some (TO.row 5 1 q)) (En s.toNat)) rfl rfl ?_;refine bF n.toNat 41 [9,8] ((y,(-1:Int),Bu a s.toNat):List UInt8×Int×List UInt8) (fun x=>[IC x.2.1,.rw 36]) (fun x=>[(1000,RB x.1),(36,.row 5 1 (af x.2.2))])
    (fun k x=>uj s.toNat (n.toNat-k) x.2.1 x.2.2 x.1=nZ a bs/\(-1<=x.2.1/\x.2.1<=4294967296)/\x.2.2.length=s.toNat) ⟨ae.symm,⟨(by decide:(-1:Int)<=-1),(by decide:(-1:Int)<=4294967296)⟩,ul a s.toNat⟩ (ak rfl) ⟨ak rfl,ak rfl,trivial⟩
    ⟨.inl ⟨_,rfl,.inl ⟨rfl,rfl⟩⟩,.inl ⟨_,rfl,.inl ⟨j3 (fun q=>TO.row 5 1 (af q)) (by rw[Bu,al]),rfl⟩⟩,trivial⟩ (fun _=>rfl) (fun _=>rfl) ?_
   rintro k ⟨f,p,out⟩ hk ⟨e,⟨p1,p2⟩,o⟩ _ _ aw;have e:uj s.toNat (n.toNat-k) p out f=nZ a bs:=e;have p1:-1<=p:=p1;have p2:p<=4294967296:=p2;have o:out.length=s.toNat:=o;refine aN (fun u=>?_) (fun am=>?_)
   ·have u:k<n.toNat:=by omega
    have ab:nZ a bs=fV getD (fun d=>if 0<=p+d/\p+d<fq s.toNat then fV (takeD (((cK out (p+d).toNat).length:Nat):Int)) fun b=>uj s.toNat (n.toNat-(k+1)) (p+d) (qU out (32*(p+d).toNat) b) else fun _=>none) f:=by
     rw[<-e,show n.toNat-k=(n.toNat-(k+1))+1 by omega];rfl
    refine rn 1000 (NY f) rfl rfl rfl (fun h=>⟨rfl,ab.trans (aV h)⟩) fun d r4 e4 _=>?_;have j:=ab.trans (au e4);obtain⟨⟨d1,d2⟩,_⟩:=mH e4;refine Fit.ZA (by omega) (by omega) ?_;refine aN (fun t=>?_) (fun t=>?_)
    ·have t:0<=p+d:=t;refine bA aa rfl fun _=>?_;refine u4 (uo (decide (p+d<((fq s.toNat:Nat):Int)))) rfl (fun h=>⟨rfl,?_⟩) fun g1=>?_
     ·rw[j,vz (fun h3=>by have:=aaV h;omega)]
     have g1:=aaz g1;rw[o6 ⟨t,g1⟩] at j;have hi:32*(p+d).toNat<out.length:=by rw[o];exact Bv (by omega)
     refine Qo 36 (p+d).toNat out r4 rfl rfl rfl rfl (j3 IC (show p+d=(((p+d).toNat:Nat):Int) by omega)) rfl rfl rfl (by decide) hi (by omega) (fun h=>⟨rfl,j.trans (aV h)⟩) (fun _=>rfl) fun b r5 l=>?_;have z:=j.trans (au l);have bi:fq s.toNat<=4294967296:=by unfold fq;omega
     have ao:b.length=(cK out (p+d).toNat).length:=by
      unfold takeD at l;split at l
      case isFalse=>cases l
      rename_i h;injection l with l
      injection l with l _
      rw[<-l,aaC];omega
     have av:32*(p+d).toNat+b.length<=out.length:=by
      rw[ao];unfold cK;rw[aaC,aa2];omega
     refine Fit.ZA (by omega) (by omega) ?_;exact⟨(k+1,(r5,p+d,qU out (32*(p+d).toNat) b)),⟨u,z.symm,⟨by show -1<=p+d;omega,by show p+d<=4294967296;omega⟩,(oM av).trans o⟩,⟨bL,ak rfl,ak rfl,trivial⟩,
      ⟨.inl ⟨_,rfl,.inl ⟨rfl,rfl⟩⟩,.inl ⟨_,rfl,.inl ⟨rfl,rfl⟩⟩,trivial⟩,bM u⟩
    ·have t:¬0<=p+d:=t;refine u4 (uo false) rfl (fun _=>⟨rfl,?_⟩) fun h=>by cases h
     rw[j,vz (fun h3=>t h3.1)]
   ·have am:¬k<n.toNat:=by omega
    have e:vM out f=nZ a bs:=by rw[<-e,show n.toNat-k=0 by omega];rfl
    exact qP [36] [1000] ⟨_,_,rfl,rfl,rfl,out,f,e.symm,rfl,rfl⟩
  ·refine u4 (uo false) rfl (fun _=>⟨rfl,?_⟩) fun h=>by cases h
   rw[m,Dc,vz (fun h3=>by omega)]
 ·refine u4 (uo false) rfl (fun _=>⟨rfl,?_⟩) fun h=>by cases h
  rw[m,Dc,vz (fun h3=>by omega)]
theorem GU {n:Int}{l b r:List UInt8}(h:takeD n l=some (b,r)):(b.length:Int)=n/\l=b++r:=by
 unfold takeD at h;split at h
 case isFalse=>cases h
 rename_i k;injection h with h
 injection h with h1 h2
 subst h1 h2;refine⟨?_,(List.take_append_drop _ _).symm⟩;rw[aaC];omega
theorem nA {c b:Type}{f:Dec c}{k:c->Dec b}{l r:List UInt8}{y:b}(h:fV f k l=some (y,r)):∃x a,f l=some (x,a)/\k x a=some (y,r):=by
 unfold fV at h;split at h
 ·cases h
 ·rename_i x a e;exact⟨x,a,e,h⟩
theorem Ab (size:Nat):∀(n:Nat) (p:Int) (out:List UInt8) (bs:List UInt8) (o r:List UInt8),out.length=size->uj size n p out bs=some (o,r)->o.length=size
 | 0,p,out,bs,o,r,a,h=>by
  have h:some (out,bs)=some (o,r):=h;injection h with h;injection h with h _;rw[<-h,a]
 | n+1,p,out,bs,o,r,a,h=>by
  rw[uj] at h;obtain⟨d,j,_,h⟩:=nA h;split at h
  case isFalse=>cases h
  rename_i f;obtain⟨b,e,hb,h⟩:=nA h;have c:=(GU hb).1;have hi:32*(p+d).toNat<out.length:=by rw[a];exact Bv (by omega)
  refine Ab size n _ _ _ o r ?_ h;rw[oM,a];have:(cK out (p+d).toNat).length<=out.length-32*(p+d).toNat:=by
   unfold cK;rw[aaC,aa2];omega
  omega
theorem Kg {a bs o r:List UInt8}(h:nZ a bs=some (o,r)):o.length<=a.length+bs.length:=by
 obtain⟨s,q,b,h⟩:=nA h;obtain⟨f,n,e,h⟩:=nA h;obtain⟨c,p,d,h⟩:=nA h;have j:=(mH b).2;have m:=(mH e).2;have l:=(mH d).2;unfold Dc at h;split at h
 case isFalse=>cases h
 rename_i k;have:=Ab _ _ _ _ _ o r (ul a s.toNat) h;omega
def QB (bs:List UInt8) (o:C):List TO:=[.box 86 [.own 1001 0],RB bs,.box 35 [o]]
theorem Zn (a bs:List UInt8) (d:a.length<=268435456) (hb:bs.length<=268435456):CallsTX PZ 45 [.own 1000 0,.pt [.sl (af a)] 0,.own 1002 0] (QB bs .nils)
  (fun Mo c=>∃out r,nZ a bs=some (out,r)/\Mo=QB r (.sl (af out))/\c=.tup []) (fun v=>v=fL/\nZ a bs=none):=by
 refine aq Tryz.func45 Mq rfl fun f b=>?_;refine bW [1001] (Zm a bs d hb) rfl rfl rfl rfl (fun v h=>h) ?_;rintro v Mo ⟨out,r,e,rfl,rfl⟩ _ _;refine⟨rfl,?_⟩;exact dz [1000,1001,1002] rfl rfl rfl rfl ⟨out,r,e,rfl,rfl⟩
def Ss (Mo:List TO):Prop:=∃c b a,Mo=[.win 86 c [] [],.win 88 b [] [],.win 35 a [] []]
def Sv (Mo:List TO):Prop:=∃a d c b,Mo=[.win 86 a [] [],.win 88 d [] [],.win 3 c [] [],.win 3 b [] []]
theorem WC (a bs:List UInt8) (m:a.length<=268435456) (hb:bs.length<=268435456) :
  CallsT PZ 33 [.fn 45 [] [.own 1000 0,.pt [.sl (af a)] 0,.own 1002 0]] (QB bs .nils) (fun Mo c=>(∃out r,nZ a bs=some (out,r)/\Mo=QB r (.sl (af out))/\c=.bool true)\/(nZ a bs=none/\Ss Mo/\c=.bool false)):=by
 have h:CallsT PZ 33 [.fn 45 [] [.own 1000 0,.pt [.sl (af a)] 0,.own 1002 0]] (QB bs .nils) (fun Mo c=>(∃out r,nZ a bs=some (out,r)/\Mo=QB r (.sl (af out))/\c=.bool true)\/(nZ a bs=none/\rW (QB bs .nils) Mo/\c=.bool false)):=by
  refine ig (PS:=fun v=>v=fL/\nZ a bs=none) (ns:=[1]) (out:=Ka) Tryz.func33 wk (pQ.mono wz fun v h=>h.1) (fun v h=>rfl) rfl rfl ?_ fun q e=>?_
  ·rintro v ⟨rfl,h⟩;refine⟨.bool false,.bool false,?_,?_,fun Mo o=>.inr ⟨h,o,rfl⟩⟩
   ·intro L ρ k;obtain⟨l,g,t,n⟩:=k 0 2 _ rfl rfl;simp only[lR,l,n];rfl
   ·intro F L;rw[Rel]
  refine⟨rfl,?_⟩;refine bW [1000,1001,1002] (Zn a bs m hb) rfl rfl rfl rfl (fun v h=>h) ?_;rintro v Mo ⟨out,r,b,rfl,rfl⟩ _ _;refine⟨rfl,?_⟩;exact dz [1000,1001,1002] rfl rfl rfl rfl (.inl ⟨out,r,b,rfl,rfl⟩)
 refine((h.toX (Pp:=fun _=>False)).view (vw.refl _) (fun Mo c d=>?_) fun _ h=>h).noPan;rcases d with h | ⟨b,⟨j,M1,rfl,f,M2,rfl,p,M3,rfl,rfl⟩,rfl⟩
 ·exact⟨Mo,vw.refl _,.inl h⟩
 ·exact⟨_,vw.cons (js j) (vw.cons (js f) (vw.cons (js p) (vw.refl []))),.inr ⟨b,⟨_,_,_,rfl⟩,rfl⟩⟩
theorem WD (bs:List UInt8) :
  CallsT PZ 33 [.fn 43 [] [.own 1000 0,.own 1002 0,.own 1003 0]] (PB bs 0 0) (fun Mo c=>(∃x y r,rN bs=some ((x,y),r)/\Mo=PB r x y/\c=.bool true)\/(rN bs=none/\Sv Mo/\c=.bool false)):=by
 have h:CallsT PZ 33 [.fn 43 [] [.own 1000 0,.own 1002 0,.own 1003 0]] (PB bs 0 0) (fun Mo c=>(∃x y r,rN bs=some ((x,y),r)/\Mo=PB r x y/\c=.bool true)\/(rN bs=none/\rW (PB bs 0 0) Mo/\c=.bool false)):=by
  refine ig (PS:=fun v=>v=fL/\rN bs=none) (ns:=[1]) (out:=Ka) Tryz.func33 wk (pQ.mono wz fun v h=>h.1) (fun v h=>rfl) rfl rfl ?_ fun p d=>?_
  ·rintro v ⟨rfl,h⟩;refine⟨.bool false,.bool false,?_,?_,fun Mo n=>.inr ⟨h,n,rfl⟩⟩
   ·intro L ρ j;obtain⟨l,g,t,m⟩:=j 0 2 _ rfl rfl;simp only[lR,l,m];rfl
   ·intro F L;rw[Rel]
  refine⟨rfl,?_⟩;refine bW [1000,1001,1002,1003] (Zl bs) rfl rfl rfl rfl (fun v h=>h) ?_;rintro v Mo ⟨x,y,r,a,rfl,rfl⟩ _ _;refine⟨rfl,?_⟩;exact dz [1000,1001,1002,1003] rfl rfl rfl rfl (.inl ⟨x,y,r,a,rfl,rfl⟩)
 refine((h.toX (Pp:=fun _=>False)).view (vw.refl _) (fun Mo c b=>?_) fun _ h=>h).noPan;rcases b with h | ⟨a,⟨f,M1,rfl,e,M2,rfl,o,M3,rfl,k,M4,rfl,rfl⟩,rfl⟩
 ·exact⟨Mo,vw.refl _,.inl h⟩
 ·exact⟨_,vw.cons (js f) (vw.cons (js e) (vw.cons (js o) (vw.cons (js k) (vw.refl [])))),.inr ⟨a,⟨_,_,_,_,rfl⟩,rfl⟩⟩
def qV (a d:List UInt8):List UInt8×Int :=
 match rN d with
 | none=>([],16)
 | some ((n,s),r)=>if n≠a.length\/s≠kH a then([],17)
  else match nZ a r with
   | some (out,_)=>if eH a out=d then(out,0) else([],16)
   | none=>([],16)
end Go.Fr.Tryz
namespace Go.Fr.Tryz
open Go Go.Fr.T
theorem ofNat_toNat {n:Nat}(h:n<256):(UInt8.ofNat n).toNat=n:=by
 rw[UInt8.toNat_ofNat'];omega
theorem yt {f k z m:Nat}{r:List UInt8}(a:m<128) (b:0<m\/k=0):lM (f+1) k z (bP m++r)=some (G6 (z+m*128 ^ k),r):=by
 rw[bP,dif_pos a];simp only[aay,aaP,lM];rw[ofNat_toNat (by omega),o6 a,o6 b]
theorem Eo {f k z m:Nat}{r:List UInt8}(a:¬m<128):lM (f+1) k z (bP m++r)=lM f (k+1) (z+m % 128*128 ^ k) (bP (m / 128)++r):=by
 rw[bP,dif_neg a];simp only[aay,lM];rw[ofNat_toNat (by omega),vz (by omega),Nat.add_sub_cancel_left]
theorem GV (m k:Nat):m % 128*128 ^ k+m / 128*128 ^ (k+1)=m*128 ^ k:=by
 have h:m % 128+128*(m / 128)=m:=Nat.mod_add_div m 128;have e:128 ^ (k+1)=128*128 ^ k:=by rw[Nat.pow_succ,Nat.mul_comm]
 rw[e,<-Nat.mul_assoc,Nat.mul_comm (m / 128) 128,<-Nat.add_mul,h]
theorem yu:∀(f k z m:Nat) (r:List UInt8),(0<m\/k=0)->m<128 ^ (f+1)->lM (f+1) k z (bP m++r)=some (G6 (z+m*128 ^ k),r)
 | 0,k,z,m,r,a,h=>yt (by simpa using h) a
 | f+1,k,z,m,r,a,h=>by
  by_cases b:m<128
  ·exact yt b a
  ·rw[Eo b,yu f (k+1) _ (m / 128) r (.inl (by omega)) (by rw[Nat.pow_succ] at h;omega),Nat.add_assoc,GV]
theorem Qp (n:Int):G6 (zz n)=n:=by
 unfold G6 zz;split<;>split<;>omega
theorem lO (n:Int) (r:List UInt8) (b:-1099511627776<=n) (a:n<=1099511627776):getD (bP (zz n)++r)=some (n,r):=by
 have h:=yu 5 0 0 (zz n) r (.inr rfl) (Nat.lt_of_le_of_lt (Oc n 1099511627776 (by omega) (by omega)) (by decide));unfold getD;rw[h];simp only[Nat.pow_zero,Nat.mul_one,Nat.zero_add,Qp]
theorem GW (b r:List UInt8):takeD ((b.length:Nat):Int) (b++r)=some (b,r):=by
 unfold takeD;rw[o6 ⟨by omega,by rw[aak];omega⟩];simp
theorem qW (x:List UInt8) (i t:Nat):(cK x i)[t]?=if t<32 then x[32*i+t]? else none:=by
 unfold cK;rw[aaN];split
 ·rw[aaL]
 ·rfl
theorem jc (x:List UInt8) (i:Nat):(cK x i).length=min 32 (x.length-32*i):=by
 unfold cK;rw[aaC,aa2]
theorem GX {x y:List UInt8}(a:x.length=y.length) (h:∀i<fq y.length,cK x i=cK y i):x=y:=by
 apply aaR;intro j
 by_cases b:j<y.length
 ·have:=j3 (fun l:List UInt8=>l[j % 32]?) (h (j / 32) (by unfold fq;omega));simp only[qW] at this;rw[o6 (by omega),o6 (by omega),show 32*(j / 32)+j % 32=j by omega] at this;exact this
 ·rw[aar (by omega),aar (by omega)]
theorem FH {out b:List UInt8}{o:Nat}(h:o+b.length<=out.length) (j:Nat):(qU out o b)[j]?=if o<=j/\j<o+b.length then b[j-o]? else out[j]?:=by
 unfold qU;rw[aan,List.getElem?_append];have c:(out.take o).length=o:=by rw[aaC];omega
 rw[c];split
 ·rename_i a;rw[vz (by omega),aaN,o6 a]
 ·rename_i a;rw[List.getElem?_append];split
  ·rename_i d;rw[o6 (by omega)]
  ·rename_i d;rw[vz (by omega),aaL];congr 1;omega
theorem Kh {out b:List UInt8}{i:Nat}(f:out.length=b.length) (hi:32*i<b.length) (j:Nat):cK (qU out (32*i) (cK b i)) j=if j=i then cK b i else cK out j:=by
 have e:=jc b i;have c:32*i+(cK b i).length<=out.length:=by omega
 apply aaR;intro t;rw[qW,FH c]
 by_cases d:j=i
 ·subst d;rw[o6 rfl]
  by_cases a:t<32
  ·rw[o6 a]
   by_cases h:32*j+t<b.length
   ·rw[o6 (by omega),show 32*j+t-32*j=t by omega]
   ·rw[vz (by omega),aar (by omega),aar (by omega)]
  ·rw[vz a,aar (by omega)]
 ·rw[vz d,qW out]
  by_cases a:t<32
  ·rw[o6 a,o6 a,vz (by omega)]
  ·rw[vz a,vz a]
def Up:Int->List Nat->Prop
 | _,[]=>True
 | p,i::l=>p<i/\Up i l
theorem FI (b:List UInt8) (hb:b.length<=268435456):∀(l:List Nat) (p:Int) (out:List UInt8),-1<=p->Up p l->(∀i∈l,i<fq b.length)->p<=1073741824->out.length=b.length ->
  (∀i<fq b.length,i∉l->cK out i=cK b i)->uj b.length l.length p out (yG b p l)=some (b,[])
 | [],p,out,_,_,_,_,c,h=>by
  have:out=b:=GX c fun i hi=>h i hi (by simp);rw[this];rfl
 | i::l,p,out,s,m,n,o,c,h=>by
  have f:=n i (by simp);have hi:=Bv f;have r:fq b.length<=1073741824:=by unfold fq;omega
  have a:(cK out i).length=(cK b i).length:=by rw[jc,jc,c]
  show fV getD _ (bP (zz (i-p))++(cK b i++yG b i l))=_;rw[au (lO (i-p) _ (by have:=m.1;omega) (by omega))];have e:p+((i:Int)-p)=i:=by omega
  rw[e];rw[o6 ⟨by omega,by omega⟩];rw[show((i:Int)).toNat=i from rfl,a,au (GW _ _)];refine FI b hb l i _ (by omega) m.2 (fun j k=>n j (by simp[k])) (by omega) ?_ fun j k q=>?_
  ·rw[oM (by have:=jc b i;omega),c]
  ·rw[Kh c hi];split
   ·rename_i e;rw[e]
   ·rename_i d;exact h j k (by simp[d,q])
theorem yw (f:Nat->Bool):∀(n m:Nat) (p:Int),p<m->Up p ((List.range' m n).filter f)
 | 0,m,p,h=>by simp[Up]
 | n+1,m,p,h=>by
  rw[List.range'_succ,List.filter_cons];split
  ·exact⟨h,yw f n (m+1) m (by omega)⟩
  ·exact yw f n (m+1) p (by omega)
theorem Qq (a b:List UInt8):Up (-1) (kT a b):=by
 unfold kT;rw[List.range_eq_range'];exact yw _ _ 0 (-1) (by omega)
theorem Nq {x y:List UInt8}(h:x <+: y) {t:Nat}(a:t<x.length):y[t]?=x[t]?:=by
 obtain⟨s,rfl⟩:=h;rw[aap a]
theorem GY (a b:List UInt8) (i:Nat) (h:cK b i <+: cK a i):cK (Bu a b.length) i=cK b i:=by
 apply aaR;intro t;have f:(a.take b.length).length<=b.length:=by rw[aaC];omega
 rw[qW]
 by_cases d:t<(cK b i).length
 ·have e:=Nq h d;have c:=jc b i;rw[<-e,qW,o6 (by omega),o6 (by omega)];unfold Bu;have j:32*i+t<a.length:=by
   have:=h.length_le;have:=jc a i;omega
  rw[FH (by simp;omega),o6 (by rw[aaC];omega),Nat.sub_zero,aaN,o6 (by omega)]
 ·have c:=jc b i;rw[aar (by omega:(cK b i).length<=t)];split
  ·rw[aar (by rw[ul];omega)]
  ·rfl
def um (b:List UInt8):List Nat->Nat
 | []=>0
 | i::l=>(cK b i).length+um b l
theorem FJ (b:List UInt8):∀(p:Int) (l:List Nat),um b l+l.length<=(yG b p l).length
 | p,[]=>by simp[um,yG]
 | p,i::l=>by
  have c:=FJ b i l;have a:=j9 (zz (i-p));simp only[um,yG,aak,aau];omega
theorem Df (b:List UInt8):∀(l m:List Nat),um b (l++m)=um b l+um b m
 | [],m=>by simp[um]
 | i::l,m=>by simp only[aay,um,Df b l m];omega
theorem Ad (a b:List UInt8):∀k:Nat,min (32*k) b.length<=min (32*k) a.length+um b ((List.range k).filter (s6 a b))
 | 0=>by simp
 | k+1=>by
  have f:=Ad a b k;have hb:=jc b k;rw[List.range_succ,List.filter_append,Df];cases e:s6 a b k with
  | true =>
   simp only[List.filter_cons,e,aaD,List.filter_nil,um];omega
  | false =>
   have h:cK b k <+: cK a k:=by simpa[s6] using e
   have c:=h.length_le;have d:=jc a k;simp only[List.filter_cons,e,List.filter_nil];simp only[aaq,aaO,um];omega
theorem Nr (a b:List UInt8):b.length<=a.length+(yG b (-1) (kT a b)).length:=by
 have f:=Ad a b (fq b.length);have d:=FJ b (-1) (kT a b);have c:b.length<=32*fq b.length:=by unfold fq;omega
 have e:um b ((List.range (fq b.length)).filter (s6 a b))=um b (kT a b):=rfl;omega
theorem Ae (a b:List UInt8) (d:a.length<=268435456):rN (eH a b)=some (((a.length:Int),kH a),lY [(b.length:Int),kH b,((kT a b).length:Int)]++yG b (-1) (kT a b)):=by
 have c:=lW a;have e:eH a b=bP (zz (a.length:Int))++(bP (zz (kH a))++(lY [(b.length:Int),kH b,((kT a b).length:Int)]++yG b (-1) (kT a b))):=by
  simp only[eH,qQ,lY,aan]
 unfold rN;rw[e,au (lO _ _ (by omega) (by omega)),au (lO _ _ (by omega) (by omega))];rfl
theorem Dg (a b:List UInt8) (d:a.length<=268435456) (hb:b.length<=268435456):qV a (eH a b)=(b,0):=by
 have l:=lW b;have c:(kT a b).length<=268435456:=by have:=Fz a b;unfold fq at this;omega
 have f:nZ a (lY [(b.length:Int),kH b,((kT a b).length:Int)]++yG b (-1) (kT a b))=some (b,[]):=by
  have e:lY [(b.length:Int),kH b,((kT a b).length:Int)]++yG b (-1) (kT a b)=bP (zz (b.length:Int))++(bP (zz (kH b))++(bP (zz ((kT a b).length:Int))++yG b (-1) (kT a b))):=by
   simp only[lY,aan,aaP]
  unfold nZ;rw[e,au (lO _ _ (by omega) (by omega)),au (lO _ _ (by omega) (by omega)),au (lO _ _ (by omega) (by omega))];unfold Dc;have k:=Nr a b;rw[o6 ⟨⟨by omega,by omega⟩,by omega⟩];refine FI b hb (kT a b) (-1) (Bu a b.length) (by omega) (Qq a b) (fun i hi=>Ej hi) (by omega) (ul a b.length) fun i hi j=>?_;refine GY a b i ?_;have:¬(s6 a b i=true):=fun h=>j (by simp only[kT,List.mem_filter,List.mem_range];exact⟨hi,h⟩);simpa[s6] using this
 unfold qV;rw[Ae a b d];simp only[];rw[vz (by simp),f];simp
theorem Dh (c a b:List UInt8) (d:a.length<=268435456) (h:a.length≠c.length\/kH a≠kH c):qV c (eH a b)=([],17):=by
 unfold qV;rw[Ae a b d];simp only[];rw[o6 (by rcases h with h | h;exact .inl (by omega);exact .inr h)]
end Go.Fr.Tryz
namespace Go.Fr.Tryz
open Go Go.RowKit Go.Proofs Go.Fr Go.Fr.T Go.Fr.Api Go.Fr.Dm
def s9:Wd:=⟨[⟨true,-1,.mk 2 2 0 0 [] false [] []⟩],[],[⟨0,[⟨1,0,0,0,0,[.mk 1 0 0 (-3) [] false [] [],.mk 6 0 0 0 [] true [0,-1] [0]],[4,5]⟩],[⟨0,1,false,true,false⟩],0,6,2,[]⟩],[[]],[⟨0,7⟩],1,0,0⟩
theorem WE:CallsT PZ 20 [] [] (iD [] (.agg (qb [] [] 0 s9))):=by
 refine aj Tryz.func20 Mb rfl fun a _=>?_;exact aK rfl rfl
theorem yx {z:Nat}(h:z<128):bP z=[UInt8.ofNat z]:=by rw[bP,dif_pos h]
def ku:List UInt8:=[76,83,1,0,0,0,0,0,0,0,0]
theorem WG:mF w0=ku++qa ku:=by
 have h:rE kW w0=([0,0,0,0,0,0,0,0],true):=by
  simp[w0,rE,bQ,aS,bn,QI,kW,zz,yx]
 simp[mF,h,gQ,dc,ku]
def qN:List UInt8:=[2,2,1,4,4,0,0,0,0,0,0,0,2,0,2,2,0,0,0,0,4,2,0,0,5,0,0,0,0,12,0,0,0,0,2,4,0,1,2,0,4,8,10,2,0,2,0,2,0,0,12,4,0,2,0,2,0,14,2,0,0]
theorem Ki:rE kW s9=(qN,true):=by
 simp[s9,qN,rE,bQ,aS,bn,QI,kW,zz,yx,QJ,Rw,oH,QM,QK,QL,P1,Rv,vD,rZ,Bk,Bj]
theorem Sw:mF s9=gQ (dc++qN):=by
 unfold mF;rw[Ki,o6 rfl]
theorem WH:nX qN=some s9:=by rfl
theorem GZ (b:List UInt8):(gQ b).take ((gQ b).length-4)=b:=by
 have h:(gQ b).length-4=b.length:=by simp[gQ,qa]
 rw[h];simp[gQ]
theorem Kj (x:List UInt8):s8 (gQ (dc++x))=match nX x with | some y=>(some y,0) | none=>(none,16):=by
 have a:¬(gQ (dc++x)).length<7:=by simp[gQ,qa,dc]
 have c:dc <+: gQ (dc++x):=⟨x++qa (dc++x),by simp[gQ]⟩;have b:(dc++x).drop 3=x:=by simp[dc]
 unfold s8;rw[vz (fun h=>h.elim a (fun h=>h c)),GZ,vz (fun h=>h rfl),b];cases nX x<;>rfl
theorem WI:s8 (mF s9)=(some s9,0):=by rw[Sw,Kj,WH]
def yj:List UInt8:=ku++[0,0,0,0]
theorem WJ:s8 yj=(none,17):=by
 have c:yj.take (yj.length-4)=ku:=rfl;have b:¬gQ ku=yj:=by
  intro h;have a:qa ku=[0,0,0,0]:=by
   have:=List.append_cancel_left (h:ku++qa ku=ku++[0,0,0,0]);exact this
  exact vv a (by decide)
 unfold s8;rw[vz (fun h=>h.elim (by decide) (fun h=>h ⟨[0,0,0,0,0,0,0,0,0,0,0,0],rfl⟩)),c,o6 b]
def ep:List UInt8:=List.replicate 40 1
def qX:List UInt8:=ep.set 39 2
theorem WK:kT ep qX=[1]:=by decide
theorem Qr:kH ep≠kH qX:=by decide
theorem Kk:eH ep qX=bP (zz 40)++bP (zz (kH ep))++bP (zz 40)++bP (zz (kH qX))++[2,4]++[1,1,1,1,1,1,1,2]:=by
 have f:bP (zz 1)=[2]:=yx (by decide);have d:bP (zz (((1:Nat):Int) - -1))=[4]:=yx (by decide);have b:cK qX 1=[1,1,1,1,1,1,1,2]:=by decide
 have e:(ep.length:Int)=40:=by decide
 have a:(qX.length:Int)=40:=by decide
 have c:(([1]:List Nat).length:Int)=1:=rfl;simp only[eH,qQ,WK,lY,yG,e,a,c,f,d,b,aan,aaA,aaP,aay]
theorem pat1:qV ep (eH ep qX)=(qX,0):=Dg _ _ (by decide) (by decide)
theorem pat2:qV qX (eH ep qX)=([],17):=Dh qX ep qX (by decide) (.inr Qr)
def Xb:G7:=⟨[],[],0⟩
def QR:G7:=⟨[],[],5⟩
theorem Sy:El QR QR s9 s9=true:=by unfold El;rw[<-dh rfl];simp
theorem Sz:El QR Xb s9 s9=false:=by
 unfold El;rw[<-aC (by intro h;injection h with _ _ h;cases h)];rfl
theorem WL:Fw w0:=by simp[Fw,w0]
theorem Kl:Fw s9:=by simp[Fw,s9,SW,VY,VX,vsB,Ea,CV]
theorem Qs {a d:List UInt8}(h:rN d=none):qV a d=([],16):=by unfold qV;rw[h]
theorem Qt {a d r:List UInt8}{n s:Int}(h:rN d=some ((n,s),r)) (k:n≠a.length\/s≠kH a):qV a d=([],17):=by
 unfold qV;rw[h];simp only[];rw[o6 k]
theorem Qu {a d r:List UInt8}{n s:Int}(h:rN d=some ((n,s),r)) (b:n=a.length) (c:s=kH a) (e:nZ a r=none):qV a d=([],16):=by
 unfold qV;rw[h];simp only[];rw[vz (fun k=>k.elim (fun k=>k b) (fun k=>k c)),e]
theorem Qv {a d r c out:List UInt8}{n s:Int}(h:rN d=some ((n,s),r)) (b:n=a.length) (f:s=kH a) (e:nZ a r=some (out,c)):qV a d=if eH a out=d then(out,0) else([],16):=by
 unfold qV;rw[h];simp only[];rw[vz (fun k=>k.elim (fun k=>k b) (fun k=>k f)),e]
theorem Km {d r:List UInt8}{p:Int×Int}(h:rN d=some (p,r)):r.length<=d.length:=by
 obtain⟨x,j,a,h⟩:=nA h;obtain⟨y,b,c,h⟩:=nA h;have e:=(mH a).2;have f:=(mH c).2;have h:some ((x,y),b)=some (p,r):=h;injection h with h;injection h with _ h
 rw[<-h];omega
set_option maxRecDepth 20000 in
theorem Xc (a d:List UInt8) (ha:a.length<=268435456) (hb:d.length<=268435456) :
  CallsT PZ 12 [.sl (af a),.sl (af d)] [] (iD [] (.tup [.sl (af (qV a d).1),IC (qV a d).2])):=by
 have h:(af a).length=a.length:=aM;have y:=WD d;have o:=@Qs a d;have k:=@Qt a d;have l:=@Qu a d;have p:=@Qv a d;have w:=@Km d;generalize qV a d=pd at o k l p ⊢;refine aj Tryz.func12 L5 rfl fun hw q=>?_;refine Bs [6,12,7,8] y rfl rfl rfl rfl ?_;rintro v Mo (⟨n,s,r,f,rfl,rfl⟩ | ⟨f,⟨t,x,u,p4,rfl⟩,rfl⟩) _ _
 ·refine⟨rfl,?_⟩;have ac:=w f;have h2:=WC a r ha (by omega);refine ah (fun b=>?_) (fun b=>?_)
  ·have b:(!decide (n=((af a).length:Int)))=true:=b;have b:n≠a.length:=by rw[h] at b;simpa using b
   exact aK rfl (by rw[k f (.inl b)];rfl)
  have b:(!decide (n=((af a).length:Int)))=false:=b;have b:n=a.length:=by rw[h] at b;simpa using b
  refine dW (QN a) rfl fun _=>?_;refine ah (fun c=>?_) (fun c=>?_)
  ·have c:(!decide (s=kH a))=true:=c;exact aK rfl (by rw[k f (.inr (by simpa using c))];rfl)
  have c:(!decide (s=kH a))=false:=c;have c:s=kH a:=by simpa using c
  refine Bs [6,12,9] h2 rfl rfl rfl rfl ?_;rintro v Mo (⟨out,r',j,rfl,rfl⟩ | ⟨j,⟨t,x,u,rfl⟩,rfl⟩) _ _
  ·refine⟨rfl,?_⟩;have z:=Kg j;refine bA (W8 a out (by omega) (by omega)) rfl fun _=>?_;refine bA (t31 (eH a out) d) rfl fun _=>?_;have m:=p f b c j;refine ah (fun e=>?_) (fun e=>?_)
   ·have e:(!decide (eH a out=d))=true:=e;exact aK rfl (by rw[m,vz (by simpa using e)];rfl)
   ·have e:(!decide (eH a out=d))=false:=e;exact aK rfl (by rw[m,o6 (by simpa using e)];rfl)
  ·refine⟨rfl,?_⟩;exact aK rfl (by rw[l f b c j];rfl)
 ·refine⟨rfl,?_⟩;exact aK rfl (by rw[o f];rfl)
theorem WM:¬(true=false):=by decide
theorem Xd (a b:List UInt8):af a++af b=af (a++b):=by simp[af]
set_option maxRecDepth 100000 in
theorem t7:CallsT PZ 7 [] [] (iD [] (.bool true)):=by
 have aa:CallsT PZ 14 [.agg (qb [] [] 0 w0)] [] (iD [.row 5 1 (af (mF w0))] (.rw 1000)):=V7 [] [] 0 w0 WL (by
  have:rE kW w0=([0,0,0,0,0,0,0,0],true):=by simp[w0,rE,bQ,aS,bn,QI,kW,zz,yx]
  rw[this];decide)
 have j:CallsT PZ 14 [.agg (qb [] [] 0 s9)] [] (iD [.row 5 1 (af (mF s9))] (.rw 1000)):=V7 [] [] 0 s9 Kl (by rw[Ki];decide);have aw:(mF s9).length<=70368744177664:=by rw[Sw];simp[gQ,qa,dc,qN]
 have t:CallsT PZ 10 [.agg [.sl [],.sl [],IC 5],.sl (af (mF s9))] [] (iD [] (.tup [.agg (qb [] [] 5 s9),IC 0])):=by
  have:=Wg [] [] 5 (mF s9) aw;rw[WI] at this;exact this
 have z:CallsT PZ 10 [.agg [.sl [],.sl [],IC 0],.sl (af yj)] [] (iD [] (.tup [.agg (qb [] [] 0 w0),IC 17])):=by
  have:=Wg [] [] 0 yj (by decide);rw[WJ] at this;exact this
 have d:=WG;generalize mF w0=l at aa d;have a:(af ep).set 39 [jo 2]=af qX:=by simp[af,qX,List.map_set]
 have h8:CallsT PZ 18 [.sl (af ep),.sl ((af ep).set 39 [jo 2])] [] (iD [] (.sl (af (eH ep qX)))):=by
  rw[a];exact W8 ep qX (by decide) (by decide)
 have c:(eH ep qX).length<=268435456:=by
  have q1:=nu (kH ep) (by have:=lW ep;omega) (by have:=lW ep;omega);have q2:=nu (kH qX) (by have:=lW qX;omega) (by have:=lW qX;omega);have q3:(bP (zz 40)).length<=10:=nu 40 (by omega) (by omega);rw[Kk];simp only[aak,aau,aaQ];omega
 have h7:CallsT PZ 12 [.sl (af ep),.sl (af (eH ep qX))] [] (iD [] (.tup [.sl (af qX),IC 0])):=by
  have:=Xc ep (eH ep qX) (by decide) c;rw[pat1] at this;exact this
 have k:CallsT PZ 12 [.sl ((af ep).set 39 [jo 2]),.sl (af (eH ep qX))] [] (iD [] (.tup [.sl (af []),IC 17])):=by
  have:=Xc qX (eH ep qX) (by decide) c;rw[pat2] at this;rw[a];exact this
 have m:CallsT PZ 23 [.sl ((af ep).set 39 [jo 2])] [] (iD [] (IC (kH qX))):=by rw[a];exact QN qX
 have b:=Kk;have b1:=lW ep;have b2:=lW qX;have k1:CallsT PZ 22 [IC 40] [] (iD [.row 5 1 (af (bP (zz 40)))] (.rw 1000)):=t22 40 (by omega) (by omega);have k2:=t22 (kH ep) (by omega) (by omega);have k3:=t22 (kH qX) (by omega) (by omega);have m1:(bP (zz 40)).length<=10:=nu 40 (by omega) (by omega);have m2:=nu (kH ep) (by omega) (by omega);have m3:=nu (kH qX) (by omega) (by omega);have e:(uh s9).length<=70368744177664:=aa1 (aav (by kernel_rfl:Nat.ble (uh s9).length 100000=true)) (by decide);have y:CallsT PZ 17 [.agg (qb [] [] 5 s9),.agg (qb [] [] 5 s9)] [] (iD [] (.bool true)):=by
  have:=Xa QR QR s9 s9 Kl Kl e e;rw[Sy] at this;exact this
 have v:CallsT PZ 17 [.agg (qb [] [] 5 s9),.agg (qb [] [] 0 s9)] [] (iD [] (.bool false)):=by
  have:=Xa QR Xb s9 s9 Kl Kl e e;rw[Sz] at this;exact this
 have n:rO ⟨l.toArray⟩ ⟨(ku++qa ku).toArray⟩=true:=by rw[nL,d];simp
 have ab:∀x:List UInt8,rO ⟨x.toArray⟩ ⟨x.toArray⟩=true:=fun x=>by rw[nL];simp
 generalize bP (zz 40)=v1 at k1 m1 b c;generalize bP (zz (kH ep))=p at k2 m2 b c;generalize bP (zz (kH qX))=v3 at k3 m3 b c;generalize eH ep qX=s at h8 h7 k b;generalize mF s9=ebE at j t;have o:CallsT PZ 21 [IC 40,jo 1] [] (iD [.row 5 1 (af ep)] (.rw 1000)):=t21 40 1 (by decide);have q:=QN ep;have w:(af ep).length=40:=by rw[aM];rfl
 have f:(af ep)[39]?=some [jo 1]:=rfl;have r:=Zg ku
 clear c
 have ar:(qa ku).length=4:=rfl;generalize qa ku=d4 at d n r ar;obtain⟨zd,ao,ax⟩:∃zd,af ku++af d4=af zd/\rO ⟨l.toArray⟩ ⟨zd.toArray⟩=true:=⟨ku++d4,Xd _ _,n⟩
 clear d n
 generalize kH ep=n1 at q k2 b1;generalize kH qX=n2 at m k3 b2;generalize qX=tb at a h7;generalize ep=fb at o q w f a h8 h7 k m;have u:af v1++af p++af v1++af v3++af [2,4]++af [1,1,1,1,1,1,1,2]=af s:=by rw[b];simp only[Xd]
 obtain⟨d2,an,az⟩:∃d2,af v1++af p++af v1++af v3++af [2,4]++af [1,1,1,1,1,1,1,2]=af d2/\rO ⟨s.toArray⟩ ⟨d2.toArray⟩=true:=⟨s,u,ab s⟩;obtain⟨t2,aE,av⟩:∃t2,(af fb).set 39 [jo 2]=af t2/\rO ⟨tb.toArray⟩ ⟨t2.toArray⟩=true:=⟨tb,a,ab tb⟩
 clear b u
 refine aj Tryz.func7 PJ rfl fun hw _=>?_;refine callO [] [19] aa rfl rfl rfl rfl rfl fun _ _=>?_;refine bA WE rfl fun _=>?_;refine callO [] [23] j rfl rfl rfl rfl rfl fun _ _=>?_;refine vu [23] [] [] t ⟨_,rfl,rfl,rfl,rfl,rfl,fun _ _=>?_⟩;refine bA WE rfl fun _=>?_;refine⟨Nat.succ_pos 3,gA (bs:=ku),?_⟩;refine rM (bs:=[0,0,0,0]) 11 rfl (by decide) ?_;refine vu [34] [] [] z ⟨_,rfl,rfl,rfl,rfl,rfl,fun _ _=>?_⟩;refine callO [] [38] o rfl rfl rfl rfl rfl fun _ _=>?_;refine callO [] [39] o rfl rfl rfl rfl rfl fun _ _=>?_;refine OA.mk (by decide) (by rw[w];decide) ?_;refine⟨rfl,?_⟩;refine J8 (es0:=[jo 1]) f rfl ?_;refine vu [38,39] [] [] h8 ⟨_,rfl,rfl,rfl,rfl,rfl,fun _ _=>?_⟩;refine bA h7 rfl fun _=>?_;refine bA k rfl fun _=>?_;refine callO [] [57] k1 rfl rfl rfl rfl rfl fun _ _=>?_;refine bA q rfl fun _=>?_;refine callO [] [60] k2 rfl rfl rfl rfl rfl fun _ _=>?_;refine rM (bs:=p) v1.length aM (by omega) ?_;refine callO [] [62] k1 rfl rfl rfl rfl rfl fun _ _=>?_;refine rM (bs:=v1) (v1.length+p.length) (y8 aM aM) (by omega) ?_;refine bA m rfl fun _=>?_;refine callO [] [66] k3 rfl rfl rfl rfl rfl fun _ _=>?_;refine rM (bs:=v3) (v1.length+p.length+v1.length) (y8 (y8 aM aM) aM) (by omega) ?_;refine rM (bs:=[2,4]) (v1.length+p.length+v1.length+v3.length) (y8 (y8 (y8 aM aM) aM) aM) (by simp only[aau,aaQ];omega) ?_;refine kN.mk ⟨l,rfl,?_⟩;refine⟨Nat.succ_pos 10,gA (bs:=[]),?_⟩;refine rM (bs:=ku) 0 rfl (by decide) ?_;refine dW r rfl fun _=>?_;refine rM (bs:=d4) 11 rfl (by omega) ?_;refine kN.mk ⟨zd,ao,?_⟩;refine ah (fun _=>?_) (fun h=>vv (ax.symm.trans h) WM);refine dW y rfl fun _=>?_;refine dW WE rfl fun _=>?_;refine dW v rfl fun _=>?_;refine kN.mk ⟨s,rfl,?_⟩;refine rM (bs:=[1,1,1,1,1,1,1,2]) (v1.length+p.length+v1.length+v3.length+2) (y8 (y8 (y8 (y8 aM aM) aM) aM) rfl) (by simp only[aau,aaQ];omega) ?_;refine kN.mk ⟨d2,an,?_⟩;refine ah (fun _=>?_) (fun h=>vv (az.symm.trans h) WM);refine kN.mk ⟨tb,rfl,?_⟩;refine kN.mk ⟨t2,aE,?_⟩;refine ah (fun _=>?_) (fun h=>vv (av.symm.trans h) WM);exact aK rfl rfl
end Go.Fr.Tryz
namespace Go.Fr.Tryz
open Go Go.RowKit Go.Proofs Go.Fr Go.Fr.T Go.Fr.Api
theorem kU {p:Prop}[Decidable p] (h:(!decide p)=true):¬p:=by simpa using h
theorem qY {p:Prop}[Decidable p] (h:(!decide p)=false):p:=by simpa using h
theorem vO {p:Prop}(h:(!GS p)=true):¬p:=kh (by simpa using h)
theorem vP {p:Prop}(h:(!GS p)=false):p:=jH (by simpa using h)
theorem Ep {a:Type}{f:a->List C}{l:List a}(h:Wf (.sl (l.map f))) {x:a}(b:x∈l):sK (f x):=by
 simp only[Wf] at h;exact Cw.1 h.2 _ (aaJ.2 ⟨x,b,rfl⟩)
theorem cq {a:Type}{f:a->List C}{l:List a}:(l.map f).length=l.length:=by simp
theorem y9 {l:List Int}:(rK l).length=l.length:=by simp[rK]
theorem gY {d c:Type}{f:d->List C}{g:c->List C}{a:List d}{b:List c}(h:(!decide (((a.map f).length:Int)=((b.map g).length:Int)))=false):a.length=b.length:=by
 have q:=qY h;rw[cq,cq] at q;omega
theorem Kn {a b:List Int}(h:(!decide (((rK a).length:Int)=((rK b).length:Int)))=false):a.length=b.length:=by
 have q:=qY h;rw[y9,y9] at q;omega
theorem jd {a b:Nat}(h:¬(a:Int)=b):¬a=b:=fun e=>h (by rw[e])
theorem Oi:∀(n:Nat) (x y:Ty),SizeOf.sizeOf x<n->dn 116 [C6 x,C6 y] (x=y)
 | 0,x,y,h=>vv h (by omega)
 | n+1,x,y,h=>by
  have ih:∀z∈x.args,∀w,dn 116 [C6 z,C6 w] (z=w):=fun z hz w=>Oi n z w (by have:=Oe hz;omega);refine aj Tryz.func116 Jc rfl fun v _=>?_;have p:Wf (.sl (x.args.map uY)):=by have h:=v.1;simp only[C6,Wf,sK] at h;exact h.2.2.1
  refine ah (fun r=>?_) (fun r=>?_)
  ·exact aK rfl (j3 C.bool (aC fun e=>(kU r) (by rw[e])))
  refine ah (fun s=>?_) (fun s=>?_)
  ·exact aK rfl (j3 C.bool (aC fun e=>(kU s) (by rw[e])))
  refine ah (fun o=>?_) (fun o=>?_)
  ·exact aK rfl (j3 C.bool (aC fun e=>(jd (by have q:=kU o;rwa [cq,cq] at q)) (by rw[e])))
  have o:=gY o;refine bF x.args.length 5 [] () (fun _=>[]) (fun _=>[]) (fun k _=>∀j<k,x.args[j]?=y.args[j]?) (fun j hj=>vv hj (by omega)) (ak rfl) trivial trivial (fun _=>rfl) (fun _=>rfl) ?_;rintro m ⟨⟩ al c _ _ _;refine aN (fun a=>?_) (fun f=>?_)
  ·have a:m<x.args.length:=by rw[cq] at a;omega
   have ae:=dL p;obtain⟨xA,b⟩:=bf a;obtain⟨yA,d⟩:=bf (l:=y.args) (k:=m) (by omega);refine zR b ?_;refine zR d ?_;refine dW (ih xA (aam b) yA) rfl fun _=>?_;refine ah (fun t=>?_) (fun t=>?_)
   ·exact aK rfl (j3 C.bool (aC fun e=>bY b d (vO t) (by rw[e])))
   refine Fit.ZA (by omega) (by omega) ?_;exact⟨(m+1,()),⟨a,bS c b d (vP t)⟩,⟨bL,trivial⟩,trivial,bM a⟩
  ·have f:¬m<x.args.length:=by rw[cq] at f;omega
   have u:x.args=y.args:=bR (n:=m) (by omega) (by omega) c;exact aK rfl (j3 C.bool (dh (Od (qY r) (qY s) u)))
theorem Qw (x y:Ty):dn 116 [C6 x,C6 y] (x=y):=Oi _ x y (abh _)
theorem Qx (a b:List Ty):dn 115 [.sl (a.map uY),.sl (b.map uY)] (a=b):=by
 refine aj Tryz.func115 Jb rfl fun u _=>?_;refine ah (fun p=>?_) (fun p=>?_)
 ·exact aK rfl (j3 C.bool (aC fun e=>(jd (by have q:=kU p;rwa [cq,cq] at q)) (by rw[e])))
 have p:=gY p;refine bF a.length 5 [] () (fun _=>[]) (fun _=>[]) (fun k _=>∀j<k,a[j]?=b[j]?) (fun j x=>vv x (by omega)) (ak rfl) trivial trivial (fun _=>rfl) (fun _=>rfl) ?_;rintro o ⟨⟩ y d _ _ _;refine aN (fun c=>?_) (fun m=>?_)
 ·have c:o<a.length:=by rw[cq] at c;omega
  have w:=dL u.1;obtain⟨v,h⟩:=bf c;obtain⟨t,f⟩:=bf (l:=b) (k:=o) (by omega);refine zR h ?_;refine zR f ?_;refine dW (Qw v t) rfl fun _=>?_;refine ah (fun r=>?_) (fun r=>?_)
  ·exact aK rfl (j3 C.bool (aC fun e=>bY h f (vO r) (by rw[e])))
  refine Fit.ZA (by omega) (by omega) ?_;exact⟨(o+1,()),⟨c,bS d h f (vP r)⟩,⟨bL,trivial⟩,trivial,bM c⟩
 ·have m:¬o<a.length:=by rw[cq] at m;omega
  have s:a=b:=bR (n:=o) (by omega) (by omega) d;exact aK rfl (j3 C.bool (dh s))
theorem Qy (a b:List Int):dn 117 [.sl (rK a),.sl (rK b)] (a=b):=by
 refine aj Tryz.func117 Jd rfl fun t _=>?_;refine ah (fun p=>?_) (fun p=>?_)
 ·exact aK rfl (j3 C.bool (aC fun e=>(jd (by have q:=kU p;rwa [y9,y9] at q)) (by rw[e])))
 have p:=Kn p;refine bF a.length 5 [] () (fun _=>[]) (fun _=>[]) (fun k _=>∀j<k,a[j]?=b[j]?) (fun j v=>vv v (by omega)) (ak rfl) trivial trivial (fun _=>rfl) (fun _=>rfl) ?_;rintro o ⟨⟩ w d _ _ _;refine aN (fun c=>?_) (fun m=>?_)
 ·have c:o<a.length:=by rw[y9] at c;omega
  have u:=(dL t.1:a.length<=_);obtain⟨y,h⟩:=bf c;obtain⟨x,f⟩:=bf (l:=b) (k:=o) (by omega);refine D6 h ?_;refine D6 f ?_;refine ah (fun r=>?_) (fun r=>?_)
  ·exact aK rfl (j3 C.bool (aC fun e=>bY h f (kU r) (by rw[e])))
  refine Fit.ZA (by omega) (by omega) ?_;exact⟨(o+1,()),⟨c,bS d h f (qY r)⟩,⟨bL,trivial⟩,trivial,bM c⟩
 ·have m:¬o<a.length:=by rw[y9] at m;omega
  have s:a=b:=bR (n:=o) (by omega) (by omega) d;exact aK rfl (j3 C.bool (dh s))
theorem Zo (x y:Api.Data):dn 91 [.agg (jr x),.agg (jr y)] (x=y):=by
 refine aj Tryz.func91 MH rfl fun hw _=>?_;have p:Wf (.sl (x.variants.map gJ)):=by have h:=hw.1;simp only[jr,Wf,sK] at h;simp only[Wf];exact h.2.2.2.1
 refine ah (fun s=>?_) (fun s=>?_)
 ·exact aK rfl (j3 C.bool (aC fun e=>(kU s) (by rw[e])))
 refine ah (fun u=>?_) (fun u=>?_)
 ·exact aK rfl (j3 C.bool (aC fun e=>(kU u) (by rw[e])))
 refine ah (fun w=>?_) (fun w=>?_)
 ·exact aK rfl (j3 C.bool (aC fun e=>(kU w) (by rw[e])))
 refine ah (fun z=>?_) (fun z=>?_)
 ·exact aK rfl (j3 C.bool (aC fun e=>(kU z) (by rw[e])))
 refine ah (fun o=>?_) (fun o=>?_)
 ·exact aK rfl (j3 C.bool (aC fun e=>(jd (by have q:=kU o;rwa [cq,cq] at q)) (by rw[e])))
 have o:=gY o;refine bF x.variants.length 5 [] () (fun _=>[]) (fun _=>[]) (fun k _=>∀j<k,x.variants[j]?=y.variants[j]?) (fun j hj=>vv hj (by omega)) (ak rfl) trivial trivial (fun _=>rfl) (fun _=>rfl) ?_;rintro m ⟨⟩ al d _ _ _;refine aN (fun c=>?_) (fun f=>?_)
 ·have c:m<x.variants.length:=by rw[cq] at c;omega
  have ae:=dL p;obtain⟨xA,b⟩:=bf c;obtain⟨yA,a⟩:=bf (l:=y.variants) (k:=m) (by omega);refine ck b rfl rfl ?_;refine ck a rfl rfl ?_;refine ah (fun t=>?_) (fun t=>?_)
  ·exact aK rfl (j3 C.bool (aC fun e=>bY b a (fun r=>(kU t) (by rw[r])) (by rw[e])))
  refine ck b rfl rfl ?_;refine ck a rfl rfl ?_;refine dW (Qx xA.fields yA.fields) rfl fun _=>?_;refine ah (fun v=>?_) (fun v=>?_)
  ·exact aK rfl (j3 C.bool (aC fun e=>bY b a (fun r=>(vO v) (by rw[r])) (by rw[e])))
  refine Fit.ZA (by omega) (by omega) ?_;exact⟨(m+1,()),⟨c,bS d b a (var_eq (rG (qY t)) (vP v))⟩,⟨bL,trivial⟩,trivial,bM c⟩
 ·have f:¬m<x.variants.length:=by rw[cq] at f;omega
  have eA:x.variants=y.variants:=bR (n:=m) (by omega) (by omega) d;exact aK rfl (j3 C.bool (dh (FC (rG (qY s)) (qY u) (qY w) (qY z) eA)))
theorem WN (x y:G5):dn 136 [.agg (rL x),.agg (rL y)] (x=y):=by
 refine aj Tryz.func136 Jw rfl fun k _=>?_;refine aN (fun a=>?_) (fun a=>aK rfl (j3 C.bool (aC fun e=>a (by rw[e]))));refine aN (fun j=>?_) (fun j=>aK rfl (j3 C.bool (aC fun e=>j (by rw[e]))));refine aN (fun d=>?_) (fun d=>aK rfl (j3 C.bool (aC fun e=>d (by rw[e]))));refine aN (fun c=>?_) (fun c=>aK rfl (j3 C.bool (aC fun e=>c (by rw[e]))));refine aN (fun f=>?_) (fun f=>aK rfl (j3 C.bool (aC fun e=>f (by rw[e]))));refine bA (Qy x.args y.args) rfl fun _=>?_;refine ah (fun b=>?_) (fun b=>aK rfl (j3 C.bool (aC fun e=>kh b (by rw[e]))));refine bA (Qx x.types y.types) rfl fun _=>?_;exact aK rfl (j3 C.bool (gW ⟨fun h=>Kc a j d c f (jH b) h,fun e=>by rw[e]⟩))
theorem WO (a b:List Block):dn 118 [.sl (a.map jf),.sl (b.map jf)] (a=b):=by
 refine aj Tryz.func118 Je rfl fun hw _=>?_;refine ah (fun y=>?_) (fun y=>?_)
 ·exact aK rfl (j3 C.bool (aC fun e=>(jd (by have q:=kU y;rwa [cq,cq] at q)) (by rw[e])))
 have y:=gY y;refine bF a.length 5 [] () (fun _=>[]) (fun _=>[]) (fun k _=>∀j<k,a[j]?=b[j]?) (fun j hj=>vv hj (by omega)) (ak rfl) trivial trivial (fun _=>rfl) (fun _=>rfl) ?_;rintro x ⟨⟩ ax p _ _ _;refine aN (fun h=>?_) (fun u=>?_)
 ·have h:x<a.length:=by rw[cq] at h;omega
  have aw:=dL hw.1;obtain⟨s,c⟩:=bf h;obtain⟨z,d⟩:=bf (l:=b) (k:=x) (by omega);have ac:Wf (.sl (s.code.map rL)):=(Ep hw.1 (aam c)).1;refine ck c rfl rfl ?_;refine ck d rfl rfl ?_;refine ah (fun h1=>?_) (fun h1=>?_)
  ·exact aK rfl (j3 C.bool (aC fun e=>bY c d (fun m=>(jd (by have q:=kU h1;rwa [cq,cq] at q)) (by rw[m])) (by rw[e])))
  have h1:=gY h1;refine ck c rfl rfl ?_;refine ck d rfl rfl ?_;refine ah (fun h2=>?_) (fun h2=>?_)
  ·exact aK rfl (j3 C.bool (aC fun e=>bY c d (fun m=>(kU h2) (by rw[m])) (by rw[e])))
  refine ck c rfl rfl ?_;refine ck d rfl rfl ?_;refine ah (fun h3=>?_) (fun h3=>?_)
  ·exact aK rfl (j3 C.bool (aC fun e=>bY c d (fun m=>(kU h3) (by rw[m])) (by rw[e])))
  refine ck c rfl rfl ?_;refine ck d rfl rfl ?_;refine dW (Qy s.fin.targets z.fin.targets) rfl fun _=>?_;refine ah (fun h4=>?_) (fun h4=>?_)
  ·exact aK rfl (j3 C.bool (aC fun e=>bY c d (fun m=>(vO h4) (by rw[m])) (by rw[e])))
  refine bF s.code.length 6 [] () (fun _=>[]) (fun _=>[]) (fun k _=>∀j<k,s.code[j]?=z.code[j]?) (fun j hj=>vv hj (by omega)) (ak rfl) trivial trivial (fun _=>rfl) (fun _=>rfl) ?_;rintro w ⟨⟩ ap o _ _ _;refine ck c rfl rfl ?_;refine aN (fun f=>?_) (fun v=>?_)
  ·have f:w<s.code.length:=by rw[cq] at f;omega
   have ao:=dL ac;obtain⟨xB,t⟩:=bf f;obtain⟨yB,r⟩:=bf (l:=z.code) (k:=w) (by omega);refine ck c rfl rfl ?_;refine ck t rfl rfl ?_;refine ck d rfl rfl ?_;refine ck r rfl rfl ?_;refine dW (WN xB yB) rfl fun _=>?_;refine ah (fun h5=>?_) (fun h5=>?_)
   ·exact aK rfl (j3 C.bool (aC fun e=>bY c d (fun m=>bY t r (vO h5) (by rw[m])) (by rw[e])))
   refine Fit.ZA (by omega) (by omega) ?_;exact⟨(w+1,()),⟨f,bS o t r (vP h5)⟩,⟨bL,trivial⟩,trivial,bM f⟩
  ·have v:¬w<s.code.length:=by rw[cq] at v;omega
   have eB:s.code=z.code:=bR (n:=w) (by omega) (by omega) o;refine Fit.ZA (by omega) (by omega) ?_;exact⟨(x+1,()),⟨h,bS p c d (C8 eB (qY h2) (qY h3) (vP h4))⟩,⟨bL,trivial⟩,trivial,bM h⟩
 ·have u:¬x<a.length:=by rw[cq] at u;omega
  have eA:a=b:=bR (n:=x) (by omega) (by omega) p;exact aK rfl (j3 C.bool (dh eA))
theorem t119 (a b:List Slot):dn 119 [.sl (a.map jt),.sl (b.map jt)] (a=b):=by
 refine aj Tryz.func119 Jf rfl fun hw _=>?_;refine ah (fun y=>?_) (fun y=>?_)
 ·exact aK rfl (j3 C.bool (aC fun e=>(jd (by have q:=kU y;rwa [cq,cq] at q)) (by rw[e])))
 have y:=gY y;refine bF a.length 5 [] () (fun _=>[]) (fun _=>[]) (fun k _=>∀j<k,a[j]?=b[j]?) (fun j hj=>vv hj (by omega)) (ak rfl) trivial trivial (fun _=>rfl) (fun _=>rfl) ?_;rintro x ⟨⟩ ay p _ _ _;refine aN (fun m=>?_) (fun u=>?_)
 ·have m:x<a.length:=by rw[cq] at m;omega
  have ax:=dL hw.1;obtain⟨s,c⟩:=bf m;obtain⟨yA,d⟩:=bf (l:=b) (k:=x) (by omega);have ad:Wf (.sl (s.lent.map z9)):=(Ep hw.1 (aam c)).2.2.2.2.2.2.1;refine ck c rfl rfl ?_;refine ck d rfl rfl ?_;refine ah (fun h1=>?_) (fun h1=>?_)
  ·exact aK rfl (j3 C.bool (aC fun e=>bY c d (fun f=>(kU h1) (by rw[f])) (by rw[e])))
  refine ck c rfl rfl ?_;refine ck d rfl rfl ?_;refine dW (Qw s.type yA.type) rfl fun _=>?_;refine ah (fun h2=>?_) (fun h2=>?_)
  ·exact aK rfl (j3 C.bool (aC fun e=>bY c d (fun f=>(vO h2) (by rw[f])) (by rw[e])))
  refine ck c rfl rfl ?_;refine ck d rfl rfl ?_;refine ah (fun h3=>?_) (fun h3=>?_)
  ·exact aK rfl (j3 C.bool (aC fun e=>bY c d (fun f=>(kU h3) (by rw[f])) (by rw[e])))
  refine ck c rfl rfl ?_;refine ck d rfl rfl ?_;refine ah (fun h4=>?_) (fun h4=>?_)
  ·exact aK rfl (j3 C.bool (aC fun e=>bY c d (fun f=>(kU h4) (by rw[f])) (by rw[e])))
  refine ck c rfl rfl ?_;refine ck d rfl rfl ?_;refine ah (fun z=>?_) (fun z=>?_)
  ·exact aK rfl (j3 C.bool (aC fun e=>bY c d (fun f=>(jd (by have q:=kU z;rwa [cq,cq] at q)) (by rw[f])) (by rw[e])))
  have z:=gY z;refine bF s.lent.length 6 [] () (fun _=>[]) (fun _=>[]) (fun k _=>∀j<k,s.lent[j]?=yA.lent[j]?) (fun j hj=>vv hj (by omega)) (ak rfl) trivial trivial (fun _=>rfl) (fun _=>rfl) ?_;rintro w ⟨⟩ ar o _ _ _;refine ck c rfl rfl ?_;refine aN (fun h=>?_) (fun v=>?_)
  ·have h:w<s.lent.length:=by rw[cq] at h;omega
   have ap:=dL ad;obtain⟨xB,t⟩:=bf h;obtain⟨yB,r⟩:=bf (l:=yA.lent) (k:=w) (by omega);refine ck c rfl rfl ?_;refine ck t rfl rfl ?_;refine ck d rfl rfl ?_;refine ck r rfl rfl ?_;refine ah (fun h6=>?_) (fun h6=>?_)
   ·exact aK rfl (j3 C.bool (aC fun e=>bY c d (fun f=>bY t r ((fun e=>by subst e;simp[lm] at h6)) (by rw[f])) (by rw[e])))
   refine Fit.ZA (by omega) (by omega) ?_;exact⟨(w+1,()),⟨h,bS o t r (by rcases xB with⟨⟩;rcases yB with⟨⟩;simp[lm] at h6;simp[h6])⟩,⟨bL,trivial⟩,trivial,bM h⟩
  ·have v:¬w<s.lent.length:=by rw[cq] at v;omega
   have eB:s.lent=yA.lent:=bR (n:=w) (by omega) (by omega) o;refine Fit.ZA (by omega) (by omega) ?_;exact⟨(x+1,()),⟨m,bS p c d (FD (qY h1) (vP h2) (qY h3) (qY h4) eB)⟩,⟨bL,trivial⟩,trivial,bM m⟩
 ·have u:¬x<a.length:=by rw[cq] at u;omega
  have eA:a=b:=bR (n:=x) (by omega) (by omega) p;exact aK rfl (j3 C.bool (dh eA))
theorem Zp (x y:Ek):dn 92 [.agg (kg x),.agg (kg y)] (x=y):=by
 refine aj Tryz.func92 MI rfl fun hw _=>?_;have p:Wf (.sl (x.entry.map qR)):=hw.1.2.2.2.2.2.2.2.2.1;refine ah (fun s=>?_) (fun s=>?_)
 ·exact aK rfl (j3 C.bool (aC fun e=>(kU s) (by rw[e])))
 refine bA (Qx x.params y.params) rfl fun _=>?_;refine ah (fun u=>?_) (fun u=>?_)
 ·exact aK rfl (j3 C.bool (aC fun e=>(vO u) (by rw[e])))
 refine bA (Qw x.result y.result) rfl fun _=>?_;refine ah (fun v=>?_) (fun v=>?_)
 ·exact aK rfl (j3 C.bool (aC fun e=>(vO v) (by rw[e])))
 refine bA (Qy x.ties y.ties) rfl fun _=>?_;refine ah (fun w=>?_) (fun w=>?_)
 ·exact aK rfl (j3 C.bool (aC fun e=>(vO w) (by rw[e])))
 refine ah (fun r=>?_) (fun r=>?_)
 ·exact aK rfl (j3 C.bool (aC fun e=>(kU r) (by rw[e])))
 refine bA (WO x.blocks y.blocks) rfl fun _=>?_;refine ah (fun t=>?_) (fun t=>?_)
 ·exact aK rfl (j3 C.bool (aC fun e=>(vO t) (by rw[e])))
 refine ah (fun m=>?_) (fun m=>?_)
 ·exact aK rfl (j3 C.bool (aC fun e=>(jd (by have q:=kU m;rwa [cq,cq] at q)) (by rw[e])))
 have m:=gY m;refine bF x.entry.length 5 [] () (fun _=>[]) (fun _=>[]) (fun k _=>∀j<k,x.entry[j]?=y.entry[j]?) (fun j hj=>vv hj (by omega)) (ak rfl) trivial trivial (fun _=>rfl) (fun _=>rfl) ?_;rintro h ⟨⟩ ag b _ _ _;refine aN (fun a=>?_) (fun f=>?_)
 ·have a:h<x.entry.length:=by rw[cq] at a;omega
  have ad:=dL p;obtain⟨xA,d⟩:=bf a;obtain⟨yA,c⟩:=bf (l:=y.entry) (k:=h) (by omega);refine ck d rfl rfl ?_;refine ck c rfl rfl ?_;refine dW (t119 xA yA) rfl fun _=>?_;refine ah (fun o=>?_) (fun o=>?_)
  ·exact aK rfl (j3 C.bool (aC fun e=>bY d c (vO o) (by rw[e])))
  refine Fit.ZA (by omega) (by omega) ?_;exact⟨(h+1,()),⟨a,bS b d c (vP o)⟩,⟨bL,trivial⟩,trivial,bM a⟩
 ·have f:¬h<x.entry.length:=by rw[cq] at f;omega
  have z:x.entry=y.entry:=bR (n:=h) (by omega) (by omega) b;exact aK rfl (j3 C.bool (dh (FE (rG (qY s)) (vP u) (vP v) (vP w) (qY r) (vP t) z)))
theorem Zq (x y:G7):dn 57 [.agg (Nn x),.agg (Nn y)] (x=y):=by
 refine aj Tryz.func57 Mw rfl fun hw _=>?_;have w:Wf (.sl (x.datas.map jr)):=hw.1.1;have ad:Wf (.sl (x.routs.map kg)):=hw.1.2.1;refine ah (fun h0=>?_) (fun h0=>?_)
 ·exact aK rfl (j3 C.bool (aC fun e=>(kU h0) (by rw[e])))
 refine ah (fun u=>?_) (fun u=>?_)
 ·exact aK rfl (j3 C.bool (aC fun e=>(jd (by have q:=kU u;rwa [cq,cq] at q)) (by rw[e])))
 have u:=gY u;refine ah (fun v=>?_) (fun v=>?_)
 ·exact aK rfl (j3 C.bool (aC fun e=>(jd (by have q:=kU v;rwa [cq,cq] at q)) (by rw[e])))
 have v:=gY v;refine bF x.datas.length 5 [] () (fun _=>[]) (fun _=>[]) (fun k _=>∀j<k,x.datas[j]?=y.datas[j]?) (fun j hj=>vv hj (by omega)) (ak rfl) trivial trivial (fun _=>rfl) (fun _=>rfl) ?_;rintro t ⟨⟩ aw d _ _ _;refine aN (fun b=>?_) (fun p=>?_)
 ·have b:t<x.datas.length:=by rw[cq] at b;omega
  have av:=dL w;obtain⟨xA,m⟩:=bf b;obtain⟨yA,h⟩:=bf (l:=y.datas) (k:=t) (by omega);refine ck m rfl rfl ?_;refine ck h rfl rfl ?_;refine dW (Zo xA yA) rfl fun _=>?_;refine ah (fun h3=>?_) (fun h3=>?_)
  ·exact aK rfl (j3 C.bool (aC fun e=>bY m h (vO h3) (by rw[e])))
  refine Fit.ZA (by omega) (by omega) ?_;exact⟨(t+1,()),⟨b,bS d m h (vP h3)⟩,⟨bL,trivial⟩,trivial,bM b⟩
 ·have p:¬t<x.datas.length:=by rw[cq] at p;omega
  have eA:x.datas=y.datas:=bR (n:=t) (by omega) (by omega) d;refine bF x.routs.length 6 [] () (fun _=>[]) (fun _=>[]) (fun k _=>∀j<k,x.routs[j]?=y.routs[j]?) (fun j hj=>vv hj (by omega)) (ak rfl) trivial trivial (fun _=>rfl) (fun _=>rfl) ?_;rintro s ⟨⟩ ao c _ _ _;refine aN (fun a=>?_) (fun r=>?_)
  ·have a:s<x.routs.length:=by rw[cq] at a;omega
   have al:=dL ad;obtain⟨xB,o⟩:=bf a;obtain⟨yB,f⟩:=bf (l:=y.routs) (k:=s) (by omega);refine ck o rfl rfl ?_;refine ck f rfl rfl ?_;refine dW (Zp xB yB) rfl fun _=>?_;refine ah (fun z=>?_) (fun z=>?_)
   ·exact aK rfl (j3 C.bool (aC fun e=>bY o f (vO z) (by rw[e])))
   refine Fit.ZA (by omega) (by omega) ?_;exact⟨(s+1,()),⟨a,bS c o f (vP z)⟩,⟨bL,trivial⟩,trivial,bM a⟩
  ·have r:¬s<x.routs.length:=by rw[cq] at r;omega
   have eB:x.routs=y.routs:=bR (n:=s) (by omega) (by omega) c;exact aK rfl (j3 C.bool (dh (Ke (qY h0) eA eB)))
section
variable {L:TL}{ρ:aX}
end
end Go.Fr.Tryz
