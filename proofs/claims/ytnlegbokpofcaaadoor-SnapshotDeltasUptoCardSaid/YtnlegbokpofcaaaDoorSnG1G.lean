/- Part of the proofs of the statements of this seat. -/
import Derived.Test.YtnlegbokpofcaaaDoorSnP4G
import Derived.Test.YtnlegbokpofcaaaDoorSnIds
import Derived.Deep.DeepWitnessRowRef
set_option maxRecDepth 10000
set_option linter.unusedVariables false
set_option linter.unusedSimpArgs false
namespace Go.Fr.Tryd
open Go Go.RowKit Go.Proofs Go.Fr Go.Fr.T Go.Fr.Api Go.Fr.Dm
def Me:List ak:=[.op (some 56) (.mov (.t 8)) none,
     .op (some 57) (.mov (.t 9)) none,
     .op (some 58) (.bin .mul (.c (.int .i64 32)) (.t 57)) none,
     .op (some 59) (.slc 1 (.t 56) (some (.t 58)) none) none,
     .op (some 60) (.mov (.t 0)) none,
     .op (some 61) (.mov (.t 8)) none,
     .op (some 62) (.mov (.t 9)) none,
     .op (some 63) (.callD 25 [(.t 61),(.t 62)]) none,
     .op (some 64) (.len (.t 63)) none,
     .pc (some 65) (.call 41 [(.t 60),(.t 64)]) none,
     .op (some 66) (.copyX 5 1 (.t 59) (.t 65)) none]
def BU (k:Nat) (b:Nat) (a:aT):aT :=
 bw (some 64) (IC (b:Int)) (bw (some 63) .any (bw (some 62) .any (bw (some 61) .any (bw (some 60) (.own 1000 0) (bw (some 59) .any (bw (some 58) .any (bw (some 57) .any (bw (some 56) (.rw k) a))))))))
theorem C4 {ρ:Env}{j:Nat}{v:SV}(h:ρ j=v):ρ=put (some j) v ρ:=by
 funext i
 simp only[put];cases e:Nat.beq i j with
 | true=>rw[xo e,h]
 | false=>rfl
theorem NQ {PS:oV}{M:TL}{o:aT}{N:TK}(k i:Nat) (out a:List UInt8) (aE:PS.st=none) (hs:M.sub [1000]=some [RB a]) (hk:M.get k=some (.row 5 1 (af out))) (h8:o 8=.rw k) (h9:o 9=IC (i:Int)) (h0:o 0=.own 1000 0)
  (ar:rowsOf M [1000]=[]) (hh:kQ M [1000] PS.hb=true) (da:k≠1000) (hi:32*i<out.length) (dg:out.length<=1073741824)
  (hp:takeD (((ct out i).length:Nat):Int) a=none->PS.ps eS)
  (az:∀r,(((M.Wg [1000]).kills []).puts [1000] [RB r]).get k=some (.row 5 1 (af out)))
  (hN:∀b r,takeD (((ct out i).length:Nat):Int) a=some (b,r) ->
   N ((((M.Wg [1000]).kills []).puts [1000] [RB r]).set k (.row 5 1 (af (qe out (32*i) b)))) (bw (some 66) .any (bw (some 65) .any (eI [] (BU k (ct out i).length o))))) :
  MP PZ PS Me M o N:=by
 refine⟨aE,fun G PX u F L ρ hr j=>?_⟩;obtain⟨ad,c,hL,ha,hm⟩:=row_of j hk;obtain⟨a1,c1,t1,bp,n1,ca,e8,e2⟩:=rq (x:=.t 8) j.env h8;rw[hL] at e2;injection e2 with e2
 injection e2 with e2 _ _ _ _
 injection e2 with e3 e4 e5
 subst e3 e4 e5;obtain⟨e9,w9⟩:=dX (x:=.t 9) j.env h9;obtain⟨e0,_⟩:=ep (x:=.t 0) j.env h0;have e8:ρ 8=.v (.slice ad out.length c):=e8;have e9:ρ 9=.v (.int .i64 i):=e9;have e0:ρ 0=.own 1000 0:=e0;have p:out.length<=c/\c<=9223372036854775807:=by
  obtain⟨w,hw⟩:=hr;obtain⟨c',hv⟩:=z8 hw hL;obtain⟨a',e,s,l,_⟩:=hv.form;injection e with _ _ e
  subst e;exact⟨s,by unfold maxLen at l;exact l⟩
 have ba:(ct out i).length=min (32*i+32) out.length-min (32*i) out.length:=by
  unfold ct;rw[Xk,XM];omega
 rw[ba] at hp hN;have f:ρ=put (some 8) (.v (.slice ad out.length c)) (put (some 9) (.v (.int .i64 i)) (put (some 0) (.own 1000 0) ρ)) :=
  (C4 e8).trans (o6 (put (some 8) _) ((C4 e9).trans (o6 (put (some 9) _) (C4 e0))))
 generalize q:ρ=ρ1 at f;rw[q] at j
 clear e8 e9 e0
 subst q;rw[f] at j ⊢
 clear f
 refine⟨_,rfl,?_⟩;refine⟨_,rfl,?_⟩;refine⟨_,rfl,?_⟩;refine Fit.Wi (by omega) (by omega) ?_;refine⟨_,rfl,?_⟩;refine mI.mk (by omega) (by omega) (by omega) ?_;refine⟨_,rfl,?_⟩;refine⟨_,rfl,?_⟩;refine⟨_,rfl,?_⟩;refine⟨_,rfl,?_⟩;refine .frz _ (RX F ad out.length c i p.1 p.2 (by omega)) fun v F1 Lo ae hR=>?_;obtain⟨rfl,rfl⟩:=hR;refine⟨rfl,fun cb=>?_⟩;refine⟨_,rfl,?_⟩;have hI:∀{L:Loc}(m:Nat),m<=9223372036854775807->aN F1 L (IC (m:Int)) (.v (.int .i64 m)):=fun m hm=>⟨_,rfl,by
  rw[Rel];refine⟨rfl,?_⟩;rw[zC];simp only[IntKind.min,IntKind.max,IntKind.signed,IntKind.bits,Xm];omega⟩
 have RF:=(j.mono ae).put (j.mono ae |>.env 8) (some 56);have any:∀sv,aN F1 L .any sv:=fun sv=>trivial;have RS:=(((RF.put (any (.v (.int .i64 i))) (some 57)).put (any (.v (.int .i64 (32*(i:Int))))) (some 58)).put (any (.v (fu ad c (32*(i:Int)).toNat (out.length:Int).toNat 1))) (some 59));have RQ:=RS.put (j.mono ae |>.env 0) (some 60);have av:=((RQ.put (any (.v (.slice ad out.length c))) (some 61)).put (any (.v (.int .i64 i))) (some 62)).put (any (.v (fu ad c (min (32*i) out.length) (min (32*i+32) out.length) 1))) (some 63);have d:=av.put (hI (min (32*i+32) out.length-min (32*i) out.length) (by omega)) (some 64);rw[h8,h0] at d;have d:TS G F1 L _ M (BU k (min (32*i+32) out.length-min (32*i) out.length) o):=d;have hx:mM PZ PS (zu Me) 41 [.own 1000 0,IC (((min (32*i+32) out.length-min (32*i) out.length):Nat):Int)] M (BU k (min (32*i+32) out.length-min (32*i) out.length) o) (fun M' aw v=>∃b r,takeD (((min (32*i+32) out.length-min (32*i) out.length):Nat):Int) a=some (b,r)/\M'=(((M.Wg [1000]).kills []).puts [1000] [RB r])/\aw=eI [] (BU k (min (32*i+32) out.length-min (32*i) out.length) o)/\v=.sl (af b)):=by
  refine bY [1000] (Se (((min (32*i+32) out.length-min (32*i) out.length):Nat):Int) a) hs rfl rfl rfl (fun v h=>h.1▸hp h.2) ?_ hh;rintro v Mo ⟨b,r,h1,rfl,rfl⟩ _ _;rw[ar];exact⟨rfl,b,r,h1,rfl,rfl,rfl⟩
 have hc:=u F1 L _ M (BU k (min (32*i+32) out.length-min (32*i) out.length) o) 41 [.own 1000 0,IC (((min (32*i+32) out.length-min (32*i) out.length):Nat):Int)] _ _ d (cL d.env [.t 60,.t 64]) hx;refine CallXDPt.imp hc fun F2 L2 v co df bs _ cz hK=>?_;obtain⟨M2,cc,c2,aa,ac,b,r,hb,rfl,rfl,rfl⟩:=hK;obtain⟨v',y,ac⟩:=ac;injection y with y
 subst y;obtain⟨a2,c2,rfl,_,cl,hf⟩:=wT ac;obtain⟨ax,cx,z,_,_⟩:=row_of aa (az r);obtain⟨ay,cy,ty,cw,ny,xy,s,l⟩:=rq (x:=.t 56) aa.env (k:=k) rfl;have s:(SV.v (.slice ad out.length c))=.v (.slice ay ny cy):=s;injection s with s
 injection s with q3 q4 q5
 subst q3 q4 q5;rw[z] at l;injection l with l
 injection l with l _ _ _ _
 injection l with q3 _ q5
 subst q3 q5;obtain⟨n,rfl⟩:∃x,ax=some x:=by
  cases ax with
  | none=>have:=ha rfl;omega
  | some x=>exact⟨x,rfl⟩
 have cf:b.length=min (32*i+32) out.length-min (32*i) out.length:=by
  unfold takeD at hb;split at hb
  case isFalse=>cases hb
  rename_i h;injection hb with hb
  injection hb with hb _
  rw[<-hb,Xk];omega
 have ap:fu (some n) cx (32*(i:Int)).toNat (out.length:Int).toNat 1=.slice (some (n.add (32*i*1))) (out.length-32*i) (cx-32*i):=by
  rw[show(32*(i:Int)).toNat=32*i by omega,show(out.length:Int).toNat=out.length by omega];unfold fu;rw[vv (by omega)];rfl
 refine⟨_,rfl,?_⟩;refine⟨.inl ⟨k,out.length-32*i,.slice (some n) out.length cx,out.length,dA out,n,cx,cx-32*i,32*i,b.length,a2,c2,dA b,z,rfl,ap,by omega,rfl,by rw[nK];omega,?_,mC _,fun _=>?_⟩⟩
 ·rcases hf with h | ⟨h1,h2⟩
  ·exact .inl h
  ·exact .inr ⟨by omega,h2⟩
 ·rw[Nat.mul_one,y5];refine⟨_,_,?_,hN b r hb⟩;have h3:=BS aa z (out':=qe out (32*i) b) (nO (by omega)) hm ha;exact(h3.put (c:=.any) trivial (some 65)).put (c:=.any) trivial (some 66)
theorem BV:∀(f k z:Nat) (l:List UInt8) (n:Int) (r:List UInt8),mB f k z l=some (n,r)->z<128 ^ k->f+k=6->(-4398046511104<=n/\n<=4398046511104)/\r.length<l.length
 | 0,_,_,_,_,_,h,_,_=>by simp[mB] at h
 | _+1,_,_,[],_,_,h,_,_=>by simp[mB] at h
 | f+1,k,z,c::d,n,r,h,o,q=>by
  have j:=c.toNat_lt;rw[mB] at h;split at h
  ·rename_i a;split at h
   ·injection h with h
    injection h with h1 h2
    subst h2;have e:z+c.toNat*128 ^ k<128 ^ (k+1):=by
     have:c.toNat*128 ^ k<=127*128 ^ k:=Nat.mul_le_mul_right _ (by omega);rw[Nat.pow_succ];omega
    have s:128 ^ (k+1)<=128 ^ 6:=Nat.pow_le_pow_right (by omega) (by omega);have p:(128:Nat) ^ 6=4398046511104:=by decide
    refine⟨?_,by simp⟩;rw[<-h1];unfold LW;split<;>omega
   ·cases h
  ·obtain⟨b,m⟩:=BV f (k+1) _ d n r h (by
    have:(c.toNat-128)*128 ^ k<=127*128 ^ k:=Nat.mul_le_mul_right _ (by omega);rw[Nat.pow_succ];omega) (by omega)
   exact⟨b,by simp;omega⟩
theorem lD {l r:List UInt8}{n:Int}(h:getD l=some (n,r)):(-4398046511104<=n/\n<=4398046511104)/\r.length<l.length:=BV 6 0 0 l n r h (by decide) rfl
def sK (size:Nat):Nat->Int->List UInt8->Dec (List UInt8)
 | 0,_,out=>wR out
 | n+1,p,out=>fK getD fun d=>if 0<=p+d/\p+d<dO size then fK (takeD (((ct out (p+d).toNat).length:Nat):Int)) fun b=>sK size n (p+d) (qe out (32*(p+d).toNat) b) else fun _=>none
def Am (a:List UInt8) (size:Nat):List UInt8:=qe (List.replicate size 0) 0 (a.take size)
def BW (a:List UInt8) (s c:Int):Dec (List UInt8):=fun r=>if(0<=s/\s<=(a.length:Int)+r.length)/\0<=c then sK s.toNat c.toNat (-1) (Am a s.toNat) r else none
def m7 (a:List UInt8):Dec (List UInt8):=fK getD fun s=>fK getD fun _=>fK getD fun c=>BW a s c
theorem sL (a:List UInt8) (n:Nat):(Am a n).length=n:=by
 unfold Am;rw[nO (by simp;omega)];simp
theorem C5 (n:Nat):List.replicate n [C.int .u8 0]=af (List.replicate n 0):=by simp[af,iE]
theorem Ao {i n:Nat}(h:i<dO n):32*i<n:=by unfold dO at h;omega
theorem RY (s:Int) (a:0<=s) (b:s<=4611686018427387904):CallsT PZ 23 [IC s] [] (iF [] (IC ((dO s.toNat:Nat):Int))):=by
 obtain⟨n,rfl⟩:=Int.eq_ofNat_of_zero_le a;exact Si n (by omega)
set_option maxRecDepth 20000 in
theorem t21 (a bs:List UInt8) (ha:a.length<=268435456) (hb:bs.length<=268435456):CallsTX PZ 21 [.own 1000 0,.sl (af a)] [RB bs]
  (fun Mo c=>∃out r,m7 a bs=some (out,r)/\Mo=[RB r]/\c=.sl (af out)) (fun v=>v=eS/\m7 a bs=none):=by
 have bc:(af a).length=a.length:=aK;refine ai Tryd.func21 J4 rfl fun hw bl=>?_;refine rn 1000 (L8 bs) rfl rfl rfl (fun h=>⟨rfl,aR h⟩) fun s r1 e1 _=>?_;refine rn 1000 (L8 r1) rfl rfl rfl (fun h=>⟨rfl,(aj e1).trans (aR h)⟩) fun s2 r2 e2 _=>?_;refine rn 1000 (L8 r2) rfl rfl rfl (fun h=>⟨rfl,(aj e1).trans ((aj e2).trans (aR h))⟩) fun n y e3 _=>?_;have l:m7 a bs=BW a s n y:=(aj e1).trans ((aj e2).trans (aj e3));obtain⟨⟨b1,b2⟩,b3⟩:=lD e1;obtain⟨_,b4⟩:=lD e2;obtain⟨⟨b5,b6⟩,b7⟩:=lD e3;have be:(af y).length=y.length:=aK;refine aV (fun w=>?_) (fun w=>?_)
 ·refine Fit.Wi (by omega) (by omega) ?_;refine aV (fun h1=>?_) (fun h1=>?_)
  ·refine tO (sN (decide (0<=n))) rfl (fun h=>⟨rfl,?_⟩) fun h2=>?_
   ·rw[l,BW,vv (fun h3=>by have:=XE h;omega)]
   have h2:=Xi h2;have w:0<=s:=w;have h1:s<=(a.length:Int)+y.length:=by omega
   have am:m7 a bs=sK s.toNat n.toNat (-1) (Am a s.toNat) y:=by rw[l,BW,j3 ⟨⟨w,h1⟩,h2⟩]
   have bk:s.toNat<=536870912:=by omega
   have av:(List.replicate s.toNat (0:UInt8)).length=s.toNat:=XG;have ab:=RY s w (by omega);refine sP.mk w (Xr _) (by omega) (by unfold maxLen;omega) ?_;refine Lw (k:=36) (out:=List.replicate s.toNat 0) (a:=a) (o6 (fun q=>some (TO.row 5 1 q)) (C5 s.toNat)) rfl rfl ?_;refine bW n.toNat 41 [9,8] ((y,(-1:Int),Am a s.toNat):List UInt8×Int×List UInt8) (fun x=>[IC x.2.1,.rw 36]) (fun x=>[(1000,RB x.1),(36,.row 5 1 (af x.2.2))])
    (fun k x=>sK s.toNat (n.toNat-k) x.2.1 x.2.2 x.1=m7 a bs/\(-1<=x.2.1/\x.2.1<=4294967296)/\x.2.2.length=s.toNat) ⟨am.symm,⟨(by decide:(-1:Int)<=-1),(by decide:(-1:Int)<=4294967296)⟩,sL a s.toNat⟩ (aq rfl) ⟨aq rfl,aq rfl,trivial⟩
    ⟨.inl ⟨_,rfl,.inl ⟨rfl,rfl⟩⟩,.inl ⟨_,rfl,.inl ⟨o6 (fun q=>TO.row 5 1 (af q)) (by rw[Am,av]),rfl⟩⟩,trivial⟩ (fun _=>rfl) (fun _=>rfl) ?_
   rintro k ⟨f,p,out⟩ hk ⟨e,⟨p1,p2⟩,o⟩ _ _ az;have e:sK s.toNat (n.toNat-k) p out f=m7 a bs:=e;have p1:-1<=p:=p1;have p2:p<=4294967296:=p2;have o:out.length=s.toNat:=o;refine aV (fun u=>?_) (fun ap=>?_)
   ·have u:k<n.toNat:=by omega
    have z:m7 a bs=fK getD (fun d=>if 0<=p+d/\p+d<dO s.toNat then fK (takeD (((ct out (p+d).toNat).length:Nat):Int)) fun b=>sK s.toNat (n.toNat-(k+1)) (p+d) (qe out (32*(p+d).toNat) b) else fun _=>none) f:=by
     rw[<-e,show n.toNat-k=(n.toNat-(k+1))+1 by omega];rfl
    refine rn 1000 (L8 f) rfl rfl rfl (fun h=>⟨rfl,z.trans (aR h)⟩) fun d r4 e4 _=>?_;have j:=z.trans (aj e4);obtain⟨⟨d1,d2⟩,_⟩:=lD e4;refine Fit.Wi (by omega) (by omega) ?_;refine aV (fun t=>?_) (fun t=>?_)
    ·have t:0<=p+d:=t;refine bL ab rfl fun _=>?_;refine tO (sN (decide (p+d<((dO s.toNat:Nat):Int)))) rfl (fun h=>⟨rfl,?_⟩) fun g1=>?_
     ·rw[j,vv (fun h3=>by have:=XE h;omega)]
     have g1:=Xi g1;rw[j3 ⟨t,g1⟩] at j;have hi:32*(p+d).toNat<out.length:=by rw[o];exact Ao (by omega)
     refine NQ 36 (p+d).toNat out r4 rfl rfl rfl rfl (o6 IC (show p+d=(((p+d).toNat:Nat):Int) by omega)) rfl rfl rfl (by decide) hi (by omega) (fun h=>⟨rfl,j.trans (aR h)⟩) (fun _=>rfl) fun b r5 m=>?_;have ac:=j.trans (aj m);have bd:dO s.toNat<=4294967296:=by unfold dO;omega
     have al:b.length=(ct out (p+d).toNat).length:=by
      unfold takeD at m;split at m
      case isFalse=>cases m
      rename_i h;injection m with m
      injection m with m _
      rw[<-m,Xk];omega
     have ag:32*(p+d).toNat+b.length<=out.length:=by
      rw[al];unfold ct;rw[Xk,XM];omega
     refine Fit.Wi (by omega) (by omega) ?_;exact⟨(k+1,(r5,p+d,qe out (32*(p+d).toNat) b)),⟨u,ac.symm,⟨by show -1<=p+d;omega,by show p+d<=4294967296;omega⟩,(nO ag).trans o⟩,⟨cF,aq rfl,aq rfl,trivial⟩,
      ⟨.inl ⟨_,rfl,.inl ⟨rfl,rfl⟩⟩,.inl ⟨_,rfl,.inl ⟨rfl,rfl⟩⟩,trivial⟩,cG u⟩
    ·have t:¬0<=p+d:=t;refine tO (sN false) rfl (fun _=>⟨rfl,?_⟩) fun h=>by cases h
     rw[j,vv (fun h3=>t h3.1)]
   ·have ap:¬k<n.toNat:=by omega
    have e:wR out f=m7 a bs:=by rw[<-e,show n.toNat-k=0 by omega];rfl
    exact qd [36] [1000] ⟨_,_,rfl,rfl,rfl,out,f,e.symm,rfl,rfl⟩
  ·refine tO (sN false) rfl (fun _=>⟨rfl,?_⟩) fun h=>by cases h
   rw[l,BW,vv (fun h3=>by omega)]
 ·refine tO (sN false) rfl (fun _=>⟨rfl,?_⟩) fun h=>by cases h
  rw[l,BW,vv (fun h3=>by omega)]
theorem FA {n:Int}{l b r:List UInt8}(h:takeD n l=some (b,r)):(b.length:Int)=n/\l=b++r:=by
 unfold takeD at h;split at h
 case isFalse=>cases h
 rename_i k;injection h with h
 injection h with h1 h2
 subst h1 h2;refine⟨?_,(List.take_append_drop _ _).symm⟩;rw[Xk];omega
theorem mE {b c:Type}{f:Dec b}{k:b->Dec c}{l r:List UInt8}{y:c}(h:fK f k l=some (y,r)):∃x a,f l=some (x,a)/\k x a=some (y,r):=by
 unfold fK at h;split at h
 ·cases h
 ·rename_i x a e;exact⟨x,a,e,h⟩
theorem y7 (size:Nat):∀(n:Nat) (p:Int) (out:List UInt8) (bs:List UInt8) (o r:List UInt8),out.length=size->sK size n p out bs=some (o,r)->o.length=size
 | 0,p,out,bs,o,r,a,h=>by
  have h:some (out,bs)=some (o,r):=h;injection h with h;injection h with h _;rw[<-h,a]
 | n+1,p,out,bs,o,r,a,h=>by
  rw[sK] at h;obtain⟨d,j,_,h⟩:=mE h;split at h
  case isFalse=>cases h
  rename_i f;obtain⟨b,e,hb,h⟩:=mE h;have c:=(FA hb).1;have hi:32*(p+d).toNat<out.length:=by rw[a];exact Ao (by omega)
  refine y7 size n _ _ _ o r ?_ h;rw[nO,a];have:(ct out (p+d).toNat).length<=out.length-32*(p+d).toNat:=by
   unfold ct;rw[Xk,XM];omega
  omega
theorem Ie {a bs o r:List UInt8}(h:m7 a bs=some (o,r)):o.length<=a.length+bs.length:=by
 obtain⟨s,k,d,h⟩:=mE h;obtain⟨q,j,e,h⟩:=mE h;obtain⟨c,m,b,h⟩:=mE h;have l:=(lD d).2;have p:=(lD e).2;have f:=(lD b).2;unfold BW at h;split at h
 case isFalse=>cases h
 rename_i n;have:=y7 _ _ _ _ _ o r (sL a s.toNat) h;omega
def QB (bs:List UInt8) (o:C):List TO:=[.box 52 [.own 1001 0],RB bs,.box 22 [o]]
theorem V9 (a bs:List UInt8) (d:a.length<=268435456) (hb:bs.length<=268435456):CallsTX PZ 20 [.own 1000 0,.pt [.sl (af a)] 0,.own 1002 0] (QB bs .nils)
  (fun Mo c=>∃out r,m7 a bs=some (out,r)/\Mo=QB r (.sl (af out))/\c=.tup []) (fun v=>v=eS/\m7 a bs=none):=by
 refine ai Tryd.func20 J3 rfl fun f e=>?_;refine bO [1001] (t21 a bs d hb) rfl rfl rfl rfl (fun v h=>h) ?_;rintro v Mo ⟨out,r,b,rfl,rfl⟩ _ _;refine⟨rfl,?_⟩;exact cR [1000,1001,1002] rfl rfl rfl rfl ⟨out,r,b,rfl,rfl⟩
def Py (Mo:List TO):Prop:=∃b c a,Mo=[.win 52 b [] [],.win 54 c [] [],.win 22 a [] []]
def Pz (Mo:List TO):Prop:=∃d a b c,Mo=[.win 52 d [] [],.win 54 a [] [],.win 3 b [] [],.win 3 c [] []]
theorem RZ (a bs:List UInt8) (f:a.length<=268435456) (hb:bs.length<=268435456) :
  CallsT PZ 17 [.fn 20 [] [.own 1000 0,.pt [.sl (af a)] 0,.own 1002 0]] (QB bs .nils) (fun Mo c=>(∃out r,m7 a bs=some (out,r)/\Mo=QB r (.sl (af out))/\c=.bool true)\/(m7 a bs=none/\Py Mo/\c=.bool false)):=by
 have h:CallsT PZ 17 [.fn 20 [] [.own 1000 0,.pt [.sl (af a)] 0,.own 1002 0]] (QB bs .nils) (fun Mo c=>(∃out r,m7 a bs=some (out,r)/\Mo=QB r (.sl (af out))/\c=.bool true)\/(m7 a bs=none/\qK (QB bs .nils) Mo/\c=.bool false)):=by
  refine gm (PS:=fun v=>v=eS/\m7 a bs=none) (ns:=[1]) (out:=H9) Tryd.func17 uV (oL.mono u7 fun v h=>h.1) (fun v h=>rfl) rfl rfl ?_ fun q o=>?_
  ·rintro v ⟨rfl,h⟩;refine⟨.bool false,.bool false,?_,?_,fun Mo m=>.inr ⟨h,m,rfl⟩⟩
   ·intro L ρ j;obtain⟨k,g,t,n⟩:=j 0 2 _ rfl rfl;simp only[kO,k,n];rfl
   ·intro F L;rw[Rel]
  refine⟨rfl,?_⟩;refine bO [1000,1001,1002] (V9 a bs f hb) rfl rfl rfl rfl (fun v h=>h) ?_;rintro v Mo ⟨out,r,b,rfl,rfl⟩ _ _;refine⟨rfl,?_⟩;exact cR [1000,1001,1002] rfl rfl rfl rfl (.inl ⟨out,r,b,rfl,rfl⟩)
 refine((h.toX (Pp:=fun _=>False)).view (vw.refl _) (fun Mo c e=>?_) fun _ h=>h).noPan;rcases e with h | ⟨b,⟨d,M1,rfl,p,M2,rfl,l,M3,rfl,rfl⟩,rfl⟩
 ·exact⟨Mo,vw.refl _,.inl h⟩
 ·exact⟨_,vw.cons (iH d) (vw.cons (iH p) (vw.cons (iH l) (vw.refl []))),.inr ⟨b,⟨_,_,_,rfl⟩,rfl⟩⟩
theorem R0 (bs:List UInt8) :
  CallsT PZ 17 [.fn 18 [] [.own 1000 0,.own 1002 0,.own 1003 0]] (PB bs 0 0) (fun Mo c=>(∃x y r,qC bs=some ((x,y),r)/\Mo=PB r x y/\c=.bool true)\/(qC bs=none/\Pz Mo/\c=.bool false)):=by
 have h:CallsT PZ 17 [.fn 18 [] [.own 1000 0,.own 1002 0,.own 1003 0]] (PB bs 0 0) (fun Mo c=>(∃x y r,qC bs=some ((x,y),r)/\Mo=PB r x y/\c=.bool true)\/(qC bs=none/\qK (PB bs 0 0) Mo/\c=.bool false)):=by
  refine gm (PS:=fun v=>v=eS/\qC bs=none) (ns:=[1]) (out:=H9) Tryd.func17 uV (oL.mono u7 fun v h=>h.1) (fun v h=>rfl) rfl rfl ?_ fun p n=>?_
  ·rintro v ⟨rfl,h⟩;refine⟨.bool false,.bool false,?_,?_,fun Mo l=>.inr ⟨h,l,rfl⟩⟩
   ·intro L ρ e;obtain⟨f,g,t,m⟩:=e 0 2 _ rfl rfl;simp only[kO,f,m];rfl
   ·intro F L;rw[Rel]
  refine⟨rfl,?_⟩;refine bO [1000,1001,1002,1003] (V8 bs) rfl rfl rfl rfl (fun v h=>h) ?_;rintro v Mo ⟨x,y,r,a,rfl,rfl⟩ _ _;refine⟨rfl,?_⟩;exact cR [1000,1001,1002,1003] rfl rfl rfl rfl (.inl ⟨x,y,r,a,rfl,rfl⟩)
 refine((h.toX (Pp:=fun _=>False)).view (vw.refl _) (fun Mo c d=>?_) fun _ h=>h).noPan;rcases d with h | ⟨a,⟨b,M1,rfl,o,M2,rfl,j,M3,rfl,k,M4,rfl,rfl⟩,rfl⟩
 ·exact⟨Mo,vw.refl _,.inl h⟩
 ·exact⟨_,vw.cons (iH b) (vw.cons (iH o) (vw.cons (iH j) (vw.cons (iH k) (vw.refl [])))),.inr ⟨a,⟨_,_,_,_,rfl⟩,rfl⟩⟩
def qf (a d:List UInt8):List UInt8×Int :=
 match qC d with
 | none=>([],16)
 | some ((n,s),r)=>if n≠a.length\/s≠jJ a then([],17)
  else match m7 a r with
   | some (out,_)=>if cD a out=d then(out,0) else([],16)
   | none=>([],16)
end Go.Fr.Tryd
namespace Go.Fr.Tryd
open Go Go.Fr.T
theorem ofNat_toNat {n:Nat}(h:n<256):(UInt8.ofNat n).toNat=n:=by
 rw[UInt8.toNat_ofNat'];omega
theorem xh {f k z m:Nat}{r:List UInt8}(a:m<128) (b:0<m\/k=0):mB (f+1) k z (bQ m++r)=some (LW (z+m*128 ^ k),r):=by
 rw[bQ,dif_pos a];simp only[Xg,Xz,mB];rw[ofNat_toNat (by omega),j3 a,j3 b]
theorem C6 {f k z m:Nat}{r:List UInt8}(a:¬m<128):mB (f+1) k z (bQ m++r)=mB f (k+1) (z+m % 128*128 ^ k) (bQ (m / 128)++r):=by
 rw[bQ,dif_neg a];simp only[Xg,mB];rw[ofNat_toNat (by omega),vv (by omega),Nat.add_sub_cancel_left]
theorem FB (m k:Nat):m % 128*128 ^ k+m / 128*128 ^ (k+1)=m*128 ^ k:=by
 have h:m % 128+128*(m / 128)=m:=Nat.mod_add_div m 128;have e:128 ^ (k+1)=128*128 ^ k:=by rw[Nat.pow_succ,Nat.mul_comm]
 rw[e,<-Nat.mul_assoc,Nat.mul_comm (m / 128) 128,<-Nat.add_mul,h]
theorem xj:∀(f k z m:Nat) (r:List UInt8),(0<m\/k=0)->m<128 ^ (f+1)->mB (f+1) k z (bQ m++r)=some (LW (z+m*128 ^ k),r)
 | 0,k,z,m,r,a,h=>xh (by simpa using h) a
 | f+1,k,z,m,r,a,h=>by
  by_cases b:m<128
  ·exact xh b a
  ·rw[C6 b,xj f (k+1) _ (m / 128) r (.inl (by omega)) (by rw[Nat.pow_succ] at h;omega),Nat.add_assoc,FB]
theorem NR (n:Int):LW (zz n)=n:=by
 unfold LW zz;split<;>split<;>omega
theorem nP (n:Int) (r:List UInt8) (a:-1099511627776<=n) (b:n<=1099511627776):getD (bQ (zz n)++r)=some (n,r):=by
 have h:=xj 5 0 0 (zz n) r (.inr rfl) (Nat.lt_of_le_of_lt (Mc n 1099511627776 (by omega) (by omega)) (by decide));unfold getD;rw[h];simp only[Nat.pow_zero,Nat.mul_one,Nat.zero_add,NR]
theorem FC (b r:List UInt8):takeD ((b.length:Nat):Int) (b++r)=some (b,r):=by
 unfold takeD;rw[j3 ⟨by omega,by rw[W4];omega⟩];simp
theorem qg (x:List UInt8) (i t:Nat):(ct x i)[t]?=if t<32 then x[32*i+t]? else none:=by
 unfold ct;rw[Xx];split
 ·rw[Xu]
 ·rfl
theorem iy (x:List UInt8) (i:Nat):(ct x i).length=min 32 (x.length-32*i):=by
 unfold ct;rw[Xk,XM]
theorem FD {x y:List UInt8}(a:x.length=y.length) (h:∀i<dO y.length,ct x i=ct y i):x=y:=by
 apply XB;intro j
 by_cases b:j<y.length
 ·have:=o6 (fun l:List UInt8=>l[j % 32]?) (h (j / 32) (by unfold dO;omega));simp only[qg] at this;rw[j3 (by omega),j3 (by omega),show 32*(j / 32)+j % 32=j by omega] at this;exact this
 ·rw[Xa (by omega),Xa (by omega)]
theorem En {out b:List UInt8}{o:Nat}(h:o+b.length<=out.length) (j:Nat):(qe out o b)[j]?=if o<=j/\j<o+b.length then b[j-o]? else out[j]?:=by
 unfold qe;rw[W7,List.getElem?_append];have c:(out.take o).length=o:=by rw[Xk];omega
 rw[c];split
 ·rename_i a;rw[vv (by omega),Xx,j3 a]
 ·rename_i a;rw[List.getElem?_append];split
  ·rename_i d;rw[j3 (by omega)]
  ·rename_i d;rw[vv (by omega),Xu];congr 1;omega
theorem Ig {out b:List UInt8}{i:Nat}(f:out.length=b.length) (hi:32*i<b.length) (j:Nat):ct (qe out (32*i) (ct b i)) j=if j=i then ct b i else ct out j:=by
 have e:=iy b i;have c:32*i+(ct b i).length<=out.length:=by omega
 apply XB;intro t;rw[qg,En c]
 by_cases d:j=i
 ·subst d;rw[j3 rfl]
  by_cases a:t<32
  ·rw[j3 a]
   by_cases h:32*j+t<b.length
   ·rw[j3 (by omega),show 32*j+t-32*j=t by omega]
   ·rw[vv (by omega),Xa (by omega),Xa (by omega)]
  ·rw[vv a,Xa (by omega)]
 ·rw[vv d,qg out]
  by_cases a:t<32
  ·rw[j3 a,j3 a,vv (by omega)]
  ·rw[vv a,vv a]
def Up:Int->List Nat->Prop
 | _,[]=>True
 | p,i::l=>p<i/\Up i l
theorem Eo (b:List UInt8) (hb:b.length<=268435456):∀(l:List Nat) (p:Int) (out:List UInt8),-1<=p->Up p l->(∀i∈l,i<dO b.length)->p<=1073741824->out.length=b.length ->
  (∀i<dO b.length,i∉l->ct out i=ct b i)->sK b.length l.length p out (xA b p l)=some (b,[])
 | [],p,out,_,_,_,_,c,h=>by
  have:out=b:=FD c fun i hi=>h i hi (by simp);rw[this];rfl
 | i::l,p,out,s,n,m,q,c,h=>by
  have k:=m i (by simp);have hi:=Ao k;have r:dO b.length<=1073741824:=by unfold dO;omega
  have a:(ct out i).length=(ct b i).length:=by rw[iy,iy,c]
  show fK getD _ (bQ (zz (i-p))++(ct b i++xA b i l))=_;rw[aj (nP (i-p) _ (by have:=n.1;omega) (by omega))];have e:p+((i:Int)-p)=i:=by omega
  rw[e];rw[j3 ⟨by omega,by omega⟩];rw[show((i:Int)).toNat=i from rfl,a,aj (FC _ _)];refine Eo b hb l i _ (by omega) n.2 (fun j d=>m j (by simp[d])) (by omega) ?_ fun j d o=>?_
  ·rw[nO (by have:=iy b i;omega),c]
  ·rw[Ig c hi];split
   ·rename_i e;rw[e]
   ·rename_i f;exact h j d (by simp[f,o])
theorem xk (f:Nat->Bool):∀(n m:Nat) (p:Int),p<m->Up p ((List.range' m n).filter f)
 | 0,m,p,h=>by simp[Up]
 | n+1,m,p,h=>by
  rw[List.range'_succ,List.filter_cons];split
  ·exact⟨h,xk f n (m+1) m (by omega)⟩
  ·exact xk f n (m+1) p (by omega)
theorem NS (a b:List UInt8):Up (-1) (jG a b):=by
 unfold jG;rw[List.range_eq_range'];exact xk _ _ 0 (-1) (by omega)
theorem Lx {x y:List UInt8}(h:x <+: y) {t:Nat}(a:t<x.length):y[t]?=x[t]?:=by
 obtain⟨s,rfl⟩:=h;rw[W8 a]
theorem FE (a b:List UInt8) (i:Nat) (h:ct b i <+: ct a i):ct (Am a b.length) i=ct b i:=by
 apply XB;intro t;have j:(a.take b.length).length<=b.length:=by rw[Xk];omega
 rw[qg]
 by_cases e:t<(ct b i).length
 ·have d:=Lx h e;have c:=iy b i;rw[<-d,qg,j3 (by omega),j3 (by omega)];unfold Am;have f:32*i+t<a.length:=by
   have:=h.length_le;have:=iy a i;omega
  rw[En (by simp;omega),j3 (by rw[Xk];omega),Nat.sub_zero,Xx,j3 (by omega)]
 ·have c:=iy b i;rw[Xa (by omega:(ct b i).length<=t)];split
  ·rw[Xa (by rw[sL];omega)]
  ·rfl
def sM (b:List UInt8):List Nat->Nat
 | []=>0
 | i::l=>(ct b i).length+sM b l
theorem Ep (b:List UInt8):∀(p:Int) (l:List Nat),sM b l+l.length<=(xA b p l).length
 | p,[]=>by simp[sM,xA]
 | p,i::l=>by
  have a:=Ep b i l;have c:=nM (zz (i-p));simp only[sM,xA,W4,Xh];omega
theorem BX (b:List UInt8):∀(l m:List Nat),sM b (l++m)=sM b l+sM b m
 | [],m=>by simp[sM]
 | i::l,m=>by simp only[Xg,sM,BX b l m];omega
theorem y8 (a b:List UInt8):∀k:Nat,min (32*k) b.length<=min (32*k) a.length+sM b ((List.range k).filter (rI a b))
 | 0=>by simp
 | k+1=>by
  have d:=y8 a b k;have hb:=iy b k;rw[List.range_succ,List.filter_append,BX];cases e:rI a b k with
  | true =>
   simp only[List.filter_cons,e,Xm,List.filter_nil,sM];omega
  | false =>
   have h:ct b k <+: ct a k:=by simpa[rI] using e
   have c:=h.length_le;have f:=iy a k;simp only[List.filter_cons,e,List.filter_nil];simp only[W9,Xy,sM];omega
theorem Ly (a b:List UInt8):b.length<=a.length+(xA b (-1) (jG a b)).length:=by
 have c:=y8 a b (dO b.length);have e:=Ep b (-1) (jG a b);have d:b.length<=32*dO b.length:=by unfold dO;omega
 have f:sM b ((List.range (dO b.length)).filter (rI a b))=sM b (jG a b):=rfl;omega
theorem y9 (a b:List UInt8) (d:a.length<=268435456):qC (cD a b)=some (((a.length:Int),jJ a),kT [(b.length:Int),jJ b,((jG a b).length:Int)]++xA b (-1) (jG a b)):=by
 have c:=ju a;have e:cD a b=bQ (zz (a.length:Int))++(bQ (zz (jJ a))++(kT [(b.length:Int),jJ b,((jG a b).length:Int)]++xA b (-1) (jG a b))):=by
  simp only[cD,mR,kT,W7]
 unfold qC;rw[e,aj (nP _ _ (by omega) (by omega)),aj (nP _ _ (by omega) (by omega))];rfl
theorem uw (a b:List UInt8) (j:a.length<=268435456) (hb:b.length<=268435456):qf a (cD a b)=(b,0):=by
 have k:=ju b;have d:(jG a b).length<=268435456:=by have:=u9 a b;unfold dO at this;omega
 have f:m7 a (kT [(b.length:Int),jJ b,((jG a b).length:Int)]++xA b (-1) (jG a b))=some (b,[]):=by
  have e:kT [(b.length:Int),jJ b,((jG a b).length:Int)]++xA b (-1) (jG a b)=bQ (zz (b.length:Int))++(bQ (zz (jJ b))++(bQ (zz ((jG a b).length:Int))++xA b (-1) (jG a b))):=by
   simp only[kT,W7,Xz]
  unfold m7;rw[e,aj (nP _ _ (by omega) (by omega)),aj (nP _ _ (by omega) (by omega)),aj (nP _ _ (by omega) (by omega))];unfold BW;have l:=Ly a b;rw[j3 ⟨⟨by omega,by omega⟩,by omega⟩];refine Eo b hb (jG a b) (-1) (Am a b.length) (by omega) (NS a b) (fun i hi=>Ai hi) (by omega) (sL a b.length) fun i hi c=>?_;refine FE a b i ?_;have:¬(rI a b i=true):=fun h=>c (by simp only[jG,List.mem_filter,List.mem_range];exact⟨hi,h⟩);simpa[rI] using this
 unfold qf;rw[y9 a b j];simp only[];rw[vv (by simp),f];simp
theorem BZ (c a b:List UInt8) (d:a.length<=268435456) (h:a.length≠c.length\/jJ a≠jJ c):qf c (cD a b)=([],17):=by
 unfold qf;rw[y9 a b d];simp only[];rw[j3 (by rcases h with h | h;exact .inl (by omega);exact .inr h)]
end Go.Fr.Tryd
namespace Go.Fr.Tryd
open Go Go.RowKit Go.Proofs Go.Fr Go.Fr.T Go.Fr.Api Go.Fr.Dm
def rK:Wd:=⟨[⟨true,-1,.mk 2 2 0 0 [] false [] []⟩],[],[⟨0,[⟨1,0,0,0,0,[.mk 1 0 0 (-3) [] false [] [],.mk 6 0 0 0 [] true [0,-1] [0]],[4,5]⟩],[⟨0,1,false,true,false⟩],0,6,2,[]⟩],[[]],[⟨0,7⟩],1,0,0⟩
theorem R2:CallsT PZ 12 [] [] (iF [] (.agg (uF [] [] 0 rK))):=by
 refine au Tryd.func12 JW rfl fun a _=>?_;exact bD rfl rfl
theorem xq {z:Nat}(h:z<128):bQ z=[UInt8.ofNat z]:=by rw[bQ,dif_pos h]
def jx:List UInt8:=[76,83,1,0,0,0,0,0,0,0,0]
theorem R3:rH w0=jx++rG jx:=by
 have h:uo kW w0=([0,0,0,0,0,0,0,0],true):=by
  simp[w0,uo,bR,aX,bn,N9,kW,zz,xq]
 simp[rH,h,gC,dJ,jx]
def qa:List UInt8:=[2,2,1,4,4,0,0,0,0,0,0,0,2,0,2,2,0,0,0,0,4,2,0,0,5,0,0,0,0,12,0,0,0,0,2,4,0,1,2,0,4,8,10,2,0,2,0,2,0,0,12,4,0,2,0,2,0,14,2,0,0]
theorem Ih:uo kW rK=(qa,true):=by
 simp[rK,qa,uo,bR,aX,bn,N9,kW,zz,xq,Qp,Qu,qb,Qs,Qq,Qr,PO,Qt,yU,Aq,CT,z7]
theorem PA:rH rK=gC (dJ++qa):=by
 unfold rH;rw[Ih,j3 rfl]
theorem R4:oH qa=some rK:=by rfl
theorem FG (b:List UInt8):(gC b).take ((gC b).length-4)=b:=by
 have h:(gC b).length-4=b.length:=by simp[gC,rG]
 rw[h];simp[gC]
theorem Ii (x:List UInt8):xg (gC (dJ++x))=match oH x with | some y=>(some y,0) | none=>(none,16):=by
 have a:¬(gC (dJ++x)).length<7:=by simp[gC,rG,dJ]
 have c:dJ <+: gC (dJ++x):=⟨x++rG (dJ++x),by simp[gC]⟩;have b:(dJ++x).drop 3=x:=by simp[dJ]
 unfold xg;rw[vv (fun h=>h.elim a (fun h=>h c)),FG,vv (fun h=>h rfl),b];cases oH x<;>rfl
theorem R5:xg (rH rK)=(some rK,0):=by rw[PA,Ii,R4]
def wZ:List UInt8:=jx++[0,0,0,0]
theorem R6:xg wZ=(none,17):=by
 have a:wZ.take (wZ.length-4)=jx:=rfl;have c:¬gC jx=wZ:=by
  intro h;have b:rG jx=[0,0,0,0]:=by
   have:=List.append_cancel_left (h:jx++rG jx=jx++[0,0,0,0]);exact this
  exact vz b (by decide)
 unfold xg;rw[vv (fun h=>h.elim (by decide) (fun h=>h ⟨[0,0,0,0,0,0,0,0,0,0,0,0],rfl⟩)),a,j3 c]
def dL:List UInt8:=List.replicate 40 1
def qh:List UInt8:=dL.set 39 2
theorem R7:jG dL qh=[1]:=by decide
theorem NT:jJ dL≠jJ qh:=by decide
theorem Ij:cD dL qh=bQ (zz 40)++bQ (zz (jJ dL))++bQ (zz 40)++bQ (zz (jJ qh))++[2,4]++[1,1,1,1,1,1,1,2]:=by
 have a:bQ (zz 1)=[2]:=xq (by decide);have c:bQ (zz (((1:Nat):Int) - -1))=[4]:=xq (by decide);have b:ct qh 1=[1,1,1,1,1,1,1,2]:=by decide
 have d:(dL.length:Int)=40:=by decide
 have f:(qh.length:Int)=40:=by decide
 have e:(([1]:List Nat).length:Int)=1:=rfl;simp only[cD,mR,R7,kT,xA,d,f,e,a,c,b,W7,Xl,Xz,Xg]
theorem pat1:qf dL (cD dL qh)=(qh,0):=uw _ _ (by decide) (by decide)
theorem pat2:qf qh (cD dL qh)=([],17):=BZ qh dL qh (by decide) (.inr NT)
def Sr:Md:=⟨[],[],0⟩
def Ob:Md:=⟨[],[],5⟩
theorem PD:C3 Ob Ob rK rK=true:=by unfold C3;rw[<-jw rfl];simp
theorem PE:C3 Ob Sr rK rK=false:=by
 unfold C3;rw[<-bJ (by intro h;injection h with _ _ h;cases h)];rfl
theorem R8:FJ w0:=by simp[FJ,w0]
theorem Ik:FJ rK:=by simp[FJ,rK,Ru,Rw,Rv,vsB,Fm,HK]
theorem NU {a d:List UInt8}(h:qC d=none):qf a d=([],16):=by unfold qf;rw[h]
theorem NV {a d r:List UInt8}{n s:Int}(h:qC d=some ((n,s),r)) (k:n≠a.length\/s≠jJ a):qf a d=([],17):=by
 unfold qf;rw[h];simp only[];rw[j3 k]
theorem NW {a d r:List UInt8}{n s:Int}(h:qC d=some ((n,s),r)) (c:n=a.length) (b:s=jJ a) (e:m7 a r=none):qf a d=([],16):=by
 unfold qf;rw[h];simp only[];rw[vv (fun k=>k.elim (fun k=>k c) (fun k=>k b)),e]
theorem NX {a d r b out:List UInt8}{n s:Int}(h:qC d=some ((n,s),r)) (f:n=a.length) (c:s=jJ a) (e:m7 a r=some (out,b)):qf a d=if cD a out=d then(out,0) else([],16):=by
 unfold qf;rw[h];simp only[];rw[vv (fun k=>k.elim (fun k=>k f) (fun k=>k c)),e]
theorem Il {d r:List UInt8}{p:Int×Int}(h:qC d=some (p,r)):r.length<=d.length:=by
 obtain⟨x,e,b,h⟩:=mE h;obtain⟨y,a,c,h⟩:=mE h;have f:=(lD b).2;have j:=(lD c).2;have h:some ((x,y),a)=some (p,r):=h;injection h with h;injection h with _ h
 rw[<-h];omega
set_option maxRecDepth 20000 in
theorem t7 (a d:List UInt8) (x:a.length<=268435456) (hb:d.length<=268435456) :
  CallsT PZ 7 [.sl (af a),.sl (af d)] [] (iF [] (.tup [.sl (af (qf a d).1),IC (qf a d).2])):=by
 have h:(af a).length=a.length:=aK;have z:=R0 d;have l:=@NU a d;have k:=@NV a d;have p:=@NW a d;have m:=@NX a d;have q:=@Il d;generalize qf a d=pd at l k p m ⊢;refine au Tryd.func7 Nj rfl fun hw ac=>?_;refine Ah [6,12,7,8] z rfl rfl rfl rfl ?_;rintro v Mo (⟨n,s,r,f,rfl,rfl⟩ | ⟨f,⟨p1,w,t,p4,rfl⟩,rfl⟩) _ _
 ·refine⟨rfl,?_⟩;have u:=q f;have h2:=RZ a r x (by omega);refine aH (fun b=>?_) (fun b=>?_)
  ·have b:(!decide (n=((af a).length:Int)))=true:=b;have b:n≠a.length:=by rw[h] at b;simpa using b
   exact bD rfl (by rw[k f (.inl b)];rfl)
  have b:(!decide (n=((af a).length:Int)))=false:=b;have b:n=a.length:=by rw[h] at b;simpa using b
  refine jq (t9 a) rfl fun _=>?_;refine aH (fun c=>?_) (fun c=>?_)
  ·have c:(!decide (s=jJ a))=true:=c;exact bD rfl (by rw[k f (.inr (by simpa using c))];rfl)
  have c:(!decide (s=jJ a))=false:=c;have c:s=jJ a:=by simpa using c
  refine Ah [6,12,9] h2 rfl rfl rfl rfl ?_;rintro v Mo (⟨out,r',j,rfl,rfl⟩ | ⟨j,⟨p1,w,t,rfl⟩,rfl⟩) _ _
  ·refine⟨rfl,?_⟩;have y:=Ie j;refine bL (t8 a out (by omega) (by omega)) rfl fun _=>?_;refine bL (t22 (cD a out) d) rfl fun _=>?_;have o:=m f b c j;refine aH (fun e=>?_) (fun e=>?_)
   ·have e:(!decide (cD a out=d))=true:=e;exact bD rfl (by rw[o,vv (by simpa using e)];rfl)
   ·have e:(!decide (cD a out=d))=false:=e;exact bD rfl (by rw[o,j3 (by simpa using e)];rfl)
  ·refine⟨rfl,?_⟩;exact bD rfl (by rw[p f b c j];rfl)
 ·refine⟨rfl,?_⟩;exact bD rfl (by rw[l f];rfl)
theorem PF:¬(true=false):=by decide
theorem Ss (a b:List UInt8):af a++af b=af (a++b):=by simp[af]
set_option maxRecDepth 100000 in
theorem t6:CallsT PZ 6 [] [] (iF [] (.bool true)):=by
 have y:CallsT PZ 10 [.agg (uF [] [] 0 w0)] [] (iF [.row 5 1 (af (rH w0))] (.rw 1000)):=Sj [] [] 0 w0 R8 (by
  have:uo kW w0=([0,0,0,0,0,0,0,0],true):=by simp[w0,uo,bR,aX,bn,N9,kW,zz,xq]
  rw[this];decide)
 have j:CallsT PZ 10 [.agg (uF [] [] 0 rK)] [] (iF [.row 5 1 (af (rH rK))] (.rw 1000)):=Sj [] [] 0 rK Ik (by rw[Ih];decide);have ba:(rH rK).length<=70368744177664:=by rw[PA];simp[gC,rG,dJ,qa]
 have aa:CallsT PZ 11 [.agg [.sl [],.sl [],IC 5],.sl (af (rH rK))] [] (iF [] (.tup [.agg (uF [] [] 5 rK),IC 0])):=by
  have:=Sk [] [] 5 (rH rK) ba;rw[R5] at this;exact this
 have s:CallsT PZ 11 [.agg [.sl [],.sl [],IC 0],.sl (af wZ)] [] (iF [] (.tup [.agg (uF [] [] 0 w0),IC 17])):=by
  have:=Sk [] [] 0 wZ (by decide);rw[R6] at this;exact this
 have e:=R3;generalize rH w0=n at y e;have a:(af dL).set 39 [iE 2]=af qh:=by simp[af,qh,List.map_set]
 have h8:CallsT PZ 8 [.sl (af dL),.sl ((af dL).set 39 [iE 2])] [] (iF [] (.sl (af (cD dL qh)))):=by
  rw[a];exact t8 dL qh (by decide) (by decide)
 have c:(cD dL qh).length<=268435456:=by
  have q1:=mD (jJ dL) (by have:=ju dL;omega) (by have:=ju dL;omega);have q2:=mD (jJ qh) (by have:=ju qh;omega) (by have:=ju qh;omega);have q3:(bQ (zz 40)).length<=10:=mD 40 (by omega) (by omega);rw[Ij];simp only[W4,Xh,XA];omega
 have h7:CallsT PZ 7 [.sl (af dL),.sl (af (cD dL qh))] [] (iF [] (.tup [.sl (af qh),IC 0])):=by
  have:=t7 dL (cD dL qh) (by decide) c;rw[pat1] at this;exact this
 have o:CallsT PZ 7 [.sl ((af dL).set 39 [iE 2]),.sl (af (cD dL qh))] [] (iF [] (.tup [.sl (af []),IC 17])):=by
  have:=t7 qh (cD dL qh) (by decide) c;rw[pat2] at this;rw[a];exact this
 have k:CallsT PZ 9 [.sl ((af dL).set 39 [iE 2])] [] (iF [] (IC (jJ qh))):=by rw[a];exact t9 qh
 have b:=Ij;have b1:=ju dL;have b2:=ju qh;have k1:CallsT PZ 14 [IC 40] [] (iF [.row 5 1 (af (bQ (zz 40)))] (.rw 1000)):=RU 40 (by omega) (by omega);have k2:=RU (jJ dL) (by omega) (by omega);have k3:=RU (jJ qh) (by omega) (by omega);have m1:(bQ (zz 40)).length<=10:=mD 40 (by omega) (by omega);have m2:=mD (jJ dL) (by omega) (by omega);have m3:=mD (jJ qh) (by omega) (by omega);have d:(sJ rK).length<=70368744177664:=XK (Xd (by kernel_rfl:Nat.ble (sJ rK).length 100000=true)) (by decide);have r:CallsT PZ 16 [.agg (uF [] [] 5 rK),.agg (uF [] [] 5 rK)] [] (iF [] (.bool true)):=by
  have:=t16 Ob Ob rK rK Ik Ik d d;rw[PD] at this;exact this
 have ab:CallsT PZ 16 [.agg (uF [] [] 5 rK),.agg (uF [] [] 0 rK)] [] (iF [] (.bool false)):=by
  have:=t16 Ob Sr rK rK Ik Ik d d;rw[PE] at this;exact this
 have l:m9 ⟨n.toArray⟩ ⟨(jx++rG jx).toArray⟩=true:=by rw[mQ,e];simp
 have v:∀x:List UInt8,m9 ⟨x.toArray⟩ ⟨x.toArray⟩=true:=fun x=>by rw[mQ];simp
 generalize bQ (zz 40)=v1 at k1 m1 b c;generalize bQ (zz (jJ dL))=m at k2 m2 b c;generalize bQ (zz (jJ qh))=v3 at k3 m3 b c;generalize cD dL qh=t at h8 h7 o b;generalize rH rK=ebE at j aa;have q:CallsT PZ 13 [IC 40,iE 1] [] (iF [.row 5 1 (af dL)] (.rw 1000)):=V7 40 1 (by decide);have p:=t9 dL;have u:(af dL).length=40:=by rw[aK];rfl
 have f:(af dL)[39]?=some [iE 1]:=rfl;have w:=VI jx
 clear c
 have aE:(rG jx).length=4:=rfl;generalize rG jx=d4 at e l w aE;obtain⟨zd,am,az⟩:∃zd,af jx++af d4=af zd/\m9 ⟨n.toArray⟩ ⟨zd.toArray⟩=true:=⟨jx++d4,Ss _ _,l⟩
 clear e l
 generalize jJ dL=n1 at p k2 b1;generalize jJ qh=n2 at k k3 b2;generalize qh=tb at a h7;generalize dL=fb at q p u f a h8 h7 o k;have z:af v1++af m++af v1++af v3++af [2,4]++af [1,1,1,1,1,1,1,2]=af t:=by rw[b];simp only[Ss]
 obtain⟨d2,ar,av⟩:∃d2,af v1++af m++af v1++af v3++af [2,4]++af [1,1,1,1,1,1,1,2]=af d2/\m9 ⟨t.toArray⟩ ⟨d2.toArray⟩=true:=⟨t,z,v t⟩;obtain⟨t2,ap,al⟩:∃t2,(af fb).set 39 [iE 2]=af t2/\m9 ⟨tb.toArray⟩ ⟨t2.toArray⟩=true:=⟨tb,a,v tb⟩
 clear b z
 refine au Tryd.func6 Ni rfl fun hw _=>?_;refine callO [] [19] y rfl rfl rfl rfl rfl fun _ _=>?_;refine bL R2 rfl fun _=>?_;refine callO [] [23] j rfl rfl rfl rfl rfl fun _ _=>?_;refine uh [23] [] [] aa ⟨_,rfl,rfl,rfl,rfl,rfl,fun _ _=>?_⟩;refine bL R2 rfl fun _=>?_;refine⟨Nat.succ_pos 3,fA (bs:=jx),?_⟩;refine qB (bs:=[0,0,0,0]) 11 rfl (by decide) ?_;refine uh [34] [] [] s ⟨_,rfl,rfl,rfl,rfl,rfl,fun _ _=>?_⟩;refine callO [] [38] q rfl rfl rfl rfl rfl fun _ _=>?_;refine callO [] [39] q rfl rfl rfl rfl rfl fun _ _=>?_;refine Mg.mk (by decide) (by rw[u];decide) ?_;refine⟨rfl,?_⟩;refine H7 (es0:=[iE 1]) f rfl ?_;refine uh [38,39] [] [] h8 ⟨_,rfl,rfl,rfl,rfl,rfl,fun _ _=>?_⟩;refine bL h7 rfl fun _=>?_;refine bL o rfl fun _=>?_;refine callO [] [57] k1 rfl rfl rfl rfl rfl fun _ _=>?_;refine bL p rfl fun _=>?_;refine callO [] [60] k2 rfl rfl rfl rfl rfl fun _ _=>?_;refine qB (bs:=m) v1.length aK (by omega) ?_;refine callO [] [62] k1 rfl rfl rfl rfl rfl fun _ _=>?_;refine qB (bs:=v1) (v1.length+m.length) (xV aK aK) (by omega) ?_;refine bL k rfl fun _=>?_;refine callO [] [66] k3 rfl rfl rfl rfl rfl fun _ _=>?_;refine qB (bs:=v3) (v1.length+m.length+v1.length) (xV (xV aK aK) aK) (by omega) ?_;refine qB (bs:=[2,4]) (v1.length+m.length+v1.length+v3.length) (xV (xV (xV aK aK) aK) aK) (by simp only[Xh,XA];omega) ?_;refine gR.mk ⟨n,rfl,?_⟩;refine⟨Nat.succ_pos 10,fA (bs:=[]),?_⟩;refine qB (bs:=jx) 0 rfl (by decide) ?_;refine jq w rfl fun _=>?_;refine qB (bs:=d4) 11 rfl (by omega) ?_;refine gR.mk ⟨zd,am,?_⟩;refine aH (fun _=>?_) (fun h=>vz (az.symm.trans h) PF);refine jq r rfl fun _=>?_;refine jq R2 rfl fun _=>?_;refine jq ab rfl fun _=>?_;refine gR.mk ⟨t,rfl,?_⟩;refine qB (bs:=[1,1,1,1,1,1,1,2]) (v1.length+m.length+v1.length+v3.length+2) (xV (xV (xV (xV aK aK) aK) aK) rfl) (by simp only[Xh,XA];omega) ?_;refine gR.mk ⟨d2,ar,?_⟩;refine aH (fun _=>?_) (fun h=>vz (av.symm.trans h) PF);refine gR.mk ⟨tb,rfl,?_⟩;refine gR.mk ⟨t2,ap,?_⟩;refine aH (fun _=>?_) (fun h=>vz (al.symm.trans h) PF);exact bD rfl rfl
theorem FH (a b:List UInt8) (l:a.length<=1073741824) (hb:b.length<=1048576):(cD a b).length<=268435456:=by
 have c:∀m∈mR a b,Sm m:=by
  intro m d;have h:=ju a;have n:=ju b;have:=u9 a b;unfold dO at this;simp only[mR,WZ,List.not_mem_nil,or_false] at d;unfold Sm;rcases d with rfl | rfl | rfl | rfl | rfl<;>omega
 have f:=tQ _ c;have j:=Aj b (-1) (jG a b) (by omega) (by omega) fun i hi=>by have:=Ai hi;unfold dO at this;omega
 have e:=u9 a b;have k:(mR a b).length=5:=rfl;unfold dO at e;rw[cD,W4];omega
theorem R9 (a b:List UInt8) (c:a.length<=1048576) (hb:b.length<=1048576):CallsT PZ 7 [.sl (af a),.sl (af (cD a b))] [] (iF [] (.tup [.sl (af b),IC 0])):=by
 have:=t7 a (cD a b) (by omega) (FH a b (by omega) hb);rw[uw a b (by omega) (by omega)] at this;exact this
set_option maxRecDepth 20000 in
theorem t3 (a b c:List UInt8):CallsT PZ 3 [.sl (af a),.sl (af b),.sl (af c)] [] (iF [] (.bool true)):=by
 have u:(af a).length=a.length:=aK;have q:(af b).length=b.length:=aK;have r:(af c).length=c.length:=aK;have j:∀x:List UInt8,m9 ⟨x.toArray⟩ ⟨x.toArray⟩=true:=fun x=>by rw[mQ];simp
 obtain⟨x,l,s⟩:∃x,x=b/\m9 ⟨x.toArray⟩ ⟨b.toArray⟩=true:=⟨b,rfl,j b⟩;obtain⟨y,k,p⟩:∃y,y=c/\m9 ⟨y.toArray⟩ ⟨c.toArray⟩=true:=⟨c,rfl,j c⟩;obtain⟨z,o,sz⟩:∃z,z=a/\m9 ⟨z.toArray⟩ ⟨a.toArray⟩=true:=⟨a,rfl,j a⟩;have v:a.length<=3000->b.length<=3000->CallsT PZ 7 [.sl (af a),.sl (af (cD a b))] [] (iF [] (.tup [.sl (af x),IC 0])):=fun m n=>by rw[l];exact R9 a b (by omega) (by omega)
 have w:b.length<=3000->c.length<=3000->CallsT PZ 7 [.sl (af x),.sl (af (cD b c))] [] (iF [] (.tup [.sl (af y),IC 0])):=fun m n=>by rw[l,k];exact R9 b c (by omega) (by omega)
 have t:c.length<=3000->a.length<=3000->CallsT PZ 7 [.sl (af y),.sl (af (cD c a))] [] (iF [] (.tup [.sl (af z),IC 0])):=fun m n=>by rw[k,o];exact R9 c a (by omega) (by omega)
 clear l k o j
 refine au Tryd.func3 Nh rfl fun hw _=>?_;refine bL t6 rfl fun _=>?_;refine aV (fun e=>?_) (fun e=>?_)
 ·exact bD rfl rfl
 refine aV (fun d=>?_) (fun d=>?_)
 ·exact bD rfl rfl
 refine aV (fun f=>?_) (fun f=>?_)
 ·exact bD rfl rfl
 have e:a.length<=3000:=by omega
 have d:b.length<=3000:=by omega
 have f:c.length<=3000:=by omega
 refine bL (t8 a b (by omega) (by omega)) rfl fun _=>?_;refine bL (v e d) rfl fun _=>?_;refine bL (t8 b c (by omega) (by omega)) rfl fun _=>?_;refine bL (w d f) rfl fun _=>?_;refine bL (t8 c a (by omega) (by omega)) rfl fun _=>?_;refine bL (t f e) rfl fun _=>?_;refine gR.mk ⟨x,rfl,?_⟩;refine gR.mk ⟨b,rfl,?_⟩;refine aH (fun _=>?_) (fun h=>vz (s.symm.trans h) PF);refine gR.mk ⟨y,rfl,?_⟩;refine gR.mk ⟨c,rfl,?_⟩;refine aH (fun _=>?_) (fun h=>vz (p.symm.trans h) PF);refine gR.mk ⟨z,rfl,?_⟩;refine gR.mk ⟨a,rfl,?_⟩;exact bD rfl (o6 C.bool sz)
end Go.Fr.Tryd
namespace Go.Fr.Tryd
open Go Go.Fr.T
end Go.Fr.Tryd
namespace Go.Fr.Tryd
open Go Go.RowKit Go.Proofs Go.Fr Go.Fr.T Go.Fr.Api Go.Fr.Dm
end Go.Fr.Tryd
namespace Go.Fr.Tryd
open Go Go.RowKit Go.Proofs Go.Fr Go.Fr.T
theorem Ap {W:World}{p:Prop}(h:p):qO (oM W):=trivial
end Go.Fr.Tryd
