/- Part of the proofs of the statements of this seat. -/
import Derived.Test.YtnlegbokpofcaaaDoorSnP4G
import Derived.Test.YtnlegbokpofcaaaDoorSnIds
import Derived.Deep.DeepWitnessRowRef
set_option maxRecDepth 10000
set_option linter.unusedVariables false
set_option linter.unusedSimpArgs false
namespace Go.Fr.Tryd
open Go Go.RowKit Go.Proofs Go.Fr Go.Fr.T Go.Fr.Api Go.Fr.Dm
def Mh:List ak:=[.op (some 56) (.mov (.t 8)) none,
     .op (some 57) (.mov (.t 9)) none,
     .op (some 58) (.bin .mul (.c (.int .i64 32)) (.t 57)) none,
     .op (some 59) (.slc 1 (.t 56) (some (.t 58)) none) none,
     .op (some 60) (.mov (.t 0)) none,
     .op (some 61) (.mov (.t 8)) none,
     .op (some 62) (.mov (.t 9)) none,
     .op (some 63) (.callD 25 [(.t 61),(.t 62)]) none,
     .op (some 64) (.len (.t 63)) none,
     .pc (some 65) (.call 41 [(.t 60),(.t 64)]) none,
     .op (some 66) (.copyX 5 1 (.t 59) (.t 65)) none]
def BU (k:Nat) (a:Nat) (b:aT):aT :=
 bw (some 64) (IC (a:Int)) (bw (some 63) .any (bw (some 62) .any (bw (some 61) .any (bw (some 60) (.own 1000 0) (bw (some 59) .any (bw (some 58) .any (bw (some 57) .any (bw (some 56) (.rw k) b))))))))
theorem C6 {ρ:Env}{j:Nat}{v:SV}(h:ρ j=v):ρ=put (some j) v ρ:=by
 funext i
 simp only[put];cases e:Nat.beq i j with
 | true=>rw[yo e,h]
 | false=>rfl
theorem NT {PS:oV}{M:TL}{o:aT}{N:TK}(k i:Nat) (out a:List UInt8) (ar:PS.st=none) (hs:M.sub [1000]=some [RB a]) (hk:M.get k=some (.row 5 1 (af out))) (h8:o 8=.rw k) (h9:o 9=IC (i:Int)) (h0:o 0=.own 1000 0)
  (aE:rowsOf M [1000]=[]) (hh:kR M [1000] PS.hb=true) (ch:k≠1000) (hi:32*i<out.length) (cz:out.length<=1073741824)
  (hp:takeD (((ct out i).length:Nat):Int) a=none->PS.ps eS)
  (ba:∀r,(((M.Wi [1000]).kills []).puts [1000] [RB r]).get k=some (.row 5 1 (af out)))
  (hN:∀b r,takeD (((ct out i).length:Nat):Int) a=some (b,r) ->
   N ((((M.Wi [1000]).kills []).puts [1000] [RB r]).set k (.row 5 1 (af (qe out (32*i) b)))) (bw (some 66) .any (bw (some 65) .any (eI [] (BU k (ct out i).length o))))) :
  MS PZ PS Mh M o N:=by
 refine⟨ar,fun G PX u F L ρ hr l=>?_⟩;obtain⟨ad,c,hL,ha,hm⟩:=row_of l hk;obtain⟨a1,c1,t1,cp,n1,bs,e8,e2⟩:=rq (x:=.t 8) l.env h8;rw[hL] at e2;injection e2 with e2
 injection e2 with e2 _ _ _ _
 injection e2 with e3 e4 e5
 subst e3 e4 e5;obtain⟨e9,w9⟩:=dX (x:=.t 9) l.env h9;obtain⟨e0,_⟩:=ep (x:=.t 0) l.env h0;have e8:ρ 8=.v (.slice ad out.length c):=e8;have e9:ρ 9=.v (.int .i64 i):=e9;have e0:ρ 0=.own 1000 0:=e0;have q:out.length<=c/\c<=9223372036854775807:=by
  obtain⟨w,hw⟩:=hr;obtain⟨c',hv⟩:=z8 hw hL;obtain⟨a',e,q1,n,_⟩:=hv.form;injection e with _ _ e
  subst e;exact⟨q1,by unfold maxLen at n;exact n⟩
 have ap:(ct out i).length=min (32*i+32) out.length-min (32*i) out.length:=by
  unfold ct;rw[Xo,XR];omega
 rw[ap] at hp hN;have d:ρ=put (some 8) (.v (.slice ad out.length c)) (put (some 9) (.v (.int .i64 i)) (put (some 0) (.own 1000 0) ρ)) :=
  (C6 e8).trans (p7 (put (some 8) _) ((C6 e9).trans (p7 (put (some 9) _) (C6 e0))))
 generalize p:ρ=ρ1 at d;rw[p] at l
 clear e8 e9 e0
 subst p;rw[d] at l ⊢
 clear d
 refine⟨_,rfl,?_⟩;refine⟨_,rfl,?_⟩;refine⟨_,rfl,?_⟩;refine Fit.Wk (by omega) (by omega) ?_;refine⟨_,rfl,?_⟩;refine mJ.mk (by omega) (by omega) (by omega) ?_;refine⟨_,rfl,?_⟩;refine⟨_,rfl,?_⟩;refine⟨_,rfl,?_⟩;refine⟨_,rfl,?_⟩;refine .frz _ (RZ F ad out.length c i q.1 q.2 (by omega)) fun v F1 Lo ac hR=>?_;obtain⟨rfl,rfl⟩:=hR;refine⟨rfl,fun cb=>?_⟩;refine⟨_,rfl,?_⟩;have hI:∀{L:Loc}(m:Nat),m<=9223372036854775807->aN F1 L (IC (m:Int)) (.v (.int .i64 m)):=fun m hm=>⟨_,rfl,by
  rw[Rel];refine⟨rfl,?_⟩;rw[zC];simp only[IntKind.min,IntKind.max,IntKind.signed,IntKind.bits,Xq];omega⟩
 have RH:=(l.mono ac).put (l.mono ac |>.env 8) (some 56);have any:∀sv,aN F1 L .any sv:=fun sv=>trivial;have RU:=(((RH.put (any (.v (.int .i64 i))) (some 57)).put (any (.v (.int .i64 (32*(i:Int))))) (some 58)).put (any (.v (fu ad c (32*(i:Int)).toNat (out.length:Int).toNat 1))) (some 59));have RT:=RU.put (l.mono ac |>.env 0) (some 60);have aw:=((RT.put (any (.v (.slice ad out.length c))) (some 61)).put (any (.v (.int .i64 i))) (some 62)).put (any (.v (fu ad c (min (32*i) out.length) (min (32*i+32) out.length) 1))) (some 63);have f:=aw.put (hI (min (32*i+32) out.length-min (32*i) out.length) (by omega)) (some 64);rw[h8,h0] at f;have f:TS G F1 L _ M (BU k (min (32*i+32) out.length-min (32*i) out.length) o):=f;have hx:mN PZ PS (zu Mh) 41 [.own 1000 0,IC (((min (32*i+32) out.length-min (32*i) out.length):Nat):Int)] M (BU k (min (32*i+32) out.length-min (32*i) out.length) o) (fun M' av v=>∃b r,takeD (((min (32*i+32) out.length-min (32*i) out.length):Nat):Int) a=some (b,r)/\M'=(((M.Wi [1000]).kills []).puts [1000] [RB r])/\av=eI [] (BU k (min (32*i+32) out.length-min (32*i) out.length) o)/\v=.sl (af b)):=by
  refine bY [1000] (Sg (((min (32*i+32) out.length-min (32*i) out.length):Nat):Int) a) hs rfl rfl rfl (fun v h=>h.1▸hp h.2) ?_ hh;rintro v Mo ⟨b,r,h1,rfl,rfl⟩ _ _;rw[aE];exact⟨rfl,b,r,h1,rfl,rfl,rfl⟩
 have hc:=u F1 L _ M (BU k (min (32*i+32) out.length-min (32*i) out.length) o) 41 [.own 1000 0,IC (((min (32*i+32) out.length-min (32*i) out.length):Nat):Int)] _ _ f (cL f.env [.t 60,.t 64]) hx;refine CallXDPt.imp hc fun F2 L2 v cY db cr _ da hK=>?_;obtain⟨M2,dg,c2,y,z,b,r,hb,rfl,rfl,rfl⟩:=hK;obtain⟨v',s,z⟩:=z;injection s with s
 subst s;obtain⟨a2,c2,rfl,_,ce,hf⟩:=wT z;obtain⟨ax,cx,aa,_,_⟩:=row_of y (ba r);obtain⟨ay,cy,ty,df,ny,xy,q1,n⟩:=rq (x:=.t 56) y.env (k:=k) rfl;have q1:(SV.v (.slice ad out.length c))=.v (.slice ay ny cy):=q1;injection q1 with q1
 injection q1 with q3 q4 q5
 subst q3 q4 q5;rw[aa] at n;injection n with n
 injection n with n _ _ _ _
 injection n with q3 _ q5
 subst q3 q5;obtain⟨j,rfl⟩:∃x,ax=some x:=by
  cases ax with
  | none=>have:=ha rfl;omega
  | some x=>exact⟨x,rfl⟩
 have cw:b.length=min (32*i+32) out.length-min (32*i) out.length:=by
  unfold takeD at hb;split at hb
  case isFalse=>cases hb
  rename_i h;injection hb with hb
  injection hb with hb _
  rw[<-hb,Xo];omega
 have az:fu (some j) cx (32*(i:Int)).toNat (out.length:Int).toNat 1=.slice (some (j.add (32*i*1))) (out.length-32*i) (cx-32*i):=by
  rw[show(32*(i:Int)).toNat=32*i by omega,show(out.length:Int).toNat=out.length by omega];unfold fu;rw[vv (by omega)];rfl
 refine⟨_,rfl,?_⟩;refine⟨.inl ⟨k,out.length-32*i,.slice (some j) out.length cx,out.length,dA out,j,cx,cx-32*i,32*i,b.length,a2,c2,dA b,aa,rfl,az,by omega,rfl,by rw[nK];omega,?_,mD _,fun _=>?_⟩⟩
 ·rcases hf with h | ⟨h1,h2⟩
  ·exact .inl h
  ·exact .inr ⟨by omega,h2⟩
 ·rw[Nat.mul_one,y5];refine⟨_,_,?_,hN b r hb⟩;have h3:=BS y aa (out':=qe out (32*i) b) (nO (by omega)) hm ha;exact(h3.put (c:=.any) trivial (some 65)).put (c:=.any) trivial (some 66)
theorem BV:∀(f k z:Nat) (l:List UInt8) (n:Int) (r:List UInt8),mC f k z l=some (n,r)->z<128 ^ k->f+k=6->(-4398046511104<=n/\n<=4398046511104)/\r.length<l.length
 | 0,_,_,_,_,_,h,_,_=>by simp[mC] at h
 | _+1,_,_,[],_,_,h,_,_=>by simp[mC] at h
 | f+1,k,z,c::d,n,r,h,e,p=>by
  have q:=c.toNat_lt;rw[mC] at h;split at h
  ·rename_i a;split at h
   ·injection h with h
    injection h with h1 h2
    subst h2;have o:z+c.toNat*128 ^ k<128 ^ (k+1):=by
     have:c.toNat*128 ^ k<=127*128 ^ k:=Nat.mul_le_mul_right _ (by omega);rw[Nat.pow_succ];omega
    have j:128 ^ (k+1)<=128 ^ 6:=Nat.pow_le_pow_right (by omega) (by omega);have s:(128:Nat) ^ 6=4398046511104:=by decide
    refine⟨?_,by simp⟩;rw[<-h1];unfold LZ;split<;>omega
   ·cases h
  ·obtain⟨b,m⟩:=BV f (k+1) _ d n r h (by
    have:(c.toNat-128)*128 ^ k<=127*128 ^ k:=Nat.mul_le_mul_right _ (by omega);rw[Nat.pow_succ];omega) (by omega)
   exact⟨b,by simp;omega⟩
theorem lF {l r:List UInt8}{n:Int}(h:getD l=some (n,r)):(-4398046511104<=n/\n<=4398046511104)/\r.length<l.length:=BV 6 0 0 l n r h (by decide) rfl
def sK (size:Nat):Nat->Int->List UInt8->Dec (List UInt8)
 | 0,_,out=>wR out
 | n+1,p,out=>fK getD fun d=>if 0<=p+d/\p+d<dO size then fK (takeD (((ct out (p+d).toNat).length:Nat):Int)) fun b=>sK size n (p+d) (qe out (32*(p+d).toNat) b) else fun _=>none
def Am (a:List UInt8) (size:Nat):List UInt8:=qe (List.replicate size 0) 0 (a.take size)
def BW (a:List UInt8) (s c:Int):Dec (List UInt8):=fun r=>if(0<=s/\s<=(a.length:Int)+r.length)/\0<=c then sK s.toNat c.toNat (-1) (Am a s.toNat) r else none
def m8 (a:List UInt8):Dec (List UInt8):=fK getD fun s=>fK getD fun _=>fK getD fun c=>BW a s c
theorem sL (a:List UInt8) (n:Nat):(Am a n).length=n:=by
 unfold Am;rw[nO (by simp;omega)];simp
theorem C8 (n:Nat):List.replicate n [C.int .u8 0]=af (List.replicate n 0):=by simp[af,iF]
theorem Ao {i n:Nat}(h:i<dO n):32*i<n:=by unfold dO at h;omega
theorem R0 (s:Int) (a:0<=s) (b:s<=4611686018427387904):CallsT PZ 23 [IC s] [] (iK [] (IC ((dO s.toNat:Nat):Int))):=by
 obtain⟨n,rfl⟩:=Int.eq_ofNat_of_zero_le a;exact Sk n (by omega)
set_option maxRecDepth 20000 in
theorem t21 (a bs:List UInt8) (ha:a.length<=268435456) (hb:bs.length<=268435456):CallsTX PZ 21 [.own 1000 0,.sl (af a)] [RB bs]
  (fun Mo c=>∃out r,m8 a bs=some (out,r)/\Mo=[RB r]/\c=.sl (af out)) (fun v=>v=eS/\m8 a bs=none):=by
 have bj:(af a).length=a.length:=aK;refine ai Tryd.func21 J7 rfl fun hw be=>?_;refine rn 1000 (Mb bs) rfl rfl rfl (fun h=>⟨rfl,aR h⟩) fun s r1 e1 _=>?_;refine rn 1000 (Mb r1) rfl rfl rfl (fun h=>⟨rfl,(aj e1).trans (aR h)⟩) fun s2 r2 e2 _=>?_;refine rn 1000 (Mb r2) rfl rfl rfl (fun h=>⟨rfl,(aj e1).trans ((aj e2).trans (aR h))⟩) fun n y e3 _=>?_;have o:m8 a bs=BW a s n y:=(aj e1).trans ((aj e2).trans (aj e3));obtain⟨⟨b1,b2⟩,b3⟩:=lF e1;obtain⟨_,b4⟩:=lF e2;obtain⟨⟨b5,b6⟩,b7⟩:=lF e3;have bc:(af y).length=y.length:=aK;refine aV (fun w=>?_) (fun w=>?_)
 ·refine Fit.Wk (by omega) (by omega) ?_;refine aV (fun h1=>?_) (fun h1=>?_)
  ·refine tO (sN (decide (0<=n))) rfl (fun h=>⟨rfl,?_⟩) fun h2=>?_
   ·rw[o,BW,vv (fun h3=>by have:=XI h;omega)]
   have h2:=Xm h2;have w:0<=s:=w;have h1:s<=(a.length:Int)+y.length:=by omega
   have an:m8 a bs=sK s.toNat n.toNat (-1) (Am a s.toNat) y:=by rw[o,BW,j3 ⟨⟨w,h1⟩,h2⟩]
   have bk:s.toNat<=536870912:=by omega
   have av:(List.replicate s.toNat (0:UInt8)).length=s.toNat:=XL;have z:=R0 s w (by omega);refine sP.mk w (Xw _) (by omega) (by unfold maxLen;omega) ?_;refine LC (k:=36) (out:=List.replicate s.toNat 0) (a:=a) (p7 (fun q=>some (TO.row 5 1 q)) (C8 s.toNat)) rfl rfl ?_;refine bW n.toNat 41 [9,8] ((y,(-1:Int),Am a s.toNat):List UInt8×Int×List UInt8) (fun x=>[IC x.2.1,.rw 36]) (fun x=>[(1000,RB x.1),(36,.row 5 1 (af x.2.2))])
    (fun k x=>sK s.toNat (n.toNat-k) x.2.1 x.2.2 x.1=m8 a bs/\(-1<=x.2.1/\x.2.1<=4294967296)/\x.2.2.length=s.toNat) ⟨an.symm,⟨(by decide:(-1:Int)<=-1),(by decide:(-1:Int)<=4294967296)⟩,sL a s.toNat⟩ (aq rfl) ⟨aq rfl,aq rfl,trivial⟩
    ⟨.inl ⟨_,rfl,.inl ⟨rfl,rfl⟩⟩,.inl ⟨_,rfl,.inl ⟨p7 (fun q=>TO.row 5 1 (af q)) (by rw[Am,av]),rfl⟩⟩,trivial⟩ (fun _=>rfl) (fun _=>rfl) ?_
   rintro k ⟨f,p,out⟩ hk ⟨e,⟨p1,p2⟩,m⟩ _ _ aw;have e:sK s.toNat (n.toNat-k) p out f=m8 a bs:=e;have p1:-1<=p:=p1;have p2:p<=4294967296:=p2;have m:out.length=s.toNat:=m;refine aV (fun u=>?_) (fun ap=>?_)
   ·have u:k<n.toNat:=by omega
    have aa:m8 a bs=fK getD (fun d=>if 0<=p+d/\p+d<dO s.toNat then fK (takeD (((ct out (p+d).toNat).length:Nat):Int)) fun b=>sK s.toNat (n.toNat-(k+1)) (p+d) (qe out (32*(p+d).toNat) b) else fun _=>none) f:=by
     rw[<-e,show n.toNat-k=(n.toNat-(k+1))+1 by omega];rfl
    refine rn 1000 (Mb f) rfl rfl rfl (fun h=>⟨rfl,aa.trans (aR h)⟩) fun d r4 e4 _=>?_;have j:=aa.trans (aj e4);obtain⟨⟨d1,d2⟩,_⟩:=lF e4;refine Fit.Wk (by omega) (by omega) ?_;refine aV (fun t=>?_) (fun t=>?_)
    ·have t:0<=p+d:=t;refine bK z rfl fun _=>?_;refine tO (sN (decide (p+d<((dO s.toNat:Nat):Int)))) rfl (fun h=>⟨rfl,?_⟩) fun g1=>?_
     ·rw[j,vv (fun h3=>by have:=XI h;omega)]
     have g1:=Xm g1;rw[j3 ⟨t,g1⟩] at j;have hi:32*(p+d).toNat<out.length:=by rw[m];exact Ao (by omega)
     refine NT 36 (p+d).toNat out r4 rfl rfl rfl rfl (p7 IC (show p+d=(((p+d).toNat:Nat):Int) by omega)) rfl rfl rfl (by decide) hi (by omega) (fun h=>⟨rfl,j.trans (aR h)⟩) (fun _=>rfl) fun b r5 l=>?_;have ab:=j.trans (aj l);have ba:dO s.toNat<=4294967296:=by unfold dO;omega
     have ag:b.length=(ct out (p+d).toNat).length:=by
      unfold takeD at l;split at l
      case isFalse=>cases l
      rename_i h;injection l with l
      injection l with l _
      rw[<-l,Xo];omega
     have am:32*(p+d).toNat+b.length<=out.length:=by
      rw[ag];unfold ct;rw[Xo,XR];omega
     refine Fit.Wk (by omega) (by omega) ?_;exact⟨(k+1,(r5,p+d,qe out (32*(p+d).toNat) b)),⟨u,ab.symm,⟨by show -1<=p+d;omega,by show p+d<=4294967296;omega⟩,(nO am).trans m⟩,⟨cF,aq rfl,aq rfl,trivial⟩,
      ⟨.inl ⟨_,rfl,.inl ⟨rfl,rfl⟩⟩,.inl ⟨_,rfl,.inl ⟨rfl,rfl⟩⟩,trivial⟩,cG u⟩
    ·have t:¬0<=p+d:=t;refine tO (sN false) rfl (fun _=>⟨rfl,?_⟩) fun h=>by cases h
     rw[j,vv (fun h3=>t h3.1)]
   ·have ap:¬k<n.toNat:=by omega
    have e:wR out f=m8 a bs:=by rw[<-e,show n.toNat-k=0 by omega];rfl
    exact qd [36] [1000] ⟨_,_,rfl,rfl,rfl,out,f,e.symm,rfl,rfl⟩
  ·refine tO (sN false) rfl (fun _=>⟨rfl,?_⟩) fun h=>by cases h
   rw[o,BW,vv (fun h3=>by omega)]
 ·refine tO (sN false) rfl (fun _=>⟨rfl,?_⟩) fun h=>by cases h
  rw[o,BW,vv (fun h3=>by omega)]
theorem FC {n:Int}{l b r:List UInt8}(h:takeD n l=some (b,r)):(b.length:Int)=n/\l=b++r:=by
 unfold takeD at h;split at h
 case isFalse=>cases h
 rename_i k;injection h with h
 injection h with h1 h2
 subst h1 h2;refine⟨?_,(List.take_append_drop _ _).symm⟩;rw[Xo];omega
theorem mF {b c:Type}{f:Dec b}{k:b->Dec c}{l r:List UInt8}{y:c}(h:fK f k l=some (y,r)):∃x a,f l=some (x,a)/\k x a=some (y,r):=by
 unfold fK at h;split at h
 ·cases h
 ·rename_i x a e;exact⟨x,a,e,h⟩
theorem y7 (size:Nat):∀(n:Nat) (p:Int) (out:List UInt8) (bs:List UInt8) (o r:List UInt8),out.length=size->sK size n p out bs=some (o,r)->o.length=size
 | 0,p,out,bs,o,r,a,h=>by
  have h:some (out,bs)=some (o,r):=h;injection h with h;injection h with h _;rw[<-h,a]
 | n+1,p,out,bs,o,r,a,h=>by
  rw[sK] at h;obtain⟨d,f,_,h⟩:=mF h;split at h
  case isFalse=>cases h
  rename_i j;obtain⟨b,e,hb,h⟩:=mF h;have c:=(FC hb).1;have hi:32*(p+d).toNat<out.length:=by rw[a];exact Ao (by omega)
  refine y7 size n _ _ _ o r ?_ h;rw[nO,a];have:(ct out (p+d).toNat).length<=out.length-32*(p+d).toNat:=by
   unfold ct;rw[Xo,XR];omega
  omega
theorem BX {a bs o r:List UInt8}(h:m8 a bs=some (o,r)):o.length<=a.length+bs.length:=by
 obtain⟨s,m,d,h⟩:=mF h;obtain⟨n,j,b,h⟩:=mF h;obtain⟨c,f,e,h⟩:=mF h;have l:=(lF d).2;have q:=(lF b).2;have k:=(lF e).2;unfold BW at h;split at h
 case isFalse=>cases h
 rename_i p;have:=y7 _ _ _ _ _ o r (sL a s.toNat) h;omega
def QB (bs:List UInt8) (o:C):List TO:=[.box 52 [.own 1001 0],RB bs,.box 22 [o]]
theorem Wg (a bs:List UInt8) (b:a.length<=268435456) (hb:bs.length<=268435456):CallsTX PZ 20 [.own 1000 0,.pt [.sl (af a)] 0,.own 1002 0] (QB bs .nils)
  (fun Mo c=>∃out r,m8 a bs=some (out,r)/\Mo=QB r (.sl (af out))/\c=.tup []) (fun v=>v=eS/\m8 a bs=none):=by
 refine ai Tryd.func20 J6 rfl fun f e=>?_;refine bO [1001] (t21 a bs b hb) rfl rfl rfl rfl (fun v h=>h) ?_;rintro v Mo ⟨out,r,d,rfl,rfl⟩ _ _;refine⟨rfl,?_⟩;exact cR [1000,1001,1002] rfl rfl rfl rfl ⟨out,r,d,rfl,rfl⟩
def PD (Mo:List TO):Prop:=∃b a c,Mo=[.win 52 b [] [],.win 54 a [] [],.win 22 c [] []]
def PE (Mo:List TO):Prop:=∃b a c d,Mo=[.win 52 b [] [],.win 54 a [] [],.win 3 c [] [],.win 3 d [] []]
theorem R2 (a bs:List UInt8) (e:a.length<=268435456) (hb:bs.length<=268435456) :
  CallsT PZ 17 [.fn 20 [] [.own 1000 0,.pt [.sl (af a)] 0,.own 1002 0]] (QB bs .nils) (fun Mo c=>(∃out r,m8 a bs=some (out,r)/\Mo=QB r (.sl (af out))/\c=.bool true)\/(m8 a bs=none/\PD Mo/\c=.bool false)):=by
 have h:CallsT PZ 17 [.fn 20 [] [.own 1000 0,.pt [.sl (af a)] 0,.own 1002 0]] (QB bs .nils) (fun Mo c=>(∃out r,m8 a bs=some (out,r)/\Mo=QB r (.sl (af out))/\c=.bool true)\/(m8 a bs=none/\qK (QB bs .nils) Mo/\c=.bool false)):=by
  refine gm (PS:=fun v=>v=eS/\m8 a bs=none) (ns:=[1]) (out:=Ic) Tryd.func17 uV (oL.mono u7 fun v h=>h.1) (fun v h=>rfl) rfl rfl ?_ fun q k=>?_
  ·rintro v ⟨rfl,h⟩;refine⟨.bool false,.bool false,?_,?_,fun Mo f=>.inr ⟨h,f,rfl⟩⟩
   ·intro L ρ m;obtain⟨j,g,t,n⟩:=m 0 2 _ rfl rfl;simp only[kP,j,n];rfl
   ·intro F L;rw[Rel]
  refine⟨rfl,?_⟩;refine bO [1000,1001,1002] (Wg a bs e hb) rfl rfl rfl rfl (fun v h=>h) ?_;rintro v Mo ⟨out,r,b,rfl,rfl⟩ _ _;refine⟨rfl,?_⟩;exact cR [1000,1001,1002] rfl rfl rfl rfl (.inl ⟨out,r,b,rfl,rfl⟩)
 refine((h.toX (Pp:=fun _=>False)).view (vw.refl _) (fun Mo c l=>?_) fun _ h=>h).noPan;rcases l with h | ⟨b,⟨p,M1,rfl,o,M2,rfl,d,M3,rfl,rfl⟩,rfl⟩
 ·exact⟨Mo,vw.refl _,.inl h⟩
 ·exact⟨_,vw.cons (iH p) (vw.cons (iH o) (vw.cons (iH d) (vw.refl []))),.inr ⟨b,⟨_,_,_,rfl⟩,rfl⟩⟩
theorem R3 (bs:List UInt8) :
  CallsT PZ 17 [.fn 18 [] [.own 1000 0,.own 1002 0,.own 1003 0]] (PB bs 0 0) (fun Mo c=>(∃x y r,qB bs=some ((x,y),r)/\Mo=PB r x y/\c=.bool true)\/(qB bs=none/\PE Mo/\c=.bool false)):=by
 have h:CallsT PZ 17 [.fn 18 [] [.own 1000 0,.own 1002 0,.own 1003 0]] (PB bs 0 0) (fun Mo c=>(∃x y r,qB bs=some ((x,y),r)/\Mo=PB r x y/\c=.bool true)\/(qB bs=none/\qK (PB bs 0 0) Mo/\c=.bool false)):=by
  refine gm (PS:=fun v=>v=eS/\qB bs=none) (ns:=[1]) (out:=Ic) Tryd.func17 uV (oL.mono u7 fun v h=>h.1) (fun v h=>rfl) rfl rfl ?_ fun p f=>?_
  ·rintro v ⟨rfl,h⟩;refine⟨.bool false,.bool false,?_,?_,fun Mo d=>.inr ⟨h,d,rfl⟩⟩
   ·intro L ρ k;obtain⟨e,g,t,m⟩:=k 0 2 _ rfl rfl;simp only[kP,e,m];rfl
   ·intro F L;rw[Rel]
  refine⟨rfl,?_⟩;refine bO [1000,1001,1002,1003] (Wc bs) rfl rfl rfl rfl (fun v h=>h) ?_;rintro v Mo ⟨x,y,r,a,rfl,rfl⟩ _ _;refine⟨rfl,?_⟩;exact cR [1000,1001,1002,1003] rfl rfl rfl rfl (.inl ⟨x,y,r,a,rfl,rfl⟩)
 refine((h.toX (Pp:=fun _=>False)).view (vw.refl _) (fun Mo c j=>?_) fun _ h=>h).noPan;rcases j with h | ⟨a,⟨o,M1,rfl,n,M2,rfl,b,M3,rfl,l,M4,rfl,rfl⟩,rfl⟩
 ·exact⟨Mo,vw.refl _,.inl h⟩
 ·exact⟨_,vw.cons (iH o) (vw.cons (iH n) (vw.cons (iH b) (vw.cons (iH l) (vw.refl [])))),.inr ⟨a,⟨_,_,_,_,rfl⟩,rfl⟩⟩
def jy (a d:List UInt8):List UInt8×Int :=
 match qB d with
 | none=>([],16)
 | some ((n,s),r)=>if n≠a.length\/s≠iW a then([],17)
  else match m8 a r with
   | some (out,_)=>if cA a out=d then(out,0) else([],16)
   | none=>([],16)
end Go.Fr.Tryd
namespace Go.Fr.Tryd
open Go Go.Fr.T
theorem ofNat_toNat {n:Nat}(h:n<256):(UInt8.ofNat n).toNat=n:=by
 rw[UInt8.toNat_ofNat'];omega
theorem xh {f k z m:Nat}{r:List UInt8}(a:m<128) (b:0<m\/k=0):mC (f+1) k z (bQ m++r)=some (LZ (z+m*128 ^ k),r):=by
 rw[bQ,dif_pos a];simp only[Xk,XD,mC];rw[ofNat_toNat (by omega),j3 a,j3 b]
theorem C9 {f k z m:Nat}{r:List UInt8}(a:¬m<128):mC (f+1) k z (bQ m++r)=mC f (k+1) (z+m % 128*128 ^ k) (bQ (m / 128)++r):=by
 rw[bQ,dif_neg a];simp only[Xk,mC];rw[ofNat_toNat (by omega),vv (by omega),Nat.add_sub_cancel_left]
theorem FD (m k:Nat):m % 128*128 ^ k+m / 128*128 ^ (k+1)=m*128 ^ k:=by
 have h:m % 128+128*(m / 128)=m:=Nat.mod_add_div m 128;have e:128 ^ (k+1)=128*128 ^ k:=by rw[Nat.pow_succ,Nat.mul_comm]
 rw[e,<-Nat.mul_assoc,Nat.mul_comm (m / 128) 128,<-Nat.add_mul,h]
theorem xj:∀(f k z m:Nat) (r:List UInt8),(0<m\/k=0)->m<128 ^ (f+1)->mC (f+1) k z (bQ m++r)=some (LZ (z+m*128 ^ k),r)
 | 0,k,z,m,r,a,h=>xh (by simpa using h) a
 | f+1,k,z,m,r,a,h=>by
  by_cases b:m<128
  ·exact xh b a
  ·rw[C9 b,xj f (k+1) _ (m / 128) r (.inl (by omega)) (by rw[Nat.pow_succ] at h;omega),Nat.add_assoc,FD]
theorem NU (n:Int):LZ (zz n)=n:=by
 unfold LZ zz;split<;>split<;>omega
theorem nP (n:Int) (r:List UInt8) (b:-1099511627776<=n) (a:n<=1099511627776):getD (bQ (zz n)++r)=some (n,r):=by
 have h:=xj 5 0 0 (zz n) r (.inr rfl) (Nat.lt_of_le_of_lt (Mf n 1099511627776 (by omega) (by omega)) (by decide));unfold getD;rw[h];simp only[Nat.pow_zero,Nat.mul_one,Nat.zero_add,NU]
theorem FE (b r:List UInt8):takeD ((b.length:Nat):Int) (b++r)=some (b,r):=by
 unfold takeD;rw[j3 ⟨by omega,by rw[W8];omega⟩];simp
theorem qf (x:List UInt8) (i t:Nat):(ct x i)[t]?=if t<32 then x[32*i+t]? else none:=by
 unfold ct;rw[XB];split
 ·rw[Xy]
 ·rfl
theorem iz (x:List UInt8) (i:Nat):(ct x i).length=min 32 (x.length-32*i):=by
 unfold ct;rw[Xo,XR]
theorem FG {x y:List UInt8}(a:x.length=y.length) (h:∀i<dO y.length,ct x i=ct y i):x=y:=by
 apply XF;intro j
 by_cases b:j<y.length
 ·have:=p7 (fun l:List UInt8=>l[j % 32]?) (h (j / 32) (by unfold dO;omega));simp only[qf] at this;rw[j3 (by omega),j3 (by omega),show 32*(j / 32)+j % 32=j by omega] at this;exact this
 ·rw[Xe (by omega),Xe (by omega)]
theorem Ep {out b:List UInt8}{o:Nat}(h:o+b.length<=out.length) (j:Nat):(qe out o b)[j]?=if o<=j/\j<o+b.length then b[j-o]? else out[j]?:=by
 unfold qe;rw[Xb,List.getElem?_append];have d:(out.take o).length=o:=by rw[Xo];omega
 rw[d];split
 ·rename_i a;rw[vv (by omega),XB,j3 a]
 ·rename_i a;rw[List.getElem?_append];split
  ·rename_i c;rw[j3 (by omega)]
  ·rename_i c;rw[vv (by omega),Xy];congr 1;omega
theorem Ii {out b:List UInt8}{i:Nat}(h:out.length=b.length) (hi:32*i<b.length) (j:Nat):ct (qe out (32*i) (ct b i)) j=if j=i then ct b i else ct out j:=by
 have e:=iz b i;have c:32*i+(ct b i).length<=out.length:=by omega
 apply XF;intro t;rw[qf,Ep c]
 by_cases d:j=i
 ·subst d;rw[j3 rfl]
  by_cases a:t<32
  ·rw[j3 a]
   by_cases f:32*j+t<b.length
   ·rw[j3 (by omega),show 32*j+t-32*j=t by omega]
   ·rw[vv (by omega),Xe (by omega),Xe (by omega)]
  ·rw[vv a,Xe (by omega)]
 ·rw[vv d,qf out]
  by_cases a:t<32
  ·rw[j3 a,j3 a,vv (by omega)]
  ·rw[vv a,vv a]
def Up:Int->List Nat->Prop
 | _,[]=>True
 | p,i::l=>p<i/\Up i l
theorem Er (b:List UInt8) (hb:b.length<=268435456):∀(l:List Nat) (p:Int) (out:List UInt8),-1<=p->Up p l->(∀i∈l,i<dO b.length)->p<=1073741824->out.length=b.length ->
  (∀i<dO b.length,i∉l->ct out i=ct b i)->sK b.length l.length p out (xA b p l)=some (b,[])
 | [],p,out,_,_,_,_,c,h=>by
  have:out=b:=FG c fun i hi=>h i hi (by simp);rw[this];rfl
 | i::l,p,out,s,m,n,r,c,h=>by
  have d:=n i (by simp);have hi:=Ao d;have o:dO b.length<=1073741824:=by unfold dO;omega
  have a:(ct out i).length=(ct b i).length:=by rw[iz,iz,c]
  show fK getD _ (bQ (zz (i-p))++(ct b i++xA b i l))=_;rw[aj (nP (i-p) _ (by have:=m.1;omega) (by omega))];have e:p+((i:Int)-p)=i:=by omega
  rw[e];rw[j3 ⟨by omega,by omega⟩];rw[show((i:Int)).toNat=i from rfl,a,aj (FE _ _)];refine Er b hb l i _ (by omega) m.2 (fun j k=>n j (by simp[k])) (by omega) ?_ fun j k q=>?_
  ·rw[nO (by have:=iz b i;omega),c]
  ·rw[Ii c hi];split
   ·rename_i e;rw[e]
   ·rename_i f;exact h j k (by simp[f,q])
theorem xk (f:Nat->Bool):∀(n m:Nat) (p:Int),p<m->Up p ((List.range' m n).filter f)
 | 0,m,p,h=>by simp[Up]
 | n+1,m,p,h=>by
  rw[List.range'_succ,List.filter_cons];split
  ·exact⟨h,xk f n (m+1) m (by omega)⟩
  ·exact xk f n (m+1) p (by omega)
theorem NV (a b:List UInt8):Up (-1) (jI a b):=by
 unfold jI;rw[List.range_eq_range'];exact xk _ _ 0 (-1) (by omega)
theorem LD {x y:List UInt8}(h:x <+: y) {t:Nat}(a:t<x.length):y[t]?=x[t]?:=by
 obtain⟨s,rfl⟩:=h;rw[Xc a]
theorem FH (a b:List UInt8) (i:Nat) (h:ct b i <+: ct a i):ct (Am a b.length) i=ct b i:=by
 apply XF;intro t;have j:(a.take b.length).length<=b.length:=by rw[Xo];omega
 rw[qf]
 by_cases e:t<(ct b i).length
 ·have d:=LD h e;have c:=iz b i;rw[<-d,qf,j3 (by omega),j3 (by omega)];unfold Am;have f:32*i+t<a.length:=by
   have:=h.length_le;have:=iz a i;omega
  rw[Ep (by simp;omega),j3 (by rw[Xo];omega),Nat.sub_zero,XB,j3 (by omega)]
 ·have c:=iz b i;rw[Xe (by omega:(ct b i).length<=t)];split
  ·rw[Xe (by rw[sL];omega)]
  ·rfl
def sM (b:List UInt8):List Nat->Nat
 | []=>0
 | i::l=>(ct b i).length+sM b l
theorem Es (b:List UInt8):∀(p:Int) (l:List Nat),sM b l+l.length<=(xA b p l).length
 | p,[]=>by simp[sM,xA]
 | p,i::l=>by
  have c:=Es b i l;have a:=nM (zz (i-p));simp only[sM,xA,W8,Xl];omega
theorem BZ (b:List UInt8):∀(l m:List Nat),sM b (l++m)=sM b l+sM b m
 | [],m=>by simp[sM]
 | i::l,m=>by simp only[Xk,sM,BZ b l m];omega
theorem y8 (a b:List UInt8):∀k:Nat,min (32*k) b.length<=min (32*k) a.length+sM b ((List.range k).filter (rI a b))
 | 0=>by simp
 | k+1=>by
  have d:=y8 a b k;have hb:=iz b k;rw[List.range_succ,List.filter_append,BZ];cases e:rI a b k with
  | true =>
   simp only[List.filter_cons,e,Xq,List.filter_nil,sM];omega
  | false =>
   have h:ct b k <+: ct a k:=by simpa[rI] using e
   have f:=h.length_le;have c:=iz a k;simp only[List.filter_cons,e,List.filter_nil];simp only[Xd,XC,sM];omega
theorem LF (a b:List UInt8):b.length<=a.length+(xA b (-1) (jI a b)).length:=by
 have d:=y8 a b (dO b.length);have c:=Es b (-1) (jI a b);have e:b.length<=32*dO b.length:=by unfold dO;omega
 have f:sM b ((List.range (dO b.length)).filter (rI a b))=sM b (jI a b):=rfl;omega
theorem y9 (a b:List UInt8) (c:a.length<=268435456):qB (cA a b)=some (((a.length:Int),iW a),kU [(b.length:Int),iW b,((jI a b).length:Int)]++xA b (-1) (jI a b)):=by
 have d:=jv a;have e:cA a b=bQ (zz (a.length:Int))++(bQ (zz (iW a))++(kU [(b.length:Int),iW b,((jI a b).length:Int)]++xA b (-1) (jI a b))):=by
  simp only[cA,mS,kU,Xb]
 unfold qB;rw[e,aj (nP _ _ (by omega) (by omega)),aj (nP _ _ (by omega) (by omega))];rfl
theorem B0 (a b:List UInt8) (d:a.length<=268435456) (hb:b.length<=268435456):jy a (cA a b)=(b,0):=by
 have l:=jv b;have c:(jI a b).length<=268435456:=by have:=u9 a b;unfold dO at this;omega
 have j:m8 a (kU [(b.length:Int),iW b,((jI a b).length:Int)]++xA b (-1) (jI a b))=some (b,[]):=by
  have e:kU [(b.length:Int),iW b,((jI a b).length:Int)]++xA b (-1) (jI a b)=bQ (zz (b.length:Int))++(bQ (zz (iW b))++(bQ (zz ((jI a b).length:Int))++xA b (-1) (jI a b))):=by
   simp only[kU,Xb,XD]
  unfold m8;rw[e,aj (nP _ _ (by omega) (by omega)),aj (nP _ _ (by omega) (by omega)),aj (nP _ _ (by omega) (by omega))];unfold BW;have k:=LF a b;rw[j3 ⟨⟨by omega,by omega⟩,by omega⟩];refine Er b hb (jI a b) (-1) (Am a b.length) (by omega) (NV a b) (fun i hi=>Ai hi) (by omega) (sL a b.length) fun i hi f=>?_;refine FH a b i ?_;have:¬(rI a b i=true):=fun h=>f (by simp only[jI,List.mem_filter,List.mem_range];exact⟨hi,h⟩);simpa[rI] using this
 unfold jy;rw[y9 a b d];simp only[];rw[vv (by simp),j];simp
theorem uw (c a b:List UInt8) (d:a.length<=268435456) (h:a.length≠c.length\/iW a≠iW c):jy c (cA a b)=([],17):=by
 unfold jy;rw[y9 a b d];simp only[];rw[j3 (by rcases h with h | h;exact .inl (by omega);exact .inr h)]
theorem Ij {a d:List UInt8}(h:(jy a d).2=0):cA a (jy a d).1=d:=by
 unfold jy at h ⊢;split at h
 ·cases h
 ·rename_i n s r e;split at h
  ·cases h
  ·split at h
   ·split at h
    ·rename_i k _ _ _ _ q;rw[vv k];simp only[q,Xq]
    ·cases h
   ·cases h
theorem FI {a d:List UInt8}(h:(jy a d).2≠0):(jy a d).1=[]:=by
 unfold jy at h ⊢;split at h
 ·rfl
 ·split at h
  ·simp[*]
  ·split at h
   ·split at h
    ·exact xo rfl h
    ·simp[*]
   ·simp[*]
end Go.Fr.Tryd
namespace Go.Fr.Tryd
open Go Go.RowKit Go.Proofs Go.Fr Go.Fr.T Go.Fr.Api Go.Fr.Dm
def rK:Wd:=⟨[⟨true,-1,.mk 2 2 0 0 [] false [] []⟩],[],[⟨0,[⟨1,0,0,0,0,[.mk 1 0 0 (-3) [] false [] [],.mk 6 0 0 0 [] true [0,-1] [0]],[4,5]⟩],[⟨0,1,false,true,false⟩],0,6,2,[]⟩],[[]],[⟨0,7⟩],1,0,0⟩
theorem R4:CallsT PZ 12 [] [] (iK [] (.agg (uF [] [] 0 rK))):=by
 refine au Tryd.func12 JZ rfl fun a _=>?_;exact bC rfl rfl
theorem xq {z:Nat}(h:z<128):bQ z=[UInt8.ofNat z]:=by rw[bQ,dif_pos h]
def jz:List UInt8:=[76,83,1,0,0,0,0,0,0,0,0]
theorem R5:rH w0=jz++rG jz:=by
 have h:uo kW w0=([0,0,0,0,0,0,0,0],true):=by
  simp[w0,uo,bR,aX,bn,Oc,kW,zz,xq]
 simp[rH,h,gC,dJ,jz]
def qa:List UInt8:=[2,2,1,4,4,0,0,0,0,0,0,0,2,0,2,2,0,0,0,0,4,2,0,0,5,0,0,0,0,12,0,0,0,0,2,4,0,1,2,0,4,8,10,2,0,2,0,2,0,0,12,4,0,2,0,2,0,14,2,0,0]
theorem Ik:uo kW rK=(qa,true):=by
 simp[rK,qa,uo,bR,aX,bn,Oc,kW,zz,xq,Qr,Qw,qb,Qu,Qs,Qt,PV,Qv,yU,Aq,CV,z7]
theorem PF:rH rK=gC (dJ++qa):=by
 unfold rH;rw[Ik,j3 rfl]
theorem R6:oH qa=some rK:=by rfl
theorem FJ (b:List UInt8):(gC b).take ((gC b).length-4)=b:=by
 have h:(gC b).length-4=b.length:=by simp[gC,rG]
 rw[h];simp[gC]
theorem Il (x:List UInt8):xg (gC (dJ++x))=match oH x with | some y=>(some y,0) | none=>(none,16):=by
 have a:¬(gC (dJ++x)).length<7:=by simp[gC,rG,dJ]
 have c:dJ <+: gC (dJ++x):=⟨x++rG (dJ++x),by simp[gC]⟩;have b:(dJ++x).drop 3=x:=by simp[dJ]
 unfold xg;rw[vv (fun h=>h.elim a (fun h=>h c)),FJ,vv (fun h=>h rfl),b];cases oH x<;>rfl
theorem R7:xg (rH rK)=(some rK,0):=by rw[PF,Il,R6]
def wZ:List UInt8:=jz++[0,0,0,0]
theorem R8:xg wZ=(none,17):=by
 have a:wZ.take (wZ.length-4)=jz:=rfl;have c:¬gC jz=wZ:=by
  intro h;have b:rG jz=[0,0,0,0]:=by
   have:=List.append_cancel_left (h:jz++rG jz=jz++[0,0,0,0]);exact this
  exact xo b (by decide)
 unfold xg;rw[vv (fun h=>h.elim (by decide) (fun h=>h ⟨[0,0,0,0,0,0,0,0,0,0,0,0],rfl⟩)),a,j3 c]
def dL:List UInt8:=List.replicate 40 1
def qg:List UInt8:=dL.set 39 2
theorem R9:jI dL qg=[1]:=by decide
theorem NW:iW dL≠iW qg:=by decide
theorem Im:cA dL qg=bQ (zz 40)++bQ (zz (iW dL))++bQ (zz 40)++bQ (zz (iW qg))++[2,4]++[1,1,1,1,1,1,1,2]:=by
 have c:bQ (zz 1)=[2]:=xq (by decide);have a:bQ (zz (((1:Nat):Int) - -1))=[4]:=xq (by decide);have d:ct qg 1=[1,1,1,1,1,1,1,2]:=by decide
 have f:(dL.length:Int)=40:=by decide
 have e:(qg.length:Int)=40:=by decide
 have b:(([1]:List Nat).length:Int)=1:=rfl;simp only[cA,mS,R9,kU,xA,f,e,b,c,a,d,Xb,Xp,XD,Xk]
theorem pat1:jy dL (cA dL qg)=(qg,0):=B0 _ _ (by decide) (by decide)
theorem pat2:jy qg (cA dL qg)=([],17):=uw qg dL qg (by decide) (.inr NW)
def Sv:Mg:=⟨[],[],0⟩
def Oe:Mg:=⟨[],[],5⟩
theorem PG:C5 Oe Oe rK rK=true:=by unfold C5;rw[<-jx rfl];simp
theorem PI:C5 Oe Sv rK rK=false:=by
 unfold C5;rw[<-bJ (by intro h;injection h with _ _ h;cases h)];rfl
theorem Sb:FM w0:=by simp[FM,w0]
theorem Io:FM rK:=by simp[FM,rK,Rw,Ry,Rx,vsB,Fq,HN]
theorem NX {a d:List UInt8}(h:qB d=none):jy a d=([],16):=by unfold jy;rw[h]
theorem NY {a d r:List UInt8}{n s:Int}(h:qB d=some ((n,s),r)) (k:n≠a.length\/s≠iW a):jy a d=([],17):=by
 unfold jy;rw[h];simp only[];rw[j3 k]
theorem NZ {a d r:List UInt8}{n s:Int}(h:qB d=some ((n,s),r)) (c:n=a.length) (b:s=iW a) (e:m8 a r=none):jy a d=([],16):=by
 unfold jy;rw[h];simp only[];rw[vv (fun k=>k.elim (fun k=>k c) (fun k=>k b)),e]
theorem N0 {a d r f out:List UInt8}{n s:Int}(h:qB d=some ((n,s),r)) (c:n=a.length) (b:s=iW a) (e:m8 a r=some (out,f)):jy a d=if cA a out=d then(out,0) else([],16):=by
 unfold jy;rw[h];simp only[];rw[vv (fun k=>k.elim (fun k=>k c) (fun k=>k b)),e]
theorem B6 {d r:List UInt8}{p:Int×Int}(h:qB d=some (p,r)):r.length<=d.length:=by
 obtain⟨x,f,c,h⟩:=mF h;obtain⟨y,a,b,h⟩:=mF h;have e:=(lF c).2;have j:=(lF b).2;have h:some ((x,y),a)=some (p,r):=h;injection h with h;injection h with _ h
 rw[<-h];omega
set_option maxRecDepth 20000 in
theorem t7 (a d:List UInt8) (u:a.length<=268435456) (hb:d.length<=268435456) :
  CallsT PZ 7 [.sl (af a),.sl (af d)] [] (iK [] (.tup [.sl (af (jy a d).1),IC (jy a d).2])):=by
 have h:(af a).length=a.length:=aK;have x:=R3 d;have m:=@NX a d;have k:=@NY a d;have l:=@NZ a d;have o:=@N0 a d;have q5:=@B6 d;generalize jy a d=pd at m k l o ⊢;refine au Tryd.func7 Nm rfl fun hw aa=>?_;refine Ah [6,12,7,8] x rfl rfl rfl rfl ?_;rintro v Mo (⟨n,s,r,e,rfl,rfl⟩ | ⟨e,⟨y,z,q,p4,rfl⟩,rfl⟩) _ _
 ·refine⟨rfl,?_⟩;have t:=q5 e;have h2:=R2 a r u (by omega);refine aF (fun b=>?_) (fun b=>?_)
  ·have b:(!decide (n=((af a).length:Int)))=true:=b;have b:n≠a.length:=by rw[h] at b;simpa using b
   exact bC rfl (by rw[k e (.inl b)];rfl)
  have b:(!decide (n=((af a).length:Int)))=false:=b;have b:n=a.length:=by rw[h] at b;simpa using b
  refine gW (t9 a) rfl fun _=>?_;refine aF (fun c=>?_) (fun c=>?_)
  ·have c:(!decide (s=iW a))=true:=c;exact bC rfl (by rw[k e (.inr (by simpa using c))];rfl)
  have c:(!decide (s=iW a))=false:=c;have c:s=iW a:=by simpa using c
  refine Ah [6,12,9] h2 rfl rfl rfl rfl ?_;rintro v Mo (⟨out,r',j,rfl,rfl⟩ | ⟨j,⟨y,z,q,rfl⟩,rfl⟩) _ _
  ·refine⟨rfl,?_⟩;have w:=BX j;refine bK (t8 a out (by omega) (by omega)) rfl fun _=>?_;refine bK (t22 (cA a out) d) rfl fun _=>?_;have p:=o e b c j;refine aF (fun f=>?_) (fun f=>?_)
   ·have f:(!decide (cA a out=d))=true:=f;exact bC rfl (by rw[p,vv (by simpa using f)];rfl)
   ·have f:(!decide (cA a out=d))=false:=f;exact bC rfl (by rw[p,j3 (by simpa using f)];rfl)
  ·refine⟨rfl,?_⟩;exact bC rfl (by rw[l e b c j];rfl)
 ·refine⟨rfl,?_⟩;exact bC rfl (by rw[m e];rfl)
theorem Sc:¬(true=false):=by decide
theorem Sw (a b:List UInt8):af a++af b=af (a++b):=by simp[af]
set_option maxRecDepth 100000 in
theorem t6:CallsT PZ 6 [] [] (iK [] (.bool true)):=by
 have z:CallsT PZ 10 [.agg (uF [] [] 0 w0)] [] (iK [.row 5 1 (af (rH w0))] (.rw 1000)):=Sn [] [] 0 w0 Sb (by
  have:uo kW w0=([0,0,0,0,0,0,0,0],true):=by simp[w0,uo,bR,aX,bn,Oc,kW,zz,xq]
  rw[this];decide)
 have j:CallsT PZ 10 [.agg (uF [] [] 0 rK)] [] (iK [.row 5 1 (af (rH rK))] (.rw 1000)):=Sn [] [] 0 rK Io (by rw[Ik];decide);have ar:(rH rK).length<=70368744177664:=by rw[PF];simp[gC,rG,dJ,qa]
 have w:CallsT PZ 11 [.agg [.sl [],.sl [],IC 5],.sl (af (rH rK))] [] (iK [] (.tup [.agg (uF [] [] 5 rK),IC 0])):=by
  have:=Sq [] [] 5 (rH rK) ar;rw[R7] at this;exact this
 have t:CallsT PZ 11 [.agg [.sl [],.sl [],IC 0],.sl (af wZ)] [] (iK [] (.tup [.agg (uF [] [] 0 w0),IC 17])):=by
  have:=Sq [] [] 0 wZ (by decide);rw[R8] at this;exact this
 have e:=R5;generalize rH w0=n at z e;have a:(af dL).set 39 [iF 2]=af qg:=by simp[af,qg,List.map_set]
 have h8:CallsT PZ 8 [.sl (af dL),.sl ((af dL).set 39 [iF 2])] [] (iK [] (.sl (af (cA dL qg)))):=by
  rw[a];exact t8 dL qg (by decide) (by decide)
 have c:(cA dL qg).length<=268435456:=by
  have q1:=mE (iW dL) (by have:=jv dL;omega) (by have:=jv dL;omega);have q2:=mE (iW qg) (by have:=jv qg;omega) (by have:=jv qg;omega);have q3:(bQ (zz 40)).length<=10:=mE 40 (by omega) (by omega);rw[Im];simp only[W8,Xl,XE];omega
 have h7:CallsT PZ 7 [.sl (af dL),.sl (af (cA dL qg))] [] (iK [] (.tup [.sl (af qg),IC 0])):=by
  have:=t7 dL (cA dL qg) (by decide) c;rw[pat1] at this;exact this
 have m:CallsT PZ 7 [.sl ((af dL).set 39 [iF 2]),.sl (af (cA dL qg))] [] (iK [] (.tup [.sl (af []),IC 17])):=by
  have:=t7 qg (cA dL qg) (by decide) c;rw[pat2] at this;rw[a];exact this
 have k:CallsT PZ 9 [.sl ((af dL).set 39 [iF 2])] [] (iK [] (IC (iW qg))):=by rw[a];exact t9 qg
 have b:=Im;have b1:=jv dL;have b2:=jv qg;have k1:CallsT PZ 14 [IC 40] [] (iK [.row 5 1 (af (bQ (zz 40)))] (.rw 1000)):=RY 40 (by omega) (by omega);have k2:=RY (iW dL) (by omega) (by omega);have k3:=RY (iW qg) (by omega) (by omega);have m1:(bQ (zz 40)).length<=10:=mE 40 (by omega) (by omega);have m2:=mE (iW dL) (by omega) (by omega);have m3:=mE (iW qg) (by omega) (by omega);have d:(sJ rK).length<=70368744177664:=XK (Xh (by kernel_rfl:Nat.ble (sJ rK).length 100000=true)) (by decide);have u:CallsT PZ 16 [.agg (uF [] [] 5 rK),.agg (uF [] [] 5 rK)] [] (iK [] (.bool true)):=by
  have:=t16 Oe Oe rK rK Io Io d d;rw[PG] at this;exact this
 have v:CallsT PZ 16 [.agg (uF [] [] 5 rK),.agg (uF [] [] 0 rK)] [] (iK [] (.bool false)):=by
  have:=t16 Oe Sv rK rK Io Io d d;rw[PI] at this;exact this
 have l:qC ⟨n.toArray⟩ ⟨(jz++rG jz).toArray⟩=true:=by rw[mR,e];simp
 have r:∀x:List UInt8,qC ⟨x.toArray⟩ ⟨x.toArray⟩=true:=fun x=>by rw[mR];simp
 generalize bQ (zz 40)=v1 at k1 m1 b c;generalize bQ (zz (iW dL))=q at k2 m2 b c;generalize bQ (zz (iW qg))=v3 at k3 m3 b c;generalize cA dL qg=s at h8 h7 m b;generalize rH rK=ebE at j w;have p:CallsT PZ 13 [IC 40,iF 1] [] (iK [.row 5 1 (af dL)] (.rw 1000)):=V9 40 1 (by decide);have o:=t9 dL;have aa:(af dL).length=40:=by rw[aK];rfl
 have f:(af dL)[39]?=some [iF 1]:=rfl;have y:=VK jz
 clear c
 have am:(rG jz).length=4:=rfl;generalize rG jz=d4 at e l y am;obtain⟨zd,az,al⟩:∃zd,af jz++af d4=af zd/\qC ⟨n.toArray⟩ ⟨zd.toArray⟩=true:=⟨jz++d4,Sw _ _,l⟩
 clear e l
 generalize iW dL=n1 at o k2 b1;generalize iW qg=n2 at k k3 b2;generalize qg=tb at a h7;generalize dL=fb at p o aa f a h8 h7 m k;have ab:af v1++af q++af v1++af v3++af [2,4]++af [1,1,1,1,1,1,1,2]=af s:=by rw[b];simp only[Sw]
 obtain⟨d2,ap,av⟩:∃d2,af v1++af q++af v1++af v3++af [2,4]++af [1,1,1,1,1,1,1,2]=af d2/\qC ⟨s.toArray⟩ ⟨d2.toArray⟩=true:=⟨s,ab,r s⟩;obtain⟨t2,ay,ba⟩:∃t2,(af fb).set 39 [iF 2]=af t2/\qC ⟨tb.toArray⟩ ⟨t2.toArray⟩=true:=⟨tb,a,r tb⟩
 clear b ab
 refine au Tryd.func6 Nl rfl fun hw _=>?_;refine callO [] [19] z rfl rfl rfl rfl rfl fun _ _=>?_;refine bK R4 rfl fun _=>?_;refine callO [] [23] j rfl rfl rfl rfl rfl fun _ _=>?_;refine uh [23] [] [] w ⟨_,rfl,rfl,rfl,rfl,rfl,fun _ _=>?_⟩;refine bK R4 rfl fun _=>?_;refine⟨Nat.succ_pos 3,fA (bs:=jz),?_⟩;refine qA (bs:=[0,0,0,0]) 11 rfl (by decide) ?_;refine uh [34] [] [] t ⟨_,rfl,rfl,rfl,rfl,rfl,fun _ _=>?_⟩;refine callO [] [38] p rfl rfl rfl rfl rfl fun _ _=>?_;refine callO [] [39] p rfl rfl rfl rfl rfl fun _ _=>?_;refine Mj.mk (by decide) (by rw[aa];decide) ?_;refine⟨rfl,?_⟩;refine Ia (es0:=[iF 1]) f rfl ?_;refine uh [38,39] [] [] h8 ⟨_,rfl,rfl,rfl,rfl,rfl,fun _ _=>?_⟩;refine bK h7 rfl fun _=>?_;refine bK m rfl fun _=>?_;refine callO [] [57] k1 rfl rfl rfl rfl rfl fun _ _=>?_;refine bK o rfl fun _=>?_;refine callO [] [60] k2 rfl rfl rfl rfl rfl fun _ _=>?_;refine qA (bs:=q) v1.length aK (by omega) ?_;refine callO [] [62] k1 rfl rfl rfl rfl rfl fun _ _=>?_;refine qA (bs:=v1) (v1.length+q.length) (xV aK aK) (by omega) ?_;refine bK k rfl fun _=>?_;refine callO [] [66] k3 rfl rfl rfl rfl rfl fun _ _=>?_;refine qA (bs:=v3) (v1.length+q.length+v1.length) (xV (xV aK aK) aK) (by omega) ?_;refine qA (bs:=[2,4]) (v1.length+q.length+v1.length+v3.length) (xV (xV (xV aK aK) aK) aK) (by simp only[Xl,XE];omega) ?_;refine gR.mk ⟨n,rfl,?_⟩;refine⟨Nat.succ_pos 10,fA (bs:=[]),?_⟩;refine qA (bs:=jz) 0 rfl (by decide) ?_;refine gW y rfl fun _=>?_;refine qA (bs:=d4) 11 rfl (by omega) ?_;refine gR.mk ⟨zd,az,?_⟩;refine aF (fun _=>?_) (fun h=>xo (al.symm.trans h) Sc);refine gW u rfl fun _=>?_;refine gW R4 rfl fun _=>?_;refine gW v rfl fun _=>?_;refine gR.mk ⟨s,rfl,?_⟩;refine qA (bs:=[1,1,1,1,1,1,1,2]) (v1.length+q.length+v1.length+v3.length+2) (xV (xV (xV (xV aK aK) aK) aK) rfl) (by simp only[Xl,XE];omega) ?_;refine gR.mk ⟨d2,ap,?_⟩;refine aF (fun _=>?_) (fun h=>xo (av.symm.trans h) Sc);refine gR.mk ⟨tb,rfl,?_⟩;refine gR.mk ⟨t2,ay,?_⟩;refine aF (fun _=>?_) (fun h=>xo (ba.symm.trans h) Sc);exact bC rfl rfl
theorem FK (a b:List UInt8) (f:a.length<=1073741824) (hb:b.length<=1048576):(cA a b).length<=268435456:=by
 have c:∀m∈mS a b,Sm m:=by
  intro m d;have j:=jv a;have l:=jv b;have:=u9 a b;unfold dO at this;simp only[mS,W7,List.not_mem_nil,or_false] at d;unfold Sm;rcases d with rfl | rfl | rfl | rfl | rfl<;>omega
 have k:=tQ _ c;have h:=Aj b (-1) (jI a b) (by omega) (by omega) fun i hi=>by have:=Ai hi;unfold dO at this;omega
 have e:=u9 a b;have n:(mS a b).length=5:=rfl;unfold dO at e;rw[cA,W8];omega
theorem Ip (a d:List UInt8):(jy a d).1.length<=a.length+d.length:=by
 unfold jy;split
 ·simp
 ·rename_i n s r e;have f:=B6 e;split
  ·simp
  ·split
   ·rename_i o h c;have b:=BX c;split
    ·exact XK b (by omega)
    ·simp
   ·simp
set_option maxRecDepth 20000 in
theorem t4 (a b c:List UInt8):CallsT PZ 4 [.sl (af a),.sl (af b),.sl (af c)] [] (iK [] (.bool true)):=by
 have v:(af a).length=a.length:=aK;have ac:(af b).length=b.length:=aK;have x:(af c).length=c.length:=aK;obtain⟨x1,p,h1,ho⟩:∃x1 p,(a.length<=3000->b.length<=3000->c.length<=3000->CallsT PZ 7 [.sl (af c),.sl (af (cA a b))] [] (iK [] (.tup [.sl (af x1),IC p])))/\(a.length<=3000->(a.length≠c.length\/iW a≠iW c)->p=17) :=
  ⟨(jy c (cA a b)).1,(jy c (cA a b)).2,fun z q2 y=>t7 c _ (by omega) (FK a b (by omega) (by omega)),fun q h=>by rw[uw c a b (by omega) h]⟩
 obtain⟨j,f,w,u,s,ae⟩:∃j f,(a.length<=3000->c.length<=3000->CallsT PZ 7 [.sl (af a),.sl (af c)] [] (iK [] (.tup [.sl (af j),IC f])))/\(f≠0->j=[])/\(f=0->qC ⟨(cA a j).toArray⟩ ⟨c.toArray⟩=true)/\j.length<=a.length+c.length :=
  ⟨(jy a c).1,(jy a c).2,fun z y=>t7 a c (by omega) (by omega),fun h=>FI h,fun h=>by rw[mR,Ij h];simp,Ip a c⟩
 have r:a.length<=3000->c.length<=3000->CallsT PZ 8 [.sl (af a),.sl (af j)] [] (iK [] (.sl (af (cA a j)))):=fun z y=>t8 a j (by omega) (by omega);generalize cA a j=dx at r s;refine au Tryd.func4 Nk rfl fun hw _=>?_;refine bK t6 rfl fun _=>?_;refine aV (fun k=>?_) (fun k=>?_)
 ·exact bC rfl rfl
 refine aV (fun t=>?_) (fun t=>?_)
 ·exact bC rfl rfl
 refine aV (fun m=>?_) (fun m=>?_)
 ·exact bC rfl rfl
 have k:a.length<=3000:=by omega
 have t:b.length<=3000:=by omega
 have m:c.length<=3000:=by omega
 refine bK (t8 a b (by omega) (by omega)) rfl fun _=>?_;refine bK (h1 k t m) rfl fun _=>?_;refine aF (fun n=>?_) (fun n=>?_)
 ·have n:(!decide (((af a).length:Int)=((af c).length:Int)))=true:=n;have n:a.length≠c.length:=by
   rw[v,x] at n;intro e;rw[e] at n;simp at n
  refine aF (fun l=>?_) (fun _=>?_)
  ·have l:(!decide (p=17))=true:=l;rw[ho k (.inl n)] at l;exact xo l (by decide)
  refine bK (w k m) rfl fun _=>?_;refine aF (fun d=>?_) (fun d=>?_)
  ·have d:(!decide (f=0))=true:=d;have d:f≠0:=by simpa using d
   exact bC rfl (p7 C.bool (show decide (((af j).length:Int)=0)=true by rw[u d];rfl))
  ·have d:(!decide (f=0))=false:=d;have d:f=0:=by simpa using d
   refine gR.mk ⟨c,rfl,?_⟩;refine gW (r k m) rfl fun _=>?_;refine gR.mk ⟨dx,rfl,?_⟩;exact bC rfl (p7 C.bool (s d))
 refine bK (t9 a) rfl fun _=>?_;refine bK (t9 c) rfl fun _=>?_;refine aF (fun o=>?_) (fun o=>?_)
 ·have o:(!decide (iW a=iW c))=true:=o;have o:iW a≠iW c:=by simpa using o
  refine aF (fun l=>?_) (fun _=>?_)
  ·have l:(!decide (p=17))=true:=l;rw[ho k (.inr o)] at l;exact xo l (by decide)
  refine bK (w k m) rfl fun _=>?_;refine aF (fun d=>?_) (fun d=>?_)
  ·have d:(!decide (f=0))=true:=d;have d:f≠0:=by simpa using d
   exact bC rfl (p7 C.bool (show decide (((af j).length:Int)=0)=true by rw[u d];rfl))
  ·have d:(!decide (f=0))=false:=d;have d:f=0:=by simpa using d
   refine gR.mk ⟨c,rfl,?_⟩;refine gW (r k m) rfl fun _=>?_;refine gR.mk ⟨dx,rfl,?_⟩;exact bC rfl (p7 C.bool (s d))
 refine bK (w k m) rfl fun _=>?_;refine aF (fun d=>?_) (fun d=>?_)
 ·have d:(!decide (f=0))=true:=d;have d:f≠0:=by simpa using d
  exact bC rfl (p7 C.bool (show decide (((af j).length:Int)=0)=true by rw[u d];rfl))
 ·have d:(!decide (f=0))=false:=d;have d:f=0:=by simpa using d
  refine gR.mk ⟨c,rfl,?_⟩;refine gW (r k m) rfl fun _=>?_;refine gR.mk ⟨dx,rfl,?_⟩;exact bC rfl (p7 C.bool (s d))
end Go.Fr.Tryd
namespace Go.Fr.Tryd
open Go Go.Fr.T
end Go.Fr.Tryd
namespace Go.Fr.Tryd
open Go Go.RowKit Go.Proofs Go.Fr Go.Fr.T Go.Fr.Api Go.Fr.Dm
end Go.Fr.Tryd
namespace Go.Fr.Tryd
open Go Go.RowKit Go.Proofs Go.Fr Go.Fr.T
theorem Ap {W:World}{p:Prop}(h:p):qO (oM W):=trivial
end Go.Fr.Tryd
