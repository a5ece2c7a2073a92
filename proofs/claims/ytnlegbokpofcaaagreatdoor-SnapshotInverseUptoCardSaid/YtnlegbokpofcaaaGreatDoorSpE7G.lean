/- Part of the proofs of the statements of this seat. -/
import Derived.Test.YtnlegbokpofcaaaGreatDoorSpP4G
set_option maxRecDepth 10000
set_option linter.unusedVariables false
set_option linter.unusedSimpArgs false
namespace Go.Fr.Tryz
open Go Go.RowKit Go.Proofs Go.Fr Go.Fr.T Go.Fr.Api Go.Fr.Dm
def QG:List aB:=[.op (some 56) (.mov (.t 8)) none,
     .op (some 57) (.mov (.t 9)) none,
     .op (some 58) (.bin .mul (.c (.int .i64 32)) (.t 57)) none,
     .op (some 59) (.slc 1 (.t 56) (some (.t 58)) none) none,
     .op (some 60) (.mov (.t 0)) none,
     .op (some 61) (.mov (.t 8)) none,
     .op (some 62) (.mov (.t 9)) none,
     .op (some 63) (.callD 62 [(.t 61),(.t 62)]) none,
     .op (some 64) (.len (.t 63)) none,
     .pc (some 65) (.call 87 [(.t 60),(.t 64)]) none,
     .op (some 66) (.copyX 5 1 (.t 59) (.t 65)) none]
def Eo (k:Nat) (a:Nat) (τ:aY):aY :=
 bL (some 64) (IC (a:Int)) (bL (some 63) .any (bL (some 62) .any (bL (some 61) .any (bL (some 60) (.own 1000 0) (bL (some 59) .any (bL (some 58) .any (bL (some 57) .any (bL (some 56) (.rw k) τ))))))))
theorem FH {ρ:Env}{j:Nat}{v:SV}(h:ρ j=v):ρ=put (some j) v ρ:=by
 funext i
 simp only[put];cases e:Nat.beq i j with
 | true=>rw[v8 e,h]
 | false=>rfl
theorem SM {PS:qJ}{M:TL}{τ:aY}{N:TK}(k i:Nat) (out d:List UInt8) (az:PS.st=none) (hs:M.sub [1000]=some [RB d]) (hk:M.get k=some (.row 5 1 (ak out))) (h8:τ 8=.rw k) (h9:τ 9=IC (i:Int)) (h0:τ 0=.own 1000 0)
  (ap:rowsOf M [1000]=[]) (hh:mF M [1000] PS.hb=true) (bu:k≠1000) (hi:32*i<out.length) (df:out.length<=1073741824)
  (hp:takeD (((cQ out i).length:Nat):Int) d=none->PS.ps fW)
  (aE:∀r,(((M.aaf [1000]).kills []).puts [1000] [RB r]).get k=some (.row 5 1 (ak out)))
  (hN:∀b r,takeD (((cQ out i).length:Nat):Int) d=some (b,r) ->
   N ((((M.aaf [1000]).kills []).puts [1000] [RB r]).set k (.row 5 1 (ak (rN out (32*i) b)))) (bL (some 66) .any (bL (some 65) .any (fP [] (Eo k (cQ out i).length τ))))) :
  RE PZ PS QG M τ N:=by
 refine⟨az,fun G PX z F L ρ hr l=>?_⟩;obtain⟨s,c,hL,ha,hm⟩:=row_of l hk;obtain⟨a1,c1,t1,ch,n1,bo,e8,e2⟩:=tO (x:=.t 8) l.env h8;rw[hL] at e2;injection e2 with e2
 injection e2 with e2 _ _ _ _
 injection e2 with e3 e4 e5
 subst e3 e4 e5;obtain⟨e9,w9⟩:=fp (x:=.t 9) l.env h9;obtain⟨e0,_⟩:=fG (x:=.t 0) l.env h0;have e8:ρ 8=.v (.slice s out.length c):=e8;have e9:ρ 9=.v (.int .i64 i):=e9;have e0:ρ 0=.own 1000 0:=e0;have o:out.length<=c/\c<=9223372036854775807:=by
  obtain⟨w,hw⟩:=hr;obtain⟨c',hv⟩:=Cy hw hL;obtain⟨a',e,q1,j,_⟩:=hv.form;injection e with _ _ e
  subst e;exact⟨q1,by unfold maxLen at j;exact j⟩
 have aw:(cQ out i).length=min (32*i+32) out.length-min (32*i) out.length:=by
  unfold cQ;rw[aa9,abC];omega
 rw[aw] at hp hN;have f:ρ=put (some 8) (.v (.slice s out.length c)) (put (some 9) (.v (.int .i64 i)) (put (some 0) (.own 1000 0) ρ)) :=
  (FH e8).trans (j3 (put (some 8) _) ((FH e9).trans (j3 (put (some 9) _) (FH e0))))
 generalize p:ρ=ρ1 at f;rw[p] at l
 clear e8 e9 e0
 subst p;rw[f] at l ⊢
 clear f
 refine⟨_,rfl,?_⟩;refine⟨_,rfl,?_⟩;refine⟨_,rfl,?_⟩;refine Fit.aad (by omega) (by omega) ?_;refine⟨_,rfl,?_⟩;refine oh.mk (by omega) (by omega) (by omega) ?_;refine⟨_,rfl,?_⟩;refine⟨_,rfl,?_⟩;refine⟨_,rfl,?_⟩;refine⟨_,rfl,?_⟩;refine .frz _ (YS F s out.length c i o.1 o.2 (by omega)) fun v F1 Lo q hR=>?_;obtain⟨rfl,rfl⟩:=hR;refine⟨rfl,fun cd=>?_⟩;refine⟨_,rfl,?_⟩;have hI:∀{L:Loc}(m:Nat),m<=9223372036854775807->aT F1 L (IC (m:Int)) (.v (.int .i64 m)):=fun m hm=>⟨_,rfl,by
  rw[Rel];refine⟨rfl,?_⟩;rw[BV];simp only[IntKind.min,IntKind.max,IntKind.signed,IntKind.bits,abd];omega⟩
 have Yq:=(l.mono q).put (l.mono q |>.env 8) (some 56);have any:∀sv,aT F1 L .any sv:=fun sv=>trivial;have YQ:=(((Yq.put (any (.v (.int .i64 i))) (some 57)).put (any (.v (.int .i64 (32*(i:Int))))) (some 58)).put (any (.v (gK s c (32*(i:Int)).toNat (out.length:Int).toNat 1))) (some 59));have SK:=YQ.put (l.mono q |>.env 0) (some 60);have ag:=((SK.put (any (.v (.slice s out.length c))) (some 61)).put (any (.v (.int .i64 i))) (some 62)).put (any (.v (gK s c (min (32*i) out.length) (min (32*i+32) out.length) 1))) (some 63);have a:=ag.put (hI (min (32*i+32) out.length-min (32*i) out.length) (by omega)) (some 64);rw[h8,h0] at a;have a:TS G F1 L _ M (Eo k (min (32*i+32) out.length-min (32*i) out.length) τ):=a;have hx:ou PZ PS (BM QG) 87 [.own 1000 0,IC (((min (32*i+32) out.length-min (32*i) out.length):Nat):Int)] M (Eo k (min (32*i+32) out.length-min (32*i) out.length) τ) (fun M' ar v=>∃b r,takeD (((min (32*i+32) out.length-min (32*i) out.length):Nat):Int) d=some (b,r)/\M'=(((M.aaf [1000]).kills []).puts [1000] [RB r])/\ar=fP [] (Eo k (min (32*i+32) out.length-min (32*i) out.length) τ)/\v=.sl (ak b)):=by
  refine cH [1000] (Zq (((min (32*i+32) out.length-min (32*i) out.length):Nat):Int) d) hs rfl rfl rfl (fun v h=>h.1▸hp h.2) ?_ hh;rintro v Mo ⟨b,r,h1,rfl,rfl⟩ _ _;rw[ap];exact⟨rfl,b,r,h1,rfl,rfl,rfl⟩
 have hc:=z F1 L _ M (Eo k (min (32*i+32) out.length-min (32*i) out.length) τ) 87 [.own 1000 0,IC (((min (32*i+32) out.length-min (32*i) out.length):Nat):Int)] _ _ a (dD a.env [.t 60,.t 64]) hx;refine CallXDPt.imp hc fun F2 L2 v co cf cb _ dd hK=>?_;obtain⟨M2,cY,c2,u,ab,b,r,hb,rfl,rfl,rfl⟩:=hK;obtain⟨v',aa,ab⟩:=ab;injection aa with aa
 subst aa;obtain⟨a2,c2,rfl,_,ce,hf⟩:=zj ab;obtain⟨ax,cx,y,_,_⟩:=row_of u (aE r);obtain⟨ay,cy,ty,db,ny,xy,q1,j⟩:=tO (x:=.t 56) u.env (k:=k) rfl;have q1:(SV.v (.slice s out.length c))=.v (.slice ay ny cy):=q1;injection q1 with q1
 injection q1 with q3 q4 q5
 subst q3 q4 q5;rw[y] at j;injection j with j
 injection j with j _ _ _ _
 injection j with q3 _ q5
 subst q3 q5;obtain⟨n,rfl⟩:∃x,ax=some x:=by
  cases ax with
  | none=>have:=ha rfl;omega
  | some x=>exact⟨x,rfl⟩
 have cM:b.length=min (32*i+32) out.length-min (32*i) out.length:=by
  unfold takeD at hb;split at hb
  case isFalse=>cases hb
  rename_i h;injection hb with hb
  injection hb with hb _
  rw[<-hb,aa9];omega
 have av:gK (some n) cx (32*(i:Int)).toNat (out.length:Int).toNat 1=.slice (some (n.add (32*i*1))) (out.length-32*i) (cx-32*i):=by
  rw[show(32*(i:Int)).toNat=32*i by omega,show(out.length:Int).toNat=out.length by omega];unfold gK;rw[vv (by omega)];rfl
 refine⟨_,rfl,?_⟩;refine⟨.inl ⟨k,out.length-32*i,.slice (some n) out.length cx,out.length,eD out,n,cx,cx-32*i,32*i,b.length,a2,c2,eD b,y,rfl,av,by omega,rfl,by rw[pK];omega,?_,nT _,fun _=>?_⟩⟩
 ·rcases hf with h | ⟨h1,h2⟩
  ·exact .inl h
  ·exact .inr ⟨by omega,h2⟩
 ·rw[Nat.mul_one,Br];refine⟨_,_,?_,hN b r hb⟩;have h3:=En u y (out':=rN out (32*i) b) (pO (by omega)) hm ha;exact(h3.put (c:=.any) trivial (some 65)).put (c:=.any) trivial (some 66)
theorem Ep:∀(f k z:Nat) (l:List UInt8) (n:Int) (r:List UInt8),mr f k z l=some (n,r)->z<128 ^ k->f+k=6->(-4398046511104<=n/\n<=4398046511104)/\r.length<l.length
 | 0,_,_,_,_,_,h,_,_=>by simp[mr] at h
 | _+1,_,_,[],_,_,h,_,_=>by simp[mr] at h
 | f+1,k,z,c::b,n,r,h,s,j=>by
  have e:=c.toNat_lt;rw[mr] at h;split at h
  ·rename_i a;split at h
   ·injection h with h
    injection h with h1 h2
    subst h2;have o:z+c.toNat*128 ^ k<128 ^ (k+1):=by
     have:c.toNat*128 ^ k<=127*128 ^ k:=Nat.mul_le_mul_right _ (by omega);rw[Nat.pow_succ];omega
    have q:128 ^ (k+1)<=128 ^ 6:=Nat.pow_le_pow_right (by omega) (by omega);have p:(128:Nat) ^ 6=4398046511104:=by decide
    refine⟨?_,by simp⟩;rw[<-h1];unfold I7;split<;>omega
   ·cases h
  ·obtain⟨d,m⟩:=Ep f (k+1) _ b n r h (by
    have:(c.toNat-128)*128 ^ k<=127*128 ^ k:=Nat.mul_le_mul_right _ (by omega);rw[Nat.pow_succ];omega) (by omega)
   exact⟨d,by simp;omega⟩
theorem m6 {l r:List UInt8}{n:Int}(h:getD l=some (n,r)):(-4398046511104<=n/\n<=4398046511104)/\r.length<l.length:=Ep 6 0 0 l n r h (by decide) rfl
def uZ (size:Nat):Nat->Int->List UInt8->Dec (List UInt8)
 | 0,_,out=>wP out
 | n+1,p,out=>gB getD fun d=>if 0<=p+d/\p+d<fH size then gB (takeD (((cQ out (p+d).toNat).length:Nat):Int)) fun b=>uZ size n (p+d) (rN out (32*(p+d).toNat) b) else fun _=>none
def CI (a:List UInt8) (size:Nat):List UInt8:=rN (List.replicate size 0) 0 (a.take size)
def Er (a:List UInt8) (s c:Int):Dec (List UInt8):=fun r=>if(0<=s/\s<=(a.length:Int)+r.length)/\0<=c then uZ s.toNat c.toNat (-1) (CI a s.toNat) r else none
def oS (a:List UInt8):Dec (List UInt8):=gB getD fun s=>gB getD fun _=>gB getD fun c=>Er a s c
theorem u4 (a:List UInt8) (n:Nat):(CI a n).length=n:=by
 unfold CI;rw[pO (by simp;omega)];simp
theorem FI (n:Nat):List.replicate n [C.int .u8 0]=ak (List.replicate n 0):=by simp[ak,jU]
theorem CJ {i n:Nat}(h:i<fH n):32*i<n:=by unfold fH at h;omega
theorem YT (s:Int) (a:0<=s) (b:s<=4611686018427387904):CallsT PZ 61 [IC s] [] (jv [] (IC ((fH s.toNat:Nat):Int))):=by
 obtain⟨n,rfl⟩:=Int.eq_ofNat_of_zero_le a;exact Zt n (by omega)
set_option maxRecDepth 20000 in
theorem t46 (a bs:List UInt8) (ha:a.length<=268435456) (hb:bs.length<=268435456):CallsTX PZ 46 [.own 1000 0,.sl (ak a)] [RB bs]
  (fun Mo c=>∃out r,oS a bs=some (out,r)/\Mo=[RB r]/\c=.sl (ak out)) (fun v=>v=fW/\oS a bs=none):=by
 have bk:(ak a).length=a.length:=aQ;refine au Tryz.func46 Om rfl fun hw be=>?_;refine rn 1000 (Qu bs) rfl rfl rfl (fun h=>⟨rfl,bf h⟩) fun s r1 e1 _=>?_;refine rn 1000 (Qu r1) rfl rfl rfl (fun h=>⟨rfl,(aA e1).trans (bf h)⟩) fun s2 r2 e2 _=>?_;refine rn 1000 (Qu r2) rfl rfl rfl (fun h=>⟨rfl,(aA e1).trans ((aA e2).trans (bf h))⟩) fun n y e3 _=>?_;have l:oS a bs=Er a s n y:=(aA e1).trans ((aA e2).trans (aA e3));obtain⟨⟨b1,b2⟩,b3⟩:=m6 e1;obtain⟨_,b4⟩:=m6 e2;obtain⟨⟨b5,b6⟩,b7⟩:=m6 e3;have bc:(ak y).length=y.length:=aQ;refine aK (fun w=>?_) (fun w=>?_)
 ·refine Fit.aad (by omega) (by omega) ?_;refine aK (fun h1=>?_) (fun h1=>?_)
  ·refine vV (u9 (decide (0<=n))) rfl (fun h=>⟨rfl,?_⟩) fun h2=>?_
   ·rw[l,Er,vv (fun h3=>by have:=abu h;omega)]
   have h2:=aa7 h2;have w:0<=s:=w;have h1:s<=(a.length:Int)+y.length:=by omega
   have al:oS a bs=uZ s.toNat n.toNat (-1) (CI a s.toNat) y:=by rw[l,Er,o6 ⟨⟨w,h1⟩,h2⟩]
   have bb:s.toNat<=536870912:=by omega
   have ar:(List.replicate s.toNat (0:UInt8)).length=s.toNat:=abx;have z:=YT s w (by omega);refine vg.mk w (abj _) (by omega) (by unfold maxLen;omega) ?_;refine Pw (k:=36) (out:=List.replicate s.toNat 0) (a:=a) (j3 (fun q=>some (TO.row 5 1 q)) (FI s.toNat)) rfl rfl ?_;refine aZ n.toNat 41 [9,8] ((y,(-1:Int),CI a s.toNat):List UInt8×Int×List UInt8) (fun x=>[IC x.2.1,.rw 36]) (fun x=>[(1000,RB x.1),(36,.row 5 1 (ak x.2.2))])
    (fun k x=>uZ s.toNat (n.toNat-k) x.2.1 x.2.2 x.1=oS a bs/\(-1<=x.2.1/\x.2.1<=4294967296)/\x.2.2.length=s.toNat) ⟨al.symm,⟨(by decide:(-1:Int)<=-1),(by decide:(-1:Int)<=4294967296)⟩,u4 a s.toNat⟩ (aj rfl) ⟨aj rfl,aj rfl,trivial⟩
    ⟨.inl ⟨_,rfl,.inl ⟨rfl,rfl⟩⟩,.inl ⟨_,rfl,.inl ⟨j3 (fun q=>TO.row 5 1 (ak q)) (by rw[CI,ar]),rfl⟩⟩,trivial⟩ (fun _=>rfl) (fun _=>rfl) ?_
   rintro k ⟨f,p,out⟩ hk ⟨e,⟨p1,p2⟩,o⟩ _ _ aE;have e:uZ s.toNat (n.toNat-k) p out f=oS a bs:=e;have p1:-1<=p:=p1;have p2:p<=4294967296:=p2;have o:out.length=s.toNat:=o;refine aK (fun u=>?_) (fun av=>?_)
   ·have u:k<n.toNat:=by omega
    have ab:oS a bs=gB getD (fun d=>if 0<=p+d/\p+d<fH s.toNat then gB (takeD (((cQ out (p+d).toNat).length:Nat):Int)) fun b=>uZ s.toNat (n.toNat-(k+1)) (p+d) (rN out (32*(p+d).toNat) b) else fun _=>none) f:=by
     rw[<-e,show n.toNat-k=(n.toNat-(k+1))+1 by omega];rfl
    refine rn 1000 (Qu f) rfl rfl rfl (fun h=>⟨rfl,ab.trans (bf h)⟩) fun d r4 e4 _=>?_;have j:=ab.trans (aA e4);obtain⟨⟨d1,d2⟩,_⟩:=m6 e4;refine Fit.aad (by omega) (by omega) ?_;refine aK (fun t=>?_) (fun t=>?_)
    ·have t:0<=p+d:=t;refine bM z rfl fun _=>?_;refine vV (u9 (decide (p+d<((fH s.toNat:Nat):Int)))) rfl (fun h=>⟨rfl,?_⟩) fun g1=>?_
     ·rw[j,vv (fun h3=>by have:=abu h;omega)]
     have g1:=aa7 g1;rw[o6 ⟨t,g1⟩] at j;have hi:32*(p+d).toNat<out.length:=by rw[o];exact CJ (by omega)
     refine SM 36 (p+d).toNat out r4 rfl rfl rfl rfl (j3 IC (show p+d=(((p+d).toNat:Nat):Int) by omega)) rfl rfl rfl (by decide) hi (by omega) (fun h=>⟨rfl,j.trans (bf h)⟩) (fun _=>rfl) fun b r5 m=>?_;have aa:=j.trans (aA m);have bi:fH s.toNat<=4294967296:=by unfold fH;omega
     have ae:b.length=(cQ out (p+d).toNat).length:=by
      unfold takeD at m;split at m
      case isFalse=>cases m
      rename_i h;injection m with m
      injection m with m _
      rw[<-m,aa9];omega
     have ap:32*(p+d).toNat+b.length<=out.length:=by
      rw[ae];unfold cQ;rw[aa9,abC];omega
     refine Fit.aad (by omega) (by omega) ?_;exact⟨(k+1,(r5,p+d,rN out (32*(p+d).toNat) b)),⟨u,aa.symm,⟨by show -1<=p+d;omega,by show p+d<=4294967296;omega⟩,(pO ap).trans o⟩,⟨bn,aj rfl,aj rfl,trivial⟩,
      ⟨.inl ⟨_,rfl,.inl ⟨rfl,rfl⟩⟩,.inl ⟨_,rfl,.inl ⟨rfl,rfl⟩⟩,trivial⟩,bq u⟩
    ·have t:¬0<=p+d:=t;refine vV (u9 false) rfl (fun _=>⟨rfl,?_⟩) fun h=>by cases h
     rw[j,vv (fun h3=>t h3.1)]
   ·have av:¬k<n.toNat:=by omega
    have e:wP out f=oS a bs:=by rw[<-e,show n.toNat-k=0 by omega];rfl
    exact rK [36] [1000] ⟨_,_,rfl,rfl,rfl,out,f,e.symm,rfl,rfl⟩
  ·refine vV (u9 false) rfl (fun _=>⟨rfl,?_⟩) fun h=>by cases h
   rw[l,Er,vv (fun h3=>by omega)]
 ·refine vV (u9 false) rfl (fun _=>⟨rfl,?_⟩) fun h=>by cases h
  rw[l,Er,vv (fun h3=>by omega)]
theorem IV {n:Int}{l b r:List UInt8}(h:takeD n l=some (b,r)):(b.length:Int)=n/\l=b++r:=by
 unfold takeD at h;split at h
 case isFalse=>cases h
 rename_i k;injection h with h
 injection h with h1 h2
 subst h1 h2;refine⟨?_,(List.take_append_drop _ _).symm⟩;rw[aa9];omega
theorem nW {b c:Type}{f:Dec b}{k:b->Dec c}{l r:List UInt8}{y:c}(h:gB f k l=some (y,r)):∃x a,f l=some (x,a)/\k x a=some (y,r):=by
 unfold gB at h;split at h
 ·cases h
 ·rename_i x a e;exact⟨x,a,e,h⟩
theorem Bs (size:Nat):∀(n:Nat) (p:Int) (out:List UInt8) (bs:List UInt8) (o r:List UInt8),out.length=size->uZ size n p out bs=some (o,r)->o.length=size
 | 0,p,out,bs,o,r,a,h=>by
  have h:some (out,bs)=some (o,r):=h;injection h with h;injection h with h _;rw[<-h,a]
 | n+1,p,out,bs,o,r,a,h=>by
  rw[uZ] at h;obtain⟨d,e,_,h⟩:=nW h;split at h
  case isFalse=>cases h
  rename_i f;obtain⟨b,j,hb,h⟩:=nW h;have c:=(IV hb).1;have hi:32*(p+d).toNat<out.length:=by rw[a];exact CJ (by omega)
  refine Bs size n _ _ _ o r ?_ h;rw[pO,a];have:(cQ out (p+d).toNat).length<=out.length-32*(p+d).toNat:=by
   unfold cQ;rw[aa9,abC];omega
  omega
theorem LN {a bs o r:List UInt8}(h:oS a bs=some (o,r)):o.length<=a.length+bs.length:=by
 obtain⟨s,j,b,h⟩:=nW h;obtain⟨p,m,e,h⟩:=nW h;obtain⟨c,q,d,h⟩:=nW h;have l:=(m6 b).2;have k:=(m6 e).2;have f:=(m6 d).2;unfold Er at h;split at h
 case isFalse=>cases h
 rename_i n;have:=Bs _ _ _ _ _ o r (u4 a s.toNat) h;omega
def QB (bs:List UInt8) (o:C):List TO:=[.box 86 [.own 1001 0],RB bs,.box 35 [o]]
theorem t45 (a bs:List UInt8) (d:a.length<=268435456) (hb:bs.length<=268435456):CallsTX PZ 45 [.own 1000 0,.pt [.sl (ak a)] 0,.own 1002 0] (QB bs .nils)
  (fun Mo c=>∃out r,oS a bs=some (out,r)/\Mo=QB r (.sl (ak out))/\c=.tup []) (fun v=>v=fW/\oS a bs=none):=by
 refine au Tryz.func45 Ol rfl fun f b=>?_;refine ck [1001] (t46 a bs d hb) rfl rfl rfl rfl (fun v h=>h) ?_;rintro v Mo ⟨out,r,e,rfl,rfl⟩ _ _;refine⟨rfl,?_⟩;exact dK [1000,1001,1002] rfl rfl rfl rfl ⟨out,r,e,rfl,rfl⟩
def UW (Mo:List TO):Prop:=∃a b c,Mo=[.win 86 a [] [],.win 88 b [] [],.win 35 c [] []]
def UX (Mo:List TO):Prop:=∃a b c d,Mo=[.win 86 a [] [],.win 88 b [] [],.win 3 c [] [],.win 3 d [] []]
theorem YU (a bs:List UInt8) (o:a.length<=268435456) (hb:bs.length<=268435456) :
  CallsT PZ 33 [.fn 45 [] [.own 1000 0,.pt [.sl (ak a)] 0,.own 1002 0]] (QB bs .nils) (fun Mo c=>(∃out r,oS a bs=some (out,r)/\Mo=QB r (.sl (ak out))/\c=.bool true)\/(oS a bs=none/\UW Mo/\c=.bool false)):=by
 have h:CallsT PZ 33 [.fn 45 [] [.own 1000 0,.pt [.sl (ak a)] 0,.own 1002 0]] (QB bs .nils) (fun Mo c=>(∃out r,oS a bs=some (out,r)/\Mo=QB r (.sl (ak out))/\c=.bool true)\/(oS a bs=none/\sW (QB bs .nils) Mo/\c=.bool false)):=by
  refine iE (PS:=fun v=>v=fW/\oS a bs=none) (ns:=[1]) (out:=LH) Tryz.func33 xI (qD.mono xN fun v h=>h.1) (fun v h=>rfl) rfl rfl ?_ fun q l=>?_
  ·rintro v ⟨rfl,h⟩;refine⟨.bool false,.bool false,?_,?_,fun Mo e=>.inr ⟨h,e,rfl⟩⟩
   ·intro L ρ f;obtain⟨k,g,t,d⟩:=f 0 2 _ rfl rfl;simp only[mD,k,d];rfl
   ·intro F L;rw[Rel]
  refine⟨rfl,?_⟩;refine ck [1000,1001,1002] (t45 a bs o hb) rfl rfl rfl rfl (fun v h=>h) ?_;rintro v Mo ⟨out,r,b,rfl,rfl⟩ _ _;refine⟨rfl,?_⟩;exact dK [1000,1001,1002] rfl rfl rfl rfl (.inl ⟨out,r,b,rfl,rfl⟩)
 refine((h.toX (Pp:=fun _=>False)).view (vw.refl _) (fun Mo c n=>?_) fun _ h=>h).noPan;rcases n with h | ⟨b,⟨p,M1,rfl,j,M2,rfl,m,M3,rfl,rfl⟩,rfl⟩
 ·exact⟨Mo,vw.refl _,.inl h⟩
 ·exact⟨_,vw.cons (jI p) (vw.cons (jI j) (vw.cons (jI m) (vw.refl []))),.inr ⟨b,⟨_,_,_,rfl⟩,rfl⟩⟩
theorem YV (bs:List UInt8) :
  CallsT PZ 33 [.fn 43 [] [.own 1000 0,.own 1002 0,.own 1003 0]] (PB bs 0 0) (fun Mo c=>(∃x y r,sL bs=some ((x,y),r)/\Mo=PB r x y/\c=.bool true)\/(sL bs=none/\UX Mo/\c=.bool false)):=by
 have h:CallsT PZ 33 [.fn 43 [] [.own 1000 0,.own 1002 0,.own 1003 0]] (PB bs 0 0) (fun Mo c=>(∃x y r,sL bs=some ((x,y),r)/\Mo=PB r x y/\c=.bool true)\/(sL bs=none/\sW (PB bs 0 0) Mo/\c=.bool false)):=by
  refine iE (PS:=fun v=>v=fW/\sL bs=none) (ns:=[1]) (out:=LH) Tryz.func33 xI (qD.mono xN fun v h=>h.1) (fun v h=>rfl) rfl rfl ?_ fun p k=>?_
  ·rintro v ⟨rfl,h⟩;refine⟨.bool false,.bool false,?_,?_,fun Mo d=>.inr ⟨h,d,rfl⟩⟩
   ·intro L ρ e;obtain⟨j,g,t,b⟩:=e 0 2 _ rfl rfl;simp only[mD,j,b];rfl
   ·intro F L;rw[Rel]
  refine⟨rfl,?_⟩;refine ck [1000,1001,1002,1003] (t43 bs) rfl rfl rfl rfl (fun v h=>h) ?_;rintro v Mo ⟨x,y,r,a,rfl,rfl⟩ _ _;refine⟨rfl,?_⟩;exact dK [1000,1001,1002,1003] rfl rfl rfl rfl (.inl ⟨x,y,r,a,rfl,rfl⟩)
 refine((h.toX (Pp:=fun _=>False)).view (vw.refl _) (fun Mo c n=>?_) fun _ h=>h).noPan;rcases n with h | ⟨a,⟨o,M1,rfl,f,M2,rfl,m,M3,rfl,l,M4,rfl,rfl⟩,rfl⟩
 ·exact⟨Mo,vw.refl _,.inl h⟩
 ·exact⟨_,vw.cons (jI o) (vw.cons (jI f) (vw.cons (jI m) (vw.cons (jI l) (vw.refl [])))),.inr ⟨a,⟨_,_,_,_,rfl⟩,rfl⟩⟩
def rO (a d:List UInt8):List UInt8×Int :=
 match sL d with
 | none=>([],16)
 | some ((n,s),r)=>if n≠a.length\/s≠kZ a then([],17)
  else match oS a r with
   | some (out,_)=>if eU a out=d then(out,0) else([],16)
   | none=>([],16)
end Go.Fr.Tryz
namespace Go.Fr.Tryz
open Go Go.Fr.T
theorem ofNat_toNat {n:Nat}(h:n<256):(UInt8.ofNat n).toNat=n:=by
 rw[UInt8.toNat_ofNat'];omega
theorem zy {f k z m:Nat}{r:List UInt8}(a:m<128) (b:0<m\/k=0):mr (f+1) k z (bV m++r)=some (I7 (z+m*128 ^ k),r):=by
 rw[bV,dif_pos a];simp only[aaV,aa5,mr];rw[ofNat_toNat (by omega),o6 a,o6 b]
theorem FJ {f k z m:Nat}{r:List UInt8}(a:¬m<128):mr (f+1) k z (bV m++r)=mr f (k+1) (z+m % 128*128 ^ k) (bV (m / 128)++r):=by
 rw[bV,dif_neg a];simp only[aaV,mr];rw[ofNat_toNat (by omega),vv (by omega),Nat.add_sub_cancel_left]
theorem IW (m k:Nat):m % 128*128 ^ k+m / 128*128 ^ (k+1)=m*128 ^ k:=by
 have h:m % 128+128*(m / 128)=m:=Nat.mod_add_div m 128;have e:128 ^ (k+1)=128*128 ^ k:=by rw[Nat.pow_succ,Nat.mul_comm]
 rw[e,<-Nat.mul_assoc,Nat.mul_comm (m / 128) 128,<-Nat.add_mul,h]
theorem zA:∀(f k z m:Nat) (r:List UInt8),(0<m\/k=0)->m<128 ^ (f+1)->mr (f+1) k z (bV m++r)=some (I7 (z+m*128 ^ k),r)
 | 0,k,z,m,r,a,h=>zy (by simpa using h) a
 | f+1,k,z,m,r,a,h=>by
  by_cases b:m<128
  ·exact zy b a
  ·rw[FJ b,zA f (k+1) _ (m / 128) r (.inl (by omega)) (by rw[Nat.pow_succ] at h;omega),Nat.add_assoc,IW]
theorem SN (n:Int):I7 (zz n)=n:=by
 unfold I7 zz;split<;>split<;>omega
theorem mB (n:Int) (r:List UInt8) (b:-1099511627776<=n) (a:n<=1099511627776):getD (bV (zz n)++r)=some (n,r):=by
 have h:=zA 5 0 0 (zz n) r (.inr rfl) (Nat.lt_of_le_of_lt (QD n 1099511627776 (by omega) (by omega)) (by decide));unfold getD;rw[h];simp only[Nat.pow_zero,Nat.mul_one,Nat.zero_add,SN]
theorem IX (b r:List UInt8):takeD ((b.length:Nat):Int) (b++r)=some (b,r):=by
 unfold takeD;rw[o6 ⟨by omega,by rw[aaR];omega⟩];simp
theorem rP (x:List UInt8) (i t:Nat):(cQ x i)[t]?=if t<32 then x[32*i+t]? else none:=by
 unfold cQ;rw[abo];split
 ·rw[abm]
 ·rfl
theorem ju (x:List UInt8) (i:Nat):(cQ x i).length=min 32 (x.length-32*i):=by
 unfold cQ;rw[aa9,abC]
theorem IY {x y:List UInt8}(b:x.length=y.length) (h:∀i<fH y.length,cQ x i=cQ y i):x=y:=by
 apply abq;intro j
 by_cases a:j<y.length
 ·have:=j3 (fun l:List UInt8=>l[j % 32]?) (h (j / 32) (by unfold fH;omega));simp only[rP] at this;rw[o6 (by omega),o6 (by omega),show 32*(j / 32)+j % 32=j by omega] at this;exact this
 ·rw[aa0 (by omega),aa0 (by omega)]
theorem G6 {out b:List UInt8}{o:Nat}(h:o+b.length<=out.length) (j:Nat):(rN out o b)[j]?=if o<=j/\j<o+b.length then b[j-o]? else out[j]?:=by
 unfold rN;rw[aaT,List.getElem?_append];have d:(out.take o).length=o:=by rw[aa9];omega
 rw[d];split
 ·rename_i a;rw[vv (by omega),abo,o6 a]
 ·rename_i a;rw[List.getElem?_append];split
  ·rename_i c;rw[o6 (by omega)]
  ·rename_i c;rw[vv (by omega),abm];congr 1;omega
theorem LO {out b:List UInt8}{i:Nat}(h:out.length=b.length) (hi:32*i<b.length) (j:Nat):cQ (rN out (32*i) (cQ b i)) j=if j=i then cQ b i else cQ out j:=by
 have e:=ju b i;have c:32*i+(cQ b i).length<=out.length:=by omega
 apply abq;intro t;rw[rP,G6 c]
 by_cases d:j=i
 ·subst d;rw[o6 rfl]
  by_cases a:t<32
  ·rw[o6 a]
   by_cases f:32*j+t<b.length
   ·rw[o6 (by omega),show 32*j+t-32*j=t by omega]
   ·rw[vv (by omega),aa0 (by omega),aa0 (by omega)]
  ·rw[vv a,aa0 (by omega)]
 ·rw[vv d,rP out]
  by_cases a:t<32
  ·rw[o6 a,o6 a,vv (by omega)]
  ·rw[vv a,vv a]
def Up:Int->List Nat->Prop
 | _,[]=>True
 | p,i::l=>p<i/\Up i l
theorem G7 (b:List UInt8) (hb:b.length<=268435456):∀(l:List Nat) (p:Int) (out:List UInt8),-1<=p->Up p l->(∀i∈l,i<fH b.length)->p<=1073741824->out.length=b.length ->
  (∀i<fH b.length,i∉l->cQ out i=cQ b i)->uZ b.length l.length p out (zM b p l)=some (b,[])
 | [],p,out,_,_,_,_,c,h=>by
  have:out=b:=IY c fun i hi=>h i hi (by simp);rw[this];rfl
 | i::l,p,out,s,n,m,o,c,h=>by
  have k:=m i (by simp);have hi:=CJ k;have r:fH b.length<=1073741824:=by unfold fH;omega
  have a:(cQ out i).length=(cQ b i).length:=by rw[ju,ju,c]
  show gB getD _ (bV (zz (i-p))++(cQ b i++zM b i l))=_;rw[aA (mB (i-p) _ (by have:=n.1;omega) (by omega))];have e:p+((i:Int)-p)=i:=by omega
  rw[e];rw[o6 ⟨by omega,by omega⟩];rw[show((i:Int)).toNat=i from rfl,a,aA (IX _ _)];refine G7 b hb l i _ (by omega) n.2 (fun j f=>m j (by simp[f])) (by omega) ?_ fun j f q=>?_
  ·rw[pO (by have:=ju b i;omega),c]
  ·rw[LO c hi];split
   ·rename_i e;rw[e]
   ·rename_i d;exact h j f (by simp[d,q])
theorem zB (f:Nat->Bool):∀(n m:Nat) (p:Int),p<m->Up p ((List.range' m n).filter f)
 | 0,m,p,h=>by simp[Up]
 | n+1,m,p,h=>by
  rw[List.range'_succ,List.filter_cons];split
  ·exact⟨h,zB f n (m+1) m (by omega)⟩
  ·exact zB f n (m+1) p (by omega)
theorem SQ (a b:List UInt8):Up (-1) (lI a b):=by
 unfold lI;rw[List.range_eq_range'];exact zB _ _ 0 (-1) (by omega)
theorem Px {x y:List UInt8}(h:x <+: y) {t:Nat}(a:t<x.length):y[t]?=x[t]?:=by
 obtain⟨s,rfl⟩:=h;rw[aaY a]
theorem IZ (a b:List UInt8) (i:Nat) (h:cQ b i <+: cQ a i):cQ (CI a b.length) i=cQ b i:=by
 apply abq;intro t;have f:(a.take b.length).length<=b.length:=by rw[aa9];omega
 rw[rP]
 by_cases d:t<(cQ b i).length
 ·have e:=Px h d;have c:=ju b i;rw[<-e,rP,o6 (by omega),o6 (by omega)];unfold CI;have j:32*i+t<a.length:=by
   have:=h.length_le;have:=ju a i;omega
  rw[G6 (by simp;omega),o6 (by rw[aa9];omega),Nat.sub_zero,abo,o6 (by omega)]
 ·have c:=ju b i;rw[aa0 (by omega:(cQ b i).length<=t)];split
  ·rw[aa0 (by rw[u4];omega)]
  ·rfl
def u5 (b:List UInt8):List Nat->Nat
 | []=>0
 | i::l=>(cQ b i).length+u5 b l
theorem G8 (b:List UInt8):∀(p:Int) (l:List Nat),u5 b l+l.length<=(zM b p l).length
 | p,[]=>by simp[u5,zM]
 | p,i::l=>by
  have c:=G8 b i l;have a:=kR (zz (i-p));simp only[u5,zM,aaR,aaW];omega
theorem Es (b:List UInt8):∀(l m:List Nat),u5 b (l++m)=u5 b l+u5 b m
 | [],m=>by simp[u5]
 | i::l,m=>by simp only[aaV,u5,Es b l m];omega
theorem Bt (a b:List UInt8):∀k:Nat,min (32*k) b.length<=min (32*k) a.length+u5 b ((List.range k).filter (tZ a b))
 | 0=>by simp
 | k+1=>by
  have f:=Bt a b k;have hb:=ju b k;rw[List.range_succ,List.filter_append,Es];cases e:tZ a b k with
  | true =>
   simp only[List.filter_cons,e,abd,List.filter_nil,u5];omega
  | false =>
   have h:cQ b k <+: cQ a k:=by simpa[tZ] using e
   have c:=h.length_le;have d:=ju a k;simp only[List.filter_cons,e,List.filter_nil];simp only[aaZ,abp,u5];omega
theorem Py (a b:List UInt8):b.length<=a.length+(zM b (-1) (lI a b)).length:=by
 have f:=Bt a b (fH b.length);have d:=G8 b (-1) (lI a b);have c:b.length<=32*fH b.length:=by unfold fH;omega
 have e:u5 b ((List.range (fH b.length)).filter (tZ a b))=u5 b (lI a b):=rfl;omega
theorem Bu (a b:List UInt8) (d:a.length<=268435456):sL (eU a b)=some (((a.length:Int),kZ a),mJ [(b.length:Int),kZ b,((lI a b).length:Int)]++zM b (-1) (lI a b)):=by
 have c:=mH a;have e:eU a b=bV (zz (a.length:Int))++(bV (zz (kZ a))++(mJ [(b.length:Int),kZ b,((lI a b).length:Int)]++zM b (-1) (lI a b))):=by
  simp only[eU,rM,mJ,aaT]
 unfold sL;rw[e,aA (mB _ _ (by omega) (by omega)),aA (mB _ _ (by omega) (by omega))];rfl
theorem Et (a b:List UInt8) (j:a.length<=268435456) (hb:b.length<=268435456):rO a (eU a b)=(b,0):=by
 have k:=mH b;have f:(lI a b).length<=268435456:=by have:=GX a b;unfold fH at this;omega
 have c:oS a (mJ [(b.length:Int),kZ b,((lI a b).length:Int)]++zM b (-1) (lI a b))=some (b,[]):=by
  have e:mJ [(b.length:Int),kZ b,((lI a b).length:Int)]++zM b (-1) (lI a b)=bV (zz (b.length:Int))++(bV (zz (kZ b))++(bV (zz ((lI a b).length:Int))++zM b (-1) (lI a b))):=by
   simp only[mJ,aaT,aa5]
  unfold oS;rw[e,aA (mB _ _ (by omega) (by omega)),aA (mB _ _ (by omega) (by omega)),aA (mB _ _ (by omega) (by omega))];unfold Er;have l:=Py a b;rw[o6 ⟨⟨by omega,by omega⟩,by omega⟩];refine G7 b hb (lI a b) (-1) (CI a b.length) (by omega) (SQ a b) (fun i hi=>FE hi) (by omega) (u4 a b.length) fun i hi d=>?_;refine IZ a b i ?_;have:¬(tZ a b i=true):=fun h=>d (by simp only[lI,List.mem_filter,List.mem_range];exact⟨hi,h⟩);simpa[tZ] using this
 unfold rO;rw[Bu a b j];simp only[];rw[vv (by simp),c];simp
theorem Eu (c a b:List UInt8) (d:a.length<=268435456) (h:a.length≠c.length\/kZ a≠kZ c):rO c (eU a b)=([],17):=by
 unfold rO;rw[Bu a b d];simp only[];rw[o6 (by rcases h with h | h;exact .inl (by omega);exact .inr h)]
end Go.Fr.Tryz
namespace Go.Fr.Tryz
open Go Go.RowKit Go.Proofs Go.Fr Go.Fr.T Go.Fr.Api Go.Fr.Dm
def uc:Wd:=⟨[⟨true,-1,.mk 2 2 0 0 [] false [] []⟩],[],[⟨0,[⟨1,0,0,0,0,[.mk 1 0 0 (-3) [] false [] [],.mk 6 0 0 0 [] true [0,-1] [0]],[4,5]⟩],[⟨0,1,false,true,false⟩],0,6,2,[]⟩],[[]],[⟨0,7⟩],1,0,0⟩
theorem YW:CallsT PZ 20 [] [] (jv [] (.agg (uX [] [] 0 uc))):=by
 refine aq Tryz.func20 NW rfl fun a _=>?_;exact aO rfl rfl
theorem zC {z:Nat}(h:z<128):bV z=[UInt8.ofNat z]:=by rw[bV,dif_pos h]
def kT:List UInt8:=[76,83,1,0,0,0,0,0,0,0,0]
theorem YX:lH w0=kT++sK kT:=by
 have h:oU kW w0=([0,0,0,0,0,0,0,0],true):=by
  simp[w0,oU,bT,aV,bD,Mz,kW,zz,zC]
 simp[lH,h,gJ,di,kT]
def rI:List UInt8:=[2,2,1,4,4,0,0,0,0,0,0,0,2,0,2,2,0,0,0,0,4,2,0,0,5,0,0,0,0,12,0,0,0,0,2,4,0,1,2,0,4,8,10,2,0,2,0,2,0,0,12,4,0,2,0,2,0,14,2,0,0]
theorem LP:oU kW uc=(rI,true):=by
 simp[uc,rI,oU,bT,aV,bD,Mz,kW,zz,zC,O7,Tn,oe,Pb,O8,O9,Qo,Qp,uV,s8,Ab,Aa]
theorem UY:lH uc=gJ (di++rI):=by
 unfold lH;rw[LP,o6 rfl]
theorem YZ:oP rI=some uc:=by rfl
theorem I0 (b:List UInt8):(gJ b).take ((gJ b).length-4)=b:=by
 have h:(gJ b).length-4=b.length:=by simp[gJ,sK]
 rw[h];simp[gJ]
theorem LQ (x:List UInt8):vX (gJ (di++x))=match oP x with | some y=>(some y,0) | none=>(none,16):=by
 have c:¬(gJ (di++x)).length<7:=by simp[gJ,sK,di]
 have a:di <+: gJ (di++x):=⟨x++sK (di++x),by simp[gJ]⟩;have b:(di++x).drop 3=x:=by simp[di]
 unfold vX;rw[vv (fun h=>h.elim c (fun h=>h a)),I0,vv (fun h=>h rfl),b];cases oP x<;>rfl
theorem Y0:vX (lH uc)=(some uc,0):=by rw[UY,LQ,YZ]
def zp:List UInt8:=kT++[0,0,0,0]
theorem Y1:vX zp=(none,17):=by
 have a:zp.take (zp.length-4)=kT:=rfl;have b:¬gJ kT=zp:=by
  intro h;have c:sK kT=[0,0,0,0]:=by
   have:=List.append_cancel_left (h:kT++sK kT=kT++[0,0,0,0]);exact this
  exact p7 c (by decide)
 unfold vX;rw[vv (fun h=>h.elim (by decide) (fun h=>h ⟨[0,0,0,0,0,0,0,0,0,0,0,0],rfl⟩)),a,o6 b]
def eO:List UInt8:=List.replicate 40 1
def rQ:List UInt8:=eO.set 39 2
theorem Y2:lI eO rQ=[1]:=by decide
theorem SR:kZ eO≠kZ rQ:=by decide
theorem LR:eU eO rQ=bV (zz 40)++bV (zz (kZ eO))++bV (zz 40)++bV (zz (kZ rQ))++[2,4]++[1,1,1,1,1,1,1,2]:=by
 have e:bV (zz 1)=[2]:=zC (by decide);have b:bV (zz (((1:Nat):Int) - -1))=[4]:=zC (by decide);have a:cQ rQ 1=[1,1,1,1,1,1,1,2]:=by decide
 have d:(eO.length:Int)=40:=by decide
 have c:(rQ.length:Int)=40:=by decide
 have f:(([1]:List Nat).length:Int)=1:=rfl;simp only[eU,rM,Y2,mJ,zM,d,c,f,e,b,a,aaT,aaX,aa5,aaV]
theorem pat1:rO eO (eU eO rQ)=(rQ,0):=Et _ _ (by decide) (by decide)
theorem pat2:rO rQ (eU eO rQ)=([],17):=Eu rQ eO rQ (by decide) (.inr SR)
def Zx:wG:=⟨[],[],0⟩
def Tr:wG:=⟨[],[],5⟩
theorem UZ:FG Tr Tr uc uc=true:=by unfold FG;rw[<-dF rfl];simp
theorem U0:FG Tr Zx uc uc=false:=by
 unfold FG;rw[<-aD (by intro h;injection h with _ _ h;cases h)];rfl
theorem Y3:FD w0:=by simp[FD,w0]
theorem LS:FD uc:=by simp[FD,uc,Vx,Yl,Yk,vsB,Fu,Ec]
theorem SS {a d:List UInt8}(h:sL d=none):rO a d=([],16):=by unfold rO;rw[h]
theorem SW {a d r:List UInt8}{n s:Int}(h:sL d=some ((n,s),r)) (k:n≠a.length\/s≠kZ a):rO a d=([],17):=by
 unfold rO;rw[h];simp only[];rw[o6 k]
theorem SX {a d r:List UInt8}{n s:Int}(h:sL d=some ((n,s),r)) (c:n=a.length) (b:s=kZ a) (e:oS a r=none):rO a d=([],16):=by
 unfold rO;rw[h];simp only[];rw[vv (fun k=>k.elim (fun k=>k c) (fun k=>k b)),e]
theorem SY {a d r b out:List UInt8}{n s:Int}(h:sL d=some ((n,s),r)) (f:n=a.length) (c:s=kZ a) (e:oS a r=some (out,b)):rO a d=if eU a out=d then(out,0) else([],16):=by
 unfold rO;rw[h];simp only[];rw[vv (fun k=>k.elim (fun k=>k f) (fun k=>k c)),e]
theorem LU {d r:List UInt8}{p:Int×Int}(h:sL d=some (p,r)):r.length<=d.length:=by
 obtain⟨x,e,a,h⟩:=nW h;obtain⟨y,b,c,h⟩:=nW h;have j:=(m6 a).2;have f:=(m6 c).2;have h:some ((x,y),b)=some (p,r):=h;injection h with h;injection h with _ h
 rw[<-h];omega
set_option maxRecDepth 20000 in
theorem Zy (a d:List UInt8) (ha:a.length<=268435456) (hb:d.length<=268435456) :
  CallsT PZ 12 [.sl (ak a),.sl (ak d)] [] (jv [] (.tup [.sl (ak (rO a d).1),IC (rO a d).2])):=by
 have h:(ak a).length=a.length:=aQ;have x:=YV d;have m:=@SS a d;have k:=@SW a d;have p:=@SX a d;have l:=@SY a d;have t:=@LU d;generalize rO a d=pd at m k p l ⊢;refine aq Tryz.func12 NR rfl fun hw z=>?_;refine CG [6,12,7,8] x rfl rfl rfl rfl ?_;rintro v Mo (⟨n,s,r,e,rfl,rfl⟩ | ⟨e,⟨u,w,p3,p4,rfl⟩,rfl⟩) _ _
 ·refine⟨rfl,?_⟩;have y:=t e;have q:=YU a r ha (by omega);refine af (fun b=>?_) (fun b=>?_)
  ·have b:(!decide (n=((ak a).length:Int)))=true:=b;have b:n≠a.length:=by rw[h] at b;simpa using b
   exact aO rfl (by rw[k e (.inl b)];rfl)
  have b:(!decide (n=((ak a).length:Int)))=false:=b;have b:n=a.length:=by rw[h] at b;simpa using b
  refine eK (Tp a) rfl fun _=>?_;refine af (fun c=>?_) (fun c=>?_)
  ·have c:(!decide (s=kZ a))=true:=c;exact aO rfl (by rw[k e (.inr (by simpa using c))];rfl)
  have c:(!decide (s=kZ a))=false:=c;have c:s=kZ a:=by simpa using c
  refine CG [6,12,9] q rfl rfl rfl rfl ?_;rintro v Mo (⟨out,r',j,rfl,rfl⟩ | ⟨j,⟨u,w,p3,rfl⟩,rfl⟩) _ _
  ·refine⟨rfl,?_⟩;have ac:=LN j;refine bM (Zu a out (by omega) (by omega)) rfl fun _=>?_;refine bM (t31 (eU a out) d) rfl fun _=>?_;have o:=l e b c j;refine af (fun f=>?_) (fun f=>?_)
   ·have f:(!decide (eU a out=d))=true:=f;exact aO rfl (by rw[o,vv (by simpa using f)];rfl)
   ·have f:(!decide (eU a out=d))=false:=f;exact aO rfl (by rw[o,o6 (by simpa using f)];rfl)
  ·refine⟨rfl,?_⟩;exact aO rfl (by rw[p e b c j];rfl)
 ·refine⟨rfl,?_⟩;exact aO rfl (by rw[m e];rfl)
theorem Y4:¬(true=false):=by decide
theorem Zz (a b:List UInt8):ak a++ak b=ak (a++b):=by simp[ak]
set_option maxRecDepth 100000 in
theorem t7:CallsT PZ 7 [] [] (jv [] (.bool true)):=by
 have u:CallsT PZ 14 [.agg (uX [] [] 0 w0)] [] (jv [.row 5 1 (ak (lH w0))] (.rw 1000)):=Yv [] [] 0 w0 Y3 (by
  have:oU kW w0=([0,0,0,0,0,0,0,0],true):=by simp[w0,oU,bT,aV,bD,Mz,kW,zz,zC]
  rw[this];decide)
 have f:CallsT PZ 14 [.agg (uX [] [] 0 uc)] [] (jv [.row 5 1 (ak (lH uc))] (.rw 1000)):=Yv [] [] 0 uc LS (by rw[LP];decide);have az:(lH uc).length<=70368744177664:=by rw[UY];simp[gJ,sK,di,rI]
 have t:CallsT PZ 10 [.agg [.sl [],.sl [],IC 5],.sl (ak (lH uc))] [] (jv [] (.tup [.agg (uX [] [] 5 uc),IC 0])):=by
  have:=Yz [] [] 5 (lH uc) az;rw[Y0] at this;exact this
 have r:CallsT PZ 10 [.agg [.sl [],.sl [],IC 0],.sl (ak zp)] [] (jv [] (.tup [.agg (uX [] [] 0 w0),IC 17])):=by
  have:=Yz [] [] 0 zp (by decide);rw[Y1] at this;exact this
 have d:=YX;generalize lH w0=l at u d;have a:(ak eO).set 39 [jU 2]=ak rQ:=by simp[ak,rQ,List.map_set]
 have h8:CallsT PZ 18 [.sl (ak eO),.sl ((ak eO).set 39 [jU 2])] [] (jv [] (.sl (ak (eU eO rQ)))):=by
  rw[a];exact Zu eO rQ (by decide) (by decide)
 have b:(eU eO rQ).length<=268435456:=by
  have q1:=nU (kZ eO) (by have:=mH eO;omega) (by have:=mH eO;omega);have q2:=nU (kZ rQ) (by have:=mH rQ;omega) (by have:=mH rQ;omega);have q3:(bV (zz 40)).length<=10:=nU 40 (by omega) (by omega);rw[LR];simp only[aaR,aaW,abe];omega
 have h7:CallsT PZ 12 [.sl (ak eO),.sl (ak (eU eO rQ))] [] (jv [] (.tup [.sl (ak rQ),IC 0])):=by
  have:=Zy eO (eU eO rQ) (by decide) b;rw[pat1] at this;exact this
 have m:CallsT PZ 12 [.sl ((ak eO).set 39 [jU 2]),.sl (ak (eU eO rQ))] [] (jv [] (.tup [.sl (ak []),IC 17])):=by
  have:=Zy rQ (eU eO rQ) (by decide) b;rw[pat2] at this;rw[a];exact this
 have o:CallsT PZ 23 [.sl ((ak eO).set 39 [jU 2])] [] (jv [] (IC (kZ rQ))):=by rw[a];exact Tp rQ
 have c:=LR;have b1:=mH eO;have b2:=mH rQ;have k1:CallsT PZ 22 [IC 40] [] (jv [.row 5 1 (ak (bV (zz 40)))] (.rw 1000)):=t22 40 (by omega) (by omega);have k2:=t22 (kZ eO) (by omega) (by omega);have k3:=t22 (kZ rQ) (by omega) (by omega);have m1:(bV (zz 40)).length<=10:=nU 40 (by omega) (by omega);have m2:=nU (kZ eO) (by omega) (by omega);have m3:=nU (kZ rQ) (by omega) (by omega);have e:(uY uc).length<=70368744177664:=abB (aa3 (by kernel_rfl:Nat.ble (uY uc).length 100000=true)) (by decide);have s:CallsT PZ 17 [.agg (uX [] [] 5 uc),.agg (uX [] [] 5 uc)] [] (jv [] (.bool true)):=by
  have:=Zw Tr Tr uc uc LS LS e e;rw[UZ] at this;exact this
 have aa:CallsT PZ 17 [.agg (uX [] [] 5 uc),.agg (uX [] [] 0 uc)] [] (jv [] (.bool false)):=by
  have:=Zw Tr Zx uc uc LS LS e e;rw[U0] at this;exact this
 have k:ug ⟨l.toArray⟩ ⟨(kT++sK kT).toArray⟩=true:=by rw[rL,d];simp
 have ab:∀x:List UInt8,ug ⟨x.toArray⟩ ⟨x.toArray⟩=true:=fun x=>by rw[rL];simp
 generalize bV (zz 40)=v1 at k1 m1 c b;generalize bV (zz (kZ eO))=p at k2 m2 c b;generalize bV (zz (kZ rQ))=v3 at k3 m3 c b;generalize eU eO rQ=v at h8 h7 m c;generalize lH uc=ebE at f t;have q:CallsT PZ 21 [IC 40,jU 1] [] (jv [.row 5 1 (ak eO)] (.rw 1000)):=t21 40 1 (by decide);have n:=Tp eO;have z:(ak eO).length=40:=by rw[aQ];rfl
 have j:(ak eO)[39]?=some [jU 1]:=rfl;have y:=t24 kT
 clear b
 have aE:(sK kT).length=4:=rfl;generalize sK kT=d4 at d k y aE;obtain⟨zd,ba,av⟩:∃zd,ak kT++ak d4=ak zd/\ug ⟨l.toArray⟩ ⟨zd.toArray⟩=true:=⟨kT++d4,Zz _ _,k⟩
 clear d k
 generalize kZ eO=n1 at n k2 b1;generalize kZ rQ=n2 at o k3 b2;generalize rQ=tb at a h7;generalize eO=fb at q n z j a h8 h7 m o;have w:ak v1++ak p++ak v1++ak v3++ak [2,4]++ak [1,1,1,1,1,1,1,2]=ak v:=by rw[c];simp only[Zz]
 obtain⟨d2,ap,ar⟩:∃d2,ak v1++ak p++ak v1++ak v3++ak [2,4]++ak [1,1,1,1,1,1,1,2]=ak d2/\ug ⟨v.toArray⟩ ⟨d2.toArray⟩=true:=⟨v,w,ab v⟩;obtain⟨t2,al,ao⟩:∃t2,(ak fb).set 39 [jU 2]=ak t2/\ug ⟨tb.toArray⟩ ⟨t2.toArray⟩=true:=⟨tb,a,ab tb⟩
 clear c w
 refine aq Tryz.func7 Sb rfl fun hw _=>?_;refine callO [] [19] u rfl rfl rfl rfl rfl fun _ _=>?_;refine bM YW rfl fun _=>?_;refine callO [] [23] f rfl rfl rfl rfl rfl fun _ _=>?_;refine wz [23] [] [] t ⟨_,rfl,rfl,rfl,rfl,rfl,fun _ _=>?_⟩;refine bM YW rfl fun _=>?_;refine⟨Nat.succ_pos 3,gO (bs:=kT),?_⟩;refine sJ (bs:=[0,0,0,0]) 11 rfl (by decide) ?_;refine wz [34] [] [] r ⟨_,rfl,rfl,rfl,rfl,rfl,fun _ _=>?_⟩;refine callO [] [38] q rfl rfl rfl rfl rfl fun _ _=>?_;refine callO [] [39] q rfl rfl rfl rfl rfl fun _ _=>?_;refine QY.mk (by decide) (by rw[z];decide) ?_;refine⟨rfl,?_⟩;refine LF (es0:=[jU 1]) j rfl ?_;refine wz [38,39] [] [] h8 ⟨_,rfl,rfl,rfl,rfl,rfl,fun _ _=>?_⟩;refine bM h7 rfl fun _=>?_;refine bM m rfl fun _=>?_;refine callO [] [57] k1 rfl rfl rfl rfl rfl fun _ _=>?_;refine bM n rfl fun _=>?_;refine callO [] [60] k2 rfl rfl rfl rfl rfl fun _ _=>?_;refine sJ (bs:=p) v1.length aQ (by omega) ?_;refine callO [] [62] k1 rfl rfl rfl rfl rfl fun _ _=>?_;refine sJ (bs:=v1) (v1.length+p.length) (Ai aQ aQ) (by omega) ?_;refine bM o rfl fun _=>?_;refine callO [] [66] k3 rfl rfl rfl rfl rfl fun _ _=>?_;refine sJ (bs:=v3) (v1.length+p.length+v1.length) (Ai (Ai aQ aQ) aQ) (by omega) ?_;refine sJ (bs:=[2,4]) (v1.length+p.length+v1.length+v3.length) (Ai (Ai (Ai aQ aQ) aQ) aQ) (by simp only[aaW,abe];omega) ?_;refine nG.mk ⟨l,rfl,?_⟩;refine⟨Nat.succ_pos 10,gO (bs:=[]),?_⟩;refine sJ (bs:=kT) 0 rfl (by decide) ?_;refine eK y rfl fun _=>?_;refine sJ (bs:=d4) 11 rfl (by omega) ?_;refine nG.mk ⟨zd,ba,?_⟩;refine af (fun _=>?_) (fun h=>p7 (av.symm.trans h) Y4);refine eK s rfl fun _=>?_;refine eK YW rfl fun _=>?_;refine eK aa rfl fun _=>?_;refine nG.mk ⟨v,rfl,?_⟩;refine sJ (bs:=[1,1,1,1,1,1,1,2]) (v1.length+p.length+v1.length+v3.length+2) (Ai (Ai (Ai (Ai aQ aQ) aQ) aQ) rfl) (by simp only[aaW,abe];omega) ?_;refine nG.mk ⟨d2,ap,?_⟩;refine af (fun _=>?_) (fun h=>p7 (ar.symm.trans h) Y4);refine nG.mk ⟨tb,rfl,?_⟩;refine nG.mk ⟨t2,al,?_⟩;refine af (fun _=>?_) (fun h=>p7 (ao.symm.trans h) Y4);exact aO rfl rfl
end Go.Fr.Tryz
namespace Go.Fr.Tryz
open Go Go.RowKit Go.Proofs Go.Fr Go.Fr.T Go.Fr.Api
theorem lJ {p:Prop}[Decidable p] (h:(!decide p)=true):¬p:=by simpa using h
theorem rR {p:Prop}[Decidable p] (h:(!decide p)=false):p:=by simpa using h
theorem wR {p:Prop}(h:(!IQ p)=true):¬p:=kS (by simpa using h)
theorem wS {p:Prop}(h:(!IQ p)=false):p:=jY (by simpa using h)
theorem nX {a:Type}{f:a->List C}{l:List a}(h:Wf (.sl (l.map f))) {x:a}(b:x∈l):sU (f x):=by
 simp only[Wf] at h;exact DK.1 h.2 _ (abk.2 ⟨x,b,rfl⟩)
theorem bQ {a:Type}{f:a->List C}{l:List a}:(l.map f).length=l.length:=by simp
theorem zD {l:List Int}:(qK l).length=l.length:=by simp[qK]
theorem iA {c d:Type}{f:c->List C}{g:d->List C}{a:List c}{b:List d}(h:(!decide (((a.map f).length:Int)=((b.map g).length:Int)))=false):a.length=b.length:=by
 have q:=rR h;rw[bQ,bQ] at q;omega
theorem LV {a b:List Int}(h:(!decide (((qK a).length:Int)=((qK b).length:Int)))=false):a.length=b.length:=by
 have q:=rR h;rw[zD,zD] at q;omega
theorem jw {a b:Nat}(h:¬(a:Int)=b):¬a=b:=fun e=>h (by rw[e])
theorem QH:∀(n:Nat) (x y:Ty),SizeOf.sizeOf x<n->dI 116 [Ak x,Ak y] (x=y)
 | 0,x,y,h=>p7 h (by omega)
 | n+1,x,y,h=>by
  have ih:∀z∈x.args,∀w,dI 116 [Ak z,Ak w] (z=w):=fun z hz w=>QH n z w (by have:=LI hz;omega);refine aq Tryz.func116 Kz rfl fun hw _=>?_;have s:Wf (.sl (x.args.map s5)):=by have h:=hw.1;simp only[Ak,Wf,sU] at h;exact h.2.2.1
  refine af (fun p=>?_) (fun p=>?_)
  ·exact aO rfl (j3 C.bool (aD fun e=>(lJ p) (by rw[e])))
  refine af (fun r=>?_) (fun r=>?_)
  ·exact aO rfl (j3 C.bool (aD fun e=>(lJ r) (by rw[e])))
  refine af (fun o=>?_) (fun o=>?_)
  ·exact aO rfl (j3 C.bool (aD fun e=>(jw (by have q:=lJ o;rwa [bQ,bQ] at q)) (by rw[e])))
  have o:=iA o;refine aZ x.args.length 5 [] () (fun _=>[]) (fun _=>[]) (fun k _=>∀j<k,x.args[j]?=y.args[j]?) (fun j hj=>p7 hj (by omega)) (aj rfl) trivial trivial (fun _=>rfl) (fun _=>rfl) ?_;rintro f ⟨⟩ ac c _ _ _;refine aK (fun a=>?_) (fun m=>?_)
  ·have a:f<x.args.length:=by rw[bQ] at a;omega
   have ae:=bA s;obtain⟨v,b⟩:=aS a;obtain⟨yA,d⟩:=aS (l:=y.args) (k:=f) (by omega);refine wC b ?_;refine wC d ?_;refine eK (ih v (aaS b) yA) rfl fun _=>?_;refine af (fun t=>?_) (fun t=>?_)
   ·exact aO rfl (j3 C.bool (aD fun e=>cq b d (wR t) (by rw[e])))
   refine Fit.aad (by omega) (by omega) ?_;exact⟨(f+1,()),⟨a,bX c b d (wS t)⟩,⟨bn,trivial⟩,trivial,bq a⟩
  ·have m:¬f<x.args.length:=by rw[bQ] at m;omega
   have u:x.args=y.args:=bW (n:=f) (by omega) (by omega) c;exact aO rfl (j3 C.bool (dF (QE (rR p) (rR r) u)))
theorem SZ (x y:Ty):dI 116 [Ak x,Ak y] (x=y):=QH _ x y (abH _)
theorem S0 (a b:List Ty):dI 115 [.sl (a.map s5),.sl (b.map s5)] (a=b):=by
 refine aq Tryz.func115 Ky rfl fun u _=>?_;refine af (fun p=>?_) (fun p=>?_)
 ·exact aO rfl (j3 C.bool (aD fun e=>(jw (by have q:=lJ p;rwa [bQ,bQ] at q)) (by rw[e])))
 have p:=iA p;refine aZ a.length 5 [] () (fun _=>[]) (fun _=>[]) (fun k _=>∀j<k,a[j]?=b[j]?) (fun j v=>p7 v (by omega)) (aj rfl) trivial trivial (fun _=>rfl) (fun _=>rfl) ?_;rintro m ⟨⟩ w d _ _ _;refine aK (fun c=>?_) (fun o=>?_)
 ·have c:m<a.length:=by rw[bQ] at c;omega
  have x:=bA u.1;obtain⟨t,h⟩:=aS c;obtain⟨y,f⟩:=aS (l:=b) (k:=m) (by omega);refine wC h ?_;refine wC f ?_;refine eK (SZ t y) rfl fun _=>?_;refine af (fun r=>?_) (fun r=>?_)
  ·exact aO rfl (j3 C.bool (aD fun e=>cq h f (wR r) (by rw[e])))
  refine Fit.aad (by omega) (by omega) ?_;exact⟨(m+1,()),⟨c,bX d h f (wS r)⟩,⟨bn,trivial⟩,trivial,bq c⟩
 ·have o:¬m<a.length:=by rw[bQ] at o;omega
  have s:a=b:=bW (n:=m) (by omega) (by omega) d;exact aO rfl (j3 C.bool (dF s))
theorem S1 (a b:List Int):dI 117 [.sl (qK a),.sl (qK b)] (a=b):=by
 refine aq Tryz.func117 KA rfl fun t _=>?_;refine af (fun p=>?_) (fun p=>?_)
 ·exact aO rfl (j3 C.bool (aD fun e=>(jw (by have q:=lJ p;rwa [zD,zD] at q)) (by rw[e])))
 have p:=LV p;refine aZ a.length 5 [] () (fun _=>[]) (fun _=>[]) (fun k _=>∀j<k,a[j]?=b[j]?) (fun j u=>p7 u (by omega)) (aj rfl) trivial trivial (fun _=>rfl) (fun _=>rfl) ?_;rintro m ⟨⟩ v d _ _ _;refine aK (fun c=>?_) (fun o=>?_)
 ·have c:m<a.length:=by rw[zD] at c;omega
  have w:=(bA t.1:a.length<=_);obtain⟨x,h⟩:=aS c;obtain⟨y,f⟩:=aS (l:=b) (k:=m) (by omega);refine Cv h ?_;refine Cv f ?_;refine af (fun r=>?_) (fun r=>?_)
  ·exact aO rfl (j3 C.bool (aD fun e=>cq h f (lJ r) (by rw[e])))
  refine Fit.aad (by omega) (by omega) ?_;exact⟨(m+1,()),⟨c,bX d h f (rR r)⟩,⟨bn,trivial⟩,trivial,bq c⟩
 ·have o:¬m<a.length:=by rw[zD] at o;omega
  have s:a=b:=bW (n:=m) (by omega) (by omega) d;exact aO rfl (j3 C.bool (dF s))
theorem t91 (x y:Api.Data):dI 91 [.agg (iL x),.agg (iL y)] (x=y):=by
 refine aq Tryz.func91 OP rfl fun hw _=>?_;have v:Wf (.sl (x.variants.map fB)):=by have h:=hw.1;simp only[iL,Wf,sU] at h;simp only[Wf];exact h.2.2.2.1
 refine af (fun p=>?_) (fun p=>?_)
 ·exact aO rfl (j3 C.bool (aD fun e=>(lJ p) (by rw[e])))
 refine af (fun t=>?_) (fun t=>?_)
 ·exact aO rfl (j3 C.bool (aD fun e=>(lJ t) (by rw[e])))
 refine af (fun r=>?_) (fun r=>?_)
 ·exact aO rfl (j3 C.bool (aD fun e=>(lJ r) (by rw[e])))
 refine af (fun w=>?_) (fun w=>?_)
 ·exact aO rfl (j3 C.bool (aD fun e=>(lJ w) (by rw[e])))
 refine af (fun o=>?_) (fun o=>?_)
 ·exact aO rfl (j3 C.bool (aD fun e=>(jw (by have q:=lJ o;rwa [bQ,bQ] at q)) (by rw[e])))
 have o:=iA o;refine aZ x.variants.length 5 [] () (fun _=>[]) (fun _=>[]) (fun k _=>∀j<k,x.variants[j]?=y.variants[j]?) (fun j hj=>p7 hj (by omega)) (aj rfl) trivial trivial (fun _=>rfl) (fun _=>rfl) ?_;rintro f ⟨⟩ ae d _ _ _;refine aK (fun b=>?_) (fun m=>?_)
 ·have b:f<x.variants.length:=by rw[bQ] at b;omega
  have ag:=bA v;obtain⟨xA,c⟩:=aS b;obtain⟨yA,a⟩:=aS (l:=y.variants) (k:=f) (by omega);refine bw c rfl rfl ?_;refine bw a rfl rfl ?_;refine af (fun z=>?_) (fun z=>?_)
  ·exact aO rfl (j3 C.bool (aD fun e=>cq c a (fun u=>(lJ z) (by rw[u])) (by rw[e])))
  refine bw c rfl rfl ?_;refine bw a rfl rfl ?_;refine eK (S0 xA.fields yA.fields) rfl fun _=>?_;refine af (fun s=>?_) (fun s=>?_)
  ·exact aO rfl (j3 C.bool (aD fun e=>cq c a (fun u=>(wR s) (by rw[u])) (by rw[e])))
  refine Fit.aad (by omega) (by omega) ?_;exact⟨(f+1,()),⟨b,bX d c a (var_eq (sF (rR z)) (wS s))⟩,⟨bn,trivial⟩,trivial,bq b⟩
 ·have m:¬f<x.variants.length:=by rw[bQ] at m;omega
  have eA:x.variants=y.variants:=bW (n:=f) (by omega) (by omega) d;exact aO rfl (j3 C.bool (dF (GZ (sF (rR p)) (rR t) (rR r) (rR w) eA)))
theorem Y5 (x y:EG):dI 136 [.agg (qw x),.agg (qw y)] (x=y):=by
 refine aq Tryz.func136 KU rfl fun k _=>?_;refine aK (fun a=>?_) (fun a=>aO rfl (j3 C.bool (aD fun e=>a (by rw[e]))));refine aK (fun j=>?_) (fun j=>aO rfl (j3 C.bool (aD fun e=>j (by rw[e]))));refine aK (fun c=>?_) (fun c=>aO rfl (j3 C.bool (aD fun e=>c (by rw[e]))));refine aK (fun b=>?_) (fun b=>aO rfl (j3 C.bool (aD fun e=>b (by rw[e]))));refine aK (fun d=>?_) (fun d=>aO rfl (j3 C.bool (aD fun e=>d (by rw[e]))));refine bM (S1 x.args y.args) rfl fun _=>?_;refine af (fun f=>?_) (fun f=>aO rfl (j3 C.bool (aD fun e=>kS f (by rw[e]))));refine bM (S0 x.types y.types) rfl fun _=>?_;exact aO rfl (j3 C.bool (iy ⟨fun h=>LK a j c b d (jY f) h,fun e=>by rw[e]⟩))
theorem Y6 (a b:List Block):dI 118 [.sl (a.map iF),.sl (b.map iF)] (a=b):=by
 refine aq Tryz.func118 KC rfl fun hw _=>?_;refine af (fun y=>?_) (fun y=>?_)
 ·exact aO rfl (j3 C.bool (aD fun e=>(jw (by have q:=lJ y;rwa [bQ,bQ] at q)) (by rw[e])))
 have y:=iA y;refine aZ a.length 5 [] () (fun _=>[]) (fun _=>[]) (fun k _=>∀j<k,a[j]?=b[j]?) (fun j hj=>p7 hj (by omega)) (aj rfl) trivial trivial (fun _=>rfl) (fun _=>rfl) ?_;rintro w ⟨⟩ ar p _ _ _;refine aK (fun f=>?_) (fun x=>?_)
 ·have f:w<a.length:=by rw[bQ] at f;omega
  have ax:=bA hw.1;obtain⟨r,c⟩:=aS f;obtain⟨yA,d⟩:=aS (l:=b) (k:=w) (by omega);have ad:Wf (.sl (r.code.map qw)):=(nX hw.1 (aaS c)).1;refine bw c rfl rfl ?_;refine bw d rfl rfl ?_;refine af (fun z=>?_) (fun z=>?_)
  ·exact aO rfl (j3 C.bool (aD fun e=>cq c d (fun m=>(jw (by have q:=lJ z;rwa [bQ,bQ] at q)) (by rw[m])) (by rw[e])))
  have z:=iA z;refine bw c rfl rfl ?_;refine bw d rfl rfl ?_;refine af (fun h2=>?_) (fun h2=>?_)
  ·exact aO rfl (j3 C.bool (aD fun e=>cq c d (fun m=>(lJ h2) (by rw[m])) (by rw[e])))
  refine bw c rfl rfl ?_;refine bw d rfl rfl ?_;refine af (fun h3=>?_) (fun h3=>?_)
  ·exact aO rfl (j3 C.bool (aD fun e=>cq c d (fun m=>(lJ h3) (by rw[m])) (by rw[e])))
  refine bw c rfl rfl ?_;refine bw d rfl rfl ?_;refine eK (S1 r.fin.targets yA.fin.targets) rfl fun _=>?_;refine af (fun h4=>?_) (fun h4=>?_)
  ·exact aO rfl (j3 C.bool (aD fun e=>cq c d (fun m=>(wR h4) (by rw[m])) (by rw[e])))
  refine aZ r.code.length 6 [] () (fun _=>[]) (fun _=>[]) (fun k _=>∀j<k,r.code[j]?=yA.code[j]?) (fun j hj=>p7 hj (by omega)) (aj rfl) trivial trivial (fun _=>rfl) (fun _=>rfl) ?_;rintro u ⟨⟩ aw o _ _ _;refine bw c rfl rfl ?_;refine aK (fun h=>?_) (fun v=>?_)
  ·have h:u<r.code.length:=by rw[bQ] at h;omega
   have ao:=bA ad;obtain⟨xB,t⟩:=aS h;obtain⟨yB,s⟩:=aS (l:=yA.code) (k:=u) (by omega);refine bw c rfl rfl ?_;refine bw t rfl rfl ?_;refine bw d rfl rfl ?_;refine bw s rfl rfl ?_;refine eK (Y5 xB yB) rfl fun _=>?_;refine af (fun h5=>?_) (fun h5=>?_)
   ·exact aO rfl (j3 C.bool (aD fun e=>cq c d (fun m=>cq t s (wR h5) (by rw[m])) (by rw[e])))
   refine Fit.aad (by omega) (by omega) ?_;exact⟨(u+1,()),⟨h,bX o t s (wS h5)⟩,⟨bn,trivial⟩,trivial,bq h⟩
  ·have v:¬u<r.code.length:=by rw[bQ] at v;omega
   have eB:r.code=yA.code:=bW (n:=u) (by omega) (by omega) o;refine Fit.aad (by omega) (by omega) ?_;exact⟨(w+1,()),⟨f,bX p c d (Em eB (rR h2) (rR h3) (wS h4))⟩,⟨bn,trivial⟩,trivial,bq f⟩
 ·have x:¬w<a.length:=by rw[bQ] at x;omega
  have eA:a=b:=bW (n:=w) (by omega) (by omega) p;exact aO rfl (j3 C.bool (dF eA))
theorem t119 (a b:List Slot):dI 119 [.sl (a.map iM),.sl (b.map iM)] (a=b):=by
 refine aq Tryz.func119 KD rfl fun hw _=>?_;refine af (fun y=>?_) (fun y=>?_)
 ·exact aO rfl (j3 C.bool (aD fun e=>(jw (by have q:=lJ y;rwa [bQ,bQ] at q)) (by rw[e])))
 have y:=iA y;refine aZ a.length 5 [] () (fun _=>[]) (fun _=>[]) (fun k _=>∀j<k,a[j]?=b[j]?) (fun j hj=>p7 hj (by omega)) (aj rfl) trivial trivial (fun _=>rfl) (fun _=>rfl) ?_;rintro w ⟨⟩ av p _ _ _;refine aK (fun h=>?_) (fun x=>?_)
 ·have h:w<a.length:=by rw[bQ] at h;omega
  have ay:=bA hw.1;obtain⟨r,c⟩:=aS h;obtain⟨yA,d⟩:=aS (l:=b) (k:=w) (by omega);have ae:Wf (.sl (r.lent.map zx)):=(nX hw.1 (aaS c)).2.2.2.2.2.2.1;refine bw c rfl rfl ?_;refine bw d rfl rfl ?_;refine af (fun h1=>?_) (fun h1=>?_)
  ·exact aO rfl (j3 C.bool (aD fun e=>cq c d (fun f=>(lJ h1) (by rw[f])) (by rw[e])))
  refine bw c rfl rfl ?_;refine bw d rfl rfl ?_;refine eK (SZ r.type yA.type) rfl fun _=>?_;refine af (fun h2=>?_) (fun h2=>?_)
  ·exact aO rfl (j3 C.bool (aD fun e=>cq c d (fun f=>(wR h2) (by rw[f])) (by rw[e])))
  refine bw c rfl rfl ?_;refine bw d rfl rfl ?_;refine af (fun h3=>?_) (fun h3=>?_)
  ·exact aO rfl (j3 C.bool (aD fun e=>cq c d (fun f=>(lJ h3) (by rw[f])) (by rw[e])))
  refine bw c rfl rfl ?_;refine bw d rfl rfl ?_;refine af (fun h4=>?_) (fun h4=>?_)
  ·exact aO rfl (j3 C.bool (aD fun e=>cq c d (fun f=>(lJ h4) (by rw[f])) (by rw[e])))
  refine bw c rfl rfl ?_;refine bw d rfl rfl ?_;refine af (fun h5=>?_) (fun h5=>?_)
  ·exact aO rfl (j3 C.bool (aD fun e=>cq c d (fun f=>(jw (by have q:=lJ h5;rwa [bQ,bQ] at q)) (by rw[f])) (by rw[e])))
  have h5:=iA h5;refine aZ r.lent.length 6 [] () (fun _=>[]) (fun _=>[]) (fun k _=>∀j<k,r.lent[j]?=yA.lent[j]?) (fun j hj=>p7 hj (by omega)) (aj rfl) trivial trivial (fun _=>rfl) (fun _=>rfl) ?_;rintro u ⟨⟩ ax o _ _ _;refine bw c rfl rfl ?_;refine aK (fun m=>?_) (fun v=>?_)
  ·have m:u<r.lent.length:=by rw[bQ] at m;omega
   have ap:=bA ae;obtain⟨xB,t⟩:=aS m;obtain⟨yB,s⟩:=aS (l:=yA.lent) (k:=u) (by omega);refine bw c rfl rfl ?_;refine bw t rfl rfl ?_;refine bw d rfl rfl ?_;refine bw s rfl rfl ?_;refine af (fun z=>?_) (fun z=>?_)
   ·exact aO rfl (j3 C.bool (aD fun e=>cq c d (fun f=>cq t s ((fun e=>by subst e;simp[lS] at z)) (by rw[f])) (by rw[e])))
   refine Fit.aad (by omega) (by omega) ?_;exact⟨(u+1,()),⟨m,bX o t s (by rcases xB with⟨⟩;rcases yB with⟨⟩;simp[lS] at z;simp[z])⟩,⟨bn,trivial⟩,trivial,bq m⟩
  ·have v:¬u<r.lent.length:=by rw[bQ] at v;omega
   have eB:r.lent=yA.lent:=bW (n:=u) (by omega) (by omega) o;refine Fit.aad (by omega) (by omega) ?_;exact⟨(w+1,()),⟨h,bX p c d (G0 (rR h1) (wS h2) (rR h3) (rR h4) eB)⟩,⟨bn,trivial⟩,trivial,bq h⟩
 ·have x:¬w<a.length:=by rw[bQ] at x;omega
  have eA:a=b:=bW (n:=w) (by omega) (by omega) p;exact aO rfl (j3 C.bool (dF eA))
theorem t92 (x y:zw):dI 92 [.agg (iT x),.agg (iT y)] (x=y):=by
 refine aq Tryz.func92 OQ rfl fun hw _=>?_;have t:Wf (.sl (x.entry.map nV)):=hw.1.2.2.2.2.2.2.2.2.1;refine af (fun o=>?_) (fun o=>?_)
 ·exact aO rfl (j3 C.bool (aD fun e=>(lJ o) (by rw[e])))
 refine bM (S0 x.params y.params) rfl fun _=>?_;refine af (fun s=>?_) (fun s=>?_)
 ·exact aO rfl (j3 C.bool (aD fun e=>(wR s) (by rw[e])))
 refine bM (SZ x.result y.result) rfl fun _=>?_;refine af (fun p=>?_) (fun p=>?_)
 ·exact aO rfl (j3 C.bool (aD fun e=>(wR p) (by rw[e])))
 refine bM (S1 x.ties y.ties) rfl fun _=>?_;refine af (fun u=>?_) (fun u=>?_)
 ·exact aO rfl (j3 C.bool (aD fun e=>(wR u) (by rw[e])))
 refine af (fun w=>?_) (fun w=>?_)
 ·exact aO rfl (j3 C.bool (aD fun e=>(lJ w) (by rw[e])))
 refine bM (Y6 x.blocks y.blocks) rfl fun _=>?_;refine af (fun v=>?_) (fun v=>?_)
 ·exact aO rfl (j3 C.bool (aD fun e=>(wR v) (by rw[e])))
 refine af (fun m=>?_) (fun m=>?_)
 ·exact aO rfl (j3 C.bool (aD fun e=>(jw (by have q:=lJ m;rwa [bQ,bQ] at q)) (by rw[e])))
 have m:=iA m;refine aZ x.entry.length 5 [] () (fun _=>[]) (fun _=>[]) (fun k _=>∀j<k,x.entry[j]?=y.entry[j]?) (fun j hj=>p7 hj (by omega)) (aj rfl) trivial trivial (fun _=>rfl) (fun _=>rfl) ?_;rintro f ⟨⟩ ad b _ _ _;refine aK (fun a=>?_) (fun h=>?_)
 ·have a:f<x.entry.length:=by rw[bQ] at a;omega
  have ae:=bA t;obtain⟨xA,d⟩:=aS a;obtain⟨yA,c⟩:=aS (l:=y.entry) (k:=f) (by omega);refine bw d rfl rfl ?_;refine bw c rfl rfl ?_;refine eK (t119 xA yA) rfl fun _=>?_;refine af (fun r=>?_) (fun r=>?_)
  ·exact aO rfl (j3 C.bool (aD fun e=>cq d c (wR r) (by rw[e])))
  refine Fit.aad (by omega) (by omega) ?_;exact⟨(f+1,()),⟨a,bX b d c (wS r)⟩,⟨bn,trivial⟩,trivial,bq a⟩
 ·have h:¬f<x.entry.length:=by rw[bQ] at h;omega
  have z:x.entry=y.entry:=bW (n:=f) (by omega) (by omega) b;exact aO rfl (j3 C.bool (dF (G3 (sF (rR o)) (wS s) (wS p) (wS u) (rR w) (wS v) z)))
theorem t57 (x y:wG):dI 57 [.agg (Aj x),.agg (Aj y)] (x=y):=by
 refine aq Tryz.func57 Ow rfl fun hw _=>?_;have aa:Wf (.sl (x.datas.map iL)):=hw.1.1;have ad:Wf (.sl (x.routs.map iT)):=hw.1.2.1;refine af (fun w=>?_) (fun w=>?_)
 ·exact aO rfl (j3 C.bool (aD fun e=>(lJ w) (by rw[e])))
 refine af (fun v=>?_) (fun v=>?_)
 ·exact aO rfl (j3 C.bool (aD fun e=>(jw (by have q:=lJ v;rwa [bQ,bQ] at q)) (by rw[e])))
 have v:=iA v;refine af (fun u=>?_) (fun u=>?_)
 ·exact aO rfl (j3 C.bool (aD fun e=>(jw (by have q:=lJ u;rwa [bQ,bQ] at q)) (by rw[e])))
 have u:=iA u;refine aZ x.datas.length 5 [] () (fun _=>[]) (fun _=>[]) (fun k _=>∀j<k,x.datas[j]?=y.datas[j]?) (fun j z=>p7 z (by omega)) (aj rfl) trivial trivial (fun _=>rfl) (fun _=>rfl) ?_;rintro s ⟨⟩ ao d _ _ _;refine aK (fun a=>?_) (fun t=>?_)
 ·have a:s<x.datas.length:=by rw[bQ] at a;omega
  have av:=bA aa;obtain⟨xA,h⟩:=aS a;obtain⟨yA,f⟩:=aS (l:=y.datas) (k:=s) (by omega);refine bw h rfl rfl ?_;refine bw f rfl rfl ?_;refine eK (t91 xA yA) rfl fun _=>?_;refine af (fun h3=>?_) (fun h3=>?_)
  ·exact aO rfl (j3 C.bool (aD fun e=>cq h f (wR h3) (by rw[e])))
  refine Fit.aad (by omega) (by omega) ?_;exact⟨(s+1,()),⟨a,bX d h f (wS h3)⟩,⟨bn,trivial⟩,trivial,bq a⟩
 ·have t:¬s<x.datas.length:=by rw[bQ] at t;omega
  have eA:x.datas=y.datas:=bW (n:=s) (by omega) (by omega) d;refine aZ x.routs.length 6 [] () (fun _=>[]) (fun _=>[]) (fun k _=>∀j<k,x.routs[j]?=y.routs[j]?) (fun j z=>p7 z (by omega)) (aj rfl) trivial trivial (fun _=>rfl) (fun _=>rfl) ?_;rintro p ⟨⟩ ar c _ _ _;refine aK (fun b=>?_) (fun r=>?_)
  ·have b:p<x.routs.length:=by rw[bQ] at b;omega
   have al:=bA ad;obtain⟨xB,o⟩:=aS b;obtain⟨yB,m⟩:=aS (l:=y.routs) (k:=p) (by omega);refine bw o rfl rfl ?_;refine bw m rfl rfl ?_;refine eK (t92 xB yB) rfl fun _=>?_;refine af (fun h4=>?_) (fun h4=>?_)
   ·exact aO rfl (j3 C.bool (aD fun e=>cq o m (wR h4) (by rw[e])))
   refine Fit.aad (by omega) (by omega) ?_;exact⟨(p+1,()),⟨b,bX c o m (wS h4)⟩,⟨bn,trivial⟩,trivial,bq b⟩
  ·have r:¬p<x.routs.length:=by rw[bQ] at r;omega
   have eB:x.routs=y.routs:=bW (n:=p) (by omega) (by omega) c;exact aO rfl (j3 C.bool (dF (LL (rR w) eA eB)))
end Go.Fr.Tryz
