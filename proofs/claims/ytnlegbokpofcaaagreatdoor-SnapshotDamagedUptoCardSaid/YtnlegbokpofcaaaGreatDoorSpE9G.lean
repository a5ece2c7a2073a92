/- Part of the proofs of the statements of this seat. -/
import Derived.Test.YtnlegbokpofcaaaGreatDoorSpP4G
set_option maxRecDepth 10000
set_option linter.unusedVariables false
set_option linter.unusedSimpArgs false
namespace Go.Fr.Tryz
open Go Go.RowKit Go.Proofs Go.Fr Go.Fr.T Go.Fr.Api Go.Fr.Dm
def Qu:List aA:=[.op (some 56) (.mov (.t 8)) none,
     .op (some 57) (.mov (.t 9)) none,
     .op (some 58) (.bin .mul (.c (.int .i64 32)) (.t 57)) none,
     .op (some 59) (.slc 1 (.t 56) (some (.t 58)) none) none,
     .op (some 60) (.mov (.t 0)) none,
     .op (some 61) (.mov (.t 8)) none,
     .op (some 62) (.mov (.t 9)) none,
     .op (some 63) (.callD 62 [(.t 61),(.t 62)]) none,
     .op (some 64) (.len (.t 63)) none,
     .pc (some 65) (.call 87 [(.t 60),(.t 64)]) none,
     .op (some 66) (.copyX 5 1 (.t 59) (.t 65)) none]
def D9 (k:Nat) (a:Nat) (τ:aV):aV :=
 bD (some 64) (IC (a:Int)) (bD (some 63) .any (bD (some 62) .any (bD (some 61) .any (bD (some 60) (.own 1000 0) (bD (some 59) .any (bD (some 58) .any (bD (some 57) .any (bD (some 56) (.rw k) τ))))))))
theorem Fv {ρ:Env}{j:Nat}{v:SV}(h:ρ j=v):ρ=put (some j) v ρ:=by
 funext i
 simp only[put];cases e:Nat.beq i j with
 | true=>rw[vv e,h]
 | false=>rfl
theorem SD {PS:qw}{M:TL}{τ:aV}{N:TK}(k i:Nat) (out a:List UInt8) (az:PS.st=none) (hs:M.sub [1000]=some [RB a]) (hk:M.get k=some (.row 5 1 (af out))) (h8:τ 8=.rw k) (h9:τ 9=IC (i:Int)) (h0:τ 0=.own 1000 0)
  (aw:rowsOf M [1000]=[]) (hh:lW M [1000] PS.hb=true) (ch:k≠1000) (hi:32*i<out.length) (bx:out.length<=1073741824)
  (hp:takeD (((cH out i).length:Nat):Int) a=none->PS.ps fG)
  (ap:∀r,(((M.aaf [1000]).kills []).puts [1000] [RB r]).get k=some (.row 5 1 (af out)))
  (hN:∀b r,takeD (((cH out i).length:Nat):Int) a=some (b,r) ->
   N ((((M.aaf [1000]).kills []).puts [1000] [RB r]).set k (.row 5 1 (af (rB out (32*i) b)))) (bD (some 66) .any (bD (some 65) .any (fw [] (D9 k (cH out i).length τ))))) :
  Rq PZ PS Qu M τ N:=by
 refine⟨az,fun G PX ab F L ρ hr j=>?_⟩;obtain⟨u,c,hL,ha,hm⟩:=row_of j hk;obtain⟨a1,c1,t1,bz,n1,bu,e8,e2⟩:=tu (x:=.t 8) j.env h8;rw[hL] at e2;injection e2 with e2
 injection e2 with e2 _ _ _ _
 injection e2 with e3 e4 e5
 subst e3 e4 e5;obtain⟨e9,w9⟩:=eO (x:=.t 9) j.env h9;obtain⟨e0,_⟩:=eX (x:=.t 0) j.env h0;have e8:ρ 8=.v (.slice u out.length c):=e8;have e9:ρ 9=.v (.int .i64 i):=e9;have e0:ρ 0=.own 1000 0:=e0;have p:out.length<=c/\c<=9223372036854775807:=by
  obtain⟨w,hw⟩:=hr;obtain⟨c',hv⟩:=Ci hw hL;obtain⟨a',e,q1,n,_⟩:=hv.form;injection e with _ _ e
  subst e;exact⟨q1,by unfold maxLen at n;exact n⟩
 have aE:(cH out i).length=min (32*i+32) out.length-min (32*i) out.length:=by
  unfold cH;rw[aa6,abA];omega
 rw[aE] at hp hN;have f:ρ=put (some 8) (.v (.slice u out.length c)) (put (some 9) (.v (.int .i64 i)) (put (some 0) (.own 1000 0) ρ)) :=
  (Fv e8).trans (j3 (put (some 8) _) ((Fv e9).trans (j3 (put (some 9) _) (Fv e0))))
 generalize o:ρ=ρ1 at f;rw[o] at j
 clear e8 e9 e0
 subst o;rw[f] at j ⊢
 clear f
 refine⟨_,rfl,?_⟩;refine⟨_,rfl,?_⟩;refine⟨_,rfl,?_⟩;refine Fit.aae (by omega) (by omega) ?_;refine⟨_,rfl,?_⟩;refine nP.mk (by omega) (by omega) (by omega) ?_;refine⟨_,rfl,?_⟩;refine⟨_,rfl,?_⟩;refine⟨_,rfl,?_⟩;refine⟨_,rfl,?_⟩;refine .frz _ (Yn F u out.length c i p.1 p.2 (by omega)) fun v F1 Lo z hR=>?_;obtain⟨rfl,rfl⟩:=hR;refine⟨rfl,fun bo=>?_⟩;refine⟨_,rfl,?_⟩;have hI:∀{L:Loc}(m:Nat),m<=9223372036854775807->aQ F1 L (IC (m:Int)) (.v (.int .i64 m)):=fun m hm=>⟨_,rfl,by
  rw[Rel];refine⟨rfl,?_⟩;rw[BB];simp only[IntKind.min,IntKind.max,IntKind.signed,IntKind.bits,aa9];omega⟩
 have XW:=(j.mono z).put (j.mono z |>.env 8) (some 56);have any:∀sv,aQ F1 L .any sv:=fun sv=>trivial;have Yl:=(((XW.put (any (.v (.int .i64 i))) (some 57)).put (any (.v (.int .i64 (32*(i:Int))))) (some 58)).put (any (.v (gh u c (32*(i:Int)).toNat (out.length:Int).toNat 1))) (some 59));have SA:=Yl.put (j.mono z |>.env 0) (some 60);have al:=((SA.put (any (.v (.slice u out.length c))) (some 61)).put (any (.v (.int .i64 i))) (some 62)).put (any (.v (gh u c (min (32*i) out.length) (min (32*i+32) out.length) 1))) (some 63);have d:=al.put (hI (min (32*i+32) out.length-min (32*i) out.length) (by omega)) (some 64);rw[h8,h0] at d;have d:TS G F1 L _ M (D9 k (min (32*i+32) out.length-min (32*i) out.length) τ):=d;have hx:nT PZ PS (Bs Qu) 87 [.own 1000 0,IC (((min (32*i+32) out.length-min (32*i) out.length):Nat):Int)] M (D9 k (min (32*i+32) out.length-min (32*i) out.length) τ) (fun M' av v=>∃b r,takeD (((min (32*i+32) out.length-min (32*i) out.length):Nat):Int) a=some (b,r)/\M'=(((M.aaf [1000]).kills []).puts [1000] [RB r])/\av=fw [] (D9 k (min (32*i+32) out.length-min (32*i) out.length) τ)/\v=.sl (af b)):=by
  refine cu [1000] (YR (((min (32*i+32) out.length-min (32*i) out.length):Nat):Int) a) hs rfl rfl rfl (fun v h=>h.1▸hp h.2) ?_ hh;rintro v Mo ⟨b,r,h1,rfl,rfl⟩ _ _;rw[aw];exact⟨rfl,b,r,h1,rfl,rfl,rfl⟩
 have hc:=ab F1 L _ M (D9 k (min (32*i+32) out.length-min (32*i) out.length) τ) 87 [.own 1000 0,IC (((min (32*i+32) out.length-min (32*i) out.length):Nat):Int)] _ _ d (cW d.env [.t 60,.t 64]) hx;refine CallXDPt.imp hc fun F2 L2 v db df cw _ bt hK=>?_;obtain⟨M2,ci,c2,y,s,b,r,hb,rfl,rfl,rfl⟩:=hK;obtain⟨v',q,s⟩:=s;injection q with q
 subst q;obtain⟨a2,c2,rfl,_,bs,hf⟩:=yQ s;obtain⟨ax,cx,aa,_,_⟩:=row_of y (ap r);obtain⟨ay,cy,ty,cM,ny,xy,q1,n⟩:=tu (x:=.t 56) y.env (k:=k) rfl;have q1:(SV.v (.slice u out.length c))=.v (.slice ay ny cy):=q1;injection q1 with q1
 injection q1 with q3 q4 q5
 subst q3 q4 q5;rw[aa] at n;injection n with n
 injection n with n _ _ _ _
 injection n with q3 _ q5
 subst q3 q5;obtain⟨l,rfl⟩:∃x,ax=some x:=by
  cases ax with
  | none=>have:=ha rfl;omega
  | some x=>exact⟨x,rfl⟩
 have cr:b.length=min (32*i+32) out.length-min (32*i) out.length:=by
  unfold takeD at hb;split at hb
  case isFalse=>cases hb
  rename_i h;injection hb with hb
  injection hb with hb _
  rw[<-hb,aa6];omega
 have ar:gh (some l) cx (32*(i:Int)).toNat (out.length:Int).toNat 1=.slice (some (l.add (32*i*1))) (out.length-32*i) (cx-32*i):=by
  rw[show(32*(i:Int)).toNat=32*i by omega,show(out.length:Int).toNat=out.length by omega];unfold gh;rw[o6 (by omega)];rfl
 refine⟨_,rfl,?_⟩;refine⟨.inl ⟨k,out.length-32*i,.slice (some l) out.length cx,out.length,dM out,l,cx,cx-32*i,32*i,b.length,a2,c2,dM b,aa,rfl,ar,by omega,rfl,by rw[pu];omega,?_,nG _,fun _=>?_⟩⟩
 ·rcases hf with h | ⟨h1,h2⟩
  ·exact .inl h
  ·exact .inr ⟨by omega,h2⟩
 ·rw[Nat.mul_one,AX];refine⟨_,_,?_,hN b r hb⟩;have h3:=D8 y aa (out':=rB out (32*i) b) (pB (by omega)) hm ha;exact(h3.put (c:=.any) trivial (some 65)).put (c:=.any) trivial (some 66)
theorem Ea:∀(f k z:Nat) (l:List UInt8) (n:Int) (r:List UInt8),lO f k z l=some (n,r)->z<128 ^ k->f+k=6->(-4398046511104<=n/\n<=4398046511104)/\r.length<l.length
 | 0,_,_,_,_,_,h,_,_=>by simp[lO] at h
 | _+1,_,_,[],_,_,h,_,_=>by simp[lO] at h
 | f+1,k,z,c::b,n,r,h,m,p=>by
  have o:=c.toNat_lt;rw[lO] at h;split at h
  ·rename_i a;split at h
   ·injection h with h
    injection h with h1 h2
    subst h2;have j:z+c.toNat*128 ^ k<128 ^ (k+1):=by
     have:c.toNat*128 ^ k<=127*128 ^ k:=Nat.mul_le_mul_right _ (by omega);rw[Nat.pow_succ];omega
    have e:128 ^ (k+1)<=128 ^ 6:=Nat.pow_le_pow_right (by omega) (by omega);have q:(128:Nat) ^ 6=4398046511104:=by decide
    refine⟨?_,by simp⟩;rw[<-h1];unfold IW;split<;>omega
   ·cases h
  ·obtain⟨d,s⟩:=Ea f (k+1) _ b n r h (by
    have:(c.toNat-128)*128 ^ k<=127*128 ^ k:=Nat.mul_le_mul_right _ (by omega);rw[Nat.pow_succ];omega) (by omega)
   exact⟨d,by simp;omega⟩
theorem mN {l r:List UInt8}{n:Int}(h:getD l=some (n,r)):(-4398046511104<=n/\n<=4398046511104)/\r.length<l.length:=Ea 6 0 0 l n r h (by decide) rfl
def uS (size:Nat):Nat->Int->List UInt8->Dec (List UInt8)
 | 0,_,out=>wB out
 | n+1,p,out=>fP getD fun d=>if 0<=p+d/\p+d<eZ size then fP (takeD (((cH out (p+d).toNat).length:Nat):Int)) fun b=>uS size n (p+d) (rB out (32*(p+d).toNat) b) else fun _=>none
def Cr (a:List UInt8) (size:Nat):List UInt8:=rB (List.replicate size 0) 0 (a.take size)
def Eb (a:List UInt8) (s c:Int):Dec (List UInt8):=fun r=>if(0<=s/\s<=(a.length:Int)+r.length)/\0<=c then uS s.toNat c.toNat (-1) (Cr a s.toNat) r else none
def oG (a:List UInt8):Dec (List UInt8):=fP getD fun s=>fP getD fun _=>fP getD fun c=>Eb a s c
theorem uT (a:List UInt8) (n:Nat):(Cr a n).length=n:=by
 unfold Cr;rw[pB (by simp;omega)];simp
theorem Fw (n:Nat):List.replicate n [C.int .u8 0]=af (List.replicate n 0):=by simp[af,gR]
theorem Cs {i n:Nat}(h:i<eZ n):32*i<n:=by unfold eZ at h;omega
theorem Yo (s:Int) (a:0<=s) (b:s<=4611686018427387904):CallsT PZ 61 [IC s] [] (iQ [] (IC ((eZ s.toNat:Nat):Int))):=by
 obtain⟨n,rfl⟩:=Int.eq_ofNat_of_zero_le a;exact YU n (by omega)
set_option maxRecDepth 20000 in
theorem t46 (a bs:List UInt8) (ha:a.length<=268435456) (hb:bs.length<=268435456):CallsTX PZ 46 [.own 1000 0,.sl (af a)] [RB bs]
  (fun Mo c=>∃out r,oG a bs=some (out,r)/\Mo=[RB r]/\c=.sl (af out)) (fun v=>v=fG/\oG a bs=none):=by
 have bd:(af a).length=a.length:=aO;refine ak Tryz.func46 N9 rfl fun hw bi=>?_;refine rn 1000 (Qh bs) rfl rfl rfl (fun h=>⟨rfl,aW h⟩) fun s r1 e1 _=>?_;refine rn 1000 (Qh r1) rfl rfl rfl (fun h=>⟨rfl,(aq e1).trans (aW h)⟩) fun s2 r2 e2 _=>?_;refine rn 1000 (Qh r2) rfl rfl rfl (fun h=>⟨rfl,(aq e1).trans ((aq e2).trans (aW h))⟩) fun n w e3 _=>?_;have m:oG a bs=Eb a s n w:=(aq e1).trans ((aq e2).trans (aq e3));obtain⟨⟨b1,b2⟩,b3⟩:=mN e1;obtain⟨_,b4⟩:=mN e2;obtain⟨⟨b5,b6⟩,b7⟩:=mN e3;have bc:(af w).length=w.length:=aO;refine aM (fun y=>?_) (fun y=>?_)
 ·refine Fit.aae (by omega) (by omega) ?_;refine aM (fun h1=>?_) (fun h1=>?_)
  ·refine vM (uY (decide (0<=n))) rfl (fun h=>⟨rfl,?_⟩) fun h2=>?_
   ·rw[m,Eb,o6 (fun z=>by have:=abt h;omega)]
   have h2:=aa4 h2;have y:0<=s:=y;have h1:s<=(a.length:Int)+w.length:=by omega
   have ao:oG a bs=uS s.toNat n.toNat (-1) (Cr a s.toNat) w:=by rw[m,Eb,eu ⟨⟨y,h1⟩,h2⟩]
   have bj:s.toNat<=536870912:=by omega
   have ar:(List.replicate s.toNat (0:UInt8)).length=s.toNat:=abw;have ac:=Yo s y (by omega);refine u4.mk y (abe _) (by omega) (by unfold maxLen;omega) ?_;refine Pg (k:=36) (out:=List.replicate s.toNat 0) (a:=a) (j3 (fun q=>some (TO.row 5 1 q)) (Fw s.toNat)) rfl rfl ?_;refine bw n.toNat 41 [9,8] ((w,(-1:Int),Cr a s.toNat):List UInt8×Int×List UInt8) (fun x=>[IC x.2.1,.rw 36]) (fun x=>[(1000,RB x.1),(36,.row 5 1 (af x.2.2))])
    (fun k x=>uS s.toNat (n.toNat-k) x.2.1 x.2.2 x.1=oG a bs/\(-1<=x.2.1/\x.2.1<=4294967296)/\x.2.2.length=s.toNat) ⟨ao.symm,⟨(by decide:(-1:Int)<=-1),(by decide:(-1:Int)<=4294967296)⟩,uT a s.toNat⟩ (ah rfl) ⟨ah rfl,ah rfl,trivial⟩
    ⟨.inl ⟨_,rfl,.inl ⟨rfl,rfl⟩⟩,.inl ⟨_,rfl,.inl ⟨j3 (fun q=>TO.row 5 1 (af q)) (by rw[Cr,ar]),rfl⟩⟩,trivial⟩ (fun _=>rfl) (fun _=>rfl) ?_
   rintro k ⟨j,p,out⟩ hk ⟨e,⟨p1,p2⟩,o⟩ _ _ ay;have e:uS s.toNat (n.toNat-k) p out j=oG a bs:=e;have p1:-1<=p:=p1;have p2:p<=4294967296:=p2;have o:out.length=s.toNat:=o;refine aM (fun t=>?_) (fun ap=>?_)
   ·have t:k<n.toNat:=by omega
    have aa:oG a bs=fP getD (fun d=>if 0<=p+d/\p+d<eZ s.toNat then fP (takeD (((cH out (p+d).toNat).length:Nat):Int)) fun b=>uS s.toNat (n.toNat-(k+1)) (p+d) (rB out (32*(p+d).toNat) b) else fun _=>none) j:=by
     rw[<-e,show n.toNat-k=(n.toNat-(k+1))+1 by omega];rfl
    refine rn 1000 (Qh j) rfl rfl rfl (fun h=>⟨rfl,aa.trans (aW h)⟩) fun d r4 e4 _=>?_;have f:=aa.trans (aq e4);obtain⟨⟨d1,d2⟩,_⟩:=mN e4;refine Fit.aae (by omega) (by omega) ?_;refine aM (fun u=>?_) (fun u=>?_)
    ·have u:0<=p+d:=u;refine bY ac rfl fun _=>?_;refine vM (uY (decide (p+d<((eZ s.toNat:Nat):Int)))) rfl (fun h=>⟨rfl,?_⟩) fun g1=>?_
     ·rw[f,o6 (fun z=>by have:=abt h;omega)]
     have g1:=aa4 g1;rw[eu ⟨u,g1⟩] at f;have hi:32*(p+d).toNat<out.length:=by rw[o];exact Cs (by omega)
     refine SD 36 (p+d).toNat out r4 rfl rfl rfl rfl (j3 IC (show p+d=(((p+d).toNat:Nat):Int) by omega)) rfl rfl rfl (by decide) hi (by omega) (fun h=>⟨rfl,f.trans (aW h)⟩) (fun _=>rfl) fun b r5 l=>?_;have ab:=f.trans (aq l);have bb:eZ s.toNat<=4294967296:=by unfold eZ;omega
     have an:b.length=(cH out (p+d).toNat).length:=by
      unfold takeD at l;split at l
      case isFalse=>cases l
      rename_i h;injection l with l
      injection l with l _
      rw[<-l,aa6];omega
     have ae:32*(p+d).toNat+b.length<=out.length:=by
      rw[an];unfold cH;rw[aa6,abA];omega
     refine Fit.aae (by omega) (by omega) ?_;exact⟨(k+1,(r5,p+d,rB out (32*(p+d).toNat) b)),⟨t,ab.symm,⟨by show -1<=p+d;omega,by show p+d<=4294967296;omega⟩,(pB ae).trans o⟩,⟨bE,ah rfl,ah rfl,trivial⟩,
      ⟨.inl ⟨_,rfl,.inl ⟨rfl,rfl⟩⟩,.inl ⟨_,rfl,.inl ⟨rfl,rfl⟩⟩,trivial⟩,bF t⟩
    ·have u:¬0<=p+d:=u;refine vM (uY false) rfl (fun _=>⟨rfl,?_⟩) fun h=>by cases h
     rw[f,o6 (fun z=>u z.1)]
   ·have ap:¬k<n.toNat:=by omega
    have e:wB out j=oG a bs:=by rw[<-e,show n.toNat-k=0 by omega];rfl
    exact rq [36] [1000] ⟨_,_,rfl,rfl,rfl,out,j,e.symm,rfl,rfl⟩
  ·refine vM (uY false) rfl (fun _=>⟨rfl,?_⟩) fun h=>by cases h
   rw[m,Eb,o6 (fun z=>by omega)]
 ·refine vM (uY false) rfl (fun _=>⟨rfl,?_⟩) fun h=>by cases h
  rw[m,Eb,o6 (fun z=>by omega)]
theorem IE {n:Int}{l b r:List UInt8}(h:takeD n l=some (b,r)):(b.length:Int)=n/\l=b++r:=by
 unfold takeD at h;split at h
 case isFalse=>cases h
 rename_i k;injection h with h
 injection h with h1 h2
 subst h1 h2;refine⟨?_,(List.take_append_drop _ _).symm⟩;rw[aa6];omega
theorem nI {c b:Type}{f:Dec c}{k:c->Dec b}{l r:List UInt8}{y:b}(h:fP f k l=some (y,r)):∃x a,f l=some (x,a)/\k x a=some (y,r):=by
 unfold fP at h;split at h
 ·cases h
 ·rename_i x a e;exact⟨x,a,e,h⟩
theorem AY (size:Nat):∀(n:Nat) (p:Int) (out:List UInt8) (bs:List UInt8) (o r:List UInt8),out.length=size->uS size n p out bs=some (o,r)->o.length=size
 | 0,p,out,bs,o,r,a,h=>by
  have h:some (out,bs)=some (o,r):=h;injection h with h;injection h with h _;rw[<-h,a]
 | n+1,p,out,bs,o,r,a,h=>by
  rw[uS] at h;obtain⟨d,e,_,h⟩:=nI h;split at h
  case isFalse=>cases h
  rename_i j;obtain⟨b,f,hb,h⟩:=nI h;have c:=(IE hb).1;have hi:32*(p+d).toNat<out.length:=by rw[a];exact Cs (by omega)
  refine AY size n _ _ _ o r ?_ h;rw[pB,a];have:(cH out (p+d).toNat).length<=out.length-32*(p+d).toNat:=by
   unfold cH;rw[aa6,abA];omega
  omega
theorem Lx {a bs o r:List UInt8}(h:oG a bs=some (o,r)):o.length<=a.length+bs.length:=by
 obtain⟨s,j,d,h⟩:=nI h;obtain⟨f,p,b,h⟩:=nI h;obtain⟨c,m,e,h⟩:=nI h;have n:=(mN d).2;have k:=(mN b).2;have q:=(mN e).2;unfold Eb at h;split at h
 case isFalse=>cases h
 rename_i l;have:=AY _ _ _ _ _ o r (uT a s.toNat) h;omega
def QB (bs:List UInt8) (o:C):List TO:=[.box 86 [.own 1001 0],RB bs,.box 35 [o]]
theorem t45 (a bs:List UInt8) (e:a.length<=268435456) (hb:bs.length<=268435456):CallsTX PZ 45 [.own 1000 0,.pt [.sl (af a)] 0,.own 1002 0] (QB bs .nils)
  (fun Mo c=>∃out r,oG a bs=some (out,r)/\Mo=QB r (.sl (af out))/\c=.tup []) (fun v=>v=fG/\oG a bs=none):=by
 refine ak Tryz.func45 N8 rfl fun f d=>?_;refine bW [1001] (t46 a bs e hb) rfl rfl rfl rfl (fun v h=>h) ?_;rintro v Mo ⟨out,r,b,rfl,rfl⟩ _ _;refine⟨rfl,?_⟩;exact di [1000,1001,1002] rfl rfl rfl rfl ⟨out,r,b,rfl,rfl⟩
def UK (Mo:List TO):Prop:=∃c a b,Mo=[.win 86 c [] [],.win 88 a [] [],.win 35 b [] []]
def UL (Mo:List TO):Prop:=∃b a d c,Mo=[.win 86 b [] [],.win 88 a [] [],.win 3 d [] [],.win 3 c [] []]
theorem Yp (a bs:List UInt8) (k:a.length<=268435456) (hb:bs.length<=268435456) :
  CallsT PZ 33 [.fn 45 [] [.own 1000 0,.pt [.sl (af a)] 0,.own 1002 0]] (QB bs .nils) (fun Mo c=>(∃out r,oG a bs=some (out,r)/\Mo=QB r (.sl (af out))/\c=.bool true)\/(oG a bs=none/\UK Mo/\c=.bool false)):=by
 have h:CallsT PZ 33 [.fn 45 [] [.own 1000 0,.pt [.sl (af a)] 0,.own 1002 0]] (QB bs .nils) (fun Mo c=>(∃out r,oG a bs=some (out,r)/\Mo=QB r (.sl (af out))/\c=.bool true)\/(oG a bs=none/\sI (QB bs .nils) Mo/\c=.bool false)):=by
  refine gZ (PS:=fun v=>v=fG/\oG a bs=none) (ns:=[1]) (out:=Lp) Tryz.func33 wT (qo.mono wY fun v h=>h.1) (fun v h=>rfl) rfl rfl ?_ fun q l=>?_
  ·rintro v ⟨rfl,h⟩;refine⟨.bool false,.bool false,?_,?_,fun Mo n=>.inr ⟨h,n,rfl⟩⟩
   ·intro L ρ m;obtain⟨o,g,t,f⟩:=m 0 2 _ rfl rfl;simp only[lU,o,f];rfl
   ·intro F L;rw[Rel]
  refine⟨rfl,?_⟩;refine bW [1000,1001,1002] (t45 a bs k hb) rfl rfl rfl rfl (fun v h=>h) ?_;rintro v Mo ⟨out,r,b,rfl,rfl⟩ _ _;refine⟨rfl,?_⟩;exact di [1000,1001,1002] rfl rfl rfl rfl (.inl ⟨out,r,b,rfl,rfl⟩)
 refine((h.toX (Pp:=fun _=>False)).view (vw.refl _) (fun Mo c e=>?_) fun _ h=>h).noPan;rcases e with h | ⟨b,⟨d,M1,rfl,j,M2,rfl,p,M3,rfl,rfl⟩,rfl⟩
 ·exact⟨Mo,vw.refl _,.inl h⟩
 ·exact⟨_,vw.cons (jo d) (vw.cons (jo j) (vw.cons (jo p) (vw.refl []))),.inr ⟨b,⟨_,_,_,rfl⟩,rfl⟩⟩
theorem Yq (bs:List UInt8) :
  CallsT PZ 33 [.fn 43 [] [.own 1000 0,.own 1002 0,.own 1003 0]] (PB bs 0 0) (fun Mo c=>(∃x y r,su bs=some ((x,y),r)/\Mo=PB r x y/\c=.bool true)\/(su bs=none/\UL Mo/\c=.bool false)):=by
 have h:CallsT PZ 33 [.fn 43 [] [.own 1000 0,.own 1002 0,.own 1003 0]] (PB bs 0 0) (fun Mo c=>(∃x y r,su bs=some ((x,y),r)/\Mo=PB r x y/\c=.bool true)\/(su bs=none/\sI (PB bs 0 0) Mo/\c=.bool false)):=by
  refine gZ (PS:=fun v=>v=fG/\su bs=none) (ns:=[1]) (out:=Lp) Tryz.func33 wT (qo.mono wY fun v h=>h.1) (fun v h=>rfl) rfl rfl ?_ fun p k=>?_
  ·rintro v ⟨rfl,h⟩;refine⟨.bool false,.bool false,?_,?_,fun Mo m=>.inr ⟨h,m,rfl⟩⟩
   ·intro L ρ l;obtain⟨n,g,t,f⟩:=l 0 2 _ rfl rfl;simp only[lU,n,f];rfl
   ·intro F L;rw[Rel]
  refine⟨rfl,?_⟩;refine bW [1000,1001,1002,1003] (t43 bs) rfl rfl rfl rfl (fun v h=>h) ?_;rintro v Mo ⟨x,y,r,a,rfl,rfl⟩ _ _;refine⟨rfl,?_⟩;exact di [1000,1001,1002,1003] rfl rfl rfl rfl (.inl ⟨x,y,r,a,rfl,rfl⟩)
 refine((h.toX (Pp:=fun _=>False)).view (vw.refl _) (fun Mo c e=>?_) fun _ h=>h).noPan;rcases e with h | ⟨a,⟨d,M1,rfl,j,M2,rfl,o,M3,rfl,b,M4,rfl,rfl⟩,rfl⟩
 ·exact⟨Mo,vw.refl _,.inl h⟩
 ·exact⟨_,vw.cons (jo d) (vw.cons (jo j) (vw.cons (jo o) (vw.cons (jo b) (vw.refl [])))),.inr ⟨a,⟨_,_,_,_,rfl⟩,rfl⟩⟩
def rC (a d:List UInt8):List UInt8×Int :=
 match su d with
 | none=>([],16)
 | some ((n,s),r)=>if n≠a.length\/s≠jf a then([],17)
  else match oG a r with
   | some (out,_)=>if ep a out=d then(out,0) else([],16)
   | none=>([],16)
end Go.Fr.Tryz
namespace Go.Fr.Tryz
open Go Go.Fr.T
theorem ofNat_toNat {n:Nat}(h:n<256):(UInt8.ofNat n).toNat=n:=by
 rw[UInt8.toNat_ofNat'];omega
theorem y5 {f k z m:Nat}{r:List UInt8}(a:m<128) (b:0<m\/k=0):lO (f+1) k z (bR m++r)=some (IW (z+m*128 ^ k),r):=by
 rw[bR,dif_pos a];simp only[aaT,aa5,lO];rw[ofNat_toNat (by omega),eu a,eu b]
theorem Fx {f k z m:Nat}{r:List UInt8}(a:¬m<128):lO (f+1) k z (bR m++r)=lO f (k+1) (z+m % 128*128 ^ k) (bR (m / 128)++r):=by
 rw[bR,dif_neg a];simp only[aaT,lO];rw[ofNat_toNat (by omega),o6 (by omega),Nat.add_sub_cancel_left]
theorem IG (m k:Nat):m % 128*128 ^ k+m / 128*128 ^ (k+1)=m*128 ^ k:=by
 have h:m % 128+128*(m / 128)=m:=Nat.mod_add_div m 128;have e:128 ^ (k+1)=128*128 ^ k:=by rw[Nat.pow_succ,Nat.mul_comm]
 rw[e,<-Nat.mul_assoc,Nat.mul_comm (m / 128) 128,<-Nat.add_mul,h]
theorem y7:∀(f k z m:Nat) (r:List UInt8),(0<m\/k=0)->m<128 ^ (f+1)->lO (f+1) k z (bR m++r)=some (IW (z+m*128 ^ k),r)
 | 0,k,z,m,r,a,h=>y5 (by simpa using h) a
 | f+1,k,z,m,r,a,h=>by
  by_cases b:m<128
  ·exact y5 b a
  ·rw[Fx b,y7 f (k+1) _ (m / 128) r (.inl (by omega)) (by rw[Nat.pow_succ] at h;omega),Nat.add_assoc,IG]
theorem SE (n:Int):IW (zz n)=n:=by
 unfold IW zz;split<;>split<;>omega
theorem lS (n:Int) (r:List UInt8) (a:-1099511627776<=n) (b:n<=1099511627776):getD (bR (zz n)++r)=some (n,r):=by
 have h:=y7 5 0 0 (zz n) r (.inr rfl) (Nat.lt_of_le_of_lt (Qr n 1099511627776 (by omega) (by omega)) (by decide));unfold getD;rw[h];simp only[Nat.pow_zero,Nat.mul_one,Nat.zero_add,SE]
theorem II (b r:List UInt8):takeD ((b.length:Nat):Int) (b++r)=some (b,r):=by
 unfold takeD;rw[eu ⟨by omega,by rw[yo];omega⟩];simp
theorem rD (x:List UInt8) (i t:Nat):(cH x i)[t]?=if t<32 then x[32*i+t]? else none:=by
 unfold cH;rw[abm];split
 ·rw[abj]
 ·rfl
theorem jb (x:List UInt8) (i:Nat):(cH x i).length=min 32 (x.length-32*i):=by
 unfold cH;rw[aa6,abA]
theorem IJ {x y:List UInt8}(a:x.length=y.length) (h:∀i<eZ y.length,cH x i=cH y i):x=y:=by
 apply abp;intro j
 by_cases b:j<y.length
 ·have:=j3 (fun l:List UInt8=>l[j % 32]?) (h (j / 32) (by unfold eZ;omega));simp only[rD] at this;rw[eu (by omega),eu (by omega),show 32*(j / 32)+j % 32=j by omega] at this;exact this
 ·rw[aaY (by omega),aaY (by omega)]
theorem GS {out b:List UInt8}{o:Nat}(h:o+b.length<=out.length) (j:Nat):(rB out o b)[j]?=if o<=j/\j<o+b.length then b[j-o]? else out[j]?:=by
 unfold rB;rw[aaR,List.getElem?_append];have c:(out.take o).length=o:=by rw[aa6];omega
 rw[c];split
 ·rename_i a;rw[o6 (by omega),abm,eu a]
 ·rename_i a;rw[List.getElem?_append];split
  ·rename_i d;rw[eu (by omega)]
  ·rename_i d;rw[o6 (by omega),abj];congr 1;omega
theorem Ly {out b:List UInt8}{i:Nat}(f:out.length=b.length) (hi:32*i<b.length) (j:Nat):cH (rB out (32*i) (cH b i)) j=if j=i then cH b i else cH out j:=by
 have e:=jb b i;have c:32*i+(cH b i).length<=out.length:=by omega
 apply abp;intro t;rw[rD,GS c]
 by_cases d:j=i
 ·subst d;rw[eu rfl]
  by_cases a:t<32
  ·rw[eu a]
   by_cases h:32*j+t<b.length
   ·rw[eu (by omega),show 32*j+t-32*j=t by omega]
   ·rw[o6 (by omega),aaY (by omega),aaY (by omega)]
  ·rw[o6 a,aaY (by omega)]
 ·rw[o6 d,rD out]
  by_cases a:t<32
  ·rw[eu a,eu a,o6 (by omega)]
  ·rw[o6 a,o6 a]
def Up:Int->List Nat->Prop
 | _,[]=>True
 | p,i::l=>p<i/\Up i l
theorem GU (b:List UInt8) (hb:b.length<=268435456):∀(l:List Nat) (p:Int) (out:List UInt8),-1<=p->Up p l->(∀i∈l,i<eZ b.length)->p<=1073741824->out.length=b.length ->
  (∀i<eZ b.length,i∉l->cH out i=cH b i)->uS b.length l.length p out (zm b p l)=some (b,[])
 | [],p,out,_,_,_,_,a,h=>by
  have:out=b:=IJ a fun i hi=>h i hi (by simp);rw[this];rfl
 | i::l,p,out,s,n,m,r,a,h=>by
  have d:=m i (by simp);have hi:=Cs d;have o:eZ b.length<=1073741824:=by unfold eZ;omega
  have c:(cH out i).length=(cH b i).length:=by rw[jb,jb,a]
  show fP getD _ (bR (zz (i-p))++(cH b i++zm b i l))=_;rw[aq (lS (i-p) _ (by have:=n.1;omega) (by omega))];have e:p+((i:Int)-p)=i:=by omega
  rw[e];rw[eu ⟨by omega,by omega⟩];rw[show((i:Int)).toNat=i from rfl,c,aq (II _ _)];refine GU b hb l i _ (by omega) n.2 (fun j k=>m j (by simp[k])) (by omega) ?_ fun j k q=>?_
  ·rw[pB (by have:=jb b i;omega),a]
  ·rw[Ly a hi];split
   ·rename_i e;rw[e]
   ·rename_i f;exact h j k (by simp[f,q])
theorem y8 (f:Nat->Bool):∀(n m:Nat) (p:Int),p<m->Up p ((List.range' m n).filter f)
 | 0,m,p,h=>by simp[Up]
 | n+1,m,p,h=>by
  rw[List.range'_succ,List.filter_cons];split
  ·exact⟨h,y8 f n (m+1) m (by omega)⟩
  ·exact y8 f n (m+1) p (by omega)
theorem SF (a b:List UInt8):Up (-1) (kU a b):=by
 unfold kU;rw[List.range_eq_range'];exact y8 _ _ 0 (-1) (by omega)
theorem Ph {x y:List UInt8}(h:x <+: y) {t:Nat}(a:t<x.length):y[t]?=x[t]?:=by
 obtain⟨s,rfl⟩:=h;rw[aaW a]
theorem IK (a b:List UInt8) (i:Nat) (h:cH b i <+: cH a i):cH (Cr a b.length) i=cH b i:=by
 apply abp;intro t;have f:(a.take b.length).length<=b.length:=by rw[aa6];omega
 rw[rD]
 by_cases d:t<(cH b i).length
 ·have e:=Ph h d;have c:=jb b i;rw[<-e,rD,eu (by omega),eu (by omega)];unfold Cr;have j:32*i+t<a.length:=by
   have:=h.length_le;have:=jb a i;omega
  rw[GS (by simp;omega),eu (by rw[aa6];omega),Nat.sub_zero,abm,eu (by omega)]
 ·have c:=jb b i;rw[aaY (by omega:(cH b i).length<=t)];split
  ·rw[aaY (by rw[uT];omega)]
  ·rfl
def uU (b:List UInt8):List Nat->Nat
 | []=>0
 | i::l=>(cH b i).length+uU b l
theorem GV (b:List UInt8):∀(p:Int) (l:List Nat),uU b l+l.length<=(zm b p l).length
 | p,[]=>by simp[uU,zm]
 | p,i::l=>by
  have a:=GV b i l;have c:=j9 (zz (i-p));simp only[uU,zm,yo,aaV];omega
theorem Ec (b:List UInt8):∀(l m:List Nat),uU b (l++m)=uU b l+uU b m
 | [],m=>by simp[uU]
 | i::l,m=>by simp only[aaT,uU,Ec b l m];omega
theorem AZ (a b:List UInt8):∀k:Nat,min (32*k) b.length<=min (32*k) a.length+uU b ((List.range k).filter (tJ a b))
 | 0=>by simp
 | k+1=>by
  have c:=AZ a b k;have hb:=jb b k;rw[List.range_succ,List.filter_append,Ec];cases e:tJ a b k with
  | true =>
   simp only[List.filter_cons,e,aa9,List.filter_nil,uU];omega
  | false =>
   have h:cH b k <+: cH a k:=by simpa[tJ] using e
   have d:=h.length_le;have f:=jb a k;simp only[List.filter_cons,e,List.filter_nil];simp only[aaX,abn,uU];omega
theorem Pj (a b:List UInt8):b.length<=a.length+(zm b (-1) (kU a b)).length:=by
 have c:=AZ a b (eZ b.length);have e:=GV b (-1) (kU a b);have f:b.length<=32*eZ b.length:=by unfold eZ;omega
 have d:uU b ((List.range (eZ b.length)).filter (tJ a b))=uU b (kU a b):=rfl;omega
theorem Ba (a b:List UInt8) (d:a.length<=268435456):su (ep a b)=some (((a.length:Int),jf a),mh [(b.length:Int),jf b,((kU a b).length:Int)]++zm b (-1) (kU a b)):=by
 have c:=kg a;have e:ep a b=bR (zz (a.length:Int))++(bR (zz (jf a))++(mh [(b.length:Int),jf b,((kU a b).length:Int)]++zm b (-1) (kU a b))):=by
  simp only[ep,rA,mh,aaR]
 unfold su;rw[e,aq (lS _ _ (by omega) (by omega)),aq (lS _ _ (by omega) (by omega))];rfl
theorem Ed (a b:List UInt8) (d:a.length<=268435456) (hb:b.length<=268435456):rC a (ep a b)=(b,0):=by
 have l:=kg b;have c:(kU a b).length<=268435456:=by have:=GN a b;unfold eZ at this;omega
 have j:oG a (mh [(b.length:Int),jf b,((kU a b).length:Int)]++zm b (-1) (kU a b))=some (b,[]):=by
  have e:mh [(b.length:Int),jf b,((kU a b).length:Int)]++zm b (-1) (kU a b)=bR (zz (b.length:Int))++(bR (zz (jf b))++(bR (zz ((kU a b).length:Int))++zm b (-1) (kU a b))):=by
   simp only[mh,aaR,aa5]
  unfold oG;rw[e,aq (lS _ _ (by omega) (by omega)),aq (lS _ _ (by omega) (by omega)),aq (lS _ _ (by omega) (by omega))];unfold Eb;have k:=Pj a b;rw[eu ⟨⟨by omega,by omega⟩,by omega⟩];refine GU b hb (kU a b) (-1) (Cr a b.length) (by omega) (SF a b) (fun i hi=>Ft hi) (by omega) (uT a b.length) fun i hi f=>?_;refine IK a b i ?_;have:¬(tJ a b i=true):=fun h=>f (by simp only[kU,List.mem_filter,List.mem_range];exact⟨hi,h⟩);simpa[tJ] using this
 unfold rC;rw[Ba a b d];simp only[];rw[o6 (by simp),j];simp
theorem Ee (c a b:List UInt8) (d:a.length<=268435456) (h:a.length≠c.length\/jf a≠jf c):rC c (ep a b)=([],17):=by
 unfold rC;rw[Ba a b d];simp only[];rw[eu (by rcases h with h | h;exact .inl (by omega);exact .inr h)]
end Go.Fr.Tryz
namespace Go.Fr.Tryz
open Go Go.RowKit Go.Proofs Go.Fr Go.Fr.T Go.Fr.Api Go.Fr.Dm
def tK:Wd:=⟨[⟨true,-1,.mk 2 2 0 0 [] false [] []⟩],[],[⟨0,[⟨1,0,0,0,0,[.mk 1 0 0 (-3) [] false [] [],.mk 6 0 0 0 [] true [0,-1] [0]],[4,5]⟩],[⟨0,1,false,true,false⟩],0,6,2,[]⟩],[[]],[⟨0,7⟩],1,0,0⟩
theorem Yr:CallsT PZ 20 [] [] (iQ [] (.agg (uQ [] [] 0 tK))):=by
 refine au Tryz.func20 NJ rfl fun a _=>?_;exact bK rfl rfl
theorem y9 {z:Nat}(h:z<128):bR z=[UInt8.ofNat z]:=by rw[bR,dif_pos h]
def ku:List UInt8:=[76,83,1,0,0,0,0,0,0,0,0]
theorem Yt:dQ w0=ku++lZ ku:=by
 have h:kI kW w0=([0,0,0,0,0,0,0,0],true):=by
  simp[w0,kI,bO,aS,bh,Mq,kW,zz,y9]
 simp[dQ,h,fR,bM,ku]
def rj:List UInt8:=[2,2,1,4,4,0,0,0,0,0,0,0,2,0,2,2,0,0,0,0,4,2,0,0,5,0,0,0,0,12,0,0,0,0,2,4,0,1,2,0,4,8,10,2,0,2,0,2,0,0,12,4,0,2,0,2,0,14,2,0,0]
theorem LC:kI kW tK=(rj,true):=by
 simp[tK,rj,kI,bO,aS,bh,Mq,kW,zz,y9,OP,Tc,nM,OU,OQ,OT,Qb,Qc,uO,sL,zL,zK]
theorem UM:dQ tK=fR (bM++rj):=by
 unfold dQ;rw[LC,eu rfl]
theorem Yu:oC rj=some tK:=by rfl
theorem IL (b:List UInt8):(fR b).take ((fR b).length-4)=b:=by
 have h:(fR b).length-4=b.length:=by simp[fR,lZ]
 rw[h];simp[fR]
theorem LD (x:List UInt8):nN (fR (bM++x))=match oC x with | some y=>(some y,0) | none=>(none,16):=by
 have a:¬(fR (bM++x)).length<7:=by simp[fR,lZ,bM]
 have c:bM <+: fR (bM++x):=⟨x++lZ (bM++x),by simp[fR]⟩;have b:(bM++x).drop 3=x:=by simp[bM]
 unfold nN;rw[o6 (fun h=>h.elim a (fun h=>h c)),IL,o6 (fun h=>h rfl),b];cases oC x<;>rfl
theorem Yv:nN (dQ tK)=(some tK,0):=by rw[UM,LD,Yu]
def yX:List UInt8:=ku++[0,0,0,0]
theorem Yw:nN yX=(none,17):=by
 have b:yX.take (yX.length-4)=ku:=rfl;have c:¬fR ku=yX:=by
  intro h;have a:lZ ku=[0,0,0,0]:=by
   have:=List.append_cancel_left (h:ku++lZ ku=ku++[0,0,0,0]);exact this
  exact o4 a (by decide)
 unfold nN;rw[o6 (fun h=>h.elim (by decide) (fun h=>h ⟨[0,0,0,0,0,0,0,0,0,0,0,0],rfl⟩)),b,eu c]
def dY:List UInt8:=List.replicate 40 1
def rE:List UInt8:=dY.set 39 2
theorem Yx:kU dY rE=[1]:=by decide
theorem SG:jf dY≠jf rE:=by decide
theorem LF:ep dY rE=bR (zz 40)++bR (zz (jf dY))++bR (zz 40)++bR (zz (jf rE))++[2,4]++[1,1,1,1,1,1,1,2]:=by
 have b:bR (zz 1)=[2]:=y9 (by decide);have d:bR (zz (((1:Nat):Int) - -1))=[4]:=y9 (by decide);have e:cH rE 1=[1,1,1,1,1,1,1,2]:=by decide
 have c:(dY.length:Int)=40:=by decide
 have f:(rE.length:Int)=40:=by decide
 have a:(([1]:List Nat).length:Int)=1:=rfl;simp only[ep,rA,Yx,mh,zm,c,f,a,b,d,e,aaR,aaU,aa5,aaT]
theorem pat1:rC dY (ep dY rE)=(rE,0):=Ed _ _ (by decide) (by decide)
theorem pat2:rC rE (ep dY rE)=([],17):=Ee rE dY rE (by decide) (.inr SG)
def YZ:zT:=⟨[],[],0⟩
def Te:zT:=⟨[],[],5⟩
theorem UN:Fu Te Te tK tK=true:=by unfold Fu;rw[<-kh rfl];simp
theorem UO:Fu Te YZ tK tK=false:=by
 unfold Fu;rw[<-bQ (by intro h;injection h with _ _ h;cases h)];rfl
theorem Yy:Fs w0:=by simp[Fs,w0]
theorem LG:Fs tK:=by simp[Fs,tK,Vk,XR,XQ,vsB,Fe,DV]
theorem SH {a d:List UInt8}(h:su d=none):rC a d=([],16):=by unfold rC;rw[h]
theorem SI {a d r:List UInt8}{n s:Int}(h:su d=some ((n,s),r)) (k:n≠a.length\/s≠jf a):rC a d=([],17):=by
 unfold rC;rw[h];simp only[];rw[eu k]
theorem SJ {a d r:List UInt8}{n s:Int}(h:su d=some ((n,s),r)) (c:n=a.length) (b:s=jf a) (e:oG a r=none):rC a d=([],16):=by
 unfold rC;rw[h];simp only[];rw[o6 (fun k=>k.elim (fun k=>k c) (fun k=>k b)),e]
theorem SK {a d r c out:List UInt8}{n s:Int}(h:su d=some ((n,s),r)) (f:n=a.length) (b:s=jf a) (e:oG a r=some (out,c)):rC a d=if ep a out=d then(out,0) else([],16):=by
 unfold rC;rw[h];simp only[];rw[o6 (fun k=>k.elim (fun k=>k f) (fun k=>k b)),e]
theorem LH {d r:List UInt8}{p:Int×Int}(h:su d=some (p,r)):r.length<=d.length:=by
 obtain⟨x,e,b,h⟩:=nI h;obtain⟨y,c,a,h⟩:=nI h;have j:=(mN b).2;have f:=(mN a).2;have h:some ((x,y),c)=some (p,r):=h;injection h with h;injection h with _ h
 rw[<-h];omega
set_option maxRecDepth 20000 in
theorem Y0 (a d:List UInt8) (x:a.length<=268435456) (hb:d.length<=268435456) :
  CallsT PZ 12 [.sl (af a),.sl (af d)] [] (iQ [] (.tup [.sl (af (rC a d).1),IC (rC a d).2])):=by
 have h:(af a).length=a.length:=aO;have h1:=Yq d;have p:=@SH a d;have k:=@SI a d;have m:=@SJ a d;have o:=@SK a d;have t:=@LH d;generalize rC a d=pd at p k m o ⊢;refine au Tryz.func12 NF rfl fun hw z=>?_;refine Co [6,12,7,8] h1 rfl rfl rfl rfl ?_;rintro v Mo (⟨n,s,r,e,rfl,rfl⟩ | ⟨e,⟨y,w,q,p4,rfl⟩,rfl⟩) _ _
 ·refine⟨rfl,?_⟩;have ac:=t e;have u:=Yp a r x (by omega);refine aB (fun b=>?_) (fun b=>?_)
  ·have b:(!decide (n=((af a).length:Int)))=true:=b;have b:n≠a.length:=by rw[h] at b;simpa using b
   exact bK rfl (by rw[k e (.inl b)];rfl)
  have b:(!decide (n=((af a).length:Int)))=false:=b;have b:n=a.length:=by rw[h] at b;simpa using b
  refine jy (Td a) rfl fun _=>?_;refine aB (fun c=>?_) (fun c=>?_)
  ·have c:(!decide (s=jf a))=true:=c;exact bK rfl (by rw[k e (.inr (by simpa using c))];rfl)
  have c:(!decide (s=jf a))=false:=c;have c:s=jf a:=by simpa using c
  refine Co [6,12,9] u rfl rfl rfl rfl ?_;rintro v Mo (⟨out,r',j,rfl,rfl⟩ | ⟨j,⟨y,w,q,rfl⟩,rfl⟩) _ _
  ·refine⟨rfl,?_⟩;have aa:=Lx j;refine bY (YV a out (by omega) (by omega)) rfl fun _=>?_;refine bY (t31 (ep a out) d) rfl fun _=>?_;have l:=o e b c j;refine aB (fun f=>?_) (fun f=>?_)
   ·have f:(!decide (ep a out=d))=true:=f;exact bK rfl (by rw[l,o6 (by simpa using f)];rfl)
   ·have f:(!decide (ep a out=d))=false:=f;exact bK rfl (by rw[l,eu (by simpa using f)];rfl)
  ·refine⟨rfl,?_⟩;exact bK rfl (by rw[m e b c j];rfl)
 ·refine⟨rfl,?_⟩;exact bK rfl (by rw[p e];rfl)
theorem Yz:¬(true=false):=by decide
theorem Y1 (a b:List UInt8):af a++af b=af (a++b):=by simp[af]
set_option maxRecDepth 100000 in
theorem t7:CallsT PZ 7 [] [] (iQ [] (.bool true)):=by
 have ab:CallsT PZ 14 [.agg (uQ [] [] 0 w0)] [] (iQ [.row 5 1 (af (dQ w0))] (.rw 1000)):=X1 [] [] 0 w0 Yy (by
  have:kI kW w0=([0,0,0,0,0,0,0,0],true):=by simp[w0,kI,bO,aS,bh,Mq,kW,zz,y9]
  rw[this];decide)
 have f:CallsT PZ 14 [.agg (uQ [] [] 0 tK)] [] (iQ [.row 5 1 (af (dQ tK))] (.rw 1000)):=X1 [] [] 0 tK LG (by rw[LC];decide);have av:(dQ tK).length<=70368744177664:=by rw[UM];simp[fR,lZ,bM,rj]
 have v:CallsT PZ 10 [.agg [.sl [],.sl [],IC 5],.sl (af (dQ tK))] [] (iQ [] (.tup [.agg (uQ [] [] 5 tK),IC 0])):=by
  have:=Vm [] [] 5 (dQ tK) av;rw[Yv] at this;exact this
 have aa:CallsT PZ 10 [.agg [.sl [],.sl [],IC 0],.sl (af yX)] [] (iQ [] (.tup [.agg (uQ [] [] 0 w0),IC 17])):=by
  have:=Vm [] [] 0 yX (by decide);rw[Yw] at this;exact this
 have d:=Yt;generalize dQ w0=k at ab d;have a:(af dY).set 39 [gR 2]=af rE:=by simp[af,rE,List.map_set]
 have h8:CallsT PZ 18 [.sl (af dY),.sl ((af dY).set 39 [gR 2])] [] (iQ [] (.sl (af (ep dY rE)))):=by
  rw[a];exact YV dY rE (by decide) (by decide)
 have c:(ep dY rE).length<=268435456:=by
  have q1:=nH (jf dY) (by have:=kg dY;omega) (by have:=kg dY;omega);have q2:=nH (jf rE) (by have:=kg rE;omega) (by have:=kg rE;omega);have q3:(bR (zz 40)).length<=10:=nH 40 (by omega) (by omega);rw[LF];simp only[yo,aaV,abb];omega
 have h7:CallsT PZ 12 [.sl (af dY),.sl (af (ep dY rE))] [] (iQ [] (.tup [.sl (af rE),IC 0])):=by
  have:=Y0 dY (ep dY rE) (by decide) c;rw[pat1] at this;exact this
 have p:CallsT PZ 12 [.sl ((af dY).set 39 [gR 2]),.sl (af (ep dY rE))] [] (iQ [] (.tup [.sl (af []),IC 17])):=by
  have:=Y0 rE (ep dY rE) (by decide) c;rw[pat2] at this;rw[a];exact this
 have q:CallsT PZ 23 [.sl ((af dY).set 39 [gR 2])] [] (iQ [] (IC (jf rE))):=by rw[a];exact Td rE
 have b:=LF;have b1:=kg dY;have b2:=kg rE;have k1:CallsT PZ 22 [IC 40] [] (iQ [.row 5 1 (af (bR (zz 40)))] (.rw 1000)):=t22 40 (by omega) (by omega);have k2:=t22 (jf dY) (by omega) (by omega);have k3:=t22 (jf rE) (by omega) (by omega);have m1:(bR (zz 40)).length<=10:=nH 40 (by omega) (by omega);have m2:=nH (jf dY) (by omega) (by omega);have m3:=nH (jf rE) (by omega) (by omega);have e:(uR tK).length<=70368744177664:=abz (aa1 (by kernel_rfl:Nat.ble (uR tK).length 100000=true)) (by decide);have u:CallsT PZ 17 [.agg (uQ [] [] 5 tK),.agg (uQ [] [] 5 tK)] [] (iQ [] (.bool true)):=by
  have:=YX Te Te tK tK LG LG e e;rw[UN] at this;exact this
 have t:CallsT PZ 17 [.agg (uQ [] [] 5 tK),.agg (uQ [] [] 0 tK)] [] (iQ [] (.bool false)):=by
  have:=YX Te YZ tK tK LG LG e e;rw[UO] at this;exact this
 have m:tP ⟨k.toArray⟩ ⟨(ku++lZ ku).toArray⟩=true:=by rw[rz,d];simp
 have y:∀x:List UInt8,tP ⟨x.toArray⟩ ⟨x.toArray⟩=true:=fun x=>by rw[rz];simp
 generalize bR (zz 40)=v1 at k1 m1 b c;generalize bR (zz (jf dY))=l at k2 m2 b c;generalize bR (zz (jf rE))=v3 at k3 m3 b c;generalize ep dY rE=w at h8 h7 p b;generalize dQ tK=ebE at f v;have n:CallsT PZ 21 [IC 40,gR 1] [] (iQ [.row 5 1 (af dY)] (.rw 1000)):=t21 40 1 (by decide);have o:=Td dY;have s:(af dY).length=40:=by rw[aO];rfl
 have j:(af dY)[39]?=some [gR 1]:=rfl;have r:=t24 ku
 clear c
 have aw:(lZ ku).length=4:=rfl;generalize lZ ku=d4 at d m r aw;obtain⟨zd,al,az⟩:∃zd,af ku++af d4=af zd/\tP ⟨k.toArray⟩ ⟨zd.toArray⟩=true:=⟨ku++d4,Y1 _ _,m⟩
 clear d m
 generalize jf dY=n1 at o k2 b1;generalize jf rE=n2 at q k3 b2;generalize rE=tb at a h7;generalize dY=fb at n o s j a h8 h7 p q;have z:af v1++af l++af v1++af v3++af [2,4]++af [1,1,1,1,1,1,1,2]=af w:=by rw[b];simp only[Y1]
 obtain⟨d2,aE,an⟩:∃d2,af v1++af l++af v1++af v3++af [2,4]++af [1,1,1,1,1,1,1,2]=af d2/\tP ⟨w.toArray⟩ ⟨d2.toArray⟩=true:=⟨w,z,y w⟩;obtain⟨t2,ax,ar⟩:∃t2,(af fb).set 39 [gR 2]=af t2/\tP ⟨tb.toArray⟩ ⟨t2.toArray⟩=true:=⟨tb,a,y tb⟩
 clear b z
 refine au Tryz.func7 RY rfl fun hw _=>?_;refine callO [] [19] ab rfl rfl rfl rfl rfl fun _ _=>?_;refine bY Yr rfl fun _=>?_;refine callO [] [23] f rfl rfl rfl rfl rfl fun _ _=>?_;refine uE [23] [] [] v ⟨_,rfl,rfl,rfl,rfl,rfl,fun _ _=>?_⟩;refine bY Yr rfl fun _=>?_;refine⟨Nat.succ_pos 3,eJ (bs:=ku),?_⟩;refine sn (bs:=[0,0,0,0]) 11 rfl (by decide) ?_;refine uE [34] [] [] aa ⟨_,rfl,rfl,rfl,rfl,rfl,fun _ _=>?_⟩;refine callO [] [38] n rfl rfl rfl rfl rfl fun _ _=>?_;refine callO [] [39] n rfl rfl rfl rfl rfl fun _ _=>?_;refine Mu.mk (by decide) (by rw[s];decide) ?_;refine⟨rfl,?_⟩;refine Ll (es0:=[gR 1]) j rfl ?_;refine uE [38,39] [] [] h8 ⟨_,rfl,rfl,rfl,rfl,rfl,fun _ _=>?_⟩;refine bY h7 rfl fun _=>?_;refine bY p rfl fun _=>?_;refine callO [] [57] k1 rfl rfl rfl rfl rfl fun _ _=>?_;refine bY o rfl fun _=>?_;refine callO [] [60] k2 rfl rfl rfl rfl rfl fun _ _=>?_;refine sn (bs:=l) v1.length aO (by omega) ?_;refine callO [] [62] k1 rfl rfl rfl rfl rfl fun _ _=>?_;refine sn (bs:=v1) (v1.length+l.length) (zR aO aO) (by omega) ?_;refine bY q rfl fun _=>?_;refine callO [] [66] k3 rfl rfl rfl rfl rfl fun _ _=>?_;refine sn (bs:=v3) (v1.length+l.length+v1.length) (zR (zR aO aO) aO) (by omega) ?_;refine sn (bs:=[2,4]) (v1.length+l.length+v1.length+v3.length) (zR (zR (zR aO aO) aO) aO) (by simp only[aaV,abb];omega) ?_;refine m6.mk ⟨k,rfl,?_⟩;refine⟨Nat.succ_pos 10,eJ (bs:=[]),?_⟩;refine sn (bs:=ku) 0 rfl (by decide) ?_;refine jy r rfl fun _=>?_;refine sn (bs:=d4) 11 rfl (by omega) ?_;refine m6.mk ⟨zd,al,?_⟩;refine aB (fun _=>?_) (fun h=>o4 (az.symm.trans h) Yz);refine jy u rfl fun _=>?_;refine jy Yr rfl fun _=>?_;refine jy t rfl fun _=>?_;refine m6.mk ⟨w,rfl,?_⟩;refine sn (bs:=[1,1,1,1,1,1,1,2]) (v1.length+l.length+v1.length+v3.length+2) (zR (zR (zR (zR aO aO) aO) aO) rfl) (by simp only[aaV,abb];omega) ?_;refine m6.mk ⟨d2,aE,?_⟩;refine aB (fun _=>?_) (fun h=>o4 (an.symm.trans h) Yz);refine m6.mk ⟨tb,rfl,?_⟩;refine m6.mk ⟨t2,ax,?_⟩;refine aB (fun _=>?_) (fun h=>o4 (ar.symm.trans h) Yz);exact bK rfl rfl
end Go.Fr.Tryz
namespace Go.Fr.Tryz
open Go Go.RowKit Go.Proofs Go.Fr Go.Fr.T Go.Fr.Api
theorem rF {a:Type}{f:a->List C}{l:List a}(h:Wf (.sl (l.map f))) {x:a}(b:x∈l):tL (f x):=by
 simp only[Wf] at h;exact Dt.1 h.2 _ (abh.2 ⟨x,b,rfl⟩)
theorem l9 {a:Type}{f:a->List C}{l:List a}:(l.map f).length=l.length:=by simp
theorem YA {l:List Int}:(tM l).length=l.length:=by simp[tM]
def zU (f:Nat) (args:List C):Prop:=CallsT PZ f args [] (fun Mo v=>Mo=[]/\∃n:Int,v=IC n)
section
variable {L:TL}{ρ:aV}
theorem uV {f:Nat}{args a:List C}{K:TL->aV->C->Prop}(h:zU f a) (e:(args.map fun c=>c.aaj.ren (bZ [] 1000))=a) (k:∀n:Int,K L ρ (IC n)):oZ PZ f args L ρ K:=by
 subst e;exact .mk ⟨[],[],[],L,[],_,.inl rfl,rfl,rfl,rfl,rfl,rfl,h,fun v Mo ⟨d,n,b⟩ j _=>by subst d b;exact⟨rfl,k n⟩⟩
theorem tH {f:Nat}{args a:List C}{K:TL->aV->C->Prop}{d:Option Nat}(h:zU f a) (j:(args.map fun c=>c.aaj.ren (bZ [] 1000))=a) (k:∀n:Int,K L ρ (IC n)):s9 PZ f args L ρ d K:=by
 subst j;exact .frz _ h fun v Mo ⟨e,n,b⟩ l=>by subst e b;exact⟨rfl,k n⟩
theorem yL {Lin:List TO}{v:C}(n:Int) (hb:aT Lin (List.range' 1000 Lin.length) []=true) (e:v.aar.ren (bZ [] 1000)=IC n):o7 Lin L v (fun Mo v=>Mo=[]/\∃n:Int,v=IC n) :=
 ⟨[],[],L,v,v,[],rfl,.inl ⟨rfl,rfl⟩,rfl,rfl,hb,fun _=>⟨rfl,n,e⟩⟩
end
theorem UQ:∀(n:Nat) (x:Ty) (l:Int),SizeOf.sizeOf x<n->zU 72 [GQ x,IC l]
 | 0,x,l,h=>o4 h (by omega)
 | n+1,x,l,h=>by
  have j:∀z∈x.args,∀m,zU 72 [GQ z,IC m]:=fun z o m=>UQ n z m (by have:=Qs o;omega);refine au Tryz.func72 Ov rfl fun f _=>?_;have d:Wf (.sl (x.args.map uL)):=by have h:=f.1;simp only[GQ,Wf,tL] at h;exact h.2.2.1
  refine Fit.mk ?_;refine Fit.mk ?_;refine bw x.args.length 5 [1] (_:Int) (fun n=>[IC n]) (fun _=>[]) (fun _ _=>True) trivial (ah rfl) ⟨ah rfl,trivial⟩ trivial (fun _=>rfl) (fun _=>rfl) ?_;rintro e s p _ _ _ _;refine aM (fun a=>?_) (fun q=>?_)
  ·refine aM (fun c=>?_) (fun c=>?_)
   ·have a:e<x.args.length:=by rw[l9] at a;omega
    have r:=cJ d;obtain⟨k,b⟩:=bV a;refine Gt b ?_;refine uV (j k (aaQ b) _) rfl fun m=>?_;refine Fit.aae (by omega) (by omega) ?_;exact⟨(e+1,_),⟨a,trivial⟩,⟨bE,⟨ah rfl,trivial⟩⟩,trivial,bF a⟩
   skip
   exact yL _ rfl rfl
  ·skip
   exact yL _ rfl rfl
theorem Vn (x:Ty) (l:Int):zU 72 [GQ x,IC l]:=UQ _ x l (abL _)
theorem YB (a:List Ty) (l:Int):zU 27 [.sl (a.map uL),IC l]:=by
 refine au Tryz.func27 NS rfl fun k _=>?_;refine Fit.mk ?_;refine bw a.length 5 [1] (_:Int) (fun n=>[IC n]) (fun _=>[]) (fun _ _=>True) trivial (ah rfl) ⟨ah rfl,trivial⟩ trivial (fun _=>rfl) (fun _=>rfl) ?_;rintro e p f _ _ _ _;refine aM (fun b=>?_) (fun h=>?_)
 ·refine aM (fun d=>?_) (fun d=>?_)
  ·have b:e<a.length:=by rw[l9] at b;omega
   have o:=cJ k.1;obtain⟨j,c⟩:=bV b;refine Gt c ?_;refine uV (Vn j _) rfl fun m=>?_;refine Fit.aae (by omega) (by omega) ?_;exact⟨(e+1,_),⟨b,trivial⟩,⟨bE,⟨ah rfl,trivial⟩⟩,trivial,bF b⟩
  skip
  exact yL _ rfl rfl
 ·skip
  exact yL _ rfl rfl
theorem t28 (x:zS) (l:Int):zU 28 [.agg (jd x),IC l]:=by
 refine au Tryz.func28 NT rfl fun hw _=>?_;have t:Wf (.sl (x.blocks.map iO)):=hw.1.2.2.2.2.2.2.2.1;have j:Wf (.sl (x.entry.map oD)):=hw.1.2.2.2.2.2.2.2.2.1;refine Fit.mk ?_;refine Fit.mk ?_;refine Fit.mk ?_;refine Fit.mk ?_;refine tH (Vn x.result _) rfl fun m1=>?_;refine tH (YB x.params _) rfl fun m2=>?_;refine bw x.blocks.length 5 [1] (_:Int) (fun n=>[IC n]) (fun _=>[]) (fun _ _=>True) trivial (ah rfl) ⟨ah rfl,trivial⟩ trivial (fun _=>rfl) (fun _=>rfl) ?_;rintro kA lA az _ _ _ _;refine aM (fun d=>?_) (fun aE=>?_)
 ·refine aM (fun w=>?_) (fun w=>?_)
  ·have d:kA<x.blocks.length:=by rw[l9] at d;omega
   have ap:=cJ t;obtain⟨z,e⟩:=bV d;have ad:Wf (.sl (z.code.map sj)):=(rF t (aaQ e)).1;refine cD e rfl rfl ?_;refine Fit.mk ?_;refine cD e rfl rfl ?_;refine Fit.mk ?_;refine bw z.code.length 6 [1] (_:Int) (fun n=>[IC n]) (fun _=>[]) (fun _ _=>True) trivial (ah rfl) ⟨ah rfl,trivial⟩ trivial (fun _=>rfl) (fun _=>rfl) ?_;rintro kB lB aw _ _ _ _;refine cD e rfl rfl ?_;refine aM (fun h=>?_) (fun ay=>?_)
   ·refine aM (fun ac=>?_) (fun ac=>?_)
    ·have h:kB<z.code.length:=by rw[l9] at h;omega
     have ax:=cJ ad;obtain⟨xB,r⟩:=bV h;refine cD e rfl rfl ?_;refine cD r rfl rfl ?_;refine cD e rfl rfl ?_;refine cD r rfl rfl ?_;refine Fit.mk ?_;refine tH (YB xB.types _) rfl fun m3=>?_;refine Fit.aae (by omega) (by omega) ?_;exact⟨(kB+1,_),⟨h,trivial⟩,⟨bE,⟨ah rfl,trivial⟩⟩,trivial,bF h⟩
    skip
    refine Fit.aae (by omega) (by omega) ?_;exact⟨(kA+1,_),⟨d,trivial⟩,⟨bE,⟨ah rfl,trivial⟩⟩,trivial,bF d⟩
   ·skip
    refine Fit.aae (by omega) (by omega) ?_;exact⟨(kA+1,_),⟨d,trivial⟩,⟨bE,⟨ah rfl,trivial⟩⟩,trivial,bF d⟩
  skip
  refine bw x.entry.length 7 [1] (_:Int) (fun n=>[IC n]) (fun _=>[]) (fun _ _=>True) trivial (ah rfl) ⟨ah rfl,trivial⟩ trivial (fun _=>rfl) (fun _=>rfl) ?_;rintro m lC v _ _ _ _;refine aM (fun a=>?_) (fun aa=>?_)
  ·refine aM (fun o=>?_) (fun o=>?_)
   ·have a:m<x.entry.length:=by rw[l9] at a;omega
    have u:=cJ j;obtain⟨k,b⟩:=bV a;have p:Wf (.sl (k.map iP)):=(rF j (aaQ b)).1;refine cD b rfl rfl ?_;refine Fit.mk ?_;refine bw k.length 8 [1] (_:Int) (fun n=>[IC n]) (fun _=>[]) (fun _ _=>True) trivial (ah rfl) ⟨ah rfl,trivial⟩ trivial (fun _=>rfl) (fun _=>rfl) ?_;rintro s lD y _ _ _ _;refine cD b rfl rfl ?_;refine aM (fun c=>?_) (fun ae=>?_)
    ·refine aM (fun q=>?_) (fun q=>?_)
     ·have c:s<k.length:=by rw[l9] at c;omega
      have al:=cJ p;obtain⟨xD,f⟩:=bV c;refine cD b rfl rfl ?_;refine cD f rfl rfl ?_;refine cD b rfl rfl ?_;refine cD f rfl rfl ?_;refine Fit.mk ?_;refine tH (Vn xD.type _) rfl fun m3=>?_;refine Fit.aae (by omega) (by omega) ?_;exact⟨(s+1,_),⟨c,trivial⟩,⟨bE,⟨ah rfl,trivial⟩⟩,trivial,bF c⟩
     skip
     refine Fit.aae (by omega) (by omega) ?_;exact⟨(m+1,_),⟨a,trivial⟩,⟨bE,⟨ah rfl,trivial⟩⟩,trivial,bF a⟩
    ·skip
     refine Fit.aae (by omega) (by omega) ?_;exact⟨(m+1,_),⟨a,trivial⟩,⟨bE,⟨ah rfl,trivial⟩⟩,trivial,bF a⟩
   skip
   exact yL _ rfl rfl
  ·skip
   exact yL _ rfl rfl
 ·skip
  refine bw x.entry.length 7 [1] (_:Int) (fun n=>[IC n]) (fun _=>[]) (fun _ _=>True) trivial (ah rfl) ⟨ah rfl,trivial⟩ trivial (fun _=>rfl) (fun _=>rfl) ?_;rintro m lC v _ _ _ _;refine aM (fun a=>?_) (fun aa=>?_)
  ·refine aM (fun o=>?_) (fun o=>?_)
   ·have a:m<x.entry.length:=by rw[l9] at a;omega
    have u:=cJ j;obtain⟨k,b⟩:=bV a;have p:Wf (.sl (k.map iP)):=(rF j (aaQ b)).1;refine cD b rfl rfl ?_;refine Fit.mk ?_;refine bw k.length 8 [1] (_:Int) (fun n=>[IC n]) (fun _=>[]) (fun _ _=>True) trivial (ah rfl) ⟨ah rfl,trivial⟩ trivial (fun _=>rfl) (fun _=>rfl) ?_;rintro s lD y _ _ _ _;refine cD b rfl rfl ?_;refine aM (fun c=>?_) (fun ae=>?_)
    ·refine aM (fun q=>?_) (fun q=>?_)
     ·have c:s<k.length:=by rw[l9] at c;omega
      have al:=cJ p;obtain⟨xD,f⟩:=bV c;refine cD b rfl rfl ?_;refine cD f rfl rfl ?_;refine cD b rfl rfl ?_;refine cD f rfl rfl ?_;refine Fit.mk ?_;refine tH (Vn xD.type _) rfl fun m3=>?_;refine Fit.aae (by omega) (by omega) ?_;exact⟨(s+1,_),⟨c,trivial⟩,⟨bE,⟨ah rfl,trivial⟩⟩,trivial,bF c⟩
     skip
     refine Fit.aae (by omega) (by omega) ?_;exact⟨(m+1,_),⟨a,trivial⟩,⟨bE,⟨ah rfl,trivial⟩⟩,trivial,bF a⟩
    ·skip
     refine Fit.aae (by omega) (by omega) ?_;exact⟨(m+1,_),⟨a,trivial⟩,⟨bE,⟨ah rfl,trivial⟩⟩,trivial,bF a⟩
   skip
   exact yL _ rfl rfl
  ·skip
   exact yL _ rfl rfl
theorem t9 (x:zT):CallsT PZ 9 [.agg (Lr x)] [] (Such True):=by
 refine au Tryz.func9 R0 rfl fun w _=>?_;have k:Wf (.sl (x.datas.map jc)):=w.1.1;have l:Wf (.sl (x.routs.map jd)):=w.1.2.1;refine Fit.mk ?_;refine Fit.mk ?_;refine bw x.datas.length 4 [3] (_:Int) (fun n=>[IC n]) (fun _=>[]) (fun _ _=>True) trivial (ah rfl) ⟨ah rfl,trivial⟩ trivial (fun _=>rfl) (fun _=>rfl) ?_;rintro t lA ae _ _ _ _;refine aM (fun b=>?_) (fun ag=>?_)
 ·refine aM (fun q=>?_) (fun q=>?_)
  ·have b:t<x.datas.length:=by rw[l9] at b;omega
   have am:=cJ k;obtain⟨r,c⟩:=bV b;have v:Wf (.sl (r.variants.map fk)):=(rF k (aaQ c)).2.2.2.1;refine cD c rfl rfl ?_;refine Fit.mk ?_;refine cD c rfl rfl ?_;refine Fit.mk ?_;refine bw r.variants.length 5 [3] (_:Int) (fun n=>[IC n]) (fun _=>[]) (fun _ _=>True) trivial (ah rfl) ⟨ah rfl,trivial⟩ trivial (fun _=>rfl) (fun _=>rfl) ?_;rintro y lB ab _ _ _ _;refine cD c rfl rfl ?_;refine aM (fun d=>?_) (fun ad=>?_)
   ·refine aM (fun u=>?_) (fun u=>?_)
    ·have d:y<r.variants.length:=by rw[l9] at d;omega
     have ac:=cJ v;obtain⟨xB,h⟩:=bV d;refine cD c rfl rfl ?_;refine cD h rfl rfl ?_;refine cD c rfl rfl ?_;refine cD h rfl rfl ?_;refine Fit.mk ?_;refine tH (YB xB.fields _) rfl fun z=>?_;refine Fit.aae (by omega) (by omega) ?_;exact⟨(y+1,_),⟨d,trivial⟩,⟨bE,⟨ah rfl,trivial⟩⟩,trivial,bF d⟩
    skip
    refine Fit.aae (by omega) (by omega) ?_;exact⟨(t+1,_),⟨b,trivial⟩,⟨bE,⟨ah rfl,trivial⟩⟩,trivial,bF b⟩
   ·skip
    refine Fit.aae (by omega) (by omega) ?_;exact⟨(t+1,_),⟨b,trivial⟩,⟨bE,⟨ah rfl,trivial⟩⟩,trivial,bF b⟩
  skip
  refine bw x.routs.length 6 [3] (_:Int) (fun n=>[IC n]) (fun _=>[]) (fun _ _=>True) trivial (ah rfl) ⟨ah rfl,trivial⟩ trivial (fun _=>rfl) (fun _=>rfl) ?_;rintro j lC o _ _ _ _;refine aM (fun a=>?_) (fun s=>?_)
  ·refine aM (fun f=>?_) (fun f=>?_)
   ·have a:j<x.routs.length:=by rw[l9] at a;omega
    have m:=cJ l;obtain⟨p,e⟩:=bV a;refine cD e rfl rfl ?_;refine uV (t28 p _) rfl fun z=>?_;refine Fit.aae (by omega) (by omega) ?_;exact⟨(j+1,_),⟨a,trivial⟩,⟨bE,⟨ah rfl,trivial⟩⟩,trivial,bF a⟩
   skip
   exact hU _ rfl rfl fun _=>trivial
  ·skip
   exact hU _ rfl rfl fun _=>trivial
 ·skip
  refine bw x.routs.length 6 [3] (_:Int) (fun n=>[IC n]) (fun _=>[]) (fun _ _=>True) trivial (ah rfl) ⟨ah rfl,trivial⟩ trivial (fun _=>rfl) (fun _=>rfl) ?_;rintro j lC o _ _ _ _;refine aM (fun a=>?_) (fun s=>?_)
  ·refine aM (fun f=>?_) (fun f=>?_)
   ·have a:j<x.routs.length:=by rw[l9] at a;omega
    have m:=cJ l;obtain⟨p,e⟩:=bV a;refine cD e rfl rfl ?_;refine uV (t28 p _) rfl fun z=>?_;refine Fit.aae (by omega) (by omega) ?_;exact⟨(j+1,_),⟨a,trivial⟩,⟨bE,⟨ah rfl,trivial⟩⟩,trivial,bF a⟩
   skip
   exact hU _ rfl rfl fun _=>trivial
  ·skip
   exact hU _ rfl rfl fun _=>trivial
def Vl.kind:Vl->Int | .mk a _ _ _ _ _ _ _=>a
def Vl.id:Vl->Int | .mk _ a _ _ _ _ _ _=>a
def Vl.var:Vl->Int | .mk _ _ a _ _ _ _ _=>a
def Vl.num:Vl->Int | .mk _ _ _ a _ _ _ _=>a
def Vl.fs:Vl->List Vl | .mk _ _ _ _ a _ _ _=>a
def Vl.ex:Vl->Bool | .mk _ _ _ _ _ a _ _=>a
def Vl.path:Vl->List Int | .mk _ _ _ _ _ _ a _=>a
def Vl.lns:Vl->List Int | .mk _ _ _ _ _ _ _ a=>a
def Vo (x:Vl):List C:=[IC x.kind,IC x.id,IC x.var,IC x.num,.sl (x.fs.map oH),.bool x.ex,.sl (tM x.path),.sl (tM x.lns)]
theorem Qv (x:Vl):oH x=Vo x:=by
 cases x;rw[oH,rp];rfl
def SL (x:Vl):C:=.agg (Vo x)
def Y2 (x:Ce):List C:=.bool x.live::IC x.arena::Vo x.value
theorem UR (x:Ce):zk x=Y2 x:=by rw[zk,Qv];rfl
theorem Qw {x t:Vl}(h:x∈t.fs):SizeOf.sizeOf x<SizeOf.sizeOf t:=by
 cases t;have:=List.sizeOf_lt_of_mem h;simp only[Vl.fs] at this;simp only[Vl.mk.sizeOf_spec];omega
section
variable {K:List C->Prop}{k:Nat}
theorem Ef {l:List Vl}{x:Vl}(a:l[k]?=some x) (h:K (Vo x)):Bv (l.map oH) (k:Int) 8 K:=cD a (Qv x) rfl h
theorem Qx {l:List Ce}{x:Ce}(a:l[k]?=some x) (h:K (Y2 x)):Bv (l.map zk) (k:Int) 10 K:=cD a (UR x) rfl h
end
end Go.Fr.Tryz
