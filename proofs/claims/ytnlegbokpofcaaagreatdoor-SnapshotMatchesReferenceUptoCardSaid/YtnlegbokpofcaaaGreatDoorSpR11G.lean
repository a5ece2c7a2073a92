/- Part of the proofs of the statements of this seat. -/
import Derived.Test.YtnlegbokpofcaaaGreatDoorSpR6G
import Derived.Test.YtnlegbokpofcaaaGreatDoorSpP2G
set_option maxRecDepth 10000
set_option linter.unusedVariables false
set_option linter.unusedSimpArgs false
namespace Go.Fr.Tryz
open Go Go.RowKit Go.Proofs Go.Fr Go.Fr.T Go.Fr.Api
def Bs:Nat:=70368744177664
theorem Jm {L:TL}{k:Nat}{t:Nat}{cs:List C}(a:L.sub [k]=some [.box t cs]):rowsOf L [k]=[]:=by
 have b:L.get k=some (.box t cs):=by
  cases e:L.get k with
  | none=>simp[TL.sub,e] at a
  | some o=>simp[TL.sub,e] at a;rw[a]
 simp only[rowsOf,b]
def RR (s:WS):List TO:=[.box 95 [.sl (ah s.1),.bool s.2]]
structure jf {α:Type}(e:α->Enc) (bulk:α->Nat) (s:WS) (x:α) (s':WS):Prop where
 le:s'.1.length<=s.1.length
 ok:s'.2=false->s.2=false/\bulk x+1+2*s'.1.length<=2*s.1.length
 code:∀y r,s=((e y).1++r,false)->(e y).2=true->x=y/\s'=(r,false)
def acf {a:Type}(e:a->Enc) (bulk:a->Nat) (cell:a->C) (s:WS):List TO->C->Prop:=fun Mo v=>∃x s',Mo=RR s'/\v=cell x/\jf e bulk s x s'
def DV {a:Type}(f:Nat) (args:List C) (e:a->Enc) (bulk:a->Nat) (cell:a->C):Prop:=∀s:WS,s.1.length<=Bs->CallsT PZ f args (RR s) (acf e bulk cell s)
theorem X3 {k:Nat}(h:k<=6):128 ^ k<=4398046511104:=by
 have:128 ^ k<=128 ^ 6:=Nat.pow_le_pow_right (by omega) h;omega
def acg (p:List UInt8) (x:Int) (t:WS):Prop:=(∃r,getD p=some (x,r)/\t=(r,false))\/(getD p=none/\x=0/\t.2=true/\t.1.length<=p.length)
def uT (s:WS) (x:Int) (t:WS):Prop:=(s.2=false->acg s.1 x t)/\(s.2=true->x=0/\t=s)
def ach (s:WS):List TO->C->Prop:=fun Mo v=>∃x t,Mo=RR t/\v=IC x/\uT s x t
theorem AL {p a:List UInt8}(h:getD p=none) (b:a.length<=p.length):uT (p,false) 0 (a,true):=⟨fun _=>.inr ⟨h,rfl,rfl,b⟩,fun h=>(by cases h)⟩
theorem X4:∀s:WS,s.1.length<=Bs->CallsT PZ 39 [.own 1000 0] (RR s) (ach s):=by
 intro s hb;obtain⟨p,b⟩:=s;cases b with
 | true =>
  refine au Tryz.func39 HZ rfl fun hw ho=>?_;refine aP 6 5 [] () (fun _=>[]) (fun _=>[(1000,.box 95 [.sl (ah p),.bool true])]) (fun k _=>k=0) rfl (af rfl) trivial ⟨bJ,trivial⟩ ?_;rintro k ⟨⟩ hk u _ _ _;refine aF (fun y=>?_) (fun y=>s6 (by omega) y);exact cD [1000] rfl rfl rfl rfl ⟨0,(p,true),rfl,rfl,fun h=>(by cases h),fun _=>⟨rfl,rfl⟩⟩
 | false =>
  have aw:p.length<=70368744177664:=hb;refine au Tryz.func39 HZ rfl fun hw ho=>?_;refine aP 6 5 [3,4] ((0,1,p):Nat×Nat×List UInt8) (fun q=>[.int .i64 q.1,.int .i64 q.2.1]) (fun q=>[(1000,.box 95 [.sl (ah q.2.2),.bool false])])
   (fun k q=>(lp (6-k) k q.1 q.2.2=getD p/\q.1<128 ^ k/\q.2.2.length+k=p.length)/\q.2.1=128 ^ k) ⟨⟨rfl,by simp,rfl⟩,rfl⟩ (af rfl) ⟨af rfl,af rfl,trivial⟩ ⟨bJ,trivial⟩ ?_
  rintro k ⟨z,a,e⟩ hk ⟨⟨hi,aa,j⟩,w⟩ _ _ _;simp only at hi w aa j;refine aF (fun y=>?_) (fun y=>?_)
  ·have ad:k<6:=by omega
   obtain⟨m,hm⟩:∃m,6-k=m+1:=⟨5-k,by omega⟩;rw[hm] at hi;refine aF (fun l=>?_) (fun l=>?_)
   ·have hr:e=[]:=by
     have l:((ah e).length:Int)=0:=l;rw[aG] at l;exact ade (by omega)
    rw[hr] at hi;exact cD [1000] rfl rfl rfl rfl ⟨0,(e,true),rfl,rfl,AL hi.symm (by omega)⟩
   ·have l:¬((ah e).length:Int)=0:=l;rw[aG] at l;obtain⟨c,d,rfl⟩:∃c d,e=c::d:=by
     cases e with
     | nil=>simp at l
     | cons c r=>exact⟨c,r,rfl⟩
    have an:=c.toNat_lt;have al:=X3 (k:=k) (by omega);have ag:=X3 (k:=k+1) (by omega);have ab:a*(c.toNat % 128)<=a*127:=Nat.mul_le_mul_left _ (by omega);have ae:z+a*(c.toNat % 128)<128 ^ (k+1):=by rw[w] at ab ⊢;rw[Nat.pow_succ];omega
    have v:128 ^ (k+1)=128*a:=by rw[w,Nat.pow_succ,Nat.mul_comm]
    have e1:(c.toNat:Int).tmod 128=((c.toNat % 128:Nat):Int):=rfl;have o:((ah (c::d)).drop (1:Int).toNat).take (((ah (c::d)).length:Int).toNat-(1:Int).toNat)=ah d:=by
     rw[dI,aG];simp
    have t:d.length<=p.length:=by simp only[xo] at j;omega
    simp only[lp] at hi;refine ER (bs:=c::d) (k:=0) rfl ?_;refine bf ?_;refine tF.mk (by omega) (by show(1:Int)<=((ah (c::d)).length:Int);rw[aG];simp only[xo];omega) (ac9 _) dM ?_;refine kK.mk (by omega) ?_;refine Fit.to (m:=((a*(c.toNat % 128):Nat):Int)) (by show IntKind.wrap .i64 ((a:Int)*((c.toNat % 128:Nat):Int))=_;rw[<-Int.natCast_mul];exact bP (by omega) (by omega)) ?_;refine Fit.to (m:=((z+a*(c.toNat % 128):Nat):Int)) (by show IntKind.wrap .i64 ((z:Int)+((a*(c.toNat % 128):Nat):Int))=_;rw[<-Int.natCast_add];exact bP (by omega) (by omega)) ?_;refine Fit.to (m:=((a*128:Nat):Int)) (by show IntKind.wrap .i64 ((a:Int)*128)=_;rw[show(a:Int)*128=((a*128:Nat):Int) by rw[Int.natCast_mul];rfl];exact bP (by omega) (by omega)) ?_;have n:¬(c.toNat=0/\0<k)->c.toNat<128->getD p=some (Bh (z+a*(c.toNat % 128)),d):=fun q1 q2=>by
     rw[o6 q2,o6 (by omega)] at hi;rw[<-hi,Nat.mod_eq_of_lt q2,w,Nat.mul_comm]
    refine aF (fun h0=>?_) (fun h0=>?_)
    ·refine aF (fun u=>?_) (fun u=>?_)
     ·refine cD [1000] rfl rfl (j3 (fun q=>[TO.box 95 [.sl q,.bool true]]) o) rfl ⟨0,(d,true),rfl,rfl,AL ?_ t⟩;rw[o6 (by omega),s8 (by omega)] at hi;exact hi.symm
     have n:=n (by omega) (by omega);refine aF (fun x=>?_) (fun x=>s6 (show(c.toNat:Int)<128 by omega) x);refine kK.mk (by omega) ?_;refine aF (fun f=>?_) (fun f=>?_)
     ·have f:((z+a*(c.toNat % 128):Nat):Int).tmod 2=1:=f;rw[show((z+a*(c.toNat % 128):Nat):Int).tmod 2=(((z+a*(c.toNat % 128)) % 2:Nat):Int) from rfl] at f;refine bf ?_;refine Fit.to (m:=-(((z+a*(c.toNat % 128):Nat):Int)+1)) (by rw[bP (by omega) (by omega)];omega) ?_;refine kK.mk (by omega) ?_;refine Fit.to (m:=Bh (z+a*(c.toNat % 128))) (by
       rw[Bh,s8 (by omega),Int.neg_tdiv,show(((z+a*(c.toNat % 128):Nat):Int)+1).tdiv 2=(((z+a*(c.toNat % 128)+1) / 2:Nat):Int) from rfl,bP (by omega) (by omega)];omega) ?_
      exact cD [1000] rfl rfl (j3 (fun q=>[TO.box 95 [.sl q,.bool false]]) o) rfl ⟨_,(d,false),rfl,rfl,fun _=>.inl ⟨_,n,rfl⟩,fun q=>(by cases q)⟩
     ·have f:¬((z+a*(c.toNat % 128):Nat):Int).tmod 2=1:=f;rw[show((z+a*(c.toNat % 128):Nat):Int).tmod 2=(((z+a*(c.toNat % 128)) % 2:Nat):Int) from rfl] at f;refine kK.mk (by omega) ?_;refine Fit.to (m:=Bh (z+a*(c.toNat % 128))) (by
       rw[Bh,o6 (by omega),show(((z+a*(c.toNat % 128):Nat):Int)).tdiv 2=(((z+a*(c.toNat % 128)) / 2:Nat):Int) from rfl,bP (by omega) (by omega)]) ?_
      exact cD [1000] rfl rfl (j3 (fun q=>[TO.box 95 [.sl q,.bool false]]) o) rfl ⟨_,(d,false),rfl,rfl,fun _=>.inl ⟨_,n,rfl⟩,fun q=>(by cases q)⟩
    ·have h0:¬(c.toNat:Int)=0:=h0;refine aF (fun x=>?_) (fun x=>?_)
     ·have n:=n (by omega) (by omega);refine kK.mk (by omega) ?_;refine aF (fun f=>?_) (fun f=>?_)
      ·have f:((z+a*(c.toNat % 128):Nat):Int).tmod 2=1:=f;rw[show((z+a*(c.toNat % 128):Nat):Int).tmod 2=(((z+a*(c.toNat % 128)) % 2:Nat):Int) from rfl] at f;refine bf ?_;refine Fit.to (m:=-(((z+a*(c.toNat % 128):Nat):Int)+1)) (by rw[bP (by omega) (by omega)];omega) ?_;refine kK.mk (by omega) ?_;refine Fit.to (m:=Bh (z+a*(c.toNat % 128))) (by
        rw[Bh,s8 (by omega),Int.neg_tdiv,show(((z+a*(c.toNat % 128):Nat):Int)+1).tdiv 2=(((z+a*(c.toNat % 128)+1) / 2:Nat):Int) from rfl,bP (by omega) (by omega)];omega) ?_
       exact cD [1000] rfl rfl (j3 (fun q=>[TO.box 95 [.sl q,.bool false]]) o) rfl ⟨_,(d,false),rfl,rfl,fun _=>.inl ⟨_,n,rfl⟩,fun q=>(by cases q)⟩
      ·have f:¬((z+a*(c.toNat % 128):Nat):Int).tmod 2=1:=f;rw[show((z+a*(c.toNat % 128):Nat):Int).tmod 2=(((z+a*(c.toNat % 128)) % 2:Nat):Int) from rfl] at f;refine kK.mk (by omega) ?_;refine Fit.to (m:=Bh (z+a*(c.toNat % 128))) (by
        rw[Bh,o6 (by omega),show(((z+a*(c.toNat % 128):Nat):Int)).tdiv 2=(((z+a*(c.toNat % 128)) / 2:Nat):Int) from rfl,bP (by omega) (by omega)]) ?_
       exact cD [1000] rfl rfl (j3 (fun q=>[TO.box 95 [.sl q,.bool false]]) o) rfl ⟨_,(d,false),rfl,rfl,fun _=>.inl ⟨_,n,rfl⟩,fun q=>(by cases q)⟩
     ·have hc:¬c.toNat<128:=by have:¬(c.toNat:Int)<128:=x;omega
      rw[s8 hc] at hi;refine bf ?_;refine⟨(k+1,(z+a*(c.toNat % 128),a*128,d)),⟨by omega,⟨?_,ae,by simp only[xo] at j;simp only;omega⟩,(Nat.mul_comm a 128).trans v.symm⟩,⟨aR,af rfl,af rfl,trivial⟩,⟨.inl ⟨_,rfl,.inl ⟨j3 (fun q=>TO.box 95 [.sl q,.bool false]) o,rfl⟩⟩,trivial⟩,aS ad⟩;simp only;rw[<-hi,show 6-(k+1)=m by omega,w,show c.toNat % 128=c.toNat-128 by omega,Nat.mul_comm (128 ^ k)]
  ·refine cD [1000] rfl rfl rfl rfl ⟨0,(e,true),rfl,rfl,AL ?_ (by omega)⟩;have:6-k=0:=by omega
   rw[this] at hi;exact hi.symm
theorem Oi {s t:WS}{x:Int}(h:uT s x t):jf kW.num (fun _=>1) s x t:=by
 obtain⟨p,b⟩:=s;cases b with
 | true =>
  obtain⟨rfl,rfl⟩:=h.2 rfl;exact⟨ac4 _,fun q=>(by cases q),fun y r c _=>(by cases c)⟩
 | false =>
  rcases h.1 rfl with⟨r,e,rfl⟩ | ⟨e,rfl,l,f⟩
  ·have j:p=bN (zz x)++r:=DH e;have m:=jU (zz x);have k:r.length+1<=p.length:=by rw[show p.length=_ from j3 List.length j,yo];omega
   refine⟨by simp only;omega,fun _=>⟨rfl,by simp only;omega⟩,fun y d c a=>?_⟩;injection c with c
   have a:(decide (-1099511627776<=y)&&decide (y<=1099511627776))=true:=a;simp only[acR,ado] at a;have:=ju y d a.1 a.2;rw[<-show p=bN (zz y)++d from c,e] at this;injection this with this
   injection this with q1 q2
   exact⟨q1,by rw[q2]⟩
  ·refine⟨f,fun q=>(by rw[l] at q;cases q),fun y d c a=>?_⟩;injection c with c
   have a:(decide (-1099511627776<=y)&&decide (y<=1099511627776))=true:=a;simp only[acR,ado] at a;have:=ju y d a.1 a.2;rw[<-show p=bN (zz y)++d from c,e] at this;cases this
theorem Hu {f:Nat}{args:List C}{Lin:List TO}{R R':List TO->C->Prop}(h:CallsT PZ f args Lin R) (k:∀Mo c,R Mo c->R' Mo c):CallsT PZ f args Lin R' :=
 ((h.toX (Pp:=fun _=>False)).imp (Pp':=fun _=>False) k fun _ h=>h).noPan
theorem yS:DV 39 [.own 1000 0] kW.num (fun _=>1) IC:=fun s hb =>
 Hu (X4 s hb) fun Mo v ⟨x,t,a,b,c⟩=>⟨x,t,a,b,Oi c⟩
theorem jf.pair {b a:Type}{l:b->Enc}{d:a->Enc}{n:b->Nat}{q:a->Nat}{s m o:WS}{x:b}{y:a}(h:jf l n s x m) (k:jf d q m y o) :
  jf (fun p:b×a=>br (l p.1) (d p.2)) (fun p=>n p.1+q p.2+1) s (x,y) o:=by
 refine⟨acO k.le h.le,fun u=>?_,fun p r t z=>?_⟩
 ·obtain⟨v,j⟩:=k.ok u;obtain⟨w,f⟩:=h.ok v;exact⟨w,by simp only;omega⟩
 ·obtain⟨c,e⟩:=eL.1 z;obtain⟨rfl,f⟩:=h.code p.1 ((d p.2).1++r) (by rw[t,gq,acM]) c;obtain⟨rfl,j⟩:=k.code p.2 r f e;exact⟨rfl,j⟩
theorem jf.map {a c:Type}{e:a->Enc}{b:a->Nat}{e':c->Enc}{b':c->Nat}{s s':WS}{x:a}(f:a->c) (fi:c->a) (h:jf e b s x s') (n:∀y,e' y=e (fi y)) (o:∀y,f (fi y)=y) (hb:b' (f x)<=b x):jf e' b' s (f x) s':=by
 refine⟨h.le,fun m=>?_,fun y r l k=>?_⟩
 ·obtain⟨d,j⟩:=h.ok m;exact⟨d,by omega⟩
 ·rw[n] at l k;obtain⟨d,j⟩:=h.code (fi y) r l k;exact⟨by rw[d,o],j⟩
theorem jf.bad {a:Type}{e:a->Enc}{b:a->Nat}{s s':WS}{x:a}(h:jf e b s x s') (c:s.2=true):s'.2=true:=by
 cases e:s'.2 with
 | true=>rfl
 | false=>have:=(h.ok e).1;rw[c] at this;cases this
theorem rj (a:Nat) {d:Type}{f:Nat}{args b:List C}{e:d->Enc}{bulk:d->Nat}{cell:d->C}{L:TL}{ρ:bg}{K:TL->bg->C->Prop}(s:WS) (h:DV f b e bulk cell) (hb:s.1.length<=Bs) (j:L.sub [a]=some (RR s))
  (p:(T.bR [a]&&T.lN L [a] [a]&&aY (RR s) [a] [a])=true) (o:(args.map fun c=>c.abk.ren (cn [a] 1000))=b)
  (k:∀x s',jf e bulk s x s'->Wf (cell x)->K ((L.aa7 [a]).puts [a] (RR s')) ρ ((cell x).ren (bF [a])).slt):nA PZ f args L ρ K:=by
 refine cO [a] (h s hb) j p o rfl ?_;rintro v Mo ⟨x,s',rfl,rfl,m⟩ n l;refine⟨rfl,?_⟩;rw[show rowsOf L [a]=[] from Jm j];exact k x s' m n
theorem Yu (a:Nat) {d:Type}{PS:qX}{l:List Nat}{f:Nat}{args b:List C}{e:d->Enc}{bulk:d->Nat}{cell:d->C}{L:TL}{ρ:bg}{K:TL->bg->C->Prop}(s:WS) (h:DV f b e bulk cell) (hb:s.1.length<=Bs) (j:L.sub [a]=some (RR s))
  (r:(T.bR [a]&&wY [a] l&&aY (RR s) [a] [a])=true) (p:(args.map fun c=>c.abk.ren (cn [a] 1000))=b)
  (k:∀x s',jf e bulk s x s'->Wf (cell x)->K ((L.aa7 [a]).puts [a] (RR s')) ρ ((cell x).ren (bF [a])).slt) (q:mF L [a] PS.hb=true:=by rfl):nH PZ PS l f args L ρ K:=by
 refine cS [a] ((h s hb).toX (Pp:=fun _=>False)) j r p rfl (fun v h=>h.elim) ?_ q;rintro v Mo ⟨x,s',rfl,rfl,n⟩ o m;refine⟨rfl,?_⟩;rw[show rowsOf L [a]=[] from Jm j];exact k x s' n o
structure Kq (s:WS) (n:Nat) (s':WS):Prop where
 le:s'.1.length<=s.1.length
 nm:n<=100000
 nl:n<=s'.1.length\/n=0
 z:s'.2=true->n=0
 ok:s'.2=false->s.2=false/\2+2*s'.1.length<=2*s.1.length
 code:∀(y:Nat) r,s=((kW.num y).1++r,false)->(kW.num y).2=true->y<=100000->y<=r.length->n=y/\s'=(r,false)
def TM (s:WS):List TO->C->Prop:=fun Mo v=>∃(n:Nat) (s':WS),Mo=RR s'/\v=IC n/\Kq s n s'
theorem Kq.bad {s s':WS}{n:Nat}(h:Kq s n s') (a:s.2=true):s'.2=true/\n=0:=by
 have:s'.2=true:=by
  cases e:s'.2 with
  | true=>rfl
  | false=>have:=(h.ok e).1;rw[a] at this;cases this
 exact⟨this,h.z this⟩
theorem Ot (a:Nat) {f:Nat}{args b:List C}{L:TL}{ρ:bg}{K:TL->bg->C->Prop}(s:WS) (h:∀s:WS,s.1.length<=Bs->CallsT PZ f b (RR s) (TM s)) (hb:s.1.length<=Bs) (d:L.sub [a]=some (RR s))
  (m:(T.bR [a]&&T.lN L [a] [a]&&aY (RR s) [a] [a])=true) (l:(args.map fun c=>c.abk.ren (cn [a] 1000))=b)
  (k:∀(n:Nat) (s':WS),Kq s n s'->K ((L.aa7 [a]).puts [a] (RR s')) ρ (IC n)):nA PZ f args L ρ K:=by
 refine cO [a] (h s hb) d m l rfl ?_;rintro v Mo ⟨x,s',rfl,rfl,j⟩ o e;refine⟨rfl,?_⟩;rw[show rowsOf L [a]=[] from Jm d];exact k x s' j
theorem AO {s s':WS}{n:Int}{r:List UInt8}(h:jf kW.num (fun _=>1) s n s') (e:s'.1=r) (hb:s'.2=false->n<0\/100000<n\/(s'.1.length:Int)<n):Kq s 0 (r,true):=by
 subst e;refine⟨h.le,by omega,.inr rfl,fun _=>rfl,fun q=>(by cases q),fun y r c d j f=>?_⟩;obtain⟨a,b⟩:=h.code y r c d;subst a b;have hb:(y:Int)<0\/100000<(y:Int)\/(r.length:Int)<(y:Int):=hb rfl;omega
theorem Ov:∀s:WS,s.1.length<=Bs->CallsT PZ 37 [.own 1000 0] (RR s) (TM s):=by
 intro s hb;refine au Tryz.func37 Qa rfl fun w v=>?_;refine rj 1000 s yS hb rfl rfl rfl fun n b a _=>?_;have p:b.1.length<=Bs:=acO a.le hb;refine aF (fun o=>?_) (fun o=>?_)
 ·exact cD [1000] rfl rfl rfl rfl ⟨0,(b.1,true),rfl,rfl,AO a rfl fun _=>.inl o⟩
 refine aF (fun j=>?_) (fun j=>?_)
 ·exact cD [1000] rfl rfl rfl rfl ⟨0,(b.1,true),rfl,rfl,AO a rfl fun _=>.inr (.inl j)⟩
 refine aF (fun d=>?_) (fun d=>?_)
 ·exact cD [1000] rfl rfl rfl rfl ⟨0,(b.1,true),rfl,rfl,AO a rfl fun _=>.inr (.inr (by rw[aG] at d;exact d))⟩
 refine aj (fun c=>?_) (fun c=>?_)
 ·refine cD [1000] rfl rfl rfl rfl ⟨0,b,rfl,rfl,a.le,by omega,.inr rfl,fun _=>rfl,fun q=>?_,fun y r f h u t=>?_⟩
  ·rw[q] at c;cases c
  ·obtain⟨_,e⟩:=a.code y r f h;rw[e] at c;cases c
 ·obtain⟨m,rfl⟩:∃m:Nat,n=m:=Int.eq_ofNat_of_zero_le (by omega);have d:¬((ah b.1).length:Int)<(m:Int):=d;rw[aG] at d;refine cD [1000] rfl rfl rfl rfl ⟨m,b,rfl,rfl,a.le,by omega,.inl (by omega),fun q=>?_,fun q=>?_,fun y r f h u t=>?_⟩
  ·rw[c] at q;cases q
  ·obtain⟨l,k⟩:=a.ok q;exact⟨l,by omega⟩
  ·obtain⟨l,k⟩:=a.code y r f h;exact⟨by omega,k⟩
theorem R4 {s a:WS}{n:Int}(h:jf kW.num (fun _=>1) s n a):jf (iS kW) (fun _=>1) s (decide (n=1)) a :=
 h.map (e':=iS kW) (b':=fun _=>1) (fun n=>decide (n=1)) (fun b=>if b=true then 1 else 0) (fun _=>rfl) (fun b=>by cases b<;>rfl) (ac4 _)
theorem Wk:DV 38 [.own 1000 0] (iS kW) (fun _=>1) C.bool:=by
 intro s hb;refine au Tryz.func38 Qb rfl fun d c=>?_;refine rj 1000 s yS hb rfl rfl rfl fun n b a _=>?_;exact cD [1000] rfl rfl rfl rfl ⟨decide (n=1),b,rfl,rfl,R4 a⟩
theorem tZ {els:List (List C)}{c:List C}{sz a:Nat}{K:Prop}(n:Nat) (e:c.length=sz) (d:els.length=n) (hb:a<=1024) (h:n<=2 ^ 30) (k:K):uE els [c] sz a K :=
 ⟨fun es b=>(by rcases acQ.1 b with rfl | b;exact e;cases b),by rw[d];simp only[xo,acV,maxLen];omega,by
  rw[d];simp only[xo,acV]
  calc (n+(0+1))*a<=(n+1)*1024:=Nat.mul_le_mul_left _ hb
   _<=140737488355328:=by omega,k⟩
structure tK {α:Type}(e:α->Enc) (g:α->G) (s:WS) (n k:Nat) (a:List α) (t:WS):Prop where
 ak:a.length=k
 le:t.1.length<=s.1.length
 ok:t.2=false->s.2=false/\G.aaL (a.map g)+2+2*t.1.length<=2*s.1.length
 code:∀ys r,s=((bI kW e ys).1++r,false)->(bI kW e ys).2=true->n=ys.length/\t.2=false/\∃zs,ys=a++zs/\t.1=(aL e zs).1++r/\(aL e zs).2=true
abbrev aci {a:Type}(e:a->Enc):Prop:=∀y,1<=(e y).1.length
theorem uc {c:Type}{e:c->Enc}{g:c->G}{s s':WS}{n:Nat}(m:aci e) (h:Kq s n s'):tK e g s n 0 [] s':=by
 refine⟨rfl,h.le,fun k=>?_,fun ys r b f=>?_⟩
 ·obtain⟨a,o⟩:=h.ok k;exact⟨a,by simp only[adA,G.aaL];omega⟩
 ·obtain⟨a,l⟩:=eL.1 f;have q:(ys.length:Int)<=100000:=ada a;have j:(bI kW e ys).1=(kW.num (ys.length:Int)).1++(aL e ys).1:=rfl;rw[j,acM] at b;have p:=yM m ys;obtain⟨rfl,d⟩:=h.code ys.length _ b (Hr (by omega) (by omega)) (by omega) (by rw[yo];omega);rw[d];exact⟨rfl,rfl,ys,rfl,rfl,l⟩
theorem ud {d:Type}{e:d->Enc}{g:d->G}{s t m:WS}{n k:Nat}{a:List d}{x:d}(h:tK e g s n k a t) (hk:k<n) (j:jf e (fun x=>(g x).bulk) t x m):tK e g s n (k+1) (a++[x]) m:=by
 refine⟨by simp[h.ak],acO j.le h.le,fun w=>?_,fun ys r p hc=>?_⟩
 ·obtain⟨c,f⟩:=j.ok w;obtain⟨b,l⟩:=h.ok c;refine⟨b,?_⟩;rw[adm,Hs];simp only[acU,adA,G.aaL];omega
 ·obtain⟨c,f,zs,b,l,y⟩:=h.code ys r p hc;have v:=h.ak;cases zs with
  | nil =>
   exfalso;rw[acT] at b;rw[b] at c;omega
  | cons z zs =>
   obtain⟨q1,u⟩:=eL.1 y;have q:(aL e (z::zs)).1=(e z).1++(aL e zs).1:=rfl;obtain⟨rfl,o⟩:=j.code z ((aL e zs).1++r) (by
    obtain⟨t1,t2⟩:=t;simp only at f l;rw[f,l,q,acM]) q1
   rw[o];exact⟨c,rfl,zs,by rw[b];simp,rfl,u⟩
theorem eU {d:Type}{e:d->Enc}{g:d->G}{s t:WS}{n k sz:Nat}{a:List d}(h:tK e g s n k a t) (b:¬k<n\/t.2=true):jf (bI kW e) (fun l=>(G.sl sz (l.map g)).bulk) s a t:=by
 refine⟨h.le,fun p=>?_,fun ys r o q=>?_⟩
 ·obtain⟨m,c⟩:=h.ok p;exact⟨m,by simp only[G.bulk];omega⟩
 ·obtain⟨m,c,zs,f,j,w⟩:=h.code ys r o q;rcases b with b | b
  ·have u:zs=[]:=by
    have:=j3 List.length f;rw[yo,h.ak] at this;exact ade (by omega)
   subst u;rw[acT] at f;refine⟨f.symm,?_⟩;obtain⟨x,v⟩:=t;simp only at c j;rw[c,j];rfl
  ·rw[c] at b;cases b
def X5 {a:Type}(key t sz:Nat) (cell:a->List C) (q:List a×WS):TL:=[(key,.row t sz (q.1.map cell)),(1000,.box 95 [.sl (ah q.2.1),.bool q.2.2])]
theorem X6 {s a:WS}{n:Int}(h:jf kW.num (fun _=>1) s n a):jf kW.num (fun x=>(I x).bulk) s n a:=h.map (b':=fun x=>(I x).bulk) (fun n=>n) (fun n=>n) (fun y=>rfl) (fun _=>rfl) (ac4 _)
theorem Yv:DV 86 [.own 1000 0] (bI kW kW.num) (fun l=>(G.sl 1 (l.map I)).bulk) (fun l=>.sl (oO l)):=by
 intro s hb;refine au Tryz.func86 QL rfl fun v u=>?_;refine Ot 1000 s Ov hb rfl rfl rfl fun n j e=>?_;have r:=e.nm;refine aP n 5 [3] (([],j):List Int×WS) (fun _=>[.rw 24]) (fun q=>X5 24 3 1 (fun n=>[IC n]) q) (fun k q=>tK kW.num I s n k q.1 q.2) (uc qI e) (af rfl) ⟨jK rfl rfl,trivial⟩
  ⟨.inr ⟨rfl,3,1,rfl⟩,bJ,trivial⟩ ?_
 rintro k ⟨a,t⟩ p b _ _ _;simp only at b;have d:=b.ak;refine aF (fun c=>?_) (fun h=>?_)
 ·have c:k<n:=by omega
  refine aj (fun ok=>?_) (fun bad=>?_)
  ·refine rj 1000 t yS (acO b.le hb) rfl rfl rfl fun x m o _=>?_;refine tZ k rfl (by simpa using d) (by omega) (by omega) ?_;refine bf ?_;refine⟨(k+1,(a++[x],m)),⟨by omega,ud b c (X6 o)⟩,⟨aR,⟨af rfl,trivial⟩⟩,⟨.inl ⟨_,rfl,.inl ⟨?_,rfl⟩⟩,bJ,trivial⟩,aS c⟩;exact j3 (TO.row 3 1) (adm (f:=fun n=>[IC n]) (l₁:=a) (l₂:=[x])).symm
  ·refine nB [24] [1000] ⟨_,_,rfl,rfl,rfl,?_⟩;exact⟨a,t,rfl,rfl,eU b (.inr (by simpa using bad))⟩
 ·refine nB [24] [1000] ⟨_,_,rfl,rfl,rfl,?_⟩;exact⟨a,t,rfl,rfl,eU b (.inl (by omega))⟩
theorem tK.bad {b:Type}{e:b->Enc}{g:b->G}{s t:WS}{n k:Nat}{a:List b}(h:tK e g s n k a t) (c:s.2=true):t.2=true:=by
 cases q:t.2 with
 | true=>rfl
 | false=>have:=(h.ok q).1;rw[c] at this;cases this
theorem X7 {m:Int}(a:0<m) (y:Vl):ni kW y m=br (kW.num y.kind) (br (kW.num y.id) (br (kW.num y.var) (br (kW.num y.num) (br (bI kW (fun z=>ni kW z (m-1)) y.fs) (br (iS kW y.ex) (br (bI kW kW.num y.path) (bI kW kW.num y.lns))))))):=by
 have:sj (decide (0<m)||false)=wJ:=by rw[adE a];rfl
 rw[Og,this,mB];simp only[aL,jv,nk,mB]
theorem VS {m:Int}(hm:0<m) {s o t u r j n h k:WS}{a b c d:Int}{f:List Vl}{e:Bool}{p l:List Int}(g1:jf kW.num (fun _=>1) s a o) (g2:jf kW.num (fun _=>1) o b t) (g3:jf kW.num (fun _=>1) t c u) (w:jf kW.num (fun _=>1) u d r)
  (g5:jf (bI kW (fun z=>ni kW z (m-1))) (fun l=>(G.sl 8 (l.map nC)).bulk) r f j) (g6:jf (iS kW) (fun _=>1) j e n) (g7:jf (bI kW kW.num) (fun l=>(G.sl 1 (l.map I)).bulk) n p h) (g8:jf (bI kW kW.num) (fun l=>(G.sl 1 (l.map I)).bulk) h l k) :
  jf (fun v=>ni kW v m) (fun v=>(nC v).bulk) s (.mk a b c d f e p l) k :=
 (g1.pair (g2.pair (g3.pair (w.pair (g5.pair (g6.pair (g7.pair g8))))))).map (e':=fun v=>ni kW v m) (b':=fun v=>(nC v).bulk) (fun q=>Vl.mk q.1 q.2.1 q.2.2.1 q.2.2.2.1 q.2.2.2.2.1 q.2.2.2.2.2.1 q.2.2.2.2.2.2.1 q.2.2.2.2.2.2.2) (fun x=>(x.kind,x.id,x.var,x.num,x.fs,x.ex,x.path,x.lns))
  (fun y=>X7 hm y) (fun y=>by cases y;rfl) (by rw[TJ];simp only[Vl.fs,Vl.path,Vl.lns];omega)
theorem R5 {m:Int}(b:m<1) {s t:WS}{x:Vl}(h:t.1.length<=s.1.length) (hb:t.2=true):jf (fun v=>ni kW v m) (fun v=>(nC v).bulk) s x t :=
 ⟨h,fun q=>(by rw[hb] at q;cases q),fun y r _ a=>by
  have a:(ni kW y m).2=true:=a;rw[Og] at a;have:=(eL.1 a).1;rw[show sj (decide (0<m)||false)=([],false) by rw[adD (by omega)];rfl] at this;cases this⟩
theorem VT {s k o q n h j f:WS}{a b c d e:Int}{l:List Vl}{m:List Int}(u:jf kW.num (fun _=>1) s a k) (t:jf kW.num (fun _=>1) k b o) (z:jf kW.num (fun _=>1) o c q) (r:jf kW.num (fun _=>1) q d n) (w:jf kW.num (fun _=>1) n e h)
  (g6:jf (GU kW) (fun l=>(vW l).bulk) h l j) (v:jf (bI kW kW.num) (fun l=>(G.sl 1 (l.map I)).bulk) j m f):jf (Fq kW) (fun x=>(yO x).bulk) s ⟨a,b,c,d,e,l,m⟩ f :=
 (u.pair (t.pair (z.pair (r.pair (w.pair (g6.pair v)))))).map (e':=Fq kW) (b':=fun x=>(yO x).bulk) (fun p=>(⟨p.1,p.2.1,p.2.2.1,p.2.2.2.1,p.2.2.2.2.1,p.2.2.2.2.2.1,p.2.2.2.2.2.2⟩:Ac)) (fun x=>(x.number,x.routine,x.block,x.index,x.dst,x.slots,x.since))
  (fun y=>by simp only[Fq,aL,jv,nk,mB]) (fun _=>rfl) (by simp only[yO,G.bulk,G.aaL];omega)
theorem VU {s h k l j f:WS}{a b:Int}{c d e:Bool}(o:jf kW.num (fun _=>1) s a h) (n:jf kW.num (fun _=>1) h b k) (r:jf (iS kW) (fun _=>1) k c l) (m:jf (iS kW) (fun _=>1) l d j) (q:jf (iS kW) (fun _=>1) j e f):jf (Fs kW) (fun x=>(DK x).bulk) s ⟨a,b,c,d,e⟩ f :=
 (o.pair (n.pair (r.pair (m.pair q)))).map (e':=Fs kW) (b':=fun x=>(DK x).bulk) (fun p=>(⟨p.1,p.2.1,p.2.2.1,p.2.2.2.1,p.2.2.2.2⟩:Ln)) (fun x=>(x.frame,x.slot,x.excl,x.re,x.over))
  (fun y=>by simp only[Fs,aL,jv,nk,mB]) (fun _=>rfl) (by simp only[DK,G.bulk,G.aaL];omega)
theorem VW {s k o q n h j b:WS}{a c d e:Int}{f:List Ac}{l:List Ln}{m:List Int}(u:jf kW.num (fun _=>1) s a k) (t:jf (bI kW (Fq kW)) (fun l=>(G.sl 7 (l.map yO)).bulk) k f o) (z:jf (bI kW (Fs kW)) (fun l=>(G.sl 5 (l.map DK)).bulk) o l q)
  (r:jf kW.num (fun _=>1) q c n) (w:jf kW.num (fun _=>1) n d h) (g6:jf kW.num (fun _=>1) h e j) (v:jf (bI kW kW.num) (fun l=>(G.sl 1 (l.map I)).bulk) j m b):jf (Du kW) (fun x=>(wP x).bulk) s ⟨a,f,l,c,d,e,m⟩ b :=
 (u.pair (t.pair (z.pair (r.pair (w.pair (g6.pair v)))))).map (e':=Du kW) (b':=fun x=>(wP x).bulk) (fun p=>(⟨p.1,p.2.1,p.2.2.1,p.2.2.2.1,p.2.2.2.2.1,p.2.2.2.2.2.1,p.2.2.2.2.2.2⟩:Tk)) (fun x=>(x.state,x.frames,x.loans,x.allocs,x.clock,x.next,x.cells))
  (fun y=>by simp only[Du,aL,jv,nk,mB]) (fun _=>rfl) (by simp only[wP,G.bulk,G.aaL];omega)
def QV (a b c d:Int) (q:List Vl×WS):TL:=[(47,.row 61 8 (q.1.map mS)),(1000,.box 95 [.sl (ah q.2.1),.bool q.2.2]),(5,.box 61 [IC a,IC b,IC c,IC d,.rw 47,.bool false,.nils,.nils]),(4,.box 61 [IC 0,IC 0,IC 0,IC 0,.nils,.bool false,.nils,.nils])]
set_option maxHeartbeats 1000000 in
theorem X8:∀(d:Nat) (m:Int),m.toNat=d->DV 40 [.own 1000 0,IC m] (fun v=>ni kW v m) (fun v=>(nC v).bulk) DY
 | 0,m,hm=>by
  intro s bs;refine au Tryz.func40 H6 rfl fun hw ho=>?_;refine aF (fun h=>?_) (fun h=>s6 (show m<1 by omega) h);exact cD [1000] rfl rfl rfl rfl ⟨.mk 0 0 0 0 [] false [] [],(s.1,true),rfl,rfl,R5 h (ac4 _) rfl⟩
 | d+1,m,hm=>by
  have ih:=X8 d (m-1) (by omega);intro s bs;refine au Tryz.func40 H6 rfl fun hw ho=>?_;have bA:m<=9223372036854775807:=(WI hw.2.1).2;refine aF (fun h=>s6 h (show¬m<1 by omega)) (fun h=>?_);have ax:0<m:=by omega
  refine rj 1000 s yS bs rfl rfl rfl fun a s1 ap _=>?_;have am:=acO ap.le bs;refine rj 1000 s1 yS am rfl rfl rfl fun b s2 y _=>?_;have aa:=acO y.le am;refine rj 1000 s2 yS aa rfl rfl rfl fun c s3 ae _=>?_;have ag:=acO ae.le aa;refine rj 1000 s3 yS ag rfl rfl rfl fun e s4 ac _=>?_;have j:=acO ac.le ag;refine Ot 1000 s4 Ov j rfl rfl rfl fun n s5 r=>?_;have bx:=acO r.le j;have mn:=r.nm;refine aP n 7 [] (([],s5):List Vl×WS) (fun _=>[]) (fun q=>QV a b c e q) (fun k q=>tK (fun z=>ni kW z (m-1)) nC s4 n k q.1 q.2) (uc (fun x=>DI x _) r) (af rfl) trivial
   ⟨.inr ⟨rfl,61,8,rfl⟩,bJ,.inl ⟨_,rfl,.inr ⟨61,_,_,rfl,rfl,_,_,rfl,af rfl,_,_,rfl,af rfl,_,_,rfl,af rfl,_,_,rfl,af rfl,_,_,rfl,jK rfl rfl,_,_,rfl,af rfl,_,_,rfl,af rfl,_,_,rfl,af rfl,rfl⟩⟩,bJ,trivial⟩ ?_
  rintro kn ⟨an,tn⟩ be f _ _ _;simp only at f;have az:=f.ak;have o:tn.1.length<=Bs:=acO f.le j;refine aF (fun t=>?_) (fun bp=>?_)
  rotate_left
  have ar:=eU (sz:=8) f (.inl (by omega))
  rotate_left
  have t:kn<n:=by omega
  refine aj (fun bm=>?_) (fun aw=>?_)
  ·skip
   refine bf ?_;refine Yu 1000 tn ih o rfl rfl rfl fun x u hx _=>?_;refine tZ kn rfl (by simpa using az) (by omega) (by omega) ?_;refine bf ?_;refine⟨(kn+1,(an++[x],u)),⟨by omega,ud f t (hx)⟩,⟨aR,trivial⟩,⟨.inl ⟨_,rfl,.inl ⟨?_,rfl⟩⟩,bJ,bJ,bJ,trivial⟩,aS t⟩;exact j3 (TO.row 61 8) (by rw[adm,List.map_singleton,I7];rfl)
  have ar:=eU (sz:=8) f (.inr (show tn.2=true by simpa using aw))
  all_goals
   refine rj 1000 tn Wk o rfl rfl rfl fun v u1 w _=>?_;have ab:=acO w.le o;refine rj 1000 u1 Yv ab rfl rfl rfl fun p u2 al _=>?_;have ad:=acO al.le ab;refine rj 1000 u2 Yv ad rfl rfl rfl fun l u3 ao _=>?_;have bt:=acO ao.le ad;refine nB [47] [1000] ⟨_,_,rfl,rfl,rfl,?_⟩;exact⟨.mk a b c e an v p l,u3,rfl,rfl,VS ax ap y ae ac ar w al ao⟩
theorem q40:DV 40 [.own 1000 0,IC 60] (oQ kW) (fun v=>(nC v).bulk) DY:=X8 60 60 rfl
theorem q42:DV 42 [.own 1000 0] (GU kW) (fun l=>(vW l).bulk) (fun l=>.sl (l.map mS)):=by
 intro s bs;refine au Tryz.func42 Qd rfl fun hw z=>?_;refine Ot 1000 s Ov bs rfl rfl rfl fun n t c=>?_;have y:=acO c.le bs;have mn:=c.nm;refine aP n 5 [3] (([],t):List Vl×WS) (fun _=>[.rw 24]) (fun q=>X5 24 61 8 mS q) (fun k q=>tK (oQ kW) nC s n k q.1 q.2) (uc FO c) (af rfl) ⟨jK rfl rfl,trivial⟩
  ⟨.inr ⟨rfl,61,8,rfl⟩,bJ,trivial⟩ ?_
 rintro h ⟨o,f⟩ r a _ _ _;simp only at a;have j:=a.ak;have d:f.1.length<=Bs:=acO a.le bs;refine aF (fun b=>?_) (fun w=>?_)
 rotate_left
 have e:=eU (sz:=8) a (.inl (by omega))
 rotate_left
 have b:h<n:=by omega
 refine aj (fun v=>?_) (fun m=>?_)
 ·skip
  refine rj 1000 f q40 d rfl rfl rfl fun x u p _=>?_;have bu:=acO p.le d;refine tZ h rfl (by simpa using j) (by omega) (by omega) ?_;refine bf ?_;refine⟨(h+1,(o++[x],u)),⟨by omega,ud a b (p)⟩,⟨aR,⟨af rfl,trivial⟩⟩,⟨.inl ⟨_,rfl,.inl ⟨?_,rfl⟩⟩,bJ,trivial⟩,aS b⟩;exact j3 (TO.row 61 8) (by rw[adm,List.map_singleton,I7];rfl)
 have e:=eU (sz:=8) a (.inr (show f.2=true by simpa using m))
 all_goals
  refine nB [24] [1000] ⟨_,_,rfl,rfl,rfl,?_⟩;exact⟨o,f,rfl,rfl,e⟩
def QA (st:Int) (q:List Ac×WS):TL:=[(51,.row 69 7 (q.1.map yE)),(1000,.box 95 [.sl (ah q.2.1),.bool q.2.2]),(3,.box 67 [IC st,.rw 51,.nils,IC 0,IC 0,IC 0,.nils]),(2,.box 67 [IC 0,.nils,.nils,IC 0,IC 0,IC 0,.nils])]
def QN (st:Int) (z:List Ac) (q:List Ln×WS):TL:=[(86,.row 129 5 (q.1.map F8)),(51,.row 69 7 (z.map yE)),(1000,.box 95 [.sl (ah q.2.1),.bool q.2.2]),(3,.box 67 [IC st,.rw 51,.rw 86,IC 0,IC 0,IC 0,.nils]),(2,.box 67 [IC 0,.nils,.nils,IC 0,IC 0,IC 0,.nils])]
set_option maxHeartbeats 2000000 in
theorem q41:DV 41 [.own 1000 0] (Du kW) (fun x=>(wP x).bulk) (fun x=>.agg (vM x)):=by
 intro s bs;refine au Tryz.func41 Qc rfl fun hw ho=>?_;refine rj 1000 s yS bs rfl rfl rfl fun st s1 bb _=>?_;have j:=acO bb.le bs;refine Ot 1000 s1 Ov j rfl rfl rfl fun n s2 e=>?_;have dB:=acO e.le j;have mn:=e.nm;refine aP n 5 [] (([],s2):List Ac×WS) (fun _=>[]) (fun q=>QA st q) (fun k q=>tK (Fq kW) yO s1 n k q.1 q.2) (uc He e) (af rfl) trivial
  ⟨.inr ⟨rfl,69,7,rfl⟩,bJ,.inl ⟨_,rfl,.inr ⟨67,_,_,rfl,rfl,_,_,rfl,af rfl,_,_,rfl,jK rfl rfl,_,_,rfl,af rfl,_,_,rfl,af rfl,_,_,rfl,af rfl,_,_,rfl,af rfl,_,_,rfl,af rfl,rfl⟩⟩,bJ,trivial⟩ ?_
 rintro kn ⟨an,t⟩ da a _ _ _;simp only at a;have bu:=a.ak;have c:t.1.length<=Bs:=acO a.le j;refine aF (fun o=>?_) (fun cX=>?_)
 rotate_left
 have ab:=eU (sz:=7) a (.inl (by omega))
 rotate_left
 have o:kn<n:=by omega
 refine aj (fun ds=>?_) (fun bA=>?_)
 ·skip
  refine rj 1000 t yS c rfl rfl rfl fun x1 u1 ar _=>?_;have w:=acO ar.le c;refine rj 1000 u1 yS w rfl rfl rfl fun x2 u2 bk _=>?_;have ad:=acO bk.le w;refine rj 1000 u2 yS ad rfl rfl rfl fun x3 u3 ao _=>?_;have bj:=acO ao.le ad;refine rj 1000 u3 yS bj rfl rfl rfl fun x4 u4 ac _=>?_;have ap:=acO ac.le bj;refine rj 1000 u4 yS ap rfl rfl rfl fun x5 u5 y _=>?_;have p:=acO y.le ap;refine rj 1000 u5 q42 p rfl rfl rfl fun x6 u6 ba _=>?_;have ag:=acO ba.le p;refine rj 1000 u6 Yv ag rfl rfl rfl fun x7 u7 ax _=>?_;have df:=acO ax.le ag;refine tZ kn rfl (by simpa using bu) (by omega) (by omega) ?_;refine bf ?_;refine⟨(kn+1,(an++[⟨x1,x2,x3,x4,x5,x6,x7⟩],u7)),⟨by omega,ud a o (VT ar bk ao ac y ba ax)⟩,⟨aR,trivial⟩,⟨.inl ⟨_,rfl,.inl ⟨?_,rfl⟩⟩,bJ,bJ,bJ,trivial⟩,aS o⟩;exact j3 (TO.row 69 7) (adm (f:=yE) (l₁:=an) (l₂:=[⟨x1,x2,x3,x4,x5,x6,x7⟩])).symm
 have ab:=eU (sz:=7) a (.inr (show t.2=true by simpa using bA))
 all_goals
  refine Ot 1000 t Ov c rfl rfl rfl fun m v1 l=>?_;have cz:=acO l.le c;have mm:=l.nm;refine aP m 7 [] (([],v1):List Ln×WS) (fun _=>[]) (fun q=>QN st an q) (fun k q=>tK (Fs kW) DK t m k q.1 q.2) (uc Hf l) (af rfl) trivial
   ⟨.inr ⟨rfl,129,5,rfl⟩,bJ,bJ,.inl ⟨_,rfl,.inr ⟨67,_,_,rfl,rfl,_,_,rfl,af rfl,_,_,rfl,af rfl,_,_,rfl,jK rfl rfl,_,_,rfl,af rfl,_,_,rfl,af rfl,_,_,rfl,af rfl,_,_,rfl,af rfl,rfl⟩⟩,bJ,trivial⟩ ?_
  rintro km ⟨am,tm⟩ dk b _ _ _;simp only at b;have bv:=b.ak;have d:tm.1.length<=Bs:=acO b.le c;refine aF (fun h=>?_) (fun cy=>?_)
  rotate_left
  have bi:=eU (sz:=5) b (.inl (by omega))
  rotate_left
  have h:km<m:=by omega
  refine aj (fun db=>?_) (fun bz=>?_)
  ·skip
   refine rj 1000 tm yS d rfl rfl rfl fun y1 w1 be _=>?_;have bd:=acO be.le d;refine rj 1000 w1 yS bd rfl rfl rfl fun y2 w2 r _=>?_;have aa:=acO r.le bd;refine rj 1000 w2 Wk aa rfl rfl rfl fun y3 w3 u _=>?_;have z:=acO u.le aa;refine rj 1000 w3 Wk z rfl rfl rfl fun y4 w4 az _=>?_;have ay:=acO az.le z;refine rj 1000 w4 Wk ay rfl rfl rfl fun y5 w5 av _=>?_;have dx:=acO av.le ay;refine tZ km rfl (by simpa using bv) (by omega) (by omega) ?_;refine bf ?_;refine⟨(km+1,(am++[⟨y1,y2,y3,y4,y5⟩],w5)),⟨by omega,ud b h (VU be r u az av)⟩,⟨aR,trivial⟩,⟨.inl ⟨_,rfl,.inl ⟨?_,rfl⟩⟩,bJ,bJ,bJ,bJ,trivial⟩,aS h⟩;exact j3 (TO.row 129 5) (adm (f:=F8) (l₁:=am) (l₂:=[⟨y1,y2,y3,y4,y5⟩])).symm
  have bi:=eU (sz:=5) b (.inr (show tm.2=true by simpa using bz))
  all_goals
   refine rj 1000 tm yS d rfl rfl rfl fun z1 r1 aw _=>?_;have aE:=acO aw.le d;refine rj 1000 r1 yS aE rfl rfl rfl fun z2 r2 v _=>?_;have ae:=acO v.le aE;refine rj 1000 r2 yS ae rfl rfl rfl fun z3 r3 bl _=>?_;have bc:=acO bl.le ae;refine rj 1000 r3 Yv bc rfl rfl rfl fun z4 r4 al _=>?_;have de:=acO al.le bc;refine nB [51,86] [1000] ⟨_,_,rfl,rfl,rfl,?_⟩;exact⟨⟨st,an,am,z1,z2,z3,z4⟩,r4,rfl,rfl,VW bb ab bi aw v bl al⟩
end Go.Fr.Tryz
namespace Go.Fr.Tryz
open Go Go.RowKit Go.Proofs Go.Fr Go.Fr.T Go.Fr.Api Go.Fr.Dm
def xX (x:Wd):Nat:=((G.sl 10 (x.cells.map xK)).bulk+(G.sl 1 (x.arenas.map G.bool)).bulk)+((G.sl 7 (x.tasks.map wP)).bulk+((G.sl 1 (x.channels.map vW)).bulk+((G.sl 2 (x.outputs.map Cz)).bulk+3)))+1
theorem VX (i:uQ) (x:Wd):(yP i x).bulk=(Br i).bulk+xX x+1:=by
 simp only[yP,xX,G.bulk,G.aaL];omega
theorem VY {s e c d:WS}{a:Bool}{b:Int}{v:Vl}(f:jf (iS kW) (fun _=>1) s a e) (j:jf kW.num (fun _=>1) e b c) (h:jf (oQ kW) (fun v=>(nC v).bulk) c v d):jf (Fp kW) (fun x=>(xK x).bulk) s ⟨a,b,v⟩ d :=
 (f.pair (j.pair h)).map (e':=Fp kW) (b':=fun x=>(xK x).bulk) (fun p=>(⟨p.1,p.2.1,p.2.2⟩:Ce)) (fun x=>(x.live,x.arena,x.value)) (fun y=>by simp only[Fp,aL,jv,nk,mB]) (fun _=>rfl) (by simp only[xK,G.bulk,G.aaL];omega)
theorem VZ {s c:WS}{a:Bool}(g:jf (iS kW) (fun _=>1) s a c):jf (Iy kW) (fun x=>(G.bool x).bulk) s a c :=
 g.map (e':=Iy kW) (b':=fun x=>(G.bool x).bulk) (fun b=>b) (fun b=>b) (fun y=>nk _) (fun _=>rfl) (ac4 _)
theorem V0 {s d c:WS}{a b:Int}(e:jf kW.num (fun _=>1) s a d) (f:jf kW.num (fun _=>1) d b c):jf (F9 kW) (fun x=>(Cz x).bulk) s ⟨a,b⟩ c :=
 (e.pair f).map (e':=F9 kW) (b':=fun x=>(Cz x).bulk) (fun p=>(⟨p.1,p.2⟩:Ou)) (fun x=>(x.task,x.number)) (fun y=>by simp only[F9,aL,jv,nk,mB]) (fun _=>rfl) (by simp only[Cz,G.bulk,G.aaL];omega)
theorem V1 {s o r t q h k f j:WS}{a:List Ce}{b:List Bool}{c:List Tk}{d:List (List Vl)}{e:List Ou}{m n p:Int}(z:jf (bI kW (Fp kW)) (fun l=>(G.sl 10 (l.map xK)).bulk) s a o) (w:jf (bI kW (Iy kW)) (fun l=>(G.sl 1 (l.map G.bool)).bulk) o b r) (g3:jf (bI kW (Du kW)) (fun l=>(G.sl 7 (l.map wP)).bulk) r c t)
  (u:jf (bI kW (GU kW)) (fun l=>(G.sl 1 (l.map vW)).bulk) t d q) (g5:jf (bI kW (F9 kW)) (fun l=>(G.sl 2 (l.map Cz)).bulk) q e h) (g6:jf kW.num (fun _=>1) h m k) (g7:jf kW.num (fun _=>1) k n f) (v:jf kW.num (fun _=>1) f p j):jf (mQ kW) xX s ⟨a,b,c,d,e,m,n,p⟩ j :=
 (z.pair (w.pair (g3.pair (u.pair (g5.pair (g6.pair (g7.pair v))))))).map (e':=mQ kW) (b':=xX) (fun p=>(⟨p.1,p.2.1,p.2.2.1,p.2.2.2.1,p.2.2.2.2.1,p.2.2.2.2.2.1,p.2.2.2.2.2.2.1,p.2.2.2.2.2.2.2⟩:Wd)) (fun x=>(x.cells,x.arenas,x.tasks,x.channels,x.outputs,x.made,x.dropped,x.closed))
  (fun y=>by simp only[mQ,aL,jv,nk,mB]) (fun _=>rfl) (by simp only[xX];omega)
theorem V2 {bs:List UInt8}(h:bs.length<7):l9 bs=(none,16):=by unfold l9;rw[o6 (.inl h)]
theorem Hv {bs:List UInt8}(h:¬cB <+: bs):l9 bs=(none,16):=by unfold l9;rw[o6 (.inr h)]
theorem yT {bs:List UInt8}{x y z:UInt8}(f:bs[0]?=some x) (d:bs[1]?=some y) (e:bs[2]?=some z):cB <+: bs↔x.toNat=76/\y.toNat=83/\z.toNat=1:=by
 obtain⟨r,rfl⟩:∃r,bs=x::y::z::r:=by
  match bs,f,d,e with
  | a::b::c::r,f,d,e =>
   simp at f d e;subst f d e;exact⟨r,rfl⟩
 rw[Cy];show([x,y,z]=[76,83,1])↔_;simp only[List.cons.injEq,and_true];constructor
 ·rintro⟨rfl,rfl,rfl⟩;decide
 ·rintro⟨a,b,c⟩;exact⟨UInt8.toNat_inj.1 a,UInt8.toNat_inj.1 b,UInt8.toNat_inj.1 c⟩
theorem FY {bs:List UInt8}:fV (bs.take (bs.length-4))=bs↔l8 (bs.take (bs.length-4))=bs.drop (bs.length-4):=by
 unfold fV;constructor
 ·intro h;have a:bs.take (bs.length-4)++l8 (bs.take (bs.length-4))=bs.take (bs.length-4)++bs.drop (bs.length-4):=by rw[List.take_append_drop];exact h
  exact List.append_cancel_left a
 ·intro h;rw[h,List.take_append_drop]
theorem V3 {bs:List UInt8}(a:¬bs.length<7) (b:cB <+: bs) (h:¬l8 (bs.take (bs.length-4))=bs.drop (bs.length-4)):l9 bs=(none,17):=by
 unfold l9;rw[s8 (fun q=>q.elim a (fun q=>q b)),o6 (fun q=>h (FY.1 q))]
theorem V4 {bs:List UInt8}{x:Wd}{t:WS}(f:¬bs.length<7) (c:cB <+: bs) (l:l8 (bs.take (bs.length-4))=bs.drop (bs.length-4)) (G:jf (mQ kW) xX ((bs.take (bs.length-4)).drop 3,false) x t) (h:t.2=true\/¬kg x=bs):l9 bs=(none,16):=by
 have a:=FY.2 l;unfold l9;rw[s8 (fun q=>q.elim f (fun q=>q c)),s8 (fun q=>q a)];cases e:oH ((bs.take (bs.length-4)).drop 3) with
 | none=>rfl
 | some y =>
  exfalso;obtain⟨d,b⟩:=Tr.rd _ _ _ (FQ.1 e);obtain⟨rfl,j⟩:=G.code y [] (by rw[b]) d;rcases h with h | h
  ·rw[j] at h;cases h
  ·apply h;unfold kg;rw[o6 d];rw[acT] at b;rw[<-b];have k:(bs.take (bs.length-4)).take 3=cB:=by
    rw[List.take_take,Nat.min_eq_left (by omega)];exact Cy.1 c
   rw[<-k,List.take_append_drop];exact a
theorem R6 {bs:List UInt8}{x:Wd}(b:¬bs.length<7) (h:kg x=bs):l9 bs=(some x,0):=by
 have a:=RH (Vq (x:=x) (by rw[h];omega));rw[h] at a;exact a
theorem V5 {a:List UInt8}{x:Wd}{t:WS}(g:jf (mQ kW) xX (a,false) x t) (q:t.2=false) (h:a.length<=1048576):xX x<=2097152:=by
 have:=(g.ok q).2;simp only at this;omega
section
variable (i1 i2:List (List C)) (im:Int)
def D1 (q:List Ce×WS):TL:=[(88,.row 63 10 (q.1.map tY)),(57,.box 95 [.sl (ah q.2.1),.bool q.2.2]),(8,.box 34 [.sl i1,.sl i2,IC im,.rw 88,.nils,.nils,.nils,.nils,IC 0,IC 0,IC 0]),(4,.box 34 [.nils,.nils,IC 0,.nils,.nils,.nils,.nils,.nils,IC 0,IC 0,IC 0])]
def D2 (a:List Ce) (q:List Bool×WS):TL:=[(111,.row 4 1 (q.1.map Af)),(88,.row 63 10 (a.map tY)),(57,.box 95 [.sl (ah q.2.1),.bool q.2.2]),(8,.box 34 [.sl i1,.sl i2,IC im,.rw 88,.rw 111,.nils,.nils,.nils,IC 0,IC 0,IC 0]),(4,.box 34 [.nils,.nils,IC 0,.nils,.nils,.nils,.nils,.nils,IC 0,IC 0,IC 0])]
def D3 (a:List Ce) (b:List Bool) (q:List Tk×WS):TL:=[(133,.row 67 7 (q.1.map vM)),(111,.row 4 1 (b.map Af)),(88,.row 63 10 (a.map tY)),(57,.box 95 [.sl (ah q.2.1),.bool q.2.2]),(8,.box 34 [.sl i1,.sl i2,IC im,.rw 88,.rw 111,.rw 133,.nils,.nils,IC 0,IC 0,IC 0]),(4,.box 34 [.nils,.nils,IC 0,.nils,.nils,.nils,.nils,.nils,IC 0,IC 0,IC 0])]
def D4 (a:List Ce) (b:List Bool) (c:List Tk) (q:List (List Vl)×WS):TL:=[(154,.row 58 1 (q.1.map DX)),(133,.row 67 7 (c.map vM)),(111,.row 4 1 (b.map Af)),(88,.row 63 10 (a.map tY)),(57,.box 95 [.sl (ah q.2.1),.bool q.2.2]),(8,.box 34 [.sl i1,.sl i2,IC im,.rw 88,.rw 111,.rw 133,.rw 154,.nils,IC 0,IC 0,IC 0]),(4,.box 34 [.nils,.nils,IC 0,.nils,.nils,.nils,.nils,.nils,IC 0,IC 0,IC 0])]
def D5 (a:List Ce) (b:List Bool) (c:List Tk) (d:List (List Vl)) (q:List Ou×WS):TL:=[(180,.row 101 2 (q.1.map GR)),(154,.row 58 1 (d.map DX)),(133,.row 67 7 (c.map vM)),(111,.row 4 1 (b.map Af)),(88,.row 63 10 (a.map tY)),(57,.box 95 [.sl (ah q.2.1),.bool q.2.2]),(8,.box 34 [.sl i1,.sl i2,IC im,.rw 88,.rw 111,.rw 133,.rw 154,.rw 180,IC 0,IC 0,IC 0]),(4,.box 34 [.nils,.nils,IC 0,.nils,.nils,.nils,.nils,.nils,IC 0,IC 0,IC 0])]
end
set_option maxHeartbeats 8000000 in
theorem acj (i1 i2:List (List C)) (im:Int) (bs:List UInt8) (hb:bs.length<=1048576) (d:Option Wd×Int) (hd:l9 bs=d) (hE:∀x:Wd,xX x<=2097152->CallsT PZ 15 [.agg (q9 i1 i2 im x)] [] (gL [] (.sl (ah (kg x)))))
  (s4 tl bd:List UInt8) (q0:WS) (es:q0=(bd,false)) (e4:l8 (bs.take (bs.length-4))=s4) (et:bs.drop (bs.length-4)=tl) (eb:(bs.take (bs.length-4)).drop 3=bd) (df:CallsT PZ 24 [.sl (ah (bs.take (bs.length-4)))] [] (gL [] (.sl (ah s4)))) :
  CallsT PZ 11 [.agg [.sl i1,.sl i2,IC im],.sl (ah bs)] [] (gL [] (Ry i1 i2 im d)):=by
 have ab:(ah bs).length=bs.length:=aG;refine au Tryz.func11 PD rfl fun hw ho=>?_;refine bf ?_;refine aF (fun h7=>?_) (fun h7=>?_)
 ·exact aM rfl (by rw[<-hd,V2 (by omega)];rfl)
 have h7:¬bs.length<7:=by omega
 refine yD (show 0<bs.length by omega) fun x0 s _=>?_;refine yD (show 1<bs.length by omega) fun x1 ad _=>?_;refine yD (show 2<bs.length by omega) fun x2 v _=>?_;refine ER (k:=0) s ?_;refine aj (fun bt=>?_) (fun bt=>?_)
 ·exact aM rfl (by rw[<-hd,Hv (fun q=>by have:=(yT s ad v).1 q;have:=lM bt;omega)];rfl)
 refine ER (k:=1) ad ?_;refine aj (fun bo=>?_) (fun bo=>?_)
 ·exact aM rfl (by rw[<-hd,Hv (fun q=>by have:=(yT s ad v).1 q;have:=lM bo;omega)];rfl)
 refine ER (k:=2) v ?_;refine aj (fun bp=>?_) (fun bp=>?_)
 ·exact aM rfl (by rw[<-hd,Hv (fun q=>by have:=(yT s ad v).1 q;have:=lM bp;omega)];rfl)
 have hp:cB <+: bs:=(yT s ad v).2 ⟨by have:=qV bt;omega,by have:=qV bo;omega,by have:=qV bp;omega⟩;have c1:((ah bs).drop 0).take (((ah bs).length-4:Int).toNat-0)=ah (bs.take (bs.length-4)):=by
  rw[dI,ab,show((bs.length:Int)-4).toNat-0=bs.length-4 by omega];rfl
 have c2:((ah bs).drop (((ah bs).length:Int)-4).toNat).take (((ah bs).length:Int).toNat-(((ah bs).length:Int)-4).toNat)=ah tl:=by
  rw[dI,ab,<-et,show((bs.length:Int)-4).toNat=bs.length-4 by omega,adv (by simp)]
 have c3:((ah bs).drop (3:Int).toNat).take (((ah bs).length-4:Int).toNat-(3:Int).toNat)=ah bd:=by
  rw[dI,ab,<-eb,show((bs.length:Int)-4).toNat-(3:Int).toNat=bs.length-4-3 by omega,List.drop_take];rfl
 refine tF.mk (ac9 0) (by omega) (by omega) dM ?_;refine tF.mk (by omega) (by omega) (ac9 _) dM ?_;refine fP.mk ⟨tl,c2,?_⟩;refine cR df (j3 (fun q=>[C.sl q]) c1) fun _=>?_;refine fP.mk ⟨s4,rfl,?_⟩;refine aj (fun h3=>?_) (fun h3=>?_)
 ·exact aM rfl (by rw[<-hd,V3 h7 hp (fun q=>by rw[e4,et] at q;subst q;rw[fL] at h3;simp at h3)];rfl)
 have hs:l8 (bs.take (bs.length-4))=bs.drop (bs.length-4):=by rw[e4,et];rw[fL] at h3;simpa using h3
 refine tF.mk (by decide) (by omega) (by omega) dM ?_;have bA:bd.length<=Bs:=by rw[<-eb];simp only[ads,ac2,Bs];omega
 have w:∀(x:Wd) (t:WS),jf (mQ kW) xX (bd,false) x t->(t.2=true\/¬kg x=bs)->l9 bs=(none,16):=fun x t g q=>V4 h7 hp hs (by rw[eb];exact g) q;have cc:∀(x:Wd) (t:WS),jf (mQ kW) xX (bd,false) x t->t.2=false->xX x<=2097152:=fun x t g q=>V5 g q (by rw[<-eb];simp only[ads,ac2];omega);refine Ot 57 (bd,false) Ov bA (j3 (fun q=>some [TO.box 95 [.sl q,.bool false]]) c3) rfl rfl fun n s1 aw=>?_;have ey:=acO aw.le bA;have mn:=aw.nm;rw[<-es] at aw w cc;have dt:q0.1.length<=Bs:=by rw[es];exact bA
 refine aP n 10 [] (([],s1):List Ce×WS) (fun _=>[]) (fun q=>D1 i1 i2 im  q) (fun k q=>tK (Fp kW) xK q0 n k q.1 q.2) (uc Hg aw) (af rfl) trivial
  ⟨.inr ⟨rfl,63,10,rfl⟩,bJ,.inl ⟨_,rfl,.inr ⟨34,_,_,rfl,rfl,_,_,rfl,af rfl,_,_,rfl,af rfl,_,_,rfl,af rfl,_,_,rfl,jK rfl rfl,_,_,rfl,af rfl,_,_,rfl,af rfl,_,_,rfl,af rfl,_,_,rfl,af rfl,_,_,rfl,af rfl,_,_,rfl,af rfl,_,_,rfl,af rfl,rfl⟩⟩,bJ,trivial⟩ ?_
 rintro kn ⟨an,tn⟩ eN h _ _ _;simp only at h;have dl:=h.ak;have am:tn.1.length<=Bs:=acO h.le dt;refine aF (fun bj=>?_) (fun ew=>?_)
 rotate_left
 have ci:=eU (sz:=10) h (.inl (by omega))
 rotate_left
 have bj:kn<n:=by omega
 refine aj (fun fm=>?_) (fun dB=>?_)
 ·skip
  refine rj 57 tn Wk am rfl rfl rfl fun x1 u1 y _=>?_;have r:=acO y.le am;refine rj 57 u1 yS r rfl rfl rfl fun x2 u2 ar _=>?_;have be:=acO ar.le r;refine rj 57 u2 q40 be rfl rfl rfl fun x3 u3 cr _=>?_;have fy:=acO cr.le be;refine tZ kn rfl (by simpa using dl) (by omega) (by omega) ?_;refine bf ?_;refine⟨(kn+1,(an++[⟨x1,x2,x3⟩],u3)),⟨by omega,ud h bj (VY y ar cr)⟩,⟨aR,trivial⟩,⟨.inl ⟨_,rfl,.inl ⟨?_,rfl⟩⟩,bJ,bJ,bJ,trivial⟩,aS bj⟩;exact j3 (TO.row 63 10) (by rw[adm,List.map_singleton,Tg];rfl)
 have ci:=eU (sz:=10) h (.inr (show tn.2=true by simpa using dB))
 all_goals
  refine Ot 57 tn Ov am rfl rfl rfl fun n1 v1 bi=>?_;have er:=acO bi.le am;have eB:=bi.nm;refine aP n1 12 [] (([],v1):List Bool×WS) (fun _=>[]) (fun q=>D2 i1 i2 im an q) (fun k q=>tK (Iy kW) G.bool tn n1 k q.1 q.2) (uc Hl bi) (af rfl) trivial
   ⟨.inr ⟨rfl,4,1,rfl⟩,bJ,bJ,.inl ⟨_,rfl,.inr ⟨34,_,_,rfl,rfl,_,_,rfl,af rfl,_,_,rfl,af rfl,_,_,rfl,af rfl,_,_,rfl,af rfl,_,_,rfl,jK rfl rfl,_,_,rfl,af rfl,_,_,rfl,af rfl,_,_,rfl,af rfl,_,_,rfl,af rfl,_,_,rfl,af rfl,_,_,rfl,af rfl,rfl⟩⟩,bJ,trivial⟩ ?_
  rintro bB ⟨p,ap⟩ ej c _ _ _;simp only at c;have ch:=c.ak;have o:ap.1.length<=Bs:=acO c.le am;refine aF (fun ae=>?_) (fun eh=>?_)
  rotate_left
  have ba:=eU (sz:=1) c (.inl (by omega))
  rotate_left
  have ae:bB<n1:=by omega
  refine aj (fun el=>?_) (fun cz=>?_)
  ·skip
   refine Yu 57 ap Wk o rfl rfl rfl fun x u hu _=>?_;refine tZ bB rfl (by simpa using ch) (by omega) (by omega) ?_;refine bf ?_;refine⟨(bB+1,(p++[x],u)),⟨by omega,ud c ae (VZ hu)⟩,⟨aR,trivial⟩,⟨.inl ⟨_,rfl,.inl ⟨?_,rfl⟩⟩,bJ,bJ,bJ,bJ,trivial⟩,aS ae⟩;exact j3 (TO.row 4 1) (adm (f:=Af) (l₁:=p) (l₂:=[x])).symm
  have ba:=eU (sz:=1) c (.inr (show ap.2=true by simpa using cz))
  all_goals
   refine Ot 57 ap Ov o rfl rfl rfl fun n2 v2 bk=>?_;have fd:=acO bk.le o;have fz:=bk.nm;refine aP n2 13 [] (([],v2):List Tk×WS) (fun _=>[]) (fun q=>D3 i1 i2 im an p q) (fun k q=>tK (Du kW) wP ap n2 k q.1 q.2) (uc Hh bk) (af rfl) trivial
    ⟨.inr ⟨rfl,67,7,rfl⟩,bJ,bJ,bJ,.inl ⟨_,rfl,.inr ⟨34,_,_,rfl,rfl,_,_,rfl,af rfl,_,_,rfl,af rfl,_,_,rfl,af rfl,_,_,rfl,af rfl,_,_,rfl,af rfl,_,_,rfl,jK rfl rfl,_,_,rfl,af rfl,_,_,rfl,af rfl,_,_,rfl,af rfl,_,_,rfl,af rfl,_,_,rfl,af rfl,rfl⟩⟩,bJ,trivial⟩ ?_
   rintro bl ⟨al,ag⟩ eg a _ _ _;simp only at a;have cs:=a.ak;have j:ag.1.length<=Bs:=acO a.le o;refine aF (fun ao=>?_) (fun ek=>?_)
   rotate_left
   have ay:=eU (sz:=7) a (.inl (by omega))
   rotate_left
   have ao:bl<n2:=by omega
   refine aj (fun ec=>?_) (fun cw=>?_)
   ·skip
    refine Yu 57 ag q41 j rfl rfl rfl fun x u hu _=>?_;refine tZ bl rfl (by simpa using cs) (by omega) (by omega) ?_;refine bf ?_;refine⟨(bl+1,(al++[x],u)),⟨by omega,ud a ao (hu)⟩,⟨aR,trivial⟩,⟨.inl ⟨_,rfl,.inl ⟨?_,rfl⟩⟩,bJ,bJ,bJ,bJ,bJ,trivial⟩,aS ao⟩;exact j3 (TO.row 67 7) (adm (f:=vM) (l₁:=al) (l₂:=[x])).symm
   have ay:=eU (sz:=7) a (.inr (show ag.2=true by simpa using cw))
   all_goals
    refine Ot 57 ag Ov j rfl rfl rfl fun n3 v3 bv=>?_;have ft:=acO bv.le j;have fa:=bv.nm;refine aP n3 14 [] (([],v3):List (List Vl)×WS) (fun _=>[]) (fun q=>D4 i1 i2 im an p al q) (fun k q=>tK (GU kW) vW ag n3 k q.1 q.2) (uc Ho bv) (af rfl) trivial
     ⟨.inr ⟨rfl,58,1,rfl⟩,bJ,bJ,bJ,bJ,.inl ⟨_,rfl,.inr ⟨34,_,_,rfl,rfl,_,_,rfl,af rfl,_,_,rfl,af rfl,_,_,rfl,af rfl,_,_,rfl,af rfl,_,_,rfl,af rfl,_,_,rfl,af rfl,_,_,rfl,jK rfl rfl,_,_,rfl,af rfl,_,_,rfl,af rfl,_,_,rfl,af rfl,_,_,rfl,af rfl,rfl⟩⟩,bJ,trivial⟩ ?_
    rintro bz ⟨ax,ac⟩ dE e _ _ _;simp only at e;have cl:=e.ak;have m:ac.1.length<=Bs:=acO e.le j;refine aF (fun aa=>?_) (fun ea=>?_)
    rotate_left
    have az:=eU (sz:=1) e (.inl (by omega))
    rotate_left
    have aa:bz<n3:=by omega
    refine aj (fun em=>?_) (fun da=>?_)
    ·skip
     refine Yu 57 ac q42 m rfl rfl rfl fun x u hu _=>?_;refine tZ bz rfl (by simpa using cl) (by omega) (by omega) ?_;refine bf ?_;refine⟨(bz+1,(ax++[x],u)),⟨by omega,ud e aa (hu)⟩,⟨aR,trivial⟩,⟨.inl ⟨_,rfl,.inl ⟨?_,rfl⟩⟩,bJ,bJ,bJ,bJ,bJ,bJ,trivial⟩,aS aa⟩;exact j3 (TO.row 58 1) (adm (f:=DX) (l₁:=ax) (l₂:=[x])).symm
    have az:=eU (sz:=1) e (.inr (show ac.2=true by simpa using da))
    all_goals
     refine Ot 57 ac Ov m rfl rfl rfl fun n4 v4 bx=>?_;have eQ:=acO bx.le m;have fh:=bx.nm;refine aP n4 15 [] (([],v4):List Ou×WS) (fun _=>[]) (fun q=>D5 i1 i2 im an p al ax q) (fun k q=>tK (F9 kW) Cz ac n4 k q.1 q.2) (uc Hj bx) (af rfl) trivial
      ⟨.inr ⟨rfl,101,2,rfl⟩,bJ,bJ,bJ,bJ,bJ,.inl ⟨_,rfl,.inr ⟨34,_,_,rfl,rfl,_,_,rfl,af rfl,_,_,rfl,af rfl,_,_,rfl,af rfl,_,_,rfl,af rfl,_,_,rfl,af rfl,_,_,rfl,af rfl,_,_,rfl,af rfl,_,_,rfl,jK rfl rfl,_,_,rfl,af rfl,_,_,rfl,af rfl,_,_,rfl,af rfl,rfl⟩⟩,bJ,trivial⟩ ?_
     rintro bm ⟨bc,av⟩ ee b _ _ _;simp only at b;have db:=b.ak;have l:av.1.length<=Bs:=acO b.le m;refine aF (fun z=>?_) (fun ed=>?_)
     rotate_left
     have aE:=eU (sz:=2) b (.inl (by omega))
     rotate_left
     have z:bm<n4:=by omega
     refine aj (fun dC=>?_) (fun cp=>?_)
     ·skip
      refine rj 57 av yS l rfl rfl rfl fun x1 u1 y _=>?_;have r:=acO y.le l;refine rj 57 u1 yS r rfl rfl rfl fun x2 u2 ar _=>?_;have be:=acO ar.le r;refine tZ bm rfl (by simpa using db) (by omega) (by omega) ?_;refine bf ?_;refine⟨(bm+1,(bc++[⟨x1,x2⟩],u2)),⟨by omega,ud b z (V0 y ar)⟩,⟨aR,trivial⟩,⟨.inl ⟨_,rfl,.inl ⟨?_,rfl⟩⟩,bJ,bJ,bJ,bJ,bJ,bJ,bJ,trivial⟩,aS z⟩;exact j3 (TO.row 101 2) (adm (f:=GR) (l₁:=bc) (l₂:=[⟨x1,x2⟩])).symm
     have aE:=eU (sz:=2) b (.inr (show av.2=true by simpa using cp))
     all_goals
      refine rj 57 av yS l rfl rfl rfl fun z1 r1 cx _=>?_;have cM:=acO cx.le l;refine rj 57 r1 yS cM rfl rfl rfl fun z2 r2 cd _=>?_;have co:=acO cd.le cM;refine rj 57 r2 yS co rfl rfl rfl fun z3 r3 dd _=>?_;have fr:=acO dd.le co;have hG:=V1 ci ba ay az aE cx cd dd;refine aj (fun rb=>?_) (fun rg=>?_)
      ·exact aM rfl (by rw[<-hd,w _ _ hG (.inl rb)];rfl)
      refine fP.mk ⟨bs,rfl,?_⟩;refine cR (hE _ (cc _ _ hG rg)) rfl fun _=>?_;refine fP.mk ⟨kg ⟨an,p,al,ax,bc,z1,z2,z3⟩,rfl,?_⟩;refine aj (fun h5=>?_) (fun h5=>?_)
      ·exact aM rfl (by rw[<-hd,w _ _ hG (.inr (by rw[fL] at h5;simpa using h5))];rfl)
      ·exact aM rfl (by rw[<-hd,R6 h7 (by rw[fL] at h5;simpa using h5)];rfl)
theorem t11 (i:uQ) (bs:List UInt8) (hb:bs.length<=1048576) (hi:(Br i).bulk<=1048576):CallsT PZ 11 [.agg (wN i),.sl (ah bs)] [] (gL [] (Ry (i.datas.map iC) (i.routs.map iJ) i.main (l9 bs))) :=
 acj _ _ _ bs hb _ rfl (fun x a=>t15 i x (by rw[VX];omega)) _ _ _ _ rfl rfl rfl rfl (t24 _)
theorem t65 (b:List UInt8) (i:Nat) (hi:i<=1125899906842624):CallsT PZ 65 [.sl (ah b),IC i] [] (gL [] (.sl (ah (cJ b i)))):=by
 refine au Tryz.func65 QC rfl fun f _=>?_;have hb:(ah b).length=b.length:=aG;have s:=vH f.1;have a:(if((ah b).length:Int)<32*(i:Int) then((ah b).length:Int) else 32*(i:Int))=((min (32*i) b.length:Nat):Int):=by
  rw[hb];split<;>omega
 obtain⟨m,d⟩:∃m:Nat,min (32*i) b.length=m:=⟨_,rfl⟩;have e:m<=b.length:=by rw[<-d];exact Nat.min_le_right _ _
 rw[d] at a;have c:(if((ah b).length:Int)<(if((ah b).length:Int)<32*(i:Int) then((ah b).length:Int) else 32*(i:Int))+32 then((ah b).length:Int) else(if((ah b).length:Int)<32*(i:Int) then((ah b).length:Int) else 32*(i:Int))+32)=((min (32*i+32) b.length:Nat):Int):=by
  rw[a,hb];split<;>omega
 have o:0<=(if((ah b).length:Int)<32*(i:Int) then((ah b).length:Int) else 32*(i:Int)):=by rw[a];omega
 have wf:∀n:Nat,n<=b.length->(Lit.int .i64 (n:Int)).wf=true:=by
  intro n r;simp[Lit.wf,IntKind.min,IntKind.max,IntKind.bits,IntKind.signed];omega
 have j:(if((ah b).length:Int)<32*(i:Int) then((ah b).length:Int) else 32*(i:Int))<=(if((ah b).length:Int)<(if((ah b).length:Int)<32*(i:Int) then((ah b).length:Int) else 32*(i:Int))+32 then((ah b).length:Int) else(if((ah b).length:Int)<32*(i:Int) then((ah b).length:Int) else 32*(i:Int))+32):=by rw[c,a,<-d];omega
 have l:(if((ah b).length:Int)<(if((ah b).length:Int)<32*(i:Int) then((ah b).length:Int) else 32*(i:Int))+32 then((ah b).length:Int) else(if((ah b).length:Int)<32*(i:Int) then((ah b).length:Int) else 32*(i:Int))+32)<=((ah b).length:Int):=by rw[c,hb];omega
 have k:((ah b).drop (if((ah b).length:Int)<32*(i:Int) then((ah b).length:Int) else 32*(i:Int)).toNat).take ((if((ah b).length:Int)<(if((ah b).length:Int)<32*(i:Int) then((ah b).length:Int) else 32*(i:Int))+32 then((ah b).length:Int) else(if((ah b).length:Int)<32*(i:Int) then((ah b).length:Int) else 32*(i:Int))+32).toNat-(if((ah b).length:Int)<32*(i:Int) then((ah b).length:Int) else 32*(i:Int)).toNat)=ah (cJ b i):=by
  rw[c,a,<-d];exact IX b i
 have h:-9223372036854775808<=(if((ah b).length:Int)<32*(i:Int) then((ah b).length:Int) else 32*(i:Int))+32:=by rw[a];omega
 have p:(if((ah b).length:Int)<32*(i:Int) then((ah b).length:Int) else 32*(i:Int))+32<=9223372036854775807:=by rw[a];omega
 refine bf ?_;refine⟨(j3 (fun q=>(Lit.int .i64 q).wf) a).trans (wf _ e),?_⟩;refine Fit.abU h p ?_;refine⟨(j3 (fun q=>(Lit.int .i64 q).wf) c).trans (wf _ (Nat.min_le_right _ _)),?_⟩;refine tF.mk o j l dM ?_;exact aM rfl (j3 C.sl k)
theorem Kr (a b:List UInt8) (h:a.length<=b.length):decide (a=b.take a.length)=decide (a <+: b):=decide_eq_decide.2 List.prefix_iff_eq_take.symm
theorem acn (a b:List UInt8):CallsT PZ 102 [.sl (ah a),.sl (ah b)] [] (gL [] (.bool (decide (a <+: b)))):=by
 have f:(ah a).length=a.length:=aG;have hb:(ah b).length=b.length:=aG;have d:=Kr a b;have j:((ah b).drop 0).take (((ah a).length:Int).toNat-0)=ah (b.take a.length):=by rw[dI,f];rfl
 have e:a <+: b->a.length<=b.length:=fun h=>h.length_le;generalize b.take a.length=q at d j;have c:¬a.length<=b.length->decide (a <+: b)=false:=fun h=>adD fun p=>h (e p);generalize decide (a <+: b)=r at d c ⊢;refine au Tryz.func102 Ml rfl fun k _=>?_;refine aF (fun h=>?_) (fun h=>?_)
 ·refine fP.mk ⟨a,rfl,?_⟩;refine tF.mk (ac9 0) (by omega) h dM ?_;refine fP.mk ⟨q,j,?_⟩;refine aM rfl (j3 C.bool ?_);rw[fL];exact d (by rw[f,hb] at h;omega)
 ·exact aM rfl (j3 C.bool (c (by rw[f,hb] at h;omega)).symm)
theorem t64 (a b:List UInt8) (hb:b.length<=1073741824):CallsT PZ 64 [.sl (ah a),.sl (ah b)] [] (gL [.row 3 1 (su (gT a b))] (.rw 1000)):=by
 have l:(ah b).length=b.length:=aG;obtain⟨n,o⟩:∃n,dG b.length=n:=⟨_,rfl⟩;have r:n<=33554433:=by rw[<-o];unfold dG;omega
 refine au Tryz.func64 Qz rfl fun w t=>?_;refine aP n 6 [5] [] (fun _=>[.rw 7]) (fun s:List Nat=>[(7,.row 3 1 (su s))]) (fun k s=>s=(List.range k).filter (nN a b)) rfl (af rfl) ⟨af rfl,trivial⟩ ⟨bJ,trivial⟩ ?_;rintro k s v j _ _ p;refine bf ?_;refine aF (fun c=>?_) (fun m=>?_)
 ·have c:k<n:=by rw[l] at c;rw[<-o];unfold dG;omega
  have u:s.length<=k:=by
   have:=List.length_filter_le (nN a b) (List.range k);rw[j];simpa using this
  have f:(List.range (k+1)).filter (nN a b)=s++if nN a b k=true then[k] else[]:=by
   rw[List.range_succ,List.filter_append,<-j];congr 1;cases e:nN a b k<;>simp[e]
  refine bM (t65 b k (by omega)) rfl fun _=>?_;refine bM (t65 a k (by omega)) rfl fun _=>?_;refine bM (acn (cJ b k) (cJ a k)) rfl fun _=>?_;refine aj (fun d=>?_) (fun d=>?_)
  ·have d:nN a b k=true:=d;refine Ta s.length rfl (sw s) (by omega) ?_;refine bf ?_;refine⟨(k+1,s++[k]),⟨c,by rw[f,o6 d]⟩,⟨aR,af rfl,trivial⟩,⟨.inl ⟨_,rfl,.inl ⟨j3 (TO.row 3 1) (Cq s k),rfl⟩⟩,trivial⟩,aS c⟩
  ·have d:nN a b k=false:=d;refine bf ?_;refine⟨(k+1,s),⟨c,by rw[f,s8 (by rw[d];exact adx),acT]⟩,⟨aR,af rfl,trivial⟩,⟨bJ,trivial⟩,aS c⟩
 ·have j:s=gT a b:=by
   have:k=n:=by rw[l] at m;have:¬k<n:=fun h=>m (by rw[<-o] at h;unfold dG at h;omega);omega
   rw[j,this,<-o];rfl
  exact xP [7] rfl rfl (j3 (fun q=>[TO.row 3 1 (su q)]) j) rfl
theorem Hw (x y:List UInt8):ah x++ah y=ah (x++y):=by simp[ah]
set_option maxRecDepth 20000 in
theorem t19 (a b:List UInt8) (ha:a.length<=1073741824) (hb:b.length<=1073741824) :
  CallsT PZ 19 [.sl (ah a),.sl (ah b)] [] (gL [.row 5 1 (ah (cI a b))] (.rw 1000)):=by
 have z:(ah a).length=a.length:=aG;have ag:(ah b).length=b.length:=aG;have n:=(t64 a b hb).give;obtain⟨s,o⟩:∃s,gT a b=s:=⟨_,rfl⟩;rw[o] at n;have bb:s.length<=33554433:=by rw[<-o];have:=yI a b;unfold dG at this;omega
 have ab:∀x∈s,x<33554433:=fun x l=>by rw[<-o] at l;have:=wM l;unfold dG at this;omega
 have ad:(su s).length=s.length:=sw s;have ae:=js a;have v:=js b;obtain⟨t,w⟩:∃d,jw a=d:=⟨_,rfl⟩;obtain⟨u,e2⟩:∃d,jw b=d:=⟨_,rfl⟩;rw[w] at ae;rw[e2] at v;have j:=Yl a;have h:=Yl b;rw[w] at j;rw[e2] at h;have k1:CallsT PZ 22 [IC ((ah a).length:Nat)] [] (gL [.row 5 1 (ah (bN (zz (a.length:Int))))] (.rw 1000)):=by rw[z];exact t22 a.length (by omega) (by omega)
 have k2:=(t22 t (by omega) (by omega)).give;have k3:CallsT PZ 22 [IC ((ah b).length:Nat)] [] (gL [] (.sl (ah (bN (zz (b.length:Int)))))):=by rw[ag];exact(t22 b.length (by omega) (by omega)).give
 have k4:=(t22 u (by omega) (by omega)).give;have k5:CallsT PZ 22 [IC ((su s).length:Nat)] [] (gL [] (.sl (ah (bN (zz (s.length:Int)))))):=by rw[ad];exact(t22 s.length (by omega) (by omega)).give
 have m1:=jt (a.length:Int) (by omega) (by omega);have m2:=jt t (by omega) (by omega);have m3:=jt (b.length:Int) (by omega) (by omega);have m4:=jt u (by omega) (by omega);have m5:=jt (s.length:Int) (by omega) (by omega);have f:cI a b=bN (zz (a.length:Int))++bN (zz t)++bN (zz (b.length:Int))++bN (zz u)++bN (zz (s.length:Int))++ri b (-1) s:=by
  simp only[cI,p7,lR,o,w,e2,acM,acT,acX]
 have ba:(ri b (-1) s).length<=42*s.length:=by
  rw[<-o];exact DC b (-1) (gT a b) (by omega) (by omega) fun i hi=>by have:=wM hi;unfold dG at this;omega
 generalize bN (zz (a.length:Int))=v1 at k1 m1 f;generalize bN (zz t)=v2 at k2 m2 f;generalize bN (zz (b.length:Int))=v3 at k3 m3 f;generalize bN (zz u)=v4 at k4 m4 f;generalize bN (zz (s.length:Int))=v5 at k5 m5 f;generalize cI a b=dl at f ⊢;refine au Tryz.func19 PO rfl fun hw av=>?_;refine bM n rfl fun _=>?_;refine callO [] [14] k1 rfl rfl rfl rfl rfl fun _ _=>?_;refine bM j rfl fun _=>?_;refine bM k2 rfl fun _=>?_;refine m9 (bs:=v2) v1.length aG (by omega) ?_;refine bM k3 rfl fun _=>?_;refine m9 (bs:=v3) (v1.length+v2.length) (sn aG aG) (by omega) ?_;refine bM h rfl fun _=>?_;refine bM k4 rfl fun _=>?_;refine m9 (bs:=v4) (v1.length+v2.length+v3.length) (sn (sn aG aG) aG) (by omega) ?_;refine bM k5 rfl fun _=>?_;refine m9 (bs:=v5) (v1.length+v2.length+v3.length+v4.length) (sn (sn (sn aG aG) aG) aG) (by omega) ?_;refine aP s.length 8 [6,7] (v1++v2++v3++v4++v5,(-1:Int)) (fun x:List UInt8×Int=>[.rw 14,IC x.2]) (fun x=>[(14,.row 5 1 (ah x.1))])
  (fun k x=>x.1++ri b x.2 (s.drop k)=dl/\-1<=x.2/\x.2<=33554433) ⟨by rw[f];rfl,by omega,by omega⟩ (af rfl) ⟨af rfl,af rfl,trivial⟩
  ⟨.inl ⟨_,rfl,.inl ⟨j3 (TO.row 5 1) (by simp only[Hw]),rfl⟩⟩,trivial⟩ ?_
 rintro k ⟨d,p⟩ hk ⟨c,m,r⟩ _ _ am;have c:d++ri b p (s.drop k)=dl:=c;have m:-1<=p:=m;have r:p<=33554433:=r;have ax:d.length<=50+42*s.length:=by
  have:=j3 List.length (c.trans f);simp only[yo] at this;omega
 refine aF (fun e=>?_) (fun ak=>?_)
 ·have e:k<s.length:=by omega
  refine eZ e fun x l y aa=>?_;rw[aa] at c;have bi:=ab x y;have be:=jt (x-p) (by omega) (by omega);have bc:=Aq b x;refine Rx l ?_;refine bf ?_;refine Rx l ?_;refine cR (t22 (x-p) (by omega) (by omega)).give rfl fun _=>?_;refine m9 (bs:=bN (zz (x-p))) d.length aG (by omega) ?_;refine cR (t65 b x (by omega)) rfl fun _=>?_;refine m9 (bs:=cJ b x) (d.length+(bN (zz (x-p))).length) (sn aG aG) (by omega) ?_;refine Rx l ?_;refine bf ?_;refine⟨(k+1,(d++bN (zz (x-p))++cJ b x,(x:Int))),⟨e,by simpa[ri] using c,by show(-1:Int)<=(x:Int);omega,by show(x:Int)<=33554433;omega⟩,⟨aR,af rfl,af rfl,trivial⟩,⟨.inl ⟨_,rfl,.inl ⟨j3 (TO.row 5 1) (by simp only[Hw]),rfl⟩⟩,trivial⟩,aS e⟩
 ·have ak:¬k<s.length:=by omega
  have c:d=dl:=by
   rw[List.drop_eq_nil_of_le (by omega)] at c;simpa[ri] using c
  exact xP [14] rfl rfl (j3 (fun q=>[TO.row 5 1 (ah q)]) c) rfl
end Go.Fr.Tryz
