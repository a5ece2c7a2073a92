/- Part of the proofs of the statements of this seat. -/
import Derived.Test.YthfdbepkalpplaaTrP9G
import Derived.Test.YthfdbepkalpplaaTrP3G
import Derived.Test.YthfdbepkalpplaaTrCode3
import Derived.Test.YthfdbepkalpplaaUnM6G
import Derived.Test.YthfdbepkalpplaaTrR2G
set_option maxRecDepth 10000
set_option linter.unusedVariables false
set_option linter.unusedSimpArgs false
namespace Go.Fr.Try
open Go Go.RowKit Go.Proofs Go.Fr Go.Fr.T Go.Fr.Api
theorem Af {p:gR->Prop}(h:∀x,(∀q∈x.proofs,p q)->p x):∀x,p x
 | .mk b i l ps=>h _ fun q a=>Af h q
termination_by x=>SizeOf.sizeOf x
decreasing_by
 have:=List.sizeOf_lt_of_mem (show q∈ps from a);simp only[gR.mk.sizeOf_spec];omega
theorem Ri {a b:gR}:a=b↔a.assumed=b.assumed/\a.index=b.index/\a.types=b.types/\a.proofs=b.proofs:=by
 cases a;cases b;rw[gR.mk.injEq];rfl
theorem Rj {l:List gR}{k:Nat}{x:gR}{K:List C->Prop}(a:l[k]?=some x) (h:K [.bool x.assumed,IC x.index,.sl (x.types.map aD),.sl (x.proofs.map iE)]):ur (l.map iE) (k:Int) 4 K:=Gg a (jz x) rfl h
abbrev kD (x:gR):C:=.agg [.bool x.assumed,IC x.index,.sl (x.types.map aD),.sl (x.proofs.map iE)]
theorem Rl (x:gR):C.agg (iE x)=kD x:=by rw[jz]
theorem ZP (a b:gR) (V:Bool) (v:gR->gR->Bool) (t:V=true↔a=b) (j:∀x y,v x y=true↔x=y) (ih:∀x∈a.proofs,∀y,CallsT P 35 [kD x,kD y] [] (aQ [] (.bool (v x y)))):CallsT P 35 [kD a,kD b] [] (aQ [] (.bool V)):=by
 have e:=t45 a.types b.types;rw[qZ] at e;have o:=@pV (a.types=b.types);generalize Ar (a.types=b.types)=tt at e o;rw[Ri] at t;obtain⟨v1,v2⟩:=Dr t;have r:(a.proofs.map iE).length=a.proofs.length:=vz _;have eb:(b.proofs.map iE).length=b.proofs.length:=vz _;refine af Try.func35 PG rfl fun w _=>?_;have u:a.proofs.length<=9223372036854775807:=by have:=gJ w.1.2.2.2.1;rwa [r] at this
 refine aT (fun q=>ay rfl (vv C.bool (v2 fun z=>q z.1).symm)) (fun q1=>?_);refine aT (fun q=>ay rfl (vv C.bool (v2 fun z=>q z.2.1).symm)) (fun q2=>?_);refine aF e rfl fun _=>?_;refine aq (fun q=>ay rfl (vv C.bool (v2 fun z=>by rw[o.2 z.2.2.1] at q;cases q).symm)) (fun p=>?_);have p:=o.1 (by simpa using p);refine aT (fun q=>ay rfl (vv C.bool (v2 fun z=>q (by rw[z.2.2.2])).symm)) (fun s=>?_);have s:((a.proofs.map iE).length:Int)=((b.proofs.map iE).length:Int):=s;have al:a.proofs.length=b.proofs.length:=by omega
 have w1:a.proofs=b.proofs->true=V:=fun z=>(v1 ⟨q1,q2,p,z⟩).symm;have w2:¬a.proofs=b.proofs->false=V:=fun z=>(v2 fun y=>z y.2.2.2).symm;refine bA a.proofs.length 5 [] () (fun _=>[]) (fun _=>[]) (fun k _=>a.proofs.take k=b.proofs.take k) (by simp) (aj rfl) trivial trivial (fun _=>rfl) (fun _=>rfl) ?_;rintro k _ hk c _ _ _;have c:a.proofs.take k=b.proofs.take k:=c;refine ah (fun d=>?_) (fun h=>?_)
 ·have d:k<a.proofs.length:=by rw[r] at d;omega
  refine bR d fun x f n=>?_;refine bR (l:=b.proofs) (k:=k) (by omega) fun y m aa=>?_;refine Rj f ?_;refine Rj m ?_;refine bB (ih x n y) rfl fun _=>?_;refine aq (fun q=>?_) (fun q=>?_)
  ·refine ay rfl (vv C.bool (w2 fun z=>?_));rw[z,m] at f;injection f with f
   rw[(j x y).2 f.symm] at q;cases q
  ·have q:=(j x y).1 (by simpa using q);refine Fit.aar (by omega) (by omega) ?_;refine⟨(k+1,()),⟨d,?_⟩,⟨aZ,trivial⟩,trivial,bf d⟩;show a.proofs.take (k+1)=b.proofs.take (k+1);rw[dA f,dA m,c,q]
 ·have h:¬k<a.proofs.length:=by rw[r] at h;omega
  rw[abA (by omega),abA (by omega)] at c;exact ay rfl (vv C.bool (w1 c))
theorem t35:∀a b:gR,CallsT P 35 [kD a,kD b] [] (aQ [] (.bool (Ar (a=b)))):=Af (p:=fun a=>∀b:gR,CallsT P 35 [kD a,kD b] [] (aQ [] (.bool (Ar (a=b))))) fun a c b =>
 ZP a b _ (fun x y=>Ar (x=y)) pV (fun x y=>pV) fun x d y=>c x d y
mutual
/-- how many proofs a proof consists of -/
def tT:gR->Nat
 | .mk _ _ _ ps=>sn ps+1
def sn:List gR->Nat
 | []=>0
 | x::l=>tT x+sn l
end
theorem Ag (x:gR):tT x=sn x.proofs+1:=by cases x;rfl
theorem Ah:∀(l:List gR) (x:gR),sn (l++[x])=sn l+tT x
 | [],x=>by rw[abF,sn,sn];simp[sn]
 | y::l,x=>by rw[abj,sn,Ah l x,sn];omega
theorem NA {l:List gR}{k:Nat}{x:gR}(hd:l.drop k=x::l.drop (k+1)) (d:l.take (k+1)=l.take k++[x]):sn l=sn (l.take k)+tT x+sn (l.drop (k+1)):=by
 have:∀a b:List gR,sn (a++b)=sn a+sn b:=by
  intro a b
  induction a with
  | nil=>simp[sn]
  | cons y a c=>rw[abj,sn,c,sn];omega
 have e:=this (l.take k) (l.drop k);rw[List.take_append_drop,hd,sn] at e;omega
theorem t36:∀(a:gR) (n:Int),(tT a:Int)<=n->n<=1000->CallsT P 36 [kD a,IC n] [] (aQ [] (IC (tT a))):=Af (p:=fun a=>∀n:Int,(tT a:Int)<=n->n<=1000->CallsT P 36 [kD a,IC n] [] (aQ [] (IC (tT a)))) fun a w n z aa=>by
 have o:(a.proofs.map iE).length=a.proofs.length:=vz _;have f:=Ag a;have b:=fun(k:Nat) (x:gR) (hd:a.proofs.drop k=x::a.proofs.drop (k+1)) (l:a.proofs.take (k+1)=a.proofs.take k++[x])=>NA hd l;have e:=Ah;have d:sn []=0:=rfl;have h:∀x,1<=tT x:=fun x=>by rw[Ag];omega
 generalize tT=sz at w z f b e h ⊢;generalize sn=sl at f b e d;refine af Try.func36 PI rfl fun y _=>?_;have v:a.proofs.length<=9223372036854775807:=by have:=gJ y.1.2.2.2.1;rwa [o] at this
 refine bA a.proofs.length 6 [5] (1:Int) (fun s=>[IC s]) (fun _=>[]) (fun k s=>s=1+(sl (a.proofs.take k):Int)) (by rw[List.take_zero,d];rfl) (aj rfl) ⟨aj rfl,trivial⟩ trivial (fun _=>rfl) (fun _=>rfl) ?_;rintro k s hk t _ _ _;have t:s=1+(sl (a.proofs.take k):Int):=t;refine ah (fun c=>?_) (fun j=>?_)
 ·have c:k<a.proofs.length:=by rw[o] at c;omega
  refine aX c fun x u m r=>?_;have l:=dA u;have h1:=b k x r l;have h2:=e (a.proofs.take k) x;rw[<-l] at h2;refine ah (fun _=>?_) (fun q=>o5 (show s<=n by omega) q);refine Rj u ?_;refine Fit.aar (by omega) (by omega) ?_;refine aF (w x m (n-s) (by omega) (by omega)) rfl fun _=>?_;refine Fit.aar (by omega) (by omega) ?_;refine Fit.aar (by omega) (by omega) ?_;exact⟨(k+1,s+(sz x:Int)),⟨c,(by show s+(sz x:Int)=1+(sl (a.proofs.take (k+1)):Int);omega)⟩,⟨aZ,aj rfl,trivial⟩,trivial,bf c⟩
 ·have j:¬k<a.proofs.length:=by rw[o] at j;omega
  rw[abA (by omega)] at t;exact ay rfl (vv IC (by omega))
def NC (bs:List aS) (tr:Int) (t:Ty) (i:Int) (n m:Nat):Bool:=decide (t.kind=5)&&(eC i bs.length&&((match bs[i.toNat]? with
 | some b=>decide (b.param=t.id)&&decide (b.trait=tr)
 | none=>false)&&decide (n+m=0)))
mutual
def jm (p:Prog) (bs:List aS):Int->Ty->gR->Bool
 | tr,t,.mk true i ts ps=>NC bs tr t i ts.length ps.length
 | tr,t,.mk false i ts ps=>eC i p.impls.length&&(match p.impls[i.toNat]? with
  | none=>false
  | some x=>decide (x.trait=tr)&&(decide ((ts.length:Int)=x.params)&&(decide (ps.length=x.bounds.length)&&(eqB (subst ts x.type) t&&rC p bs ts x.bounds ps))))
def rC (p:Prog) (bs:List aS) (ts:List Ty):List aS->List gR->Bool
 | b::l,q::ps=>eC b.param ts.length&&(jm p bs b.trait ((ts[b.param.toNat]?).getD zT) q&&rC p bs ts l ps)
 | _,_=>true
end
theorem ZQ (x y:Ty):CallsT P 80 [aK x,aK y] [] (aQ [] (.bool (eqB x y))):=by
 have:=t80 x y;rw[qZ,C8] at this;exact this
theorem ZR (p:Prog) (bs:List aS) (tr:Int) (t:Ty) (x:gR) (r:x.assumed=true):CallsT P 37 [nD p,.sl (bs.map aV),IC tr,aK t,kD x] [] (aQ [] (.bool (NC bs tr t x.index x.types.length x.proofs.length))):=by
 have d:=t85 (bs.map aV) x.index;have s:(bs.map aV).length=bs.length:=vz _;have j:(x.types.map aD).length=x.types.length:=vz _;have n:(x.proofs.map iE).length=x.proofs.length:=vz _;rw[s] at d;have e:NC bs tr t x.index x.types.length x.proofs.length=(decide (t.kind=5)&&(eC x.index bs.length&&((match bs[x.index.toNat]? with
 | some b=>decide (b.param=t.id)&&decide (b.trait=tr)
 | none=>false)&&decide (x.types.length+x.proofs.length=0)))):=rfl
 generalize NC bs tr t x.index x.types.length x.proofs.length=V at e ⊢;have hi:=@dN x.index bs.length;generalize eC x.index bs.length=ib at e d hi;refine af Try.func37 Hz rfl fun h _=>?_;have u:x.types.length<=9223372036854775807:=by have:=gJ h.2.2.2.2.1.2.2.1;rwa [j] at this
 have v:x.proofs.length<=9223372036854775807:=by have:=gJ h.2.2.2.2.1.2.2.2.1;rwa [n] at this
 refine aq (fun _=>?_) (fun q=>o5 (show x.assumed=false from q) (by rw[r];exact Bool.noConfusion));refine ah (fun f=>?_) (fun f=>?_)
 ·have f:t.kind=5:=f;refine bB d rfl fun _=>?_;refine aq (fun a=>?_) (fun a=>?_)
  ·have a:ib=true:=a;have hi:=hi.1 a;refine bR (l:=bs) (k:=x.index.toNat) (by omega) fun b hb o=>?_;refine wZ hi.1 hb ?_;rw[hb,aa2 f,a] at e;refine aq (fun c=>?_) (fun c=>?_)
   ·refine zH (m:=Au ((x.types.map aD).length+(x.proofs.map iE).length)) rfl ?_;refine ay rfl (vv C.bool ?_);have c:(decide (b.param=t.id)&&decide (b.trait=tr))=true:=c;rw[e];simp only[c,aa7,decide_eq_decide];unfold Au;rw[IntKind.wrap_i64,j,n];omega
   ·refine ay rfl (vv C.bool ?_);have c:(decide (b.param=t.id)&&decide (b.trait=tr))=false:=c;rw[e];simp only[c,abb,aby]
  ·have a:ib=false:=a;exact ay rfl (vv C.bool (by rw[e,a];simp))
 ·exact ay rfl (vv C.bool (by rw[e,aa3 (show¬t.kind=5 from f)];rfl))
theorem ND {l:List Ty}{z:Int}{x:Ty}{K:List C->Prop}(h0:0<=z) (a:l[z.toNat]?=some x) (h:K [IC x.kind,IC x.id,.sl (x.args.map aD)]):ur (l.map aD) z 3 K :=
 ⟨_,h0,by rw[abk,a];exact vv some (iP x),rfl,h⟩
structure ZS (p:Prog) (tr:Int) (t:Ty) (x:gR) (V:Bool) (pvL:List Ty->List aS->List gR->Bool):Prop where
 h0:eC x.index p.impls.length=false->V=false
 h1:∀y,0<=x.index->p.impls[x.index.toNat]?=some y->(¬y.trait=tr->V=false)/\(¬(x.types.length:Int)=y.params->V=false)/\(¬x.proofs.length=y.bounds.length->V=false)/\(eqB (subst x.types y.type) t=false->V=false) /\
  (y.trait=tr->(x.types.length:Int)=y.params->x.proofs.length=y.bounds.length->eqB (subst x.types y.type) t=true->pvL x.types y.bounds x.proofs=V)/\gN y.type
theorem ZT (p:Prog) (bs:List aS) (tr:Int) (t:Ty) (x:gR) (hx:x.assumed=false) (V:Bool) (pv:Int->Ty->gR->Bool) (j:List Ty->List aS->List gR->Bool) (X:ZS p tr t x V j)
  (e:∀ts,j ts [] []=true) (d:∀ts b l q ps,j ts (b::l) (q::ps)=(eC b.param ts.length&&(pv b.trait ((ts[b.param.toNat]?).getD zT) q&&j ts l ps)))
  (ih:∀q∈x.proofs,∀tr t,CallsT P 37 [nD p,.sl (bs.map aV),IC tr,aK t,kD q] [] (aQ [] (.bool (pv tr t q)))):CallsT P 37 [nD p,.sl (bs.map aV),IC tr,aK t,kD x] [] (aQ [] (.bool V)):=by
 obtain⟨h0,h1⟩:=X;have s:=t86 (p.impls.map dS) x.index;have ei:(p.impls.map dS).length=p.impls.length:=vz _;have et:(x.types.map aD).length=x.types.length:=vz _;have ep:(x.proofs.map iE).length=x.proofs.length:=vz _;have f:=t84 (x.types.map aD);rw[ei] at s;rw[et] at f;have hi:=@dN x.index p.impls.length;have hj:=fun i=>@dN i x.types.length;generalize eC x.index p.impls.length=ib at h0 s hi;have aa:=fun z h=>t16 x.types z h;have w:=ZQ;generalize eqB=eb at h1 w;generalize subst x.types=sb at h1 aa;generalize o:(fun i=>eC i x.types.length)=jb at f;have o:∀i,eC i x.types.length=jb i:=fun i=>by rw[<-o]
 have f:∀n:Int,CallsT P 84 [.sl (x.types.map aD),IC n] [] (aQ [] (.bool (jb n))):=fun n=>by rw[<-o];exact f n
 simp only[o] at hj;have d:=fun b l q ps=>d x.types b l q ps;simp only[o] at d;have e:=e x.types;have h1:=fun y a b=>h1 y a b;generalize j x.types=pl at h1 d e;refine af Try.func37 Hz rfl fun hw _=>?_;have w2:x.proofs.length<=9223372036854775807:=by have:=gJ hw.2.2.2.2.1.2.2.2.1;rwa [ep] at this
 refine aq (fun q=>o5 (show x.assumed=true from q) (by rw[hx];exact Bool.noConfusion)) (fun _=>?_);refine aF s rfl fun _=>?_;refine aq (fun q=>?_) (fun q=>?_)
 ·exact ay rfl (vv C.bool (h0 (by simpa using q)).symm)
 have hi:=hi.1 (by simpa using q);refine bR (l:=p.impls) (k:=x.index.toNat) (by omega) fun y hy aE=>?_;refine rq hi.1 hy ?_;have h1:=h1 y hi.1 hy;have r:(y.bounds.map aV).length=y.bounds.length:=vz _;refine aT (fun q=>ay rfl (vv C.bool (h1.1 q).symm)) (fun e1=>?_);refine aT (fun q=>ay rfl (vv C.bool (h1.2.1 fun z=>q (by rw[et];exact z)).symm)) (fun e2=>?_);refine aT (fun q=>ay rfl (vv C.bool (h1.2.2.1 fun z=>q (by rw[ep,r,z])).symm)) (fun e3=>?_);refine bB (aa y.type h1.2.2.2.2.2) rfl fun _=>?_;refine bB (w (sb y.type) t) rfl fun _=>?_;refine aq (fun q=>?_) (fun e4=>?_)
 ·exact ay rfl (vv C.bool (h1.2.2.2.1 (by simpa using q)).symm)
 have e2:(x.types.length:Int)=y.params:=by rw[<-et];exact e2
 have e3:x.proofs.length=y.bounds.length:=by
  have e3:((x.proofs.map iE).length:Int)=((y.bounds.map aV).length:Int):=e3;omega
 have hV:=h1.2.2.2.2.1 e1 e2 e3 (by simpa using e4);refine bA y.bounds.length 95 [] () (fun _=>[]) (fun _=>[(12,.box 56 [IC y.trait,IC y.module,IC y.params,.sl (y.bounds.map aV),IC y.type.kind,IC y.type.id,.sl (y.type.args.map aD),IC y.func])]) (fun k _=>pl (y.bounds.drop k) (x.proofs.drop k)=V) hV (aj rfl) trivial ⟨.inl ⟨_,rfl,.inl ⟨rfl,rfl⟩⟩,trivial⟩ (fun _=>rfl) (fun _=>rfl) ?_;rintro k _ hk c _ _ _;have c:pl (y.bounds.drop k) (x.proofs.drop k)=V:=c;refine ah (fun m=>?_) (fun v=>?_)
 ·have m:k<y.bounds.length:=by rw[r] at m;omega
  refine aX m fun b hb bb ag=>?_;refine aX (l:=x.proofs) (k:=k) (by omega) fun q hq ac ad=>?_;rw[ag,ad,d] at c;refine wZ (by omega) (show y.bounds[((k:Int)).toNat]?=some b from hb) ?_;refine bB (f b.param) rfl fun _=>?_;refine aq (fun z=>?_) (fun z=>?_)
  ·exact ay rfl (vv C.bool (by rw[<-c,show jb b.param=false by simpa using z];rfl))
  have z:jb b.param=true:=by simpa using z
  have ae:=(hj b.param).1 z;rw[z,aa7] at c;refine bR (l:=x.types) (k:=b.param.toNat) (by omega) fun u hu be=>?_;refine ND ae.1 hu ?_;refine Rj hq ?_;rw[hu] at c;refine bB (ih q ac b.trait u) rfl fun _=>?_;refine aq (fun z=>?_) (fun z=>?_)
  ·exact ay rfl (vv C.bool (by rw[<-c,show pv b.trait ((some u).getD zT) q=false by simpa using z];rfl))
  rw[show pv b.trait ((some u).getD zT) q=true by simpa using z,aa7] at c;refine Fit.aar (by omega) (by omega) ?_;exact⟨(k+1,()),⟨m,c⟩,⟨aZ,trivial⟩,⟨.inl ⟨_,rfl,.inl ⟨rfl,rfl⟩⟩,trivial⟩,bf m⟩
 ·have v:¬k<y.bounds.length:=by rw[r] at v;omega
  rw[bU v,bU (l:=x.proofs) (by omega),e] at c;exact ay rfl (vv C.bool c)
theorem ZU (p:Prog) (bs:List aS) (hB:∀x∈p.impls,gN x.type):∀(x:gR) (tr:Int) (t:Ty),CallsT P 37 [nD p,.sl (bs.map aV),IC tr,aK t,kD x] [] (aQ [] (.bool (jm p bs tr t x))):=Af (p:=fun x=>∀(tr:Int) (t:Ty),CallsT P 37 [nD p,.sl (bs.map aV),IC tr,aK t,kD x] [] (aQ [] (.bool (jm p bs tr t x)))) fun x m tr t=>by
 obtain⟨a,i,ts,ps⟩:=x;cases a with
 | true =>
  have:=ZR p bs tr t (.mk true i ts ps) rfl;rw[jm];exact this
 | false =>
  refine ZT p bs tr t (.mk false i ts ps) rfl _ (jm p bs) (rC p bs) ⟨fun h=>?_,fun y h0 c=>?_⟩ (fun ts=>by rw[rC];intros;contradiction) (fun ts b l q ps=>by rw[rC]) m
  ·rw[jm,show eC i p.impls.length=false from h];rfl
  ·have c:p.impls[i.toNat]?=some y:=c;have f:=(aa6.1 c).1;have h0:0<=i:=h0;have e:jm p bs tr t (.mk false i ts ps)=(decide (y.trait=tr)&&(decide ((ts.length:Int)=y.params)&&(decide (ps.length=y.bounds.length)&&(eqB (subst ts y.type) t&&rC p bs ts y.bounds ps)))):=by
    rw[jm,dN.2 ⟨h0,by omega⟩,aa7];simp only[c]
   rw[e];refine⟨fun h=>?_,fun h=>?_,fun h=>?_,fun h=>?_,fun d n j k=>?_,hB y (aa8 c)⟩
   ·rw[aa3 h];rfl
   ·rw[aa3 (show¬(ts.length:Int)=y.params from h)];simp
   ·rw[aa3 (show¬ps.length=y.bounds.length from h)];simp
   ·rw[show eqB (subst ts y.type) t=false from h];simp
   ·rw[aa2 d,aa2 (show(ts.length:Int)=y.params from n),aa2 (show ps.length=y.bounds.length from j),show eqB (subst ts y.type) t=true from k];rfl
section
variable {α:Type}{q:α->Bool}
theorem Cj:∀(l m:List α) (k:Int),bG q l k>=0->bG q (l++m) k=bG q l k
 | [],m,k,h=>o5 (show(-1:Int)>=0 from h) (by omega)
 | x::l,m,k,h=>by
  have h:(if q x=true then k else bG q l (k+1))>=0:=h;show(if q x=true then k else bG q (l++m) (k+1))=if q x=true then k else bG q l (k+1)
  by_cases a:q x=true
  ·rw[eu a,eu a]
  ·rw[fo a] at h;rw[fo a,fo a,Cj l m (k+1) h]
theorem Ck:∀(l:List α) (k:Int),0<=bG q l k->∃(j:Nat) (x:α),l[j]?=some x/\q x=true/\bG q l k=k+j
 | [],k,h=>o5 (show 0<=(-1:Int) from h) (by omega)
 | x::l,k,h=>by
  have h:0<=if q x=true then k else bG q l (k+1):=h;show∃(j:Nat) (y:α),(x::l)[j]?=some y/\q y=true/\(if q x=true then k else bG q l (k+1))=k+j
  by_cases a:q x=true
  ·exact⟨0,x,rfl,a,by rw[eu a];simp⟩
  ·rw[fo a] at h;obtain⟨j,y,h1,h2,h3⟩:=Ck l (k+1) h;exact⟨j+1,y,by rw[abv];exact h1,h2,by rw[fo a,h3];omega⟩
theorem JU (l:List α) {x:α}(a:x∈l) (h:q x=true):bG q l 0>=0:=by
 have:=r9 q l;rw[ab0.2 ⟨x,a,h⟩] at this;exact abJ this
end
theorem tP {g:ct}:∀{l:List Impl}{k0 k:Nat}{x:Impl}{ts:List Ty},nB g l k0=some (k,x,ts)->∃j,k=k0+j/\l[j]?=some x/\x.trait=g.tr/\iz x g.t=(ts,true)
 | [],k0,k,x,ts,h=>by cases h
 | y::l,k0,k,x,ts,h=>by
  rw[nB] at h;split at h
  ·rename_i a;injection h with h
   injection h with h1 h
   injection h with h2 h3
   subst h2;exact⟨0,by omega,rfl,a.1,Prod.ext h3 a.2⟩
  ·obtain⟨j,h1,h2,h3⟩:=tP h;exact⟨j+1,by omega,by rw[abv];exact h2,h3⟩
theorem Ft {g:ct}:∀{l:List Impl}{j:Nat}{x:Impl}{ts:List Ty}(k0:Nat),l[j]?=some x->x.trait=g.tr->iz x g.t=(ts,true)->∃r,nB g l k0=some r
 | [],j,x,ts,k0,h,_,_=>by simp at h
 | y::l,0,x,ts,k0,h,h1,h2=>by
  rw[abm] at h;injection h with h
  subst h;rw[nB,eu ⟨h1,by rw[h2]⟩];exact⟨_,rfl⟩
 | y::l,j+1,x,ts,k0,h,h1,h2=>by
  rw[abv] at h;rw[nB];split
  ·exact⟨_,rfl⟩
  ·exact Ft (k0+1) h h1 h2
theorem Ai {f f':Int->ct->qu}(hf:∀c d g r j,0<=d->d<=c->c<=400->f c g=(.ok r,j)->c<j/\j<=400/\∃o a,f' d g=(.ok o,a)/\d<a/\a-d<=j-c):∀(l:List ct) (c d:Int) (k b:List gR) ps j,0<=d->d<=c->c<=400->fQ f l c k=(.ok ps,j)->c<=j/\∃m a,fQ f' l d b=(.ok m,a)/\d<=a/\a-d<=j-c
 | [],c,d,k,b,ps,j,h0,t,h4,h=>by
  have h:((Except.ok k:Except Int (List gR)),c)=(.ok ps,j):=h;injection h with _ h
  exact⟨by omega,b,d,rfl,abn _,by omega⟩
 | g::l,c,d,k,b,ps,j,h0,t,h4,h=>by
  rw[fQ] at h;cases p:f c g with
  | mk w s =>
   rw[p] at h;cases w with
   | error e=>injection h with h;cases h
   | ok r =>
    obtain⟨q1,v,o,n,u,y,z⟩:=hf c d g r s h0 t h4 p;obtain⟨q6,m,a,x,q8,q9⟩:=Ai hf l s n (k++[r]) (b++[o]) ps j (by omega) (by omega) v h;exact⟨by omega,m,a,by rw[fQ,u];exact x,by omega,by omega⟩
theorem Aj (p:Prog) (bs j:List aS):∀(n:Nat) (o:List ct) (c l:Int) (g:ct) r s,0<=l->l<=c->c<=400->cN p bs n o c g=(.ok r,s)->c<s/\s<=400/\∃v m,cN p (bs++j) n o l g=(.ok v,m)/\l<m/\m-l<=s-c
 | 0,o,c,l,g,r,s,_,_,_,h=>by rw[cN] at h;injection h with h;cases h
 | n+1,o,c,l,g,r,s,h0,hc,h4,h=>by
  obtain⟨k1,w⟩:=o7 p bs (n+1) o c g r s (by omega) h4 h;refine⟨k1,w,?_⟩;rw[cN] at h ⊢;split at h
  ·injection h with h;cases h
  rename_i h1;split at h
  ·injection h with h;cases h
  rename_i h2;rw[fo (by omega),fo h2];split at h
  ·rename_i h3;rw[eu (by rw[Cj bs j 0 h3];exact h3)];exact⟨_,_,rfl,by omega,by omega⟩
  ·by_cases h3:bG (lQ g) (bs++j) 0>=0
   ·rw[eu h3];exact⟨_,_,rfl,by omega,by omega⟩
   ·rw[fo h3];cases t:nB g p.impls 0 with
    | none=>rw[t] at h;injection h with h;cases h
    | some q =>
     obtain⟨k,x,ts⟩:=q;rw[t] at h;simp only at h ⊢;cases u:fQ (cN p bs n (o++[g])) (x.bounds.map (kT ts)) (c+1) [] with
     | mk r0 c1 =>
      rw[u] at h;cases r0 with
      | error e=>injection h with h;cases h
      | ok ps =>
       injection h with _ h
       subst h;obtain⟨q1,y,m,z,q3,q4⟩:=Ai (f:=cN p bs n (o++[g])) (f':=cN p (bs++j) n (o++[g])) (fun c l q r s a b d e=>Aj p bs j n (o++[g]) c l q r s a b d e) (x.bounds.map (kT ts)) (c+1) (l+1) [] [] ps c1 (by omega) (by omega) (by omega) u;rw[z];exact⟨_,_,rfl,by omega,by omega⟩
theorem Fu {f:Int->ct->qu}(hf:∀c g r b,f c g=(.ok r,b)->(tT r:Int)=b-c):∀(l:List ct) (c:Int) (a:List gR) ps b,fQ f l c a=(.ok ps,b)->(sn ps:Int)=sn a+(b-c)
 | [],c,a,ps,b,h=>by
  have h:((Except.ok a:Except Int (List gR)),c)=(.ok ps,b):=h;injection h with h1 h2
  injection h1 with h1
  subst h1 h2;omega
 | g::l,c,a,ps,b,h=>by
  rw[fQ] at h;cases d:f c g with
  | mk m j =>
   rw[d] at h;cases m with
   | error e=>injection h with h;cases h
   | ok r =>
    have n:=hf c g r j d;have k:=Fu hf l j (a++[r]) ps b h;rw[Ah] at k;omega
theorem Ak (p:Prog) (bs:List aS):∀(n:Nat) (a:List ct) (c:Int) (g:ct) r b,cN p bs n a c g=(.ok r,b)->(tT r:Int)=b-c
 | 0,a,c,g,r,b,h=>by rw[cN] at h;injection h with h;cases h
 | n+1,a,c,g,r,b,h=>by
  rw[cN] at h;split at h
  ·injection h with h;cases h
  split at h
  ·injection h with h;cases h
  split at h
  ·injection h with h1 h
   injection h1 with h1
   subst h1 h;have:tT (.mk true (bG (lQ g) bs 0) [] [])=1:=rfl;omega
  cases d:nB g p.impls 0 with
  | none=>rw[d] at h;injection h with h;cases h
  | some q =>
   obtain⟨k,x,ts⟩:=q;rw[d] at h;simp only at h;cases j:fQ (cN p bs n (a++[g])) (x.bounds.map (kT ts)) (c+1) [] with
   | mk l o =>
    rw[j] at h;cases l with
    | error e=>injection h with h;cases h
    | ok ps =>
     injection h with h1 h
     injection h1 with h1
     subst h1 h;have:=Fu (f:=cN p bs n (a++[g])) (fun c q r b h=>Ak p bs n (a++[g]) c q r b h) _ _ _ _ _ j;have e:tT (.mk false (k:Int) ts ps)=sn ps+1:=Ag _;have m:sn []=0:=rfl;omega
theorem Fv {g:ct}{b:aS}:lQ g b=true↔g.t.kind=5/\b.param=g.t.id/\b.trait=g.tr:=by
 rw[lQ,xo,xo,abf,abf,abf]
theorem tQ {p:Prog}{bs:List aS}{tr:Int}{t:Ty}{i:Int}{ts:List Ty}{ps:List gR}:jm p bs tr t (.mk true i ts ps)=true↔t.kind=5/\0<=i/\bs[i.toNat]?=some ⟨t.id,tr⟩/\ts=[]/\ps=[]:=by
 rw[jm,NC];simp only[xo,abf,dN];constructor
 ·rintro⟨h1,⟨h2,h3⟩,h4,h5⟩;obtain⟨b,hb⟩:=fK (l:=bs) (k:=i.toNat) (by omega);rw[hb] at h4;simp only[xo,abf] at h4;refine⟨h1,h2,?_,abO (by omega),abO (by omega)⟩;rw[hb,<-h4.1,<-h4.2]
 ·rintro⟨h1,h2,h3,rfl,rfl⟩;have:=(aa6.1 h3).1;rw[h3];exact⟨h1,⟨h2,by omega⟩,by simp,rfl⟩
theorem su {p:Prog}{bs:List aS}{tr:Int}{t:Ty}{i:Int}{ts:List Ty}{ps:List gR}:jm p bs tr t (.mk false i ts ps)=true↔0<=i/\∃x,p.impls[i.toNat]?=some x/\x.trait=tr/\(ts.length:Int)=x.params/\ps.length=x.bounds.length/\subst ts x.type=t/\rC p bs ts x.bounds ps=true:=by
 rw[jm];simp only[xo,dN];constructor
 ·rintro⟨⟨h1,h2⟩,h3⟩;obtain⟨x,a⟩:=fK (l:=p.impls) (k:=i.toNat) (by omega);rw[a] at h3;simp only[xo,abf,pX] at h3;exact⟨h1,x,a,h3⟩
 ·rintro⟨h1,x,a,h3⟩;have:=(aa6.1 a).1;rw[a];simp only[xo,abf,pX];exact⟨⟨h1,by omega⟩,h3⟩
theorem xg {p:Prog}{bs:List aS}{ts:List Ty}{f:Int->ct->qu}(hf:∀c g r d,f c g=(.ok r,d)->jm p bs g.tr g.t r=true):∀(l:List aS),(∀b∈l,eC b.param ts.length=true)->∀(c:Int) (a:List gR) ps d,fQ f (l.map (kT ts)) c a=(.ok ps,d)->∃j,ps=a++j/\j.length=l.length/\rC p bs ts l j=true
 | [],_,c,a,ps,d,h=>by
  have h:((Except.ok a:Except Int (List gR)),c)=(.ok ps,d):=h;injection h with h1 h2
  injection h1 with h1
  exact⟨[],by rw[abG];exact h1.symm,rfl,by rw[rC];intros;contradiction⟩
 | b::l,hb,c,a,ps,d,h=>by
  rw[abe,fQ] at h;cases n:f c (kT ts b) with
  | mk w o =>
   rw[n] at h;cases w with
   | error e=>injection h with h;cases h
   | ok r =>
    obtain⟨j,u,v,s⟩:=xg hf l (fun b h=>hb b (by simp[h])) o (a++[r]) ps d h;have k:=hb b (by simp);have m:=hf c (kT ts b) r o n;refine⟨r::j,by rw[u,abZ];rfl,by rw[abo,abo,v],?_⟩;rw[rC,k,s];have e:kT ts b=⟨b.trait,(ts[b.param.toNat]?).getD zT⟩:=by unfold kT;rw[eu k]
    rw[e] at m;rw[show jm p bs b.trait ((ts[b.param.toNat]?).getD zT) r=true from m];rfl
theorem lJ (p:Prog) (bs:List aS) (o:∀x∈p.impls,IV p x):∀(n:Nat) (d:List ct) (c:Int) (g:ct) r l,cN p bs n d c g=(.ok r,l)->jm p bs g.tr g.t r=true
 | 0,d,c,g,r,l,h=>by rw[cN] at h;injection h with h;cases h
 | n+1,d,c,g,r,l,h=>by
  rw[cN] at h;split at h
  ·injection h with h;cases h
  split at h
  ·injection h with h;cases h
  split at h
  ·rename_i h3;injection h with h1 h
   injection h1 with h1
   subst h1;obtain⟨j,b,h4,h5,h6⟩:=Ck bs 0 h3;obtain⟨a1,v,a3⟩:=Fv.1 h5;rw[tQ];refine⟨a1,h3,?_,rfl,rfl⟩;rw[h6,show(0+(j:Int)).toNat=j by omega,h4,<-v,<-a3]
  cases a:nB g p.impls 0 with
  | none=>rw[a] at h;injection h with h;cases h
  | some q =>
   obtain⟨k,x,ts⟩:=q;rw[a] at h;simp only at h;cases m:fQ (cN p bs n (d++[g])) (x.bounds.map (kT ts)) (c+1) [] with
   | mk z c1 =>
    rw[m] at h;cases z with
    | error e=>injection h with h;cases h
    | ok ps =>
     injection h with h1 h
     injection h1 with h1
     subst h1;obtain⟨j,h2,h3,h4,h5⟩:=tP a;have u:=o x (aa8 h3);obtain⟨m1,m2⟩:=(qj u g.t ts).1 h5;obtain⟨qs,s,y,w⟩:=xg (f:=cN p bs n (d++[g])) (fun c g r l h=>lJ p bs o n _ c g r l h) x.bounds (fun b hb=>dN.2 (by have:=u.bd b hb;omega)) _ _ _ _ m;rw[abF] at s;subst s;rw[su];exact⟨by omega,x,by rw[show((k:Nat):Int).toNat=j by omega];exact h3,h4,m1,y,m2,w⟩
structure NW (p:Prog):Prop where
 iv:∀x∈p.impls,IV p x
 no:∀(i k:Nat) (x y:Impl),i<k->p.impls[i]?=some x->p.impls[k]?=some y->x.trait=y.trait->¬comm x y
theorem NW.one {p:Prog}(h:NW p) {i k:Nat}{x y:Impl}{t:Ty}{c f:List Ty}(b:p.impls[i]?=some x) (a:p.impls[k]?=some y) (d:x.trait=y.trait) (hd:cg t<=8) (h1:iz x t=(c,true)) (h2:iz y t=(f,true)):i=k/\x=y/\c=f:=by
 have l:=h.iv x (aa8 b);have j:=h.iv y (aa8 a);have e:i=k:=by
  rcases Nat.lt_trichotomy i k with q | q | q
  ·exact o5 (Ae l j hd h1 h2) (h.no i k x y q b a d)
  ·exact q
  ·exact o5 (Ae j l hd h2 h1) (h.no k i y x q a b d.symm)
 subst e;rw[b] at a;injection a with a
 subst a;rw[h1] at h2;injection h2 with h2 _
 exact⟨rfl,rfl,h2⟩
theorem NW.find {p:Prog}(h:NW p) {g:ct}{k:Nat}{x:Impl}{ts:List Ty}(hd:cg g.t<=8) (d:p.impls[k]?=some x) (c:x.trait=g.tr) (a:iz x g.t=(ts,true)):nB g p.impls 0=some (k,x,ts):=by
 obtain⟨⟨o,n,e⟩,b⟩:=Ft 0 d c a;obtain⟨j,h1,h2,h3,h4⟩:=tP b;obtain⟨f,m,l⟩:=h.one h2 d (h3.trans c.symm) hd h4 a;rw[b,h1,f,m,l,Nat.zero_add]
theorem Fw {p:Prog}(hC:NW p) (bs:List aS):∀(s n:Nat) (w:List ct) (c:Int) (g:ct),cg g.t<=8->0<=c->401<=(n:Int)+c->(∃r,jm p bs g.tr g.t r=true/\tT r=s)->(∀r,jm p bs g.tr g.t r=true->s<=tT r)->(∀h∈w,∀r,jm p bs h.tr h.t r=true->s<tT r) ->
  (∃r d,cN p bs n w c g=(.ok r,d)/\d<=c+s)\/(∃d,cN p bs n w c g=(.error 2,d)/\¬c+s<=400):=by
 intro s
 induction s using Nat.strongRecOn with
 | _ s az =>
  intro n w c g hd h0 hn aE am al;obtain⟨r,v,hs⟩:=aE;have cd:1<=s:=by rw[<-hs,Ag];omega
  cases n with
  | zero=>exact .inr ⟨c+1,by rw[cN],by omega⟩
  | succ n =>
   rw[cN]
   by_cases h1:c+1>400
   ·rw[eu h1];exact .inr ⟨c+1,rfl,by omega⟩
   rw[fo h1];have ae:¬(w.any fun h=>ig h g)=true:=fun q=>by
    obtain⟨h,hh,q⟩:=ab0.1 q;rw[ig,xo,abf] at q;have:=al h hh r (by rw[q.1,EF q.2];exact v);omega
   rw[fo ae]
   by_cases h3:bG (lQ g) bs 0>=0
   ·rw[eu h3];exact .inl ⟨_,_,rfl,by omega⟩
   rw[fo h3];obtain⟨a,i,ts,ps⟩:=r;cases a with
   | true =>
    obtain⟨o,q2,q3,_⟩:=tQ.1 v;exact o5 (JU bs (aa8 q3) (Fv.2 ⟨o,rfl,rfl⟩)) h3
   | false =>
    obtain⟨a0,x,a1,a2,a3,a4,a5,a6⟩:=su.1 v;have vx:=hC.iv x (aa8 a1);have hm:=(qj vx g.t ts).2 ⟨a3,a5⟩;rw[hC.find hd a1 a2 hm];simp only;have bz:sn ps+1=s:=by rw[<-hs,Ag];rfl
    have hL:∀(l:List aS) (j:List gR),j.length=l.length->rC p bs ts l j=true->sn j<s->∀(c:Int) (f:List gR),0<=c->c<=400->401<=(n:Int)+c ->
      (∃ps d,fQ (cN p bs n (w++[g])) (l.map (kT ts)) c f=(.ok ps,d)/\d<=c+sn j)\/(∃d,fQ (cN p bs n (w++[g])) (l.map (kT ts)) c f=(.error 2,d)/\¬c+sn j<=400):=by
     intro l
     induction l with
     | nil =>
      intro j y _ _ c f _ _ _;exact .inl ⟨f,c,rfl,by omega⟩
     | cons b l aw =>
      intro j y hp z c f h0 h4 hn;cases j with
      | nil=>cases y
      | cons q j =>
       have hp:=hp;rw[rC] at hp;simp only[xo] at hp;obtain⟨p1,p2,p3⟩:=hp;have e:kT ts b=⟨b.trait,(ts[b.param.toNat]?).getD zT⟩:=by unfold kT;rw[eu p1]
       have p1:=dN.1 p1;obtain⟨u,hu⟩:=fK (l:=ts) (k:=b.param.toNat) (by omega);rw[hu] at p2 e;have e:kT ts b=⟨b.trait,u⟩:=e;have p2:jm p bs b.trait u q=true:=p2;rw[sn] at z;obtain⟨m,m1,⟨r',m2,m3⟩,m4⟩:=zX (p:=fun m=>∃r,jm p bs b.trait u r=true/\tT r=m) (tT q) ⟨q,p2,rfl⟩;have ac:∀r,jm p bs b.trait u r=true->m<=tT r:=fun r v=>by
        by_cases z:tT r<m
        ·exact o5 ⟨r,v,rfl⟩ (m4 _ z)
        ·omega
       have:=az m (by omega) n (w++[g]) c ⟨b.trait,u⟩ (abN (tO vx a3 a5 u (aa8 hu)) hd) h0 hn ⟨r',m2,m3⟩ ac (fun h hh r v=>by
        rcases aa9.1 hh with hh | hh
        ·have:=al h hh r v;omega
        ·rw[abR.1 hh] at v;have:=am r v;omega)
       rw[abe,fQ,e];rcases this with⟨r1,c1,o,q2⟩ | ⟨c1,o,q2⟩
       ·rw[o];simp only;have bu:=o7 p bs n (w++[g]) c _ r1 c1 h0 h4 o;rcases aw j (by simpa using y) p3 (by omega) c1 (f++[r1]) (by omega) (by omega) (by omega) with⟨ps,d,q3,q4⟩ | ⟨d,q3,q4⟩
        ·exact .inl ⟨ps,d,q3,by rw[sn];omega⟩
        ·exact .inr ⟨d,q3,by rw[sn];omega⟩
       ·rw[o];exact .inr ⟨c1,rfl,by rw[sn];omega⟩
    rcases hL x.bounds ps a4 a6 (by omega) (c+1) [] (by omega) (by omega) (by omega) with⟨bm,d,o,q2⟩ | ⟨d,o,q2⟩
    ·rw[o];exact .inl ⟨_,_,rfl,by omega⟩
    ·rw[o];exact .inr ⟨_,rfl,by omega⟩
theorem JV {p:Prog}{bs:List aS}{tr:Int}{t:Ty}{r:gR}(h:jm p bs tr t r=true):∃s,s<=tT r/\(∃r,jm p bs tr t r=true/\tT r=s)/\∀r,jm p bs tr t r=true->s<=tT r:=by
 obtain⟨m,m1,m2,m4⟩:=zX (p:=fun m=>∃r,jm p bs tr t r=true/\tT r=m) (tT r) ⟨r,h,rfl⟩;refine⟨m,m1,m2,fun r b=>?_⟩
 by_cases a:tT r<m
 ·exact o5 ⟨r,b,rfl⟩ (m4 _ a)
 ·omega
theorem JW {p:Prog}(hv:∀x∈p.impls,IV p x) {bs:List aS}{args:List Ty}(hb:∀b∈bs,eC b.param args.length=true/\∃q,jm p [] b.trait ((args[b.param.toNat]?).getD zT) q=true):∀(r:gR) (tr:Int) (t:Ty),jm p bs tr t r=true->∃s,jm p [] tr (subst args t) s=true:=Af (p:=fun r=>∀(tr:Int) (t:Ty),jm p bs tr t r=true->∃s,jm p [] tr (subst args t) s=true) fun r ih tr t h=>by
 obtain⟨a,i,ts,ps⟩:=r;cases a with
 | true =>
  obtain⟨q1,q2,q3,_⟩:=tQ.1 h;obtain⟨m,q,q5⟩:=hb _ (aa8 q3);have m:=dN.1 m;refine⟨q,?_⟩;rw[subst_eq,eu ⟨q1,m.1,m.2⟩];exact q5
 | false =>
  obtain⟨a0,x,a1,a2,a3,a4,a5,a6⟩:=su.1 h;have vx:=hv x (aa8 a1);have e:∀(l:List aS) (d:List gR),(∀q∈d,q∈ps)->d.length=l.length->rC p bs ts l d=true->∃c,c.length=l.length/\rC p [] (ts.map (subst args)) l c=true:=by
   intro l
   induction l with
   | nil=>intro d _ _ _;exact⟨[],rfl,by rw[rC];intros;contradiction⟩
   | cons b l o =>
    intro d j f v;cases d with
    | nil=>cases f
    | cons q d =>
     rw[rC] at v;simp only[xo] at v;obtain⟨p1,z,p3⟩:=v;obtain⟨c,n,y⟩:=o d (fun q hq=>j q (by simp[hq])) (by simpa using f) p3;have ag:=dN.1 p1;obtain⟨u,hu⟩:=fK (l:=ts) (k:=b.param.toNat) (by omega);rw[hu] at z;obtain⟨q',w⟩:=ih q (j q (by simp)) b.trait u z;refine⟨q'::c,by rw[abo,abo,n],?_⟩;rw[rC,vz,p1,abk,hu,y];rw[show jm p [] b.trait ((Option.map (subst args) (some u)).getD zT) q'=true from w];rfl
  obtain⟨c,n,y⟩:=e x.bounds ps (fun q h=>h) a4 a6;refine⟨.mk false i (ts.map (subst args)) c,su.2 ⟨a0,x,a1,a2,by rw[vz];exact a3,n,?_,y⟩⟩;rw[<-a5,EU p.datas ts args x.type (by rw[a3];exact vx.fm)]
theorem ZV {a:Type}{f:a->Bool}{l:List a}{k:Nat}{x:a}(b:l[k]?=some x):(l.take (k+1)).all f=((l.take k).all f&&f x):=by
 rw[dA b,List.all_append];simp
theorem UB {els a:List (List C)}{sz b:Nat}{K:Prop}(n m:Nat) (e:∀es∈a,es.length=sz) (d:els.length=n) (c:a.length=m) (h:n+m<=2 ^ 30) (hb:b<=1024) (k:K):xk els a sz b K :=
 ⟨e,by rw[d,c];simp only[maxLen];omega,by rw[d,c];exact abN (Nat.mul_le_mul h hb) (by decide),k⟩
theorem NE {l:List aS}:∀es∈l.map aV,es.length=2:=fun es h=>by
 obtain⟨x,_,rfl⟩:=abx.1 h;rfl
structure ZW (p:Prog) (bs more:List aS) (tr:Int) (t:Ty) (F S:Bool) (x y:gR) (e f:Int) (va:Impl->Bool):Prop where
 h29:CallsT P 29 [] [] (aQ [] (.bool true))
 h30:CallsT P 30 [nD p,.sl (bs.map aV)] [] (aQ [] (.bool F))
 h12:CallsT P 12 [.sl [u7 t]] [] (aQ [] (.bool S))
 h34:F=true->CallsT P 34 [nD p,.sl (bs.map aV),IC tr,aK t] [] (aQ [] (.tup [kD x,IC e]))
 h34':F=true->CallsT P 34 [nD p,.sl ((bs++more).map aV),IC tr,aK t] [] (aQ [] (.tup [kD y,IC f]))
 he:e≠0->(e=9\/e=15\/e=2)/\x=AX
 hb:F=true->bs.length<=10
 hf:e=0->f=0/\CallsT P 36 [kD x,IC 400] [] (aQ [] (IC (tT x)))/\tT x<=400
 h31:∀z,CallsT P 31 [nD p,Aw z] [] (aQ [] (.bool (va z)))
 h35:CallsT P 35 [kD AX,kD AX] [] (aQ [] (.bool true))
 h37:F=true->e=0->p.impls.all va=true->CallsT P 37 [nD p,.sl (bs.map aV),IC tr,aK t,kD x] [] (aQ [] (.bool true))/\CallsT P 37 [nD p,.sl ((bs++more).map aV),IC tr,aK t,kD y] [] (aQ [] (.bool true))
theorem t8e (p:Prog) (bs a:List aS) (tr:Int) (t:Ty) (F S:Bool) (x y:gR) (e f:Int) (va:Impl->Bool) (X:ZW p bs a tr t F S x y e f va) (he:e≠0):CallsT P 8 [nD p,.sl (bs.map aV),.sl (a.map aV),IC tr,aK t] [] (aQ [] (.bool true)):=by
 obtain⟨h29,h30,h12,h34,h34',b,hb,hf,h31,h35,h37⟩:=X;obtain⟨k,rfl⟩:=b he;refine af Try.func8 Iz rfl fun j _=>?_;refine aF h29 rfl fun _=>?_;refine aF h30 rfl fun _=>?_;refine aq (fun q=>ay rfl rfl) (fun h=>?_);refine ah (fun q=>ay rfl rfl) (fun m=>?_);refine aF h12 rfl fun _=>?_;refine aq (fun q=>ay rfl rfl) (fun l=>?_);refine aF (h34 (by simpa using h)) rfl fun _=>?_;refine aT (fun _=>?_) (fun q=>o5 q he);refine ah (fun q=>aF h35 rfl fun _=>ay rfl rfl) (fun z1=>ah (fun q=>aF h35 rfl fun _=>ay rfl rfl) (fun c=>ah (fun q=>aF h35 rfl fun _=>ay rfl rfl) (fun d=>?_)));have z1:¬e=9:=z1;have c:¬e=15:=c;have d:¬e=2:=d;omega
theorem t8o (p:Prog) (bs a:List aS) (tr:Int) (t:Ty) (F S:Bool) (x y:gR) (va:Impl->Bool) (X:ZW p bs a tr t F S x y 0 0 va):CallsT P 8 [nD p,.sl (bs.map aV),.sl (a.map aV),IC tr,aK t] [] (aQ [] (.bool true)):=by
 obtain⟨h29,h30,h12,h34,h34',aa,hb,hf,h31,h35,h37⟩:=X;obtain⟨_,s,f2⟩:=hf rfl;have l:(bs.map aV).length=bs.length:=vz _;have u:(a.map aV).length=a.length:=vz _;have f:(p.impls.map dS).length=p.impls.length:=vz _;have w:(bs++a).map aV=bs.map aV++a.map aV:=abC;rw[w] at h34' h37;refine af Try.func8 Iz rfl fun o _=>?_;have m:p.impls.length<=9223372036854775807:=by have:=gJ o.1.2.2.2.2.2.1;rwa [f] at this
 refine aF h29 rfl fun _=>?_;refine aF h30 rfl fun _=>?_;refine aq (fun q=>ay rfl rfl) (fun v=>?_);refine ah (fun q=>ay rfl rfl) (fun j=>?_);have j:¬((a.map aV).length:Int)>10:=j;have d:F=true:=by simpa using v
 refine aF h12 rfl fun _=>?_;refine aq (fun q=>ay rfl rfl) (fun q3=>?_);refine aF (h34 d) rfl fun _=>?_;refine UB 0 bs.length NE rfl l (by have:=hb d;omega) (by decide) ?_;refine UB bs.length a.length NE l u (by have:=hb d;omega) (by decide) ?_;refine En [63] [] [] (h34' d) ⟨_,rfl,rfl,rfl,rfl,rfl,fun _ _=>?_⟩;refine aF s rfl fun _=>?_;refine ah (fun q=>o5 (show(tT x:Int)>400 from q) (by omega)) (fun _=>?_);refine bA p.impls.length 17 [] () (fun _=>[]) (fun _=>[(12,.box 64 [.bool x.assumed,IC x.index,.sl (x.types.map aD),.sl (x.proofs.map iE)]),(15,.box 64 [.bool y.assumed,IC y.index,.sl (y.types.map aD),.sl (y.proofs.map iE)])]) (fun k _=>(p.impls.take k).all va=true) (by simp) (aj rfl) trivial ⟨.inl ⟨_,rfl,.inl ⟨rfl,rfl⟩⟩,.inl ⟨_,rfl,.inl ⟨rfl,rfl⟩⟩,trivial⟩ (fun _=>rfl) (fun _=>rfl) ?_;rintro k _ hk b _ _ _;have b:(p.impls.take k).all va=true:=b;refine ah (fun c=>?_) (fun e=>?_)
 ·have c:k<p.impls.length:=by rw[f] at c;omega
  refine bR c fun z n r=>?_;refine rq (by omega) (show p.impls[((k:Int)).toNat]?=some z from n) ?_;refine bB (h31 z) rfl fun _=>?_;refine aq (fun q=>?_) (fun q=>?_)
  ·exact ay rfl rfl
  refine Fit.aar (by omega) (by omega) ?_;refine⟨(k+1,()),⟨c,?_⟩,⟨aZ,trivial⟩,⟨.inl ⟨_,rfl,.inl ⟨rfl,rfl⟩⟩,.inl ⟨_,rfl,.inl ⟨rfl,rfl⟩⟩,trivial⟩,bf c⟩;show(p.impls.take (k+1)).all va=true;rw[ZV n,b,show va z=true by simpa using q];rfl
 ·have e:¬k<p.impls.length:=by rw[f] at e;omega
  rw[abA (by omega)] at b;have h:=h37 d rfl b;refine aF h.1 rfl fun _=>?_;refine aF h.2 rfl fun _=>?_;exact ay rfl rfl
theorem vD {p:Prog}{bs:List aS}(h:vB p bs=true):p.datas.length<=20/\p.impls.length<=12/\bs.length<=10/\∀x∈p.impls,x.bounds.length<=6/\gN x.type/\cg x.type<=30:=by
 unfold vB at h;simp only[xo,Bool.not_eq_true',acg,abg] at h;obtain⟨h1,h2,h3,h4⟩:=h;refine⟨by omega,by omega,by omega,fun x a=>?_⟩;obtain⟨h5,h6⟩:=h4 x a;have:=(rY h6).2 x.type (by simp);exact⟨by omega,this.1,this.2⟩
theorem UC (p:Prog) (bs:List aS) (tr:Int) (t:Ty) (a:p.impls.length<=9223372036854775807):CallsT P 34 [nD p,.sl (bs.map aV),IC tr,aK t] [] (aQ [] (.tup [kD (iA p bs tr t).1,IC (iA p bs tr t).2])):=by
 have:=Xf p bs tr t a;rw[Rl] at this;exact this
theorem kU {p:Prog}{bs:List aS}{tr:Int}{t:Ty}(h:(iA p bs tr t).2=0):∃c,cN p bs 401 [] 0 ⟨tr,t⟩=(.ok (iA p bs tr t).1,c):=by
 have he:=sj p bs 401 [] 0 ⟨tr,t⟩;unfold iA at h ⊢;cases a:cN p bs 401 [] 0 ⟨tr,t⟩ with
 | mk b c =>
  rw[a] at h he;cases b with
  | ok r=>exact⟨c,rfl⟩
  | error e =>
   have:=he e c rfl;have h:e=0:=h;omega
theorem Cl {p:Prog}{bs:List aS}{tr:Int}{t:Ty}(h:(iA p bs tr t).2≠0):((iA p bs tr t).2=9\/(iA p bs tr t).2=15\/(iA p bs tr t).2=2)/\(iA p bs tr t).1=AX/\∃c,cN p bs 401 [] 0 ⟨tr,t⟩=(.error (iA p bs tr t).2,c):=by
 have he:=sj p bs 401 [] 0 ⟨tr,t⟩;unfold iA at h ⊢;cases a:cN p bs 401 [] 0 ⟨tr,t⟩ with
 | mk b c =>
  rw[a] at h he;cases b with
  | ok r=>exact o5 rfl h
  | error e =>
   have:=he e c rfl;refine⟨?_,rfl,c,rfl⟩;show e=9\/e=15\/e=2;omega
theorem IA {p:Prog}{bs:List aS}{tr:Int}{t:Ty}{r:gR}{c:Int}(h:cN p bs 401 [] 0 ⟨tr,t⟩=(.ok r,c)):iA p bs tr t=(r,0):=by
 unfold iA;rw[h]
theorem t8 (h29:CallsT P 29 [] [] (aQ [] (.bool true))) (p:Prog) (bs a:List aS) (tr:Int) (t:Ty):CallsT P 8 [nD p,.sl (bs.map aV),.sl (a.map aV),IC tr,aK t] [] (aQ [] (.bool true)):=by
 have b:(iA p bs tr t).2=0->(iA p (bs++a) tr t).2=0:=fun h=>by
  obtain⟨c,d⟩:=kU h;obtain⟨_,_,n,l,h2,_⟩:=Aj p bs a 401 [] 0 0 ⟨tr,t⟩ _ c (abn _) (abn _) (by omega) d;rw[IA h2]
 have X:ZW p bs a tr t (vB p bs) (jd [t]) (iA p bs tr t).1 (iA p (bs++a) tr t).1 (iA p bs tr t).2 (iA p (bs++a) tr t).2 (gY p):=by
  refine⟨h29,t30 p bs,Un t,fun h=>UC p bs tr t (by have:=(vD h).2.1;omega),fun h=>UC p (bs++a) tr t (by have:=(vD h).2.1;omega),fun h=>⟨(Cl h).1,(Cl h).2.1⟩,fun h=>(vD h).2.2.1,fun h=>⟨b h,?_,?_⟩,t31 p,?_,fun k he e=>?_⟩
  ·obtain⟨c,d⟩:=kU h;have h1:=Ak p bs 401 [] 0 ⟨tr,t⟩ _ c d;have h2:=o7 p bs 401 [] 0 ⟨tr,t⟩ _ c (by omega) (by omega) d;exact t36 _ 400 (by omega) (by omega)
  ·obtain⟨c,d⟩:=kU h;have h1:=Ak p bs 401 [] 0 ⟨tr,t⟩ _ c d;have h2:=o7 p bs 401 [] 0 ⟨tr,t⟩ _ c (by omega) (by omega) d;omega
  ·have:=t35 AX AX;rw[<-pW rfl] at this;exact this
  ·have e:∀x∈p.impls,IV p x:=fun x j=>jO ((abg.1 e) x j);have hB:∀x∈p.impls,gN x.type:=fun x j=>((vD k).2.2.2 x j).2.1;obtain⟨c,d⟩:=kU he;obtain⟨m,f⟩:=kU (b he);have h1:=ZU p bs hB (iA p bs tr t).1 tr t;have h2:=ZU p (bs++a) hB (iA p (bs++a) tr t).1 tr t;rw[show jm p bs tr t (iA p bs tr t).1=true from lJ p bs e 401 [] 0 ⟨tr,t⟩ _ c d] at h1;rw[show jm p (bs++a) tr t (iA p (bs++a) tr t).1=true from lJ p (bs++a) e 401 [] 0 ⟨tr,t⟩ _ m f] at h2;exact⟨h1,h2⟩
 by_cases he:(iA p bs tr t).2=0
 ·have hf:=b he;rw[he,hf] at X;exact t8o p bs a tr t _ _ _ _ _ X
 ·exact t8e p bs a tr t _ _ _ _ _ _ _ X he
def Nb (lo hi:Int):List TO->C->Prop:=fun Mo v=>Mo=[]/\∃n:Int,v=IC n/\lo<=n/\n<=hi
section
variable {L:TL}{ρ:aG}
theorem Dv {lo hi:Int}{f:Nat}{args a:List C}{K:TL->aG->C->Prop}(h:CallsT P f a [] (Nb lo hi)) (j:(args.map fun c=>c.aaw.ren (bn [] 1000))=a) (k:∀n:Int,lo<=n->n<=hi->K L ρ (IC n)):kF P f args L ρ K:=by
 subst j;exact .mk ⟨[],[],[],L,[],_,.inl rfl,rfl,rfl,rfl,rfl,rfl,h,fun v Mo ⟨e,n,l,d,b⟩ m _=>by subst e l;exact⟨rfl,k n d b⟩⟩
theorem NF {Lin:List TO}{v:C}{lo hi:Int}(n:Int) (hb:aH Lin (List.range' 1000 Lin.length) []=true) (e:v.aaB.ren (bn [] 1000)=IC n) (h1:lo<=n) (h2:n<=hi):fe Lin L v (Nb lo hi) :=
 qa [] rfl (by simp only[xo];exact⟨rfl,hb⟩) rfl e ⟨rfl,n,rfl,h1,h2⟩
end
theorem t54 (s:List Ty):∀(m:Nat) (left:Int) (t:Ty),left<=m->1<=left->left<=101->CallsT P 54 [.sl (s.map aD),aK t,IC left] [] (Nb 0 (left-1))
 | 0,left,t,h0,h1,h2=>o5 h1 (by omega)
 | m+1,left,t,h0,h1,h2=>by
  have q:=fun left' t' (a:left'<=(m:Int)) (b:1<=left')=>t54 s m left' t' a b;have j:=NR t;have ab:(s.map aD).length=s.length:=vz _;have h:(t.args.map aD).length=t.args.length:=vz _;refine af Try.func54 P1 rfl fun v _=>?_;have p:t.args.length<=9223372036854775807:=dU v.2.1.2.2.1;refine Fit.aar (by omega) (by omega) ?_;refine aF j rfl fun _=>?_;refine ah (fun h3=>ah (fun h4=>ah (fun h5=>oP (MA (a:=s) h4 h5) fun x o=>kg h4 o.1 (aT (fun h6=>ah (fun z=>?_) (fun z=>?_)) (fun h6=>?_))) (fun h5=>?_)) (fun h4=>?_)) (fun h3=>?_)
  ·refine kg h4 o.1 ?_;refine Dv (q (left-1) x (by omega) (by omega) (by omega)) rfl fun n d e=>?_;exact NF n rfl rfl d (by omega)
  all_goals
   refine bA t.args.length 7 [2] (left-1) (fun n=>[IC n]) (fun _=>[]) (fun _ n=>0<=n/\n<=left-1) ⟨by omega,abn _⟩ (aj rfl) ⟨aj rfl,trivial⟩ trivial (fun _=>rfl) (fun _=>rfl) ?_;rintro k n hk ⟨d,e⟩ _ _ _;refine ah (fun c=>?_) (fun aa=>?_)
   ·have c:k<t.args.length:=by rw[h] at c;omega
    refine bR c fun y u w=>?_;refine ah (fun h8=>?_) (fun h8=>?_)
    ·refine bW u ?_;refine Dv (q n y (by omega) (by omega) (by omega)) rfl fun r f l=>?_;refine Fit.aar (by omega) (by omega) ?_;exact⟨(k+1,r),⟨c,f,by omega⟩,⟨aZ,aj rfl,trivial⟩,trivial,bf c⟩
    ·exact NF n rfl rfl d e
   ·exact NF n rfl rfl d e
theorem t19 (s l:List Ty):CallsT P 19 [.sl (s.map aD),.sl (l.map aD)] [] (Such True):=by
 have b:=fun t=>t54 s 101 101 t (by omega) (by omega) (by omega);have h:(s.map aD).length=s.length:=vz _;have d:(l.map aD).length=l.length:=vz _;refine af Try.func19 Pu rfl fun j _=>?_;have q:s.length<=9223372036854775807:=dU j.1;have o:l.length<=9223372036854775807:=dU j.2.1;refine bA l.length 5 [] () (fun _=>[]) (fun _=>[]) (fun _ _=>True) trivial (aj rfl) trivial trivial (fun _=>rfl) (fun _=>rfl) ?_;rintro k _ m _ _ _ _;refine ah (fun a=>?_) (fun f=>?_)
 ·have a:k<l.length:=by rw[d] at a;omega
  refine bR a fun y p r=>?_;refine bW p ?_;refine Dv (b y) rfl fun n e c=>?_;refine ah (fun _=>?_) (fun _=>?_)
  ·exact Mx false rfl rfl fun _=>trivial
  ·refine Fit.aar (by omega) (by omega) ?_;exact⟨(k+1,()),⟨a,trivial⟩,⟨aZ,trivial⟩,trivial,bf a⟩
 ·refine bA s.length 6 [] () (fun _=>[]) (fun _=>[]) (fun _ _=>True) trivial (aj rfl) trivial trivial (fun _=>rfl) (fun _=>rfl) ?_;rintro k _ m _ _ _ _;refine ah (fun a=>?_) (fun f=>?_)
  ·have a:k<s.length:=by rw[h] at a;omega
   refine Dv (b (vr k)) rfl fun n e c=>?_;refine ah (fun _=>?_) (fun _=>?_)
   ·exact Mx false rfl rfl fun _=>trivial
   ·refine Fit.aar (by omega) (by omega) ?_;exact⟨(k+1,()),⟨a,trivial⟩,⟨aZ,trivial⟩,trivial,bf a⟩
  ·exact Mx true rfl rfl fun _=>trivial
theorem WE (s:List Ty) (n:Nat) (t r:Ty) (h:aP s n t=some r):CallsT P 69 [.sl (s.map aD),aK t] [] (aQ [] (aK r)):=by
 have k:=NR;refine af Try.func69 P6 rfl fun p _=>?_;refine wN.mk ⟨Nat×Ty,(n,t),fun x=>aP s x.1 x.2=some r,[],fun _=>[],fun x=>[(3,.box 32 [IC x.2.kind,IC x.2.id,.sl (x.2.args.map aD)]),(4,.box 32 [IC 0,IC 0,.nils])],fun x=>x.1,h,trivial,
  ⟨.inl ⟨_,rfl,.inl ⟨rfl,rfl⟩⟩,.inl ⟨_,rfl,.inl ⟨rfl,rfl⟩⟩,trivial⟩,fun _=>rfl,fun _=>rfl,?_⟩
 rintro⟨n,c⟩ b _ _;refine oP (pY b) fun m j=>?_;refine aF (k c) rfl fun _=>?_;refine ah (fun l=>?_) (fun l=>?_)
 ·refine oP (j.2.resolve_left fun q=>q.1 l).2 fun x d=>?_;have h0:=d.1;have o:=d.2.1;refine kg h0 o ?_;refine aT (fun f=>?_) (fun f=>?_)
  ·have a:=d.2.2.resolve_left fun q=>f q.1;refine kg h0 o ?_;exact⟨(m,x),a.2,trivial,⟨.inl ⟨_,rfl,.inl ⟨rfl,rfl⟩⟩,.inl ⟨_,rfl,.inl ⟨rfl,rfl⟩⟩,trivial⟩,by have e:n=m+1:=j.1;show m<n;omega⟩
  ·have a:=d.2.2.resolve_right fun q=>q.1 f;exact ay rfl (by rw[a.2];rfl)
 ·have a:=j.2.resolve_right fun q=>l q.1;exact ay rfl (by rw[a.2];rfl)
theorem WG (s:List Ty) (v:Int) (t r:Ty) (h:CallsT P 69 [.sl (s.map aD),aK t] [] (aQ [] (aK r))) (q:Ty->Bool) (p:∀x∈r.args,¬r.kind=9->CallsT P 28 [.sl (s.map aD),IC v,aK x] [] (aQ [] (.bool (q x)))) :
  CallsT P 28 [.sl (s.map aD),IC v,aK t] [] (aQ [] (.bool (if r.kind=9 then decide (r.id=v) else r.args.any q))):=by
 have l:=NR r;have d:(r.args.map aD).length=r.args.length:=vz _;refine af Try.func28 Py rfl fun w _=>?_;refine aF h rfl fun m=>?_;have n:r.args.length<=9223372036854775807:=dU m.2.2.1;refine aF l rfl fun _=>?_;refine ah (fun f=>?_) (fun f=>?_)
 ·exact ay rfl (vv C.bool (eu f).symm)
 refine bA r.args.length 7 [] () (fun _=>[]) (fun _=>[(5,.box 32 [IC r.kind,IC r.id,.sl (r.args.map aD)])]) (fun k _=>(r.args.drop k).any q=r.args.any q) rfl (aj rfl) trivial ⟨.inl ⟨_,rfl,.inl ⟨rfl,rfl⟩⟩,trivial⟩ (fun _=>rfl) (fun _=>rfl) ?_;rintro k _ u a _ _ _;refine ah (fun b=>?_) (fun c=>?_)
 ·have b:k<r.args.length:=by rw[d] at b;omega
  refine aX b fun x o j e=>?_;refine bW o ?_;refine aF (p x j f) rfl fun _=>?_;refine aq (fun h=>?_) (fun h=>?_)
  ·exact ay rfl (vv C.bool (by rw[fo f];exact QA e a h))
  ·refine Fit.aar (by omega) (by omega) ?_;exact⟨(k+1,()),⟨b,MC e a h⟩,⟨aZ,trivial⟩,⟨.inl ⟨_,rfl,.inl ⟨rfl,rfl⟩⟩,trivial⟩,bf b⟩
 ·have c:¬k<r.args.length:=by rw[d] at c;omega
  exact ay rfl (vv C.bool (by rw[fo f];exact QB c a))
theorem t28 (s:List Ty) (v:Int):∀(n:Nat) (t:Ty) (b:Bool),jT s v n t=some b->CallsT P 28 [.sl (s.map aD),IC v,aK t] [] (aQ [] (.bool b))
 | 0,t,b,h=>by cases h
 | n+1,t,b,h=>by
  rw[jT] at h;cases hf:aP s n t with
  | none=>rw[hf] at h;cases h
  | some r =>
   simp only[hf] at h
   by_cases a:r.kind=9
   ·rw[eu a] at h;injection h with h
    have:=WG s v t r (WE s n t r hf) (fun _=>false) fun x _ q=>o5 a q;rw[eu a,h] at this;exact this
   ·rw[fo a] at h;obtain⟨h1,h2⟩:=oQ h;have:=WG s v t r (WE s n t r hf) (fun x=>(jT s v n x).getD false) fun x c _=>t28 s v n x _ (h1 x c);rw[fo a,h2] at this;exact this
def NG (c:Prop):List TO->C->Prop:=fun Mo v=>Mo=[]/\∃b:Bool,v=.bool b/\(c->b=true)
theorem UD {L:TL}{ρ:aG}{c:Prop}{f:Nat}{args a:List C}{K:TL->aG->C->Prop}(h:CallsT P f a [] (NG c)) (l:(args.map fun c=>c.aaw.ren (bn [] 1000))=a)
  (k:∀b:Bool,(c->b=true)->K L ρ (.bool b)):kF P f args L ρ K:=by
 subst l;exact .mk ⟨[],[],[],L,[],_,.inl rfl,rfl,rfl,rfl,rfl,rfl,h,fun v Mo ⟨j,d,e,h1⟩ m _=>by subst j e;exact⟨rfl,k d h1⟩⟩
theorem Rm {L:TL}{ρ:aG}{c:Prop}{f:Nat}{args a:List C}{d:Option Nat}{K:TL->aG->C->Prop}(h:CallsT P f a [] (NG c)) (l:(args.map fun c=>c.aaw.ren (bn [] 1000))=a)
  (k:∀b:Bool,(c->b=true)->K L ρ (.bool b)):pK P f args L ρ d K:=by
 subst l;exact .frz _ h fun v Mo ⟨j,d,e,h1⟩ m=>by subst j e;exact⟨rfl,k d h1⟩
theorem IB {L:TL}{Lin:List TO}{v:C}{c:Prop}(b:Bool) (hb:aH Lin (List.range' 1000 Lin.length) []=true) (e:v.aaB.ren (bn [] 1000)=.bool b) (h:c->b=true):fe Lin L v (NG c) :=
 ⟨[],[],L,v,v,[],rfl,.inl ⟨rfl,rfl⟩,rfl,rfl,hb,fun _=>⟨rfl,b,e,h⟩⟩
theorem WH {u s:List Ty}{ρ:Int->Nat}(hS:Sat u s) (l:Av s) (o:∀x∈s,x.kind=0->x=.mk 0 0 []) (j:Rk s ρ) (t:s.length<=2 ^ 29):CallsT P 117 [.sl (s.map aD)] [] (NG (∀k:Nat,k<s.length->cg (gs u (vr k))<=8)):=by
 have c:(s.map aD).length=s.length:=vz _;have e:=Zz l o j (by omega);have b:∀k:Nat,k<s.length->CallsT P 119 [.sl (s.map aD),aK (vr k),IC ((s.length:Int)+1),IC 8] [] (NV 8 ((cg (gs u (vr k)):Int)<=8)):=fun k f =>
  t119 hS l j (s.length+1) (vr k) 8 (by omega) (by omega) (nk f) (by rw[eH,eu (show(vr k).kind=9 from rfl),abf];have:=j.lt k f;show ρ ((k:Nat):Int)<_;omega)
 refine af Try.func117 Ma rfl fun p _=>?_;refine aF e rfl fun _=>?_;refine bA s.length 3 [] () (fun _=>[]) (fun _=>[]) (fun _ _=>True) trivial (aj rfl) trivial trivial (fun _=>rfl) (fun _=>rfl) ?_;rintro k _ f _ _ _ _;refine ah (fun a=>?_) (fun n=>?_)
 ·have a:k<s.length:=by rw[c] at a;omega
  refine Fit.aar (by omega) (by omega) ?_;refine Dq (b k a) (by rw[c];rfl) fun d r v m=>?_;refine ah (fun q=>IB false rfl rfl fun h=>?_) (fun q=>?_)
  ·have:=m (by have:=h k a;omega);have q:d=0:=q;omega
  refine Fit.aar (by omega) (by omega) ?_;exact⟨(k+1,()),⟨a,trivial⟩,⟨aZ,trivial⟩,trivial,bf a⟩
 ·exact IB true rfl rfl fun _=>rfl
theorem WI {l:List Ty}:∀es∈l.map aD,es.length=3:=fun es h=>by
 obtain⟨x,_,rfl⟩:=abx.1 h;rw[iP];rfl
theorem ZX (s:List Ty) (v:Int) (t:Ty) (h0:0<=v) (h1:v<s.length) (e:s.length<=2 ^ 29):CallsT P 122 [.sl (s.map aD),IC v,aK t] [] (aQ [] (.sl ((s.set v.toNat t).map aD))):=by
 have a:(s.map aD).length=s.length:=vz _;obtain⟨x,c⟩:=fK (l:=s) (k:=v.toNat) (by omega);have d:=MJ c;have b:=MI (s:=s) (j:=v.toNat) (t:=t);refine CallsT.give (t:=32) (sz:=3) ?_;refine af Try.func122 Me rfl fun f _=>?_;refine⟨by omega,fun es he=>(by cases he),?_⟩;refine UB 0 s.length WI rfl a (by omega) (by decide) ?_;refine Ao.mk h0 (show v<(([]++s.map aD).length:Int) by rw[abF,a];exact h1) ?_;refine⟨rfl,u5 d rfl ?_⟩;exact bJ [10] rfl rfl (by rw[<-b];rfl) rfl
def GS (r:Option (List Ty)):C:=match r with
 | some s=>.tup [.sl (s.map aD),.bool true]
 | none=>.tup [.sl [],.bool false]
structure ZY (s:List Ty) (a b a' b':Ty) (V:Option (List Ty)) (ok:List Ty->List Ty->List Ty->Option (List Ty)->Prop):Prop where
 fa:CallsT P 69 [.sl (s.map aD),aK a] [] (aQ [] (aK a'))
 fb:CallsT P 69 [.sl (s.map aD),aK b] [] (aQ [] (aK b'))
 va:a'.kind=9->0<=a'.id/\a'.id<s.length
 vb:b'.kind=9->0<=b'.id/\b'.id<s.length
 h1:a'.kind=9->b'.kind=9->a'.id=b'.id->V=some s
 h2:a'.kind=9->b'.kind=9->a'.id<b'.id->V=some (s.set b'.id.toNat a')
 h2':a'.kind=9->b'.kind=9->b'.id<a'.id->V=some (s.set a'.id.toNat b')
 h3:a'.kind=9->¬b'.kind=9->∃o,CallsT P 28 [.sl (s.map aD),IC a'.id,aK b'] [] (aQ [] (.bool o))/\(o=true->V=none)/\(o=false->V=some (s.set a'.id.toNat b'))
 h4:¬a'.kind=9->b'.kind=9->CallsT P 118 [.sl (s.map aD),aK b',aK a'] [] (aQ [] (GS V))
 h5:¬a'.kind=9->¬b'.kind=9->(a'.kind≠b'.kind\/a'.id≠b'.id\/a'.args.length≠b'.args.length)->V=none
 h6:¬a'.kind=9->¬b'.kind=9->¬(a'.kind≠b'.kind\/a'.id≠b'.id\/a'.args.length≠b'.args.length)->ok s a'.args b'.args V
 nil:∀s,ok s [] [] V->V=some s
 cons:∀s x l y m,ok s (x::l) (y::m) V->∃r,CallsT P 118 [.sl (s.map aD),aK x,aK y] [] (aQ [] (GS r))/\(r=none->V=none)/\∀s',r=some s'->ok s' l m V
theorem Rn {L:TL}{ρ:aG}{r:Option (List Ty)}{args a:List C}{d:Option Nat}{K:TL->aG->C->Prop}(h:CallsT P 118 a [] (aQ [] (GS r))) (b:(args.map fun c=>c.aaw.ren (bn [] 1000))=a)
  (k1:∀s,r=some s->K L ρ (.tup [.sl (s.map aD),.bool true])) (e:r=none->K L ρ (.tup [.sl [],.bool false])):pK P 118 args L ρ d K:=by
 cases r with
 | none=>exact bB h b fun _=>e rfl
 | some s=>exact bB h b fun _=>k1 s rfl
theorem Fx {L:TL}{ρ:aG}{r:Option (List Ty)}{args a:List C}{K:TL->aG->C->Prop}(h:CallsT P 118 a [] (aQ [] (GS r))) (b:(args.map fun c=>c.aaw.ren (bn [] 1000))=a)
  (k1:∀s,r=some s->K L ρ (.tup [.sl (s.map aD),.bool true])) (d:r=none->K L ρ (.tup [.sl [],.bool false])):kF P 118 args L ρ K:=by
 cases r with
 | none=>exact aF h b fun _=>d rfl
 | some s=>exact aF h b fun _=>k1 s rfl
theorem WJ (s:List Ty) (a b a' c:Ty) (V:Option (List Ty)) (ok:List Ty->List Ty->List Ty->Option (List Ty)->Prop) (X:ZY s a b a' c V ok) (hl:s.length<=2 ^ 29):CallsT P 118 [.sl (s.map aD),aK a,aK b] [] (aQ [] (GS V)):=by
 obtain⟨fa,fb,va,vb,h1,h2,h2',h3,h4,h5,h6,nil,cons⟩:=X;have n:=NR;have j:=fun v t a b=>ZX s v t a b hl;have u:(a'.args.map aD).length=a'.args.length:=vz _;have ae:(c.args.map aD).length=c.args.length:=vz _;refine af Try.func118 Mb rfl fun hw _=>?_;refine aF fa rfl fun ad=>?_;have am:a'.args.length<=9223372036854775807:=dU ad.2.2.1;refine aF fb rfl fun _=>?_;refine aF (n a') rfl fun _=>?_;refine ah (fun d=>aF (n c) rfl fun _=>ah (fun h=>?_) (fun h=>?_)) (fun d=>?_)
 ·refine ah (fun q=>?_) (fun q=>ah (fun w=>?_) (fun w=>?_))
  ·exact ay rfl (by rw[h1 d h q];rfl)
  ·have vb:=vb h;refine aF (j c.id a' vb.1 vb.2) rfl fun _=>?_;exact ay rfl (by rw[h2 d h w];rfl)
  ·have va:=va d;have q:¬a'.id=c.id:=q;have w:¬a'.id<c.id:=w;refine aF (j a'.id c va.1 va.2) rfl fun _=>?_;exact ay rfl (by rw[h2' d h (by omega)];rfl)
 ·refine aF (n a') rfl fun _=>?_;refine ah (fun _=>?_) (fun q=>o5 d q);have va:=va d;refine oP (h3 d h) fun o ho=>?_;refine aF ho.1 rfl fun _=>?_;refine aq (fun q=>?_) (fun q=>?_)
  ·exact ay rfl (by rw[ho.2.1 q];rfl)
  ·refine aF (j a'.id c va.1 va.2) rfl fun _=>?_;exact ay rfl (by rw[ho.2.2 q];rfl)
 refine aF (n a') rfl fun _=>?_;refine ah (fun q=>o5 q d) (fun _=>?_);refine aF (n c) rfl fun _=>?_;refine ah (fun h=>?_) (fun h=>?_)
 ·have h4:=h4 d h;refine Fx h4 rfl (fun s' e=>?_) (fun e=>?_)
  ·exact ay rfl (by rw[e];rfl)
  ·exact ay rfl (by rw[e];rfl)
 refine aT (fun q=>ay rfl (by rw[h5 d h (.inl q)];rfl)) (fun e1=>?_);refine aT (fun q=>ay rfl (by rw[h5 d h (.inr (.inl q))];rfl)) (fun e2=>?_);refine aT (fun q=>ay rfl (by rw[h5 d h (.inr (.inr fun z=>q (by rw[u,ae,z])))];rfl)) (fun e3=>?_);have e3:((a'.args.map aD).length:Int)=((c.args.map aD).length:Int):=e3;have h6:=h6 d h (fun q=>q.elim (fun q=>q e1) fun q=>q.elim (fun q=>q e2) fun q=>q (by omega));refine bA a'.args.length 8 [0] s (fun s=>[.sl (s.map aD)]) (fun _=>[(4,.box 32 (u7 a')),(5,.box 32 (u7 c))]) (fun k s=>ok s (a'.args.drop k) (c.args.drop k) V) h6 (aj rfl) ⟨aj rfl,trivial⟩ ⟨.inl ⟨_,rfl,.inl ⟨rfl,rfl⟩⟩,.inl ⟨_,rfl,.inl ⟨rfl,rfl⟩⟩,trivial⟩ (fun _=>rfl) (fun _=>rfl) ?_;rintro k s' hk f _ _ _;have f:ok s' (a'.args.drop k) (c.args.drop k) V:=f;refine ah (fun m=>?_) (fun p=>?_)
 ·have m:k<a'.args.length:=by rw[u] at m;omega
  refine aX m fun x hx ao aa=>?_;refine aX (l:=c.args) (k:=k) (by omega) fun y hy av ac=>?_;rw[aa,ac] at f;refine oP (cons s' x _ y _ f) fun r hr=>?_;refine bW hx ?_;refine bW hy ?_;refine Rn hr.1 rfl (fun s2 e=>?_) (fun e=>?_)
  ·refine Fit.aar (by omega) (by omega) ?_;exact⟨(k+1,s2),⟨m,hr.2.2 s2 e⟩,⟨aZ,aj rfl,trivial⟩,⟨.inl ⟨_,rfl,.inl ⟨rfl,rfl⟩⟩,.inl ⟨_,rfl,.inl ⟨rfl,rfl⟩⟩,trivial⟩,bf m⟩
  ·exact ay rfl (by rw[hr.2.1 e];rfl)
 ·have p:¬k<a'.args.length:=by rw[u] at p;omega
  rw[bU p,bU (l:=c.args) (by omega)] at f;exact ay rfl (by rw[nil s' f];rfl)
theorem var_eq {n:Int}{t:Ty}(h:ins n t=true) (a:t.kind=9):t=.mk 9 t.id []:=uW a rfl (fM h a).2.2
theorem UE:∀(n:Nat) (s:List Ty) (a b:Ty) (r:Option (List Ty)),s.length<=2 ^ 29->Good s->ins s.length a=true->ins s.length b=true->ld n s a b=some r->CallsT P 118 [.sl (s.map aD),aK a,aK b] [] (aQ [] (GS r))
 | 0,s,a,b,r,_,_,_,_,h=>by cases h
 | n+1,s,a,b,r,u,g,ha,hb,h=>by
  cases fa:aP s n a with
  | none=>rw[ld,fa] at h;cases h
  | some a' =>
  cases fb:aP s n b with
  | none=>rw[ld,fa,fb] at h;cases h
  | some f =>
  rw[lO fa fb] at h;have c:=g.ins.front fa ha;have d:=g.ins.front fb hb;have ac:a'.kind=9->0<=a'.id/\a'.id<s.length:=fun h9=>by have:=fM c h9;exact⟨this.1,this.2.1⟩
  have v:f.kind=9->0<=f.id/\f.id<s.length:=fun h9=>by have:=fM d h9;exact⟨this.1,this.2.1⟩
  refine WJ s a b a' f r (fun s l m V=>s.length<=2 ^ 29/\Good s/\l.length=m.length/\(∀x∈l,ins s.length x=true)/\(∀x∈m,ins s.length x=true)/\jU (ld n) s l m=some V) ⟨WE s n a a' fa,WE s n b f fb,ac,v,fun h1 h2 h3=>?_,fun h1 h2 h3=>?_,fun h1 h2 h3=>?_,fun h1 h2=>?_,fun h1 h2=>?_,fun h1 h2 h3=>?_,fun h1 h2 h3=>?_,fun s h=>?_,fun s x l y m h=>?_⟩ u
  ·rw[eu ⟨h1,h2⟩,eu h3] at h;injection h with h;exact h.symm
  ·rw[eu ⟨h1,h2⟩,fo (by omega),Int.max_eq_right (by omega),Int.min_eq_left (by omega)] at h;injection h with h
   rw[<-h,<-var_eq c h1]
  ·rw[eu ⟨h1,h2⟩,fo (by omega),Int.max_eq_left (by omega),Int.min_eq_right (by omega)] at h;injection h with h
   rw[<-h,<-var_eq d h2]
  ·rw[fo (fun q=>h2 q.2),eu h1] at h;cases w:jT s a'.id n f with
   | none=>rw[w] at h;cases h
   | some o =>
    rw[w] at h;refine⟨o,t28 s a'.id n f o w,fun q=>?_,fun q=>?_⟩
    ·subst q;injection h with h;exact h.symm
    ·subst q;injection h with h;exact h.symm
  ·rw[fo (fun q=>h1 q.1),fo h1,eu h2] at h;exact UE n s f a' r u g d c h
  ·rw[fo (fun q=>h1 q.1),fo h1,fo h2,eu h3] at h;injection h with h;exact h.symm
  ·rw[fo (fun q=>h1 q.1),fo h1,fo h2,fo h3] at h;exact⟨u,g,by omega,cR c,cR d,h⟩
  ·have h:=h.2.2.2.2.2;rw[jU] at h;injection h with h;exact h.symm
  ·obtain⟨h1,g,h2,j,k,h3⟩:=h;rw[jU] at h3;cases t:ld n s x y with
   | none=>rw[t] at h3;cases h3
   | some r1 =>
    rw[t] at h3;refine⟨r1,UE n s x y r1 h1 g (j x (by simp)) (k y (by simp)) t,fun e=>?_,fun s' e=>?_⟩
    ·subst e;injection h3 with h3;exact h3.symm
    ·subst e;have p:=xW g (j x (by simp)) (k y (by simp)) t;exact⟨by rw[p.len];exact h1,p.good,by simpa using h2,fun z hz=>by rw[p.len];exact j z (by simp[hz]),fun z hz=>by rw[p.len];exact k z (by simp[hz]),h3⟩
end Go.Fr.Try
