/- Part of the proofs of the statements of this seat. -/
import Derived.Test.YthfdbepkalpplaaTrP4G
import Derived.Test.YthfdbepkalpplaaTrH1G
import Derived.Test.YthfdbepkalpplaaTrCode3
import Derived.Test.YthfdbepkalpplaaTrCode2
import Derived.Test.YthfdbepkalpplaaFW3
import Derived.Test.YthfdbepkalpplaaTrIds
set_option maxRecDepth 10000
set_option linter.unusedVariables false
set_option linter.unusedSimpArgs false
namespace Go.Fr.Try
open Go Go.RowKit Go.Proofs Go.Fr Go.Fr.T Go.Fr.Api
section
variable {α:Type}{q:α->Bool}
theorem BP:∀(l m:List α) (k:Int),aW q l k>=0->aW q (l++m) k=aW q l k
 | [],m,k,h=>fL (show(-1:Int)>=0 from h) (by omega)
 | x::l,m,k,h=>by
  have h:(if q x=true then k else aW q l (k+1))>=0:=h;show(if q x=true then k else aW q (l++m) (k+1))=if q x=true then k else aW q l (k+1)
  by_cases a:q x=true
  ·rw[eu a,eu a]
  ·rw[fo a] at h;rw[fo a,fo a,BP l m (k+1) h]
theorem BQ:∀(l:List α) (k:Int),0<=aW q l k->∃(j:Nat) (x:α),l[j]?=some x/\q x=true/\aW q l k=k+j
 | [],k,h=>fL (show 0<=(-1:Int) from h) (by omega)
 | x::l,k,h=>by
  have h:0<=if q x=true then k else aW q l (k+1):=h;show∃(j:Nat) (y:α),(x::l)[j]?=some y/\q y=true/\(if q x=true then k else aW q l (k+1))=k+j
  by_cases a:q x=true
  ·exact⟨0,x,rfl,a,by rw[eu a];simp⟩
  ·rw[fo a] at h;obtain⟨j,y,h1,c,b⟩:=BQ l (k+1) h;exact⟨j+1,y,by rw[abe];exact h1,c,by rw[fo a,b];omega⟩
theorem Jt (l:List α) {x:α}(a:x∈l) (h:q x=true):aW q l 0>=0:=by
 have:=rI q l;rw[abO.2 ⟨x,a,h⟩] at this;exact abt this
end
theorem zK {g:cB}:∀{l:List Impl}{k0 k:Nat}{x:Impl}{ts:List Ty},qO g l k0=some (k,x,ts)->∃j,k=k0+j/\l[j]?=some x/\x.trait=g.tr/\jd x g.t=(ts,true)
 | [],k0,k,x,ts,h=>by cases h
 | y::l,k0,k,x,ts,h=>by
  rw[qO] at h;split at h
  ·rename_i c;injection h with h
   injection h with h1 h
   injection h with b a
   subst b;exact⟨0,by omega,rfl,c.1,Prod.ext a c.2⟩
  ·obtain⟨j,h1,b,a⟩:=zK h;exact⟨j+1,by omega,by rw[abe];exact b,a⟩
theorem zL {f f':Int->cB->pW}(hf:∀c d g r j,0<=d->d<=c->c<=400->f c g=(.ok r,j)->c<j/\j<=400/\∃o a,f' d g=(.ok o,a)/\d<a/\a-d<=j-c):∀(l:List cB) (c d:Int) (k b:List iq) ps j,0<=d->d<=c->c<=400->gC f l c k=(.ok ps,j)->c<=j/\∃m a,gC f' l d b=(.ok m,a)/\d<=a/\a-d<=j-c
 | [],c,d,k,b,ps,j,h0,t,s,h=>by
  have h:((Except.ok k:Except Int (List iq)),c)=(.ok ps,j):=h;injection h with _ h
  exact⟨by omega,b,d,rfl,abb _,by omega⟩
 | g::l,c,d,k,b,ps,j,h0,t,s,h=>by
  rw[gC] at h;cases u:f c g with
  | mk y p =>
   rw[u] at h;cases y with
   | error e=>injection h with h;cases h
   | ok r =>
    obtain⟨q1,x,o,n,w,q4,q5⟩:=hf c d g r p h0 t s u;obtain⟨z,m,a,v,q8,q9⟩:=zL hf l p n (k++[r]) (b++[o]) ps j (by omega) (by omega) x h;exact⟨by omega,m,a,by rw[gC,w];exact v,by omega,by omega⟩
theorem zM (p:Prog) (s j:List bh):∀(n:Nat) (m:List cB) (c l:Int) (g:cB) r o,0<=l->l<=c->c<=400->dh p s n m c g=(.ok r,o)->c<o/\o<=400/\∃r' t,dh p (s++j) n m l g=(.ok r',t)/\l<t/\t-l<=o-c
 | 0,m,c,l,g,r,o,_,_,_,h=>by rw[dh] at h;injection h with h;cases h
 | n+1,m,c,l,g,r,o,h0,hc,z,h=>by
  obtain⟨k1,k2⟩:=qP p s (n+1) m c g r o (by omega) z h;refine⟨k1,k2,?_⟩;rw[dh] at h ⊢;split at h
  ·injection h with h;cases h
  rename_i h1;split at h
  ·injection h with h;cases h
  rename_i h2;rw[fo (by omega),fo h2];split at h
  ·rename_i u;rw[eu (by rw[BP s j 0 u];exact u)];exact⟨_,_,rfl,by omega,by omega⟩
  ·by_cases u:aW (lT g) (s++j) 0>=0
   ·rw[eu u];exact⟨_,_,rfl,by omega,by omega⟩
   ·rw[fo u];cases v:qO g p.impls 0 with
    | none=>rw[v] at h;injection h with h;cases h
    | some q =>
     obtain⟨k,x,ts⟩:=q;rw[v] at h;simp only at h ⊢;cases w:gC (dh p s n (m++[g])) (x.bounds.map (mT ts)) (c+1) [] with
     | mk r0 y =>
      rw[w] at h;cases r0 with
      | error e=>injection h with h;cases h
      | ok ps =>
       injection h with _ h
       subst h;obtain⟨q1,ae,t,q2,q3,q4⟩:=zL (f:=dh p s n (m++[g])) (f':=dh p (s++j) n (m++[g])) (fun c l q r o a b d e=>zM p s j n (m++[g]) c l q r o a b d e) (x.bounds.map (mT ts)) (c+1) (l+1) [] [] ps y (by omega) (by omega) (by omega) w;rw[q2];exact⟨_,_,rfl,by omega,by omega⟩
theorem EU {f:Int->cB->pW}(hf:∀c g r b,f c g=(.ok r,b)->(ET r:Int)=b-c):∀(l:List cB) (c:Int) (a:List iq) ps b,gC f l c a=(.ok ps,b)->(wm ps:Int)=wm a+(b-c)
 | [],c,a,ps,b,h=>by
  have h:((Except.ok a:Except Int (List iq)),c)=(.ok ps,b):=h;injection h with h1 h2
  injection h1 with h1
  subst h1 h2;omega
 | g::l,c,a,ps,b,h=>by
  rw[gC] at h;cases j:f c g with
  | mk m d =>
   rw[j] at h;cases m with
   | error e=>injection h with h;cases h
   | ok r =>
    have n:=hf c g r d j;have k:=EU hf l d (a++[r]) ps b h;rw[zJ] at k;omega
theorem zN (p:Prog) (l:List bh):∀(n:Nat) (a:List cB) (c:Int) (g:cB) r b,dh p l n a c g=(.ok r,b)->(ET r:Int)=b-c
 | 0,a,c,g,r,b,h=>by rw[dh] at h;injection h with h;cases h
 | n+1,a,c,g,r,b,h=>by
  rw[dh] at h;split at h
  ·injection h with h;cases h
  split at h
  ·injection h with h;cases h
  split at h
  ·injection h with h1 h
   injection h1 with h1
   subst h1 h;have:ET (.mk true (aW (lT g) l 0) [] [])=1:=rfl;omega
  cases d:qO g p.impls 0 with
  | none=>rw[d] at h;injection h with h;cases h
  | some q =>
   obtain⟨k,x,ts⟩:=q;rw[d] at h;simp only at h;cases j:gC (dh p l n (a++[g])) (x.bounds.map (mT ts)) (c+1) [] with
   | mk m o =>
    rw[j] at h;cases m with
    | error e=>injection h with h;cases h
    | ok ps =>
     injection h with h1 h
     injection h1 with h1
     subst h1 h;have:=EU (f:=dh p l n (a++[g])) (fun c q r b h=>zN p l n (a++[g]) c q r b h) _ _ _ _ _ j;have e:ET (.mk false (k:Int) ts ps)=wm ps+1:=Gj _;have s:wm []=0:=rfl;omega
theorem MG {g:cB}{b:bh}:lT g b=true↔g.t.kind=5/\b.param=g.t.id/\b.trait=g.tr:=by
 rw[lT,v5,v5,aaZ,aaZ,aaZ]
theorem Gk {p:Prog}{e:List bh}{tr:Int}{t:Ty}{i:Int}{ts:List Ty}{ps:List iq}:qQ p e tr t (.mk true i ts ps)=true↔t.kind=5/\0<=i/\e[i.toNat]?=some ⟨t.id,tr⟩/\ts=[]/\ps=[]:=by
 rw[qQ,MF];simp only[v5,aaZ,eM];constructor
 ·rintro⟨h1,⟨d,c⟩,a,f⟩;obtain⟨b,hb⟩:=gO (l:=e) (k:=i.toNat) (by omega);rw[hb] at a;simp only[v5,aaZ] at a;refine⟨h1,d,?_,abu (by omega),abu (by omega)⟩;rw[hb,<-a.1,<-a.2]
 ·rintro⟨h1,d,c,rfl,rfl⟩;have:=(aaR.1 c).1;rw[c];exact⟨h1,⟨d,by omega⟩,by simp,rfl⟩
theorem Ju {p:Prog}{c:List bh}{tr:Int}{t:Ty}{i:Int}{ts:List Ty}{ps:List iq}:qQ p c tr t (.mk false i ts ps)=true↔0<=i/\∃x,p.impls[i.toNat]?=some x/\x.trait=tr/\(ts.length:Int)=x.params/\ps.length=x.bounds.length/\subst ts x.type=t/\Am p c ts x.bounds ps=true:=by
 rw[qQ];simp only[v5,eM];constructor
 ·rintro⟨⟨h1,d⟩,b⟩;obtain⟨x,a⟩:=gO (l:=p.impls) (k:=i.toNat) (by omega);rw[a] at b;simp only[v5,aaZ,pz] at b;exact⟨h1,x,a,b⟩
 ·rintro⟨h1,x,a,b⟩;have:=(aaR.1 a).1;rw[a];simp only[v5,aaZ,pz];exact⟨⟨h1,by omega⟩,b⟩
theorem wo {p:Prog}{m:List bh}{ts:List Ty}{f:Int->cB->pW}(hf:∀c g r d,f c g=(.ok r,d)->qQ p m g.tr g.t r=true):∀(l:List bh),(∀b∈l,ef b.param ts.length=true)->∀(c:Int) (a:List iq) ps d,gC f (l.map (mT ts)) c a=(.ok ps,d)->∃k,ps=a++k/\k.length=l.length/\Am p m ts l k=true
 | [],_,c,a,ps,d,h=>by
  have h:((Except.ok a:Except Int (List iq)),c)=(.ok ps,d):=h;injection h with h1 h2
  injection h1 with h1
  exact⟨[],by rw[abm];exact h1.symm,rfl,by rw[Am];intros;contradiction⟩
 | b::l,hb,c,a,ps,d,h=>by
  rw[aaX,gC] at h;cases s:f c (mT ts b) with
  | mk x n =>
   rw[s] at h;cases x with
   | error e=>injection h with h;cases h
   | ok r =>
    obtain⟨k,v,w,u⟩:=wo hf l (fun b h=>hb b (by simp[h])) n (a++[r]) ps d h;have j:=hb b (by simp);have o:=hf c (mT ts b) r n s;refine⟨r::k,by rw[v,abK];rfl,by rw[aa5,aa5,w],?_⟩;rw[Am,j,u];have e:mT ts b=⟨b.trait,(ts[b.param.toNat]?).getD zT⟩:=by unfold mT;rw[eu j]
    rw[e] at o;rw[show qQ p m b.trait ((ts[b.param.toNat]?).getD zT) r=true from o];rfl
theorem qR (p:Prog) (d:List bh) (y:∀x∈p.impls,IV p x):∀(n:Nat) (l:List cB) (c:Int) (g:cB) r m,dh p d n l c g=(.ok r,m)->qQ p d g.tr g.t r=true
 | 0,l,c,g,r,m,h=>by rw[dh] at h;injection h with h;cases h
 | n+1,l,c,g,r,m,h=>by
  rw[dh] at h;split at h
  ·injection h with h;cases h
  split at h
  ·injection h with h;cases h
  split at h
  ·rename_i o;injection h with h1 h
   injection h1 with h1
   subst h1;obtain⟨j,b,u,v,h6⟩:=BQ d 0 o;obtain⟨a1,a2,a3⟩:=MG.1 v;rw[Gk];refine⟨a1,o,?_,rfl,rfl⟩;rw[h6,show(0+(j:Int)).toNat=j by omega,u,<-a2,<-a3]
  cases a:qO g p.impls 0 with
  | none=>rw[a] at h;injection h with h;cases h
  | some q =>
   obtain⟨k,x,ts⟩:=q;rw[a] at h;simp only at h;cases s:gC (dh p d n (l++[g])) (x.bounds.map (mT ts)) (c+1) [] with
   | mk r0 c1 =>
    rw[s] at h;cases r0 with
    | error e=>injection h with h;cases h
    | ok ps =>
     injection h with h1 h
     injection h1 with h1
     subst h1;obtain⟨j,h2,o,u,v⟩:=zK a;have z:=y x (aaW o);obtain⟨m1,m2⟩:=(s5 z g.t ts).1 v;obtain⟨qs,w,q2,q3⟩:=wo (f:=dh p d n (l++[g])) (fun c g r m h=>qR p d y n _ c g r m h) x.bounds (fun b hb=>eM.2 (by have:=z.bd b hb;omega)) _ _ _ _ s;rw[abp] at w;subst w;rw[Ju];exact⟨by omega,x,by rw[show((k:Nat):Int).toNat=j by omega];exact o,u,m1,q2,m2,q3⟩
structure Y7 (p:Prog):Prop where
 iv:∀x∈p.impls,IV p x
 no:∀(i k:Nat) (x y:Impl),i<k->p.impls[i]?=some x->p.impls[k]?=some y->x.trait=y.trait->¬comm x y
theorem Y7.one {p:Prog}(h:Y7 p) {i k:Nat}{x y:Impl}{t:Ty}{n j:List Ty}(c:p.impls[i]?=some x) (a:p.impls[k]?=some y) (f:x.trait=y.trait) (d:cu t<=8) (h1:jd x t=(n,true)) (b:jd y t=(j,true)):i=k/\x=y/\n=j:=by
 have m:=h.iv x (aaW c);have l:=h.iv y (aaW a);have e:i=k:=by
  rcases Nat.lt_trichotomy i k with q | q | q
  ·exact fL (zI m l d h1 b) (h.no i k x y q c a f)
  ·exact q
  ·exact fL (zI l m d b h1) (h.no k i y x q a c f.symm)
 subst e;rw[c] at a;injection a with a
 subst a;rw[h1] at b;injection b with b _
 exact⟨rfl,rfl,b⟩
theorem Yh {a:Type}{f:a->Bool}{l:List a}{k:Nat}{x:a}(b:l[k]?=some x):(l.take (k+1)).all f=((l.take k).all f&&f x):=by
 rw[gV b,List.all_append];simp
theorem Vw {els a:List (List C)}{sz b:Nat}{K:Prop}(n m:Nat) (e:∀es∈a,es.length=sz) (d:els.length=n) (c:a.length=m) (h:n+m<=2 ^ 30) (hb:b<=1024) (k:K):wz els a sz b K :=
 ⟨e,by rw[d,c];simp only[maxLen];omega,by rw[d,c];exact abv (Nat.mul_le_mul h hb) (by decide),k⟩
theorem MH {l:List bh}:∀es∈l.map aZ,es.length=2:=fun es h=>by
 obtain⟨x,_,rfl⟩:=abq.1 h;rfl
structure Yi (p:Prog) (bs more:List bh) (tr:Int) (t:Ty) (F S:Bool) (x y:iq) (e f:Int) (va:Impl->Bool):Prop where
 h29:CallsT P 29 [] [] (aU [] (.bool true))
 h30:CallsT P 30 [mQ p,.sl (bs.map aZ)] [] (aU [] (.bool F))
 h12:CallsT P 12 [.sl [wG t]] [] (aU [] (.bool S))
 h34:F=true->CallsT P 34 [mQ p,.sl (bs.map aZ),IC tr,aV t] [] (aU [] (.tup [kJ x,IC e]))
 h34':F=true->CallsT P 34 [mQ p,.sl ((bs++more).map aZ),IC tr,aV t] [] (aU [] (.tup [kJ y,IC f]))
 he:e≠0->(e=9\/e=15\/e=2)/\x=Al
 hb:F=true->bs.length<=10
 hf:e=0->f=0/\CallsT P 36 [kJ x,IC 400] [] (aU [] (IC (ET x)))/\ET x<=400
 h31:∀z,CallsT P 31 [mQ p,zq z] [] (aU [] (.bool (va z)))
 h35:CallsT P 35 [kJ Al,kJ Al] [] (aU [] (.bool true))
 h37:F=true->e=0->p.impls.all va=true->CallsT P 37 [mQ p,.sl (bs.map aZ),IC tr,aV t,kJ x] [] (aU [] (.bool true))/\CallsT P 37 [mQ p,.sl ((bs++more).map aZ),IC tr,aV t,kJ y] [] (aU [] (.bool true))
theorem t8e (p:Prog) (h a:List bh) (tr:Int) (t:Ty) (F S:Bool) (x y:iq) (e f:Int) (j:Impl->Bool) (X:Yi p h a tr t F S x y e f j) (he:e≠0):CallsT P 8 [mQ p,.sl (h.map aZ),.sl (a.map aZ),IC tr,aV t] [] (aU [] (.bool true)):=by
 obtain⟨h29,h30,h12,h34,h34',b,hb,hf,h31,h35,h37⟩:=X;obtain⟨n,rfl⟩:=b he;refine af Try.func8 HW rfl fun o _=>?_;refine aY h29 rfl fun _=>?_;refine aY h30 rfl fun _=>?_;refine aq (fun q=>aC rfl rfl) (fun k=>?_);refine ah (fun q=>aC rfl rfl) (fun m=>?_);refine aY h12 rfl fun _=>?_;refine aq (fun q=>aC rfl rfl) (fun l=>?_);refine aY (h34 (by simpa using k)) rfl fun _=>?_;refine aR (fun _=>?_) (fun q=>fL q he);refine ah (fun q=>aY h35 rfl fun _=>aC rfl rfl) (fun z1=>ah (fun q=>aY h35 rfl fun _=>aC rfl rfl) (fun c=>ah (fun q=>aY h35 rfl fun _=>aC rfl rfl) (fun d=>?_)));have z1:¬e=9:=z1;have c:¬e=15:=c;have d:¬e=2:=d;omega
theorem t8o (p:Prog) (d a:List bh) (tr:Int) (t:Ty) (F S:Bool) (x y:iq) (e:Impl->Bool) (X:Yi p d a tr t F S x y 0 0 e):CallsT P 8 [mQ p,.sl (d.map aZ),.sl (a.map aZ),IC tr,aV t] [] (aU [] (.bool true)):=by
 obtain⟨h29,h30,h12,h34,h34',u,hb,hf,h31,h35,h37⟩:=X;obtain⟨_,v,f2⟩:=hf rfl;have o:(d.map aZ).length=d.length:=vz _;have em:(a.map aZ).length=a.length:=vz _;have j:(p.impls.map dH).length=p.impls.length:=vz _;have ea:(d++a).map aZ=d.map aZ++a.map aZ:=abB;rw[ea] at h34' h37;refine af Try.func8 HW rfl fun w _=>?_;have m:p.impls.length<=9223372036854775807:=by have:=gZ w.1.2.2.2.2.2.1;rwa [j] at this
 refine aY h29 rfl fun _=>?_;refine aY h30 rfl fun _=>?_;refine aq (fun q=>aC rfl rfl) (fun s=>?_);refine ah (fun q=>aC rfl rfl) (fun l=>?_);have l:¬((a.map aZ).length:Int)>10:=l;have hF:F=true:=by simpa using s
 refine aY h12 rfl fun _=>?_;refine aq (fun q=>aC rfl rfl) (fun q3=>?_);refine aY (h34 hF) rfl fun _=>?_;refine Vw 0 d.length MH rfl o (by have:=hb hF;omega) (by decide) ?_;refine Vw d.length a.length MH o em (by have:=hb hF;omega) (by decide) ?_;refine GI [63] [] [] (h34' hF) ⟨_,rfl,rfl,rfl,rfl,rfl,fun _ _=>?_⟩;refine aY v rfl fun _=>?_;refine ah (fun q=>fL (show(ET x:Int)>400 from q) (by omega)) (fun _=>?_);refine bX p.impls.length 17 [] () (fun _=>[]) (fun _=>[(12,.box 64 [.bool x.assumed,IC x.index,.sl (x.types.map aI),.sl (x.proofs.map iL)]),(15,.box 64 [.bool y.assumed,IC y.index,.sl (y.types.map aI),.sl (y.proofs.map iL)])]) (fun k _=>(p.impls.take k).all e=true) (by simp) (ai rfl) trivial ⟨.inl ⟨_,rfl,.inl ⟨rfl,rfl⟩⟩,.inl ⟨_,rfl,.inl ⟨rfl,rfl⟩⟩,trivial⟩ (fun _=>rfl) (fun _=>rfl) ?_;rintro k _ hk b _ _ _;have b:(p.impls.take k).all e=true:=b;refine ah (fun c=>?_) (fun f=>?_)
 ·have c:k<p.impls.length:=by rw[j] at c;omega
  refine dP c fun z n r=>?_;refine j4 (by omega) (show p.impls[((k:Int)).toNat]?=some z from n) ?_;refine bD (h31 z) rfl fun _=>?_;refine aq (fun q=>?_) (fun q=>?_)
  ·exact aC rfl rfl
  refine Fit.aaf (by omega) (by omega) ?_;refine⟨(k+1,()),⟨c,?_⟩,⟨bM,trivial⟩,⟨.inl ⟨_,rfl,.inl ⟨rfl,rfl⟩⟩,.inl ⟨_,rfl,.inl ⟨rfl,rfl⟩⟩,trivial⟩,bN c⟩;show(p.impls.take (k+1)).all e=true;rw[Yh n,b,show e z=true by simpa using q];rfl
 ·have f:¬k<p.impls.length:=by rw[j] at f;omega
  rw[abA (by omega)] at b;have h:=h37 hF rfl b;refine aY h.1 rfl fun _=>?_;refine aY h.2 rfl fun _=>?_;exact aC rfl rfl
theorem kQ {p:Prog}{a:List bh}(h:zD p a=true):p.datas.length<=20/\p.impls.length<=12/\a.length<=10/\∀x∈p.impls,x.bounds.length<=6/\ji x.type/\cu x.type<=30:=by
 unfold zD at h;simp only[v5,Bool.not_eq_true',abY,aaY] at h;obtain⟨h1,f,e,d⟩:=h;refine⟨by omega,by omega,by omega,fun x c=>?_⟩;obtain⟨j,b⟩:=d x c;have:=(BD b).2 x.type (by simp);exact⟨by omega,this.1,this.2⟩
theorem Vx (p:Prog) (a:List bh) (tr:Int) (t:Ty) (b:p.impls.length<=9223372036854775807):CallsT P 34 [mQ p,.sl (a.map aZ),IC tr,aV t] [] (aU [] (.tup [kJ (iN p a tr t).1,IC (iN p a tr t).2])):=by
 have:=VQ p a tr t b;rw[Qn] at this;exact this
theorem oG {p:Prog}{a:List bh}{tr:Int}{t:Ty}(h:(iN p a tr t).2=0):∃c,dh p a 401 [] 0 ⟨tr,t⟩=(.ok (iN p a tr t).1,c):=by
 have he:=rJ p a 401 [] 0 ⟨tr,t⟩;unfold iN at h ⊢;cases d:dh p a 401 [] 0 ⟨tr,t⟩ with
 | mk b c =>
  rw[d] at h he;cases b with
  | ok r=>exact⟨c,rfl⟩
  | error e =>
   have:=he e c rfl;have h:e=0:=h;omega
theorem BR {p:Prog}{a:List bh}{tr:Int}{t:Ty}(h:(iN p a tr t).2≠0):((iN p a tr t).2=9\/(iN p a tr t).2=15\/(iN p a tr t).2=2)/\(iN p a tr t).1=Al/\∃c,dh p a 401 [] 0 ⟨tr,t⟩=(.error (iN p a tr t).2,c):=by
 have he:=rJ p a 401 [] 0 ⟨tr,t⟩;unfold iN at h ⊢;cases d:dh p a 401 [] 0 ⟨tr,t⟩ with
 | mk b c =>
  rw[d] at h he;cases b with
  | ok r=>exact fL rfl h
  | error e =>
   have:=he e c rfl;refine⟨?_,rfl,c,rfl⟩;show e=9\/e=15\/e=2;omega
theorem Qo {p:Prog}{a:List bh}{tr:Int}{t:Ty}{r:iq}{c:Int}(h:dh p a 401 [] 0 ⟨tr,t⟩=(.ok r,c)):iN p a tr t=(r,0):=by
 unfold iN;rw[h]
theorem t8 (h29:CallsT P 29 [] [] (aU [] (.bool true))) (p:Prog) (b a:List bh) (tr:Int) (t:Ty):CallsT P 8 [mQ p,.sl (b.map aZ),.sl (a.map aZ),IC tr,aV t] [] (aU [] (.bool true)):=by
 have d:(iN p b tr t).2=0->(iN p (b++a) tr t).2=0:=fun h=>by
  obtain⟨c,e⟩:=oG h;obtain⟨_,_,o,m,f,_⟩:=zM p b a 401 [] 0 0 ⟨tr,t⟩ _ c (abb _) (abb _) (by omega) e;rw[Qo f]
 have X:Yi p b a tr t (zD p b) (jw [t]) (iN p b tr t).1 (iN p (b++a) tr t).1 (iN p b tr t).2 (iN p (b++a) tr t).2 (gB p):=by
  refine⟨h29,YU p b,SS t,fun h=>Vx p b tr t (by have:=(kQ h).2.1;omega),fun h=>Vx p (b++a) tr t (by have:=(kQ h).2.1;omega),fun h=>⟨(BR h).1,(BR h).2.1⟩,fun h=>(kQ h).2.2.1,fun h=>⟨d h,?_,?_⟩,t31 p,?_,fun hF he j=>?_⟩
  ·obtain⟨c,e⟩:=oG h;have h1:=zN p b 401 [] 0 ⟨tr,t⟩ _ c e;have f:=qP p b 401 [] 0 ⟨tr,t⟩ _ c (by omega) (by omega) e;exact t36 _ 400 (by omega) (by omega)
  ·obtain⟨c,e⟩:=oG h;have h1:=zN p b 401 [] 0 ⟨tr,t⟩ _ c e;have f:=qP p b 401 [] 0 ⟨tr,t⟩ _ c (by omega) (by omega) e;omega
  ·have:=t35 Al Al;rw[<-py rfl] at this;exact this
  ·have j:∀x∈p.impls,IV p x:=fun x l=>iV ((aaY.1 j) x l);have hB:∀x∈p.impls,ji x.type:=fun x l=>((kQ hF).2.2.2 x l).2.1;obtain⟨c,e⟩:=oG he;obtain⟨n,k⟩:=oG (d he);have h1:=Yg p b hB (iN p b tr t).1 tr t;have f:=Yg p (b++a) hB (iN p (b++a) tr t).1 tr t;rw[show qQ p b tr t (iN p b tr t).1=true from qR p b j 401 [] 0 ⟨tr,t⟩ _ c e] at h1;rw[show qQ p (b++a) tr t (iN p (b++a) tr t).1=true from qR p (b++a) j 401 [] 0 ⟨tr,t⟩ _ n k] at f;exact⟨h1,f⟩
 by_cases he:(iN p b tr t).2=0
 ·have hf:=d he;rw[he,hf] at X;exact t8o p b a tr t _ _ _ _ _ X
 ·exact t8e p b a tr t _ _ _ _ _ _ _ X he
structure Yj (p:Prog) (t:Ty) (F S:Bool) (R:Int×Int×Int) (D:Nat) (va ob:Impl->Bool) (ov:Impl->Impl->Bool) (ap:Impl->Bool) (cl:List Impl->Nat->Int×Int×Int):Prop where
 h29:CallsT P 29 [] [] (aU [] (.bool true))
 h30:CallsT P 30 [mQ p,.sl []] [] (aU [] (.bool F))
 h12:CallsT P 12 [.sl [wG t]] [] (aU [] (.bool S))
 h40:F=true->CallsT P 40 [mQ p] [] (aU [] (.tup [IC R.1,IC R.2.1,IC R.2.2]))
 h31:∀z,CallsT P 31 [mQ p,zq z] [] (aU [] (.bool (va z)))
 h41:∀z,CallsT P 41 [mQ p,zq z] [] (aU [] (.bool (ob z)))
 h32:F=true->∀y∈p.impls,∀z∈p.impls,CallsT P 32 [zq y,zq z] [] (aU [] (.bool (ov y z)))
 h33:∀z,CallsT P 33 [zq z,aV t] [] (aU [] (.bool (ap z)))
 h18:S=true->CallsT P 18 [aV t] [] (aU [] (IC D))
 hF:F=true->p.impls.length<=12
 c0:cl p.impls 0=R
 cn:∀k,cl [] k=(0,0,0)
 cc:∀x l k,cl (x::l) k=if va x=false then(1,(k:Int),(k:Int)) else if ob x=true then(9,(k:Int),(k:Int)) else if aW (fun y=>ov y x) (p.impls.take k) 0>=0 then(10,aW (fun y=>ov y x) (p.impls.take k) 0,(k:Int)) else cl l (k+1)
 no:F=true->S=true->R.1=0->(D:Int)<=8->∀(i k:Nat) (x y:Impl),i<k->p.impls[i]?=some x->p.impls[k]?=some y->x.trait=y.trait->ap x=true->ap y=true->False
def rW (p:Prog) (R:Int×Int×Int) (cl:List Impl->Nat->Int×Int×Int) (k:Nat) (s:Int×Int×Int):Prop:=(s=(0,0,0)/\cl (p.impls.drop k) k=R)\/(¬s.1=0/\s=R)
def Tf (n:Nat) (q:Nat->Int) (a:Int×Int×Int) (m:Nat) (s:Int×Int×Int):Prop:=(s=a/\q m=q 0)\/(s=(10,q 0,(n:Int))/\0<=q 0)
section
variable {p:Prog}{R:Int×Int×Int}{va ob:Impl->Bool}{ov:Impl->Impl->Bool}{cl:List Impl->Nat->Int×Int×Int}{k:Nat}{s:Int×Int×Int}{x:Impl}
theorem HX (cn:∀k,cl [] k=(0,0,0)) (h:rW p R cl k s) (a:¬k<p.impls.length\/¬s.1=0):R.1=s.1/\R.2.1=s.2.1/\R.2.2=s.2.2:=by
 rcases h with⟨rfl,h⟩ | ⟨_,rfl⟩
 ·rcases a with a | a
  ·rw[bQ a,cn] at h;rw[<-h];exact⟨rfl,rfl,rfl⟩
  ·exact fL rfl a
 ·exact⟨rfl,rfl,rfl⟩
theorem inv_zero (h:rW p R cl k s) (h0:s.1=0):s=(0,0,0)/\cl (p.impls.drop k) k=R:=by
 rcases h with h | ⟨h,_⟩
 ·exact h
 ·exact fL h0 h
variable (cc:∀x l k,cl (x::l) k=if va x=false then(1,(k:Int),(k:Int)) else if ob x=true then(9,(k:Int),(k:Int)) else if aW (fun y=>ov y x) (p.impls.take k) 0>=0 then(10,aW (fun y=>ov y x) (p.impls.take k) 0,(k:Int)) else cl l (k+1))
include cc
theorem Qp (h:rW p R cl k s) (h0:s.1=0) (a:p.impls.drop k=x::p.impls.drop (k+1)) (b:va x=false):rW p R cl (k+1) (1,(k:Int),(k:Int)):=by
 obtain⟨_,h⟩:=inv_zero h h0;rw[a,cc,eu b] at h;exact .inr ⟨(by decide:¬(1:Int)=0),h⟩
theorem MI (h:rW p R cl k s) (h0:s.1=0) (a:p.impls.drop k=x::p.impls.drop (k+1)) (c:va x=true) (b:ob x=true):rW p R cl (k+1) (9,(k:Int),(k:Int)):=by
 obtain⟨_,h⟩:=inv_zero h h0;rw[a,cc,fo (by rw[c];exact Bool.noConfusion),eu b] at h;exact .inr ⟨(by decide:¬(9:Int)=0),h⟩
theorem MJ {m:Nat}{s':Int×Int×Int}(h:rW p R cl k s) (h0:s.1=0) (f:p.impls.drop k=x::p.impls.drop (k+1)) (n:va x=true) (j:ob x=false) (o:k<p.impls.length) (r:m<=k)
  (d:Tf k (fun m=>aW (fun y=>ov y x) ((p.impls.take k).drop m) m) s m s') (he:¬m<k\/¬s'.1=0):rW p R cl (k+1) s':=by
 obtain⟨e,h⟩:=inv_zero h h0;rw[f,cc,fo (by rw[n];exact Bool.noConfusion),fo (by rw[j];exact aa7)] at h;rcases d with⟨h1,a⟩ | ⟨h1,a⟩
 ·have c:¬m<k:=he.resolve_right (fun q=>q (by rw[h1];exact h0));have b:(p.impls.take k).length=k:=by rw[abJ];omega
  have a:aW (fun y=>ov y x) ((p.impls.take k).drop m) m=aW (fun y=>ov y x) ((p.impls.take k).drop 0) (0:Nat):=a;rw[bQ (by rw[b];exact c),List.drop_zero] at a;have a:(-1:Int)=aW (fun y=>ov y x) (p.impls.take k) 0:=a;rw[fo (by omega)] at h;exact .inl ⟨h1.trans e,h⟩
 ·have a:0<=aW (fun y=>ov y x) ((p.impls.take k).drop 0) (0:Nat):=a;have h1:s'=(10,aW (fun y=>ov y x) ((p.impls.take k).drop 0) (0:Nat),(k:Int)):=h1;rw[List.drop_zero] at h1 a;rw[eu (show aW (fun y=>ov y x) (p.impls.take k) 0>=0 from a)] at h;exact .inr ⟨by rw[h1];exact(by decide:¬(10:Int)=0),h1.trans h⟩
end
theorem Yk (p:Prog) (t:Ty) (F S:Bool) (R:Int×Int×Int) (D:Nat) (va ob:Impl->Bool) (ov:Impl->Impl->Bool) (ap:Impl->Bool) (cl:List Impl->Nat->Int×Int×Int) (X:Yj p t F S R D va ob ov ap cl):CallsT P 10 [mQ p,aV t] [] (aU [] (.bool true)):=by
 obtain⟨h29,h30,h12,h40,h31,h41,h32,h33,h18,hF,c0,cn,cc,no⟩:=X;have ei:(p.impls.map dH).length=p.impls.length:=vz _;refine af Try.func10 Ow rfl fun hw _=>?_;refine aY h29 rfl fun _=>?_;refine aY h30 rfl fun _=>?_;refine aq (fun q=>aC rfl rfl) (fun q1=>?_);refine aY h12 rfl fun _=>?_;refine aq (fun q=>aC rfl rfl) (fun q2=>?_);have aa:F=true:=by simpa using q1
 have ag:S=true:=by simpa using q2
 have bc:=hF aa;have h32:=h32 aa;have no:=no aa ag;have h18:=h18 ag;refine aY (h40 aa) rfl fun _=>?_;refine bX p.impls.length 12 [9,10,11] ((0,0,0):Int×Int×Int) (fun s=>[IC s.1,IC s.2.1,IC s.2.2]) (fun _=>[]) (fun k s=>rW p R cl k s) (.inl ⟨rfl,c0⟩) (ai rfl) ⟨ai rfl,ai rfl,ai rfl,trivial⟩ trivial (fun _=>rfl) (fun _=>rfl) ?_;rintro k s hk c _ _ _;have c:rW p R cl k s:=c;refine ah (fun b=>ah (fun f=>?_) (fun f=>?_)) (fun az=>?_)
 ·have b:k<p.impls.length:=by rw[ei] at b;omega
  have f:s.1=0:=f;refine aX b fun x hx ba v=>?_;have ad:p.impls[((k:Int)).toNat]?=some x:=hx;refine j4 (by omega) ad ?_;refine bD (h31 x) rfl fun _=>?_;refine aq (fun q=>?_) (fun q3=>?_)
  ·refine Fit.aaf (by omega) (by omega) ?_;exact⟨(k+1,(1,(k:Int),(k:Int))),⟨b,Qp cc c f v (by simpa using q)⟩,⟨bM,ai rfl,ai rfl,ai rfl,trivial⟩,trivial,bN b⟩
  refine j4 (by omega) ad ?_;refine bD (h41 x) rfl fun _=>?_;refine aq (fun q=>?_) (fun q4=>?_)
  ·refine Fit.aaf (by omega) (by omega) ?_;exact⟨(k+1,(9,(k:Int),(k:Int))),⟨b,MI cc c f v (by simpa using q3) q⟩,⟨bM,ai rfl,ai rfl,ai rfl,trivial⟩,trivial,bN b⟩
  refine bX k 13 [9,10,11] s (fun s=>[IC s.1,IC s.2.1,IC s.2.2]) (fun _=>[]) (fun m s'=>Tf k (fun m=>aW (fun y=>ov y x) ((p.impls.take k).drop m) m) s m s') (.inl ⟨rfl,rfl⟩) (ai rfl) ⟨ai rfl,ai rfl,ai rfl,trivial⟩ trivial (fun _=>rfl) (fun _=>rfl) ?_;rintro m s' hm w _ _ _;have w:Tf k (fun m=>aW (fun y=>ov y x) ((p.impls.take k).drop m) m) s m s':=w;refine ah (fun a=>ah (fun h=>?_) (fun h=>?_)) (fun ao=>?_)
  ·have a:m<k:=by omega
   have h:s'.1=0:=h;have ae:s'=s/\aW (fun y=>ov y x) ((p.impls.take k).drop m) m=aW (fun y=>ov y x) ((p.impls.take k).drop 0) (0:Nat):=by
    rcases w with w | ⟨w,_⟩
    ·exact w
    ·rw[w] at h;exact fL (show(10:Int)=0 from h) (by decide)
   refine dP (l:=p.impls) (k:=m) (by omega) fun y hy ac=>?_;have o:(p.impls.take k)[m]?=some y:=by rw[abD,eu a];exact hy
   have am:m<(p.impls.take k).length:=(aaR.1 o).1;have al:(p.impls.take k).drop m=y::(p.impls.take k).drop (m+1):=by
    rw[ab6 am];rw[aaO am] at o;injection o with o
    rw[o]
   refine j4 (by omega) (show p.impls[((m:Int)).toNat]?=some y from hy) ?_;refine j4 (by omega) ad ?_;refine bD (h32 y ac x ba) rfl fun _=>?_;refine aq (fun q=>?_) (fun q=>?_)
   ·refine Fit.aaf (by omega) (by omega) ?_;have hJ:=lV al ae.2 q;refine⟨(m+1,(10,(m:Int),(k:Int))),⟨a,.inr ⟨?_,?_⟩⟩,⟨bM,ai rfl,ai rfl,ai rfl,trivial⟩,trivial,bN a⟩
    ·show((10:Int),(m:Int),(k:Int))=(10,aW (fun y=>ov y x) ((p.impls.take k).drop 0) (0:Nat),(k:Int));rw[<-hJ]
    ·show 0<=aW (fun y=>ov y x) ((p.impls.take k).drop 0) (0:Nat);omega
   ·refine Fit.aaf (by omega) (by omega) ?_;have hJ:=oD al ae.2 q;exact⟨(m+1,s'),⟨a,.inl ⟨ae.1,hJ⟩⟩,⟨bM,ai rfl,ai rfl,ai rfl,trivial⟩,trivial,bN a⟩
  ·refine Fit.aaf (by omega) (by omega) ?_;exact⟨(k+1,s'),⟨b,MJ cc c f v (by simpa using q3) q4 b hm w (.inr h)⟩,⟨bM,ai rfl,ai rfl,ai rfl,trivial⟩,trivial,bN b⟩
  ·refine Fit.aaf (by omega) (by omega) ?_;exact⟨(k+1,s'),⟨b,MJ cc c f v (by simpa using q3) q4 b hm w (.inl (by omega))⟩,⟨bM,ai rfl,ai rfl,ai rfl,trivial⟩,trivial,bN b⟩
 ·have he:=HX cn c (.inr f);refine aR (fun q=>fL he.1 q) (fun _=>?_);refine aR (fun q=>fL he.2.1 q) (fun _=>?_);refine aR (fun q=>fL he.2.2 q) (fun _=>?_);refine bX p.impls.length 14 [] () (fun _=>[]) (fun _=>[]) (fun _ _=>True) trivial (ai rfl) trivial trivial (fun _=>rfl) (fun _=>rfl) ?_;rintro n _ hn _ _ _ _;refine ah (fun d=>ah (fun hz=>aY h18 rfl fun _=>ah (fun hd=>?_) (fun _=>aC rfl rfl)) (fun _=>aC rfl rfl)) (fun _=>aC rfl rfl);have d:n<p.impls.length:=by rw[ei] at d;omega
  have no:=no hz hd;refine bX n 15 [] () (fun _=>[]) (fun _=>[]) (fun _ _=>True) trivial (ai rfl) trivial trivial (fun _=>rfl) (fun _=>rfl) ?_;rintro m _ hm _ _ _ _;refine ah (fun a=>?_) (fun ao=>?_)
  ·have a:m<n:=by omega
   refine dP (l:=p.impls) (k:=m) (by omega) fun y hy ac=>?_;refine dP (l:=p.impls) (k:=n) (by omega) fun z r aw=>?_;have u:p.impls[((m:Int)).toNat]?=some y:=hy;have j:p.impls[((n:Int)).toNat]?=some z:=r;refine j4 (by omega) u ?_;refine j4 (by omega) j ?_;refine ah (fun e=>j4 (by omega) u <| bD (h33 y) rfl fun _=>aq (fun a1=>j4 (by omega) j <| bD (h33 z) rfl fun _=>aq (fun a2=>(no m n y z a hy r e a1 a2).elim) (fun a2=>?_)) (fun a1=>?_)) (fun e=>?_)
   all_goals
    refine Fit.aaf (by omega) (by omega) ?_;exact⟨(m+1,()),⟨a,trivial⟩,⟨bM,trivial⟩,trivial,bN a⟩
  ·refine Fit.aaf (by omega) (by omega) ?_;exact⟨(n+1,()),⟨d,trivial⟩,⟨bM,trivial⟩,trivial,bN d⟩
 ·have he:=HX cn c (.inl (by rw[ei] at az;omega));refine aR (fun q=>fL he.1 q) (fun _=>?_);refine aR (fun q=>fL he.2.1 q) (fun _=>?_);refine aR (fun q=>fL he.2.2 q) (fun _=>?_);refine bX p.impls.length 14 [] () (fun _=>[]) (fun _=>[]) (fun _ _=>True) trivial (ai rfl) trivial trivial (fun _=>rfl) (fun _=>rfl) ?_;rintro n _ hn _ _ _ _;refine ah (fun d=>ah (fun hz=>aY h18 rfl fun _=>ah (fun hd=>?_) (fun _=>aC rfl rfl)) (fun _=>aC rfl rfl)) (fun _=>aC rfl rfl);have d:n<p.impls.length:=by rw[ei] at d;omega
  have no:=no hz hd;refine bX n 15 [] () (fun _=>[]) (fun _=>[]) (fun _ _=>True) trivial (ai rfl) trivial trivial (fun _=>rfl) (fun _=>rfl) ?_;rintro m _ hm _ _ _ _;refine ah (fun a=>?_) (fun ao=>?_)
  ·have a:m<n:=by omega
   refine dP (l:=p.impls) (k:=m) (by omega) fun y hy ac=>?_;refine dP (l:=p.impls) (k:=n) (by omega) fun z r aw=>?_;have u:p.impls[((m:Int)).toNat]?=some y:=hy;have j:p.impls[((n:Int)).toNat]?=some z:=r;refine j4 (by omega) u ?_;refine j4 (by omega) j ?_;refine ah (fun e=>j4 (by omega) u <| bD (h33 y) rfl fun _=>aq (fun a1=>j4 (by omega) j <| bD (h33 z) rfl fun _=>aq (fun a2=>(no m n y z a hy r e a1 a2).elim) (fun a2=>?_)) (fun a1=>?_)) (fun e=>?_)
   all_goals
    refine Fit.aaf (by omega) (by omega) ?_;exact⟨(m+1,()),⟨a,trivial⟩,⟨bM,trivial⟩,trivial,bN a⟩
  ·refine Fit.aaf (by omega) (by omega) ?_;exact⟨(n+1,()),⟨d,trivial⟩,⟨bM,trivial⟩,trivial,bN d⟩
theorem EV {p:Prog}:∀(l:List Impl) (k:Nat),p.impls.drop k=l->(nF p l k).1=0->∀j,k<=j->∀x,p.impls[j]?=some x->gB p x=true/\zB p x=false/\∀y∈p.impls.take j,wJ y x=false
 | [],k,a,h,j,d,x,b=>by
  have:=(aaR.1 b).1;have:=List.drop_eq_nil_iff.1 a;omega
 | z::l,k,a,h,j,d,x,b=>by
  rw[nF] at h;split at h
  ·exact fL h (by decide:¬(1:Int)=0)
  rename_i h1;split at h
  ·exact fL h (by decide:¬(9:Int)=0)
  rename_i o;split at h
  ·exact fL h (by decide:¬(10:Int)=0)
  rename_i f;have c:k<p.impls.length:=by
   by_cases c:k<p.impls.length
   ·exact c
   ·rw[bQ c] at a;cases a
  rw[ab6 c,List.cons.injEq] at a
  by_cases e:j=k
  ·subst e;rw[aaO c,a.1] at b;injection b with b
   subst b;refine⟨by simpa using h1,by simpa using o,fun y n=>?_⟩;cases m:wJ y z with
   | false=>rfl
   | true=>exact fL (Jt (q:=fun y=>wJ y z) (p.impls.take j) n m) f
  ·exact EV l (k+1) a.2 h j (by omega) x b
theorem t10 (h29:CallsT P 29 [] [] (aU [] (.bool true))) (p:Prog) (t:Ty):CallsT P 10 [mQ p,aV t] [] (aU [] (.bool true)):=by
 refine Yk p t (zD p []) (jw [t]) (C2 p) (cu t) (gB p) (zB p) wJ (fun x=>Ah x t) (nF p) ⟨h29,YU p [],SS t,fun hF=>?_,t31 p,t41 p,fun hF y c z m=>?_,fun z=>t33 z t,fun hS=>?_,fun hF=>(kQ hF).2.1,rfl,fun k=>rfl,fun x l k=>rfl,fun hF hS h0 q i k x y e b c d h f=>?_⟩
 ·refine VN p fun x b=>?_;have:=(kQ hF).2.2.2 x b;exact⟨this.2.1,by omega⟩
 ·have h1:=(kQ hF).2.2.2 y c;have o:=(kQ hF).2.2.2 z m;exact t32 y z h1.2.1 o.2.1 (by omega) (by omega)
 ·have:=(BD hS).2 t (by simp);exact t18 t (by omega)
 ·have a:=EV p.impls 0 rfl h0;have v1:=iV (a i (aa8 _) x b).1;obtain⟨v2,_,v3⟩:=a k (aa8 _) y c;have v2:=iV v2;have j:=(kQ hF).2.2.2 x (aaW b);have n:=(kQ hF).2.2.2 y (aaW c);have v3:=v3 x (aaW (i:=i) (by rw[abD,eu e];exact b));exact He v3 (Gh v1 v2 j.2.1 n.2.1 d (by omega) h f)
def MO (h g:cB):Bool:=decide (h.tr=g.tr)&&eqB h.t g.t
theorem Qq (h g:cB):iM h g=MO h g:=by rw[iM,MO,CN]
def zO (p:Prog) (b:List bh):Nat->List cB->Int->cB->pW
 | 0,_,c,_=>(.error 2,c+1)
 | n+1,d,c,g=>if c+1>400 then(.error 2,c+1) else if(d.any fun h=>MO h g)=true then(.error 15,c+1) else
  if aW (lT g) b 0>=0 then(.ok (.mk true (aW (lT g) b 0) [] []),c+1) else
  match qO g p.impls 0 with
  | none=>(.error 9,c+1)
  | some (k,x,ts)=>match gC (zO p b n (d++[g])) (x.bounds.map (mT ts)) (c+1) [] with
   | (.ok ps,a)=>(.ok (.mk false k ts ps),a)
   | (.error e,a)=>(.error e,a)
theorem C9 (p:Prog) (a:List bh):∀n,dh p a n=zO p a n
 | 0=>rfl
 | n+1=>by
  funext ab c g
  rw[dh,zO,C9 p a n];simp only[Qq];rfl
theorem HY {p:Prog}{a:List bh}{tr:Int}{t:Ty}{r:iq}(h:(match(zO p a 401 [] 0 ⟨tr,t⟩).1 with | .ok r=>some r | .error _=>none)=some r):iN p a tr t=(r,0):=by
 unfold iN;rw[C9];cases b:(zO p a 401 [] 0 ⟨tr,t⟩).1 with
 | ok c=>rw[b] at h;injection h with h;subst h;rfl
 | error e=>rw[b] at h;cases h
theorem MP {p:Prog}{a:List bh}{tr:Int}{t:Ty}{e:Int}(h:(match(zO p a 401 [] 0 ⟨tr,t⟩).1 with | .ok _=>none | .error e=>some e)=some e):iN p a tr t=(Al,e):=by
 unfold iN;rw[C9];cases b:(zO p a 401 [] 0 ⟨tr,t⟩).1 with
 | ok d=>rw[b] at h;cases h
 | error c=>rw[b] at h;injection h with h;subst h;rfl
def i0:Impl:=⟨0,0,0,[],iT,0⟩
def i1:Impl:=⟨0,0,1,[⟨0,0⟩],bx (.mk 5 0 []),0⟩
def i2:Impl:=⟨0,0,0,[],bx iT,0⟩
def i3:Impl:=⟨0,1,0,[],.mk 4 0 [iT],0⟩
def pM (l:List Impl):Prog:=⟨[⟨#[109]⟩],[],[],[⟨#[116]⟩],[0],l,[],0⟩
theorem s1:iN (pM [i0,i1]) [] 0 (bx (bx iT))=(.mk false 1 [bx iT] [.mk false 1 [iT] [.mk false 0 [] []]],0):=HY rfl
theorem s2:iN (pM [i0,i1]) [] 0 (.mk 4 0 [iT])=(Al,9):=MP rfl
theorem s3:iN (pM [i0,i1]) [⟨2,0⟩] 0 (bx (.mk 5 2 []))=(.mk false 1 [.mk 5 2 []] [.mk true 0 [] []],0):=HY rfl
theorem v0 (l:List Impl):gB (pM l) i0=true:=rfl
theorem v1 (l:List Impl):gB (pM l) i1=true:=rfl
theorem v2 (l:List Impl):gB (pM l) i2=true:=rfl
theorem v3 (l:List Impl):gB (pM l) i3=true:=rfl
theorem VR:wJ i0 i1=false:=by
 refine(ia fun h=>?_).symm;rw[xk (iV (v0 [])) (iV (v1 [])) (cN rfl) (cN rfl)] at h;obtain⟨_,a,b,_,_,h,_⟩:=h;have:=vv Ty.kind h;rw[subst_eq,subst_eq,fo (by intro q;exact fL q.1 (by decide)),fo (by intro q;exact fL q.1 (by decide))] at this;exact fL (show(1:Int)=3 from this) (by decide)
theorem o02:wJ i0 i2=false:=by
 refine(ia fun h=>?_).symm;rw[xk (iV (v0 [])) (iV (v2 [])) (cN rfl) (cN rfl)] at h;obtain⟨_,a,b,_,_,h,_⟩:=h;have:=vv Ty.kind h;rw[subst_eq,subst_eq,fo (by intro q;exact fL q.1 (by decide)),fo (by intro q;exact fL q.1 (by decide))] at this;exact fL (show(1:Int)=3 from this) (by decide)
theorem Y8:wJ i1 i2=true:=by
 refine(py ?_).symm;rw[xk (iV (v1 [])) (iV (v2 [])) (cN rfl) (cN rfl)];exact⟨rfl,[iT],[],rfl,rfl,rfl,by decide,fun x a=>by rw[abH.1 a];decide,fun x a=>by cases a⟩
theorem c01:C2 (pM [i0,i1])=(0,0,0):=by
 have h1:aW (fun y=>wJ y i1) [i0] 0=-1:=by
  show(if wJ i0 i1=true then(0:Int) else aW _ [] _)=-1;rw[VR];rfl
 show nF (pM [i0,i1]) [i0,i1] 0=_;rw[nF,fo (by rw[v0];simp),fo (by decide),fo (by decide),nF,fo (by rw[v1];simp),fo (by decide)];rw[show(pM [i0,i1]).impls.take (0+1)=[i0] from rfl,h1,fo (by decide)];rfl
theorem Yp:C2 (pM [i0,i1,i2])=(10,1,2):=by
 have h1:aW (fun y=>wJ y i1) [i0] 0=-1:=by
  show(if wJ i0 i1=true then(0:Int) else aW _ [] _)=-1;rw[VR];rfl
 have a:aW (fun y=>wJ y i2) [i0,i1] 0=1:=by
  show(if wJ i0 i2=true then(0:Int) else(if wJ i1 i2=true then _ else aW _ [] _))=1;rw[o02,Y8];rfl
 show nF (pM [i0,i1,i2]) [i0,i1,i2] 0=_;rw[nF,fo (by rw[v0];simp),fo (by decide),fo (by decide),nF,fo (by rw[v1];simp),fo (by decide)];rw[show(pM [i0,i1,i2]).impls.take (0+1)=[i0] from rfl,h1,fo (by decide),nF,fo (by rw[v2];simp),fo (by decide)];rw[show(pM [i0,i1,i2]).impls.take (0+1+1)=[i0,i1] from rfl,a,eu (by decide)];rfl
theorem Yq:C2 (pM [i0,i1,i3])=(9,2,2):=by
 have h1:aW (fun y=>wJ y i1) [i0] 0=-1:=by
  show(if wJ i0 i1=true then(0:Int) else aW _ [] _)=-1;rw[VR];rfl
 show nF (pM [i0,i1,i3]) [i0,i1,i3] 0=_;rw[nF,fo (by rw[v0];simp),fo (by decide),fo (by decide),nF,fo (by rw[v1];simp),fo (by decide)];rw[show(pM [i0,i1,i3]).impls.take (0+1)=[i0] from rfl,h1,fo (by decide),nF,fo (by rw[v3];simp),eu (by decide)];rfl
theorem t70:CallsT P 70 [] [] (aU [] (mQ (pM [i0,i1]))):=by
 refine af Try.func70 O0 rfl fun a _=>?_;refine aY Tk rfl fun _=>?_;refine aY (VL 0) rfl fun _=>?_;refine aY (Si 3 (.mk 5 0 [])) rfl fun _=>?_;exact aC rfl rfl
theorem Yr:CallsT P 70 [] [] (aU [.row 56 8 [dH i0,dH i1]] (.agg [.sl [[.str ⟨#[109]⟩]],.sl [],.sl [],.sl [[.str ⟨#[116]⟩]],.sl [[IC 0]],.rw 1000,.sl [],IC 0])):=by
 refine af Try.func70 MN rfl fun a _=>?_;refine aY Tk rfl fun _=>?_;refine aY (VL 0) rfl fun _=>?_;refine aY (Si 3 (.mk 5 0 [])) rfl fun _=>?_;exact bF [11] rfl rfl rfl rfl
theorem Yt:CallsT P 34 [mQ (pM [i0,i1]),.sl [],IC 0,aV (bx (bx iT))] [] (aU [] (.tup [.agg [.bool false,IC 1,.sl [aI (bx iT)],.sl [iL (.mk false 1 [iT] [.mk false 0 [] []])]],IC 0])):=by
 have:=VQ (pM [i0,i1]) [] 0 (bx (bx iT)) (by decide);rw[s1] at this;exact this
theorem Yu:CallsT P 34 [mQ (pM [i0,i1]),.sl [],IC 0,aV (.mk 4 0 [iT])] [] (aU [] (.tup [.agg [.bool false,IC 0,.sl [],.sl []],IC 9])):=by
 have:=VQ (pM [i0,i1]) [] 0 (.mk 4 0 [iT]) (by decide);rw[s2] at this;exact this
theorem Yv:CallsT P 34 [mQ (pM [i0,i1]),.sl [[IC 2,IC 0]],IC 0,aV (bx (.mk 5 2 []))] [] (aU [] (.tup [.agg [.bool false,IC 1,.sl [aI (.mk 5 2 [])],.sl [iL (.mk true 0 [] [])]],IC 0])):=by
 have:=VQ (pM [i0,i1]) [⟨2,0⟩] 0 (bx (.mk 5 2 [])) (by decide);rw[s3] at this;exact this
theorem VS {l:List Impl}(h:∀x∈l,x=i0\/x=i1\/x=i2\/x=i3):∀x∈l,ji x.type/\cu x.type<=2 ^ 40:=fun x a=>by
 rcases h x a with rfl | rfl | rfl | rfl<;>exact⟨cN rfl,gU rfl⟩
theorem Yw:CallsT P 40 [mQ (pM [i0,i1])] [] (aU [] (.tup [IC 0,IC 0,IC 0])):=by
 have:=VN (pM [i0,i1]) (VS (l:=[i0,i1]) fun x a=>by simp at a;rcases a with rfl | rfl<;>simp);rw[c01] at this;exact this
theorem Yx:CallsT P 40 [mQ (pM [i0,i1,i2])] [] (aU [] (.tup [IC 10,IC 1,IC 2])):=by
 have:=VN (pM [i0,i1,i2]) (VS (l:=[i0,i1,i2]) fun x a=>by simp at a;rcases a with rfl | rfl | rfl<;>simp);rw[Yp] at this;exact this
theorem Yy:CallsT P 40 [mQ (pM [i0,i1,i3])] [] (aU [] (.tup [IC 9,IC 2,IC 2])):=by
 have:=VN (pM [i0,i1,i3]) (VS (l:=[i0,i1,i3]) fun x a=>by simp at a;rcases a with rfl | rfl | rfl<;>simp);rw[Yq] at this;exact this
theorem Rl:DH P 40:=⟨Try.f40,Try.func40,by kernel_rfl,by kernel_rfl⟩
theorem Rm {a b c:Int}{F F':aA}{L L':Loc}{v:Value}(h:Rel F L (.tup [IC a,IC b,IC c]) v):Rel F' L' (.tup [IC a,IC b,IC c]) v:=by
 simp only[Rel,aB] at h ⊢;exact h
abbrev Y9:C:=.agg [.sl [[.str ⟨#[109]⟩]],.sl [],.sl [],.sl [[.str ⟨#[116]⟩]],.sl [[IC 0]],.rw 1000,.sl [],IC 0]
theorem Yz:fG P 40 [Y9] [.row 56 8 [dH i0,dH i1,dH i2]] (aU [.row 56 8 [dH i0,dH i1,dH i2]] (.tup [IC 10,IC 1,IC 2])):=CallsT.aaI Yx Rl Rm
theorem YA:fG P 40 [Y9] [.row 56 8 [dH i0,dH i1,dH i3]] (aU [.row 56 8 [dH i0,dH i1,dH i3]] (.tup [IC 9,IC 2,IC 2])):=CallsT.aaI Yy Rl Rm
theorem h35 (a:iq):CallsT P 35 [kJ a,kJ a] [] (aU [] (.bool true)):=by
 have:=t35 a a;rw[<-py rfl] at this;exact this
theorem YB:CallsT P 32 [zq i1,zq i2] [] (aU [] (.bool true)):=by
 have:=t32 i1 i2 (cN rfl) (cN rfl) (gU rfl) (gU rfl);rw[Mn,show uP (Rb i1 i2)=wJ i1 i2 from rfl,Y8] at this;exact this
theorem YC:CallsT P 32 [zq i0,zq i1] [] (aU [] (.bool false)):=by
 have:=t32 i0 i1 (cN rfl) (cN rfl) (gU rfl) (gU rfl);rw[Mn,show uP (Rb i0 i1)=wJ i0 i1 from rfl,VR] at this;exact this
theorem h37:CallsT P 37 [mQ (pM [i0,i1]),.sl [],IC 0,aV (bx iT),kJ (.mk false 1 [iT] [.mk false 0 [] []])] [] (aU [] (.bool true)) :=
 Yg (pM [i0,i1]) [] (fun x a=>(VS (l:=[i0,i1]) (fun x a=>by simp at a;rcases a with rfl | rfl<;>simp) x a).1) (.mk false 1 [iT] [.mk false 0 [] []]) 0 (bx iT)
theorem VT:CallsT P 14 [mQ (pM [i0,i1]),IC 1,aV (bx (.mk 5 0 []))] [] (aU [] (.bool true)):=YL 1 (pM [i0,i1]) (bx (.mk 5 0 [])) (gU rfl)
set_option maxRecDepth 100000 in
theorem t29:CallsT P 29 [] [] (aU [] (.bool true)):=by
 refine af Try.func29 MK rfl fun a _=>?_;refine aY t70 rfl fun _=>?_;refine aY Tk rfl fun _=>?_;refine aY (Si 3 iT) rfl fun _=>?_;refine bD (Si 3 (bx iT)) rfl fun _=>?_;refine bD Yt rfl fun _=>?_;refine bD Tk rfl fun _=>?_;refine bD (Si 4 iT) rfl fun _=>?_;refine bD Yu rfl fun _=>?_;refine bD (VL 2) rfl fun _=>?_;refine bD (Si 3 (.mk 5 2 [])) rfl fun _=>?_;refine bD Yv rfl fun _=>?_;refine aY Yw rfl fun _=>?_;refine callO [] [5000] Yr rfl rfl rfl rfl rfl fun _ _=>?_;refine rV 2 rfl rfl (by decide) (by decide) ?_;refine vK [5000] Yz rfl rfl rfl rfl rfl ?_;refine bD Tk rfl fun _=>?_;refine bD (Si 4 iT) rfl fun _=>?_;refine BS.mk (by decide) (by decide) ?_;refine⟨rfl,Bp (show[dH i0,dH i1,dH i2][2]?=some (dH i2) from rfl) rfl ?_⟩;refine vK [5000] YA rfl rfl rfl rfl rfl ?_;refine aY Tk rfl fun _=>?_;refine bD (h35 (.mk false 1 [bx iT] [.mk false 1 [iT] [.mk false 0 [] []]])) rfl fun _=>?_;refine bD (VL 2) rfl fun _=>?_;refine bD (h35 (.mk false 1 [.mk 5 2 []] [.mk true 0 [] []])) rfl fun _=>?_;refine FC (show(pM [i0,i1]).impls[1]?=some i1 from rfl) rfl rfl ?_;refine bD YB rfl fun _=>?_;refine FC (show(pM [i0,i1]).impls[0]?=some i0 from rfl) rfl rfl ?_;refine FC (show(pM [i0,i1]).impls[1]?=some i1 from rfl) rfl rfl ?_;refine bD YC rfl fun _=>?_;refine bD h37 rfl fun _=>?_;refine FC (show(pM [i0,i1]).impls[1]?=some i1 from rfl) rfl rfl ?_;refine bD VT rfl fun _=>?_;exact aC rfl rfl
end Go.Fr.Try

