/- Part of the proofs of the statements of this seat. -/
import Derived.Test.YthfdbepkalpplaaGreatVrP0G
import Derived.Test.YthfdbepkalpplaaGreatVrT1G
import Derived.Test.YthfdbepkalpplaaGreatVrT4G
import Derived.WalkSmall
set_option maxRecDepth 10000
set_option linter.unusedVariables false
set_option linter.unusedSimpArgs false
namespace Go.Fr.Tryz
open Go Go.RowKit Go.Proofs Go.Fr Go.Fr.T Go.Fr.Api
def iq (x:Impl) (t:Ty):List Ty×Bool:=if x.params<0\/x.params>4 then([],false) else zB x.params.toNat x.type t
def oN (g:cK):List Impl->Nat->Option (Nat×Impl×List Ty)
 | [],_=>none
 | x::l,k=>if x.trait=g.tr/\(iq x g.t).2=true then some (k,x,(iq x g.t).1) else oN g l (k+1)
def mg (ts:List Ty) (b:aT):cK:=⟨b.trait,if dX b.param ts.length then(ts[b.param.toNat]?).getD zT else zT⟩
abbrev rP:=Except Int eI×Int
def iZ (f:Int->cK->rP):List cK->Int->List eI->Except Int (List eI)×Int
 | [],c,a=>(.ok a,c)
 | g::gs,c,a=>match f c g with
  | (.ok r,b)=>iZ f gs b (a++[r])
  | (.error e,b)=>(.error e,b)
noncomputable def eM (p:Prog) (a:List aT):Nat->List cK->Int->cK->rP
 | 0,_,c,_=>(.error 2,c+1)
 | n+1,d,c,g=>if c+1>400 then(.error 2,c+1) else if(d.any fun h=>gX h g)=true then(.error 15,c+1) else
  if bL (m9 g) a 0>=0 then(.ok (.mk true (bL (m9 g) a 0) [] []),c+1) else
  match oN g p.impls 0 with
  | none=>(.error 9,c+1)
  | some (k,x,ts)=>match iZ (eM p a n (d++[g])) (x.bounds.map (mg ts)) (c+1) [] with
   | (.ok ps,b)=>(.ok (.mk false k ts ps),b)
   | (.error e,b)=>(.error e,b)
def zN (e:Int):Value:=.iface 43 (.int .i64 e)
abbrev VP (p:Prog) (a:List aT):List C:=[.own 1000 0,.own 1001 0,.pt [.sl (a.map aW)] 0,.pt (kh p) 0,.own 1002 0]
abbrev Mv (p:Prog) (a:List aT):C:=.fn 29 [] (VP p a)
abbrev PB (p:Prog) (a:List aT) (c:Int) (gs:List cK):List TO:=[.box 3 [IC c],.box 67 [.rw 1003],.box 68 [Mv p a],Aq gs]
abbrev Ar (p:Prog) (a:List aT) (g:cK):List C:=.agg (ku g)::VP p a
def RQ (p:Prog) (b:List aT) (gs:List cK) (res:rP) (Mo:List TO) (v:C):Prop:=∃r a,res=(.ok r,a)/\Mo=PB p b a gs/\v=.agg (iB r)
def PQ (p:Prog) (b:List aT) (gs:List cK) (res:rP) (Mo:List TO) (v:Value):Prop:=∃e a,res=(.error e,a)/\Mo=PB p b a gs/\v=zN e
def TD (p:Prog) (a:List aT) (c:Int) (gs:List cK) (g:cK) (res:rP):Prop:=CallsTS P 29 (Ar p a g) (PB p a c gs) (RQ p a gs res) (PQ p a gs res)
def Au (p:Prog) (a:List aT) (gs:List cK) (res:rP) (M':TL) (v:Value):Prop:=∃Mo,M'.sub [1000,1001,1002,1003]=some Mo/\PQ p a gs res Mo v
def MB (p:Prog) (a:List aT) (c:Int) (gs:List cK):TL:=[(7,.box 36 [.bool false,IC 0,.nils,.nils]),(1000,.box 3 [IC c]),(1001,.box 67 [.rw 1003]),(1002,.box 68 [Mv p a]),(1003,Aq gs)]
def HB (p:Prog) (g:cK) (τ:aG):Prop:=τ 1=.own 1000 0/\τ 2=.own 1001 0/\τ 4=.pt (kh p) 0/\τ 5=.own 1002 0/\τ 6=.pt (ku g) 0/\τ 7=.own 7 0
abbrev Y9:au:=.seq Y8 (.seq X6 (.seq Wn (.seq VF (.seq Uh (.seq TB RP)))))
theorem Jz (gs:List cK) (g:cK):gs.map ku++[[IC g.tr,IC g.t.kind,IC g.t.id,.sl (g.t.args.map aD)]]=(gs++[g]).map ku:=by rw[abx];rfl
theorem VQ (p:Prog) (a:List aT) (c:Int) (gs:List cK) (g:cK) (res:rP) (s:0<=c/\c<=400) (o:(gs.length:Int)<=c)
  (h1:c+1>400->res=(.error 2,c+1)) (h2:¬c+1>400->(gs.any fun h=>gX h g)=true->res=(.error 15,c+1))
  (h3:¬c+1>400->(gs.any fun h=>gX h g)=false->bL (m9 g) a 0>=0->res=(.ok (.mk true (bL (m9 g) a 0) [] []),c+1)) :
  evalTC P ⟨fun _=>True,[],some (Au p a gs res)⟩ Y9 (fun _ _ _=>False) (fun L ρ=>gV L ρ [(7,some (true,4))] fun n=>eS (PB p a c gs) L (gU n) (RQ p a gs res))
   (fun M τ=>(c+1<=400/\(gs.any fun h=>gX h g)=false/\¬bL (m9 g) a 0>=0)/\M=MB p a (c+1) (gs++[g])/\HB p g τ) (cO (PB p a c gs)) (kG 0 (Ar p a g)):=by
 have e:=t30 gs g (by omega);have d:=Qm g.tr g.t a (m9 g) fun b _=>t33 g b;have l:=Jz gs g;generalize(gs.any fun h=>gX h g)=an at e h2 h3 ⊢;generalize bL (m9 g) a 0=ix at d h3 ⊢;have m:(gs.map ku).length=gs.length:=xo _;refine Fit.aae (by omega) (by omega) ?_;refine ah (fun q=>?_) (fun j=>?_)
 ·exact⟨zN 2,rfl,rfl,trivial,_,rfl,2,c+1,h1 q,rfl,rfl⟩
 have j:¬c+1>400:=j;refine zK [1003] e rfl rfl rfl rfl rfl ?_;refine BI (fun f=>?_) (fun f=>?_)
 ·exact⟨zN 15,rfl,rfl,trivial,_,rfl,15,c+1,h2 j f,rfl,rfl⟩
 refine aF d rfl fun _=>?_;refine ah (fun k=>?_) (fun k=>?_)
 ·exact vG [1000,1001,1002,1003] rfl rfl rfl rfl ⟨_,_,h3 j f k,rfl,by rw[iY];rfl⟩
 refine lD gs.length rfl m (by decide) (by omega) ?_;exact⟨⟨by omega,f,k⟩,vz (fun r=>([(7,.box 36 [.bool false,IC 0,.nils,.nils]),(1000,.box 3 [IC (c+1)]),(1001,.box 67 [.rw 1003]),(1002,.box 68 [Mv p a]),(1003,.row 70 4 r)]:TL)) l,rfl,rfl,rfl,rfl,rfl,rfl⟩
theorem vN {n:Int}{x y:Ty}{l a:List Ty}{m c:TM}(h:nj n (x::l) (y::a) m=(c,true)):∃m1,jZ n x y m=(m1,true)/\nj n l a m1=(c,true):=by
 rw[nj] at h;cases hf:jZ n x y m with
 | mk m1 b =>
  rw[hf] at h;cases b with
  | true=>exact⟨m1,rfl,h⟩
  | false=>cases h
def Qr (m a:TM):Prop:=∀i x,br m i=some x->br a i=some x
theorem Qr.set {m:TM}{i:Int}{x:Ty}(h:br m i=none):Qr m (eV m i x):=fun j y a=>by
 rw[iN];split
 ·rename_i e;rw[e,h] at a;cases a
 ·exact a
theorem Mw (n:Int):∀(p t:Ty) (m a:TM),jZ n p t m=(a,true)->Qr m a:=fun p=>cV (p:=fun p=>∀(t:Ty) (m a:TM),jZ n p t m=(a,true)->Qr m a) (fun p j t m a h=>by
 have c:∀(l:List Ty),(∀x∈l,∀(t:Ty) (m a:TM),jZ n x t m=(a,true)->Qr m a)->∀(b:List Ty) (m a:TM),nj n l b m=(a,true)->Qr m a:=by
  intro l
  induction l with
  | nil=>intro _ b m a h;rw[nj] at h;injection h with h _;subst h;exact fun i x h=>h
  | cons x l d =>
   intro e b m a h;cases b with
   | nil=>rw[nj] at h;injection h with _ h;cases h
   | cons y b =>
    obtain⟨m1,h1,h2⟩:=vN h;exact fun i z c=>d (fun z c=>e z (by simp[c])) b m1 a h2 i z (e x (by simp) y m m1 h1 i z c)
 rw[uE,Jg] at h;split at h
 ·split at h
  ·cases h
  ·split at h
   ·injection h with h _;subst h;exact fun i x h=>h
   ·rename_i f;injection h with h _;subst h;exact Qr.set f
 ·split at h
  ·split at h
   ·exact c p.args j t.args m a h
   ·cases h
  ·cases h) p
theorem JA (n:Nat) (out:List Ty) (u:out.length=n):∀(p t:Ty) (m a:TM),jZ n p t m=(a,true)->(∀(i:Int) (x:Ty),0<=i->br a i=some x->out[i.toNat]?=some x)->subst out p=t:=fun p=>cV (p:=fun p=>∀(t:Ty) (m a:TM),jZ n p t m=(a,true)->(∀(i:Int) (x:Ty),0<=i->br a i=some x->out[i.toNat]?=some x)->subst out p=t) (fun p r t m a h e=>by
 have d:∀(l:List Ty),(∀x∈l,∀(t:Ty) (m a:TM),jZ n x t m=(a,true)->(∀(i:Int) (x:Ty),0<=i->br a i=some x->out[i.toNat]?=some x)->subst out x=t)->∀(b:List Ty) (m a:TM),l.length=b.length->nj n l b m=(a,true)->(∀(i:Int) (x:Ty),0<=i->br a i=some x->out[i.toNat]?=some x)->l.map (subst out)=b:=by
  intro l
  induction l with
  | nil=>intro _ b m a f h e;exact(aby f.symm).symm
  | cons x l c =>
   intro j b m a f h e;cases b with
   | nil=>cases f
   | cons y b =>
    obtain⟨m1,h1,h2⟩:=vN h;have o:Qr m1 a:=by
     have k:∀(l b:List Ty) (m a:TM),nj n l b m=(a,true)->Qr m a:=by
      intro l
      induction l with
      | nil=>intro b m a h;rw[nj] at h;injection h with h _;subst h;exact fun i x h=>h
      | cons x l c =>
       intro b m a h;cases b with
       | nil=>rw[nj] at h;injection h with _ h;cases h
       | cons y b =>
        obtain⟨m1,h1,h2⟩:=vN h;exact fun i z d=>c b m1 a h2 i z (Mw n x y m m1 h1 i z d)
     exact k l b m1 a h2
    rw[aaZ,j x (by simp) y m m1 h1 (fun i z h0 d=>e i z h0 (o i z d)),c (fun z d=>j z (by simp[d])) b m1 a (by simpa using f) h2 e]
 rw[uE,Jg] at h;rw[subst_eq];split at h
 ·rename_i h5;split at h
  ·cases h
  ·rename_i s;rw[fo ⟨h5,by omega,by omega⟩];split at h
   ·rename_i x j;injection h with h1 h2
    subst h1;rw[e _ _ (by omega) j];exact(pI x t).1 h2
   ·injection h with h1 h2
    subst h1;rw[e p.id t (by omega) (by rw[iN,fo rfl])];rfl
 ·rename_i h5;rw[o5 fun q=>h5 q.1];split at h
  ·rename_i he;split at h
   ·rename_i f;exact wk he.1 he.2 (d p.args r t.args m a f h e)
   ·cases h
  ·cases h) p
theorem JB {n:Int}{p:Ty}(h:qM n p=true) (h5:p.kind=5):0<=p.id/\p.id<n/\p.args=[]:=by
 rw[zl,fo h5] at h;simp only[aaN,aa0] at h;exact⟨h.1.1,h.1.2,aby h.2⟩
theorem JC {n:Int}{p:Ty}(h:qM n p=true) (h5:¬p.kind=5):∀x∈p.args,qM n x=true:=by
 rw[zl,o5 h5,aa1] at h;exact h
def Fr (l:List Ty) (m:TM):Prop:=∀(i:Int) (x:Ty),br m i=some x->l[i.toNat]?=some x
def Kn (m a:TM) (q:Int->Bool):Prop:=∀i,br a i≠none↔(br m i≠none\/q i=true)
theorem Mx (l:List Ty):∀p:Ty,qM l.length p=true->∀m,Fr l m->∃b,jZ l.length p (subst l p) m=(b,true)/\Fr l b/\Kn m b (fun i=>hasB i p):=cV fun p w hb m h=>by
 have n:∀(a:List Ty),(∀x∈a,∀m,Fr l m->∃b,jZ l.length x (subst l x) m=(b,true)/\Fr l b/\Kn m b (fun i=>hasB i x))->∀m,Fr l m->∃b,nj l.length a (a.map (subst l)) m=(b,true)/\Fr l b/\Kn m b (fun i=>a.any (hasB i)):=by
  intro a
  induction a with
  | nil=>exact fun _ m h=>⟨m,by rw[nj],h,fun i=>by simp⟩
  | cons x a o =>
   intro d m h;obtain⟨m1,h1,h2,h3⟩:=d x (by simp) m h;obtain⟨m2,h4,h5,h6⟩:=o (fun z n=>d z (by simp[n])) m1 h2;refine⟨m2,by rw[aaZ,nj,h1];exact h4,h5,fun i=>?_⟩;have a6:br m2 i≠none↔(br m1 i≠none\/a.any (hasB i)=true):=h6 i;have r:br m1 i≠none↔(br m i≠none\/hasB i x=true):=h3 i;show br m2 i≠none↔(br m i≠none\/(x::a).any (hasB i)=true);rw[a6,r,abD,abr,or_assoc]
 rw[uE,Jg]
 by_cases h5:p.kind=5
 ·obtain⟨u,t,v⟩:=JB hb h5;obtain⟨x,d⟩:=fK (l:=l) (k:=p.id.toNat) (by omega);have c:subst l p=x:=by rw[subst_eq,fo ⟨h5,u,t⟩,d];rfl
  have f:∀i,hasB i p=decide (p.id=i):=fun i=>by
   rw[CD,v,List.any_nil]
   by_cases e:p.id=i
   ·rw[fo ⟨h5,e⟩,aaP e]
   ·rw[o5 fun q=>e q.2,aaS e]
  rw[fo h5,o5 (by omega),c];cases s:br m p.id with
  | some y =>
   have e:=h _ _ s;rw[d] at e;injection e with e
   subst e;refine⟨m,by simp only;rw[(pI x x).2 rfl],h,fun i=>?_⟩;show br m i≠none↔(br m i≠none\/hasB i p=true);rw[f];constructor
   ·exact fun q=>.inl q
   ·rintro(q | q)
    ·exact q
    ·have q:=abu q;rw[<-q,s];simp
  | none =>
   refine⟨eV m p.id x,rfl,fun i y j=>?_,fun i=>?_⟩
   ·rw[iN] at j;split at j
    ·rename_i e;injection j with j;rw[e,<-j];exact d
    ·exact h i y j
   ·show br (eV m p.id x) i≠none↔(br m i≠none\/hasB i p=true);rw[f,iN]
    by_cases e:i=p.id
    ·rw[fo e,aaP e.symm];simp
    ·rw[o5 e,aaS (fun q=>e q.symm)];simp
 ·have c:subst l p=.mk p.kind p.id (p.args.map (subst l)):=by rw[subst_eq,o5 fun q=>h5 q.1]
  obtain⟨b,h1,h2,h3⟩:=n p.args (fun x d=>w x d (JC hb h5 x d)) m h;refine⟨b,?_,h2,fun i=>?_⟩
  ·rw[o5 h5,c,fo ⟨rfl,rfl⟩,fo (by show p.args.length=(p.args.map _).length;rw[xo])];exact h1
  ·have r:br b i≠none↔(br m i≠none\/p.args.any (hasB i)=true):=h3 i;show br b i≠none↔(br m i≠none\/hasB i p=true);rw[r,CD,o5 fun q=>h5 q.1]
theorem zO {n:Nat}{m:TM}{i:Nat}(h:i<n):(lF n m)[i]?=some ((br m (i:Int)).getD Tl):=by
 rw[lF,aa6,List.getElem?_range h];rfl
theorem EQ {n:Nat}{p t:Ty}{m:TM}(h:jZ n p t []=(m,true)):(lF n m).length=n/\subst (lF n m) p=t:=by
 have a:(lF n m).length=n:=by simp[lF]
 refine⟨a,JA n _ a p t [] m h fun i x h0 c=>?_⟩;have b:=fit_keys n p t [] ⟨by simp,by simp⟩;rw[h] at b;have d:=b.1 _ (Ey c);rw[zO (by omega),show((i.toNat:Nat):Int)=i by omega,c];rfl
theorem ER {l:List Ty}{p:Ty}(h:qM l.length p=true):∃m,jZ l.length p (subst l p) []=(m,true)/\∀i<l.length,(hasB i p=true->(lF l.length m)[i]?=l[i]?)/\(hasB i p=false->(lF l.length m)[i]?=some Tl):=by
 obtain⟨m,h1,h2,h3⟩:=Mx l p h [] fun i x q=>by cases q
 refine⟨m,h1,fun i hi=>⟨fun b=>?_,fun b=>?_⟩⟩
 ·have:=(h3 i).2 (.inr b);cases a:br m (i:Int) with
  | none=>exact vv a this
  | some x =>
   rw[zO hi,a];have:=h2 _ _ a;rw[show((i:Int)).toNat=i by omega] at this;rw[this];rfl
 ·have:¬br m (i:Int)≠none:=fun q=>by
   rcases(h3 i).1 q with q | q
   ·exact q rfl
   ·have q:hasB (i:Int) p=true:=q;rw[b] at q;cases q
  rw[zO hi];cases a:br m (i:Int) with
  | none=>rfl
  | some x=>rw[a] at this;exact vv (by simp) this
theorem ES {t:Ty}:jc t=true↔1<=t.kind/\t.kind<=5:=by rw[jc,aaN,aa0,aa0]
theorem TF {ds:List Api.Data}{n:Int}{t:Ty}(h:wK ds n t=true) (b:jc t=true) (h5:¬t.kind=5):∀x∈t.args,jc x=true/\wK ds n x=true:=fun x c=>by
 obtain⟨_,_,_,a⟩:=xH h h5;obtain⟨h1,h2⟩:=a x c;have:=ES.1 b;exact⟨h1.resolve_right fun q=>by omega,h2⟩
theorem pR {ds:List Api.Data}{n f:Int}:∀t:Ty,wK ds n t=true->jc t=true->∃x,fresh n f t=some x:=cV fun t d h c=>by
 have j:=ES.1 c;rw[lG]
 by_cases h5:t.kind=5
 ·obtain⟨h1,h2,h3⟩:=xG h h5;rw[o5 (by rw[h3,abO];omega),fo h5];exact⟨_,rfl⟩
 ·rw[o5 (by omega),o5 h5];have b:=TF h c h5;obtain⟨l,e⟩:=xE (f:=fresh n f) (l:=t.args) fun x a=>d x a (b x a).2 (b x a).1;rw[e];exact⟨_,rfl⟩
theorem rM {n f m:Int}(hf:0<=f) (e:f+n<=m):∀t x:Ty,fresh n f t=some x->ins m x=true:=cV (p:=fun t=>∀x,fresh n f t=some x->ins m x=true) fun t d x h=>by
 rw[lG] at h;split at h
 ·cases h
 rename_i j;split at h
 ·injection h with h
  rw[<-h];exact vK (by omega) (by omega)
 rename_i h5;cases a:j7 (fresh n f) t.args with
 | none=>rw[a] at h;cases h
 | some l =>
  rw[a] at h;injection h with h
  obtain⟨h1,h2⟩:=gJ a;rw[<-h,qL];show(if t.kind<1\/9<t.kind then false else if t.kind=9 then _ else l.all (ins m))=true;rw[o5 (by omega),o5 (by omega),aa1,h2];intro y c;obtain⟨z,b,rfl⟩:=abq.1 c;exact d z b _ (h1 z b)
theorem oO {n f:Int}{u ts:List Ty}(hf:0<=f) (a:(ts.length:Int)=n) (c:∀i:Nat,i<ts.length->u[f.toNat+i]?=ts[i]?):∀t x:Ty,fresh n f t=some x->gs u x=subst ts t:=cV (p:=fun t=>∀x,fresh n f t=some x->gs u x=subst ts t) fun t d x h=>by
 rw[lG] at h;split at h
 ·cases h
 rename_i e;split at h
 ·rename_i h5;injection h with h
  rw[<-h,kM rfl,subst_eq,fo (by omega)];show(u[(f+t.id).toNat]?).getD _=_;rw[show(f+t.id).toNat=f.toNat+t.id.toNat by omega,c _ (by omega)]
 rename_i h5;cases a:j7 (fresh n f) t.args with
 | none=>rw[a] at h;cases h
 | some l =>
  rw[a] at h;injection h with h
  obtain⟨h1,h2⟩:=gJ a;rw[<-h,iO (by show¬t.kind=9;omega),subst_eq,o5 (fun q=>h5 q.1)];show Ty.mk t.kind t.id (l.map (gs u))=_;rw[h2,abT];exact vz _ (abX fun y b=>d y b _ (h1 y b))
def comm (a b:Impl):Prop:=∃c d:List Ty,(c.length:Int)=a.params/\(d.length:Int)=b.params/\subst c a.type=subst d b.type/\bW (subst c a.type)<=8/\(∀x∈c,bW x<=8)/\∀x∈d,bW x<=8
structure IV (p:Prog) (x:Impl):Prop where
 tr:0<=x.trait/\x.trait<p.traits.length
 sto:jc x.type=true
 pos:0<=x.params/\x.params<=4
 dp:bW x.type<=8
 fm:wK p.datas x.params x.type=true
 occ:∀k:Nat,(k:Int)<x.params->qV k x.type=true
 bd:∀b∈x.bounds,0<=b.param/\b.param<x.params
theorem kN {p:Prog}{x:Impl}(h:ij p x=true):IV p x:=by
 unfold ij at h;simp only[aaN,Bool.not_eq_true'] at h;obtain⟨⟨⟨⟨⟨h1,h2⟩,h3⟩,h4⟩,h5⟩,h6⟩:=h;obtain⟨v1,v2,v3,a⟩:=qU h4;refine⟨dU.1 h1,h3,⟨v1,v2⟩,v3,a,fun k e=>?_,fun b hb=>?_⟩
 ·have c:((x.params.toNat:Nat):Int)=x.params:=by omega
  have d:=zM p.datas x.params.toNat x.type (List.replicate x.params.toNat false) (by rw[c];exact a) (by rw[abo]) k (by omega);have:=(abZ.1 h5) _ (aaU d);rw[ab2,fo (by omega)] at this;simpa using this
 ·have:=(abZ.1 h6) b hb;rw[uN,abr,not_or,Bool.not_eq_true',Bool.not_eq_false,Bool.not_eq_true',Bool.not_eq_false] at this;have:=dU.1 this.1;omega
theorem CX {p:Prog}{a b:Impl}(t:IV p a) (hb:IV p b) (ab:iA a.type) (v:iA b.type):Tp a b↔a.trait=b.trait/\comm a b:=by
 obtain⟨x,d⟩:=pR (f:=0) a.type t.fm t.sto;obtain⟨y,m⟩:=pR (f:=a.params) b.type hb.fm hb.sto;have a0:=t.pos;have b0:=hb.pos;have k:(zeros (a.params+b.params).toNat).length=(a.params+b.params).toNat:=by rw[zeros,abo]
 have o:∀x∈zeros (a.params+b.params).toNat,bW x<=8:=fun x d=>by rw[(abQ.1 d).2];decide
 constructor
 ·rintro⟨h1,_,_,_,_,x',y',r,s,h⟩;refine⟨h1,?_⟩;rw[d] at r;rw[m] at s;injection r with r
  injection s with s
  subst r s;obtain⟨u,w,l,hu,hd⟩:=Jw (by rw[k];omega) o h;rw[k] at w;have l1:(u.take a.params.toNat).length=a.params.toNat:=by rw[abF];omega
  have l2:(u.drop a.params.toNat).length=b.params.toNat:=by rw[List.length_drop];omega
  have q:=oO (n:=a.params) (f:=0) (u:=u) (ts:=u.take a.params.toNat) (aa7 _) (by omega) (fun i hi=>by
   rw[abL,fo (by omega)];simp) a.type x d
  have g2:=oO (n:=b.params) (f:=a.params) (u:=u) (ts:=u.drop a.params.toNat) a0.1 (by omega) (fun i hi=>by rw[abE]) b.type y m;exact⟨u.take a.params.toNat,u.drop a.params.toNat,by omega,by omega,by rw[<-q,<-g2,l],by rw[<-q];exact hd,fun z c=>hu z (List.take_subset _ _ c),fun z c=>hu z (List.drop_subset _ _ c)⟩
 ·rintro⟨h1,e,j,l1,l2,l,hd,d1,d2⟩;refine⟨h1,a0.1,b0.1,a0.2,b0.2,x,y,d,m,?_⟩;have q:=oO (n:=a.params) (f:=0) (u:=e++j) (ts:=e) (aa7 _) l1 (fun i hi=>by
   rw[abH (by simpa using hi)];simp) a.type x d
  have g2:=oO (n:=b.params) (f:=a.params) (u:=e++j) (ts:=j) a0.1 l2 (fun i hi=>by
   rw[abI (by omega)];congr 1;omega) b.type y m
  obtain⟨dz,oz,c⟩:=zC (a.params+b.params).toNat 0;refine Jv c ?_ (fun z c=>by have:=o z c;omega) (u:=e++j) ⟨by rw[k,abA];omega,fun i x d hk=>?_⟩ (by rw[q,g2,l]) (fun z c=>?_) (by rw[q];exact hd)
  ·unfold nP;have r:=(rK a.type x d ab).2;have s:=(rK b.type y m v).2;have q1:=t.dp;have q2:=hb.dp;rw[k,show(((a.params+b.params).toNat:Nat):Int)=a.params+b.params by omega,rM (aa7 0) (show 0+a.params<=a.params+b.params by omega) a.type x d,rM a0.1 (aa7 _) b.type y m,aaS (by omega)];rfl
  ·have:=(abQ.1 (show x∈List.replicate _ _ from aaU d)).2;rw[this] at hk;exact vv rfl hk
  ·rcases aaV.1 c with c | c
   ·exact d1 z c
   ·exact d2 z c
theorem Qs {ds:List Api.Data}{n:Int}:∀t:Ty,wK ds n t=true->qM n t=true:=cV fun t c h=>by
 rw[zl]
 by_cases h5:t.kind=5
 ·obtain⟨h1,h2,h3⟩:=xG h h5;rw[fo h5,aaP h1,aaP h2,h3];rfl
 ·obtain⟨_,_,_,b⟩:=xH h h5;rw[o5 h5,aa1];exact fun x a=>c x a (b x a).2
theorem Qt {k:Int}:∀t:Ty,qV k t=true->hasB k t=true:=cV fun t c h=>by
 rw[uO] at h;rw[CD]
 by_cases h5:t.kind=5
 ·rw[fo h5,aa0] at h;rw[fo ⟨h5,h⟩]
 ·rw[o5 h5,abN] at h;rw[o5 (fun q=>h5 q.1),abN];obtain⟨x,a,b⟩:=h;exact⟨x,a,c x a b⟩
theorem kO {p:Prog}{x:Impl}(c:IV p x) (t:Ty) (ts:List Ty):iq x t=(ts,true)↔(ts.length:Int)=x.params/\subst ts x.type=t:=by
 have h0:=c.pos;unfold iq;rw[o5 (by omega)];unfold zB;constructor
 ·intro h;cases hf:jZ x.params.toNat x.type t [] with
  | mk m b =>
   rw[hf] at h;cases b with
   | false=>injection h with _ h;cases h
   | true =>
    have:=EQ hf;injection h with h _
    have h:lF x.params.toNat m=ts:=h;rw[h] at this;exact⟨by omega,this.2⟩
 ·rintro⟨h1,rfl⟩;have d:(x.params.toNat:Int)=(ts.length:Nat):=by omega
  have a:x.params.toNat=ts.length:=by omega
  obtain⟨m,h2,h3⟩:=ER (l:=ts) (p:=x.type) (Qs x.type (by rw[h1];exact c.fm));rw[a,h2];rw[fo rfl];refine Prod.ext ?_ rfl;refine abP fun i=>?_
  by_cases hi:i<ts.length
  ·exact(h3 i hi).1 (Qt _ (c.occ i (by omega)))
  ·rw[abj (by simp[lF];omega),abj (by show ts.length<=i;omega)]
theorem Qu {ts:List Ty}{k:Nat}{y:Ty}(a:ts[k]?=some y):∀t:Ty,qV k t=true->bW y<=bW (subst ts t):=cV fun t d h=>by
 have e:=(aaT.1 a).1;rw[uO] at h;rw[subst_eq]
 by_cases h5:t.kind=5
 ·rw[fo h5,aa0] at h;rw[fo (by omega),h,show((k:Nat):Int).toNat=k by omega,a];exact aa2 _
 ·rw[o5 h5,abN] at h;obtain⟨x,b,c⟩:=h;rw[o5 (fun q=>h5 q.1),cQ (.mk t.kind t.id (t.args.map (subst ts)))];have:=jY (l:=t.args.map (subst ts)) (abq.2 ⟨x,b,rfl⟩);have:=d x b c;show _<=cG (t.args.map (subst ts))+1;omega
theorem pT {p:Prog}{x:Impl}(c:IV p x) {t:Ty}{ts:List Ty}(d:(ts.length:Int)=x.params) (b:subst ts x.type=t):∀y∈ts,bW y<=bW t:=fun y a=>by
 obtain⟨i,hi⟩:=List.getElem?_of_mem a;have:=(aaT.1 hi).1;rw[<-b];exact Qu hi x.type (c.occ i (by omega))
theorem zP {p:Prog}{a b:Impl}{t:Ty}{c e:List Ty}(h:IV p a) (hb:IV p b) (f:bW t<=8) (h1:iq a t=(c,true)) (h2:iq b t=(e,true)):comm a b:=by
 obtain⟨j,s1⟩:=(kO h t c).1 h1;obtain⟨k,s2⟩:=(kO hb t e).1 h2;exact⟨c,e,j,k,by rw[s1,s2],by rw[s1];exact f,fun y d=>abw (pT h j s1 y d) f,fun y d=>abw (pT hb k s2 y d) f⟩
theorem CallsTS.imp {P:Program}{f:Nat}{args:List C}{Lin:List TO}{R R':List TO->C->Prop}{Pp Pp':List TO->Value->Prop}(h:CallsTS P f args Lin R Pp)
  (z:∀Mo c,R Mo c->R' Mo c) (r:∀Mo v,Pp Mo v->Pp' Mo v):CallsTS P f args Lin R' Pp' :=
 ⟨fun F Li n h1 h2 h3=>let k:=h.out F Li n h1 h2 h3;⟨k.ent,gQ.aap,fun w y=>(k.run w y).mono fun e w' q=>by
  rcases q with⟨v,F',Lo,j,m,b,Mo,c,l,d,a,t,s⟩ | ⟨v,p,F',Lo,j,m,b,o,x,u,Mo,l,d,a⟩
  ·exact .inl ⟨v,F',Lo,j,m,b,Mo,c,l,d,a,t,z _ _ s⟩
  ·exact .inr ⟨v,p,F',Lo,j,m,b,o,x,u,Mo,l,d,r _ _ a⟩⟩⟩
theorem H6 (ks:List Nat) {L:TL}{ρ:aG}{ps:Value->Prop}{hb:List (Nat×Nat)}{st:TL->Value->Prop}{Pp:List TO->Value->Prop}{fb:List Nat}{f:Nat}{args a:List C}{K:TL->aG->C->Prop}{x:C}{Lin Lin' Lo:List TO}(h:CallsTS P f a Lin' (aR Lo x) Pp) (t:L.sub ks=some Lin)
  (d:(T.aU ks&&rX ks fb&&aJ Lin ks ks&&kY L ks hb)=true) (n:(args.map fun c=>c.aaj.ren (bh ks 1000))=a) (j:Lin.map (TO.aad (C.ren (bh ks 1000)))=Lin') (l:ks.length=Lo.length)
  (e:∀v Mo,Pp Mo v->ps v/\st (TL.puts [] ks (Mo.map (TO.aad (C.ren (aN ks))))) v)
  (k:Wf x->(∀o∈Lo,o.Wf)->K (((L.aaf ks).kills (rowsOf L ks)).puts ks (Lo.map (TO.aad (C.ren (aN ks))))) (ef (rowsOf L ks) ρ) (x.ren (aN ks)).slt):tM P ps hb st fb f args L ρ K:=by
 subst n j;simp only[aaN] at d;obtain⟨⟨⟨s,r⟩,c3⟩,c4⟩:=d;exact⟨ks,Lin,_,_,t,s,r,c3,c4,h,fun v Mo q _ _=>e v Mo q,fun v Mo ⟨m,u⟩ p b=>by subst m u;exact⟨l,k p b⟩⟩
theorem H7 (ks:List Nat) {L:TL}{ρ:aG}{ps:Value->Prop}{hb:List (Nat×Nat)}{st:TL->Value->Prop}{Pp:List TO->Value->Prop}{fb:List Nat}{f:Nat}{args a:List C}{K:TL->aG->C->Prop}{Lin Lin':List TO}(h:CallsTS P f a Lin' (fun _ _=>False) Pp) (m:L.sub ks=some Lin)
  (b:(T.aU ks&&rX ks fb&&aJ Lin ks ks&&kY L ks hb)=true) (j:(args.map fun c=>c.aaj.ren (bh ks 1000))=a) (e:Lin.map (TO.aad (C.ren (bh ks 1000)))=Lin')
  (d:∀v Mo,Pp Mo v->ps v/\st (TL.puts [] ks (Mo.map (TO.aad (C.ren (aN ks))))) v):tM P ps hb st fb f args L ρ K:=by
 subst j e;simp only[aaN] at b;obtain⟨⟨⟨l,k⟩,c3⟩,c4⟩:=b;exact⟨ks,Lin,_,_,m,l,k,c3,c4,h,fun v Mo q _ _=>d v Mo q,fun v Mo q=>q.elim⟩
theorem X8 (x:Impl) (t:Ty):CallsT P 35 [aP x.type,aP t,IC x.params] [] (aR [] (.tup [.sl ((iq x t).1.map aD),.bool (iq x t).2])):=by
 unfold iq
 by_cases h:x.params<0\/x.params>4
 ·rw[fo h];refine af Tryz.func35 G6 rfl fun c _=>?_;refine ah (fun _=>ay rfl rfl) (fun b=>ah (fun _=>ay rfl rfl) (fun a=>vv h ?_));have b:¬x.params<0:=b;have a:¬x.params>4:=a;omega
 ·rw[o5 h];have:=t35 x.type t x.params.toNat (by omega);rw[show((x.params.toNat:Nat):Int)=x.params by omega] at this;exact this
theorem VR {l:List Ty}{z:Int}{x:Ty}{K:List C->Prop}(h0:0<=z) (a:l[z.toNat]?=some x) (h:K [IC x.kind,IC x.id,.sl (x.args.map aD)]):tL (l.map aD) z 3 K:=nO h0 a h
def eB (p:Prog) (g:cK):aG:=bq (some 1) (.own 1000 0) (bq (some 2) (.own 1001 0) (bq (some 4) (.pt (kh p) 0) (bq (some 5) (.own 1002 0) (bq (some 6) (.pt (ku g) 0) (bq (some 7) (.own 7 0) fun _=>.any)))))
def Wo (p:Prog) (b:List aT) (gs:List cK) (res:rP):TK:=fun M τ=>τ 7=.own 7 0/\∃r a,res=(.ok r,a)/\M.sub [1000,1001,1002,1003,7]=some (PB p b a gs++[.box 36 (iB r)])
def TG (k:Nat) (ts:List Ty):Except Int (List eI)×Int->rP
 | (.ok ps,a)=>(.ok (.mk false k ts ps),a)
 | (.error e,a)=>(.error e,a)
theorem ET (ps:List eI) (r:eI):ps.map iB++[[.bool r.assumed,IC r.index,.sl (r.types.map aD),.sl (r.proofs.map iB)]]=(ps++[r]).map iB:=by rw[abx,aaZ,abJ,iY r]
theorem VS (p:Prog) (o:List aT) (c:Int) (gs:List cK) (g:cK) (res:rP) (f:Int->cK->rP) (fi:List Impl->Nat->Option (Nat×Impl×List Ty)) (hc:0<=c/\c<=400) (hg:(gs.length:Int)<=c)
  (cm:p.impls.length<=9223372036854775807)
  (bd:∀k,fi [] k=none) (ar:∀x l k,fi (x::l) k=if x.trait=g.tr/\(iq x g.t).2=true then some (k,x,(iq x g.t).1) else fi l (k+1))
  (hn:fi p.impls 0=none->res=(.error 9,c)) (hs:∀k x ts,fi p.impls 0=some (k,x,ts)->res=TG k ts (iZ f (x.bounds.map (mg ts)) c []))
  (hf:∀u g',c<=u->u<=400->TD p o u gs g' (f u g')/\∀r m,f u g'=(.ok r,m)->u<m/\m<=400) :
  evalTC P ⟨fun _=>True,[],some (Au p o gs res)⟩ X7 (fun _ _ _=>False) (Wo p o gs res) (fun _ _=>False) (MB p o c gs) (eB p g):=by
 have ao:=fun x=>X8 x g.t;have bt:=fun(ts:List Ty) (n:Int)=>XP (ts.map aD) n;generalize ag:(fun x=>iq x g.t)=mI;have ag:∀x,iq x g.t=mI x:=fun x=>by rw[<-ag]
 have ar:∀x l k,fi (x::l) k=if x.trait=g.tr/\(mI x).2=true then some (k,x,(mI x).1) else fi l (k+1):=fun x l k=>by rw[<-ag];exact ar x l k
 have ao:∀x:Impl,CallsT P 35 [aP x.type,aP g.t,IC x.params] [] (aR [] (.tup [.sl ((mI x).1.map aD),.bool (mI x).2])):=fun x=>by rw[<-ag];exact ao x
 have aE:(p.impls.map dN).length=p.impls.length:=xo _;have bo:∀x:Impl,(x.bounds.map aW).length=x.bounds.length:=fun x=>xo _;have an:∀l:List Ty,(l.map aD).length=l.length:=fun l=>xo _;have bv:∀c ac,iZ f [] c ac=(.ok ac,c):=fun c ac=>rfl;have bk:∀g l c ac,iZ f (g::l) c ac=match f c g with | (.ok r,u)=>iZ f l u (ac++[r]) | (.error e,u)=>(.error e,u):=fun g l c ac=>rfl
 refine bN p.impls.length 41 [] () (fun _=>[]) (fun _=>[(7,.box 36 [.bool false,IC 0,.nils,.nils]),(1000,.box 3 [IC c]),(1001,.box 67 [.rw 1003]),(1002,.box 68 [Mv p o]),(1003,Aq gs)]) (fun k _=>fi (p.impls.drop k) k=fi p.impls 0) rfl (ai rfl) trivial ⟨.inl ⟨_,rfl,.inl ⟨rfl,rfl⟩⟩,.inl ⟨_,rfl,.inl ⟨rfl,rfl⟩⟩,.inl ⟨_,rfl,.inl ⟨rfl,rfl⟩⟩,.inl ⟨_,rfl,.inl ⟨rfl,rfl⟩⟩,.inl ⟨_,rfl,.inl ⟨rfl,rfl⟩⟩,trivial⟩ (fun _=>rfl) (fun _=>rfl) ?_;rintro k _ hk d _ _ _;have d:fi (p.impls.drop k) k=fi p.impls 0:=d;refine ah (fun aa=>?_) (fun aw=>?_)
 ·have aa:k<p.impls.length:=by rw[aE] at aa;omega
  refine bf aa fun x hx ca bc=>?_;have ba:=bo x;rw[bc,ar] at d;refine rZ (by omega) (show p.impls[((k:Int)).toNat]?=some x from hx) ?_;refine aV (fun q=>?_) (fun q=>?_)
  ·rw[o5 (fun z=>q z.1)] at d;refine Fit.aae (by omega) (by omega) ?_;exact⟨(k+1,()),⟨aa,d⟩,⟨bw,trivial⟩,⟨.inl ⟨_,rfl,.inl ⟨rfl,rfl⟩⟩,.inl ⟨_,rfl,.inl ⟨rfl,rfl⟩⟩,.inl ⟨_,rfl,.inl ⟨rfl,rfl⟩⟩,.inl ⟨_,rfl,.inl ⟨rfl,rfl⟩⟩,.inl ⟨_,rfl,.inl ⟨rfl,rfl⟩⟩,trivial⟩,bB aa⟩
  refine aF (ao x) rfl fun _=>?_;refine aq (fun q2=>?_) (fun q2=>?_)
  ·have q2:(mI x).2=false:=by simpa using q2
   rw[o5 (fun z=>by rw[q2] at z;exact abf z.2)] at d;refine Fit.aae (by omega) (by omega) ?_;exact⟨(k+1,()),⟨aa,d⟩,⟨bw,trivial⟩,⟨.inl ⟨_,rfl,.inl ⟨rfl,rfl⟩⟩,.inl ⟨_,rfl,.inl ⟨rfl,rfl⟩⟩,.inl ⟨_,rfl,.inl ⟨rfl,rfl⟩⟩,.inl ⟨_,rfl,.inl ⟨rfl,rfl⟩⟩,.inl ⟨_,rfl,.inl ⟨rfl,rfl⟩⟩,trivial⟩,bB aa⟩
  have q2:(mI x).2=true:=by simpa using q2
  have q:x.trait=g.tr:=q;rw[fo ⟨q,q2⟩] at d;have am:=hs k x _ d.symm;generalize ch:(mI x).1=ts at am ⊢;refine bN x.bounds.length 69 [] (([]:List eI),c) (fun _=>[]) (fun s=>[(7,.box 36 [.bool false,IC 0,.nils,.nils]),(10,.box 57 [IC x.trait,IC x.module,IC x.params,.sl (x.bounds.map aW),IC x.type.kind,IC x.type.id,.sl (x.type.args.map aD),IC x.func]),(13,.box 36 [.bool false,IC k,.sl (ts.map aD),.rw 91]),(91,.row 36 4 (s.1.map iB)),(1000,.box 3 [IC s.2]),(1001,.box 67 [.rw 1003]),(1002,.box 68 [Mv p o]),(1003,Aq gs)]) (fun j s=>TG k ts (iZ f ((x.bounds.drop j).map (mg ts)) s.2 s.1)=res/\c+j<=s.2/\s.2<=400/\s.1.length=j) ⟨am.symm,by simp,hc.2,rfl⟩ (ai rfl) trivial
   ⟨.inl ⟨_,rfl,.inl ⟨rfl,rfl⟩⟩,.inl ⟨_,rfl,.inl ⟨rfl,rfl⟩⟩,.inl ⟨_,rfl,.inr ⟨36,_,_,rfl,rfl,_,_,rfl,ai rfl,_,_,rfl,ai rfl,_,_,rfl,ai rfl,_,_,rfl,kK rfl rfl,rfl⟩⟩,.inr ⟨rfl,36,4,rfl⟩,.inl ⟨_,rfl,.inl ⟨rfl,rfl⟩⟩,.inl ⟨_,rfl,.inl ⟨rfl,rfl⟩⟩,.inl ⟨_,rfl,.inl ⟨rfl,rfl⟩⟩,.inl ⟨_,rfl,.inl ⟨rfl,rfl⟩⟩,trivial⟩ (fun _=>rfl) (fun _=>rfl) ?_
  rintro j s hj a _ _ _;have a:TG k ts (iZ f ((x.bounds.drop j).map (mg ts)) s.2 s.1)=res/\c+j<=s.2/\s.2<=400/\s.1.length=j:=a;have cp:=a.2.1;have cl:=a.2.2.1;have hl:=a.2.2.2;have a:=a.1;refine ah (fun h=>?_) (fun ad=>?_)
  ·have h:j<x.bounds.length:=by rw[ba] at h;omega
   refine bf h fun b hb cd bm=>?_;rw[bm,aaZ,bk] at a;refine BJ (by omega) (show x.bounds[((j:Int)).toNat]?=some b from hb) ?_;refine aF (bt ts b.param) rfl fun _=>?_;refine BI (fun q3=>?_) (fun q3=>?_)
   ·rw[an] at q3;have q4:=dU.1 q3;refine qe (fK (l:=ts) (k:=b.param.toNat) (by omega)) fun y hy=>?_;refine VR q4.1 hy ?_;have eg:mg ts b=⟨b.trait,y⟩:=by
     unfold mg;rw[q3];rw[fo rfl,hy];rfl
    rw[eg] at a;have hq:=hf s.2 ⟨b.trait,y⟩ (by omega) (by omega);cases hr:f s.2 ⟨b.trait,y⟩ with
    | mk r0 m =>
     rw[hr] at hq a;cases r0 with
     | error e =>
      have w:CallsTS P 29 (Ar p o ⟨b.trait,y⟩) (PB p o s.2 gs) (fun _ _=>False) (fun Mo v=>Mo=PB p o m gs/\v=zN e):=CallsTS.imp hq.1 (fun Mo v ⟨r,u,q,_⟩=>by cases q) (fun Mo v ⟨e',u,q,q1,q2⟩=>by cases q;exact⟨q1,q2⟩);refine H7 [1000,1001,1002,1003] w rfl rfl rfl rfl fun v Mo q=>⟨trivial,PB p o m gs,?_,e,m,a.symm,rfl,q.2⟩;rw[q.1];rfl
     | ok r =>
      have w:CallsTS P 29 (Ar p o ⟨b.trait,y⟩) (PB p o s.2 gs) (aR (PB p o m gs) (.agg [.bool r.assumed,IC r.index,.sl (r.types.map aD),.sl (r.proofs.map iB)])) (fun _ _=>False):=CallsTS.imp hq.1 (fun Mo v ⟨r',u,q,q1,q2⟩=>by cases q;exact⟨q1,by rw[q2,iY]⟩) (fun Mo v ⟨e',u,q,_⟩=>by cases q);have bi:=hq.2 r m rfl;refine H6 [1000,1001,1002,1003] w rfl rfl rfl rfl rfl (fun v Mo q=>q.elim) fun _ _=>?_;refine lD j rfl (by rw[xo];exact hl) (by decide) (by omega) ?_;refine Fit.aae (by omega) (by omega) ?_;exact⟨(j+1,(s.1++[r],m)),⟨h,a,(by show c+((j+1:Nat):Int)<=m;omega),(by show m<=400;omega),by simp[hl]⟩,⟨bw,trivial⟩,⟨.inl ⟨_,rfl,.inl ⟨rfl,rfl⟩⟩,.inl ⟨_,rfl,.inl ⟨rfl,rfl⟩⟩,.inl ⟨_,rfl,.inl ⟨rfl,rfl⟩⟩,.inl ⟨_,rfl,.inl ⟨nN (ET s.1 r),rfl⟩⟩,.inl ⟨_,rfl,.inl ⟨rfl,rfl⟩⟩,.inl ⟨_,rfl,.inl ⟨rfl,rfl⟩⟩,.inl ⟨_,rfl,.inl ⟨rfl,rfl⟩⟩,.inl ⟨_,rfl,.inl ⟨rfl,rfl⟩⟩,trivial⟩,bB h⟩
   ·rw[an] at q3;have eg:mg ts b=⟨b.trait,zT⟩:=by
     unfold mg;rw[q3];rw[o5 abf]
    rw[eg] at a;have hq:=hf s.2 ⟨b.trait,zT⟩ (by omega) (by omega);cases hr:f s.2 ⟨b.trait,zT⟩ with
    | mk r0 m =>
     rw[hr] at hq a;cases r0 with
     | error e =>
      have w:CallsTS P 29 (Ar p o ⟨b.trait,zT⟩) (PB p o s.2 gs) (fun _ _=>False) (fun Mo v=>Mo=PB p o m gs/\v=zN e):=CallsTS.imp hq.1 (fun Mo v ⟨r,u,q,_⟩=>by cases q) (fun Mo v ⟨e',u,q,q1,q2⟩=>by cases q;exact⟨q1,q2⟩);refine H7 [1000,1001,1002,1003] w rfl rfl rfl rfl fun v Mo q=>⟨trivial,PB p o m gs,?_,e,m,a.symm,rfl,q.2⟩;rw[q.1];rfl
     | ok r =>
      have w:CallsTS P 29 (Ar p o ⟨b.trait,zT⟩) (PB p o s.2 gs) (aR (PB p o m gs) (.agg [.bool r.assumed,IC r.index,.sl (r.types.map aD),.sl (r.proofs.map iB)])) (fun _ _=>False):=CallsTS.imp hq.1 (fun Mo v ⟨r',u,q,q1,q2⟩=>by cases q;exact⟨q1,by rw[q2,iY]⟩) (fun Mo v ⟨e',u,q,_⟩=>by cases q);have bi:=hq.2 r m rfl;refine H6 [1000,1001,1002,1003] w rfl rfl rfl rfl rfl (fun v Mo q=>q.elim) fun _ _=>?_;refine lD j rfl (by rw[xo];exact hl) (by decide) (by omega) ?_;refine Fit.aae (by omega) (by omega) ?_;exact⟨(j+1,(s.1++[r],m)),⟨h,a,(by show c+((j+1:Nat):Int)<=m;omega),(by show m<=400;omega),by simp[hl]⟩,⟨bw,trivial⟩,⟨.inl ⟨_,rfl,.inl ⟨rfl,rfl⟩⟩,.inl ⟨_,rfl,.inl ⟨rfl,rfl⟩⟩,.inl ⟨_,rfl,.inl ⟨rfl,rfl⟩⟩,.inl ⟨_,rfl,.inl ⟨nN (ET s.1 r),rfl⟩⟩,.inl ⟨_,rfl,.inl ⟨rfl,rfl⟩⟩,.inl ⟨_,rfl,.inl ⟨rfl,rfl⟩⟩,.inl ⟨_,rfl,.inl ⟨rfl,rfl⟩⟩,.inl ⟨_,rfl,.inl ⟨rfl,rfl⟩⟩,trivial⟩,bB h⟩
  ·have ad:¬j<x.bounds.length:=by rw[ba] at ad;omega
   rw[bU ad,abJ,bv] at a;refine⟨rfl,.mk false k ts s.1,s.2,a.symm,?_⟩;rw[iY];rfl
 ·have aw:¬k<p.impls.length:=by rw[aE] at aw;omega
  rw[bU aw,bd] at d;exact⟨zN 9,rfl,rfl,trivial,_,rfl,9,c,hn d.symm,rfl,rfl⟩
end Go.Fr.Tryz
namespace Go.Fr
open Go Go.RowKit
section
variable {P:Program}
theorem CY {f:FuncId}{fn:Func}{c:Code}{sc:au}{A:cI}{rs:List RV}{F:aA}{Lin:List Own}{R:aA->List Own->Value->Prop}(a:List SV)
  (hf:P.funcs[f]?=some fn) (hb:fn.body=some c) (hl:low P A c=some sc) (hn:fn.ntmps=A.n) (y:nA P fn.results.toList=some rs) (al:a.length<=A.n)
  (m:∀v∈a,(∀k off,v=.own k off->∃g ty cs,(inp Lin).get k=some (.box g ty cs))/\(∀ad j,v=.el ad j->ad≠none))
  (h:jz P sc (fun _ _ _ _=>False) (fun F' L' ρ'=>nS L' ρ' rs fun d=>JP F' L' (gD d) R) (fun F' L' ρ'=>nS L' ρ' rs fun d=>JP F' L' (gD d) R) F (inp Lin) (Da 0 a)) (u:FrameMode) (w:World) (hs:St F (inp Lin) w) :
  CallsD P f (a.map (conc (inp Lin))).toArray u w fun e u' w'=>u'=u/\∃v F' Lo,e=.returned v/\St F' (inp Lo) w'/\Step F (inp Lin) w F' (inp Lo) w'/\R F' Lo v:=by
 refine callsD_of_wp hf hb ?_;have he:aC (inp Lin) (Da 0 a) {tmps:=(a.map (conc (inp Lin))).toArray++Array.replicate (fn.ntmps-(a.map (conc (inp Lin))).toArray.size) undef,defers:=[]}:=by
  have z:∀t,Da 0 a t=.v undef\/Da 0 a t∈a:=by
   intro t;rw[yh];simp only[abd,abm,Nat.sub_zero];cases e:a[t]? with
   | none=>exact .inl rfl
   | some v=>exact .inr (aaU e)
  refine⟨fun t=>?_,fun t k off e=>?_,fun t ad j e=>?_⟩
  ·rw[yh];simp only[abd,abm,Nat.sub_zero,aa9];cases e:a[t]? with
   | some v =>
    have x:t<a.length:=(aaT.1 e).1;rw[Array.getElem?_append_left (by simpa using x)];simp[e]
   | none =>
    have ac:a.length<=t:=abC.1 e;rw[Array.getElem?_append_right (by simpa using ac)];simp only[Array.getElem?_replicate,Option.getD_none,conc];split<;>rfl
  ·rcases z t with h1 | h1
   ·rw[h1] at e;cases e
   ·exact(m _ h1).1 k off e
  ·rcases z t with h1 | h1
   ·rw[h1] at e;cases e
   ·exact(m _ h1).2 ad j e
 refine wp_mono (qH c hl hs he (by simp[hn];omega) h) ?_;intro e a' w' q;have fin:∀{a0:Act},a0.defers=[]->eJ A.n F (inp Lin) w a0 (dR c) (fun F' L' ρ'=>nS L' ρ' rs fun d=>JP F' L' (gD d) R) a' w'->a'.defers=[]/\∃v,(results fn a'.tmps).run P w'=.ok v w' /\
   ∃v' F' Lo,Ending.returned v=.returned v'/\St F' (inp Lo) w'/\Step F (inp Lin) w F' (inp Lo) w'/\R F' Lo v':=by
  rintro a0 ab ⟨F',L',ρ',g1,g2,g3,g4,o,g6,s⟩;obtain⟨d,hm,⟨ko,Lo,k1,k2,k3⟩⟩:=oe g1 g2 y s;refine⟨g4.trans ab,gD d,?_,gD d,F',Lo,rfl,g1.handed k1 k2,?_,k3⟩
  ·rw[pq];rw[Array.mapM_eq_mapM_toList];simp only[Sem.run_bind,Sem.run_map];rw[hm];simp only[Result.andThen_ok,Sem.run_pure];congr 1
   match d with
   | []=>rfl
   | [t]=>rfl
   | t::u::r =>
    simp only[gD];rw[dif_neg (by simp)]
  ·obtain⟨e1,e2⟩:=cE k1;refine⟨o.le,o.os,o.tape,o.output,o.size,o.same,o.frz,fun b hb=>o.own b ?_⟩;obtain⟨j,p,e,hb⟩:=hb;rw[aI] at e;split at e
   case isFalse=>cases e
   have x:j-1000<Lo.length:=(aaT.1 e).1;have hk:ko[j-1000]?=some (ko[j-1000]'(by omega)):=aaQ (by omega);exact⟨_,p,by rw[e2 _ _ hk];exact e,hb⟩
 cases e with
 | normal=>exact fin rfl q
 | ret=>exact fin rfl q
 | exit j=>obtain⟨F',L',ρ',_,_,_,_,_,_,h⟩:=q;exact h.elim
 | goto l=>exact q.elim
 | panic c=>exact(noPan q).elim
 | outgrown=>exact q.elim
end
theorem St.aaC {F:aA}{L1 L2:Loc}{w:World}(b:St F L1 w) (h:∀k o,L2.get k=some o->∃a,L1.get k=some a/\a.blk=o.blk/\o.ok w):St F L2 w :=
 ⟨b.frz,fun k o e=>let⟨_,_,_,h3⟩:=h k o e;h3,fun k o g e d=>let⟨a,h1,h2,_⟩:=h k o e;b.off k a g h1 (h2.trans d),
  fun k f o o' g e j d c=>let⟨a,h1,h2,_⟩:=h k o e;let⟨o2,h3,h4,_⟩:=h f o' j;b.sep k f a o2 g h1 h3 (h2.trans d) (h4.trans c),b.glob⟩
theorem Step.aaC {F F':aA}{L L1 L2:Loc}{w w':World}(a:Step F L w F' L1 w') (h:∀k o,L2.get k=some o->∃c,L1.get k=some c/\c.blk=o.blk):Step F L w F' L2 w' :=
 ⟨a.le,a.os,a.tape,a.output,a.size,a.same,a.frz,fun b ⟨k,o,e,hb⟩=>let⟨c,h1,h2⟩:=h k o e;a.own b ⟨k,c,h1,h2.trans hb⟩⟩
end Go.Fr
namespace Go.Fr.Tryz
open Go Go.RowKit Go.Proofs Go.Fr Go.Fr.T Go.Fr.Api
theorem TH:∃c,Tryz.f34.body=some c/\low Tryz.prog YM c=some ZK:=⟨Tryz.f34.body.getD .skip,by kernel_rfl,by kernel_rfl⟩
theorem VT {F:aA}{b:Nat}{a:Addr}{n c:Nat}{xs:List Value}(m:(n:Int)+1<=9223372036854775807) (p:n+1<=c) (o:a.off=0) (u:FrameMode) (w:World)
  (j:St F (inp [.box b 67 [.slice (some a) (n+1) c],.row (.slice (some a) (n+1) c) 70 4 (n+1) xs]) w) :
  CallsD P 34 #[.pointer (some ⟨b,0,none⟩)] u w fun e h w'=>h=u/\∃v F' Lo,e=.returned v/\St F' (inp Lo) w'/\Step F (inp [.box b 67 [.slice (some a) (n+1) c],.row (.slice (some a) (n+1) c) 70 4 (n+1) xs]) w F' (inp Lo) w' /\
   (Lo=[.box b 67 [.slice (some a) n c],.row (.slice (some a) (n+1) c) 70 4 (n+1) xs]/\v=.tuple #[]):=by
 obtain⟨l,hb,f⟩:=TH;refine CY (P:=P) (A:=YM) (rs:=[]) (R:=fun F' Lo v=>Lo=[.box b 67 [.slice (some a) n c],.row (.slice (some a) (n+1) c) 70 4 (n+1) xs]/\v=.tuple #[]) [.own 1000 0] Tryz.func34 hb f (by kernel_rfl) (by kernel_rfl) (by decide) ?_ ?_ u w j
 ·intro v d;rcases aaX.1 d with rfl | d
  ·exact⟨fun k off e=>by injection e with e1 e2;subst e1;exact⟨_,_,_,rfl⟩,fun _ _ e=>by cases e⟩
  ·cases d
 refine Fit.aae (by omega) (by omega) ?_;refine⟨by omega,by omega,by omega,?_⟩;have e:su (some a) c (0:Int).toNat (((n+1:Nat):Int)-1).toNat 4=.slice (some a) n c:=by
  unfold su;rw[o5 (by show¬c=0;omega),show(((n+1:Nat):Int)-1).toNat=n by omega];rfl
 refine⟨[1000,1001],_,rfl,by decide,?_,rfl⟩;rw[<-e];rfl
theorem wB {F:aA}{sz:Nat}:∀{l m:List (List C)}{xs:List Value},aQ F sz (l++m) xs->aQ F sz l (xs.take (l.length*sz))
 | [],m,xs,_=>by simp[aQ]
 | e::l,m,xs,h=>by
  rw[aa3] at h;simp only[aQ] at h ⊢;obtain⟨b,a,rfl,h1,h2,h3,h4⟩:=h;refine⟨b,a.take (l.length*sz),?_,h1,h2,h3,wB h4⟩;rw[aa8,Nat.add_mul,Nat.one_mul,Nat.add_comm (l.length*sz),List.take_append,abz (by omega),show sz+l.length*sz-b.length=l.length*sz by omega]
theorem TI {F:aA}{f e:Own}{k l:TO}(h0:cN F (inp [f,e]) k f) (h1:cN F (inp [f,e]) l e):bT F (inp [f,e]) (cO [k,l]):=by
 intro j;have c:∀{m:Type}(a b:m) (h:1000<=j),[a,b][j-1000]?=if j=1000 then some a else if j=1001 then some b else none:=fun a b h=>by
  by_cases d:j=1000
  ·rw[fo d,show j-1000=0 by omega];rfl
  rw[o5 d]
  by_cases c:j=1001
  ·rw[fo c,show j-1000=1 by omega];rfl
  rw[o5 c];exact abj (by simp;omega)
 rw[aI,cu]
 by_cases h:1000<=j
 ·rw[fo h,fo h,c _ _ h,c _ _ h]
  by_cases d:j=1000
  ·rw[fo d,fo d];exact h0
  rw[o5 d,o5 d]
  by_cases c:j=1001
  ·rw[fo c,fo c];exact h1
  rw[o5 c,o5 c];trivial
 ·rw[o5 h,o5 h];trivial
theorem RS {F:aA}{p:Prog}{gs:List cK}{g:cK}{Li:List Own}{vs:List Value}(hg:gs.length<=400) (hl:Li.length=2) (aa:bT F (inp Li) (cO [.box 67 [.rw 1001],Aq (gs++[g])])) (ha:aB F (inp Li) [.own 1000 0] vs) (u:FrameMode) (w:World) (hs:St F (inp Li) w) :
  CallsD P 34 vs.toArray u w fun e u' w'=>u'=u/\∃v F' Lo,e=.returned v/\St F' (inp Lo) w'/\Step F (inp Li) w F' (inp Lo) w'/\gQ Li (aR [.box 67 [.rw 1001],Aq gs] (.tup [])) F' Lo v:=by
 match Li,hl with
 | [o0,l],_ =>
  have q0:=aa 1000;have q1:=aa 1001;have q0:cN F (inp [o0,l]) (.box 67 [.rw 1001]) o0:=q0;have q1:cN F (inp [o0,l]) (Aq (gs++[g])) l:=q1;cases o0 with
  | row=>exact q0.elim
  | box b0 t0 c0 =>
  cases l with
  | box=>exact q1.elim
  | row v1 t1 s1 n1 j =>
  obtain⟨y,s⟩:=q0;obtain⟨rfl,rfl,aE,⟨bs,a,cap,bv,bt⟩,z⟩:=q1;simp only[aB,Rel] at s;obtain⟨v,ag,rfl,⟨a',d,t',ba,n',an,rfl,c⟩,rfl⟩:=s;have c:some (Own.row v1 70 4 n1 j)=some (.row (.slice a' n' d) t' ba n' an):=c;injection c with c
  injection c with n e2 e3 e4 e5
  subst n e2 e3 e4 e5;have hn:n1=gs.length+1:=by rw[aE];simp
  subst hn;have ht:t0=67:=by
   obtain⟨_,h | h,_⟩:=y
   ·exact h.symm
   ·omega
  subst ht;have x:w.ownsRow 0 70 4 (.slice a' (gs.length+1) d) (gs.length+1) j:=hs.own 1001 _ rfl;obtain⟨cc,av⟩:=x;rcases av with⟨hz,_⟩ | ⟨m,cp,ch,al,bl,bz,aw,ci,cm,bo⟩
  ·cases hz
  injection al with w1 w2 w3
  subst w1 w3;have az:vs=[.pointer (some ⟨b0,0,none⟩)]:=by
   simp only[aB,Rel] at ha;obtain⟨v,ag,rfl,⟨g',t',cs',c,rfl⟩,rfl⟩:=ha;have c:some (Own.box b0 67 [Value.slice (some ⟨m,0,none⟩) (gs.length+1) d])=some (.box g' t' cs'):=c;injection c with c
   injection c with n
   subst n;rfl
  subst az;refine(VT (by omega) aw rfl u w hs).mono ?_;rintro e u' w' ⟨hu,v,F',Lo,he,g1,g2,rfl,rfl⟩;have bb:j=j.take (gs.length*4)++j.drop (gs.length*4):=(List.take_append_drop _ _).symm;have r:w'.ownsRow 0 70 4 (.slice (some ⟨m,0,none⟩) gs.length d) gs.length (j.take (gs.length*4)):=by
   have h1:=g1.own 1001 _ (show _=some (Own.row (.slice (some ⟨m,0,none⟩) (gs.length+1) d) 70 4 (gs.length+1) j) from rfl);have h1:w'.ownsRow 0 70 4 (.slice (some ⟨m,0,none⟩) (gs.length+1) d) (gs.length+1) j:=h1;rw[bb] at h1;exact ownsRow_pop (by rw[abF];omega) h1
  have q:∀k o,(inp [.box b0 67 [.slice (some ⟨m,0,none⟩) gs.length d],.row (.slice (some ⟨m,0,none⟩) gs.length d) 70 4 gs.length (j.take (gs.length*4))]).get k=some o ->
    ∃l,(inp [.box b0 67 [.slice (some ⟨m,0,none⟩) gs.length d],.row (.slice (some ⟨m,0,none⟩) (gs.length+1) d) 70 4 (gs.length+1) j]).get k=some l/\l.blk=o.blk/\o.ok w':=by
   intro k o f;rw[aI] at f;split at f
   case isFalse=>cases f
   rename_i bm
   by_cases e0:k=1000
   ·subst e0;injection f with f
    subst f;exact⟨_,rfl,rfl,g1.own 1000 _ rfl⟩
   by_cases n:k=1001
   ·subst n;injection f with f
    subst f;exact⟨_,rfl,rfl,r⟩
   rw[abj (by simp;omega)] at f;cases f
  refine⟨hu,.tuple #[],F',_,he,g1.aaC q,g2.aaC (fun k o h=>let⟨l,a,b,_⟩:=q k o h;⟨l,a,b⟩),[.box 67 [.rw 1001],Aq gs],.tup [],rfl,TI ⟨y,?_⟩ ⟨rfl,rfl,by simp,⟨by omega,some ⟨m,0,none⟩,d,rfl,fun h=>by cases h⟩,?_⟩,by simp only[Rel,aB];exact⟨[],rfl,rfl⟩,fun i g t cs hi=>?_,rfl,rfl⟩
  ·simp only[aB,Rel];exact⟨_,_,rfl,⟨_,_,_,_,_,_,rfl,rfl⟩,rfl⟩
  ·have:=z;rw[abx] at this;have h2:=wB this;rw[xo] at h2;exact h2.mono g2.le
  ·cases i with
   | zero =>
    injection hi with hi
    injection hi with n e2 e3
    subst n e2;exact⟨_,rfl⟩
   | succ i =>
    cases i with
    | zero=>injection hi with hi;cases hi
    | succ i=>simp at hi
theorem X9 {F:aA}{p:Prog}{f:List aT}{c:Int}{gs:List cK}{g:cK}{Lo:List Own}{o t1:Nat}{a:List Value}(hg:gs.length<=400) (hl:Lo.length=4) (n:bT F (inp Lo) (cO (PB p f c (gs++[g])))) (h1:Lo[1]?=some (.box o t1 a)) (u:FrameMode) (w:World) (hs:St F (inp Lo) w) :
  CallsD P 34 #[.pointer (some ⟨o,0,none⟩)] u w fun e u' w'=>u'=u/\∃v F' Lo',e=.returned v/\St F' (inp Lo') w'/\Step F (inp Lo) w F' (inp Lo') w'/\Lo'.length=4/\bT F' (inp Lo') (cO (PB p f c gs))/\∀(i:Nat) b t cs,Lo[i]?=some (.box b t cs)->∃cs',Lo'[i]?=some (.box b t cs'):=by
 have ht:TS (fun _=>none) F (inp Lo) (fun _=>.v undef) (cO (PB p f c (gs++[g]))) (fun _=>.any):=⟨n,fun _=>trivial,fun k g t e=>(by cases e),hs.glob⟩;have ac:(cO (PB p f c (gs++[g]))).sub [1001,1003]=some [.box 67 [.rw 1003],Aq (gs++[g])]:=rfl;obtain⟨Li,y,e2,e3⟩:=kH n ac;have hn:[1001,1003].Nodup:=by decide
 obtain⟨x1,x2⟩:=cE y;have x:bT F (inp Li) (cO [.box 67 [.rw 1001],Aq (gs++[g])]):=lI n e2 y e3;have m:(inp Lo).get 1001=some (.box o t1 a):=by rw[aI,fo (by omega)];exact h1
 have ha:aB F (inp Li) [.own 1000 0] [.pointer (some ⟨o,0,none⟩)]:=by
  have h0:Li[0]?=some (.box o t1 a):=by rw[<-x2 0 1001 rfl];exact m
  simp only[aB,Rel];refine⟨_,_,rfl,⟨o,t1,a,?_,rfl⟩,rfl⟩;rw[aI,fo (by omega)];exact h0
 refine(RS (p:=p) hg e2 x ha u w (hs.handed y hn)).mono ?_;rintro e u' w' ⟨hu,v,F',Lr,he,g1,g2,hR⟩;have s:[1001,1003].length=Lr.length:=by
  obtain⟨Mo,c',q1,q2,q3,q4,q5⟩:=hR;rw[<-q1,q5.1];rfl
 obtain⟨c1,l⟩:=gF hs y hn hn (fun k r=>.inl r) g1 g2 s;obtain⟨y1,y2,M',bd,cc,y3,y4,rfl⟩:=rB (K:=fun M' _ _=>M'=(((cO (PB p f c (gs++[g]))).aaf [1001,1003]).kills (rowsOf (cO (PB p f c (gs++[g]))) [1001,1003])).puts [1001,1003] ([TO.box 67 [.rw 1001],Aq gs].map (TO.aad (C.ren (aN [1001,1003]))))) ht rfl rfl rfl rfl y e2 e3
  (fun v' Mo' e _ _=>by obtain⟨q1,q2⟩:=e;subst q1;exact⟨rfl,rfl⟩) v F' Lr g2.le hR
 have ad:((((cO (PB p f c (gs++[g]))).aaf [1001,1003]).kills (rowsOf (cO (PB p f c (gs++[g]))) [1001,1003])).puts [1001,1003] ([TO.box 67 [.rw 1001],Aq gs].map (TO.aad (C.ren (aN [1001,1003]))))).sub [1000,1001,1002,1003]=some (PB p f c gs):=rfl;obtain⟨Lo',d1,d2,d3⟩:=kH y3.tl ad;obtain⟨z1,z2⟩:=cE d1;refine⟨hu,v,F',Lo',he,c1.handed d1 (by decide),?_,d2,lI y3.tl d2 d1 d3,fun i b t cs hi=>?_⟩
 ·refine⟨l.le,l.os,l.tape,l.output,l.size,l.same,l.frz,fun b hb=>l.own b ?_⟩;obtain⟨j,q,e,hb⟩:=hb;rw[aI] at e;split at e
  case isFalse=>cases e
  have d:j-1000<Lo'.length:=(aaT.1 e).1;have r:([1000,1001,1002,1003]:List Nat)[j-1000]?=some (([1000,1001,1002,1003]:List Nat)[j-1000]'(by rw[d2] at d;exact d)):=aaQ _;exact⟨_,q,by rw[z2 _ _ r];exact e,hb⟩
 ·have d:i<4:=by rw[<-hl];exact(aaT.1 hi).1
  have r:([1000,1001,1002,1003]:List Nat)[i]?=some (1000+i):=by
   match i,d with
   | 0,_=>rfl
   | 1,_=>rfl
   | 2,_=>rfl
   | 3,_=>rfl
  have z:(inp Lo).get (1000+i)=some (.box b t cs):=by rw[aI,fo (by omega),show 1000+i-1000=i by omega];exact hi
  by_cases hm:1000+i∈[1001,1003]
  ·obtain⟨cs',h⟩:=y2 _ b t cs hm z;exact⟨cs',by rw[<-z2 i _ r];exact h⟩
  ·refine⟨cs,?_⟩;rw[<-z2 i _ r];rcases cZ [1001,1003] Lr ((inp Lo).aaf [1001,1003]) (1000+i) hn s with⟨a1,a2⟩ | ⟨i',a1,a2,a3⟩
   ·rw[a1,fk,o5 hm];exact z
   ·exact vv (aaU a1) hm
theorem VU {F:aA}{p:Prog}{m:List aT}{c:Int}{gs:List cK}{g:cK}{n:Bool}{i0:Int}{f d:List (List C)}{Lo:List Own}{x t1:Nat}{a:List Value}(hg:gs.length<=400) (hl:Lo.length=5) (s:bT F (inp Lo) (cO (PB p m c (gs++[g])++[.box 36 [.bool n,IC i0,.sl f,.sl d]]))) (h1:Lo[1]?=some (.box x t1 a)) (u:FrameMode) (w:World) (hs:St F (inp Lo) w) :
  CallsD P 34 #[.pointer (some ⟨x,0,none⟩)] u w fun e u' w'=>u'=u/\∃v F' Lo',e=.returned v/\St F' (inp Lo') w'/\Step F (inp Lo) w F' (inp Lo') w'/\Lo'.length=5/\bT F' (inp Lo') (cO (PB p m c gs++[.box 36 [.bool n,IC i0,.sl f,.sl d]]))/\∀(i:Nat) b t cs,Lo[i]?=some (.box b t cs)->∃cs',Lo'[i]?=some (.box b t cs'):=by
 have ht:TS (fun _=>none) F (inp Lo) (fun _=>.v undef) (cO (PB p m c (gs++[g])++[.box 36 [.bool n,IC i0,.sl f,.sl d]])) (fun _=>.any):=⟨s,fun _=>trivial,fun k g t e=>(by cases e),hs.glob⟩;have ag:(cO (PB p m c (gs++[g])++[.box 36 [.bool n,IC i0,.sl f,.sl d]])).sub [1001,1003]=some [.box 67 [.rw 1003],Aq (gs++[g])]:=rfl;obtain⟨Li,e1,e2,e3⟩:=kH s ag;have hn:[1001,1003].Nodup:=by decide
 obtain⟨x1,x2⟩:=cE e1;have aa:bT F (inp Li) (cO [.box 67 [.rw 1001],Aq (gs++[g])]):=lI s e2 e1 e3;have r:(inp Lo).get 1001=some (.box x t1 a):=by rw[aI,fo (by omega)];exact h1
 have ha:aB F (inp Li) [.own 1000 0] [.pointer (some ⟨x,0,none⟩)]:=by
  have h0:Li[0]?=some (.box x t1 a):=by rw[<-x2 0 1001 rfl];exact r
  simp only[aB,Rel];refine⟨_,_,rfl,⟨x,t1,a,?_,rfl⟩,rfl⟩;rw[aI,fo (by omega)];exact h0
 refine(RS (p:=p) hg e2 aa ha u w (hs.handed e1 hn)).mono ?_;rintro e u' w' ⟨hu,v,F',Lr,he,g1,g2,hR⟩;have z:[1001,1003].length=Lr.length:=by
  obtain⟨Mo,c',q1,q2,q3,q4,q5⟩:=hR;rw[<-q1,q5.1];rfl
 obtain⟨c1,o⟩:=gF hs e1 hn hn (fun k y=>.inl y) g1 g2 z;obtain⟨y1,y2,M',bj,cc,y3,y4,rfl⟩:=rB (K:=fun M' _ _=>M'=(((cO (PB p m c (gs++[g])++[.box 36 [.bool n,IC i0,.sl f,.sl d]])).aaf [1001,1003]).kills (rowsOf (cO (PB p m c (gs++[g])++[.box 36 [.bool n,IC i0,.sl f,.sl d]])) [1001,1003])).puts [1001,1003] ([TO.box 67 [.rw 1001],Aq gs].map (TO.aad (C.ren (aN [1001,1003]))))) ht rfl rfl rfl rfl e1 e2 e3
  (fun v' Mo' e _ _=>by obtain⟨q1,q2⟩:=e;subst q1;exact⟨rfl,rfl⟩) v F' Lr g2.le hR
 have al:((((cO (PB p m c (gs++[g])++[.box 36 [.bool n,IC i0,.sl f,.sl d]])).aaf [1001,1003]).kills (rowsOf (cO (PB p m c (gs++[g])++[.box 36 [.bool n,IC i0,.sl f,.sl d]])) [1001,1003])).puts [1001,1003] ([TO.box 67 [.rw 1001],Aq gs].map (TO.aad (C.ren (aN [1001,1003]))))).sub [1000,1001,1002,1003,1004]=some (PB p m c gs++[.box 36 [.bool n,IC i0,.sl f,.sl d]]):=rfl;obtain⟨Lo',d1,d2,d3⟩:=kH y3.tl al;obtain⟨z1,z2⟩:=cE d1;refine⟨hu,v,F',Lo',he,c1.handed d1 (by decide),?_,d2,lI y3.tl d2 d1 d3,fun i b t cs hi=>?_⟩
 ·refine⟨o.le,o.os,o.tape,o.output,o.size,o.same,o.frz,fun b hb=>o.own b ?_⟩;obtain⟨j,q,e,hb⟩:=hb;rw[aI] at e;split at e
  case isFalse=>cases e
  have l:j-1000<Lo'.length:=(aaT.1 e).1;have y:([1000,1001,1002,1003,1004]:List Nat)[j-1000]?=some (([1000,1001,1002,1003,1004]:List Nat)[j-1000]'(by rw[d2] at l;exact l)):=aaQ _;exact⟨_,q,by rw[z2 _ _ y];exact e,hb⟩
 ·have l:i<5:=by rw[<-hl];exact(aaT.1 hi).1
  have y:([1000,1001,1002,1003,1004]:List Nat)[i]?=some (1000+i):=by
   match i,l with
   | 0,_=>rfl
   | 1,_=>rfl
   | 2,_=>rfl
   | 3,_=>rfl
   | 4,_=>rfl
  have ac:(inp Lo).get (1000+i)=some (.box b t cs):=by rw[aI,fo (by omega),show 1000+i-1000=i by omega];exact hi
  by_cases hm:1000+i∈[1001,1003]
  ·obtain⟨cs',h⟩:=y2 _ b t cs hm ac;exact⟨cs',by rw[<-z2 i _ y];exact h⟩
  ·refine⟨cs,?_⟩;rw[<-z2 i _ y];rcases cZ [1001,1003] Lr ((inp Lo).aaf [1001,1003]) (1000+i) hn z with⟨a1,a2⟩ | ⟨i',a1,a2,a3⟩
   ·rw[a1,fk,o5 hm];exact ac
   ·exact vv (aaU a1) hm
end Go.Fr.Tryz
namespace Go.Fr
open Go Go.RowKit
theorem Step.sub {F F':aA}{L L1 L2:Loc}{w w':World}(a:Step F L w F' L1 w') (h:∀b,L2.owns b->L1.owns b):Step F L w F' L2 w' :=
 ⟨a.le,a.os,a.tape,a.output,a.size,a.same,a.frz,fun b hb=>a.own b (h b hb)⟩
end Go.Fr
namespace Go.Fr.Tryz
open Go Go.RowKit Go.Proofs Go.Fr Go.Fr.T Go.Fr.Api
theorem TJ {Lin:List TO}{Li:List Own}{F:aA}{args:List C}{f:List Value}{w:World}(m:Nat) (z:Li.length=Lin.length) (p:bT F (inp Li) (cO Lin)) (u:aB F (inp Li) args f) (y:St F (inp Li) w) :
  ∃(G:Nat->Option (Nat×TypeId)) (a:Env),aC (inp Li) a {tmps:=f.toArray++Array.replicate m undef,defers:=[]}/\TS G F (inp Li) a (cO Lin) (kG 0 args)/\(∀k g t cs,(inp Li).get k=some (.box g t cs)->G k=some (g,t))/\(∀k,G k≠none->1000<=k):=by
 have n:=u.len;have key:∀j,∃sv,aL F (inp Li) (kG 0 args j) sv/\conc (inp Li) sv=(f.toArray++Array.replicate m undef).getD j undef/\(∀k off,sv=.own k off->∃g t cs,(inp Li).get k=some (.box g t cs))/\(∀l i,sv=.el l i->l≠none):=by
  intro j;rw[oD];simp only[abd,abm,Nat.sub_zero,aa9];cases e:args[j]? with
  | some c =>
   have d:j<f.length:=by rw[n];exact(aaT.1 e).1
   obtain⟨s1,s2,s3,x⟩:=rD (u.at e (aaQ d));refine⟨_,s1,?_,s3,fun l i e=>vv e (x l i)⟩;rw[s2,Array.getElem?_append_left (by simpa using d)];simp[d]
  | none =>
   have r:f.length<=j:=by rw[n];exact abC.1 e
   refine⟨.v undef,lz,?_,fun _ _ e=>(by cases e),fun _ _ e=>(by cases e)⟩;rw[Array.getElem?_append_right (by simpa using r)];simp only[Array.getElem?_replicate,conc];split<;>rfl
 let a:Env:=fun j=>(key j).choose
 have he:aC (inp Li) a {tmps:=f.toArray++Array.replicate m undef,defers:=[]} :=
  ⟨fun t=>(key t).choose_spec.2.1.symm,fun t k off e=>(key t).choose_spec.2.2.1 k off e,fun t l j e=>(key t).choose_spec.2.2.2 l j e⟩
 let G:Nat->Option (Nat×TypeId):=fun k=>match(inp Li).get k with | some (.box g t _)=>some (g,t) | _=>none
 have q:∀k g t cs,(inp Li).get k=some (.box g t cs)->G k=some (g,t):=fun k g t cs e=>by simp only[G,e]
 have o:Kp G (inp Li):=by
  intro k g t e;simp only[G] at e;split at e
  ·rename_i g' t' cs h;injection e with e
   injection e with e1 e2
   subst e1 e2;exact⟨cs,h⟩
  ·cases e
 have s:∀k,G k≠none->1000<=k:=by
  intro k b;simp only[G] at b;split at b
  ·rename_i g t cs h;rw[aI] at h;split at h
   ·assumption
   ·cases h
  ·exact vv rfl b
 exact⟨G,a,he,⟨p,fun j=>(key j).choose_spec.1,o,y.glob⟩,q,s⟩
def Ff (G:Nat->Option (Nat×TypeId)) (F0:aA) (Li:List Own) (w0:World) (K:TK) (a:Act) (w:World):Prop :=
 ∃F L ρ M τ,St F L w/\aC L ρ a/\TS G F L ρ M τ/\a.tmps.size=97/\Step F0 (inp Li) w0 F L w/\K M τ
section
variable {G:Nat->Option (Nat×TypeId)}{F0:aA}{Li:List Own}{w0:World}
theorem Ff.piece {c:Code}{u:au}(hl:low Tryz.prog Qq c=some u) (hG:∀k,G k≠none->1000<=k) {PS:qa}{R N K:TK}{a:Act}{w:World}(h:Ff G F0 Li w0 K a w)
  (hK:∀M τ,K M τ->evalTC P PS u (fun _ _ _=>False) R N M τ) {Q:Exit->Act->World->Prop}
  (z:∀a' w',a'.defers=a.defers->Ff G F0 Li w0 N a' w'->Q .normal a' w')
  (hR:∀a' w',a'.defers=a.defers->Ff G F0 Li w0 R a' w'->Q .ret a' w')
  (hP:∀v n a' w',sj v n->a'.defers=a.defers->(∃F' L',St F' L' w'/\Step F0 (inp Li) w0 F' L' w'/\zX G PS F' L' v)->Q (.panic n) a' w'):c.wp P Q a w:=by
 obtain⟨F,L,ρ,M,τ,x,g2,g3,y,t,hk⟩:=h;refine wp_mono (fR c hl (fun k _ q=>.inl (hG k q)) x g2 g3 y (hK M τ hk)) ?_;intro e a' w' d;cases e with
 | normal =>
  obtain⟨F',L',ρ',k1,f,o,m,p,k6,M',b,s,k8⟩:=d;exact z a' w' m ⟨F',L',ρ',M',b,k1,f,s,o,t.trans p,k8⟩
 | ret =>
  obtain⟨F',L',ρ',k1,f,o,m,p,k6,M',b,s,k8⟩:=d;exact hR a' w' m ⟨F',L',ρ',M',b,k1,f,s,o,t.trans p,k8⟩
 | exit j=>obtain⟨F',L',ρ',_,_,_,_,_,_,M',b,_,h⟩:=d;exact h.elim
 | goto l=>exact d.elim
 | panic n =>
  obtain⟨v,r,F',L',k1,f,o,m,p,kp⟩:=d;exact hP v n a' w' r m ⟨F',L',k1,t.trans f,kp⟩
 | outgrown=>exact d.elim
end
theorem EU {F:aA}{L:Loc}{M:TL}(c:FJ F L M):∀{ks:List Nat}{Lin:List TO},M.sub ks=some Lin->∃Li,L.sub ks=some Li/\Li.length=Lin.length/\∀(i:Nat) o p,Lin[i]?=some o->Li[i]?=some p->cN F L o p
 | [],Lin,h=>by simp only[TL.sub,aaO] at h;subst h;exact⟨[],rfl,rfl,by simp⟩
 | k::ks,Lin,h=>by
  simp only[TL.sub] at h;split at h
  case h_2=>cases h
  rename_i o l h1 h2;injection h with h
  subst h;obtain⟨Li,j,n,f⟩:=EU c h2;obtain⟨p,e,d⟩:=c k o h1;refine⟨p::Li,by simp only[Loc.sub,e,j],by simp[n],fun i o' m b a=>?_⟩;cases i with
  | zero =>
   simp only[aa4,aaO] at b a;subst b a;exact d
  | succ i=>exact f i o' m b a
theorem TN {F:aA}{L:Loc}{ks:List Nat}{Lin:List TO}{Li:List Own}(e:Li.length=Lin.length) (d:L.sub ks=some Li) (c:∀(i:Nat) o p,Lin[i]?=some o->Li[i]?=some p->cN F L o p) :
  bT F (inp Li) (cO (Lin.map (TO.aad (C.ren (bh ks 1000))))):=by
 intro k;rw[cu,aI];split
 ·rw[aa6];cases b:Lin[k-1000]? with
  | none =>
   have:Li[k-1000]?=none:=by rw[abC] at b ⊢;omega
   rw[this];trivial
  | some o =>
   have a:k-1000<Li.length:=by have:=(aaT.1 b).1;omega
   rw[aaQ a];exact(c _ _ _ b (aaQ a)).ren (lR d)
 ·trivial
theorem EV {L:Loc}{ks:List Nat}{Lo:List Own}(d:L.sub ks=some Lo):∀b,(inp Lo).owns b->L.owns b:=by
 obtain⟨h,c⟩:=cE d;rintro b ⟨j,p,e,hb⟩;rw[aI] at e;split at e
 case isFalse=>cases e
 have a:j-1000<Lo.length:=(aaT.1 e).1;have f:ks[j-1000]?=some (ks[j-1000]'(by omega)):=aaQ (by omega);exact⟨_,p,by rw[c _ _ f];exact e,hb⟩
theorem TP:X5=.region 10 #[{dst:=some 37,op:=.makeFunc (.func 34) #[] #[.tmp 2],type:=1,pos:="traits.go:134",after:=#[],guard:=none},
  {dst:=none,op:=.defer {callee:=.value (.tmp 37),args:=#[],argTypes:=#[]},type:=0,pos:="traits.go:134",after:=#[{on:=0,ground:=Ground.data}],guard:=none}] false:=by kernel_rfl
def dq (v:Value):Deferred:={target:=.fn (.func 34) #[v],args:=#[]}
theorem wpD {a:Act}{w:World}{v:Value}{Q:Exit->Act->World->Prop}(c:a.tmps.size=97) (h2:a.tmps.getD 2 undef=v) (h:Q .normal {(a.put (some 37) (.func (.func 34) #[] #[v])) with defers:=dq v::a.defers} w):X5.wp P Q a w:=by
 rw[TP];apply wp_region;have h2':a.tmps[2]?.getD undef=v:=by rw[<-aa9];exact h2
 have b:∀q:2<a.tmps.size,a.tmps[2]'q=v:=fun q=>by rw[Array.getElem?_eq_getElem q] at h2';exact h2'
 simp[wpOps,go_sem,Region.wanted,c,h2',b,Array.getElem?_setIfInBounds,Instr.makeFunc]
 first
  | exact .inl (.inl h)
  | (trace_state;sorry)
end Go.Fr.Tryz
