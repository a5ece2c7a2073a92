/- Part of the proofs of the statements of this seat. -/
import Derived.Test.YthfdbepkalpplaaUnH1G
import Derived.Test.YthfdbepkalpplaaTrT4G
import Derived.Test.YthfdbepkalpplaaTrP2G
import Derived.WalkSmall
set_option maxRecDepth 10000
set_option linter.unusedVariables false
set_option linter.unusedSimpArgs false
namespace Go.Fr.Try
open Go Go.RowKit Go.Proofs Go.Fr Go.Fr.T Go.Fr.Api
theorem vk {n:Int}{x y:Ty}{l a:List Ty}{m c:TM}(h:mH n (x::l) (y::a) m=(c,true)):∃m1,jK n x y m=(m1,true)/\mH n l a m1=(c,true):=by
 rw[mH] at h;cases hf:jK n x y m with
 | mk m1 b =>
  rw[hf] at h;cases b with
  | true=>exact⟨m1,rfl,h⟩
  | false=>cases h
def Po (m a:TM):Prop:=∀i x,bg m i=some x->bg a i=some x
theorem Po.set {m:TM}{i:Int}{x:Ty}(h:bg m i=none):Po m (dX m i x):=fun j y a=>by
 rw[ij];split
 ·rename_i e;rw[e,h] at a;cases a
 ·exact a
theorem LS (n:Int):∀(p t:Ty) (m a:TM),jK n p t m=(a,true)->Po m a:=fun p=>dL (p:=fun p=>∀(t:Ty) (m a:TM),jK n p t m=(a,true)->Po m a) (fun p f t m a h=>by
 have c:∀(l:List Ty),(∀x∈l,∀(t:Ty) (m a:TM),jK n x t m=(a,true)->Po m a)->∀(b:List Ty) (m a:TM),mH n l b m=(a,true)->Po m a:=by
  intro l
  induction l with
  | nil=>intro _ b m a h;rw[mH] at h;injection h with h _;subst h;exact fun i x h=>h
  | cons x l d =>
   intro e b m a h;cases b with
   | nil=>rw[mH] at h;injection h with _ h;cases h
   | cons y b =>
    obtain⟨m1,h1,j⟩:=vk h;exact fun i z c=>d (fun z c=>e z (by simp[c])) b m1 a j i z (e x (by simp) y m m1 h1 i z c)
 rw[tW,Io] at h;split at h
 ·split at h
  ·cases h
  ·split at h
   ·injection h with h _;subst h;exact fun i x h=>h
   ·rename_i k;injection h with h _;subst h;exact Po.set k
 ·split at h
  ·split at h
   ·exact c p.args f t.args m a h
   ·cases h
  ·cases h) p
theorem IX (n:Nat) (out:List Ty) (w:out.length=n):∀(p t:Ty) (m a:TM),jK n p t m=(a,true)->(∀(i:Int) (x:Ty),0<=i->bg a i=some x->out[i.toNat]?=some x)->subst out p=t:=fun p=>dL (p:=fun p=>∀(t:Ty) (m a:TM),jK n p t m=(a,true)->(∀(i:Int) (x:Ty),0<=i->bg a i=some x->out[i.toNat]?=some x)->subst out p=t) (fun p u t m a h f=>by
 have c:∀(l:List Ty),(∀x∈l,∀(t:Ty) (m a:TM),jK n x t m=(a,true)->(∀(i:Int) (x:Ty),0<=i->bg a i=some x->out[i.toNat]?=some x)->subst out x=t)->∀(b:List Ty) (m a:TM),l.length=b.length->mH n l b m=(a,true)->(∀(i:Int) (x:Ty),0<=i->bg a i=some x->out[i.toNat]?=some x)->l.map (subst out)=b:=by
  intro l
  induction l with
  | nil=>intro _ b m a j h f;exact(abu j.symm).symm
  | cons x l d =>
   intro k b m a j h f;cases b with
   | nil=>cases j
   | cons y b =>
    obtain⟨m1,h1,e⟩:=vk h;have o:Po m1 a:=by
     have r:∀(l b:List Ty) (m a:TM),mH n l b m=(a,true)->Po m a:=by
      intro l
      induction l with
      | nil=>intro b m a h;rw[mH] at h;injection h with h _;subst h;exact fun i x h=>h
      | cons x l d =>
       intro b m a h;cases b with
       | nil=>rw[mH] at h;injection h with _ h;cases h
       | cons y b =>
        obtain⟨m1,h1,e⟩:=vk h;exact fun i z c=>d b m1 a e i z (LS n x y m m1 h1 i z c)
     exact r l b m1 a e
    rw[aa0,k x (by simp) y m m1 h1 (fun i z h0 c=>f i z h0 (o i z c)),d (fun z c=>k z (by simp[c])) b m1 a (by simpa using j) e f]
 rw[tW,Io] at h;rw[subst_eq];split at h
 ·rename_i s;split at h
  ·cases h
  ·rename_i v;rw[o5 ⟨s,by omega,by omega⟩];split at h
   ·rename_i x k;injection h with h1 e
    subst h1;rw[f _ _ (by omega) k];exact(oO x t).1 e
   ·injection h with h1 e
    subst h1;rw[f p.id t (by omega) (by rw[ij,o5 rfl])];rfl
 ·rename_i s;rw[q9 fun q=>s q.1];split at h
  ·rename_i he;split at h
   ·rename_i j;exact AR he.1 he.2 (c p.args u t.args m a j h f)
   ·cases h
  ·cases h) p
theorem IY {n:Int}{p:Ty}(h:qm n p=true) (a:p.kind=5):0<=p.id/\p.id<n/\p.args=[]:=by
 rw[yB,o5 a] at h;simp only[aaN,aa2] at h;exact⟨h.1.1,h.1.2,abu h.2⟩
theorem IZ {n:Int}{p:Ty}(h:qm n p=true) (a:¬p.kind=5):∀x∈p.args,qm n x=true:=by
 rw[yB,q9 a,aa1] at h;exact h
def Fr (l:List Ty) (m:TM):Prop:=∀(i:Int) (x:Ty),bg m i=some x->l[i.toNat]?=some x
def Kn (m a:TM) (q:Int->Bool):Prop:=∀i,bg a i≠none↔(bg m i≠none\/q i=true)
theorem LV (l:List Ty):∀p:Ty,qm l.length p=true->∀m,Fr l m->∃b,jK l.length p (subst l p) m=(b,true)/\Fr l b/\Kn m b (fun i=>hasB i p):=dL fun p w hb m j=>by
 have r:∀(a:List Ty),(∀x∈a,∀m,Fr l m->∃b,jK l.length x (subst l x) m=(b,true)/\Fr l b/\Kn m b (fun i=>hasB i x))->∀m,Fr l m->∃b,mH l.length a (a.map (subst l)) m=(b,true)/\Fr l b/\Kn m b (fun i=>a.any (hasB i)):=by
  intro a
  induction a with
  | nil=>exact fun _ m j=>⟨m,by rw[mH],j,fun i=>by simp⟩
  | cons x a u =>
   intro f m j;obtain⟨m1,h1,t,s⟩:=f x (by simp) m j;obtain⟨m2,h4,d,h6⟩:=u (fun z r=>f z (by simp[r])) m1 t;refine⟨m2,by rw[aa0,mH,h1];exact h4,d,fun i=>?_⟩;have a6:bg m2 i≠none↔(bg m1 i≠none\/a.any (hasB i)=true):=h6 i;have o:bg m1 i≠none↔(bg m i≠none\/hasB i x=true):=s i;show bg m2 i≠none↔(bg m i≠none\/(x::a).any (hasB i)=true);rw[a6,o,abF,abp,or_assoc]
 rw[tW,Io]
 by_cases d:p.kind=5
 ·obtain⟨b1,b2,b3⟩:=IY hb d;obtain⟨x,f⟩:=j8 (l:=l) (k:=p.id.toNat) (by omega);have c:subst l p=x:=by rw[subst_eq,o5 ⟨d,b1,b2⟩,f];rfl
  have h:∀i,hasB i p=decide (p.id=i):=fun i=>by
   rw[Ci,b3,List.any_nil]
   by_cases e:p.id=i
   ·rw[o5 ⟨d,e⟩,aaS e]
   ·rw[q9 fun q=>e q.2,aaT e]
  rw[o5 d,q9 (by omega),c];cases v:bg m p.id with
  | some y =>
   have e:=j _ _ v;rw[f] at e;injection e with e
   subst e;refine⟨m,by simp only;rw[(oO x x).2 rfl],j,fun i=>?_⟩;show bg m i≠none↔(bg m i≠none\/hasB i p=true);rw[h];constructor
   ·exact fun q=>.inl q
   ·rintro(q | q)
    ·exact q
    ·have q:=abv q;rw[<-q,v];simp
  | none =>
   refine⟨dX m p.id x,rfl,fun i y n=>?_,fun i=>?_⟩
   ·rw[ij] at n;split at n
    ·rename_i e;injection n with n;rw[e,<-n];exact f
    ·exact j i y n
   ·show bg (dX m p.id x) i≠none↔(bg m i≠none\/hasB i p=true);rw[h,ij]
    by_cases e:i=p.id
    ·rw[o5 e,aaS e.symm];simp
    ·rw[q9 e,aaT (fun q=>e q.symm)];simp
 ·have c:subst l p=.mk p.kind p.id (p.args.map (subst l)):=by rw[subst_eq,q9 fun q=>d q.1]
  obtain⟨b,h1,t,s⟩:=r p.args (fun x f=>w x f (IZ hb d x f)) m j;refine⟨b,?_,t,fun i=>?_⟩
  ·rw[q9 d,c,o5 ⟨rfl,rfl⟩,o5 (by show p.args.length=(p.args.map _).length;rw[aaP])];exact h1
  ·have o:bg b i≠none↔(bg m i≠none\/p.args.any (hasB i)=true):=s i;show bg b i≠none↔(bg m i≠none\/hasB i p=true);rw[o,Ci,q9 fun q=>d q.1]
theorem zf {n:Nat}{m:TM}{i:Nat}(h:i<n):(kT n m)[i]?=some ((bg m (i:Int)).getD R3):=by
 rw[kT,aa9,List.getElem?_range h];rfl
theorem Ed {n:Nat}{p t:Ty}{m:TM}(h:jK n p t []=(m,true)):(kT n m).length=n/\subst (kT n m) p=t:=by
 have a:(kT n m).length=n:=by simp[kT]
 refine⟨a,IX n _ a p t [] m h fun i x h0 b=>?_⟩;have c:=fit_keys n p t [] ⟨by simp,by simp⟩;rw[h] at c;have d:=c.1 _ (DW b);rw[zf (by omega),show((i.toNat:Nat):Int)=i by omega,b];rfl
theorem Ee {l:List Ty}{p:Ty}(h:qm l.length p=true):∃m,jK l.length p (subst l p) []=(m,true)/\∀i<l.length,(hasB i p=true->(kT l.length m)[i]?=l[i]?)/\(hasB i p=false->(kT l.length m)[i]?=some R3):=by
 obtain⟨m,h1,d,c⟩:=LV l p h [] fun i x q=>by cases q
 refine⟨m,h1,fun i hi=>⟨fun b=>?_,fun b=>?_⟩⟩
 ·have:=(c i).2 (.inr b);cases a:bg m (i:Int) with
  | none=>exact vv a this
  | some x =>
   rw[zf hi,a];have:=d _ _ a;rw[show((i:Int)).toNat=i by omega] at this;rw[this];rfl
 ·have:¬bg m (i:Int)≠none:=fun q=>by
   rcases(c i).1 q with q | q
   ·exact q rfl
   ·have q:hasB (i:Int) p=true:=q;rw[b] at q;cases q
  rw[zf hi];cases a:bg m (i:Int) with
  | none=>rfl
  | some x=>rw[a] at this;exact vv (by simp) this
theorem Ef {t:Ty}:iN t=true↔1<=t.kind/\t.kind<=5:=by rw[iN,aaN,aa2,aa2]
theorem Sh {ds:List Api.Data}{n:Int}{t:Ty}(h:vV ds n t=true) (a:iN t=true) (b:¬t.kind=5):∀x∈t.args,iN x=true/\vV ds n x=true:=fun x e=>by
 obtain⟨_,_,_,c⟩:=wH h b;obtain⟨h1,d⟩:=c x e;have:=Ef.1 a;exact⟨h1.resolve_right fun q=>by omega,d⟩
theorem zh {ds:List Api.Data}{n f:Int}:∀t:Ty,vV ds n t=true->iN t=true->∃x,fresh n f t=some x:=dL fun t k h c=>by
 have o:=Ef.1 c;rw[mF]
 by_cases a:t.kind=5
 ·obtain⟨h1,m,j⟩:=wG h a;rw[q9 (by rw[j,abN];omega),o5 a];exact⟨_,rfl⟩
 ·rw[q9 (by omega),q9 a];have d:=Sh h c a;obtain⟨l,e⟩:=wF (f:=fresh n f) (l:=t.args) fun x b=>k x b (d x b).2 (d x b).1;rw[e];exact⟨_,rfl⟩
theorem Bo {n f m:Int}(hf:0<=f) (o:f+n<=m):∀t x:Ty,fresh n f t=some x->ins m x=true:=dL (p:=fun t=>∀x,fresh n f t=some x->ins m x=true) fun t c x h=>by
 rw[mF] at h;split at h
 ·cases h
 rename_i j;split at h
 ·injection h with h
  rw[<-h];exact ve (by omega) (by omega)
 rename_i k;cases a:kY (fresh n f) t.args with
 | none=>rw[a] at h;cases h
 | some l =>
  rw[a] at h;injection h with h
  obtain⟨h1,e⟩:=ju a;rw[<-h,u5];show(if t.kind<1\/9<t.kind then false else if t.kind=9 then _ else l.all (ins m))=true;rw[q9 (by omega),q9 (by omega),aa1,e];intro y d;obtain⟨z,b,rfl⟩:=abt.1 d;exact c z b _ (h1 z b)
theorem uo {n f:Int}{u ts:List Ty}(hf:0<=f) (a:(ts.length:Int)=n) (d:∀i:Nat,i<ts.length->u[f.toNat+i]?=ts[i]?):∀t x:Ty,fresh n f t=some x->gs u x=subst ts t:=dL (p:=fun t=>∀x,fresh n f t=some x->gs u x=subst ts t) fun t e x h=>by
 rw[mF] at h;split at h
 ·cases h
 rename_i k;split at h
 ·rename_i c;injection h with h
  rw[<-h,mE rfl,subst_eq,o5 (by omega)];show(u[(f+t.id).toNat]?).getD _=_;rw[show(f+t.id).toNat=f.toNat+t.id.toNat by omega,d _ (by omega)]
 rename_i c;cases a:kY (fresh n f) t.args with
 | none=>rw[a] at h;cases h
 | some l =>
  rw[a] at h;injection h with h
  obtain⟨h1,j⟩:=ju a;rw[<-h,jm (by show¬t.kind=9;omega),subst_eq,q9 (fun q=>c q.1)];show Ty.mk t.kind t.id (l.map (gs u))=_;rw[j,abS];exact xo _ (abV fun y b=>e y b _ (h1 y b))
def comm (a b:Impl):Prop:=∃c d:List Ty,(c.length:Int)=a.params/\(d.length:Int)=b.params/\subst c a.type=subst d b.type/\cK (subst c a.type)<=8/\(∀x∈c,cK x<=8)/\∀x∈d,cK x<=8
structure IV (p:Prog) (x:Impl):Prop where
 tr:0<=x.trait/\x.trait<p.traits.length
 sto:iN x.type=true
 pos:0<=x.params/\x.params<=4
 dp:cK x.type<=8
 fm:vV p.datas x.params x.type=true
 occ:∀k:Nat,(k:Int)<x.params->qB k x.type=true
 bd:∀b∈x.bounds,0<=b.param/\b.param<x.params
theorem kh {p:Prog}{x:Impl}(h:gN p x=true):IV p x:=by
 unfold gN at h;simp only[aaN,Bool.not_eq_true'] at h;obtain⟨⟨⟨⟨⟨h1,n⟩,c⟩,l⟩,e⟩,f⟩:=h;obtain⟨v1,v2,v3,a⟩:=qA l;refine⟨fu.1 h1,c,⟨v1,v2⟩,v3,a,fun k m=>?_,fun b hb=>?_⟩
 ·have d:((x.params.toNat:Nat):Int)=x.params:=by omega
  have j:=zb p.datas x.params.toNat x.type (List.replicate x.params.toNat false) (by rw[d];exact a) (by rw[aby]) k (by omega);have:=(abX.1 e) _ (aaZ j);rw[ab2,o5 (by omega)] at this;simpa using this
 ·have:=(abX.1 f) b hb;rw[ug,abp,not_or,Bool.not_eq_true',Bool.not_eq_false,Bool.not_eq_true',Bool.not_eq_false] at this;have:=fu.1 this.1;omega
theorem CA {p:Prog}{a b:Impl}(t:IV p a) (hb:IV p b) (v:jl a.type) (ab:jl b.type):R6 a b↔a.trait=b.trait/\comm a b:=by
 obtain⟨x,d⟩:=zh (f:=0) a.type t.fm t.sto;obtain⟨y,m⟩:=zh (f:=a.params) b.type hb.fm hb.sto;have a0:=t.pos;have b0:=hb.pos;have e:(zeros (a.params+b.params).toNat).length=(a.params+b.params).toNat:=by rw[zeros,aby]
 have o:∀x∈zeros (a.params+b.params).toNat,cK x<=8:=fun x d=>by rw[(abY.1 d).2];decide
 constructor
 ·rintro⟨h1,_,_,_,_,x',y',s,q,h⟩;refine⟨h1,?_⟩;rw[d] at s;rw[m] at q;injection s with s
  injection q with q
  subst s q;obtain⟨u,aa,l,hu,hd⟩:=IU (by rw[e];omega) o h;rw[e] at aa;have l1:(u.take a.params.toNat).length=a.params.toNat:=by rw[abP];omega
  have l2:(u.drop a.params.toNat).length=b.params.toNat:=by rw[List.length_drop];omega
  have r:=uo (n:=a.params) (f:=0) (u:=u) (ts:=u.take a.params.toNat) (abm _) (by omega) (fun i hi=>by
   rw[abL,o5 (by omega)];simp) a.type x d
  have w:=uo (n:=b.params) (f:=a.params) (u:=u) (ts:=u.drop a.params.toNat) a0.1 (by omega) (fun i hi=>by rw[abz]) b.type y m;exact⟨u.take a.params.toNat,u.drop a.params.toNat,by omega,by omega,by rw[<-r,<-w,l],by rw[<-r];exact hd,fun z c=>hu z (List.take_subset _ _ c),fun z c=>hu z (List.drop_subset _ _ c)⟩
 ·rintro⟨h1,j,k,l1,l2,l,hd,d1,d2⟩;refine⟨h1,a0.1,b0.1,a0.2,b0.2,x,y,d,m,?_⟩;have r:=uo (n:=a.params) (f:=0) (u:=j++k) (ts:=j) (abm _) l1 (fun i hi=>by
   rw[abG (by simpa using hi)];simp) a.type x d
  have w:=uo (n:=b.params) (f:=a.params) (u:=j++k) (ts:=k) a0.1 l2 (fun i hi=>by
   rw[abH (by omega)];congr 1;omega) b.type y m
  obtain⟨dz,oz,c⟩:=Fy (a.params+b.params).toNat 0;refine IQ c ?_ (fun z c=>by have:=o z c;omega) (u:=j++k) ⟨by rw[e,abJ];omega,fun i x d hk=>?_⟩ (by rw[r,w,l]) (fun z c=>?_) (by rw[r];exact hd)
  ·unfold mW;have s:=(wI a.type x d v).2;have q:=(wI b.type y m ab).2;have q1:=t.dp;have q2:=hb.dp;rw[e,show(((a.params+b.params).toNat:Nat):Int)=a.params+b.params by omega,Bo (abm 0) (show 0+a.params<=a.params+b.params by omega) a.type x d,Bo a0.1 (abm _) b.type y m,aaT (by omega)];rfl
  ·have:=(abY.1 (show x∈List.replicate _ _ from aaZ d)).2;rw[this] at hk;exact vv rfl hk
  ·rcases aaX.1 c with c | c
   ·exact d1 z c
   ·exact d2 z c
theorem Pr {ds:List Api.Data}{n:Int}:∀t:Ty,vV ds n t=true->qm n t=true:=dL fun t f h=>by
 rw[yB]
 by_cases a:t.kind=5
 ·obtain⟨h1,d,c⟩:=wG h a;rw[o5 a,aaS h1,aaS d,c];rfl
 ·obtain⟨_,_,_,e⟩:=wH h a;rw[q9 a,aa1];exact fun x b=>f x b (e x b).2
theorem Ps {k:Int}:∀t:Ty,qB k t=true->hasB k t=true:=dL fun t d h=>by
 rw[uh] at h;rw[Ci]
 by_cases a:t.kind=5
 ·rw[o5 a,aa2] at h;rw[o5 ⟨a,h⟩]
 ·rw[q9 a,abT] at h;rw[q9 (fun q=>a q.1),abT];obtain⟨x,b,c⟩:=h;exact⟨x,b,d x b c⟩
theorem sJ {p:Prog}{x:Impl}(c:IV p x) (t:Ty) (ts:List Ty):iS x t=(ts,true)↔(ts.length:Int)=x.params/\subst ts x.type=t:=by
 have h0:=c.pos;unfold iS;rw[q9 (by omega)];unfold yU;constructor
 ·intro h;cases hf:jK x.params.toNat x.type t [] with
  | mk m b =>
   rw[hf] at h;cases b with
   | false=>injection h with _ h;cases h
   | true =>
    have:=Ed hf;injection h with h _
    have h:kT x.params.toNat m=ts:=h;rw[h] at this;exact⟨by omega,this.2⟩
 ·rintro⟨h1,rfl⟩;have f:(x.params.toNat:Int)=(ts.length:Nat):=by omega
  have a:x.params.toNat=ts.length:=by omega
  obtain⟨m,e,d⟩:=Ee (l:=ts) (p:=x.type) (Pr x.type (by rw[h1];exact c.fm));rw[a,e];rw[o5 rfl];refine Prod.ext ?_ rfl;refine abQ fun i=>?_
  by_cases hi:i<ts.length
  ·exact(d i hi).1 (Ps _ (c.occ i (by omega)))
  ·rw[abn (by simp[kT];omega),abn (by show ts.length<=i;omega)]
theorem Pt {ts:List Ty}{k:Nat}{y:Ty}(b:ts[k]?=some y):∀t:Ty,qB k t=true->cK y<=cK (subst ts t):=dL fun t e h=>by
 have f:=(aaU.1 b).1;rw[uh] at h;rw[subst_eq]
 by_cases a:t.kind=5
 ·rw[o5 a,aa2] at h;rw[o5 (by omega),h,show((k:Nat):Int).toNat=k by omega,b];exact aa3 _
 ·rw[q9 a,abT] at h;obtain⟨x,c,d⟩:=h;rw[q9 (fun q=>a q.1),dH (.mk t.kind t.id (t.args.map (subst ts)))];have:=lF (l:=t.args.map (subst ts)) (abt.2 ⟨x,c,rfl⟩);have:=e x c d;show _<=cS (t.args.map (subst ts))+1;omega
theorem zi {p:Prog}{x:Impl}(c:IV p x) {t:Ty}{ts:List Ty}(d:(ts.length:Int)=x.params) (b:subst ts x.type=t):∀y∈ts,cK y<=cK t:=fun y a=>by
 obtain⟨i,hi⟩:=List.getElem?_of_mem a;have:=(aaU.1 hi).1;rw[<-b];exact Pt hi x.type (c.occ i (by omega))
theorem zj {p:Prog}{a b:Impl}{t:Ty}{f d:List Ty}(h:IV p a) (hb:IV p b) (e:cK t<=8) (h1:iS a t=(f,true)) (l:iS b t=(d,true)):comm a b:=by
 obtain⟨k,s1⟩:=(sJ h t f).1 h1;obtain⟨j,s2⟩:=(sJ hb t d).1 l;exact⟨f,d,k,j,by rw[s1,s2],by rw[s1];exact e,fun y c=>abx (zi h k s1 y c) e,fun y c=>abx (zi hb j s2 y c) e⟩
theorem CallsTS.imp {P:Program}{f:Nat}{args:List C}{Lin:List TO}{R R':List TO->C->Prop}{Pp Pp':List TO->Value->Prop}(h:CallsTS P f args Lin R Pp)
  (s:∀Mo c,R Mo c->R' Mo c) (hp:∀Mo v,Pp Mo v->Pp' Mo v):CallsTS P f args Lin R' Pp' :=
 ⟨fun F Li y h1 x p=>let k:=h.out F Li y h1 x p;⟨k.ent,gC.aao,fun w n=>(k.run w n).mono fun e w' q=>by
  rcases q with⟨v,F',Lo,m,l,b,Mo,c,d,a,j,q4,u⟩ | ⟨v,z,F',Lo,m,l,b,t,o,r,Mo,d,a,j⟩
  ·exact .inl ⟨v,F',Lo,m,l,b,Mo,c,d,a,j,q4,s _ _ u⟩
  ·exact .inr ⟨v,z,F',Lo,m,l,b,t,o,r,Mo,d,a,hp _ _ j⟩⟩⟩
theorem Hf (ks:List Nat) {L:TL}{ρ:aK}{ps:Value->Prop}{hb:List (Nat×Nat)}{st:TL->Value->Prop}{Pp:List TO->Value->Prop}{e:List Nat}{f:Nat}{args a:List C}{K:TL->aK->C->Prop}{x:C}{Lin Lin' Lo:List TO}(h:CallsTS P f a Lin' (aU Lo x) Pp) (j:L.sub ks=some Lin)
  (d:(T.aP ks&&qb ks e&&aG Lin ks ks&&jw L ks hb)=true) (n:(args.map fun c=>c.aaj.ren (bA ks 1000))=a) (r:Lin.map (TO.aad (C.ren (bA ks 1000)))=Lin') (m:ks.length=Lo.length)
  (s:∀v Mo,Pp Mo v->ps v/\st (TL.puts [] ks (Mo.map (TO.aad (C.ren (aI ks))))) v)
  (k:Wf x->(∀o∈Lo,o.Wf)->K (((L.aae ks).kills (rowsOf L ks)).puts ks (Lo.map (TO.aad (C.ren (aI ks))))) (dh (rowsOf L ks) ρ) (x.ren (aI ks)).slt):tj P ps hb st e f args L ρ K:=by
 subst n r;simp only[aaN] at d;obtain⟨⟨⟨t,l⟩,c3⟩,c4⟩:=d;exact⟨ks,Lin,_,_,j,t,l,c3,c4,h,fun v Mo q _ _=>s v Mo q,fun v Mo ⟨u,p⟩ w b=>by subst u p;exact⟨m,k w b⟩⟩
theorem Hg (ks:List Nat) {L:TL}{ρ:aK}{ps:Value->Prop}{hb:List (Nat×Nat)}{st:TL->Value->Prop}{Pp:List TO->Value->Prop}{d:List Nat}{f:Nat}{args a:List C}{K:TL->aK->C->Prop}{Lin Lin':List TO}(h:CallsTS P f a Lin' (fun _ _=>False) Pp) (e:L.sub ks=some Lin)
  (b:(T.aP ks&&qb ks d&&aG Lin ks ks&&jw L ks hb)=true) (k:(args.map fun c=>c.aaj.ren (bA ks 1000))=a) (l:Lin.map (TO.aad (C.ren (bA ks 1000)))=Lin')
  (m:∀v Mo,Pp Mo v->ps v/\st (TL.puts [] ks (Mo.map (TO.aad (C.ren (aI ks))))) v):tj P ps hb st d f args L ρ K:=by
 subst k l;simp only[aaN] at b;obtain⟨⟨⟨n,j⟩,c3⟩,c4⟩:=b;exact⟨ks,Lin,_,_,e,n,j,c3,c4,h,fun v Mo q _ _=>m v Mo q,fun v Mo q=>q.elim⟩
theorem Xm (x:Impl) (t:Ty):CallsT P 24 [aT x.type,aT t,IC x.params] [] (aU [] (.tup [.sl ((iS x t).1.map aM),.bool (iS x t).2])):=by
 unfold iS
 by_cases h:x.params<0\/x.params>4
 ·rw[o5 h];refine af Try.func24 Ge rfl fun c _=>?_;refine ah (fun _=>aC rfl rfl) (fun b=>ah (fun _=>aC rfl rfl) (fun a=>vv h ?_));have b:¬x.params<0:=b;have a:¬x.params>4:=a;omega
 ·rw[q9 h];have:=t24 x.type t x.params.toNat (by omega);rw[show((x.params.toNat:Nat):Int)=x.params by omega] at this;exact this
theorem UC {l:List Ty}{z:Int}{x:Ty}{K:List C->Prop}(h0:0<=z) (a:l[z.toNat]?=some x) (h:K [IC x.kind,IC x.id,.sl (x.args.map aM)]):uI (l.map aM) z 3 K:=yF h0 a h
def eB (p:Prog) (g:cn):aK:=bq (some 1) (.own 1000 0) (bq (some 2) (.own 1001 0) (bq (some 4) (.pt (jU p) 0) (bq (some 5) (.own 1002 0) (bq (some 6) (.pt (jV g) 0) (bq (some 7) (.own 7 0) fun _=>.any)))))
def U2 (p:Prog) (b:List aR) (gs:List cn) (res:pE):TK:=fun M τ=>τ 7=.own 7 0/\∃r a,res=(.ok r,a)/\M.sub [1000,1001,1002,1003,7]=some (PB p b a gs++[.box 64 (iq r)])
def Si (k:Nat) (ts:List Ty):Except Int (List gS)×Int->pE
 | (.ok ps,a)=>(.ok (.mk false k ts ps),a)
 | (.error e,a)=>(.error e,a)
theorem Eg (ps:List gS) (r:gS):ps.map iq++[[.bool r.assumed,IC r.index,.sl (r.types.map aM),.sl (r.proofs.map iq)]]=(ps++[r]).map iq:=by rw[abD,aa0,abE,jf r]
theorem UD (p:Prog) (o:List aR) (c:Int) (gs:List cn) (g:cn) (res:pE) (f:Int->cn->pE) (fi:List Impl->Nat->Option (Nat×Impl×List Ty)) (hc:0<=c/\c<=400) (hg:(gs.length:Int)<=c)
  (ce:p.impls.length<=9223372036854775807)
  (bt:∀k,fi [] k=none) (ar:∀x l k,fi (x::l) k=if x.trait=g.tr/\(iS x g.t).2=true then some (k,x,(iS x g.t).1) else fi l (k+1))
  (hn:fi p.impls 0=none->res=(.error 9,c)) (hs:∀k x ts,fi p.impls 0=some (k,x,ts)->res=Si k ts (fV f (x.bounds.map (mJ ts)) c []))
  (hf:∀u g',c<=u->u<=400->Sg p o u gs g' (f u g')/\∀r m,f u g'=(.ok r,m)->u<m/\m<=400) :
  evalTC P ⟨fun _=>True,[],some (zS p o gs res)⟩ Xl (fun _ _ _=>False) (U2 p o gs res) (fun _ _=>False) (MB p o c gs) (eB p g):=by
 have ao:=fun x=>Xm x g.t;have bj:=fun(ts:List Ty) (n:Int)=>X0 (ts.map aM) n;generalize ag:(fun x=>iS x g.t)=mI;have ag:∀x,iS x g.t=mI x:=fun x=>by rw[<-ag]
 have ar:∀x l k,fi (x::l) k=if x.trait=g.tr/\(mI x).2=true then some (k,x,(mI x).1) else fi l (k+1):=fun x l k=>by rw[<-ag];exact ar x l k
 have ao:∀x:Impl,CallsT P 24 [aT x.type,aT g.t,IC x.params] [] (aU [] (.tup [.sl ((mI x).1.map aM),.bool (mI x).2])):=fun x=>by rw[<-ag];exact ao x
 have aE:(p.impls.map dF).length=p.impls.length:=aaP _;have bu:∀x:Impl,(x.bounds.map aS).length=x.bounds.length:=fun x=>aaP _;have am:∀l:List Ty,(l.map aM).length=l.length:=fun l=>aaP _;have bv:∀c ab,fV f [] c ab=(.ok ab,c):=fun c ab=>rfl;have bp:∀g l c ab,fV f (g::l) c ab=match f c g with | (.ok r,u)=>fV f l u (ab++[r]) | (.error e,u)=>(.error e,u):=fun g l c ab=>rfl
 refine cu p.impls.length 41 [] () (fun _=>[]) (fun _=>[(7,.box 64 [.bool false,IC 0,.nils,.nils]),(1000,.box 3 [IC c]),(1001,.box 107 [.rw 1003]),(1002,.box 108 [LR p o]),(1003,zQ gs)]) (fun k _=>fi (p.impls.drop k) k=fi p.impls 0) rfl (ak rfl) trivial ⟨.inl ⟨_,rfl,.inl ⟨rfl,rfl⟩⟩,.inl ⟨_,rfl,.inl ⟨rfl,rfl⟩⟩,.inl ⟨_,rfl,.inl ⟨rfl,rfl⟩⟩,.inl ⟨_,rfl,.inl ⟨rfl,rfl⟩⟩,.inl ⟨_,rfl,.inl ⟨rfl,rfl⟩⟩,trivial⟩ (fun _=>rfl) (fun _=>rfl) ?_;rintro k _ hk d _ _ _;have d:fi (p.impls.drop k) k=fi p.impls 0:=d;refine ah (fun aa=>?_) (fun aw=>?_)
 ·have aa:k<p.impls.length:=by rw[aE] at aa;omega
  refine aZ aa fun x hx cd be=>?_;have ba:=bu x;rw[be,ar] at d;refine yV (by omega) (show p.impls[((k:Int)).toNat]?=some x from hx) ?_;refine aX (fun q=>?_) (fun q=>?_)
  ·rw[q9 (fun z=>q z.1)] at d;refine Fit.aag (by omega) (by omega) ?_;exact⟨(k+1,()),⟨aa,d⟩,⟨bS,trivial⟩,⟨.inl ⟨_,rfl,.inl ⟨rfl,rfl⟩⟩,.inl ⟨_,rfl,.inl ⟨rfl,rfl⟩⟩,.inl ⟨_,rfl,.inl ⟨rfl,rfl⟩⟩,.inl ⟨_,rfl,.inl ⟨rfl,rfl⟩⟩,.inl ⟨_,rfl,.inl ⟨rfl,rfl⟩⟩,trivial⟩,bV aa⟩
  refine bh (ao x) rfl fun _=>?_;refine aq (fun w=>?_) (fun w=>?_)
  ·have w:(mI x).2=false:=by simpa using w
   rw[q9 (fun z=>by rw[w] at z;exact abd z.2)] at d;refine Fit.aag (by omega) (by omega) ?_;exact⟨(k+1,()),⟨aa,d⟩,⟨bS,trivial⟩,⟨.inl ⟨_,rfl,.inl ⟨rfl,rfl⟩⟩,.inl ⟨_,rfl,.inl ⟨rfl,rfl⟩⟩,.inl ⟨_,rfl,.inl ⟨rfl,rfl⟩⟩,.inl ⟨_,rfl,.inl ⟨rfl,rfl⟩⟩,.inl ⟨_,rfl,.inl ⟨rfl,rfl⟩⟩,trivial⟩,bV aa⟩
  have w:(mI x).2=true:=by simpa using w
  have q:x.trait=g.tr:=q;rw[o5 ⟨q,w⟩] at d;have an:=hs k x _ d.symm;generalize cl:(mI x).1=ts at an ⊢;refine cu x.bounds.length 69 [] (([]:List gS),c) (fun _=>[]) (fun s=>[(7,.box 64 [.bool false,IC 0,.nils,.nils]),(10,.box 56 [IC x.trait,IC x.module,IC x.params,.sl (x.bounds.map aS),IC x.type.kind,IC x.type.id,.sl (x.type.args.map aM),IC x.func]),(13,.box 64 [.bool false,IC k,.sl (ts.map aM),.rw 91]),(91,.row 64 4 (s.1.map iq)),(1000,.box 3 [IC s.2]),(1001,.box 107 [.rw 1003]),(1002,.box 108 [LR p o]),(1003,zQ gs)]) (fun j s=>Si k ts (fV f ((x.bounds.drop j).map (mJ ts)) s.2 s.1)=res/\c+j<=s.2/\s.2<=400/\s.1.length=j) ⟨an.symm,by simp,hc.2,rfl⟩ (ak rfl) trivial
   ⟨.inl ⟨_,rfl,.inl ⟨rfl,rfl⟩⟩,.inl ⟨_,rfl,.inl ⟨rfl,rfl⟩⟩,.inl ⟨_,rfl,.inr ⟨64,_,_,rfl,rfl,_,_,rfl,ak rfl,_,_,rfl,ak rfl,_,_,rfl,ak rfl,_,_,rfl,su rfl rfl,rfl⟩⟩,.inr ⟨rfl,64,4,rfl⟩,.inl ⟨_,rfl,.inl ⟨rfl,rfl⟩⟩,.inl ⟨_,rfl,.inl ⟨rfl,rfl⟩⟩,.inl ⟨_,rfl,.inl ⟨rfl,rfl⟩⟩,.inl ⟨_,rfl,.inl ⟨rfl,rfl⟩⟩,trivial⟩ (fun _=>rfl) (fun _=>rfl) ?_
  rintro j s hj a _ _ _;have a:Si k ts (fV f ((x.bounds.drop j).map (mJ ts)) s.2 s.1)=res/\c+j<=s.2/\s.2<=400/\s.1.length=j:=a;have cb:=a.2.1;have co:=a.2.2.1;have hl:=a.2.2.2;have a:=a.1;refine ah (fun h=>?_) (fun ae=>?_)
  ·have h:j<x.bounds.length:=by rw[ba] at h;omega
   refine aZ h fun b hb cm bi=>?_;rw[bi,aa0,bp] at a;refine Bg (by omega) (show x.bounds[((j:Int)).toNat]?=some b from hb) ?_;refine bh (bj ts b.param) rfl fun _=>?_;refine Bf (fun q3=>?_) (fun q3=>?_)
   ·rw[am] at q3;have q4:=fu.1 q3;refine vU (j8 (l:=ts) (k:=b.param.toNat) (by omega)) fun y hy=>?_;refine UC q4.1 hy ?_;have eg:mJ ts b=⟨b.trait,y⟩:=by
     unfold mJ;rw[q3];rw[o5 rfl,hy];rfl
    rw[eg] at a;have hq:=hf s.2 ⟨b.trait,y⟩ (by omega) (by omega);cases hr:f s.2 ⟨b.trait,y⟩ with
    | mk r0 m =>
     rw[hr] at hq a;cases r0 with
     | error e =>
      have ac:CallsTS P 77 (zR p o ⟨b.trait,y⟩) (PB p o s.2 gs) (fun _ _=>False) (fun Mo v=>Mo=PB p o m gs/\v=ze e):=CallsTS.imp hq.1 (fun Mo v ⟨r,u,q,_⟩=>by cases q) (fun Mo v ⟨e',u,q,q1,w⟩=>by cases q;exact⟨q1,w⟩);refine Hg [1000,1001,1002,1003] ac rfl rfl rfl rfl fun v Mo q=>⟨trivial,PB p o m gs,?_,e,m,a.symm,rfl,q.2⟩;rw[q.1];rfl
     | ok r =>
      have ac:CallsTS P 77 (zR p o ⟨b.trait,y⟩) (PB p o s.2 gs) (aU (PB p o m gs) (.agg [.bool r.assumed,IC r.index,.sl (r.types.map aM),.sl (r.proofs.map iq)])) (fun _ _=>False):=CallsTS.imp hq.1 (fun Mo v ⟨r',u,q,q1,w⟩=>by cases q;exact⟨q1,by rw[w,jf]⟩) (fun Mo v ⟨e',u,q,_⟩=>by cases q);have bo:=hq.2 r m rfl;refine Hf [1000,1001,1002,1003] ac rfl rfl rfl rfl rfl (fun v Mo q=>q.elim) fun _ _=>?_;refine rH j rfl (by rw[aaP];exact hl) (by decide) (by omega) ?_;refine Fit.aag (by omega) (by omega) ?_;exact⟨(j+1,(s.1++[r],m)),⟨h,a,(by show c+((j+1:Nat):Int)<=m;omega),(by show m<=400;omega),by simp[hl]⟩,⟨bS,trivial⟩,⟨.inl ⟨_,rfl,.inl ⟨rfl,rfl⟩⟩,.inl ⟨_,rfl,.inl ⟨rfl,rfl⟩⟩,.inl ⟨_,rfl,.inl ⟨rfl,rfl⟩⟩,.inl ⟨_,rfl,.inl ⟨DI (Eg s.1 r),rfl⟩⟩,.inl ⟨_,rfl,.inl ⟨rfl,rfl⟩⟩,.inl ⟨_,rfl,.inl ⟨rfl,rfl⟩⟩,.inl ⟨_,rfl,.inl ⟨rfl,rfl⟩⟩,.inl ⟨_,rfl,.inl ⟨rfl,rfl⟩⟩,trivial⟩,bV h⟩
   ·rw[am] at q3;have eg:mJ ts b=⟨b.trait,zT⟩:=by
     unfold mJ;rw[q3];rw[q9 abd]
    rw[eg] at a;have hq:=hf s.2 ⟨b.trait,zT⟩ (by omega) (by omega);cases hr:f s.2 ⟨b.trait,zT⟩ with
    | mk r0 m =>
     rw[hr] at hq a;cases r0 with
     | error e =>
      have ac:CallsTS P 77 (zR p o ⟨b.trait,zT⟩) (PB p o s.2 gs) (fun _ _=>False) (fun Mo v=>Mo=PB p o m gs/\v=ze e):=CallsTS.imp hq.1 (fun Mo v ⟨r,u,q,_⟩=>by cases q) (fun Mo v ⟨e',u,q,q1,w⟩=>by cases q;exact⟨q1,w⟩);refine Hg [1000,1001,1002,1003] ac rfl rfl rfl rfl fun v Mo q=>⟨trivial,PB p o m gs,?_,e,m,a.symm,rfl,q.2⟩;rw[q.1];rfl
     | ok r =>
      have ac:CallsTS P 77 (zR p o ⟨b.trait,zT⟩) (PB p o s.2 gs) (aU (PB p o m gs) (.agg [.bool r.assumed,IC r.index,.sl (r.types.map aM),.sl (r.proofs.map iq)])) (fun _ _=>False):=CallsTS.imp hq.1 (fun Mo v ⟨r',u,q,q1,w⟩=>by cases q;exact⟨q1,by rw[w,jf]⟩) (fun Mo v ⟨e',u,q,_⟩=>by cases q);have bo:=hq.2 r m rfl;refine Hf [1000,1001,1002,1003] ac rfl rfl rfl rfl rfl (fun v Mo q=>q.elim) fun _ _=>?_;refine rH j rfl (by rw[aaP];exact hl) (by decide) (by omega) ?_;refine Fit.aag (by omega) (by omega) ?_;exact⟨(j+1,(s.1++[r],m)),⟨h,a,(by show c+((j+1:Nat):Int)<=m;omega),(by show m<=400;omega),by simp[hl]⟩,⟨bS,trivial⟩,⟨.inl ⟨_,rfl,.inl ⟨rfl,rfl⟩⟩,.inl ⟨_,rfl,.inl ⟨rfl,rfl⟩⟩,.inl ⟨_,rfl,.inl ⟨rfl,rfl⟩⟩,.inl ⟨_,rfl,.inl ⟨DI (Eg s.1 r),rfl⟩⟩,.inl ⟨_,rfl,.inl ⟨rfl,rfl⟩⟩,.inl ⟨_,rfl,.inl ⟨rfl,rfl⟩⟩,.inl ⟨_,rfl,.inl ⟨rfl,rfl⟩⟩,.inl ⟨_,rfl,.inl ⟨rfl,rfl⟩⟩,trivial⟩,bV h⟩
  ·have ae:¬j<x.bounds.length:=by rw[ba] at ae;omega
   rw[bW ae,abE,bv] at a;refine⟨rfl,.mk false k ts s.1,s.2,a.symm,?_⟩;rw[jf];rfl
 ·have aw:¬k<p.impls.length:=by rw[aE] at aw;omega
  rw[bW aw,bt] at d;exact⟨ze 9,rfl,rfl,trivial,_,rfl,9,c,hn d.symm,rfl,rfl⟩
end Go.Fr.Try
namespace Go.Fr
open Go Go.RowKit
section
variable {P:Program}
theorem CB {f:FuncId}{fn:Func}{c:Code}{sc:ay}{A:dc}{rs:List RV}{F:au}{Lin:List Own}{R:au->List Own->Value->Prop}(a:List SV)
  (hf:P.funcs[f]?=some fn) (hb:fn.body=some c) (hl:low P A c=some sc) (hn:fn.ntmps=A.n) (y:mL P fn.results.toList=some rs) (al:a.length<=A.n)
  (o:∀v∈a,(∀k off,v=.own k off->∃g ty cs,(inp Lin).get k=some (.box g ty cs))/\(∀ad j,v=.el ad j->ad≠none))
  (h:jo P sc (fun _ _ _ _=>False) (fun F' L' ρ'=>mZ L' ρ' rs fun d=>Jc F' L' (fM d) R) (fun F' L' ρ'=>mZ L' ρ' rs fun d=>Jc F' L' (fM d) R) F (inp Lin) (CK 0 a)) (u:FrameMode) (w:World) (hs:St F (inp Lin) w) :
  CallsD P f (a.map (conc (inp Lin))).toArray u w fun e u' w'=>u'=u/\∃v F' Lo,e=.returned v/\St F' (inp Lo) w'/\Step F (inp Lin) w F' (inp Lo) w'/\R F' Lo v:=by
 refine callsD_of_wp hf hb ?_;have he:aA (inp Lin) (CK 0 a) {tmps:=(a.map (conc (inp Lin))).toArray++Array.replicate (fn.ntmps-(a.map (conc (inp Lin))).toArray.size) undef,defers:=[]}:=by
  have s:∀t,CK 0 a t=.v undef\/CK 0 a t∈a:=by
   intro t;rw[xA];simp only[abe,abl,Nat.sub_zero];cases e:a[t]? with
   | none=>exact .inl rfl
   | some v=>exact .inr (aaZ e)
  refine⟨fun t=>?_,fun t k off e=>?_,fun t ad j e=>?_⟩
  ·rw[xA];simp only[abe,abl,Nat.sub_zero,aa8];cases e:a[t]? with
   | some v =>
    have x:t<a.length:=(aaU.1 e).1;rw[Array.getElem?_append_left (by simpa using x)];simp[e]
   | none =>
    have ac:a.length<=t:=abA.1 e;rw[Array.getElem?_append_right (by simpa using ac)];simp only[Array.getElem?_replicate,Option.getD_none,conc];split<;>rfl
  ·rcases s t with h1 | h1
   ·rw[h1] at e;cases e
   ·exact(o _ h1).1 k off e
  ·rcases s t with h1 | h1
   ·rw[h1] at e;cases e
   ·exact(o _ h1).2 ad j e
 refine wp_mono (qh c hl hs he (by simp[hn];omega) h) ?_;intro e a' w' q;have fin:∀{a0:Act},a0.defers=[]->dZ A.n F (inp Lin) w a0 (dJ c) (fun F' L' ρ'=>mZ L' ρ' rs fun d=>Jc F' L' (fM d) R) a' w'->a'.defers=[]/\∃v,(results fn a'.tmps).run P w'=.ok v w' /\
   ∃v' F' Lo,Ending.returned v=.returned v'/\St F' (inp Lo) w'/\Step F (inp Lin) w F' (inp Lo) w'/\R F' Lo v':=by
  rintro a0 ab ⟨F',L',ρ',g1,g2,g3,g4,m,g6,z⟩;obtain⟨d,hm,⟨ko,Lo,k1,k2,k3⟩⟩:=nD g1 g2 y z;refine⟨g4.trans ab,fM d,?_,fM d,F',Lo,rfl,g1.handed k1 k2,?_,k3⟩
  ·rw[oD];rw[Array.mapM_eq_mapM_toList];simp only[Sem.run_bind,Sem.run_map];rw[hm];simp only[Result.andThen_ok,Sem.run_pure];congr 1
   match d with
   | []=>rfl
   | [t]=>rfl
   | t::u::r =>
    simp only[fM];rw[dif_neg (by simp)]
  ·obtain⟨e1,e2⟩:=ct k1;refine⟨m.le,m.os,m.tape,m.output,m.size,m.same,m.frz,fun b hb=>m.own b ?_⟩;obtain⟨j,p,e,hb⟩:=hb;rw[aF] at e;split at e
   case isFalse=>cases e
   have x:j-1000<Lo.length:=(aaU.1 e).1;have hk:ko[j-1000]?=some (ko[j-1000]'(by omega)):=aaQ (by omega);exact⟨_,p,by rw[e2 _ _ hk];exact e,hb⟩
 cases e with
 | normal=>exact fin rfl q
 | ret=>exact fin rfl q
 | exit j=>obtain⟨F',L',ρ',_,_,_,_,_,_,h⟩:=q;exact h.elim
 | goto l=>exact q.elim
 | panic c=>exact(noPan q).elim
 | outgrown=>exact q.elim
end
theorem St.aaB {F:au}{L1 L2:Loc}{w:World}(b:St F L1 w) (h:∀k o,L2.get k=some o->∃a,L1.get k=some a/\a.blk=o.blk/\o.ok w):St F L2 w :=
 ⟨b.frz,fun k o e=>let⟨_,_,_,h3⟩:=h k o e;h3,fun k o g e d=>let⟨a,h1,h2,_⟩:=h k o e;b.off k a g h1 (h2.trans d),
  fun k f o o' g e j d c=>let⟨a,h1,h2,_⟩:=h k o e;let⟨o2,h3,h4,_⟩:=h f o' j;b.sep k f a o2 g h1 h3 (h2.trans d) (h4.trans c),b.glob⟩
theorem Step.aaB {F F':au}{L L1 L2:Loc}{w w':World}(a:Step F L w F' L1 w') (h:∀k o,L2.get k=some o->∃c,L1.get k=some c/\c.blk=o.blk):Step F L w F' L2 w' :=
 ⟨a.le,a.os,a.tape,a.output,a.size,a.same,a.frz,fun b ⟨k,o,e,hb⟩=>let⟨c,h1,h2⟩:=h k o e;a.own b ⟨k,c,h1,h2.trans hb⟩⟩
end Go.Fr
namespace Go.Fr.Try
open Go Go.RowKit Go.Proofs Go.Fr Go.Fr.T Go.Fr.Api
theorem Sj:∃c,Try.f83.body=some c/\low Try.prog XR c=some ZJ:=⟨Try.f83.body.getD .skip,by kernel_rfl,by kernel_rfl⟩
theorem UE {F:au}{b:Nat}{a:Addr}{n c:Nat}{xs:List Value}(m:(n:Int)+1<=9223372036854775807) (p:n+1<=c) (o:a.off=0) (u:FrameMode) (w:World)
  (f:St F (inp [.box b 107 [.slice (some a) (n+1) c],.row (.slice (some a) (n+1) c) 110 4 (n+1) xs]) w) :
  CallsD P 83 #[.pointer (some ⟨b,0,none⟩)] u w fun e j w'=>j=u/\∃v F' Lo,e=.returned v/\St F' (inp Lo) w'/\Step F (inp [.box b 107 [.slice (some a) (n+1) c],.row (.slice (some a) (n+1) c) 110 4 (n+1) xs]) w F' (inp Lo) w' /\
   (Lo=[.box b 107 [.slice (some a) n c],.row (.slice (some a) (n+1) c) 110 4 (n+1) xs]/\v=.tuple #[]):=by
 obtain⟨l,hb,h⟩:=Sj;refine CB (P:=P) (A:=XR) (rs:=[]) (R:=fun F' Lo v=>Lo=[.box b 107 [.slice (some a) n c],.row (.slice (some a) (n+1) c) 110 4 (n+1) xs]/\v=.tuple #[]) [.own 1000 0] Try.func83 hb h (by kernel_rfl) (by kernel_rfl) (by decide) ?_ ?_ u w f
 ·intro v d;rcases aaW.1 d with rfl | d
  ·exact⟨fun k off e=>by injection e with e1 e2;subst e1;exact⟨_,_,_,rfl⟩,fun _ _ e=>by cases e⟩
  ·cases d
 refine Fit.aag (by omega) (by omega) ?_;refine⟨by omega,by omega,by omega,?_⟩;have e:rM (some a) c (0:Int).toNat (((n+1:Nat):Int)-1).toNat 4=.slice (some a) n c:=by
  unfold rM;rw[q9 (by show¬c=0;omega),show(((n+1:Nat):Int)-1).toNat=n by omega];rfl
 refine⟨[1000,1001],_,rfl,by decide,?_,rfl⟩;rw[<-e];rfl
theorem vL {F:au}{sz:Nat}:∀{l m:List (List C)}{xs:List Value},aN F sz (l++m) xs->aN F sz l (xs.take (l.length*sz))
 | [],m,xs,_=>by simp[aN]
 | e::l,m,xs,h=>by
  rw[aa4] at h;simp only[aN] at h ⊢;obtain⟨b,a,rfl,h1,d,c,f⟩:=h;refine⟨b,a.take (l.length*sz),?_,h1,d,c,vL f⟩;rw[aa7,Nat.add_mul,Nat.one_mul,Nat.add_comm (l.length*sz),List.take_append,abC (by omega),show sz+l.length*sz-b.length=l.length*sz by omega]
theorem Sk {F:au}{f e:Own}{l k:TO}(h0:cD F (inp [f,e]) l f) (h1:cD F (inp [f,e]) k e):bM F (inp [f,e]) (cC [l,k]):=by
 intro j;have c:∀{m:Type}(a b:m) (h:1000<=j),[a,b][j-1000]?=if j=1000 then some a else if j=1001 then some b else none:=fun a b h=>by
  by_cases d:j=1000
  ·rw[o5 d,show j-1000=0 by omega];rfl
  rw[q9 d]
  by_cases c:j=1001
  ·rw[o5 c,show j-1000=1 by omega];rfl
  rw[q9 c];exact abn (by simp;omega)
 rw[aF,ck]
 by_cases h:1000<=j
 ·rw[o5 h,o5 h,c _ _ h,c _ _ h]
  by_cases d:j=1000
  ·rw[o5 d,o5 d];exact h0
  rw[q9 d,q9 d]
  by_cases c:j=1001
  ·rw[o5 c,o5 c];exact h1
  rw[q9 c,q9 c];trivial
 ·rw[q9 h,q9 h];trivial
theorem Qy {F:au}{p:Prog}{gs:List cn}{g:cn}{Li:List Own}{vs:List Value}(hg:gs.length<=400) (hl:Li.length=2) (s:bM F (inp Li) (cC [.box 107 [.rw 1001],zQ (gs++[g])])) (ha:ax F (inp Li) [.own 1000 0] vs) (u:FrameMode) (w:World) (hs:St F (inp Li) w) :
  CallsD P 83 vs.toArray u w fun e u' w'=>u'=u/\∃v F' Lo,e=.returned v/\St F' (inp Lo) w'/\Step F (inp Li) w F' (inp Lo) w'/\gC Li (aU [.box 107 [.rw 1001],zQ gs] (.tup [])) F' Lo v:=by
 match Li,hl with
 | [o0,l],_ =>
  have q0:=s 1000;have q1:=s 1001;have q0:cD F (inp [o0,l]) (.box 107 [.rw 1001]) o0:=q0;have q1:cD F (inp [o0,l]) (zQ (gs++[g])) l:=q1;cases o0 with
  | row=>exact q0.elim
  | box b0 t0 c0 =>
  cases l with
  | box=>exact q1.elim
  | row v1 t1 s1 n1 j =>
  obtain⟨q,r⟩:=q0;obtain⟨rfl,rfl,bb,⟨cl,a,cap,ci,bz⟩,y⟩:=q1;simp only[ax,Rel] at r;obtain⟨v,av,rfl,⟨a',c,t',am,n',an,rfl,d⟩,rfl⟩:=r;have d:some (Own.row v1 110 4 n1 j)=some (.row (.slice a' n' c) t' am n' an):=d;injection d with d
  injection d with n e2 e3 e4 e5
  subst n e2 e3 e4 e5;have hn:n1=gs.length+1:=by rw[bb];simp
  subst hn;have ht:t0=107:=by
   obtain⟨_,h | h,_⟩:=q
   ·exact h.symm
   ·omega
  subst ht;have aa:w.ownsRow 0 110 4 (.slice a' (gs.length+1) c) (gs.length+1) j:=hs.own 1001 _ rfl;obtain⟨ce,az⟩:=aa;rcases az with⟨hz,_⟩ | ⟨m,cp,bp,ba,ch,bs,ao,cb,co,cm⟩
  ·cases hz
  injection ba with w1 w2 w3
  subst w1 w3;have al:vs=[.pointer (some ⟨b0,0,none⟩)]:=by
   simp only[ax,Rel] at ha;obtain⟨v,av,rfl,⟨g',t',cs',d,rfl⟩,rfl⟩:=ha;have d:some (Own.box b0 107 [Value.slice (some ⟨m,0,none⟩) (gs.length+1) c])=some (.box g' t' cs'):=d;injection d with d
   injection d with n
   subst n;rfl
  subst al;refine(UE (by omega) ao rfl u w hs).mono ?_;rintro e u' w' ⟨hu,v,F',Lo,he,g1,g2,rfl,rfl⟩;have aw:j=j.take (gs.length*4)++j.drop (gs.length*4):=(List.take_append_drop _ _).symm;have z:w'.ownsRow 0 110 4 (.slice (some ⟨m,0,none⟩) gs.length c) gs.length (j.take (gs.length*4)):=by
   have h1:=g1.own 1001 _ (show _=some (Own.row (.slice (some ⟨m,0,none⟩) (gs.length+1) c) 110 4 (gs.length+1) j) from rfl);have h1:w'.ownsRow 0 110 4 (.slice (some ⟨m,0,none⟩) (gs.length+1) c) (gs.length+1) j:=h1;rw[aw] at h1;exact ownsRow_pop (by rw[abP];omega) h1
  have x:∀k o,(inp [.box b0 107 [.slice (some ⟨m,0,none⟩) gs.length c],.row (.slice (some ⟨m,0,none⟩) gs.length c) 110 4 gs.length (j.take (gs.length*4))]).get k=some o ->
    ∃l,(inp [.box b0 107 [.slice (some ⟨m,0,none⟩) gs.length c],.row (.slice (some ⟨m,0,none⟩) (gs.length+1) c) 110 4 (gs.length+1) j]).get k=some l/\l.blk=o.blk/\o.ok w':=by
   intro k o f;rw[aF] at f;split at f
   case isFalse=>cases f
   rename_i bu
   by_cases e0:k=1000
   ·subst e0;injection f with f
    subst f;exact⟨_,rfl,rfl,g1.own 1000 _ rfl⟩
   by_cases n:k=1001
   ·subst n;injection f with f
    subst f;exact⟨_,rfl,rfl,z⟩
   rw[abn (by simp;omega)] at f;cases f
  refine⟨hu,.tuple #[],F',_,he,g1.aaB x,g2.aaB (fun k o h=>let⟨l,a,b,_⟩:=x k o h;⟨l,a,b⟩),[.box 107 [.rw 1001],zQ gs],.tup [],rfl,Sk ⟨q,?_⟩ ⟨rfl,rfl,by simp,⟨by omega,some ⟨m,0,none⟩,c,rfl,fun h=>by cases h⟩,?_⟩,by simp only[Rel,ax];exact⟨[],rfl,rfl⟩,fun i g t cs hi=>?_,rfl,rfl⟩
  ·simp only[ax,Rel];exact⟨_,_,rfl,⟨_,_,_,_,_,_,rfl,rfl⟩,rfl⟩
  ·have:=y;rw[abD] at this;have h2:=vL this;rw[aaP] at h2;exact h2.mono g2.le
  ·cases i with
   | zero =>
    injection hi with hi
    injection hi with n e2 e3
    subst n e2;exact⟨_,rfl⟩
   | succ i =>
    cases i with
    | zero=>injection hi with hi;cases hi
    | succ i=>simp at hi
theorem Xn {F:au}{p:Prog}{a:List aR}{c:Int}{gs:List cn}{g:cn}{Lo:List Own}{r t1:Nat}{d:List Value}(hg:gs.length<=400) (hl:Lo.length=4) (n:bM F (inp Lo) (cC (PB p a c (gs++[g])))) (h1:Lo[1]?=some (.box r t1 d)) (u:FrameMode) (w:World) (hs:St F (inp Lo) w) :
  CallsD P 83 #[.pointer (some ⟨r,0,none⟩)] u w fun e u' w'=>u'=u/\∃v F' Lo',e=.returned v/\St F' (inp Lo') w'/\Step F (inp Lo) w F' (inp Lo') w'/\Lo'.length=4/\bM F' (inp Lo') (cC (PB p a c gs))/\∀(i:Nat) b t cs,Lo[i]?=some (.box b t cs)->∃cs',Lo'[i]?=some (.box b t cs'):=by
 have ht:TS (fun _=>none) F (inp Lo) (fun _=>.v undef) (cC (PB p a c (gs++[g]))) (fun _=>.any):=⟨n,fun _=>trivial,fun k g t e=>(by cases e),hs.glob⟩;have am:(cC (PB p a c (gs++[g]))).sub [1001,1003]=some [.box 107 [.rw 1003],zQ (gs++[g])]:=rfl;obtain⟨Li,x,e2,e3⟩:=j5 n am;have hn:[1001,1003].Nodup:=by decide
 obtain⟨x1,x2⟩:=ct x;have s:bM F (inp Li) (cC [.box 107 [.rw 1001],zQ (gs++[g])]):=kW n e2 x e3;have m:(inp Lo).get 1001=some (.box r t1 d):=by rw[aF,o5 (by omega)];exact h1
 have ha:ax F (inp Li) [.own 1000 0] [.pointer (some ⟨r,0,none⟩)]:=by
  have h0:Li[0]?=some (.box r t1 d):=by rw[<-x2 0 1001 rfl];exact m
  simp only[ax,Rel];refine⟨_,_,rfl,⟨r,t1,d,?_,rfl⟩,rfl⟩;rw[aF,o5 (by omega)];exact h0
 refine(Qy (p:=p) hg e2 s ha u w (hs.handed x hn)).mono ?_;rintro e u' w' ⟨hu,v,F',Lr,he,g1,g2,hR⟩;have y:[1001,1003].length=Lr.length:=by
  obtain⟨Mo,c',q1,q2,q3,q4,q5⟩:=hR;rw[<-q1,q5.1];rfl
 obtain⟨c1,l⟩:=fN hs x hn hn (fun k o=>.inl o) g1 g2 y;obtain⟨y1,y2,M',bt,cc,y3,y4,rfl⟩:=qV (K:=fun M' _ _=>M'=(((cC (PB p a c (gs++[g]))).aae [1001,1003]).kills (rowsOf (cC (PB p a c (gs++[g]))) [1001,1003])).puts [1001,1003] ([TO.box 107 [.rw 1001],zQ gs].map (TO.aad (C.ren (aI [1001,1003]))))) ht rfl rfl rfl rfl x e2 e3
  (fun v' Mo' e _ _=>by obtain⟨q1,q2⟩:=e;subst q1;exact⟨rfl,rfl⟩) v F' Lr g2.le hR
 have ae:((((cC (PB p a c (gs++[g]))).aae [1001,1003]).kills (rowsOf (cC (PB p a c (gs++[g]))) [1001,1003])).puts [1001,1003] ([TO.box 107 [.rw 1001],zQ gs].map (TO.aad (C.ren (aI [1001,1003]))))).sub [1000,1001,1002,1003]=some (PB p a c gs):=rfl;obtain⟨Lo',d1,d2,d3⟩:=j5 y3.tl ae;obtain⟨z1,z2⟩:=ct d1;refine⟨hu,v,F',Lo',he,c1.handed d1 (by decide),?_,d2,kW y3.tl d2 d1 d3,fun i b t cs hi=>?_⟩
 ·refine⟨l.le,l.os,l.tape,l.output,l.size,l.same,l.frz,fun b hb=>l.own b ?_⟩;obtain⟨j,q,e,hb⟩:=hb;rw[aF] at e;split at e
  case isFalse=>cases e
  have f:j-1000<Lo'.length:=(aaU.1 e).1;have o:([1000,1001,1002,1003]:List Nat)[j-1000]?=some (([1000,1001,1002,1003]:List Nat)[j-1000]'(by rw[d2] at f;exact f)):=aaQ _;exact⟨_,q,by rw[z2 _ _ o];exact e,hb⟩
 ·have f:i<4:=by rw[<-hl];exact(aaU.1 hi).1
  have o:([1000,1001,1002,1003]:List Nat)[i]?=some (1000+i):=by
   match i,f with
   | 0,_=>rfl
   | 1,_=>rfl
   | 2,_=>rfl
   | 3,_=>rfl
  have z:(inp Lo).get (1000+i)=some (.box b t cs):=by rw[aF,o5 (by omega),show 1000+i-1000=i by omega];exact hi
  by_cases hm:1000+i∈[1001,1003]
  ·obtain⟨cs',h⟩:=y2 _ b t cs hm z;exact⟨cs',by rw[<-z2 i _ o];exact h⟩
  ·refine⟨cs,?_⟩;rw[<-z2 i _ o];rcases cL [1001,1003] Lr ((inp Lo).aae [1001,1003]) (1000+i) hn y with⟨a1,a2⟩ | ⟨i',a1,a2,a3⟩
   ·rw[a1,eO,q9 hm];exact z
   ·exact vv (aaZ a1) hm
theorem UF {F:au}{p:Prog}{d:List aR}{c:Int}{gs:List cn}{g:cn}{a:Bool}{i0:Int}{l n:List (List C)}{Lo:List Own}{y t1:Nat}{f:List Value}(hg:gs.length<=400) (hl:Lo.length=5) (s:bM F (inp Lo) (cC (PB p d c (gs++[g])++[.box 64 [.bool a,IC i0,.sl l,.sl n]]))) (h1:Lo[1]?=some (.box y t1 f)) (u:FrameMode) (w:World) (hs:St F (inp Lo) w) :
  CallsD P 83 #[.pointer (some ⟨y,0,none⟩)] u w fun e u' w'=>u'=u/\∃v F' Lo',e=.returned v/\St F' (inp Lo') w'/\Step F (inp Lo) w F' (inp Lo') w'/\Lo'.length=5/\bM F' (inp Lo') (cC (PB p d c gs++[.box 64 [.bool a,IC i0,.sl l,.sl n]]))/\∀(i:Nat) b t cs,Lo[i]?=some (.box b t cs)->∃cs',Lo'[i]?=some (.box b t cs'):=by
 have ht:TS (fun _=>none) F (inp Lo) (fun _=>.v undef) (cC (PB p d c (gs++[g])++[.box 64 [.bool a,IC i0,.sl l,.sl n]])) (fun _=>.any):=⟨s,fun _=>trivial,fun k g t e=>(by cases e),hs.glob⟩;have ar:(cC (PB p d c (gs++[g])++[.box 64 [.bool a,IC i0,.sl l,.sl n]])).sub [1001,1003]=some [.box 107 [.rw 1003],zQ (gs++[g])]:=rfl;obtain⟨Li,e1,e2,e3⟩:=j5 s ar;have hn:[1001,1003].Nodup:=by decide
 obtain⟨x1,x2⟩:=ct e1;have z:bM F (inp Li) (cC [.box 107 [.rw 1001],zQ (gs++[g])]):=kW s e2 e1 e3;have r:(inp Lo).get 1001=some (.box y t1 f):=by rw[aF,o5 (by omega)];exact h1
 have ha:ax F (inp Li) [.own 1000 0] [.pointer (some ⟨y,0,none⟩)]:=by
  have h0:Li[0]?=some (.box y t1 f):=by rw[<-x2 0 1001 rfl];exact r
  simp only[ax,Rel];refine⟨_,_,rfl,⟨y,t1,f,?_,rfl⟩,rfl⟩;rw[aF,o5 (by omega)];exact h0
 refine(Qy (p:=p) hg e2 z ha u w (hs.handed e1 hn)).mono ?_;rintro e u' w' ⟨hu,v,F',Lr,he,g1,g2,hR⟩;have ab:[1001,1003].length=Lr.length:=by
  obtain⟨Mo,c',q1,q2,q3,q4,q5⟩:=hR;rw[<-q1,q5.1];rfl
 obtain⟨c1,o⟩:=fN hs e1 hn hn (fun k x=>.inl x) g1 g2 ab;obtain⟨y1,y2,M',bz,cc,y3,y4,rfl⟩:=qV (K:=fun M' _ _=>M'=(((cC (PB p d c (gs++[g])++[.box 64 [.bool a,IC i0,.sl l,.sl n]])).aae [1001,1003]).kills (rowsOf (cC (PB p d c (gs++[g])++[.box 64 [.bool a,IC i0,.sl l,.sl n]])) [1001,1003])).puts [1001,1003] ([TO.box 107 [.rw 1001],zQ gs].map (TO.aad (C.ren (aI [1001,1003]))))) ht rfl rfl rfl rfl e1 e2 e3
  (fun v' Mo' e _ _=>by obtain⟨q1,q2⟩:=e;subst q1;exact⟨rfl,rfl⟩) v F' Lr g2.le hR
 have am:((((cC (PB p d c (gs++[g])++[.box 64 [.bool a,IC i0,.sl l,.sl n]])).aae [1001,1003]).kills (rowsOf (cC (PB p d c (gs++[g])++[.box 64 [.bool a,IC i0,.sl l,.sl n]])) [1001,1003])).puts [1001,1003] ([TO.box 107 [.rw 1001],zQ gs].map (TO.aad (C.ren (aI [1001,1003]))))).sub [1000,1001,1002,1003,1004]=some (PB p d c gs++[.box 64 [.bool a,IC i0,.sl l,.sl n]]):=rfl;obtain⟨Lo',d1,d2,d3⟩:=j5 y3.tl am;obtain⟨z1,z2⟩:=ct d1;refine⟨hu,v,F',Lo',he,c1.handed d1 (by decide),?_,d2,kW y3.tl d2 d1 d3,fun i b t cs hi=>?_⟩
 ·refine⟨o.le,o.os,o.tape,o.output,o.size,o.same,o.frz,fun b hb=>o.own b ?_⟩;obtain⟨j,q,e,hb⟩:=hb;rw[aF] at e;split at e
  case isFalse=>cases e
  have m:j-1000<Lo'.length:=(aaU.1 e).1;have x:([1000,1001,1002,1003,1004]:List Nat)[j-1000]?=some (([1000,1001,1002,1003,1004]:List Nat)[j-1000]'(by rw[d2] at m;exact m)):=aaQ _;exact⟨_,q,by rw[z2 _ _ x];exact e,hb⟩
 ·have m:i<5:=by rw[<-hl];exact(aaU.1 hi).1
  have x:([1000,1001,1002,1003,1004]:List Nat)[i]?=some (1000+i):=by
   match i,m with
   | 0,_=>rfl
   | 1,_=>rfl
   | 2,_=>rfl
   | 3,_=>rfl
   | 4,_=>rfl
  have ac:(inp Lo).get (1000+i)=some (.box b t cs):=by rw[aF,o5 (by omega),show 1000+i-1000=i by omega];exact hi
  by_cases hm:1000+i∈[1001,1003]
  ·obtain⟨cs',h⟩:=y2 _ b t cs hm ac;exact⟨cs',by rw[<-z2 i _ x];exact h⟩
  ·refine⟨cs,?_⟩;rw[<-z2 i _ x];rcases cL [1001,1003] Lr ((inp Lo).aae [1001,1003]) (1000+i) hn ab with⟨a1,a2⟩ | ⟨i',a1,a2,a3⟩
   ·rw[a1,eO,q9 hm];exact ac
   ·exact vv (aaZ a1) hm
end Go.Fr.Try
namespace Go.Fr
open Go Go.RowKit
theorem Step.sub {F F':au}{L L1 L2:Loc}{w w':World}(a:Step F L w F' L1 w') (h:∀b,L2.owns b->L1.owns b):Step F L w F' L2 w' :=
 ⟨a.le,a.os,a.tape,a.output,a.size,a.same,a.frz,fun b hb=>a.own b (h b hb)⟩
end Go.Fr
namespace Go.Fr.Try
open Go Go.RowKit Go.Proofs Go.Fr Go.Fr.T Go.Fr.Api
theorem Sm {Lin:List TO}{Li:List Own}{F:au}{args:List C}{l:List Value}{w:World}(m:Nat) (hl:Li.length=Lin.length) (p:bM F (inp Li) (cC Lin)) (u:ax F (inp Li) args l) (x:St F (inp Li) w) :
  ∃(G:Nat->Option (Nat×TypeId)) (a:Env),aA (inp Li) a {tmps:=l.toArray++Array.replicate m undef,defers:=[]}/\TS G F (inp Li) a (cC Lin) (jN 0 args)/\(∀k g t cs,(inp Li).get k=some (.box g t cs)->G k=some (g,t))/\(∀k,G k≠none->1000<=k):=by
 have n:=u.len;have key:∀j,∃sv,aJ F (inp Li) (jN 0 args j) sv/\conc (inp Li) sv=(l.toArray++Array.replicate m undef).getD j undef/\(∀k off,sv=.own k off->∃g t cs,(inp Li).get k=some (.box g t cs))/\(∀f i,sv=.el f i->f≠none):=by
  intro j;rw[nM];simp only[abe,abl,Nat.sub_zero,aa8];cases e:args[j]? with
  | some c =>
   have b:j<l.length:=by rw[n];exact(aaU.1 e).1
   obtain⟨s1,s2,s3,y⟩:=qX (u.at e (aaQ b));refine⟨_,s1,?_,s3,fun f i e=>vv e (y f i)⟩;rw[s2,Array.getElem?_append_left (by simpa using b)];simp[b]
  | none =>
   have s:l.length<=j:=by rw[n];exact abA.1 e
   refine⟨.v undef,kQ,?_,fun _ _ e=>(by cases e),fun _ _ e=>(by cases e)⟩;rw[Array.getElem?_append_right (by simpa using s)];simp only[Array.getElem?_replicate,conc];split<;>rfl
 let a:Env:=fun j=>(key j).choose
 have he:aA (inp Li) a {tmps:=l.toArray++Array.replicate m undef,defers:=[]} :=
  ⟨fun t=>(key t).choose_spec.2.1.symm,fun t k off e=>(key t).choose_spec.2.2.1 k off e,fun t f j e=>(key t).choose_spec.2.2.2 f j e⟩
 let G:Nat->Option (Nat×TypeId):=fun k=>match(inp Li).get k with | some (.box g t _)=>some (g,t) | _=>none
 have o:∀k g t cs,(inp Li).get k=some (.box g t cs)->G k=some (g,t):=fun k g t cs e=>by simp only[G,e]
 have r:Kp G (inp Li):=by
  intro k g t e;simp only[G] at e;split at e
  ·rename_i g' z cs h;injection e with e
   injection e with e1 e2
   subst e1 e2;exact⟨cs,h⟩
  ·cases e
 have q:∀k,G k≠none->1000<=k:=by
  intro k d;simp only[G] at d;split at d
  ·rename_i g t cs h;rw[aF] at h;split at h
   ·assumption
   ·cases h
  ·exact vv rfl d
 exact⟨G,a,he,⟨p,fun j=>(key j).choose_spec.1,r,x.glob⟩,o,q⟩
def Ep (G:Nat->Option (Nat×TypeId)) (F0:au) (Li:List Own) (w0:World) (K:TK) (a:Act) (w:World):Prop :=
 ∃F L ρ M τ,St F L w/\aA L ρ a/\TS G F L ρ M τ/\a.tmps.size=97/\Step F0 (inp Li) w0 F L w/\K M τ
section
variable {G:Nat->Option (Nat×TypeId)}{F0:au}{Li:List Own}{w0:World}
theorem Ep.piece {c:Code}{u:ay}(hl:low Try.prog Pn c=some u) (hG:∀k,G k≠none->1000<=k) {PS:nG}{R N K:TK}{a:Act}{w:World}(h:Ep G F0 Li w0 K a w)
  (z:∀M τ,K M τ->evalTC P PS u (fun _ _ _=>False) R N M τ) {Q:Exit->Act->World->Prop}
  (x:∀a' w',a'.defers=a.defers->Ep G F0 Li w0 N a' w'->Q .normal a' w')
  (hR:∀a' w',a'.defers=a.defers->Ep G F0 Li w0 R a' w'->Q .ret a' w')
  (hP:∀v p a' w',rK v p->a'.defers=a.defers->(∃F' L',St F' L' w'/\Step F0 (inp Li) w0 F' L' w'/\zu G PS F' L' v)->Q (.panic p) a' w'):c.wp P Q a w:=by
 obtain⟨F,L,ρ,M,τ,g1,g2,g3,g4,r,y⟩:=h;refine wp_mono (fp c hl (fun k _ t=>.inl (hG k t)) g1 g2 g3 g4 (z M τ y)) ?_;intro e a' w' d;cases e with
 | normal =>
  obtain⟨F',L',ρ',k1,f,n,m,o,k6,M',b,s,k8⟩:=d;exact x a' w' m ⟨F',L',ρ',M',b,k1,f,s,n,r.trans o,k8⟩
 | ret =>
  obtain⟨F',L',ρ',k1,f,n,m,o,k6,M',b,s,k8⟩:=d;exact hR a' w' m ⟨F',L',ρ',M',b,k1,f,s,n,r.trans o,k8⟩
 | exit j=>obtain⟨F',L',ρ',_,_,_,_,_,_,M',b,_,h⟩:=d;exact h.elim
 | goto l=>exact d.elim
 | panic p =>
  obtain⟨v,q,F',L',k1,f,n,m,o,kp⟩:=d;exact hP v p a' w' q m ⟨F',L',k1,r.trans f,kp⟩
 | outgrown=>exact d.elim
end
theorem Eh {F:au}{L:Loc}{M:TL}(c:EQ F L M):∀{ks:List Nat}{Lin:List TO},M.sub ks=some Lin->∃Li,L.sub ks=some Li/\Li.length=Lin.length/\∀(i:Nat) o p,Lin[i]?=some o->Li[i]?=some p->cD F L o p
 | [],Lin,h=>by simp only[TL.sub,aaO] at h;subst h;exact⟨[],rfl,rfl,by simp⟩
 | k::ks,Lin,h=>by
  simp only[TL.sub] at h;split at h
  case h_2=>cases h
  rename_i o l h1 j;injection h with h
  subst h;obtain⟨Li,n,f,d⟩:=Eh c j;obtain⟨p,m,e⟩:=c k o h1;refine⟨p::Li,by simp only[Loc.sub,m,n],by simp[f],fun i o' q b a=>?_⟩;cases i with
  | zero =>
   simp only[aa6,aaO] at b a;subst b a;exact e
  | succ i=>exact d i o' q b a
theorem Sn {F:au}{L:Loc}{ks:List Nat}{Lin:List TO}{Li:List Own}(e:Li.length=Lin.length) (c:L.sub ks=some Li) (d:∀(i:Nat) o p,Lin[i]?=some o->Li[i]?=some p->cD F L o p) :
  bM F (inp Li) (cC (Lin.map (TO.aad (C.ren (bA ks 1000))))):=by
 intro k;rw[ck,aF];split
 ·rw[aa9];cases b:Lin[k-1000]? with
  | none =>
   have:Li[k-1000]?=none:=by rw[abA] at b ⊢;omega
   rw[this];trivial
  | some o =>
   have a:k-1000<Li.length:=by have:=(aaU.1 b).1;omega
   rw[aaQ a];exact(d _ _ _ b (aaQ a)).ren (lq c)
 ·trivial
theorem Ei {L:Loc}{ks:List Nat}{Lo:List Own}(a:L.sub ks=some Lo):∀b,(inp Lo).owns b->L.owns b:=by
 obtain⟨h,c⟩:=ct a;rintro b ⟨j,p,e,hb⟩;rw[aF] at e;split at e
 case isFalse=>cases e
 have f:j-1000<Lo.length:=(aaU.1 e).1;have d:ks[j-1000]?=some (ks[j-1000]'(by omega)):=aaQ (by omega);exact⟨_,p,by rw[c _ _ d];exact e,hb⟩
theorem Sq:Xj=.region 10 #[{dst:=some 37,op:=.makeFunc (.func 83) #[] #[.tmp 2],type:=1,pos:="traits.go:134",after:=#[],guard:=none},
  {dst:=none,op:=.defer {callee:=.value (.tmp 37),args:=#[],argTypes:=#[]},type:=0,pos:="traits.go:134",after:=#[{on:=0,ground:=Ground.data}],guard:=none}] false:=by kernel_rfl
def dq (v:Value):Deferred:={target:=.fn (.func 83) #[v],args:=#[]}
theorem wpD {a:Act}{w:World}{v:Value}{Q:Exit->Act->World->Prop}(d:a.tmps.size=97) (e:a.tmps.getD 2 undef=v) (h:Q .normal {(a.put (some 37) (.func (.func 83) #[] #[v])) with defers:=dq v::a.defers} w):Xj.wp P Q a w:=by
 rw[Sq];apply wp_region;have b:a.tmps[2]?.getD undef=v:=by rw[<-aa8];exact e
 have c:∀q:2<a.tmps.size,a.tmps[2]'q=v:=fun q=>by rw[Array.getElem?_eq_getElem q] at b;exact b
 simp[wpOps,go_sem,Region.wanted,d,b,c,Array.getElem?_setIfInBounds,Instr.makeFunc]
 first
  | exact .inl (.inl h)
  | (trace_state;sorry)
end Go.Fr.Try
