/- Part of the proofs of the statements of this seat. -/
import Derived.Test.YthfdbepkalpplaaUnG2G
import Derived.Defers
set_option maxRecDepth 10000
set_option linter.unusedVariables false
set_option linter.unusedSimpArgs false
namespace Go.Fr.Try
open Go Go.RowKit Go.Proofs Go.Fr Go.Fr.T Go.Fr.Api
def JH (o:OM):Nat->Nat
 | 0=>0
 | i+1=>JH o i+(if bw o i=some true then 0 else 1)
def Sk (o o':OM):Prop:=∀i,bw o i=some true->bw o' i=some true
theorem Gy {o o':OM}(h:Sk o o'):∀n,JH o' n<=JH o n
 | 0=>abh _
 | n+1=>by
  rw[JH,JH];have:=Gy h n
  by_cases e:bw o n=some true
  ·rw[eu e,eu (h _ e)];omega
  ·rw[fo e];split<;>omega
theorem Nc {o o':OM}(h:Sk o o') {i:Nat}(h1:¬bw o i=some true) (h2:bw o' i=some true):∀n,i<n->JH o' n<JH o n
 | 0,hi=>o5 hi (abL _)
 | n+1,hi=>by
  rw[JH,JH]
  by_cases e:i=n
  ·subst e;rw[fo h1,eu h2];have:=Gy h i;omega
  ·have:=Nc h h1 h2 n (by omega)
   by_cases e:bw o n=some true
   ·rw[eu e,eu (h _ e)];omega
   ·rw[fo e];split<;>omega
theorem Sk.set (o:OM) (i:Int):Sk o (eX o i true):=fun j h=>by
 rw[iQ];split
 ·rfl
 ·exact h
def H9 (s:List Ty) (t:Ty) (d:DM) (o:OM):Prop:=∃n r,bL s n t d o=some r/\∀k a o',r=some (k,a,o')->Sk o o'
theorem wV {s:List Ty}{K:Nat}:∀(l:List Ty),(∀x∈l,∀d o,JH o s.length<K->H9 s x d o)->∀k d o,JH o s.length<K->∃n r,eW (bL s n) l k d o=some r/\∀k a o',r=some (k,a,o')->Sk o o'
 | [],_,k,d,o,_=>⟨0,_,rfl,fun f a o' e=>by injection e with e;injection e with _ e;injection e with _ e;subst e;exact fun i h=>h⟩
 | x::l,h,k,d,o,p=>by
  obtain⟨n,r,h1,h2⟩:=h x (by simp) d o p;cases r with
  | none=>exact⟨n,none,by rw[eW,h1],fun k a o' e=>by cases e⟩
  | some q =>
   obtain⟨f,a,o'⟩:=q;have c:=h2 f a o' rfl;obtain⟨m,r,h3,h4⟩:=wV l (fun x t=>h x (by simp[t])) (if f>k then f else k) a o' (by have:=Gy c s.length;omega);refine⟨max n m,r,?_,fun k j u e i hi=>h4 k j u e i (c i hi)⟩;rw[eW,ij (Nat.le_max_left n m) h1];exact tJ (fun x d o b hb=>ij (Nat.le_max_right n m) hb) h3
theorem BZ {n:Nat}{s:List Ty}{t x:Ty}{d:DM}{o:OM}(he:(if t.kind=9 then bS s t else some (.mk 0 0 []))=some x) (a:x.kind=0):bL s (n+1) t d o=(match eW (bL s n) t.args 0 d o with
    | some (some (k,b,o'))=>some (some (Au (k+1),b,o'))
    | some none=>some none
    | none=>none):=by
 rw[bL,he];simp only;rw[fo (fun q=>q a)];rfl
theorem JI {n:Nat}{s:List Ty}{t x:Ty}{d:DM}{o:OM}(c:t.kind=9) (he:bS s t=some x) (a:¬x.kind=0) (hd:bw d t.id=none) (e:¬bw o t.id=some true) {r:Option (Int×DM×OM)}(h:bL s n x d (eX o t.id true)=some r):bL s (n+1) t d o=some (r.map fun p=>(p.1,eX p.2.1 t.id p.1,p.2.2)):=by
 rw[bL,eu c,he];simp only;rw[eu a,hd];simp only;cases b:bw o t.id with
 | none =>
  rw[h];cases r<;>rfl
 | some u =>
  cases u with
  | true=>exact o5 b e
  | false =>
   rw[h];cases r<;>rfl
theorem zJ {s:List Ty}(w:Av s):∀(K:Nat) (t:Ty),ins s.length t=true->∀d o,JH o s.length<K->H9 s t d o
 | 0=>fun t _ d o h=>o5 h (abL _)
 | K+1=>cL (p:=fun t=>ins s.length t=true->∀d o,JH o s.length<K+1->H9 s t d o) fun t ih m d o u=>by
  have a:∀x,(if t.kind=9 then bS s t else some (.mk 0 0 []))=some x->x.kind=0->H9 s t d o:=fun x he b=>by
   obtain⟨n,r,h1,h2⟩:=wV t.args (fun x q d o u=>ih x q (cR m x q) d o u) 0 d o u;refine⟨n+1,r.map fun p=>(Au (p.1+1),p.2.1,p.2.2),?_,fun k l o' e=>?_⟩
   ·rw[BZ he b,h1];cases r with
    | none=>rfl
    | some p=>rfl
   ·cases r with
    | none=>cases e
    | some p =>
     obtain⟨k1,z,o1⟩:=p;simp only[abI] at e;injection e with e
     injection e with _ e
     injection e with _ e
     subst e;exact h2 _ _ _ rfl
  by_cases f:t.kind=9
  ·obtain⟨x,he,q⟩:=rm m f
   by_cases b:x.kind=0
   ·exact a x (by rw[eu f];exact he) b
   obtain⟨i,hi,_,j⟩:=zI m f;have v:(if t.kind=9 then bS s t else some (.mk 0 0 []))=some x:=by rw[eu f];exact he
   cases hd:bw d t.id with
   | some k=>exact⟨1,_,by rw[bL,v];simp only;rw[eu b,hd],fun k l o' e=>by injection e with e;injection e with _ e;injection e with _ e;subst e;exact fun i h=>h⟩
   | none =>
    by_cases c:bw o t.id=some true
    ·exact⟨1,none,by rw[bL,v];simp only;rw[eu b,hd,c],fun k l o' e=>by cases e⟩
    ·have y:=Nc (Sk.set o t.id) (i:=i) (by rw[<-j];exact c) (by rw[iQ,eu j.symm]) s.length hi;obtain⟨n,r,h1,h2⟩:=zJ w K x (w.elem he b) d (eX o t.id true) (by omega);refine⟨n+1,r.map fun p=>(p.1,eX p.2.1 t.id p.1,p.2.2),?_,fun k l o' e=>?_⟩
     ·exact JI f he b hd c h1
     ·cases r with
      | none=>cases e
      | some p =>
       obtain⟨k1,z,o1⟩:=p;simp only[abI] at e;injection e with e
       injection e with _ e
       injection e with _ e
       subst e;exact fun i hi=>h2 _ _ _ rfl i (Sk.set o t.id i hi)
  ·exact a _ (by rw[fo f]) rfl
theorem EO {s:List Ty}(a:Av s) {t:Ty}(b:ins s.length t=true) (d:DM) (o:OM):∃n r,bL s n t d o=some r:=by
 obtain⟨n,r,h,_⟩:=zJ a _ t b d o (acd _);exact⟨n,r,h⟩
theorem B0 {s:List Ty}(h:s.all (fA s.length)=true):Av s:=fun x b=>by
 have:=(abg.1 h) x b;unfold fA at this;split at this
 ·rename_i a;exact .inl a
 ·exact .inr this
theorem wW {s:List Ty}(a:Av s):∀i,i<=s.length->∃n r,dV s n i=some r
 | 0,_=>⟨0,_,rfl⟩
 | i+1,hi=>by
  obtain⟨n,r,h1⟩:=wW a i (by omega);cases r with
  | none=>exact⟨n,none,by rw[dV,h1]⟩
  | some p =>
   obtain⟨b,d,o⟩:=p;obtain⟨m,r,h2⟩:=EO a (nk (show i<s.length by omega)) d o;cases r with
   | none=>exact⟨max n m,none,by rw[dV,qd (Nat.le_max_left n m) h1];simp only;rw[ij (Nat.le_max_right n m) h2]⟩
   | some q=>exact⟨max n m,some (b||decide (q.1>8),q.2.1,q.2.2),by rw[dV,qd (Nat.le_max_left n m) h1];simp only;rw[ij (Nat.le_max_right n m) h2]⟩
theorem wX (s:List Ty):∃n r,bM s n=some r:=by
 cases a:s.all (fA s.length) with
 | false=>exact⟨0,none,by unfold bM;rw[fo (by rw[a];exact abt)]⟩
 | true =>
  obtain⟨n,r,h⟩:=wW (B0 a) s.length (abh _);cases r with
  | none=>exact⟨n,none,by unfold bM;rw[eu a,h]⟩
  | some p =>
   obtain⟨b,d,o⟩:=p;cases b with
   | true=>exact⟨n,none,by unfold bM;rw[eu a,h];rfl⟩
   | false=>exact⟨n,some (d,o),by unfold bM;rw[eu a,h];rfl⟩
def YT (s:List Ty) (i:Int):Prop:=∀t:Ty,t.kind=9->t.id=i->kz s t
def EP (s:List Ty) (d:DM):Prop:=∀i,bw d i≠none->YT s i
theorem B6 {s:List Ty}{n:Nat}:∀{l:List Ty},(∀x∈l,∀d o k a o',bL s n x d o=some (some (k,a,o'))->EP s d->kz s x/\EP s a)->∀{k:Int}{d:DM}{o:OM}{e:Int}{a:DM}{o':OM},eW (bL s n) l k d o=some (some (e,a,o'))->EP s d->(∀x∈l,kz s x)/\EP s a
 | [],_,k,d,o,e,a,o',h,hd=>by
  rw[eW] at h;injection h with h
  injection h with h
  injection h with _ h
  injection h with h _
  subst h;exact⟨fun x c=>(by cases c),hd⟩
 | x::l,c,k,d,o,e,a,o',h,hd=>by
  rw[eW] at h;cases h1:bL s n x d o with
  | none=>rw[h1] at h;cases h
  | some r =>
   rw[h1] at h;cases r with
   | none=>cases h
   | some p =>
    obtain⟨k1,t,u⟩:=p;obtain⟨m,q⟩:=c x (by simp) d o k1 t u h1 hd;obtain⟨j,f⟩:=B6 (fun y b=>c y (by simp[b])) h q;refine⟨fun y b=>?_,f⟩;rcases abd.1 b with rfl | b
    ·exact m
    ·exact j y b
theorem Dg {s:List Ty}{t u:Ty}(h:u.id=t.id):bS s u=bS s t:=by unfold bS;rw[h]
theorem zK {s:List Ty}:∀{n:Nat}{t:Ty}{d:DM}{o:OM}{k:Int}{a:DM}{o':OM},bL s n t d o=some (some (k,a,o'))->EP s d->kz s t/\EP s a
 | 0,t,d,o,k,a,o',h,_=>by cases h
 | n+1,t,d,o,k,a,o',h,hd=>by
  rw[bL] at h;cases he:(if t.kind=9 then bS s t else some (.mk 0 0 [])) with
  | none=>simp only[he] at h;cases h
  | some x =>
   simp only[he] at h
   by_cases l:x.kind=0
   ·rw[fo (fun q=>q l)] at h;cases w:eW (bL s n) t.args 0 d o with
    | none=>simp only[w] at h;cases h
    | some r =>
     simp only[w] at h;cases r with
     | none=>cases h
     | some p =>
      obtain⟨k1,b,v⟩:=p;injection h with h
      injection h with h
      injection h with _ h
      injection h with h _
      subst h;obtain⟨m,y⟩:=B6 (fun x _ d o k a o' h hd=>zK h hd) w hd;refine⟨?_,y⟩
      by_cases c:t.kind=9
      ·rw[eu c] at he;exact .stop c he l m
      ·exact .arg c m
   ·rw[eu l] at h;have c:t.kind=9:=by
     by_cases c:t.kind=9
     ·exact c
     ·rw[fo c] at he;injection he with he
      exact o5 (by rw[<-he];rfl) l
    rw[eu c] at he;cases j:bw d t.id with
    | some k0 =>
     simp only[j] at h;injection h with h
     injection h with h
     injection h with _ h
     injection h with h _
     subst h;exact⟨hd t.id (by rw[j];simp) t c rfl,hd⟩
    | none =>
     simp only[j] at h;have key:∀k1 b v,bL s n x d (eX o t.id true)=some (some (k1,b,v))->kz s t/\EP s (eX b t.id k1):=by
      intro k1 b v hx;obtain⟨m,y⟩:=zK hx hd;refine⟨.step c he l m,fun i hi=>?_⟩;rw[iQ] at hi
      by_cases e:i=t.id
      ·intro u hu z;exact .step hu ((Dg (z.trans e)).trans he) l m
      ·rw[fo e] at hi;exact y i hi
     have fin:∀X:Option (Option (Int×DM×OM)),(match X with
       | some (some (k,a,o'))=>some (some (k,eX a t.id k,o'))
       | some none=>some none
       | none=>none)=some (some (k,a,o'))->∃b,X=some (some (k,b,o'))/\a=eX b t.id k:=by
      intro X f;cases X with
      | none=>cases f
      | some q =>
       cases q with
       | none=>cases f
       | some p =>
        obtain⟨k1,b,v⟩:=p;injection f with f
        injection f with f
        injection f with e1 f
        injection f with e2 e3
        subst e1 e3;exact⟨b,rfl,e2.symm⟩
     have ho:¬bw o t.id=some true:=fun q=>by rw[q] at h;cases h
     have h:(match bL s n x d (eX o t.id true) with
       | some (some (k,a,o'))=>some (some (k,eX a t.id k,o'))
       | some none=>some none
       | none=>none)=some (some (k,a,o')):=by
      cases j:bw o t.id with
      | none=>rw[j] at h;exact h
      | some u =>
       cases u with
       | true=>exact o5 j ho
       | false=>rw[j] at h;exact h
     obtain⟨b,h1,h2⟩:=fin _ h;rw[h2];exact key _ _ _ h1
theorem Ca {s:List Ty}{n:Nat}:∀{i:Nat}{b:Bool}{d:DM}{o:OM},dV s n i=some (some (b,d,o))->(∀j<i,kz s (vr j))/\EP s d
 | 0,b,d,o,h=>by
  rw[dV] at h;injection h with h
  injection h with h
  injection h with _ h
  injection h with h _
  subst h;exact⟨fun j a=>o5 a (abL _),fun i hi=>o5 rfl hi⟩
 | i+1,b,d,o,h=>by
  rw[dV] at h;cases h1:dV s n i with
  | none=>rw[h1] at h;cases h
  | some r =>
   rw[h1] at h;cases r with
   | none=>cases h
   | some p =>
    obtain⟨u,m,q⟩:=p;obtain⟨k,l⟩:=Ca h1;simp only at h;cases h2:bL s n (vr i) m q with
    | none=>rw[h2] at h;cases h
    | some r =>
     rw[h2] at h;cases r with
     | none=>cases h
     | some p =>
      obtain⟨v,t,w⟩:=p;injection h with h
      injection h with h
      injection h with _ h
      injection h with h _
      subst h;obtain⟨f,c⟩:=zK h2 l;refine⟨fun j a=>?_,c⟩
      by_cases e:j=i
      ·rw[e];exact f
      ·exact k j (by omega)
theorem ny {s:List Ty}{n:Nat}{d:DM}{o:OM}(h:bM s n=some (some (d,o))):Good s:=by
 unfold bM at h;split at h
 ·rename_i c;cases a:dV s n s.length with
  | none=>simp only[a] at h;cases h
  | some r =>
   cases r with
   | none=>simp only[a] at h;cases h
   | some p =>
    obtain⟨b,d,o⟩:=p;exact⟨B0 c,(Ca a).1⟩
 ·cases h
theorem EQ {s:List Ty}(g:Good s):∃n r,kh s n=some r:=by
 have h1:∀i∈List.range s.length,∃n r,aP s n (vr i)=some r:=fun i hi=>(g.fin i (List.mem_range.1 hi)).front;have h2:∀i∈List.range s.length,∃n r,nC s n (vr i)=some r:=fun i hi=>(g.fin i (List.mem_range.1 hi)).ap;obtain⟨b,h1⟩:=oS (f:=fun n i=>aP s n (vr i)) dW h1;obtain⟨c,h2⟩:=oS (f:=fun n i=>nC s n (vr i)) nN h2;have l:∀i,i<=s.length->∀d,∃r,ji s b i d=some r:=by
  intro i
  induction i with
  | zero=>exact fun _ d=>⟨d,rfl⟩
  | succ i h =>
   intro hi d;obtain⟨t,e⟩:=h1 i (List.mem_range.2 (by omega));obtain⟨r,a⟩:=h (by omega) (if t.kind=9 then eX d t.id i else d);exact⟨r,by rw[ji,e];exact a⟩
 obtain⟨m,k⟩:=l s.length (abh _) [];have j:∀i,i<=s.length->∃r,qq s c m i=some r:=by
  intro i
  induction i with
  | zero=>exact fun _=>⟨[],rfl⟩
  | succ i h =>
   intro hi;obtain⟨t,e⟩:=h2 i (List.mem_range.2 (by omega));obtain⟨r,a⟩:=h (by omega);exact⟨_,by rw[qq,a,e]⟩
 obtain⟨r,a⟩:=j s.length (abh _);refine⟨max b c,r,?_⟩;unfold kh;rw[tK (Nat.le_max_left b c) k];exact wz (Nat.le_max_right b c) a
theorem zL {s:List Ty}{a b:Ty}(h:nV s a b=true):ins s.length a=true/\ins s.length b=true/\cg a<=8/\cg b<=8:=by
 unfold nV at h;simp only[xo,Bool.not_eq_true',acg] at h;exact⟨h.1.1,h.1.2,by omega,by omega⟩
theorem Sm (s:List Ty) (a b:Ty):∃n,Fuel n s a b/\(∀s',MY n s a b s'->∃r,kh s' n=some r)/\∀s',MY n s a b s'->FB s s':=by
 obtain⟨c,r1,h1⟩:=wX s
 by_cases hc:(∃d o,r1=some (d,o))/\nV s a b=true
 ·obtain⟨⟨d,o,rfl⟩,v⟩:=hc;have g:=ny h1;obtain⟨i1,i2,_,_⟩:=zL v;obtain⟨f,r2,h2,h3⟩:=u9 _ s g (acd _) a b i1 i2;cases r2 with
  | none =>
   refine⟨max c f,⟨⟨_,kR (Nat.le_max_left c f) h1⟩,fun _ _=>⟨_,iC (Nat.le_max_right c f) h2⟩,fun _ _ s' e=>?_,fun _ _ s' e=>?_⟩,fun s' e=>?_,fun s' e=>?_⟩
   ·rw[iC (Nat.le_max_right c f) h2] at e;cases e
   ·rw[iC (Nat.le_max_right c f) h2] at e;cases e
   ·have e:=e.2.2.1;rw[iC (Nat.le_max_right c f) h2] at e;cases e
   ·have e:=e.2.2.1;rw[iC (Nat.le_max_right c f) h2] at e;cases e
  | some s' =>
   have t:=h3 s' rfl;obtain⟨l,r3,h4⟩:=wX s';obtain⟨k,r4,h5⟩:=EQ t.good;have hd:∃j,∀d o,r3=some (d,o)->∃r,bL s' j a d o=some r:=by
    cases r3 with
    | none=>exact⟨0,fun d o e=>by cases e⟩
    | some p =>
     obtain⟨j,r5,h6⟩:=EO t.good.ins (show ins s'.length a=true by rw[t.len];exact i1) p.1 p.2;exact⟨j,fun d o e=>by injection e with e;rw[e] at h6;exact⟨r5,h6⟩⟩
   obtain⟨j,h6⟩:=hd;have x:c<=c+f+l+k+j:=by omega
   have w:f<=c+f+l+k+j:=by omega
   have u:l<=c+f+l+k+j:=by omega
   have y:k<=c+f+l+k+j:=by omega
   have z:j<=c+f+l+k+j:=by omega
   generalize c+f+l+k+j=n at x w u y z;have m:∀{h},ld n s a b=some (some h)->h=s':=fun e=>by
    rw[iC w h2] at e;injection e with e;injection e with e;exact e.symm
   refine⟨n,⟨⟨_,kR x h1⟩,fun _ _=>⟨_,iC w h2⟩,fun _ _ h e=>?_,fun _ _ h e d o hf=>?_⟩,fun h e=>?_,fun h e=>?_⟩
   ·rw[m e];exact⟨_,kR u h4⟩
   ·rw[m e] at hf ⊢;rw[kR u h4] at hf;injection hf with hf
    obtain⟨r,hr⟩:=h6 d o hf;exact⟨r,ij z hr⟩
   ·rw[m e.2.2.1];exact⟨_,tL y h5⟩
   ·rw[m e.2.2.1];exact t
 ·have no:∀{X:Prop},(∃d o,bM s c=some (some (d,o)))->nV s a b=true->X:=fun⟨d,o,e⟩ v=>by
   rw[h1] at e;injection e with e;exact o5 ⟨⟨d,o,e⟩,v⟩ hc
  exact⟨c,⟨⟨_,h1⟩,fun q p=>no q p,fun q p=>no q p,fun q p=>no q p⟩,fun s' e=>no e.1 e.2.1,fun s' e=>no e.1 e.2.1⟩
theorem oL.mono {P:Program}{H:Nat}{PS PS':Value->Prop}{ns:List Nat}{out:Value->List (List Value)}(h:oL P H PS ns out) (c:∀v,PS' v->PS v):oL P H PS' ns out :=
 ⟨h.inv,h.idle,fun F bs v a w b=>h.caught F bs v a w (c v b)⟩
theorem Nd:∀{bs:List Own}{n:Nat},Dz bs [n]->∃g t cs,bs=[.box g (t+1) cs]/\cs.length=n
 | [],_,h=>h.elim
 | [o],n,h=>by
  cases o with
  | row=>exact h.1.elim
  | box g t cs =>
   cases t with
   | zero=>exact o5 rfl (xQ h.1)
   | succ t=>exact⟨g,t,cs,rfl,h.1⟩
 | _::_::_,_,h=>h.2.elim
def QJ (v:Value):List (List Value):=match v with
 | .iface _ (.agg ⟨[.int _ n]⟩)=>[[.int .i64 n]]
 | _=>[]
theorem TU (bs:List Own) (w:World) (hb:Dz bs [1]):CallsD P 93 (bs.map mg).toArray .returning w fun e d w'=>e=.returned (.tuple #[])/\d=.returning/\w'=w:=by
 have c:Try.f93.ntmps=12:=by kernel_rfl
 have h:Try.f93.results=#[]:=by kernel_rfl
 obtain⟨g,t,cs,rfl,_⟩:=Nd hb;refine callsD_of_wpS Try.func93 rfl fun a cs f=>?_;apply wpS_seq;apply wpS_region;simp[wpOpsS,go_sem,recoverD,f,c,Exit.thenS,mg];refine wpS_of_wp (wp_block (wp_seq (wp_region ?_)));have b:P.underlying 20=some (.interface #[]):=by kernel_rfl
 have he:∀w:World,(Op.equal 20 .nilIface .nilIface).run P w=.ok true w:=fun w=>FH b;simp[wpOps,go_sem,Exit.then,he,Exit.inBlock];refine .inl ?_;apply wp_cond_true
 ·simp[Act.eval,Array.replicate]
 apply wp_region;cases a
 simp_all [wpOps,go_sem,bodyPostS,results,Exit.inBlock]
theorem Dh:oL P 93 (fun v=>∃e,v=cV e) [1] QJ:=by
 refine wR Try.func93 Qm rfl TU ?_;rintro F bs v ⟨n,rfl⟩ hb;obtain⟨g,t,cs,rfl,h1⟩:=Nd hb
 match cs,h1 with
 | [a],_ =>
  intro b;exact rfl
def RG (n:Nat) (s:List Ty) (a b:Ty):List TO->C->Prop:=fun Mo v=>(∃s',MY n s a b s'/\Mo=LU s'/\v=IC 0)\/(∃e,Sj n s a b e/\v=IC e/\∃i j,Mo=[.box 89 (List.replicate i .any),.box 93 (List.replicate j .any),.row 32 3 []])
theorem Sj.three {n:Nat}{s:List Ty}{a b:Ty}{e:Int}(h:Sj n s a b e):e=1\/e=2\/e=8:=by
 rcases h with⟨_,h⟩ | ⟨_,⟨_,h⟩ | ⟨_,⟨_,h⟩ | ⟨_,_,h,_⟩⟩⟩<;>omega
section
variable {L:TL}{ρ:aG}
theorem TV (ks:List Nat) {PS:oE}{n f:Nat}{s:List Ty}{a b:Ty}{args:List C}{K:TL->aG->C->Prop}{Lin:List TO}(h:CallsTX P f (args.map fun c=>c.aaw.ren (bn ks 1000)) (LU s) (RU n s a b) (PU n s a b)) (q:L.sub ks=some Lin)
  (e:(T.aU ks&&T.jP L ks ks&&aH Lin ks ks&&jQ L ks PS.hb)=true) (m:Lin.map (TO.aaq (C.ren (bn ks 1000)))=LU s) (j:ks.length=3) (p:∀v,PU n s a b v->PS.ps v)
  (k:∀s',MY n s a b s'->K (((L.aas ks).kills (rowsOf L ks)).puts ks ((LU s').map (TO.aaq (C.ren (aL ks))))) (dO (rowsOf L ks) ρ) (.tup [])):lK P PS f args L ρ K:=by
 simp only[xo] at e;obtain⟨⟨⟨d,o⟩,c3⟩,c4⟩:=e;refine⟨[],ks,ks,L,Lin,_,_,.inl rfl,q,d,d,o,c3,c4,by rw[m];exact h,p,?_⟩;rintro v Mo ⟨s',l,rfl,rfl⟩ t r;exact⟨j,k s' l⟩
theorem TW (ks:List Nat) {n f:Nat}{s:List Ty}{a b:Ty}{args:List C}{K:TL->aG->C->Prop}{Lin:List TO}(h:CallsT P f (args.map fun c=>c.aaw.ren (bn ks 1000)) (LU s) (RG n s a b)) (r:L.sub ks=some Lin)
  (m:(T.aU ks&&T.jP L ks ks&&aH Lin ks ks)=true) (o:Lin.map (TO.aaq (C.ren (bn ks 1000)))=LU s) (k:ks.length=3)
  (k1:∀s',MY n s a b s'->K (((L.aas ks).kills (rowsOf L ks)).puts ks ((LU s').map (TO.aaq (C.ren (aL ks))))) (dO (rowsOf L ks) ρ) (IC 0))
  (p:∀e,Sj n s a b e->∀Lx,Lx.length=3->K (((L.aas ks).kills (rowsOf L ks)).puts ks Lx) (dO (rowsOf L ks) ρ) (IC e)):kF P f args L ρ K:=by
 simp only[xo] at m;obtain⟨⟨l,q⟩,c3⟩:=m;refine .mk ⟨[],ks,ks,L,Lin,_,.inl rfl,r,l,l,q,c3,by rw[o];exact h,?_⟩;rintro v Mo (⟨s',d,rfl,rfl⟩ | ⟨e,d,rfl,i,j,rfl⟩) hw hwo
 ·exact⟨k,k1 s' d⟩
 ·exact⟨k,p e d _ rfl⟩
end
theorem YU {F:aA}{L:Loc}{m:Int}(h0:0<=m) (h1:m<64):Rel F L (IC m) (.int .i64 m):=by
 rw[Rel];exact⟨rfl,by rw[F4];simp only[IntKind.min,IntKind.max,IntKind.signed,IntKind.bits,abB];omega⟩
theorem YV (n:Nat) (s:List Ty) (a b:Ty) (h:MZ s a b (RU n s a b) (PU n s a b)):CallsT P 56 [.fn 62 [] [.own 1000 0,.pt (u7 a) 0,.pt (u7 b) 0]] (LU s) (RG n s a b):=by
 refine gX (PS:=PU n s a b) (ns:=[1]) (out:=QJ) Try.func56 CU (oL.mono Dh fun v ⟨e,_,h⟩=>⟨e,h⟩) (fun v ⟨e,_,h⟩=>by subst h;rfl) rfl rfl ?_ fun f m=>?_
 ·rintro v ⟨e,hB,rfl⟩;refine⟨IC e,.int .i64 e,?_,?_,?_⟩
  ·intro L ρ h;obtain⟨a1,l,k,d⟩:=h 0 2 _ rfl rfl;simp only[nY,a1,d];rfl
  ·intro F L;have:=hB.three;exact YU (by omega) (by omega)
  ·rintro Mo ⟨i,Mo1,rfl,j,Mo2,rfl,Mo3,rfl,rfl⟩;exact .inr ⟨e,hB,rfl,i,j,rfl⟩
 refine⟨rfl,?_⟩;refine TV [1000,1001,1002] h rfl rfl rfl rfl (fun v q=>q) fun s' c=>?_;exact qa [1000,1001,1002] rfl rfl rfl rfl (.inl ⟨s',c,rfl,rfl⟩)
def UR (n:Nat) (s:List Ty) (a b:Ty) (r:List Ty) (e:Int):Prop:=(∃s',MY n s a b s'/\kh s' n=some r/\e=0)\/(Sj n s a b e/\r=[])
def RN (n:Nat) (s:List Ty) (a b:Ty):List TO->C->Prop:=fun Mo v=>Mo=[]/\∃r e,UR n s a b r e/\v=.tup [.sl (r.map aD),IC e]
theorem YW {L:TL}{K:TL->Prop}(h:K L):fT L K:=by rw[gH];exact h
theorem t23 (n:Nat) (s:List Ty) (a b:Ty) (o:s.length<=2 ^ 30) (F:Fuel n s a b) (hf:∀s e r,bM s n=some r->EM s e r) (f:cg a<=2 ^ 40) (d:cg b<=2 ^ 40)
  (h:∀s',MY n s a b s'->s'.length<=2 ^ 30/\(∀x∈s',gN x)/\∃r,kh s' n=some r):CallsT P 23 [.sl (s.map aD),aK a,aK b] [] (RN n s a b):=by
 have k:=YV n s a b (t62 n s a b F hf f d);have j:=t61 s o;refine af Try.func23 Pw rfl fun p _=>?_;refine callO [] [11] j rfl rfl rfl rfl rfl fun _ _=>?_;refine TW [8,13,11] k rfl rfl rfl rfl (fun s' c=>?_) fun e he Lx m=>?_
 ·skip
  refine oP (h s' c).2.2 fun r l=>?_;refine En [11] [13] [13] (t65 s' n r (h s' c).1 (h s' c).2.1 l) ⟨_,rfl,rfl,rfl,rfl,rfl,fun _ _=>?_⟩;exact qa [] rfl rfl rfl rfl ⟨rfl,r,0,.inl ⟨s',c,l,rfl⟩,rfl⟩
 ·refine YW ?_;have h0:¬e=0:=by have:=he.three;omega
  refine aT (fun _=>?_) (fun q=>o5 q h0);exact qa [] rfl rfl rfl rfl ⟨rfl,[],e,.inr ⟨he,rfl⟩,rfl⟩
def RFf (s:List Ty) (r:Option (DM×OM)):List TO->C->Prop:=fun Mo v=>∃d o,r=some (d,o)/\Mo=J1 s d o/\v=.tup []
def ve (s:List Ty) (e:Int) (r:Option (DM×OM)):Prop:=CallsTX P 58 [.own 1000 0,IC e] (vF s) (RFf s r) (PF e r)
section
variable {L:TL}{ρ:aG}
theorem Ia (ks ko:List Nat) {PS:oE}{args:List C}{K:TL->aG->C->Prop}{s:List Ty}{e:Int}{r:Option (DM×OM)}{Lin:List TO}(h:ve s e r) (q:L.sub ks=some Lin)
  (a:(T.aU ks&&T.aU ko&&T.jP L ks ko&&aH Lin ks ko&&jQ L ks PS.hb)=true) (j:(args.map fun c=>c.aaw.ren (bn ks 1000))=[.own 1000 0,IC e]) (l:Lin.map (TO.aaq (C.ren (bn ks 1000)))=vF s) (b:ko.length=3) (n:∀v,PF e r v->PS.ps v)
  (k:∀d o,r=some (d,o)->K (((L.aas ks).kills (rowsOf L ks)).puts ko ((J1 s d o).map (TO.aaq (C.ren (aL ko))))) (dO (rowsOf L ks) ρ) (.tup [])):lK P PS 58 args L ρ K:=by
 simp only[xo] at a;obtain⟨⟨⟨⟨p,m⟩,c3⟩,c4⟩,c5⟩:=a;refine⟨[],ks,ko,L,Lin,_,_,.inl rfl,q,p,m,c3,c4,c5,by rw[l,j];exact h,n,?_⟩;rintro v Mo ⟨d,o,f,rfl,rfl⟩ u t;exact⟨b,k d o f⟩
end
theorem YX (s:List Ty) (t:Ty) (d:DM) (o:OM) (h:ve s 1 (some (d,o))) (r:Ty) (hi:ins s.length t=true) (a:CallsT P 60 [.own 1000 0,aK t] (vF s) (aQ (vF s) (aK r))):CallsTX P 57 [.own 1000 0,.pt (u7 t) 0,.own 1002 0] [.box 89 [.own 1001 0],.box 93 [.sl (s.map aD),.any,.any],.box 32 [IC 0,IC 0,.nils]] (aQ [.box 89 [.own 1001 0],.box 93 [.sl (s.map aD),.any,.any],.box 32 (u7 r)] (.tup [])) (fun _=>False):=by
 have b:=fun D O=>MG s D O t;refine bg Try.func57 HE rfl fun c _=>?_;refine Ia [1001] [1001,2003,2004] h rfl rfl rfl rfl rfl (fun v q=>by cases q.1) fun d o e=>?_;refine callO [1001,2003,2004] [1001,2003,2004] (b _ _) rfl rfl rfl rfl rfl fun _ _=>?_;refine aq (fun _=>?_) (fun h=>o5 (show ins s.length t=false from h) (by rw[hi];exact Bool.noConfusion));refine callO [1001] [1001] a rfl rfl rfl rfl rfl fun _ _=>?_;exact bJ [1000,1001,1002] rfl rfl rfl rfl
theorem YZ (s:List Ty) (t:Ty) (d:DM) (o:OM) (h:ve s 1 (some (d,o))) (r:Ty) (hi:ins s.length t=true) (b:CallsT P 60 [.own 1000 0,aK t] (vF s) (aQ (vF s) (aK r))):CallsT P 56 [.fn 57 [] [.own 1000 0,.pt (u7 t) 0,.own 1002 0]] [.box 89 [.own 1001 0],.box 93 [.sl (s.map aD),.any,.any],.box 32 [IC 0,IC 0,.nils]] (aQ [.box 89 [.own 1001 0],.box 93 [.sl (s.map aD),.any,.any],.box 32 (u7 r)] (IC 0)):=by
 have a:=YX s t d o h r hi b;refine gX (PS:=fun _=>False) (ns:=[1]) (out:=QJ) Try.func56 CU (oL.mono Dh fun v h=>h.elim) (fun v h=>h.elim) rfl rfl (fun v h=>h.elim) fun c e=>?_;refine⟨rfl,?_⟩;refine Lc [1000,1001,1002] [1000,1001,1002] a rfl rfl rfl rfl rfl (fun v q=>q) fun _ _=>?_;exact bJ [1000,1001,1002] rfl rfl rfl rfl
theorem Y0 (s:List Ty) (t:Ty) (d:DM) (o:OM) (h:ve s 1 (some (d,o))) (r:Ty) (hi:ins s.length t=true) (a:CallsT P 60 [.own 1000 0,aK t] (vF s) (aQ (vF s) (aK r))):CallsT P 22 [.sl (s.map aD),aK t] [] (aQ [] (aK r)):=by
 have b:=YZ s t d o h r hi a;refine af Try.func22 Hw rfl fun c _=>?_;refine callO [5,9,6] [5,9,6] b rfl rfl rfl rfl rfl fun _ _=>?_;exact ay rfl rfl
theorem Y1 (s:List Ty) (t:Ty) (d:DM) (o:OM) (h:ve s 1 (some (d,o))) (hi:ins s.length t=false):CallsTX P 57 [.own 1000 0,.pt (u7 t) 0,.own 1002 0] [.box 89 [.own 1001 0],.box 93 [.sl (s.map aD),.any,.any],.box 32 [IC 0,IC 0,.nils]] (aQ [.box 89 [.own 1001 0],.box 93 [.sl (s.map aD),.any,.any],.box 32 ([IC 0,IC 0,.nils])] (.tup [])) (fun _=>False):=by
 have a:=fun D O=>MG s D O t;refine bg Try.func57 HE rfl fun b _=>?_;refine Ia [1001] [1001,2003,2004] h rfl rfl rfl rfl rfl (fun v q=>by cases q.1) fun d o e=>?_;refine callO [1001,2003,2004] [1001,2003,2004] (a _ _) rfl rfl rfl rfl rfl fun _ _=>?_;refine aq (fun h=>o5 (show ins s.length t=true from h) (by rw[hi];exact Bool.noConfusion)) (fun _=>?_);exact bJ [1000,1001,1002] rfl rfl rfl rfl
theorem Y2 (s:List Ty) (t:Ty) (d:DM) (o:OM) (h:ve s 1 (some (d,o))) (hi:ins s.length t=false):CallsT P 56 [.fn 57 [] [.own 1000 0,.pt (u7 t) 0,.own 1002 0]] [.box 89 [.own 1001 0],.box 93 [.sl (s.map aD),.any,.any],.box 32 [IC 0,IC 0,.nils]] (aQ [.box 89 [.own 1001 0],.box 93 [.sl (s.map aD),.any,.any],.box 32 ([IC 0,IC 0,.nils])] (IC 0)):=by
 have a:=Y1 s t d o h hi;refine gX (PS:=fun _=>False) (ns:=[1]) (out:=QJ) Try.func56 CU (oL.mono Dh fun v h=>h.elim) (fun v h=>h.elim) rfl rfl (fun v h=>h.elim) fun b c=>?_;refine⟨rfl,?_⟩;refine Lc [1000,1001,1002] [1000,1001,1002] a rfl rfl rfl rfl rfl (fun v q=>q) fun _ _=>?_;exact bJ [1000,1001,1002] rfl rfl rfl rfl
theorem Y3 (s:List Ty) (t:Ty) (d:DM) (o:OM) (h:ve s 1 (some (d,o))) (hi:ins s.length t=false):CallsT P 22 [.sl (s.map aD),aK t] [] (aQ [] (aK (.mk 0 0 []))):=by
 have a:=Y2 s t d o h hi;refine af Try.func22 Hw rfl fun b _=>?_;refine callO [5,9,6] [5,9,6] a rfl rfl rfl rfl rfl fun _ _=>?_;exact ay rfl rfl
def TY (s:List Ty) (n:Nat) (t:Ty):Option Ty:=if ins s.length t then nC s n t else some (.mk 0 0 [])
theorem t22 (s:List Ty) (n:Nat) (t r:Ty) (d:DM) (o:OM) (h:ve s 1 (some (d,o))) (b:∀x∈s,gN x) (hb:gN t) (a:TY s n t=some r):CallsT P 22 [.sl (s.map aD),aK t] [] (aQ [] (aK r)):=by
 unfold TY at a;cases hi:ins s.length t with
 | true =>
  rw[eu hi] at a;exact Y0 s t d o h r hi (t60 s b n t r hb a)
 | false =>
  rw[fo (by rw[hi];exact abt)] at a;injection a with a
  rw[<-a];exact Y3 s t d o h hi
section
variable {P:Program}
def tM (v:Value):Deferred:={target:=.builtin .panic #[20] 0 #[false],args:=#[v]}
theorem JJ {fr:Frame}{cs:List Frame}{w:World}{t:TypeId}{x:Value}{ds:List Deferred}(d:fr.mode≠.run) (hd:fr.defers=tM (.iface t x)::ds) :
  step P (lone fr cs w)=.next (lone {fr with defers:=ds,mode:=raised fr.mode [{v:=.iface t x,recovered:=false}]} cs w):=by
 have e:∀u,({fr with defers:=ds}:Frame).raise u={fr with defers:=ds,mode:=raised fr.mode u}:=fun u=>by rw[Frame.raise_mode]
 have b:(invoke (tM (.iface t x)).target (tM (.iface t x)).args).run P w=.halt (.panic (.iface t x)) w:=by
  simp[tM,invoke,builtin,go_sem,Instr.panic]
 simp only[tM] at hd b;refine step_lone_go ?_;cases a:fr.mode with
 | run=>exact o5 a d
 | returning =>
  rw[a] at e;simp[stepG,unwind,callDeferred,a,hd,b,e,raised]
 | panicking c =>
  rw[a] at e;simp[stepG,unwind,callDeferred,a,hd,b,e,raised]
theorem tN {t:TypeId}{x:Value}:∀(ds:List Deferred) (fr:Frame) (cs:List Frame) (w:World),(∀d∈ds,d=tM (.iface t x))->fr.mode≠.run->fr.defers=ds->ds≠[]->(∀c,fr.mode=.panicking c->∀e∈c,e.goexit=false) ->
  ∃c,sQ (.iface t x) c/\Steps P (lone fr cs w) (lone {fr with defers:=[],mode:=.panicking c} cs w)
 | [],fr,cs,w,h,n,hd,m,o=>o5 rfl m
 | d::ds,fr,cs,w,h,n,hd,m,o=>by
  have e:=h d (by simp);subst e;have h1:=JJ (P:=P) (cs:=cs) (w:=w) n hd;have p:∃a,raised fr.mode [{v:=.iface t x,recovered:=false}]=.panicking ({v:=.iface t x,recovered:=false}::a)/\∀e∈a,e.goexit=false:=by
   cases f:fr.mode with
   | run=>exact o5 f n
   | returning=>exact⟨[],rfl,fun e h=>by cases h⟩
   | panicking c=>exact⟨c,rfl,o c f⟩
  obtain⟨a,j,l⟩:=p
  by_cases k:ds=[]
  ·subst k;refine⟨_,⟨a,rfl,l⟩,?_⟩;rw[<-j];exact .one h1
  ·obtain⟨c,q,r⟩:=tN ds {fr with defers:=ds,mode:=raised fr.mode [{v:=.iface t x,recovered:=false}]} cs w (fun d hd=>h d (by simp[hd])) (by rw[j];exact fun h=>by cases h) rfl k (fun c b e he=>by
    have b:raised fr.mode [{v:=.iface t x,recovered:=false}]=.panicking c:=b;rw[j] at b;injection b with b
    subst b;rcases abd.1 he with rfl | he
    ·rfl
    ·exact l e he)
   exact⟨c,q,.head h1 r⟩
def rX (P:Program) (fn:Func) (v:Value) (R:Ending->World->Prop):Exit->Act->World->Prop
 | .normal,a,w | .ret,a,w=>(∀d∈a.defers,d=tM v)/\(a.defers=[]->∃x,(results fn a.tmps).run P w=.ok x w/\R (.returned x) w)/\(a.defers≠[]->∀c,sQ v c->R (.panicked c) w)
 | .panic b,a,w=>(∀d∈a.defers,d=tM v)/\(a.defers=[]->R (.panicked b) w)/\(a.defers≠[]->(∀e∈b,e.goexit=false)/\∀c,sQ v c->R (.panicked c) w)
 | .outgrown,_,w=>R .outgrown w
 | _,_,_=>False
theorem xC {f:FuncId}{fn:Func}{c:Code}{args:Array Value}{w:World}{t:TypeId}{x:Value}{R:Ending->World->Prop}
  (hf:P.funcs[f]?=some fn) (hb:fn.body=some c)
  (h:c.wp P (rX P fn (.iface t x) R) {tmps:=args++Array.replicate (fn.ntmps-args.size) undef,defers:=[]} w):Calls P f args w R:=by
 intro cs
 let b:Frame:={(default:Frame) with fn:=f,kind:=.normal}
 have r:Frame.enter P f args .normal =
   b.at {tmps:=args++Array.replicate (fn.ntmps-args.size) undef,defers:=[]} [.code c]:=by
  simp[Frame.enter,Frame.at,hf,hb,b]
 obtain⟨e,a',w',y,n⟩:=h b [] cs;rw[<-r] at n;have s:∀a,((∀d∈a'.defers,d=tM (.iface t x))/\(a'.defers=[]->∃x,(results fn a'.tmps).run P w'=.ok x w'/\R (.returned x) w')/\(a'.defers≠[]->∀q,sQ (.iface t x) q->R (.panicked q) w')) ->
   ∃e p o,R e p/\Comes P (lone {b.at a' a with mode:=.returning} cs w') (lone o cs p) e/\o.fn=f/\o.leaving P p e:=by
  rintro a ⟨q1,q2,q3⟩
  by_cases j:a'.defers=[]
  ·obtain⟨v,hr,z⟩:=q2 j;exact⟨.returned v,w',_,z,Steps.refl P _,rfl,rfl,j,rfl,fn,hf,hr⟩
  ·obtain⟨q,k1,k2⟩:=tN (P:=P) a'.defers {b.at a' a with mode:=.returning} cs w' q1 (fun h=>by cases h) rfl j (fun q h=>by cases h);exact⟨.panicked q,w',_,q3 j q k1,k2,rfl,rfl,rfl,fn,hf⟩
 cases e with
 | normal =>
  obtain⟨e',p,o,z,hs,u,hl⟩:=s [] y;exact⟨e',p,o,z,Comes.of_steps (Steps.trans n (.one step_end)) hs,u,hl⟩
 | ret =>
  obtain⟨a,m⟩:=n;obtain⟨e',p,o,z,hs,u,hl⟩:=s a y;exact⟨e',p,o,z,Comes.of_steps m hs,u,hl⟩
 | panic k =>
  obtain⟨a,m⟩:=n;obtain⟨q1,q2,q3⟩:=y
  by_cases j:a'.defers=[]
  ·exact⟨.panicked k,w',{b.at a' a with mode:=.panicking k},q2 j,Comes.of_steps m (Steps.refl P _),rfl,rfl,j,fn,hf⟩
  ·obtain⟨q,k1,k2⟩:=tN (P:=P) a'.defers {b.at a' a with mode:=.panicking k} cs w' q1 (fun h=>by cases h) rfl j (fun q h=>by
    have h:FrameMode.panicking k=.panicking q:=h;injection h with h
    subst h;exact(q3 j).1)
   exact⟨.panicked q,w',_,(q3 j).2 q k1,Comes.of_steps m k2,rfl,rfl,rfl,fn,hf⟩
 | exit id=>exact y.elim
 | goto l=>exact y.elim
 | outgrown=>exact⟨.outgrown,w',b,y,n.resolve_left (by simp[b]),rfl,trivial⟩
end
theorem Y4 {B g n c:Nat}(a:n<B) (b:c<B):(c+(g*B+n)*B) / B % B=n/\(c+(g*B+n)*B) % B=c/\(c+(g*B+n)*B) / (B*B)=g:=by
 have hB:0<B:=by omega
 have h1:(c+(g*B+n)*B) / B=g*B+n:=by rw[Nat.add_mul_div_right _ _ hB,Nat.div_eq_of_lt b,Nat.zero_add]
 refine⟨?_,?_,?_⟩
 ·rw[h1,Nat.add_comm,Nat.add_mul_mod_self_right,Nat.mod_eq_of_lt a]
 ·rw[Nat.add_mul_mod_self_right,Nat.mod_eq_of_lt b]
 ·rw[<-Nat.div_div_eq_div_mul,h1,Nat.add_comm,Nat.add_mul_div_right _ _ hB,Nat.div_eq_of_lt a,Nat.zero_add]
theorem Nf (m:Nat):sP (m+2)=some (m / gq % gq):=rfl
theorem Ng (m:Nat):J3 (m+1)=.slice (some ⟨m / (gq*gq),0,none⟩) (m / gq % gq) (m % gq):=rfl
theorem ER {n:Nat}(h:n<=maxLen):n<gq:=Nat.lt_of_le_of_lt h (by decide)
theorem Ib (g n c:Nat) (a:n<=maxLen) (b:c<=maxLen):∃k,sP k=some n/\∀F,iq k F (.slice (some ⟨g,0,none⟩) n c):=by
 have a:=ER a;have b:=ER b;generalize hB:gq=B at a b;obtain⟨h1,h2,h3⟩:=Y4 (g:=g) a b;generalize c+(g*B+n)*B=m at h1 h2 h3;refine⟨m+2,?_,fun F=>.inr ⟨m+1,rfl,?_⟩⟩
 ·rw[Nf,hB,h1]
 ·rw[Ng,hB,h1,h2,h3]
theorem QK {F:aA}{L L':Loc}{t:Ty}{v:Value}(h:Rel F L (aK t) v):Rel F L' (aK t) v:=by
 simp only[Rel,aB] at h ⊢;exact h
theorem Gz {F:aA}{k:Nat}{v u:Value}(h:iq k F v) (a:iq k F u):v=u:=by
 rcases h with⟨rfl,rfl⟩ | ⟨m,rfl,rfl⟩
 ·rcases a with⟨_,rfl⟩ | ⟨m,h,_⟩
  ·rfl
  ·cases h
 ·rcases a with⟨h,_⟩ | ⟨b,h,rfl⟩
  ·cases h
  ·injection h with h;rw[h]
theorem Y5 {b a c:Own}{j:Nat}:(inp [b,a,c]).get j=if j=1000 then some b else if j=1001 then some a else if j=1002 then some c else none:=by
 rw[aJ]
 by_cases h:1000<=j
 ·rw[eu h]
  by_cases h0:j=1000
  ·rw[eu h0,h0];rfl
  rw[fo h0]
  by_cases h1:j=1001
  ·rw[eu h1,h1];rfl
  rw[fo h1]
  by_cases h2:j=1002
  ·rw[eu h2,h2];rfl
  rw[fo h2];exact abE (by simp;omega)
 ·rw[fo h,fo (by omega),fo (by omega),fo (by omega)]
theorem VG {b a c:TO}{j:Nat}:(cT [b,a,c]).get j=if j=1000 then some b else if j=1001 then some a else if j=1002 then some c else none:=by
 rw[cG]
 by_cases h:1000<=j
 ·rw[eu h]
  by_cases h0:j=1000
  ·rw[eu h0,h0];rfl
  rw[fo h0]
  by_cases h1:j=1001
  ·rw[eu h1,h1];rfl
  rw[fo h1]
  by_cases h2:j=1002
  ·rw[eu h2,h2];rfl
  rw[fo h2];exact abE (by simp;omega)
 ·rw[fo h,fo (by omega),fo (by omega),fo (by omega)]
theorem T9 {F:aA}{b a c:Own}{l h k:TO}(h0:cZ F (inp [b,a,c]) l b) (h1:cZ F (inp [b,a,c]) h a) (h2:cZ F (inp [b,a,c]) k c):bV F (inp [b,a,c]) (cT [l,h,k]):=by
 intro j;rw[Y5,VG]
 by_cases e:j=1000
 ·rw[eu e,eu e];exact h0
 rw[fo e,fo e]
 by_cases f:j=1001
 ·rw[eu f,eu f];exact h1
 rw[fo f,fo f]
 by_cases d:j=1002
 ·rw[eu d,eu d];exact h2
 rw[fo d,fo d];trivial
theorem Y6 {b a d c:Own}{j:Nat}:(inp [b,a,d,c]).get j=if j=1000 then some b else if j=1001 then some a else if j=1002 then some d else if j=1003 then some c else none:=by
 rw[aJ]
 by_cases h:1000<=j
 ·rw[eu h]
  by_cases h0:j=1000
  ·rw[eu h0,h0];rfl
  rw[fo h0]
  by_cases h1:j=1001
  ·rw[eu h1,h1];rfl
  rw[fo h1]
  by_cases h2:j=1002
  ·rw[eu h2,h2];rfl
  rw[fo h2]
  by_cases h3:j=1003
  ·rw[eu h3,h3];rfl
  rw[fo h3];exact abE (by simp;omega)
 ·rw[fo h,fo (by omega),fo (by omega),fo (by omega),fo (by omega)]
theorem VH {b a d c:TO}{j:Nat}:(cT [b,a,d,c]).get j=if j=1000 then some b else if j=1001 then some a else if j=1002 then some d else if j=1003 then some c else none:=by
 rw[cG]
 by_cases h:1000<=j
 ·rw[eu h]
  by_cases h0:j=1000
  ·rw[eu h0,h0];rfl
  rw[fo h0]
  by_cases h1:j=1001
  ·rw[eu h1,h1];rfl
  rw[fo h1]
  by_cases h2:j=1002
  ·rw[eu h2,h2];rfl
  rw[fo h2]
  by_cases h3:j=1003
  ·rw[eu h3,h3];rfl
  rw[fo h3];exact abE (by simp;omega)
 ·rw[fo h,fo (by omega),fo (by omega),fo (by omega),fo (by omega)]
theorem Ua {F:aA}{b a d c:Own}{n l m o:TO}(h0:cZ F (inp [b,a,d,c]) n b) (h1:cZ F (inp [b,a,d,c]) l a) (h2:cZ F (inp [b,a,d,c]) m d) (h3:cZ F (inp [b,a,d,c]) o c):bV F (inp [b,a,d,c]) (cT [n,l,m,o]):=by
 intro j;rw[Y6,VH]
 by_cases f:j=1000
 ·rw[eu f,eu f];exact h0
 rw[fo f,fo f]
 by_cases k:j=1001
 ·rw[eu k,eu k];exact h1
 rw[fo k,fo k]
 by_cases e:j=1002
 ·rw[eu e,eu e];exact h2
 rw[fo e,fo e]
 by_cases h:j=1003
 ·rw[eu h,eu h];exact h3
 rw[fo h,fo h];trivial
theorem Nh {F:aA}{k f d e b:Nat}{v:Value}{c c3:List Value}{D O:List (C×C)}(a:tyOk 93 f d) (h:iq k F v) (j:gh F D c) (l:gh F O c3) :
  bV F (inp [.box f d [v,.map (some e),.map (some b)],.box e 0 c,.box b 0 c3]) (cT (SO k D O)):=by
 refine T9 ⟨a,?_⟩ ⟨rfl,j⟩ ⟨rfl,l⟩;simp only[aB,Rel];exact⟨_,_,rfl,h,_,_,rfl,⟨_,_,rfl,rfl⟩,_,_,rfl,⟨_,_,rfl,rfl⟩,rfl⟩
theorem QL {P:Program}{f:Nat}{tx:Ty}{b:Bool}{sz t:Nat}{els:List (List C)}{D O:List (C×C)}
  (h:∀k,sP k=some els.length->CallsT P f [.own 1000 0,aK tx] (SO k D O) (aQ (SO k D O) (.bool b))) :
  iB P f [.own 1000 0,aK tx] [.box 93 [.rw 1001,.mpr 1002,.mpr 1003],.row t sz els,.map D,.map O] (aQ [.box 93 [.rw 1001,.mpr 1002,.mpr 1003],.row t sz els,.map D,.map O] (.bool b)):=by
 refine⟨fun F Li vs hl z hr=>?_⟩
 match Li,hl with
 | [u,s,x,y],_ =>
  have q0:=z 1000;have q1:=z 1001;have q2:=z 1002;have q3:=z 1003;have g0:(inp [u,s,x,y]).get 1000=some u:=rfl;have g1:(inp [u,s,x,y]).get 1001=some s:=rfl;have g2:(inp [u,s,x,y]).get 1002=some x:=rfl;have g3:(inp [u,s,x,y]).get 1003=some y:=rfl;rw[g0] at q0;rw[g1] at q1;rw[g2] at q2;rw[g3] at q3;have q0:cZ F (inp [u,s,x,y]) (.box 93 [.rw 1001,.mpr 1002,.mpr 1003]) u:=q0;have q1:cZ F (inp [u,s,x,y]) (.row t sz els) s:=q1;have q2:cZ F (inp [u,s,x,y]) (.map D) x:=q2;have q3:cZ F (inp [u,s,x,y]) (.map O) y:=q3;cases u with
  | row=>exact q0.elim
  | box b0 t0 c0 =>
  cases s with
  | box=>exact q1.elim
  | row v1 t1 s1 d x1 =>
  cases x with
  | row=>exact q2.elim
  | box p t2 c2 =>
  cases y with
  | row=>exact q3.elim
  | box l t3 c3 =>
  obtain⟨aw,ba⟩:=q0;simp only[aB,Rel] at ba;obtain⟨w0,_,rfl,⟨a,c,t',de,n,xs,rfl,e1⟩,m1,_,rfl,⟨y1,z1,m,rfl⟩,m2,_,rfl,⟨y2,z2,j,rfl⟩,rfl⟩:=ba;rw[g1] at e1;rw[g2] at m;rw[g3] at j;injection e1 with e1
  injection e1 with e11 e12 e13 e14 e15
  subst e11 e12 e13 e14 e15;injection m with m
  injection m with e21 e22 e23
  subst e21 e22 e23;injection j with j
  injection j with e31 e32 e33
  subst e31 e32 e33;obtain⟨rfl,rfl,hn,⟨hm,hv⟩,aE⟩:=q1;obtain⟨_,q2⟩:=q2;obtain⟨_,q3⟩:=q3;rw[aB] at hr;obtain⟨u1,us,rfl,r1,r2⟩:=hr;rw[Rel] at r1;obtain⟨gg,tt,cc,r3,rfl⟩:=r1;rw[g0] at r3;injection r3 with r3
  injection r3 with r31 r32 r33
  subst r31 r32 r33;rw[aB] at r2;obtain⟨u2,dg,rfl,r4,r5⟩:=r2;rw[aB] at r5;subst r5
  -- the arguments,in a smaller world
  have bd:∀(L':Loc) (b':Nat) (ty:TypeId) (cs:List Value),L'.get 1000=some (.box b' ty cs)->aB F L' [.own 1000 0,aK tx] [.pointer (some ⟨b',0,none⟩),u2]:=by
   intro L' b' ty cs hL;rw[aB];refine⟨_,_,rfl,by rw[Rel];exact⟨_,_,_,hL,rfl⟩,?_⟩;rw[aB];exact⟨u2,[],rfl,QK r4,by rw[aB]⟩
  obtain⟨k0,ca,cd⟩:=Ib 0 d d hm hm;have ent:=((h k0 (by rw[<-hn];exact ca)).out F [.box 0 93 [.slice (some ⟨0,0,none⟩) d d,.map (some p),.map (some l)],.box p 0 c2,.box l 0 c3] [.pointer (some ⟨0,0,none⟩),u2] rfl
   (Nh ⟨by decide,.inl rfl,by decide⟩ (cd F) q2 q3) (bd _ 0 93 _ rfl)).ent
  refine⟨ent,fun F G L v bk ⟨r,q⟩=>⟨gV.aaC _ _ _ _ bk r,q⟩,fun w hs=>?_⟩;have am:=hs.own 1001 _ g1;simp only[Own.ok] at am;have hk:∃k,sP k=some d/\∀F,iq k F (.slice a d c):=by
   rcases am.2 with⟨e,_⟩ | ⟨g,cap,dr,e,_,_,k1,k2,_⟩
   ·injection e with e1 m j
    subst e1 m j;exact⟨1,rfl,fun F=>.inr ⟨0,rfl,rfl⟩⟩
   ·injection e with e1 m j
    subst e1 j;exact Ib g d c hm k2
  obtain⟨k,ci,az⟩:=hk;have ab:(inp [.box b0 t0 [.slice a d c,.map (some p),.map (some l)],.row (.slice a d c) t sz d x1,.box p 0 c2,.box l 0 c3]).sub [1000,1002,1003]=some [.box b0 t0 [.slice a d c,.map (some p),.map (some l)],.box p 0 c2,.box l 0 c3]:=rfl;have an:[1000,1002,1003].Nodup:=by decide
  refine(((h k (by rw[<-hn];exact ci)).out F _ _ rfl (Nh aw (az F) q2 q3) (bd _ b0 t0 _ rfl)).run w (hs.handed ab an)).mono ?_;rintro e w' ⟨v,F',Lo,rfl,bs,bc,Mo,cc,l1,l2,l3,l4,rfl,rfl⟩
  match Lo,l1 with
  | [p0,p1,p2],_ =>
   obtain⟨d0,i0⟩:=l4 0 _ _ _ rfl;obtain⟨d1,i1⟩:=l4 1 _ _ _ rfl;obtain⟨d2,i2⟩:=l4 2 _ _ _ rfl;injection i0 with i0
   injection i1 with i1
   injection i2 with i2
   subst i0 i1 i2;obtain⟨cm,bz⟩:=gF hs ab an an (fun k hk=>.inl hk) bs bc rfl;have j0:=l2 1000;have j1:=l2 1001;have j2:=l2 1002;have j0:cZ F' (inp [.box b0 t0 d0,.box p 0 d1,.box l 0 d2]) (.box 93 [.opq k,.mpr 1001,.mpr 1002]) (.box b0 t0 d0):=j0;have j1:cZ F' (inp [.box b0 t0 d0,.box p 0 d1,.box l 0 d2]) (.map D) (.box p 0 d1):=j1;have j2:cZ F' (inp [.box b0 t0 d0,.box p 0 d1,.box l 0 d2]) (.map O) (.box l 0 d2):=j2;obtain⟨cr,ac⟩:=j0;simp only[aB,Rel] at ac;obtain⟨w0,_,rfl,bm,m1,_,rfl,⟨y1,z1,m,rfl⟩,m2,_,rfl,⟨y2,z2,j,rfl⟩,rfl⟩:=ac;have m:some (Own.box p 0 d1)=some (.box y1 0 z1):=m;have j:some (Own.box l 0 d2)=some (.box y2 0 z2):=j;injection m with m
   injection m with e21 _ e23
   injection j with j
   injection j with e31 _ e33
   subst e21 e23 e31 e33;have co:=Gz (az F') bm;subst co;refine⟨v,F',[.box b0 t0 [.slice a d c,.map (some p),.map (some l)],.row (.slice a d c) t sz d x1,.box p 0 d1,.box l 0 d2],rfl,cm,bz,⟨[.box 93 [.rw 1001,.mpr 1002,.mpr 1003],.row t sz els,.map D,.map O],.bool b,rfl,Ua ⟨aw,?_⟩ ⟨rfl,rfl,hn,⟨hm,hv⟩,aE.mono bc.le⟩ ⟨rfl,j1.2⟩ ⟨rfl,j2.2⟩,?_,?_,rfl,rfl⟩,rfl,?_⟩
   ·simp only[aB,Rel];exact⟨_,_,rfl,⟨a,c,_,_,d,_,rfl,rfl⟩,_,_,rfl,⟨_,_,rfl,rfl⟩,_,_,rfl,⟨_,_,rfl,rfl⟩,rfl⟩
   ·rw[Rel] at l3 ⊢;exact l3
   ·intro i g ty cs hi
    match i,hi with
    | 0,hi=>injection hi with hi;injection hi with h1 h2 h3;subst h1 h2;exact⟨_,rfl⟩
    | 1,hi=>cases hi
    | 2,hi=>injection hi with hi;injection hi with h1 h2 h3;subst h1 h2;exact⟨_,rfl⟩
    | 3,hi=>injection hi with hi;injection hi with h1 h2 h3;subst h1 h2;exact⟨_,rfl⟩
    | i+4,hi=>cases hi
   ·intro i o hi
    match i,hi with
    | 0,hi=>injection hi with hi;subst hi;exact⟨_,rfl,rfl,rfl⟩
    | 1,hi=>injection hi with hi;subst hi;exact⟨_,rfl,rfl,rfl,rfl⟩
    | 2,hi=>injection hi with hi;subst hi;exact⟨_,rfl,rfl,rfl⟩
    | 3,hi=>injection hi with hi;subst hi;exact⟨_,rfl,rfl,rfl⟩
    | i+4,hi=>cases hi
def xD:Code->Code
 | .seq a _=>a
 | _=>.skip
def gk:Code->Code
 | .seq _ a=>a
 | _=>.skip
def Y7:Code->Code
 | .block _ a=>a
 | .loop a=>a
 | _=>.skip
def cd1:Code->Code
 | .cond _ a _=>a
 | _=>.skip
noncomputable def Ic:Code:=Try.f58.body.getD .skip
noncomputable def k0:Code:=xD Ic
noncomputable def k1:Code:=xD (gk Ic)
noncomputable def k8:Code:=xD (gk (gk Ic))
noncomputable def W9:Code:=Y7 (Y7 (gk (gk (gk Ic))))
noncomputable def k9:Code:=xD W9
noncomputable def kc:Code:=xD (gk W9)
noncomputable def Y8:Code:=Y7 (xD (gk (gk W9)))
noncomputable def k10:Code:=xD Y8
noncomputable def k11:Code:=xD (gk Y8)
noncomputable def k12:Code:=cd1 (gk (gk Y8))
noncomputable def k13:Code:=gk (gk (gk W9))
theorem ES:Try.f58.body=some (k0.seq (k1.seq (k8.seq (.block 2 (.loop (k9.seq (kc.seq ((Code.block 3 (k10.seq (k11.seq (.cond (.tmp 67) k12 .skip)))).seq k13)))))))):=by kernel_rfl
def QM:cJ:={n:=72,own:=[],frz:=[],ord:=[],pan:=[(6,2),(11,3)]}
def z0:ax:=(.reg [.op (some 8) (.mov (.t 0)) none,
  .op (some 9) (.mov (.t 0)) none,
  .op (some 10) (.mkmap) none,
  .op (some 11) (.mkmap) none,
  .op (some 12) (.nilck (.t 8)) none,
  .op (some 13) (.fieldA 1 (.t 12)) none,
  .op none (.store 1 (.t 13) (.t 10)) none,
  .op (some 14) (.nilck (.t 9)) none,
  .op (some 15) (.fieldA 2 (.t 14)) none,
  .op none (.store 1 (.t 15) (.t 11)) none])
theorem Y9:low Try.prog QM k0=some z0:=by kernel_rfl
def z1:ax:=(.seq (.reg [.op (some 16) (.mov (.t 0)) none,
  .op (some 17) (.nilck (.t 16)) none,
  .op (some 18) (.fieldA 0 (.t 17)) none,
  .op (some 19) (.load false 1 (.t 18)) none,
  .op (some 20) (.len (.t 19)) none,
  .op (some 21) (.mov (.c (.int .i64 0))) none])
 (.block 0
 (.loop [22,23,24,5,25,26,27,28,29,30,31,32,33,6,34,35,36,37,38,39,40,41,42,43,44,45,46,47,48,49,50,51,52,53,54,21]
  (.seq (.reg [.op (some 22) (.bin .lss (.t 21) (.t 20)) none])
   (.seq (.cond (.t 22)
   .skip
   (.exit 0))
   (.seq (.block 1
   (.seq (.reg [.op (some 23) (.idxA 3 (.t 19) (.t 21)) none,
     .op (some 24) (.load true 3 (.t 23)) none,
     .op (some 5) (.alloc 32 [(.int .i64 0),(.int .i64 0),(.slice none 0 0)]) none,
     .op none (.store 3 (.t 5) (.t 24)) none])
    (.seq (.reg [.op (some 25) (.fieldA 1 (.t 5)) none,
     .op (some 26) (.load false 1 (.t 25)) none,
     .op (some 27) (.bin .eql (.t 26) (.c (.int .i64 0))) none,
     .op (some 28) (.mov (.t 27)) none,
     .op (some 29) (.fieldA 2 (.t 5)) (some (28,true)),
     .op (some 30) (.load false 1 (.t 29)) (some (28,true)),
     .op (some 31) (.len (.t 30)) (some (28,true)),
     .op (some 32) (.bin .eql (.t 31) (.c (.int .i64 0))) (some (28,true)),
     .op (some 33) (.pick (.t 28) (.t 32) (.c (.bool false))) none,
     .op (some 6) (.mov (.t 33)) none])
    (.seq (.reg [.op (some 34) (.fieldA 0 (.t 5)) none,
     .op (some 35) (.load false 1 (.t 34)) none,
     .op (some 36) (.bin .eql (.t 35) (.c (.int .i64 0))) none,
     .op (some 37) (.mov (.t 36)) none,
     .op (some 38) (.mov (.t 6)) (some (37,true)),
     .op (some 39) (.un .not (.t 38)) (some (37,true)),
     .op (some 40) (.pick (.t 37) (.t 39) (.c (.bool false))) none,
     .op (some 41) (.mov (.t 40)) none,
     .op (some 42) (.fieldA 0 (.t 5)) (some (41,false)),
     .op (some 43) (.load false 1 (.t 42)) (some (41,false)),
     .op (some 44) (.bin .neq (.t 43) (.c (.int .i64 0))) (some (41,false)),
     .op (some 45) (.mov (.t 44)) (some (41,false)),
     .op (some 46) (.mov (.t 0)) (some (45,true)),
     .op (some 47) (.load true 3 (.t 5)) (some (45,true)),
     .op (some 48) (.call 59 [(.t 46),(.t 47)]) (some (45,true)),
     .op (some 49) (.un .not (.t 48)) (some (45,true)),
     .op (some 50) (.pick (.t 45) (.t 49) (.c (.bool false))) (some (41,false)),
     .op (some 51) (.pick (.t 41) (.c (.bool true)) (.t 50)) none])
    (.cond (.t 51)
    (.reg [.op (some 52) (.build [(.int .i64 0)] [(0,1,(.c (.int .i64 1)))]) none,
      .op (some 53) (.mkif 98 (.t 52)) none,
      .pc none (.pan (.t 53)) none])
    .skip)))))
   (.reg [.op (some 54) (.bin .add (.t 21) (.c (.int .i64 1))) none,
    .op (some 21) (.mov (.t 54)) none])))))))
theorem Za:low Try.prog QM k1=some z1:=by kernel_rfl
def z8:ax:=(.reg [.op (some 55) (.mov (.t 0)) none,
  .op (some 56) (.nilck (.t 55)) none,
  .op (some 57) (.fieldA 0 (.t 56)) none,
  .op (some 58) (.load false 1 (.t 57)) none,
  .op (some 59) (.len (.t 58)) none,
  .op (some 60) (.mov (.c (.int .i64 0))) none])
theorem Zb:low Try.prog QM k8=some z8:=by kernel_rfl
def z9:ax:=(.reg [.op (some 61) (.bin .lss (.t 60) (.t 59)) none])
theorem Zc:low Try.prog QM k9=some z9:=by kernel_rfl
def zc:ax:=(.cond (.t 61)
 .skip
 (.exit 2))
theorem Zd:low Try.prog QM kc=some zc:=by kernel_rfl
def Xa:ax:=(.reg [.op (some 62) (.mov (.t 60)) none,
  .op (some 7) (.mov (.t 62)) none])
theorem VI:low Try.prog QM k10=some Xa:=by kernel_rfl
def VJ:ax:=(.reg [.op (some 63) (.mov (.t 0)) none,
  .op (some 64) (.mov (.t 7)) none,
  .op (some 65) (.build [(.int .i64 0),(.int .i64 0),(.slice none 0 0)] [(0,1,(.c (.int .i64 9))),(1,1,(.t 64))]) none,
  .pc (some 66) (.call 64 [(.t 63),(.t 65)]) none,
  .op (some 67) (.bin .gtr (.t 66) (.c (.int .i64 8))) none])
theorem VK:low Try.prog QM k11=some VJ:=by kernel_rfl
def z13:ax:=(.reg [.op (some 71) (.bin .add (.t 60) (.c (.int .i64 1))) none,
  .op (some 60) (.mov (.t 71)) none])
theorem VL:low Try.prog QM k13=some z13:=by kernel_rfl
section
variable {L:TL}{ρ:aG}
theorem Sn (ks:List Nat) {f:Nat}{args a:List C}{K:TL->aG->C->Prop}{x:C}{Lin Lin' Lo:List TO}(h:iB P f a Lin' (aQ Lo x)) (m:L.sub ks=some Lin) (d:T.aU ks=true)
  (j:(args.map fun c=>c.aaw.ren (bn ks 1000))=a) (l:Lin.map (TO.aaq (C.ren (bn ks 1000)))=Lin') (b:ks.length=Lo.length)
  (k:K ((L.aas ks).puts ks (Lo.map (TO.aaq (C.ren (aL ks))))) ρ (x.ren (aL ks)).slt):kF P f args L ρ K:=by
 subst j l;exact .inpl ks Lin _ m d h fun v Mo ⟨e,n⟩ _ _=>by subst e n;exact⟨b,k⟩
end
def HS (M0:TL) (e:Int) (len i:Nat):TK:=fun M τ=>M=M0/\τ 0=.own 1000 0/\τ 1=IC e/\τ 59=IC len/\τ 60=IC i
theorem ET {n:Int}{t:Ty}(h:t.kind=0):fA n t=(decide (t.id=0)&&decide (t.args.length=0)):=eu h
theorem zM {n:Int}{t:Ty}(h:¬t.kind=0):fA n t=ins n t:=fo h
def VN (s:List Ty) (d:DM) (o:OM):TL:=[(10,.map (jt IC d)),(11,.map (jt C.bool o)),(1000,.box 93 [.rw 1001,.mpr 10,.mpr 11]),(1001,.row 32 3 (s.map aD))]
theorem VO (s:List Ty) (e:Int) (PS:Value->Prop) (u:s.all (fA s.length)=false->PS (cV 1)) (o:s.length<=9223372036854775807) :
  evalTC P ⟨PS,[],none⟩ (.seq z0 (.seq z1 z8)) (fun _ _ _=>False) (fun _ _=>False) (fun M τ=>s.all (fA s.length)=true/\HS (VN s [] []) e s.length 0 M τ) (cT (ql s)) (ku 0 [.own 1000 0,IC e]):=by
 have n:∀t:Ty,iB P 59 [.own 1000 0,aK t] [.box 93 [.rw 1001,.mpr 1002,.mpr 1003],.row 32 3 (s.map aD),.map [],.map []] (aQ [.box 93 [.rw 1001,.mpr 1002,.mpr 1003],.row 32 3 (s.map aD),.map [],.map []] (.bool (ins s.length t))):=fun t=>QL fun k r=>Vv k s.length [] [] (by rw[r,vz]) o t;have h:(s.map aD).length=s.length:=vz _;have p:=fun t=>@ET s.length t;have l:=fun t=>@zM s.length t;generalize fA (s.length:Int)=f at u p l ⊢;refine bA s.length 21 [19] () (fun _=>[.rw 1001]) (fun _=>[(10,.map []),(11,.map []),(1000,.box 93 [.rw 1001,.mpr 10,.mpr 11]),(1001,.row 32 3 (s.map aD))]) (fun k _=>(s.drop k).all f=s.all f) rfl (aj rfl) ⟨aj rfl,trivial⟩ ⟨.inl ⟨_,rfl,.inl ⟨rfl,rfl⟩⟩,.inl ⟨_,rfl,.inl ⟨rfl,rfl⟩⟩,.inl ⟨_,rfl,.inl ⟨rfl,rfl⟩⟩,.inl ⟨_,rfl,.inl ⟨rfl,rfl⟩⟩,trivial⟩ (fun _=>rfl) (fun _=>rfl) ?_;rintro k _ r b _ _ _;refine ah (fun a=>?_) (fun j=>?_)
 ·have a:k<s.length:=by rw[h] at a;omega
  refine aX a fun x y w d=>?_;have m:(x.args.map aD).length=x.args.length:=vz _;have c:f x=false->PS (cV 1):=fun q=>u (Gq d b q).symm;refine Ao.mk (by omega) (by rw[h];omega) ?_;refine TJ y ?_;refine ah (fun h1=>ah (fun h2=>?_) (fun h2=>?_)) (fun h1=>ah (fun h2=>?_) (fun h2=>?_))
  ·have v:f x=decide (x.args.length=0):=by rw[p x h2,aa2 h1,aa7]
   refine aT (fun h3=>?_) (fun h3=>?_)
   ·exact qo rfl (c (by rw[v];exact aa3 (by rw[m] at h3;omega)))
   refine aT (fun q=>o5 h2 q) (fun _=>?_);refine Fit.aar (by omega) (by omega) ?_;exact⟨(k+1,()),⟨a,mZ d b (by rw[v];exact aa2 (by rw[m] at h3;omega))⟩,⟨aZ,aj rfl,trivial⟩,⟨.inl ⟨_,rfl,.inl ⟨rfl,rfl⟩⟩,.inl ⟨_,rfl,.inl ⟨rfl,rfl⟩⟩,.inl ⟨_,rfl,.inl ⟨rfl,rfl⟩⟩,.inl ⟨_,rfl,.inl ⟨rfl,rfl⟩⟩,trivial⟩,bf a⟩
  ·refine aT (fun _=>?_) (fun q=>o5 q h2);refine Sn [1000,1001,10,11] (n x) rfl rfl rfl rfl rfl ?_;refine aq (fun h4=>?_) (fun h4=>?_)
   ·exact qo rfl (c (by rw[l x h2];simpa using h4))
   refine Fit.aar (by omega) (by omega) ?_;exact⟨(k+1,()),⟨a,mZ d b (by rw[l x h2];simpa using h4)⟩,⟨aZ,aj rfl,trivial⟩,⟨.inl ⟨_,rfl,.inl ⟨rfl,rfl⟩⟩,.inl ⟨_,rfl,.inl ⟨rfl,rfl⟩⟩,.inl ⟨_,rfl,.inl ⟨rfl,rfl⟩⟩,.inl ⟨_,rfl,.inl ⟨rfl,rfl⟩⟩,trivial⟩,bf a⟩
  ·exact qo rfl (c (by rw[p x h2,aa3 h1,abb]))
  ·refine aT (fun _=>?_) (fun q=>o5 q h2);refine Sn [1000,1001,10,11] (n x) rfl rfl rfl rfl rfl ?_;refine aq (fun h4=>?_) (fun h4=>?_)
   ·exact qo rfl (c (by rw[l x h2];simpa using h4))
   refine Fit.aar (by omega) (by omega) ?_;exact⟨(k+1,()),⟨a,mZ d b (by rw[l x h2];simpa using h4)⟩,⟨aZ,aj rfl,trivial⟩,⟨.inl ⟨_,rfl,.inl ⟨rfl,rfl⟩⟩,.inl ⟨_,rfl,.inl ⟨rfl,rfl⟩⟩,.inl ⟨_,rfl,.inl ⟨rfl,rfl⟩⟩,.inl ⟨_,rfl,.inl ⟨rfl,rfl⟩⟩,trivial⟩,bf a⟩
 ·have j:¬k<s.length:=by rw[h] at j;omega
  exact⟨(C5 j b).symm,rfl,rfl,rfl,vv IC (by rw[h]),rfl⟩
def VP (s:List Ty) (d:DM) (o:OM):TL:=[(10,.map (jt IC d)),(11,.map (jt C.bool o)),(1000,.box 93 [.sl (s.map aD),.mpr 10,.mpr 11])]
theorem VQ (s:List Ty) (e:Int) (PS:Value->Prop) (p:s.all (fA s.length)=false->PS (cV 1)) (r:s.length<=9223372036854775807) :
  evalTC P ⟨PS,[],none⟩ (.seq z0 (.seq z1 z8)) (fun _ _ _=>False) (fun _ _=>False) (fun M τ=>s.all (fA s.length)=true/\HS (VP s [] []) e s.length 0 M τ) (cT (vF s)) (ku 0 [.own 1000 0,IC e]):=by
 have n:=fun t=>MG s [] [] t;have j:(s.map aD).length=s.length:=vz _;have o:=fun t=>@ET s.length t;have l:=fun t=>@zM s.length t;generalize fA (s.length:Int)=f at p o l ⊢;refine bA s.length 21 [] () (fun _=>[]) (fun _=>[(10,.map []),(11,.map []),(1000,.box 93 [.sl (s.map aD),.mpr 10,.mpr 11])]) (fun k _=>(s.drop k).all f=s.all f) rfl (aj rfl) trivial ⟨.inl ⟨_,rfl,.inl ⟨rfl,rfl⟩⟩,.inl ⟨_,rfl,.inl ⟨rfl,rfl⟩⟩,.inl ⟨_,rfl,.inl ⟨rfl,rfl⟩⟩,trivial⟩ (fun _=>rfl) (fun _=>rfl) ?_;rintro k _ y b _ _ _;refine ah (fun a=>?_) (fun h=>?_)
 ·have a:k<s.length:=by rw[j] at a;omega
  refine aX a fun x w v d=>?_;have m:(x.args.map aD).length=x.args.length:=vz _;have c:f x=false->PS (cV 1):=fun q=>p (Gq d b q).symm;refine bW w ?_;refine ah (fun h1=>ah (fun h2=>?_) (fun h2=>?_)) (fun h1=>ah (fun h2=>?_) (fun h2=>?_))
  ·have u:f x=decide (x.args.length=0):=by rw[o x h2,aa2 h1,aa7]
   refine aT (fun h3=>?_) (fun h3=>?_)
   ·exact qo rfl (c (by rw[u];exact aa3 (by rw[m] at h3;omega)))
   refine aT (fun q=>o5 h2 q) (fun _=>?_);refine Fit.aar (by omega) (by omega) ?_;exact⟨(k+1,()),⟨a,mZ d b (by rw[u];exact aa2 (by rw[m] at h3;omega))⟩,⟨aZ,trivial⟩,⟨.inl ⟨_,rfl,.inl ⟨rfl,rfl⟩⟩,.inl ⟨_,rfl,.inl ⟨rfl,rfl⟩⟩,.inl ⟨_,rfl,.inl ⟨rfl,rfl⟩⟩,trivial⟩,bf a⟩
  ·refine aT (fun _=>?_) (fun q=>o5 q h2);refine callO [1000,10,11] [1000,10,11] (n x) rfl rfl rfl rfl rfl fun _ _=>?_;refine aq (fun h4=>?_) (fun h4=>?_)
   ·exact qo rfl (c (by rw[l x h2];simpa using h4))
   refine Fit.aar (by omega) (by omega) ?_;exact⟨(k+1,()),⟨a,mZ d b (by rw[l x h2];simpa using h4)⟩,⟨aZ,trivial⟩,⟨.inl ⟨_,rfl,.inl ⟨rfl,rfl⟩⟩,.inl ⟨_,rfl,.inl ⟨rfl,rfl⟩⟩,.inl ⟨_,rfl,.inl ⟨rfl,rfl⟩⟩,trivial⟩,bf a⟩
  ·exact qo rfl (c (by rw[o x h2,aa3 h1,abb]))
  ·refine aT (fun _=>?_) (fun q=>o5 q h2);refine callO [1000,10,11] [1000,10,11] (n x) rfl rfl rfl rfl rfl fun _ _=>?_;refine aq (fun h4=>?_) (fun h4=>?_)
   ·exact qo rfl (c (by rw[l x h2];simpa using h4))
   refine Fit.aar (by omega) (by omega) ?_;exact⟨(k+1,()),⟨a,mZ d b (by rw[l x h2];simpa using h4)⟩,⟨aZ,trivial⟩,⟨.inl ⟨_,rfl,.inl ⟨rfl,rfl⟩⟩,.inl ⟨_,rfl,.inl ⟨rfl,rfl⟩⟩,.inl ⟨_,rfl,.inl ⟨rfl,rfl⟩⟩,trivial⟩,bf a⟩
 ·have h:¬k<s.length:=by rw[j] at h;omega
  exact⟨(C5 h b).symm,rfl,rfl,rfl,vv IC (by rw[j]),rfl⟩
theorem mr {a b:Nat}(h:¬a=b):Nat.beq a b=false:=by
 cases h2:Nat.beq a b with
 | true=>exact o5 (aa5 h2) h
 | false=>rfl
def MS (G:Nat->Option (Nat×TypeId)) (F0:aA) (Li:List Own) (w0:World) (K:TK) (a:Act) (w:World):Prop :=
 ∃F L ρ M τ,St F L w/\aC L ρ a/\TS G F L ρ M τ/\a.tmps.size=72/\Step F0 (inp Li) w0 F L w/\K M τ
section
variable {G:Nat->Option (Nat×TypeId)}{F0:aA}{Li:List Own}{w0:World}
theorem MS.piece {c:Code}{u:ax}(hl:low Try.prog QM c=some u) (t:gA u=[]) {PS:oE}{E:Nat->TK}{N K:TK}{a:Act}{w:World}(h:MS G F0 Li w0 K a w)
  (hK:∀M τ,K M τ->evalTC P PS u E (fun _ _=>False) N M τ) {Q:Exit->Act->World->Prop}
  (hN:∀a' w',a'.defers=a.defers->MS G F0 Li w0 N a' w'->Q .normal a' w')
  (hE:∀j a' w',a'.defers=a.defers->MS G F0 Li w0 (E j) a' w'->Q (.exit j) a' w')
  (hP:∀v o a' w',sQ v o->a'.defers=a.defers->PS.ps v->(∃F' L',St F' L' w'/\Step F0 (inp Li) w0 F' L' w'/\Kp G L')->Q (.panic o) a' w'):c.wp P Q a w:=by
 obtain⟨F,L,ρ,M,τ,g1,g2,z,y,s,n⟩:=h;refine wp_mono (f7 c hl (fun k n=>by rw[t] at n;cases n) g1 g2 z y (hK M τ n)) ?_;intro e a' w' d;cases e with
 | normal =>
  obtain⟨F',L',ρ',k1,f,q,m,p,k6,M',b,r,k8⟩:=d;exact hN a' w' m ⟨F',L',ρ',M',b,k1,f,r,q,s.trans p,k8⟩
 | exit j =>
  obtain⟨F',L',ρ',k1,f,q,m,p,k6,M',b,r,k8⟩:=d;exact hE j a' w' m ⟨F',L',ρ',M',b,k1,f,r,q,s.trans p,k8⟩
 | ret=>obtain⟨F',L',ρ',_,_,_,_,_,_,M',b,_,h⟩:=d;exact h.elim
 | goto l=>exact d.elim
 | panic o =>
  obtain⟨v,x,F',L',k1,f,q,m,p,kp,hp,_⟩:=d;exact hP v o a' w' x m hp ⟨F',L',k1,s.trans f,kp⟩
 | outgrown=>exact d.elim
def hE (e:Int) (len i:Nat):aG:=bH (some 0) (.own 1000 0) (bH (some 1) (IC e) (bH (some 59) (IC len) (bH (some 60) (IC i) fun _=>.any)))
theorem QN {F:aA}{L:Loc}{ρ:Env}{τ:aG}{e:Int}{len i:Nat}(h:∀j,aN F L (τ j) (ρ j)) (h0:τ 0=.own 1000 0) (h1:τ 1=IC e) (b:τ 59=IC len) (a:τ 60=IC i):∀j,aN F L (hE e len i j) (ρ j):=by
 intro j
 by_cases f:j=0
 ·subst f;have:=h 0;rw[h0] at this;exact this
 by_cases c:j=1
 ·subst c;have:=h 1;rw[h1] at this;exact this
 by_cases k:j=59
 ·subst k;have:=h 59;rw[b] at this;exact this
 by_cases d:j=60
 ·subst d;have:=h 60;rw[a] at this;exact this
 have n:Nat.beq j 0=false:=mr f;have l:Nat.beq j 1=false:=mr c;have o:Nat.beq j 59=false:=mr k;have m:Nat.beq j 60=false:=mr d;simp only[hE,bH,n,l,o,m];trivial
theorem MS.weak {K:TK}{a:Act}{w:World}{M0:TL}{e:Int}{len i:Nat}(h:MS G F0 Li w0 K a w) (k:∀M τ,K M τ->HS M0 e len i M τ):MS G F0 Li w0 (fun M τ=>M=M0/\τ=hE e len i) a w:=by
 obtain⟨F,L,ρ,M,τ,l,j,b,c,f,d⟩:=h;obtain⟨h1,h2,h3,h4,h5⟩:=k M τ d;exact⟨F,L,ρ,M,hE e len i,l,j,⟨b.tl,QN b.env h2 h3 h4 h5,b.kp,b.glob⟩,c,f,h1,rfl⟩
theorem MS.mono {K K':TK}{a:Act}{w:World}(h:MS G F0 Li w0 K a w) (f:∀M τ,K M τ->K' M τ):MS G F0 Li w0 K' a w:=by
 obtain⟨F,L,ρ,M,τ,d,k,c,b,j,e⟩:=h;exact⟨F,L,ρ,M,τ,d,k,c,b,j,f M τ e⟩
theorem MS.int {K:TK}{a:Act}{w:World}{j:Nat}{x:Int}(h:MS G F0 Li w0 K a w) (e:∀M τ,K M τ->τ j=IC x):a.tmps.getD j undef=.int .i64 x:=by
 obtain⟨F,L,ρ,M,τ,l,d,b,f,k,c⟩:=h;have:=b.env j;rw[e M τ c] at this;simp only[aN,Rel] at this;obtain⟨v,h1,rfl,_⟩:=this;rw[d.eq j,h1];rfl
theorem MS.bool {K:TK}{a:Act}{w:World}{j:Nat}{x:Bool}(h:MS G F0 Li w0 K a w) (e:∀M τ,K M τ->τ j=.bool x):a.tmps.getD j undef=.bool x:=by
 obtain⟨F,L,ρ,M,τ,l,d,b,f,k,c⟩:=h;have:=b.env j;rw[e M τ c] at this;simp only[aN,Rel] at this;obtain⟨v,h1,rfl⟩:=this;rw[d.eq j,h1];rfl
theorem MS.wr {M0:TL}{e:Int}{len i:Nat}{a:Act}{w:World}{d:Nat}{v:Value}(h:MS G F0 Li w0 (fun M τ=>M=M0/\τ=hE e len i) a w) (hd:d<72) (h0:d≠0) (h1:d≠1) (h2:d≠59) (h3:d≠60) :
  MS G F0 Li w0 (fun M τ=>M=M0/\τ=hE e len i) (a.put (some d) v) w:=by
 obtain⟨F,L,ρ,M,τ,s,q,c,l,p,rfl,rfl⟩:=h;refine⟨F,L,Fr.put (some d) (.v v) ρ,M,_,s,q.put (d:=some d) (x:=.v v) (fun k hk=>by injection hk with hk;subst hk;omega) rfl cK fD (fun k g ty cs e=>⟨cs,e⟩),⟨c.tl,fun j=>?_,c.kp,c.glob⟩,by rw[jV];exact l,p,rfl,rfl⟩
 by_cases f:j=d
 ·subst f;have o:Nat.beq j 0=false:=mr h0;have m:Nat.beq j 1=false:=mr h1;have r:Nat.beq j 59=false:=mr h2;have n:Nat.beq j 60=false:=mr h3;simp only[hE,bH,o,m,r,n];trivial
 ·have:Fr.put (some d) (.v v) ρ j=ρ j:=by
   have b:Nat.beq j d=false:=mr f;simp only[Fr.put,b]
  rw[this];exact c.env j
theorem MS.defers {K:TK}{a:Act}{w:World}{ds:List Deferred}(h:MS G F0 Li w0 K a w):MS G F0 Li w0 K {a with defers:=ds} w:=by
 obtain⟨F,L,ρ,M,τ,e,b,d,c,j,f⟩:=h;exact⟨F,L,ρ,M,τ,e,⟨b.eq,b.own,b.el⟩,d,c,j,f⟩
theorem Ub:k12=.region 12 #[{dst:=some 68,op:=.move (.tmp 1),type:=45,pos:="unify.go:115",after:=#[],guard:=none},
  {dst:=some 69,op:=.build 98 #[(0,.tmp 68)],type:=98,pos:="unify.go:115",after:=#[{on:=0,ground:=Ground.data}],guard:=none},
  {dst:=some 70,op:=.makeInterface 98 (.tmp 69),type:=20,pos:="unify.go:115",after:=#[{on:=1,ground:=Ground.data}],guard:=none},
  {dst:=none,op:=.defer {callee:=.builtin .panic,args:=#[.tmp 70],argTypes:=#[20]},type:=0,pos:="unify.go:115",after:=#[{on:=2,ground:=Ground.data}],guard:=none}] false:=by kernel_rfl
theorem Ze {a:Act}{w:World}{e:Int}{Q:Exit->Act->World->Prop}(d:a.tmps.size=72) (h1:a.tmps.getD 1 undef=.int .i64 e)
  (h:∀x y z,Q .normal {(((a.put (some 68) x).put (some 69) y).put (some 70) z) with defers:=tM (cV e)::a.defers} w):k12.wp P Q a w:=by
 rw[Ub];apply wp_region;have b:a.tmps[1]?.getD undef=.int .i64 e:=by rw[<-abp];exact h1
 have c:∀q:1<a.tmps.size,a.tmps[1]'q=.int .i64 e:=fun q=>by rw[Array.getElem?_eq_getElem q] at b;exact b
 simp[wpOps,go_sem,Region.wanted,d,b,c,Array.getElem?_setIfInBounds];exact .inl (.inl (.inl (.inl (h (.int .i64 e) (.agg #[.int .i64 e]) (.iface 98 (.agg #[.int .i64 e]))))))
end
theorem zN {s:List Ty}{n:Nat}:∀{N:Nat}{y:Option (Bool×DM×OM)},dV s n N=some y->∀i≤N,∃x,dV s n i=some x
 | 0,y,h,i,hi=>⟨y,by rw[show i=0 by omega];exact h⟩
 | N+1,y,h,i,hi=>by
  by_cases e:i=N+1
  ·exact⟨y,by rw[e];exact h⟩
  ·rw[dV] at h;cases h1:dV s n N with
   | none=>simp only[h1] at h;cases h
   | some x=>exact zN h1 i (by omega)
theorem zO {s:List Ty}{n i:Nat}(h:dV s n i=some none):∀k,dV s n (i+k)=some none
 | 0=>h
 | k+1=>by rw[<-Nat.add_assoc,dV,zO h k]
theorem GA {s:List Ty}{n i:Nat}{b:Bool}{d:DM}{o:OM}{y:Option (Bool×DM×OM)}(h:dV s n i=some (some (b,d,o))) (a:dV s n (i+1)=some y) :
  ∃c,bL s n (vr i) d o=some c/\(c=none->y=none)/\∀k e o',c=some (k,e,o')->y=some (b||decide (k>8),e,o'):=by
 rw[dV] at a;simp only[h] at a;cases h2:bL s n (vr i) d o with
 | none=>simp only[h2] at a;cases a
 | some c =>
  refine⟨c,rfl,?_,?_⟩
  ·rintro rfl;simp only[h2] at a;injection a with a;exact a.symm
  ·rintro k e o' rfl;simp only[h2] at a;injection a with a;exact a.symm
end Go.Fr.Try
