/- Part of the proofs of the statements of this seat. -/
import Derived.Test.YthfdbepkalpplaaUnG2G
import Derived.Defers
set_option maxRecDepth 10000
set_option linter.unusedVariables false
set_option linter.unusedSimpArgs false
namespace Go.Fr.Try
open Go Go.RowKit Go.Proofs Go.Fr Go.Fr.T Go.Fr.Api
def Ie (o:OM):Nat->Nat
 | 0=>0
 | i+1=>Ie o i+(if bM o i=some true then 0 else 1)
def PN (o o':OM):Prop:=∀i,bM o i=some true->bM o' i=some true
theorem E8 {o o':OM}(h:PN o o'):∀n,Ie o' n<=Ie o n
 | 0=>aa0 _
 | n+1=>by
  rw[Ie,Ie];have:=E8 h n
  by_cases e:bM o n=some true
  ·rw[fo e,fo (h _ e)];omega
  ·rw[fL e];split<;>omega
theorem KX {o o':OM}(h:PN o o') {i:Nat}(h1:¬bM o i=some true) (a:bM o' i=some true):∀n,i<n->Ie o' n<Ie o n
 | 0,hi=>o5 hi (aby _)
 | n+1,hi=>by
  rw[Ie,Ie]
  by_cases e:i=n
  ·subst e;rw[fL h1,fo a];have:=E8 h i;omega
  ·have:=KX h h1 a n (by omega)
   by_cases e:bM o n=some true
   ·rw[fo e,fo (h _ e)];omega
   ·rw[fL e];split<;>omega
theorem PN.set (o:OM) (i:Int):PN o (eD o i true):=fun j h=>by
 rw[kP];split
 ·rfl
 ·exact h
def Gs (s:List Ty) (t:Ty) (d:DM) (o:OM):Prop:=∃n r,bw s n t d o=some r/\∀k a o',r=some (k,a,o')->PN o o'
theorem vF {s:List Ty}{K:Nat}:∀(l:List Ty),(∀x∈l,∀d o,Ie o s.length<K->Gs s x d o)->∀k d o,Ie o s.length<K->∃n r,dX (bw s n) l k d o=some r/\∀k a o',r=some (k,a,o')->PN o o'
 | [],_,k,d,o,_=>⟨0,_,rfl,fun f a o' e=>by injection e with e;injection e with _ e;injection e with _ e;subst e;exact fun i h=>h⟩
 | x::l,h,k,d,o,v=>by
  obtain⟨n,r,h1,p⟩:=h x (by simp) d o v;cases r with
  | none=>exact⟨n,none,by rw[dX,h1],fun k a o' e=>by cases e⟩
  | some q =>
   obtain⟨f,a,o'⟩:=q;have c:=p f a o' rfl;obtain⟨m,r,t,u⟩:=vF l (fun x w=>h x (by simp[w])) (if f>k then f else k) a o' (by have:=E8 c s.length;omega);refine⟨max n m,r,?_,fun k y j e i hi=>u k y j e i (c i hi)⟩;rw[dX,gK (Nat.le_max_left n m) h1];exact sj (fun x d o b hb=>gK (Nat.le_max_right n m) hb) t
theorem AH {n:Nat}{s:List Ty}{t x:Ty}{d:DM}{o:OM}(a:(if t.kind=9 then bQ s t else some (.mk 0 0 []))=some x) (c:x.kind=0):bw s (n+1) t d o=(match dX (bw s n) t.args 0 d o with
    | some (some (k,b,o'))=>some (some (yZ (k+1),b,o'))
    | some none=>some none
    | none=>none):=by
 rw[bw,a];simp only;rw[fL (fun q=>q c)];rfl
theorem Ig {n:Nat}{s:List Ty}{t x:Ty}{d:DM}{o:OM}(c:t.kind=9) (f:bQ s t=some x) (j:¬x.kind=0) (a:bM d t.id=none) (e:¬bM o t.id=some true) {r:Option (Int×DM×OM)}(h:bw s n x d (eD o t.id true)=some r):bw s (n+1) t d o=some (r.map fun p=>(p.1,eD p.2.1 t.id p.1,p.2.2)):=by
 rw[bw,fo c,f];simp only;rw[fo j,a];simp only;cases b:bM o t.id with
 | none =>
  rw[h];cases r<;>rfl
 | some u =>
  cases u with
  | true=>exact o5 b e
  | false =>
   rw[h];cases r<;>rfl
theorem yD {s:List Ty}(z:Eg s):∀(K:Nat) (t:Ty),ins s.length t=true->∀d o,Ie o s.length<K->Gs s t d o
 | 0=>fun t _ d o h=>o5 h (aby _)
 | K+1=>dJ (p:=fun t=>ins s.length t=true->∀d o,Ie o s.length<K+1->Gs s t d o) fun t ih u d o w=>by
  have a:∀x,(if t.kind=9 then bQ s t else some (.mk 0 0 []))=some x->x.kind=0->Gs s t d o:=fun x j c=>by
   obtain⟨n,r,h1,q⟩:=vF t.args (fun x y d o w=>ih x y (eP u x y) d o w) 0 d o w;refine⟨n+1,r.map fun p=>(yZ (p.1+1),p.2.1,p.2.2),?_,fun k v o' e=>?_⟩
   ·rw[AH j c,h1];cases r with
    | none=>rfl
    | some p=>rfl
   ·cases r with
    | none=>cases e
    | some p =>
     obtain⟨k1,d1,o1⟩:=p;simp only[abl] at e;injection e with e
     injection e with _ e
     injection e with _ e
     subst e;exact q _ _ _ rfl
  by_cases f:t.kind=9
  ·obtain⟨x,j,y⟩:=yB u f
   by_cases c:x.kind=0
   ·exact a x (by rw[fo f];exact j) c
   obtain⟨i,hi,_,l⟩:=yA u f;have e0:(if t.kind=9 then bQ s t else some (.mk 0 0 []))=some x:=by rw[fo f];exact j
   cases m:bM d t.id with
   | some k=>exact⟨1,_,by rw[bw,e0];simp only;rw[fo c,m],fun k v o' e=>by injection e with e;injection e with _ e;injection e with _ e;subst e;exact fun i h=>h⟩
   | none =>
    by_cases b:bM o t.id=some true
    ·exact⟨1,none,by rw[bw,e0];simp only;rw[fo c,m,b],fun k v o' e=>by cases e⟩
    ·have ad:=KX (PN.set o t.id) (i:=i) (by rw[<-l];exact b) (by rw[kP,fo l.symm]) s.length hi;obtain⟨n,r,h1,q⟩:=yD z K x (z.elem j c) d (eD o t.id true) (by omega);refine⟨n+1,r.map fun p=>(p.1,eD p.2.1 t.id p.1,p.2.2),?_,fun k v o' e=>?_⟩
     ·exact Ig f j c m b h1
     ·cases r with
      | none=>cases e
      | some p =>
       obtain⟨k1,d1,o1⟩:=p;simp only[abl] at e;injection e with e
       injection e with _ e
       injection e with _ e
       subst e;exact fun i hi=>q _ _ _ rfl i (PN.set o t.id i hi)
  ·exact a _ (by rw[fL f]) rfl
theorem DK {s:List Ty}(b:Eg s) {t:Ty}(a:ins s.length t=true) (d:DM) (o:OM):∃n r,bw s n t d o=some r:=by
 obtain⟨n,r,h,_⟩:=yD b _ t a d o (abS _);exact⟨n,r,h⟩
theorem AJ {s:List Ty}(h:s.all (eF s.length)=true):Eg s:=fun x a=>by
 have:=(aaY.1 h) x a;unfold eF at this;split at this
 ·rename_i b;exact .inl b
 ·exact .inr this
theorem vG {s:List Ty}(c:Eg s):∀i,i<=s.length->∃n r,dw s n i=some r
 | 0,_=>⟨0,_,rfl⟩
 | i+1,hi=>by
  obtain⟨n,r,h1⟩:=vG c i (by omega);cases r with
  | none=>exact⟨n,none,by rw[dw,h1]⟩
  | some p =>
   obtain⟨b,d,o⟩:=p;obtain⟨m,r,a⟩:=DK c (sw (show i<s.length by omega)) d o;cases r with
   | none=>exact⟨max n m,none,by rw[dw,oM (Nat.le_max_left n m) h1];simp only;rw[gK (Nat.le_max_right n m) a]⟩
   | some q=>exact⟨max n m,some (b||decide (q.1>8),q.2.1,q.2.2),by rw[dw,oM (Nat.le_max_left n m) h1];simp only;rw[gK (Nat.le_max_right n m) a]⟩
theorem vH (s:List Ty):∃n r,bA s n=some r:=by
 cases a:s.all (eF s.length) with
 | false=>exact⟨0,none,by unfold bA;rw[fL (by rw[a];exact aa8)]⟩
 | true =>
  obtain⟨n,r,h⟩:=vG (AJ a) s.length (aa0 _);cases r with
  | none=>exact⟨n,none,by unfold bA;rw[fo a,h]⟩
  | some p =>
   obtain⟨b,d,o⟩:=p;cases b with
   | true=>exact⟨n,none,by unfold bA;rw[fo a,h];rfl⟩
   | false=>exact⟨n,some (d,o),by unfold bA;rw[fo a,h];rfl⟩
def V0 (s:List Ty) (i:Int):Prop:=∀t:Ty,t.kind=9->t.id=i->jP s t
def DL (s:List Ty) (d:DM):Prop:=∀i,bM d i≠none->V0 s i
theorem AK {s:List Ty}{n:Nat}:∀{l:List Ty},(∀x∈l,∀d o k a o',bw s n x d o=some (some (k,a,o'))->DL s d->jP s x/\DL s a)->∀{k:Int}{d:DM}{o:OM}{f:Int}{a:DM}{o':OM},dX (bw s n) l k d o=some (some (f,a,o'))->DL s d->(∀x∈l,jP s x)/\DL s a
 | [],_,k,d,o,f,a,o',h,e=>by
  rw[dX] at h;injection h with h
  injection h with h
  injection h with _ h
  injection h with h _
  subst h;exact⟨fun x c=>(by cases c),e⟩
 | x::l,c,k,d,o,f,a,o',h,e=>by
  rw[dX] at h;cases h1:bw s n x d o with
  | none=>rw[h1] at h;cases h
  | some r =>
   rw[h1] at h;cases r with
   | none=>cases h
   | some p =>
    obtain⟨k1,q,v⟩:=p;obtain⟨t,m⟩:=c x (by simp) d o k1 q v h1 e;obtain⟨u,j⟩:=AK (fun y b=>c y (by simp[b])) h m;refine⟨fun y b=>?_,j⟩;rcases aaT.1 b with rfl | b
    ·exact t
    ·exact u y b
theorem Gt {s:List Ty}{t u:Ty}(h:u.id=t.id):bQ s u=bQ s t:=by unfold bQ;rw[h]
theorem yE {s:List Ty}:∀{n:Nat}{t:Ty}{d:DM}{o:OM}{k:Int}{a:DM}{o':OM},bw s n t d o=some (some (k,a,o'))->DL s d->jP s t/\DL s a
 | 0,t,d,o,k,a,o',h,_=>by cases h
 | n+1,t,d,o,k,a,o',h,m=>by
  rw[bw] at h;cases b:(if t.kind=9 then bQ s t else some (.mk 0 0 [])) with
  | none=>simp only[b] at h;cases h
  | some x =>
   simp only[b] at h
   by_cases v:x.kind=0
   ·rw[fL (fun q=>q v)] at h;cases hl:dX (bw s n) t.args 0 d o with
    | none=>simp only[hl] at h;cases h
    | some r =>
     simp only[hl] at h;cases r with
     | none=>cases h
     | some p =>
      obtain⟨k1,c,y⟩:=p;injection h with h
      injection h with h
      injection h with _ h
      injection h with h _
      subst h;obtain⟨w,q2⟩:=AK (fun x _ d o k a o' h m=>yE h m) hl m;refine⟨?_,q2⟩
      by_cases f:t.kind=9
      ·rw[fo f] at b;exact .stop f b v w
      ·exact .arg f w
   ·rw[fo v] at h;have f:t.kind=9:=by
     by_cases f:t.kind=9
     ·exact f
     ·rw[fL f] at b;injection b with b
      exact o5 (by rw[<-b];rfl) v
    rw[fo f] at b;cases l:bM d t.id with
    | some k0 =>
     simp only[l] at h;injection h with h
     injection h with h
     injection h with _ h
     injection h with h _
     subst h;exact⟨m t.id (by rw[l];simp) t f rfl,m⟩
    | none =>
     simp only[l] at h;have key:∀k1 c y,bw s n x d (eD o t.id true)=some (some (k1,c,y))->jP s t/\DL s (eD c t.id k1):=by
      intro k1 c y hx;obtain⟨w,q2⟩:=yE hx m;refine⟨.step f b v w,fun i hi=>?_⟩;rw[kP] at hi
      by_cases e:i=t.id
      ·intro u hu z;exact .step hu ((Gt (z.trans e)).trans b) v w
      ·rw[fL e] at hi;exact q2 i hi
     have fin:∀X:Option (Option (Int×DM×OM)),(match X with
       | some (some (k,a,o'))=>some (some (k,eD a t.id k,o'))
       | some none=>some none
       | none=>none)=some (some (k,a,o'))->∃c,X=some (some (k,c,o'))/\a=eD c t.id k:=by
      intro X j;cases X with
      | none=>cases j
      | some q =>
       cases q with
       | none=>cases j
       | some p =>
        obtain⟨k1,c,y⟩:=p;injection j with j
        injection j with j
        injection j with e1 j
        injection j with e2 e3
        subst e1 e3;exact⟨c,rfl,e2.symm⟩
     have ho:¬bM o t.id=some true:=fun q=>by rw[q] at h;cases h
     have h:(match bw s n x d (eD o t.id true) with
       | some (some (k,a,o'))=>some (some (k,eD a t.id k,o'))
       | some none=>some none
       | none=>none)=some (some (k,a,o')):=by
      cases l:bM o t.id with
      | none=>rw[l] at h;exact h
      | some u =>
       cases u with
       | true=>exact o5 l ho
       | false=>rw[l] at h;exact h
     obtain⟨c,h1,h2⟩:=fin _ h;rw[h2];exact key _ _ _ h1
theorem AL {s:List Ty}{n:Nat}:∀{i:Nat}{b:Bool}{d:DM}{o:OM},dw s n i=some (some (b,d,o))->(∀j<i,jP s (vr j))/\DL s d
 | 0,b,d,o,h=>by
  rw[dw] at h;injection h with h
  injection h with h
  injection h with _ h
  injection h with h _
  subst h;exact⟨fun j c=>o5 c (aby _),fun i hi=>o5 rfl hi⟩
 | i+1,b,d,o,h=>by
  rw[dw] at h;cases h1:dw s n i with
  | none=>rw[h1] at h;cases h
  | some r =>
   rw[h1] at h;cases r with
   | none=>cases h
   | some p =>
    obtain⟨w,l,t⟩:=p;obtain⟨m,k⟩:=AL h1;simp only at h;cases a:bw s n (vr i) l t with
    | none=>rw[a] at h;cases h
    | some r =>
     rw[a] at h;cases r with
     | none=>cases h
     | some p =>
      obtain⟨v,x,u⟩:=p;injection h with h
      injection h with h
      injection h with _ h
      injection h with h _
      subst h;obtain⟨q,f⟩:=yE a k;refine⟨fun j c=>?_,f⟩
      by_cases e:j=i
      ·rw[e];exact q
      ·exact m j (by omega)
theorem oO {s:List Ty}{n:Nat}{d:DM}{o:OM}(h:bA s n=some (some (d,o))):Good s:=by
 unfold bA at h;split at h
 ·rename_i c;cases a:dw s n s.length with
  | none=>simp only[a] at h;cases h
  | some r =>
   cases r with
   | none=>simp only[a] at h;cases h
   | some p =>
    obtain⟨b,d,o⟩:=p;exact⟨AJ c,(AL a).1⟩
 ·cases h
theorem DN {s:List Ty}(g:Good s):∃n r,jJ s n=some r:=by
 have h1:∀i∈List.range s.length,∃n r,aO s n (vr i)=some r:=fun i hi=>(g.fin i (List.mem_range.1 hi)).front;have h:∀i∈List.range s.length,∃n r,oK s n (vr i)=some r:=fun i hi=>(g.fin i (List.mem_range.1 hi)).ap;obtain⟨b,h1⟩:=nQ (f:=fun n i=>aO s n (vr i)) dA h1;obtain⟨c,h⟩:=nQ (f:=fun n i=>oK s n (vr i)) mM h;have o:∀i,i<=s.length->∀d,∃r,iL s b i d=some r:=by
  intro i
  induction i with
  | zero=>exact fun _ d=>⟨d,rfl⟩
  | succ i e =>
   intro hi d;obtain⟨t,j⟩:=h1 i (List.mem_range.2 (by omega));obtain⟨r,a⟩:=e (by omega) (if t.kind=9 then eD d t.id i else d);exact⟨r,by rw[iL,j];exact a⟩
 obtain⟨m,k⟩:=o s.length (aa0 _) [];have l:∀i,i<=s.length->∃r,py s c m i=some r:=by
  intro i
  induction i with
  | zero=>exact fun _=>⟨[],rfl⟩
  | succ i e =>
   intro hi;obtain⟨t,j⟩:=h i (List.mem_range.2 (by omega));obtain⟨r,a⟩:=e (by omega);exact⟨_,by rw[py,a,j]⟩
 obtain⟨r,a⟩:=l s.length (aa0 _);refine⟨max b c,r,?_⟩;unfold jJ;rw[sn (Nat.le_max_left b c) k];exact u4 (Nat.le_max_right b c) a
theorem yF {s:List Ty}{a b:Ty}(h:mT s a b=true):ins s.length a=true/\ins s.length b=true/\cn a<=8/\cn b<=8:=by
 unfold mT at h;simp only[xo,Bool.not_eq_true',ab1] at h;exact⟨h.1.1,h.1.2,by omega,by omega⟩
theorem PO (s:List Ty) (a b:Ty):∃n,Fuel n s a b/\(∀s',KU n s a b s'->∃r,jJ s' n=some r)/\∀s',KU n s a b s'->Eh s s':=by
 obtain⟨c,r1,h1⟩:=vH s
 by_cases hc:(∃d o,r1=some (d,o))/\mT s a b=true
 ·obtain⟨⟨d,o,rfl⟩,y⟩:=hc;have g:=oO h1;obtain⟨i1,i2,_,_⟩:=yF y;obtain⟨f,r2,k,h3⟩:=yC _ s g (abS _) a b i1 i2;cases r2 with
  | none =>
   refine⟨max c f,⟨⟨_,kg (Nat.le_max_left c f) h1⟩,fun _ _=>⟨_,gP (Nat.le_max_right c f) k⟩,fun _ _ s' e=>?_,fun _ _ s' e=>?_⟩,fun s' e=>?_,fun s' e=>?_⟩
   ·rw[gP (Nat.le_max_right c f) k] at e;cases e
   ·rw[gP (Nat.le_max_right c f) k] at e;cases e
   ·have e:=e.2.2.1;rw[gP (Nat.le_max_right c f) k] at e;cases e
   ·have e:=e.2.2.1;rw[gP (Nat.le_max_right c f) k] at e;cases e
  | some s' =>
   have u:=h3 s' rfl;obtain⟨m,r3,h4⟩:=vH s';obtain⟨l,r4,h5⟩:=DN u.good;have hd:∃j,∀d o,r3=some (d,o)->∃r,bw s' j a d o=some r:=by
    cases r3 with
    | none=>exact⟨0,fun d o e=>by cases e⟩
    | some p =>
     obtain⟨j,r5,v⟩:=DK u.good.ins (show ins s'.length a=true by rw[u.len];exact i1) p.1 p.2;exact⟨j,fun d o e=>by injection e with e;rw[e] at v;exact⟨r5,v⟩⟩
   obtain⟨j,v⟩:=hd;have b1:c<=c+f+m+l+j:=by omega
   have x:f<=c+f+m+l+j:=by omega
   have z:m<=c+f+m+l+j:=by omega
   have b4:l<=c+f+m+l+j:=by omega
   have b5:j<=c+f+m+l+j:=by omega
   generalize c+f+m+l+j=n at b1 x z b4 b5;have w:∀{h},lD n s a b=some (some h)->h=s':=fun e=>by
    rw[gP x k] at e;injection e with e;injection e with e;exact e.symm
   refine⟨n,⟨⟨_,kg b1 h1⟩,fun _ _=>⟨_,gP x k⟩,fun _ _ h e=>?_,fun _ _ h e d o t=>?_⟩,fun h e=>?_,fun h e=>?_⟩
   ·rw[w e];exact⟨_,kg z h4⟩
   ·rw[w e] at t ⊢;rw[kg z h4] at t;injection t with t
    obtain⟨r,hr⟩:=v d o t;exact⟨r,gK b5 hr⟩
   ·rw[w e.2.2.1];exact⟨_,su b4 h5⟩
   ·rw[w e.2.2.1];exact u
 ·have no:∀{X:Prop},(∃d o,bA s c=some (some (d,o)))->mT s a b=true->X:=fun⟨d,o,e⟩ y=>by
   rw[h1] at e;injection e with e;exact o5 ⟨⟨d,o,e⟩,y⟩ hc
  exact⟨c,⟨⟨_,h1⟩,fun q p=>no q p,fun q p=>no q p,fun q p=>no q p⟩,fun s' e=>no e.1 e.2.1,fun s' e=>no e.1 e.2.1⟩
theorem nK.mono {P:Program}{H:Nat}{PS PS':Value->Prop}{ns:List Nat}{out:Value->List (List Value)}(h:nK P H PS ns out) (c:∀v,PS' v->PS v):nK P H PS' ns out :=
 ⟨h.inv,h.idle,fun F b v a w d=>h.caught F b v a w (c v d)⟩
theorem KY:∀{a:List Own}{n:Nat},Cx a [n]->∃g t cs,a=[.box g (t+1) cs]/\cs.length=n
 | [],_,h=>h.elim
 | [o],n,h=>by
  cases o with
  | row=>exact h.1.elim
  | box g t cs =>
   cases t with
   | zero=>exact o5 rfl (wo h.1)
   | succ t=>exact⟨g,t,cs,rfl,h.1⟩
 | _::_::_,_,h=>h.2.elim
def Oq (v:Value):List (List Value):=match v with
 | .iface _ (.agg ⟨[.int _ n]⟩)=>[[.int .i64 n]]
 | _=>[]
theorem Rb (c:List Own) (w:World) (hb:Cx c [1]):CallsD P 93 (c.map lA).toArray .returning w fun e f w'=>e=.returned (.tuple #[])/\f=.returning/\w'=w:=by
 have j:Try.f93.ntmps=12:=by kernel_rfl
 have k:Try.f93.results=#[]:=by kernel_rfl
 obtain⟨g,t,cs,rfl,_⟩:=KY hb;refine callsD_of_wpS Try.func93 rfl fun a cs h=>?_;apply wpS_seq;apply wpS_region;simp[wpOpsS,go_sem,recoverD,h,j,Exit.thenS,lA];refine wpS_of_wp (wp_block (wp_seq (wp_region ?_)));have b:P.underlying 20=some (.interface #[]):=by kernel_rfl
 have d:∀w:World,(Op.equal 20 .nilIface .nilIface).run P w=.ok true w:=fun w=>Em b;simp[wpOps,go_sem,Exit.then,d,Exit.inBlock];refine .inl ?_;apply wp_cond_true
 ·simp[Act.eval,Array.replicate]
 apply wp_region;cases a
 simp_all [wpOps,go_sem,bodyPostS,results,Exit.inBlock]
theorem Cg:nK P 93 (fun v=>∃e,v=cB e) [1] Oq:=by
 refine vC Try.func93 NT rfl Rb ?_;rintro F c v ⟨n,rfl⟩ hb;obtain⟨g,t,cs,rfl,h1⟩:=KY hb
 match cs,h1 with
 | [a],_ =>
  intro b;exact rfl
def RG (n:Nat) (s:List Ty) (a b:Ty):List TO->C->Prop:=fun Mo v=>(∃s',KU n s a b s'/\Mo=LU s'/\v=IC 0)\/(∃e,PL n s a b e/\v=IC e/\∃i j,Mo=[.box 89 (List.replicate i .any),.box 93 (List.replicate j .any),.row 32 3 []])
theorem PL.three {n:Nat}{s:List Ty}{a b:Ty}{e:Int}(h:PL n s a b e):e=1\/e=2\/e=8:=by
 rcases h with⟨_,h⟩ | ⟨_,⟨_,h⟩ | ⟨_,⟨_,h⟩ | ⟨_,_,h,_⟩⟩⟩<;>omega
section
variable {L:TL}{ρ:aK}
theorem Rc (ks:List Nat) {PS:nD}{n f:Nat}{s:List Ty}{a b:Ty}{args:List C}{K:TL->aK->C->Prop}{Lin:List TO}(h:CallsTX P f (args.map fun c=>c.aaj.ren (bh ks 1000)) (LU s) (RU n s a b) (PU n s a b)) (m:L.sub ks=some Lin)
  (d:(T.aP ks&&T.jt L ks ks&&aI Lin ks ks&&ju L ks PS.hb)=true) (q:Lin.map (TO.aad (C.ren (bh ks 1000)))=LU s) (j:ks.length=3) (o:∀v,PU n s a b v->PS.ps v)
  (k:∀s',KU n s a b s'->K (((L.aae ks).kills (rowsOf L ks)).puts ks ((LU s').map (TO.aad (C.ren (aH ks))))) (dh (rowsOf L ks) ρ) (.tup [])):kR P PS f args L ρ K:=by
 simp only[xo] at d;obtain⟨⟨⟨e,p⟩,c3⟩,c4⟩:=d;refine⟨[],ks,ks,L,Lin,_,_,.inl rfl,m,e,e,p,c3,c4,by rw[q];exact h,o,?_⟩;rintro v Mo ⟨s',r,rfl,rfl⟩ t l;exact⟨j,k s' r⟩
theorem Rf (ks:List Nat) {n f:Nat}{s:List Ty}{a b:Ty}{args:List C}{K:TL->aK->C->Prop}{Lin:List TO}(h:CallsT P f (args.map fun c=>c.aaj.ren (bh ks 1000)) (LU s) (RG n s a b)) (p:L.sub ks=some Lin)
  (l:(T.aP ks&&T.jt L ks ks&&aI Lin ks ks)=true) (r:Lin.map (TO.aad (C.ren (bh ks 1000)))=LU s) (k:ks.length=3)
  (k1:∀s',KU n s a b s'->K (((L.aae ks).kills (rowsOf L ks)).puts ks ((LU s').map (TO.aad (C.ren (aH ks))))) (dh (rowsOf L ks) ρ) (IC 0))
  (o:∀e,PL n s a b e->∀Lx,Lx.length=3->K (((L.aae ks).kills (rowsOf L ks)).puts ks Lx) (dh (rowsOf L ks) ρ) (IC e)):pV P f args L ρ K:=by
 simp only[xo] at l;obtain⟨⟨m,q⟩,c3⟩:=l;refine .mk ⟨[],ks,ks,L,Lin,_,.inl rfl,p,m,m,q,c3,by rw[r];exact h,?_⟩;rintro v Mo (⟨s',d,rfl,rfl⟩ | ⟨e,d,rfl,i,j,rfl⟩) hw hwo
 ·exact⟨k,k1 s' d⟩
 ·exact⟨k,o e d _ rfl⟩
end
theorem V1 {F:au}{L:Loc}{m:Int}(h0:0<=m) (h1:m<64):Rel F L (IC m) (.int .i64 m):=by
 rw[Rel];exact⟨rfl,by rw[EF];simp only[IntKind.min,IntKind.max,IntKind.signed,IntKind.bits,abj];omega⟩
theorem V2 (n:Nat) (s:List Ty) (a b:Ty) (h:KV s a b (RU n s a b) (PU n s a b)):CallsT P 56 [.fn 62 [] [.own 1000 0,.pt (qX a) 0,.pt (qX b) 0]] (LU s) (RG n s a b):=by
 refine gB (PS:=PU n s a b) (ns:=[1]) (out:=Oq) Try.func56 BL (nK.mono Cg fun v ⟨e,_,h⟩=>⟨e,h⟩) (fun v ⟨e,_,h⟩=>by subst h;rfl) rfl rfl ?_ fun f m=>?_
 ·rintro v ⟨e,hB,rfl⟩;refine⟨IC e,.int .i64 e,?_,?_,?_⟩
  ·intro L ρ h;obtain⟨a1,l,k,d⟩:=h 0 2 _ rfl rfl;simp only[mW,a1,d];rfl
  ·intro F L;have:=hB.three;exact V1 (by omega) (by omega)
  ·rintro Mo ⟨i,Mo1,rfl,j,Mo2,rfl,Mo3,rfl,rfl⟩;exact .inr ⟨e,hB,rfl,i,j,rfl⟩
 refine⟨rfl,?_⟩;refine Rc [1000,1001,1002] h rfl rfl rfl rfl (fun v q=>q) fun s' c=>?_;exact pu [1000,1001,1002] rfl rfl rfl rfl (.inl ⟨s',c,rfl,rfl⟩)
def UR (n:Nat) (s:List Ty) (a b:Ty) (r:List Ty) (e:Int):Prop:=(∃s',KU n s a b s'/\jJ s' n=some r/\e=0)\/(PL n s a b e/\r=[])
def RN (n:Nat) (s:List Ty) (a b:Ty):List TO->C->Prop:=fun Mo v=>Mo=[]/\∃r e,UR n s a b r e/\v=.tup [.sl (r.map aG),IC e]
theorem V3 {L:TL}{K:TL->Prop}(h:K L):fT L K:=by rw[fV];exact h
theorem t23 (n:Nat) (s:List Ty) (a b:Ty) (p:s.length<=2 ^ 30) (F:Fuel n s a b) (o:∀s e r,bA s n=some r->DI s e r) (j:cn a<=2 ^ 40) (k:cn b<=2 ^ 40)
  (f:∀s',KU n s a b s'->s'.length<=2 ^ 30/\(∀x∈s',iN x)/\∃r,jJ s' n=some r):CallsT P 23 [.sl (s.map aG),aR a,aR b] [] (RN n s a b):=by
 have h:=V2 n s a b (t62 n s a b F o j k);have d:=t61 s p;refine af Try.func23 Nm rfl fun u _=>?_;refine callO [] [11] d rfl rfl rfl rfl rfl fun _ _=>?_;refine Rf [8,13,11] h rfl rfl rfl rfl (fun s' c=>?_) fun e m Lx t=>?_
 ·skip
  refine vP (f s' c).2.2 fun r l=>?_;refine JT [11] [13] [13] (t65 s' n r (f s' c).1 (f s' c).2.1 l) ⟨_,rfl,rfl,rfl,rfl,rfl,fun _ _=>?_⟩;exact pu [] rfl rfl rfl rfl ⟨rfl,r,0,.inl ⟨s',c,l,rfl⟩,rfl⟩
 ·refine V3 ?_;have h0:¬e=0:=by have:=m.three;omega
  refine aS (fun _=>?_) (fun q=>o5 q h0);exact pu [] rfl rfl rfl rfl ⟨rfl,[],e,.inr ⟨m,rfl⟩,rfl⟩
def RFf (s:List Ty) (r:Option (DM×OM)):List TO->C->Prop:=fun Mo v=>∃d o,r=some (d,o)/\Mo=Iz s d o/\v=.tup []
def tU (s:List Ty) (e:Int) (r:Option (DM×OM)):Prop:=CallsTX P 58 [.own 1000 0,IC e] (um s) (RFf s r) (PF e r)
section
variable {L:TL}{ρ:aK}
theorem Gu (ks ko:List Nat) {PS:nD}{args:List C}{K:TL->aK->C->Prop}{s:List Ty}{e:Int}{r:Option (DM×OM)}{Lin:List TO}(h:tU s e r) (l:L.sub ks=some Lin)
  (a:(T.aP ks&&T.aP ko&&T.jt L ks ko&&aI Lin ks ko&&ju L ks PS.hb)=true) (b:(args.map fun c=>c.aaj.ren (bh ks 1000))=[.own 1000 0,IC e]) (p:Lin.map (TO.aad (C.ren (bh ks 1000)))=um s) (f:ko.length=3) (m:∀v,PF e r v->PS.ps v)
  (k:∀d o,r=some (d,o)->K (((L.aae ks).kills (rowsOf L ks)).puts ko ((Iz s d o).map (TO.aad (C.ren (aH ko))))) (dh (rowsOf L ks) ρ) (.tup [])):kR P PS 58 args L ρ K:=by
 simp only[xo] at a;obtain⟨⟨⟨⟨q,n⟩,c3⟩,c4⟩,c5⟩:=a;refine⟨[],ks,ko,L,Lin,_,_,.inl rfl,l,q,n,c3,c4,c5,by rw[p,b];exact h,m,?_⟩;rintro v Mo ⟨d,o,t,rfl,rfl⟩ u j;exact⟨f,k d o t⟩
end
theorem V4 (s:List Ty) (t:Ty) (d:DM) (o:OM) (h:tU s 1 (some (d,o))) (r:Ty) (hi:ins s.length t=true) (b:CallsT P 60 [.own 1000 0,aR t] (um s) (aT (um s) (aR r))):CallsTX P 57 [.own 1000 0,.pt (qX t) 0,.own 1002 0] [.box 89 [.own 1001 0],.box 93 [.sl (s.map aG),.any,.any],.box 32 [IC 0,IC 0,.nils]] (aT [.box 89 [.own 1001 0],.box 93 [.sl (s.map aG),.any,.any],.box 32 (qX r)] (.tup [])) (fun _=>False):=by
 have a:=fun D O=>KF s D O t;refine aU Try.func57 FZ rfl fun c _=>?_;refine Gu [1001] [1001,2003,2004] h rfl rfl rfl rfl rfl (fun v q=>by cases q.1) fun d o e=>?_;refine callO [1001,2003,2004] [1001,2003,2004] (a _ _) rfl rfl rfl rfl rfl fun _ _=>?_;refine aq (fun _=>?_) (fun h=>o5 (show ins s.length t=false from h) (by rw[hi];exact Bool.noConfusion));refine callO [1001] [1001] b rfl rfl rfl rfl rfl fun _ _=>?_;exact bq [1000,1001,1002] rfl rfl rfl rfl
theorem V5 (s:List Ty) (t:Ty) (d:DM) (o:OM) (h:tU s 1 (some (d,o))) (r:Ty) (hi:ins s.length t=true) (b:CallsT P 60 [.own 1000 0,aR t] (um s) (aT (um s) (aR r))):CallsT P 56 [.fn 57 [] [.own 1000 0,.pt (qX t) 0,.own 1002 0]] [.box 89 [.own 1001 0],.box 93 [.sl (s.map aG),.any,.any],.box 32 [IC 0,IC 0,.nils]] (aT [.box 89 [.own 1001 0],.box 93 [.sl (s.map aG),.any,.any],.box 32 (qX r)] (IC 0)):=by
 have a:=V4 s t d o h r hi b;refine gB (PS:=fun _=>False) (ns:=[1]) (out:=Oq) Try.func56 BL (nK.mono Cg fun v h=>h.elim) (fun v h=>h.elim) rfl rfl (fun v h=>h.elim) fun e c=>?_;refine⟨rfl,?_⟩;refine JU [1000,1001,1002] [1000,1001,1002] a rfl rfl rfl rfl rfl (fun v q=>q) fun _ _=>?_;exact bq [1000,1001,1002] rfl rfl rfl rfl
theorem V6 (s:List Ty) (t:Ty) (d:DM) (o:OM) (h:tU s 1 (some (d,o))) (r:Ty) (hi:ins s.length t=true) (a:CallsT P 60 [.own 1000 0,aR t] (um s) (aT (um s) (aR r))):CallsT P 22 [.sl (s.map aG),aR t] [] (aT [] (aR r)):=by
 have b:=V5 s t d o h r hi a;refine af Try.func22 FT rfl fun c _=>?_;refine callO [5,9,6] [5,9,6] b rfl rfl rfl rfl rfl fun _ _=>?_;exact aC rfl rfl
theorem V7 (s:List Ty) (t:Ty) (d:DM) (o:OM) (h:tU s 1 (some (d,o))) (hi:ins s.length t=false):CallsTX P 57 [.own 1000 0,.pt (qX t) 0,.own 1002 0] [.box 89 [.own 1001 0],.box 93 [.sl (s.map aG),.any,.any],.box 32 [IC 0,IC 0,.nils]] (aT [.box 89 [.own 1001 0],.box 93 [.sl (s.map aG),.any,.any],.box 32 ([IC 0,IC 0,.nils])] (.tup [])) (fun _=>False):=by
 have a:=fun D O=>KF s D O t;refine aU Try.func57 FZ rfl fun b _=>?_;refine Gu [1001] [1001,2003,2004] h rfl rfl rfl rfl rfl (fun v q=>by cases q.1) fun d o e=>?_;refine callO [1001,2003,2004] [1001,2003,2004] (a _ _) rfl rfl rfl rfl rfl fun _ _=>?_;refine aq (fun h=>o5 (show ins s.length t=true from h) (by rw[hi];exact Bool.noConfusion)) (fun _=>?_);exact bq [1000,1001,1002] rfl rfl rfl rfl
theorem V8 (s:List Ty) (t:Ty) (d:DM) (o:OM) (h:tU s 1 (some (d,o))) (hi:ins s.length t=false):CallsT P 56 [.fn 57 [] [.own 1000 0,.pt (qX t) 0,.own 1002 0]] [.box 89 [.own 1001 0],.box 93 [.sl (s.map aG),.any,.any],.box 32 [IC 0,IC 0,.nils]] (aT [.box 89 [.own 1001 0],.box 93 [.sl (s.map aG),.any,.any],.box 32 ([IC 0,IC 0,.nils])] (IC 0)):=by
 have a:=V7 s t d o h hi;refine gB (PS:=fun _=>False) (ns:=[1]) (out:=Oq) Try.func56 BL (nK.mono Cg fun v h=>h.elim) (fun v h=>h.elim) rfl rfl (fun v h=>h.elim) fun c b=>?_;refine⟨rfl,?_⟩;refine JU [1000,1001,1002] [1000,1001,1002] a rfl rfl rfl rfl rfl (fun v q=>q) fun _ _=>?_;exact bq [1000,1001,1002] rfl rfl rfl rfl
theorem V9 (s:List Ty) (t:Ty) (d:DM) (o:OM) (h:tU s 1 (some (d,o))) (hi:ins s.length t=false):CallsT P 22 [.sl (s.map aG),aR t] [] (aT [] (aR (.mk 0 0 []))):=by
 have a:=V8 s t d o h hi;refine af Try.func22 FT rfl fun b _=>?_;refine callO [5,9,6] [5,9,6] a rfl rfl rfl rfl rfl fun _ _=>?_;exact aC rfl rfl
def Rh (s:List Ty) (n:Nat) (t:Ty):Option Ty:=if ins s.length t then oK s n t else some (.mk 0 0 [])
theorem t22 (s:List Ty) (n:Nat) (t r:Ty) (d:DM) (o:OM) (h:tU s 1 (some (d,o))) (b:∀x∈s,iN x) (hb:iN t) (a:Rh s n t=some r):CallsT P 22 [.sl (s.map aG),aR t] [] (aT [] (aR r)):=by
 unfold Rh at a;cases hi:ins s.length t with
 | true =>
  rw[fo hi] at a;exact V6 s t d o h r hi (XE s b n t r hb a)
 | false =>
  rw[fL (by rw[hi];exact aa8)] at a;injection a with a
  rw[<-a];exact V9 s t d o h hi
section
variable {P:Program}
def sA (v:Value):Deferred:={target:=.builtin .panic #[20] 0 #[false],args:=#[v]}
theorem Ih {b:Frame}{cs:List Frame}{w:World}{t:TypeId}{x:Value}{ds:List Deferred}(h:b.mode≠.run) (d:b.defers=sA (.iface t x)::ds) :
  step P (lone b cs w)=.next (lone {b with defers:=ds,mode:=raised b.mode [{v:=.iface t x,recovered:=false}]} cs w):=by
 have e:∀u,({b with defers:=ds}:Frame).raise u={b with defers:=ds,mode:=raised b.mode u}:=fun u=>by rw[Frame.raise_mode]
 have f:(invoke (sA (.iface t x)).target (sA (.iface t x)).args).run P w=.halt (.panic (.iface t x)) w:=by
  simp[sA,invoke,builtin,go_sem,Instr.panic]
 simp only[sA] at d f;refine step_lone_go ?_;cases a:b.mode with
 | run=>exact o5 a h
 | returning =>
  rw[a] at e;simp[stepG,unwind,callDeferred,a,d,f,e,raised]
 | panicking c =>
  rw[a] at e;simp[stepG,unwind,callDeferred,a,d,f,e,raised]
theorem sB {t:TypeId}{x:Value}:∀(ds:List Deferred) (c:Frame) (cs:List Frame) (w:World),(∀d∈ds,d=sA (.iface t x))->c.mode≠.run->c.defers=ds->ds≠[]->(∀f,c.mode=.panicking f->∀e∈f,e.goexit=false) ->
  ∃f,rD (.iface t x) f/\Steps P (lone c cs w) (lone {c with defers:=[],mode:=.panicking f} cs w)
 | [],c,cs,w,h,p,o,m,r=>o5 rfl m
 | d::ds,c,cs,w,h,p,o,m,r=>by
  have e:=h d (by simp);subst e;have h1:=Ih (P:=P) (cs:=cs) (w:=w) p o;have y:∃a,raised c.mode [{v:=.iface t x,recovered:=false}]=.panicking ({v:=.iface t x,recovered:=false}::a)/\∀e∈a,e.goexit=false:=by
   cases j:c.mode with
   | run=>exact o5 j p
   | returning=>exact⟨[],rfl,fun e h=>by cases h⟩
   | panicking f=>exact⟨f,rfl,r f j⟩
  obtain⟨a,k,n⟩:=y
  by_cases l:ds=[]
  ·subst l;refine⟨_,⟨a,rfl,n⟩,?_⟩;rw[<-k];exact .one h1
  ·obtain⟨f,u,s⟩:=sB ds {c with defers:=ds,mode:=raised c.mode [{v:=.iface t x,recovered:=false}]} cs w (fun d o=>h d (by simp[o])) (by rw[k];exact fun h=>by cases h) rfl l (fun f b e q=>by
    have b:raised c.mode [{v:=.iface t x,recovered:=false}]=.panicking f:=b;rw[k] at b;injection b with b
    subst b;rcases aaT.1 q with rfl | q
    ·rfl
    ·exact n e q)
   exact⟨f,u,.head h1 s⟩
def qR (P:Program) (fn:Func) (v:Value) (R:Ending->World->Prop):Exit->Act->World->Prop
 | .normal,a,w | .ret,a,w=>(∀d∈a.defers,d=sA v)/\(a.defers=[]->∃x,(results fn a.tmps).run P w=.ok x w/\R (.returned x) w)/\(a.defers≠[]->∀c,rD v c->R (.panicked c) w)
 | .panic b,a,w=>(∀d∈a.defers,d=sA v)/\(a.defers=[]->R (.panicked b) w)/\(a.defers≠[]->(∀e∈b,e.goexit=false)/\∀c,rD v c->R (.panicked c) w)
 | .outgrown,_,w=>R .outgrown w
 | _,_,_=>False
theorem vS {f:FuncId}{fn:Func}{c:Code}{args:Array Value}{w:World}{t:TypeId}{x:Value}{R:Ending->World->Prop}
  (hf:P.funcs[f]?=some fn) (hb:fn.body=some c)
  (h:c.wp P (qR P fn (.iface t x) R) {tmps:=args++Array.replicate (fn.ntmps-args.size) undef,defers:=[]} w):Calls P f args w R:=by
 intro cs
 let b:Frame:={(default:Frame) with fn:=f,kind:=.normal}
 have r:Frame.enter P f args .normal =
   b.at {tmps:=args++Array.replicate (fn.ntmps-args.size) undef,defers:=[]} [.code c]:=by
  simp[Frame.enter,Frame.at,hf,hb,b]
 obtain⟨e,a',w',y,n⟩:=h b [] cs;rw[<-r] at n;have s:∀a,((∀d∈a'.defers,d=sA (.iface t x))/\(a'.defers=[]->∃x,(results fn a'.tmps).run P w'=.ok x w'/\R (.returned x) w')/\(a'.defers≠[]->∀q,rD (.iface t x) q->R (.panicked q) w')) ->
   ∃e o p,R e o/\Comes P (lone {b.at a' a with mode:=.returning} cs w') (lone p cs o) e/\p.fn=f/\p.leaving P o e:=by
  rintro a ⟨q1,q2,q3⟩
  by_cases j:a'.defers=[]
  ·obtain⟨v,hr,z⟩:=q2 j;exact⟨.returned v,w',_,z,Steps.refl P _,rfl,rfl,j,rfl,fn,hf,hr⟩
  ·obtain⟨q,k1,k2⟩:=sB (P:=P) a'.defers {b.at a' a with mode:=.returning} cs w' q1 (fun h=>by cases h) rfl j (fun q h=>by cases h);exact⟨.panicked q,w',_,q3 j q k1,k2,rfl,rfl,rfl,fn,hf⟩
 cases e with
 | normal =>
  obtain⟨e',o,p,z,hs,u,hl⟩:=s [] y;exact⟨e',o,p,z,Comes.of_steps (Steps.trans n (.one step_end)) hs,u,hl⟩
 | ret =>
  obtain⟨a,m⟩:=n;obtain⟨e',o,p,z,hs,u,hl⟩:=s a y;exact⟨e',o,p,z,Comes.of_steps m hs,u,hl⟩
 | panic k =>
  obtain⟨a,m⟩:=n;obtain⟨q1,q2,q3⟩:=y
  by_cases j:a'.defers=[]
  ·exact⟨.panicked k,w',{b.at a' a with mode:=.panicking k},q2 j,Comes.of_steps m (Steps.refl P _),rfl,rfl,j,fn,hf⟩
  ·obtain⟨q,k1,k2⟩:=sB (P:=P) a'.defers {b.at a' a with mode:=.panicking k} cs w' q1 (fun h=>by cases h) rfl j (fun q h=>by
    have h:FrameMode.panicking k=.panicking q:=h;injection h with h
    subst h;exact(q3 j).1)
   exact⟨.panicked q,w',_,(q3 j).2 q k1,Comes.of_steps m k2,rfl,rfl,rfl,fn,hf⟩
 | exit id=>exact y.elim
 | goto l=>exact y.elim
 | outgrown=>exact⟨.outgrown,w',b,y,n.resolve_left (by simp[b]),rfl,trivial⟩
end
theorem Wc {B g n c:Nat}(b:n<B) (a:c<B):(c+(g*B+n)*B) / B % B=n/\(c+(g*B+n)*B) % B=c/\(c+(g*B+n)*B) / (B*B)=g:=by
 have hB:0<B:=by omega
 have h1:(c+(g*B+n)*B) / B=g*B+n:=by rw[Nat.add_mul_div_right _ _ hB,Nat.div_eq_of_lt a,Nat.zero_add]
 refine⟨?_,?_,?_⟩
 ·rw[h1,Nat.add_comm,Nat.add_mul_mod_self_right,Nat.mod_eq_of_lt b]
 ·rw[Nat.add_mul_mod_self_right,Nat.mod_eq_of_lt a]
 ·rw[<-Nat.div_div_eq_div_mul,h1,Nat.add_comm,Nat.add_mul_div_right _ _ hB,Nat.div_eq_of_lt b,Nat.zero_add]
theorem KZ (m:Nat):rC (m+2)=some (m / fI % fI):=rfl
theorem K0 (m:Nat):IA (m+1)=.slice (some ⟨m / (fI*fI),0,none⟩) (m / fI % fI) (m % fI):=rfl
theorem DP {n:Nat}(h:n<=maxLen):n<fI:=Nat.lt_of_le_of_lt h (by decide)
theorem Gv (g n c:Nat) (b:n<=maxLen) (a:c<=maxLen):∃k,rC k=some n/\∀F,gL k F (.slice (some ⟨g,0,none⟩) n c):=by
 have b:=DP b;have a:=DP a;generalize hB:fI=B at b a;obtain⟨h1,d,e⟩:=Wc (g:=g) b a;generalize c+(g*B+n)*B=m at h1 d e;refine⟨m+2,?_,fun F=>.inr ⟨m+1,rfl,?_⟩⟩
 ·rw[KZ,hB,h1]
 ·rw[K0,hB,h1,d,e]
theorem Ot {F:au}{L L':Loc}{t:Ty}{v:Value}(h:Rel F L (aR t) v):Rel F L' (aR t) v:=by
 simp only[Rel,ay] at h ⊢;exact h
theorem E9 {F:au}{k:Nat}{v u:Value}(h:gL k F v) (a:gL k F u):v=u:=by
 rcases h with⟨rfl,rfl⟩ | ⟨m,rfl,rfl⟩
 ·rcases a with⟨_,rfl⟩ | ⟨m,h,_⟩
  ·rfl
  ·cases h
 ·rcases a with⟨h,_⟩ | ⟨b,h,rfl⟩
  ·cases h
  ·injection h with h;rw[h]
theorem Wd {b d c:Own}{j:Nat}:(inp [b,d,c]).get j=if j=1000 then some b else if j=1001 then some d else if j=1002 then some c else none:=by
 rw[aF]
 by_cases h:1000<=j
 ·rw[fo h]
  by_cases h0:j=1000
  ·rw[fo h0,h0];rfl
  rw[fL h0]
  by_cases h1:j=1001
  ·rw[fo h1,h1];rfl
  rw[fL h1]
  by_cases a:j=1002
  ·rw[fo a,a];rfl
  rw[fL a];exact abo (by simp;omega)
 ·rw[fL h,fL (by omega),fL (by omega),fL (by omega)]
theorem S3 {b d c:TO}{j:Nat}:(cD [b,d,c]).get j=if j=1000 then some b else if j=1001 then some d else if j=1002 then some c else none:=by
 rw[ck]
 by_cases h:1000<=j
 ·rw[fo h]
  by_cases h0:j=1000
  ·rw[fo h0,h0];rfl
  rw[fL h0]
  by_cases h1:j=1001
  ·rw[fo h1,h1];rfl
  rw[fL h1]
  by_cases a:j=1002
  ·rw[fo a,a];rfl
  rw[fL a];exact abo (by simp;omega)
 ·rw[fL h,fL (by omega),fL (by omega),fL (by omega)]
theorem Ri {F:au}{a c b:Own}{k h l:TO}(h0:cE F (inp [a,c,b]) k a) (h1:cE F (inp [a,c,b]) h c) (m:cE F (inp [a,c,b]) l b):bK F (inp [a,c,b]) (cD [k,h,l]):=by
 intro j;rw[Wd,S3]
 by_cases e:j=1000
 ·rw[fo e,fo e];exact h0
 rw[fL e,fL e]
 by_cases d:j=1001
 ·rw[fo d,fo d];exact h1
 rw[fL d,fL d]
 by_cases f:j=1002
 ·rw[fo f,fo f];exact m
 rw[fL f,fL f];trivial
theorem Wg {c f d e:Own}{j:Nat}:(inp [c,f,d,e]).get j=if j=1000 then some c else if j=1001 then some f else if j=1002 then some d else if j=1003 then some e else none:=by
 rw[aF]
 by_cases h:1000<=j
 ·rw[fo h]
  by_cases h0:j=1000
  ·rw[fo h0,h0];rfl
  rw[fL h0]
  by_cases h1:j=1001
  ·rw[fo h1,h1];rfl
  rw[fL h1]
  by_cases a:j=1002
  ·rw[fo a,a];rfl
  rw[fL a]
  by_cases b:j=1003
  ·rw[fo b,b];rfl
  rw[fL b];exact abo (by simp;omega)
 ·rw[fL h,fL (by omega),fL (by omega),fL (by omega),fL (by omega)]
theorem S5 {c f d e:TO}{j:Nat}:(cD [c,f,d,e]).get j=if j=1000 then some c else if j=1001 then some f else if j=1002 then some d else if j=1003 then some e else none:=by
 rw[ck]
 by_cases h:1000<=j
 ·rw[fo h]
  by_cases h0:j=1000
  ·rw[fo h0,h0];rfl
  rw[fL h0]
  by_cases h1:j=1001
  ·rw[fo h1,h1];rfl
  rw[fL h1]
  by_cases a:j=1002
  ·rw[fo a,a];rfl
  rw[fL a]
  by_cases b:j=1003
  ·rw[fo b,b];rfl
  rw[fL b];exact abo (by simp;omega)
 ·rw[fL h,fL (by omega),fL (by omega),fL (by omega),fL (by omega)]
theorem Rj {F:au}{a d b c:Own}{m l n o:TO}(h0:cE F (inp [a,d,b,c]) m a) (h1:cE F (inp [a,d,b,c]) l d) (p:cE F (inp [a,d,b,c]) n b) (q:cE F (inp [a,d,b,c]) o c):bK F (inp [a,d,b,c]) (cD [m,l,n,o]):=by
 intro j;rw[Wg,S5]
 by_cases h:j=1000
 ·rw[fo h,fo h];exact h0
 rw[fL h,fL h]
 by_cases f:j=1001
 ·rw[fo f,fo f];exact h1
 rw[fL f,fL f]
 by_cases e:j=1002
 ·rw[fo e,fo e];exact p
 rw[fL e,fL e]
 by_cases k:j=1003
 ·rw[fo k,fo k];exact q
 rw[fL k,fL k];trivial
theorem K1 {F:au}{k c e f d:Nat}{v:Value}{b c3:List Value}{D O:List (C×C)}(a:tyOk 93 c e) (h:gL k F v) (j:fC F D b) (l:fC F O c3) :
  bK F (inp [.box c e [v,.map (some f),.map (some d)],.box f 0 b,.box d 0 c3]) (cD (SO k D O)):=by
 refine Ri ⟨a,?_⟩ ⟨rfl,j⟩ ⟨rfl,l⟩;simp only[ay,Rel];exact⟨_,_,rfl,h,_,_,rfl,⟨_,_,rfl,rfl⟩,_,_,rfl,⟨_,_,rfl,rfl⟩,rfl⟩
theorem Ou {P:Program}{f:Nat}{tx:Ty}{b:Bool}{sz t:Nat}{els:List (List C)}{D O:List (C×C)}
  (h:∀k,rC k=some els.length->CallsT P f [.own 1000 0,aR tx] (SO k D O) (aT (SO k D O) (.bool b))) :
  fq P f [.own 1000 0,aR tx] [.box 93 [.rw 1001,.mpr 1002,.mpr 1003],.row t sz els,.map D,.map O] (aT [.box 93 [.rw 1001,.mpr 1002,.mpr 1003],.row t sz els,.map D,.map O] (.bool b)):=by
 refine⟨fun F Li vs hl z hr=>?_⟩
 match Li,hl with
 | [s,x,y,u],_ =>
  have q0:=z 1000;have q1:=z 1001;have q2:=z 1002;have q3:=z 1003;have g0:(inp [s,x,y,u]).get 1000=some s:=rfl;have g1:(inp [s,x,y,u]).get 1001=some x:=rfl;have g2:(inp [s,x,y,u]).get 1002=some y:=rfl;have g3:(inp [s,x,y,u]).get 1003=some u:=rfl;rw[g0] at q0;rw[g1] at q1;rw[g2] at q2;rw[g3] at q3;have q0:cE F (inp [s,x,y,u]) (.box 93 [.rw 1001,.mpr 1002,.mpr 1003]) s:=q0;have q1:cE F (inp [s,x,y,u]) (.row t sz els) x:=q1;have q2:cE F (inp [s,x,y,u]) (.map D) y:=q2;have q3:cE F (inp [s,x,y,u]) (.map O) u:=q3;cases s with
  | row=>exact q0.elim
  | box b0 t0 c0 =>
  cases x with
  | box=>exact q1.elim
  | row v1 t1 s1 d x1 =>
  cases y with
  | row=>exact q2.elim
  | box l t2 c2 =>
  cases u with
  | row=>exact q3.elim
  | box p t3 c3 =>
  obtain⟨aw,aE⟩:=q0;simp only[ay,Rel] at aE;obtain⟨w0,_,rfl,⟨a,c,t',ds,n,xs,rfl,e1⟩,m1,_,rfl,⟨y1,z1,m,rfl⟩,m2,_,rfl,⟨y2,z2,j,rfl⟩,rfl⟩:=aE;rw[g1] at e1;rw[g2] at m;rw[g3] at j;injection e1 with e1
  injection e1 with e11 e12 e13 e14 e15
  subst e11 e12 e13 e14 e15;injection m with m
  injection m with e21 e22 e23
  subst e21 e22 e23;injection j with j
  injection j with e31 e32 e33
  subst e31 e32 e33;obtain⟨rfl,rfl,hn,⟨hm,hv⟩,av⟩:=q1;obtain⟨_,q2⟩:=q2;obtain⟨_,q3⟩:=q3;rw[ay] at hr;obtain⟨u1,us,rfl,r1,r2⟩:=hr;rw[Rel] at r1;obtain⟨gg,tt,cc,r3,rfl⟩:=r1;rw[g0] at r3;injection r3 with r3
  injection r3 with r31 r32 r33
  subst r31 r32 r33;rw[ay] at r2;obtain⟨u2,dp,rfl,r4,r5⟩:=r2;rw[ay] at r5;subst r5
  -- the arguments,in a smaller world
  have bc:∀(L':Loc) (b':Nat) (ty:TypeId) (cs:List Value),L'.get 1000=some (.box b' ty cs)->ay F L' [.own 1000 0,aR tx] [.pointer (some ⟨b',0,none⟩),u2]:=by
   intro L' b' ty cs hL;rw[ay];refine⟨_,_,rfl,by rw[Rel];exact⟨_,_,_,hL,rfl⟩,?_⟩;rw[ay];exact⟨u2,[],rfl,Ot r4,by rw[ay]⟩
  obtain⟨k0,ci,bv⟩:=Gv 0 d d hm hm;have ent:=((h k0 (by rw[<-hn];exact ci)).out F [.box 0 93 [.slice (some ⟨0,0,none⟩) d d,.map (some l),.map (some p)],.box l 0 c2,.box p 0 c3] [.pointer (some ⟨0,0,none⟩),u2] rfl
   (K1 ⟨by decide,.inl rfl,by decide⟩ (bv F) q2 q3) (bc _ 0 93 _ rfl)).ent
  refine⟨ent,fun F G L v ce ⟨r,q⟩=>⟨gC.aao _ _ _ _ ce r,q⟩,fun w hs=>?_⟩;have ae:=hs.own 1001 _ g1;simp only[Own.ok] at ae;have hk:∃k,rC k=some d/\∀F,gL k F (.slice a d c):=by
   rcases ae.2 with⟨e,_⟩ | ⟨g,cap,dj,e,_,_,k1,k2,_⟩
   ·injection e with e1 m j
    subst e1 m j;exact⟨1,rfl,fun F=>.inr ⟨0,rfl,rfl⟩⟩
   ·injection e with e1 m j
    subst e1 j;exact Gv g d c hm k2
  obtain⟨k,cp,ba⟩:=hk;have ag:(inp [.box b0 t0 [.slice a d c,.map (some l),.map (some p)],.row (.slice a d c) t sz d x1,.box l 0 c2,.box p 0 c3]).sub [1000,1002,1003]=some [.box b0 t0 [.slice a d c,.map (some l),.map (some p)],.box l 0 c2,.box p 0 c3]:=rfl;have an:[1000,1002,1003].Nodup:=by decide
  refine(((h k (by rw[<-hn];exact cp)).out F _ _ rfl (K1 aw (ba F) q2 q3) (bc _ b0 t0 _ rfl)).run w (hs.handed ag an)).mono ?_;rintro e w' ⟨v,F',Lo,rfl,bm,bb,Mo,cc,l1,l2,l3,l4,rfl,rfl⟩
  match Lo,l1 with
  | [p0,p1,p2],_ =>
   obtain⟨d0,i0⟩:=l4 0 _ _ _ rfl;obtain⟨d1,i1⟩:=l4 1 _ _ _ rfl;obtain⟨d2,i2⟩:=l4 2 _ _ _ rfl;injection i0 with i0
   injection i1 with i1
   injection i2 with i2
   subst i0 i1 i2;obtain⟨bp,bl⟩:=fS hs ag an an (fun k hk=>.inl hk) bm bb rfl;have j0:=l2 1000;have j1:=l2 1001;have j2:=l2 1002;have j0:cE F' (inp [.box b0 t0 d0,.box l 0 d1,.box p 0 d2]) (.box 93 [.opq k,.mpr 1001,.mpr 1002]) (.box b0 t0 d0):=j0;have j1:cE F' (inp [.box b0 t0 d0,.box l 0 d1,.box p 0 d2]) (.map D) (.box l 0 d1):=j1;have j2:cE F' (inp [.box b0 t0 d0,.box l 0 d1,.box p 0 d2]) (.map O) (.box p 0 d2):=j2;obtain⟨db,am⟩:=j0;simp only[ay,Rel] at am;obtain⟨w0,_,rfl,cb,m1,_,rfl,⟨y1,z1,m,rfl⟩,m2,_,rfl,⟨y2,z2,j,rfl⟩,rfl⟩:=am;have m:some (Own.box l 0 d1)=some (.box y1 0 z1):=m;have j:some (Own.box p 0 d2)=some (.box y2 0 z2):=j;injection m with m
   injection m with e21 _ e23
   injection j with j
   injection j with e31 _ e33
   subst e21 e23 e31 e33;have bo:=E9 (ba F') cb;subst bo;refine⟨v,F',[.box b0 t0 [.slice a d c,.map (some l),.map (some p)],.row (.slice a d c) t sz d x1,.box l 0 d1,.box p 0 d2],rfl,bp,bl,⟨[.box 93 [.rw 1001,.mpr 1002,.mpr 1003],.row t sz els,.map D,.map O],.bool b,rfl,Rj ⟨aw,?_⟩ ⟨rfl,rfl,hn,⟨hm,hv⟩,av.mono bb.le⟩ ⟨rfl,j1.2⟩ ⟨rfl,j2.2⟩,?_,?_,rfl,rfl⟩,rfl,?_⟩
   ·simp only[ay,Rel];exact⟨_,_,rfl,⟨a,c,_,_,d,_,rfl,rfl⟩,_,_,rfl,⟨_,_,rfl,rfl⟩,_,_,rfl,⟨_,_,rfl,rfl⟩,rfl⟩
   ·rw[Rel] at l3 ⊢;exact l3
   ·intro i g ty cs hi
    match i,hi with
    | 0,hi=>injection hi with hi;injection hi with h1 h2 h3;subst h1 h2;exact⟨_,rfl⟩
    | 1,hi=>cases hi
    | 2,hi=>injection hi with hi;injection hi with h1 h2 h3;subst h1 h2;exact⟨_,rfl⟩
    | 3,hi=>injection hi with hi;injection hi with h1 h2 h3;subst h1 h2;exact⟨_,rfl⟩
    | i+4,hi=>cases hi
   ·intro i o hi
    match i,hi with
    | 0,hi=>injection hi with hi;subst hi;exact⟨_,rfl,rfl,rfl⟩
    | 1,hi=>injection hi with hi;subst hi;exact⟨_,rfl,rfl,rfl,rfl⟩
    | 2,hi=>injection hi with hi;subst hi;exact⟨_,rfl,rfl,rfl⟩
    | 3,hi=>injection hi with hi;subst hi;exact⟨_,rfl,rfl,rfl⟩
    | i+4,hi=>cases hi
def vT:Code->Code
 | .seq a _=>a
 | _=>.skip
def fE:Code->Code
 | .seq _ a=>a
 | _=>.skip
def Wh:Code->Code
 | .block _ a=>a
 | .loop a=>a
 | _=>.skip
def cd1:Code->Code
 | .cond _ a _=>a
 | _=>.skip
noncomputable def Gw:Code:=Try.f58.body.getD .skip
noncomputable def k0:Code:=vT Gw
noncomputable def k1:Code:=vT (fE Gw)
noncomputable def k8:Code:=vT (fE (fE Gw))
noncomputable def Uy:Code:=Wh (Wh (fE (fE (fE Gw))))
noncomputable def k9:Code:=vT Uy
noncomputable def kc:Code:=vT (fE Uy)
noncomputable def Wi:Code:=Wh (vT (fE (fE Uy)))
noncomputable def k10:Code:=vT Wi
noncomputable def k11:Code:=vT (fE Wi)
noncomputable def k12:Code:=cd1 (fE (fE Wi))
noncomputable def k13:Code:=fE (fE (fE Uy))
theorem DQ:Try.f58.body=some (k0.seq (k1.seq (k8.seq (.block 2 (.loop (k9.seq (kc.seq ((Code.block 3 (k10.seq (k11.seq (.cond (.tmp 67) k12 .skip)))).seq k13)))))))):=by kernel_rfl
def Ov:cT:={n:=72,own:=[],frz:=[],ord:=[],pan:=[(6,2),(11,3)]}
def z0:ax:=(.reg [.op (some 8) (.mov (.t 0)) none,
  .op (some 9) (.mov (.t 0)) none,
  .op (some 10) (.mkmap) none,
  .op (some 11) (.mkmap) none,
  .op (some 12) (.nilck (.t 8)) none,
  .op (some 13) (.fieldA 1 (.t 12)) none,
  .op none (.store 1 (.t 13) (.t 10)) none,
  .op (some 14) (.nilck (.t 9)) none,
  .op (some 15) (.fieldA 2 (.t 14)) none,
  .op none (.store 1 (.t 15) (.t 11)) none])
theorem Wj:low Try.prog Ov k0=some z0:=by kernel_rfl
def z1:ax:=(.seq (.reg [.op (some 16) (.mov (.t 0)) none,
  .op (some 17) (.nilck (.t 16)) none,
  .op (some 18) (.fieldA 0 (.t 17)) none,
  .op (some 19) (.load false 1 (.t 18)) none,
  .op (some 20) (.len (.t 19)) none,
  .op (some 21) (.mov (.c (.int .i64 0))) none])
 (.block 0
 (.loop [22,23,24,5,25,26,27,28,29,30,31,32,33,6,34,35,36,37,38,39,40,41,42,43,44,45,46,47,48,49,50,51,52,53,54,21]
  (.seq (.reg [.op (some 22) (.bin .lss (.t 21) (.t 20)) none])
   (.seq (.cond (.t 22)
   .skip
   (.exit 0))
   (.seq (.block 1
   (.seq (.reg [.op (some 23) (.idxA 3 (.t 19) (.t 21)) none,
     .op (some 24) (.load true 3 (.t 23)) none,
     .op (some 5) (.alloc 32 [(.int .i64 0),(.int .i64 0),(.slice none 0 0)]) none,
     .op none (.store 3 (.t 5) (.t 24)) none])
    (.seq (.reg [.op (some 25) (.fieldA 1 (.t 5)) none,
     .op (some 26) (.load false 1 (.t 25)) none,
     .op (some 27) (.bin .eql (.t 26) (.c (.int .i64 0))) none,
     .op (some 28) (.mov (.t 27)) none,
     .op (some 29) (.fieldA 2 (.t 5)) (some (28,true)),
     .op (some 30) (.load false 1 (.t 29)) (some (28,true)),
     .op (some 31) (.len (.t 30)) (some (28,true)),
     .op (some 32) (.bin .eql (.t 31) (.c (.int .i64 0))) (some (28,true)),
     .op (some 33) (.pick (.t 28) (.t 32) (.c (.bool false))) none,
     .op (some 6) (.mov (.t 33)) none])
    (.seq (.reg [.op (some 34) (.fieldA 0 (.t 5)) none,
     .op (some 35) (.load false 1 (.t 34)) none,
     .op (some 36) (.bin .eql (.t 35) (.c (.int .i64 0))) none,
     .op (some 37) (.mov (.t 36)) none,
     .op (some 38) (.mov (.t 6)) (some (37,true)),
     .op (some 39) (.un .not (.t 38)) (some (37,true)),
     .op (some 40) (.pick (.t 37) (.t 39) (.c (.bool false))) none,
     .op (some 41) (.mov (.t 40)) none,
     .op (some 42) (.fieldA 0 (.t 5)) (some (41,false)),
     .op (some 43) (.load false 1 (.t 42)) (some (41,false)),
     .op (some 44) (.bin .neq (.t 43) (.c (.int .i64 0))) (some (41,false)),
     .op (some 45) (.mov (.t 44)) (some (41,false)),
     .op (some 46) (.mov (.t 0)) (some (45,true)),
     .op (some 47) (.load true 3 (.t 5)) (some (45,true)),
     .op (some 48) (.call 59 [(.t 46),(.t 47)]) (some (45,true)),
     .op (some 49) (.un .not (.t 48)) (some (45,true)),
     .op (some 50) (.pick (.t 45) (.t 49) (.c (.bool false))) (some (41,false)),
     .op (some 51) (.pick (.t 41) (.c (.bool true)) (.t 50)) none])
    (.cond (.t 51)
    (.reg [.op (some 52) (.build [(.int .i64 0)] [(0,1,(.c (.int .i64 1)))]) none,
      .op (some 53) (.mkif 98 (.t 52)) none,
      .pc none (.pan (.t 53)) none])
    .skip)))))
   (.reg [.op (some 54) (.bin .add (.t 21) (.c (.int .i64 1))) none,
    .op (some 21) (.mov (.t 54)) none])))))))
theorem Wk:low Try.prog Ov k1=some z1:=by kernel_rfl
def z8:ax:=(.reg [.op (some 55) (.mov (.t 0)) none,
  .op (some 56) (.nilck (.t 55)) none,
  .op (some 57) (.fieldA 0 (.t 56)) none,
  .op (some 58) (.load false 1 (.t 57)) none,
  .op (some 59) (.len (.t 58)) none,
  .op (some 60) (.mov (.c (.int .i64 0))) none])
theorem Wl:low Try.prog Ov k8=some z8:=by kernel_rfl
def z9:ax:=(.reg [.op (some 61) (.bin .lss (.t 60) (.t 59)) none])
theorem Wm:low Try.prog Ov k9=some z9:=by kernel_rfl
def zc:ax:=(.cond (.t 61)
 .skip
 (.exit 2))
theorem Wn:low Try.prog Ov kc=some zc:=by kernel_rfl
def Uz:ax:=(.reg [.op (some 62) (.mov (.t 60)) none,
  .op (some 7) (.mov (.t 62)) none])
theorem S6:low Try.prog Ov k10=some Uz:=by kernel_rfl
def S7:ax:=(.reg [.op (some 63) (.mov (.t 0)) none,
  .op (some 64) (.mov (.t 7)) none,
  .op (some 65) (.build [(.int .i64 0),(.int .i64 0),(.slice none 0 0)] [(0,1,(.c (.int .i64 9))),(1,1,(.t 64))]) none,
  .pc (some 66) (.call 64 [(.t 63),(.t 65)]) none,
  .op (some 67) (.bin .gtr (.t 66) (.c (.int .i64 8))) none])
theorem S8:low Try.prog Ov k11=some S7:=by kernel_rfl
def XF:ax:=(.reg [.op (some 71) (.bin .add (.t 60) (.c (.int .i64 1))) none,
  .op (some 60) (.mov (.t 71)) none])
theorem S9:low Try.prog Ov k13=some XF:=by kernel_rfl
section
variable {L:TL}{ρ:aK}
theorem PV (ks:List Nat) {f:Nat}{args a:List C}{K:TL->aK->C->Prop}{x:C}{Lin Lin' Lo:List TO}(h:fq P f a Lin' (aT Lo x)) (j:L.sub ks=some Lin) (e:T.aP ks=true)
  (d:(args.map fun c=>c.aaj.ren (bh ks 1000))=a) (l:Lin.map (TO.aad (C.ren (bh ks 1000)))=Lin') (b:ks.length=Lo.length)
  (k:K ((L.aae ks).puts ks (Lo.map (TO.aad (C.ren (aH ks))))) ρ (x.ren (aH ks)).slt):pV P f args L ρ K:=by
 subst d l;exact .inpl ks Lin _ j e h fun v Mo ⟨m,n⟩ _ _=>by subst m n;exact⟨b,k⟩
end
def HS (M0:TL) (e:Int) (len i:Nat):TK:=fun M τ=>M=M0/\τ 0=.own 1000 0/\τ 1=IC e/\τ 59=IC len/\τ 60=IC i
theorem DR {n:Int}{t:Ty}(h:t.kind=0):eF n t=(decide (t.id=0)&&decide (t.args.length=0)):=fo h
theorem yG {n:Int}{t:Ty}(h:¬t.kind=0):eF n t=ins n t:=fL h
def Ta (s:List Ty) (d:DM) (o:OM):TL:=[(10,.map (iU IC d)),(11,.map (iU C.bool o)),(1000,.box 93 [.rw 1001,.mpr 10,.mpr 11]),(1001,.row 32 3 (s.map aG))]
theorem Tc (s:List Ty) (e:Int) (PS:Value->Prop) (y:s.all (eF s.length)=false->PS (cB 1)) (r:s.length<=9223372036854775807) :
  evalTC P ⟨PS,[],none⟩ (.seq z0 (.seq z1 z8)) (fun _ _ _=>False) (fun _ _=>False) (fun M τ=>s.all (eF s.length)=true/\HS (Ta s [] []) e s.length 0 M τ) (cD (o4 s)) (jM 0 [.own 1000 0,IC e]):=by
 have o:∀t:Ty,fq P 59 [.own 1000 0,aR t] [.box 93 [.rw 1001,.mpr 1002,.mpr 1003],.row 32 3 (s.map aG),.map [],.map []] (aT [.box 93 [.rw 1001,.mpr 1002,.mpr 1003],.row 32 3 (s.map aG),.map [],.map []] (.bool (ins s.length t))):=fun t=>Ou fun k z=>SQ k s.length [] [] (by rw[z,v5]) r t;have h:(s.map aG).length=s.length:=v5 _;have u:=fun t=>@DR s.length t;have n:=fun t=>@yG s.length t;generalize eF (s.length:Int)=f at y u n ⊢;refine cA s.length 21 [19] () (fun _=>[.rw 1001]) (fun _=>[(10,.map []),(11,.map []),(1000,.box 93 [.rw 1001,.mpr 10,.mpr 11]),(1001,.row 32 3 (s.map aG))]) (fun k _=>(s.drop k).all f=s.all f) rfl (ak rfl) ⟨ak rfl,trivial⟩ ⟨.inl ⟨_,rfl,.inl ⟨rfl,rfl⟩⟩,.inl ⟨_,rfl,.inl ⟨rfl,rfl⟩⟩,.inl ⟨_,rfl,.inl ⟨rfl,rfl⟩⟩,.inl ⟨_,rfl,.inl ⟨rfl,rfl⟩⟩,trivial⟩ (fun _=>rfl) (fun _=>rfl) ?_;rintro k _ z b _ _ _;refine ah (fun a=>?_) (fun m=>?_)
 ·have a:k<s.length:=by rw[h] at a;omega
  refine aW a fun x hx aa j=>?_;have p:(x.args.map aG).length=x.args.length:=v5 _;have c:f x=false->PS (cB 1):=fun q=>y (KC j b q).symm;refine Bc.mk (by omega) (by rw[h];omega) ?_;refine Oe hx ?_;refine ah (fun h1=>ah (fun d=>?_) (fun d=>?_)) (fun h1=>ah (fun d=>?_) (fun d=>?_))
  ·have w:f x=decide (x.args.length=0):=by rw[u x d,aaQ h1,aaS]
   refine aS (fun v=>?_) (fun v=>?_)
   ·exact o7 rfl (c (by rw[w];exact aaP (by rw[p] at v;omega)))
   refine aS (fun q=>o5 d q) (fun _=>?_);refine Fit.aag (by omega) (by omega) ?_;exact⟨(k+1,()),⟨a,nP j b (by rw[w];exact aaQ (by rw[p] at v;omega))⟩,⟨bU,ak rfl,trivial⟩,⟨.inl ⟨_,rfl,.inl ⟨rfl,rfl⟩⟩,.inl ⟨_,rfl,.inl ⟨rfl,rfl⟩⟩,.inl ⟨_,rfl,.inl ⟨rfl,rfl⟩⟩,.inl ⟨_,rfl,.inl ⟨rfl,rfl⟩⟩,trivial⟩,bX a⟩
  ·refine aS (fun _=>?_) (fun q=>o5 q d);refine PV [1000,1001,10,11] (o x) rfl rfl rfl rfl rfl ?_;refine aq (fun l=>?_) (fun l=>?_)
   ·exact o7 rfl (c (by rw[n x d];simpa using l))
   refine Fit.aag (by omega) (by omega) ?_;exact⟨(k+1,()),⟨a,nP j b (by rw[n x d];simpa using l)⟩,⟨bU,ak rfl,trivial⟩,⟨.inl ⟨_,rfl,.inl ⟨rfl,rfl⟩⟩,.inl ⟨_,rfl,.inl ⟨rfl,rfl⟩⟩,.inl ⟨_,rfl,.inl ⟨rfl,rfl⟩⟩,.inl ⟨_,rfl,.inl ⟨rfl,rfl⟩⟩,trivial⟩,bX a⟩
  ·exact o7 rfl (c (by rw[u x d,aaP h1,aaV]))
  ·refine aS (fun _=>?_) (fun q=>o5 q d);refine PV [1000,1001,10,11] (o x) rfl rfl rfl rfl rfl ?_;refine aq (fun l=>?_) (fun l=>?_)
   ·exact o7 rfl (c (by rw[n x d];simpa using l))
   refine Fit.aag (by omega) (by omega) ?_;exact⟨(k+1,()),⟨a,nP j b (by rw[n x d];simpa using l)⟩,⟨bU,ak rfl,trivial⟩,⟨.inl ⟨_,rfl,.inl ⟨rfl,rfl⟩⟩,.inl ⟨_,rfl,.inl ⟨rfl,rfl⟩⟩,.inl ⟨_,rfl,.inl ⟨rfl,rfl⟩⟩,.inl ⟨_,rfl,.inl ⟨rfl,rfl⟩⟩,trivial⟩,bX a⟩
 ·have m:¬k<s.length:=by rw[h] at m;omega
  exact⟨(Gj m b).symm,rfl,rfl,rfl,vv IC (by rw[h]),rfl⟩
def Td (s:List Ty) (d:DM) (o:OM):TL:=[(10,.map (iU IC d)),(11,.map (iU C.bool o)),(1000,.box 93 [.sl (s.map aG),.mpr 10,.mpr 11])]
theorem Te (s:List Ty) (e:Int) (PS:Value->Prop) (w:s.all (eF s.length)=false->PS (cB 1)) (y:s.length<=9223372036854775807) :
  evalTC P ⟨PS,[],none⟩ (.seq z0 (.seq z1 z8)) (fun _ _ _=>False) (fun _ _=>False) (fun M τ=>s.all (eF s.length)=true/\HS (Td s [] []) e s.length 0 M τ) (cD (um s)) (jM 0 [.own 1000 0,IC e]):=by
 have o:=fun t=>KF s [] [] t;have j:(s.map aG).length=s.length:=v5 _;have r:=fun t=>@DR s.length t;have n:=fun t=>@yG s.length t;generalize eF (s.length:Int)=f at w r n ⊢;refine cA s.length 21 [] () (fun _=>[]) (fun _=>[(10,.map []),(11,.map []),(1000,.box 93 [.sl (s.map aG),.mpr 10,.mpr 11])]) (fun k _=>(s.drop k).all f=s.all f) rfl (ak rfl) trivial ⟨.inl ⟨_,rfl,.inl ⟨rfl,rfl⟩⟩,.inl ⟨_,rfl,.inl ⟨rfl,rfl⟩⟩,.inl ⟨_,rfl,.inl ⟨rfl,rfl⟩⟩,trivial⟩ (fun _=>rfl) (fun _=>rfl) ?_;rintro k _ hk b _ _ _;refine ah (fun a=>?_) (fun m=>?_)
 ·have a:k<s.length:=by rw[j] at a;omega
  refine aW a fun x hx z h=>?_;have p:(x.args.map aG).length=x.args.length:=v5 _;have c:f x=false->PS (cB 1):=fun q=>w (KC h b q).symm;refine cH hx ?_;refine ah (fun h1=>ah (fun d=>?_) (fun d=>?_)) (fun h1=>ah (fun d=>?_) (fun d=>?_))
  ·have v:f x=decide (x.args.length=0):=by rw[r x d,aaQ h1,aaS]
   refine aS (fun u=>?_) (fun u=>?_)
   ·exact o7 rfl (c (by rw[v];exact aaP (by rw[p] at u;omega)))
   refine aS (fun q=>o5 d q) (fun _=>?_);refine Fit.aag (by omega) (by omega) ?_;exact⟨(k+1,()),⟨a,nP h b (by rw[v];exact aaQ (by rw[p] at u;omega))⟩,⟨bU,trivial⟩,⟨.inl ⟨_,rfl,.inl ⟨rfl,rfl⟩⟩,.inl ⟨_,rfl,.inl ⟨rfl,rfl⟩⟩,.inl ⟨_,rfl,.inl ⟨rfl,rfl⟩⟩,trivial⟩,bX a⟩
  ·refine aS (fun _=>?_) (fun q=>o5 q d);refine callO [1000,10,11] [1000,10,11] (o x) rfl rfl rfl rfl rfl fun _ _=>?_;refine aq (fun l=>?_) (fun l=>?_)
   ·exact o7 rfl (c (by rw[n x d];simpa using l))
   refine Fit.aag (by omega) (by omega) ?_;exact⟨(k+1,()),⟨a,nP h b (by rw[n x d];simpa using l)⟩,⟨bU,trivial⟩,⟨.inl ⟨_,rfl,.inl ⟨rfl,rfl⟩⟩,.inl ⟨_,rfl,.inl ⟨rfl,rfl⟩⟩,.inl ⟨_,rfl,.inl ⟨rfl,rfl⟩⟩,trivial⟩,bX a⟩
  ·exact o7 rfl (c (by rw[r x d,aaP h1,aaV]))
  ·refine aS (fun _=>?_) (fun q=>o5 q d);refine callO [1000,10,11] [1000,10,11] (o x) rfl rfl rfl rfl rfl fun _ _=>?_;refine aq (fun l=>?_) (fun l=>?_)
   ·exact o7 rfl (c (by rw[n x d];simpa using l))
   refine Fit.aag (by omega) (by omega) ?_;exact⟨(k+1,()),⟨a,nP h b (by rw[n x d];simpa using l)⟩,⟨bU,trivial⟩,⟨.inl ⟨_,rfl,.inl ⟨rfl,rfl⟩⟩,.inl ⟨_,rfl,.inl ⟨rfl,rfl⟩⟩,.inl ⟨_,rfl,.inl ⟨rfl,rfl⟩⟩,trivial⟩,bX a⟩
 ·have m:¬k<s.length:=by rw[j] at m;omega
  exact⟨(Gj m b).symm,rfl,rfl,rfl,vv IC (by rw[j]),rfl⟩
theorem lF {a b:Nat}(h:¬a=b):Nat.beq a b=false:=by
 cases c:Nat.beq a b with
 | true=>exact o5 (aaO c) h
 | false=>rfl
def MS (G:Nat->Option (Nat×TypeId)) (F0:au) (Li:List Own) (w0:World) (K:TK) (a:Act) (w:World):Prop :=
 ∃F L ρ M τ,St F L w/\aA L ρ a/\TS G F L ρ M τ/\a.tmps.size=72/\Step F0 (inp Li) w0 F L w/\K M τ
section
variable {G:Nat->Option (Nat×TypeId)}{F0:au}{Li:List Own}{w0:World}
theorem MS.piece {c:Code}{u:ax}(hl:low Try.prog Ov c=some u) (t:fK u=[]) {PS:nD}{E:Nat->TK}{N K:TK}{a:Act}{w:World}(h:MS G F0 Li w0 K a w)
  (hK:∀M τ,K M τ->evalTC P PS u E (fun _ _=>False) N M τ) {Q:Exit->Act->World->Prop}
  (hN:∀a' w',a'.defers=a.defers->MS G F0 Li w0 N a' w'->Q .normal a' w')
  (hE:∀j a' w',a'.defers=a.defers->MS G F0 Li w0 (E j) a' w'->Q (.exit j) a' w')
  (hP:∀v p a' w',rD v p->a'.defers=a.defers->PS.ps v->(∃F' L',St F' L' w'/\Step F0 (inp Li) w0 F' L' w'/\Kp G L')->Q (.panic p) a' w'):c.wp P Q a w:=by
 obtain⟨F,L,ρ,M,τ,g1,g2,g3,y,r,o⟩:=h;refine wp_mono (fu c hl (fun k o=>by rw[t] at o;cases o) g1 g2 g3 y (hK M τ o)) ?_;intro e a' w' d;cases e with
 | normal =>
  obtain⟨F',L',ρ',k1,f,n,m,q,k6,M',b,s,k8⟩:=d;exact hN a' w' m ⟨F',L',ρ',M',b,k1,f,s,n,r.trans q,k8⟩
 | exit j =>
  obtain⟨F',L',ρ',k1,f,n,m,q,k6,M',b,s,k8⟩:=d;exact hE j a' w' m ⟨F',L',ρ',M',b,k1,f,s,n,r.trans q,k8⟩
 | ret=>obtain⟨F',L',ρ',_,_,_,_,_,_,M',b,_,h⟩:=d;exact h.elim
 | goto l=>exact d.elim
 | panic p =>
  obtain⟨v,x,F',L',k1,f,n,m,q,kp,z,_⟩:=d;exact hP v p a' w' x m z ⟨F',L',k1,r.trans f,kp⟩
 | outgrown=>exact d.elim
def hE (e:Int) (len i:Nat):aK:=bg (some 0) (.own 1000 0) (bg (some 1) (IC e) (bg (some 59) (IC len) (bg (some 60) (IC i) fun _=>.any)))
theorem Ow {F:au}{L:Loc}{ρ:Env}{τ:aK}{e:Int}{len i:Nat}(h:∀j,aL F L (τ j) (ρ j)) (h0:τ 0=.own 1000 0) (h1:τ 1=IC e) (a:τ 59=IC len) (b:τ 60=IC i):∀j,aL F L (hE e len i j) (ρ j):=by
 intro j
 by_cases f:j=0
 ·subst f;have:=h 0;rw[h0] at this;exact this
 by_cases d:j=1
 ·subst d;have:=h 1;rw[h1] at this;exact this
 by_cases c:j=59
 ·subst c;have:=h 59;rw[a] at this;exact this
 by_cases k:j=60
 ·subst k;have:=h 60;rw[b] at this;exact this
 have m:Nat.beq j 0=false:=lF f;have n:Nat.beq j 1=false:=lF d;have l:Nat.beq j 59=false:=lF c;have o:Nat.beq j 60=false:=lF k;simp only[hE,bg,m,n,l,o];trivial
theorem MS.weak {K:TK}{a:Act}{w:World}{M0:TL}{e:Int}{len i:Nat}(h:MS G F0 Li w0 K a w) (k:∀M τ,K M τ->HS M0 e len i M τ):MS G F0 Li w0 (fun M τ=>M=M0/\τ=hE e len i) a w:=by
 obtain⟨F,L,ρ,M,τ,n,o,b,d,c,p⟩:=h;obtain⟨h1,f,l,m,j⟩:=k M τ p;exact⟨F,L,ρ,M,hE e len i,n,o,⟨b.tl,Ow b.env f l m j,b.kp,b.glob⟩,d,c,h1,rfl⟩
theorem MS.mono {K K':TK}{a:Act}{w:World}(h:MS G F0 Li w0 K a w) (c:∀M τ,K M τ->K' M τ):MS G F0 Li w0 K' a w:=by
 obtain⟨F,L,ρ,M,τ,f,d,b,k,j,e⟩:=h;exact⟨F,L,ρ,M,τ,f,d,b,k,j,c M τ e⟩
theorem MS.int {K:TK}{a:Act}{w:World}{j:Nat}{x:Int}(h:MS G F0 Li w0 K a w) (b:∀M τ,K M τ->τ j=IC x):a.tmps.getD j undef=.int .i64 x:=by
 obtain⟨F,L,ρ,M,τ,l,d,c,k,f,e⟩:=h;have:=c.env j;rw[b M τ e] at this;simp only[aL,Rel] at this;obtain⟨v,h1,rfl,_⟩:=this;rw[d.eq j,h1];rfl
theorem MS.bool {K:TK}{a:Act}{w:World}{j:Nat}{x:Bool}(h:MS G F0 Li w0 K a w) (b:∀M τ,K M τ->τ j=.bool x):a.tmps.getD j undef=.bool x:=by
 obtain⟨F,L,ρ,M,τ,l,d,c,k,f,e⟩:=h;have:=c.env j;rw[b M τ e] at this;simp only[aL,Rel] at this;obtain⟨v,h1,rfl⟩:=this;rw[d.eq j,h1];rfl
theorem MS.wr {M0:TL}{e:Int}{len i:Nat}{a:Act}{w:World}{d:Nat}{v:Value}(h:MS G F0 Li w0 (fun M τ=>M=M0/\τ=hE e len i) a w) (y:d<72) (h0:d≠0) (h1:d≠1) (o:d≠59) (q:d≠60) :
  MS G F0 Li w0 (fun M τ=>M=M0/\τ=hE e len i) (a.put (some d) v) w:=by
 obtain⟨F,L,ρ,M,τ,t,u,c,n,m,rfl,rfl⟩:=h;refine⟨F,L,Fr.put (some d) (.v v) ρ,M,_,t,u.put (d:=some d) (x:=.v v) (fun k hk=>by injection hk with hk;subst hk;omega) rfl cq eI (fun k g ty cs e=>⟨cs,e⟩),⟨c.tl,fun j=>?_,c.kp,c.glob⟩,by rw[jv];exact n,m,rfl,rfl⟩
 by_cases f:j=d
 ·subst f;have p:Nat.beq j 0=false:=lF h0;have r:Nat.beq j 1=false:=lF h1;have l:Nat.beq j 59=false:=lF o;have s:Nat.beq j 60=false:=lF q;simp only[hE,bg,p,r,l,s];trivial
 ·have:Fr.put (some d) (.v v) ρ j=ρ j:=by
   have b:Nat.beq j d=false:=lF f;simp only[Fr.put,b]
  rw[this];exact c.env j
theorem MS.defers {K:TK}{a:Act}{w:World}{ds:List Deferred}(h:MS G F0 Li w0 K a w):MS G F0 Li w0 K {a with defers:=ds} w:=by
 obtain⟨F,L,ρ,M,τ,e,b,c,j,f,d⟩:=h;exact⟨F,L,ρ,M,τ,e,⟨b.eq,b.own,b.el⟩,c,j,f,d⟩
theorem Rl:k12=.region 12 #[{dst:=some 68,op:=.move (.tmp 1),type:=45,pos:="unify.go:115",after:=#[],guard:=none},
  {dst:=some 69,op:=.build 98 #[(0,.tmp 68)],type:=98,pos:="unify.go:115",after:=#[{on:=0,ground:=Ground.data}],guard:=none},
  {dst:=some 70,op:=.makeInterface 98 (.tmp 69),type:=20,pos:="unify.go:115",after:=#[{on:=1,ground:=Ground.data}],guard:=none},
  {dst:=none,op:=.defer {callee:=.builtin .panic,args:=#[.tmp 70],argTypes:=#[20]},type:=0,pos:="unify.go:115",after:=#[{on:=2,ground:=Ground.data}],guard:=none}] false:=by kernel_rfl
theorem Wo {a:Act}{w:World}{e:Int}{Q:Exit->Act->World->Prop}(d:a.tmps.size=72) (h1:a.tmps.getD 1 undef=.int .i64 e)
  (h:∀x y z,Q .normal {(((a.put (some 68) x).put (some 69) y).put (some 70) z) with defers:=sA (cB e)::a.defers} w):k12.wp P Q a w:=by
 rw[Rl];apply wp_region;have b:a.tmps[1]?.getD undef=.int .i64 e:=by rw[<-aa4];exact h1
 have c:∀q:1<a.tmps.size,a.tmps[1]'q=.int .i64 e:=fun q=>by rw[Array.getElem?_eq_getElem q] at b;exact b
 simp[wpOps,go_sem,Region.wanted,d,b,c,Array.getElem?_setIfInBounds];exact .inl (.inl (.inl (.inl (h (.int .i64 e) (.agg #[.int .i64 e]) (.iface 98 (.agg #[.int .i64 e]))))))
end
theorem yH {s:List Ty}{n:Nat}:∀{N:Nat}{y:Option (Bool×DM×OM)},dw s n N=some y->∀i≤N,∃x,dw s n i=some x
 | 0,y,h,i,hi=>⟨y,by rw[show i=0 by omega];exact h⟩
 | N+1,y,h,i,hi=>by
  by_cases e:i=N+1
  ·exact⟨y,by rw[e];exact h⟩
  ·rw[dw] at h;cases h1:dw s n N with
   | none=>simp only[h1] at h;cases h
   | some x=>exact yH h1 i (by omega)
theorem yI {s:List Ty}{n i:Nat}(h:dw s n i=some none):∀k,dw s n (i+k)=some none
 | 0=>h
 | k+1=>by rw[<-Nat.add_assoc,dw,yI h k]
theorem Fb {s:List Ty}{n i:Nat}{b:Bool}{d:DM}{o:OM}{y:Option (Bool×DM×OM)}(h:dw s n i=some (some (b,d,o))) (a:dw s n (i+1)=some y) :
  ∃c,bw s n (vr i) d o=some c/\(c=none->y=none)/\∀k f o',c=some (k,f,o')->y=some (b||decide (k>8),f,o'):=by
 rw[dw] at a;simp only[h] at a;cases e:bw s n (vr i) d o with
 | none=>simp only[e] at a;cases a
 | some c =>
  refine⟨c,rfl,?_,?_⟩
  ·rintro rfl;simp only[e] at a;injection a with a;exact a.symm
  ·rintro k f o' rfl;simp only[e] at a;injection a with a;exact a.symm
end Go.Fr.Try
