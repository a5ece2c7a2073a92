/- Part of the proofs of the statements of this seat. -/
import Derived.Test.YthfdbepkalpplaaUnG2G
import Derived.Defers
set_option maxRecDepth 10000
set_option linter.unusedVariables false
set_option linter.unusedSimpArgs false
namespace Go.Fr.Try
open Go Go.RowKit Go.Proofs Go.Fr Go.Fr.T Go.Fr.Api
def IA (o:OM):Nat->Nat
 | 0=>0
 | i+1=>IA o i+(if bg o i=some true then 0 else 1)
def Qr (o o':OM):Prop:=∀i,bg o i=some true->bg o' i=some true
theorem Fp {o o':OM}(h:Qr o o'):∀n,IA o' n<=IA o n
 | 0=>aa3 _
 | n+1=>by
  rw[IA,IA];have:=Fp h n
  by_cases e:bg o n=some true
  ·rw[o5 e,o5 (h _ e)];omega
  ·rw[q9 e];split<;>omega
theorem Lp {o o':OM}(h:Qr o o') {i:Nat}(h1:¬bg o i=some true) (a:bg o' i=some true):∀n,i<n->IA o' n<IA o n
 | 0,hi=>vv hi (abB _)
 | n+1,hi=>by
  rw[IA,IA]
  by_cases e:i=n
  ·subst e;rw[q9 h1,o5 a];have:=Fp h i;omega
  ·have:=Lp h h1 a n (by omega)
   by_cases e:bg o n=some true
   ·rw[o5 e,o5 (h _ e)];omega
   ·rw[q9 e];split<;>omega
theorem Qr.set (o:OM) (i:Int):Qr o (dX o i true):=fun j h=>by
 rw[ij];split
 ·rfl
 ·exact h
def GK (s:List Ty) (t:Ty) (d:DM) (o:OM):Prop:=∃n r,bE s n t d o=some r/\∀k a o',r=some (k,a,o')->Qr o o'
theorem vH {s:List Ty}{K:Nat}:∀(l:List Ty),(∀x∈l,∀d o,IA o s.length<K->GK s x d o)->∀k d o,IA o s.length<K->∃n r,dW (bE s n) l k d o=some r/\∀k a o',r=some (k,a,o')->Qr o o'
 | [],_,k,d,o,_=>⟨0,_,rfl,fun f a o' e=>by injection e with e;injection e with _ e;injection e with _ e;subst e;exact fun i h=>h⟩
 | x::l,h,k,d,o,u=>by
  obtain⟨n,r,h1,v⟩:=h x (by simp) d o u;cases r with
  | none=>exact⟨n,none,by rw[dW,h1],fun k a o' e=>by cases e⟩
  | some q =>
   obtain⟨f,a,o'⟩:=q;have c:=v f a o' rfl;obtain⟨m,r,j,y⟩:=vH l (fun x w=>h x (by simp[w])) (if f>k then f else k) a o' (by have:=Fp c s.length;omega);refine⟨max n m,r,?_,fun k p t e i hi=>y k p t e i (c i hi)⟩;rw[dW,gI (Nat.le_max_left n m) h1];exact sB (fun x d o b hb=>gI (Nat.le_max_right n m) hb) j
theorem Bb {n:Nat}{s:List Ty}{t x:Ty}{d:DM}{o:OM}(he:(if t.kind=9 then bQ s t else some (.mk 0 0 []))=some x) (a:x.kind=0):bE s (n+1) t d o=(match dW (bE s n) t.args 0 d o with
    | some (some (k,b,o'))=>some (some (zx (k+1),b,o'))
    | some none=>some none
    | none=>none):=by
 rw[bE,he];simp only;rw[q9 (fun q=>q a)];rfl
theorem IB {n:Nat}{s:List Ty}{t x:Ty}{d:DM}{o:OM}(b:t.kind=9) (he:bQ s t=some x) (a:¬x.kind=0) (f:bg d t.id=none) (c:¬bg o t.id=some true) {r:Option (Int×DM×OM)}(h:bE s n x d (dX o t.id true)=some r):bE s (n+1) t d o=some (r.map fun p=>(p.1,dX p.2.1 t.id p.1,p.2.2)):=by
 rw[bE,o5 b,he];simp only;rw[o5 a,f];simp only;cases e:bg o t.id with
 | none =>
  rw[h];cases r<;>rfl
 | some u =>
  cases u with
  | true=>exact vv e c
  | false =>
   rw[h];cases r<;>rfl
theorem yK {s:List Ty}(y:En s):∀(K:Nat) (t:Ty),ins s.length t=true->∀d o,IA o s.length<K->GK s t d o
 | 0=>fun t _ d o h=>vv h (abB _)
 | K+1=>dL (p:=fun t=>ins s.length t=true->∀d o,IA o s.length<K+1->GK s t d o) fun t ih m d o l=>by
  have a:∀x,(if t.kind=9 then bQ s t else some (.mk 0 0 []))=some x->x.kind=0->GK s t d o:=fun x he b=>by
   obtain⟨n,r,h1,q⟩:=vH t.args (fun x u d o l=>ih x u (eT m x u) d o l) 0 d o l;refine⟨n+1,r.map fun p=>(zx (p.1+1),p.2.1,p.2.2),?_,fun k v o' e=>?_⟩
   ·rw[Bb he b,h1];cases r with
    | none=>rfl
    | some p=>rfl
   ·cases r with
    | none=>cases e
    | some p =>
     obtain⟨k1,d1,o1⟩:=p;simp only[abq] at e;injection e with e
     injection e with _ e
     injection e with _ e
     subst e;exact q _ _ _ rfl
  by_cases f:t.kind=9
  ·obtain⟨x,he,u⟩:=yI m f
   by_cases b:x.kind=0
   ·exact a x (by rw[o5 f];exact he) b
   obtain⟨i,hi,_,j⟩:=yH m f;have z:(if t.kind=9 then bQ s t else some (.mk 0 0 []))=some x:=by rw[o5 f];exact he
   cases w:bg d t.id with
   | some k=>exact⟨1,_,by rw[bE,z];simp only;rw[o5 b,w],fun k v o' e=>by injection e with e;injection e with _ e;injection e with _ e;subst e;exact fun i h=>h⟩
   | none =>
    by_cases c:bg o t.id=some true
    ·exact⟨1,none,by rw[bE,z];simp only;rw[o5 b,w,c],fun k v o' e=>by cases e⟩
    ·have ab:=Lp (Qr.set o t.id) (i:=i) (by rw[<-j];exact c) (by rw[ij,o5 j.symm]) s.length hi;obtain⟨n,r,h1,q⟩:=yK y K x (y.elem he b) d (dX o t.id true) (by omega);refine⟨n+1,r.map fun p=>(p.1,dX p.2.1 t.id p.1,p.2.2),?_,fun k v o' e=>?_⟩
     ·exact IB f he b w c h1
     ·cases r with
      | none=>cases e
      | some p =>
       obtain⟨k1,d1,o1⟩:=p;simp only[abq] at e;injection e with e
       injection e with _ e
       injection e with _ e
       subst e;exact fun i hi=>q _ _ _ rfl i (Qr.set o t.id i hi)
  ·exact a _ (by rw[q9 f]) rfl
theorem DQ {s:List Ty}(a:En s) {t:Ty}(b:ins s.length t=true) (d:DM) (o:OM):∃n r,bE s n t d o=some r:=by
 obtain⟨n,r,h,_⟩:=yK a _ t b d o (abU _);exact⟨n,r,h⟩
theorem Bc {s:List Ty}(h:s.all (eG s.length)=true):En s:=fun x a=>by
 have:=(aa1.1 h) x a;unfold eG at this;split at this
 ·rename_i b;exact .inl b
 ·exact .inr this
theorem vI {s:List Ty}(a:En s):∀i,i<=s.length->∃n r,dw s n i=some r
 | 0,_=>⟨0,_,rfl⟩
 | i+1,hi=>by
  obtain⟨n,r,h1⟩:=vI a i (by omega);cases r with
  | none=>exact⟨n,none,by rw[dw,h1]⟩
  | some p =>
   obtain⟨b,d,o⟩:=p;obtain⟨m,r,c⟩:=DQ a (sG (show i<s.length by omega)) d o;cases r with
   | none=>exact⟨max n m,none,by rw[dw,oS (Nat.le_max_left n m) h1];simp only;rw[gI (Nat.le_max_right n m) c]⟩
   | some q=>exact⟨max n m,some (b||decide (q.1>8),q.2.1,q.2.2),by rw[dw,oS (Nat.le_max_left n m) h1];simp only;rw[gI (Nat.le_max_right n m) c]⟩
theorem vJ (s:List Ty):∃n r,bF s n=some r:=by
 cases a:s.all (eG s.length) with
 | false=>exact⟨0,none,by unfold bF;rw[q9 (by rw[a];exact abd)]⟩
 | true =>
  obtain⟨n,r,h⟩:=vI (Bc a) s.length (aa3 _);cases r with
  | none=>exact⟨n,none,by unfold bF;rw[o5 a,h]⟩
  | some p =>
   obtain⟨b,d,o⟩:=p;cases b with
   | true=>exact⟨n,none,by unfold bF;rw[o5 a,h];rfl⟩
   | false=>exact⟨n,some (d,o),by unfold bF;rw[o5 a,h];rfl⟩
def Wr (s:List Ty) (i:Int):Prop:=∀t:Ty,t.kind=9->t.id=i->jQ s t
def DR (s:List Ty) (d:DM):Prop:=∀i,bg d i≠none->Wr s i
theorem Bd {s:List Ty}{n:Nat}:∀{l:List Ty},(∀x∈l,∀d o k a o',bE s n x d o=some (some (k,a,o'))->DR s d->jQ s x/\DR s a)->∀{k:Int}{d:DM}{o:OM}{e:Int}{a:DM}{o':OM},dW (bE s n) l k d o=some (some (e,a,o'))->DR s d->(∀x∈l,jQ s x)/\DR s a
 | [],_,k,d,o,e,a,o',h,f=>by
  rw[dW] at h;injection h with h
  injection h with h
  injection h with _ h
  injection h with h _
  subst h;exact⟨fun x c=>(by cases c),f⟩
 | x::l,c,k,d,o,e,a,o',h,f=>by
  rw[dW] at h;cases h1:bE s n x d o with
  | none=>rw[h1] at h;cases h
  | some r =>
   rw[h1] at h;cases r with
   | none=>cases h
   | some p =>
    obtain⟨k1,t,u⟩:=p;obtain⟨m,j⟩:=c x (by simp) d o k1 t u h1 f;obtain⟨q,v⟩:=Bd (fun y b=>c y (by simp[b])) h j;refine⟨fun y b=>?_,v⟩;rcases aaW.1 b with rfl | b
    ·exact m
    ·exact q y b
theorem GL {s:List Ty}{t u:Ty}(h:u.id=t.id):bQ s u=bQ s t:=by unfold bQ;rw[h]
theorem yL {s:List Ty}:∀{n:Nat}{t:Ty}{d:DM}{o:OM}{k:Int}{a:DM}{o':OM},bE s n t d o=some (some (k,a,o'))->DR s d->jQ s t/\DR s a
 | 0,t,d,o,k,a,o',h,_=>by cases h
 | n+1,t,d,o,k,a,o',h,m=>by
  rw[bE] at h;cases he:(if t.kind=9 then bQ s t else some (.mk 0 0 [])) with
  | none=>simp only[he] at h;cases h
  | some x =>
   simp only[he] at h
   by_cases l:x.kind=0
   ·rw[q9 (fun q=>q l)] at h;cases hl:dW (bE s n) t.args 0 d o with
    | none=>simp only[hl] at h;cases h
    | some r =>
     simp only[hl] at h;cases r with
     | none=>cases h
     | some p =>
      obtain⟨k1,c,w⟩:=p;injection h with h
      injection h with h
      injection h with _ h
      injection h with h _
      subst h;obtain⟨v,y⟩:=Bd (fun x _ d o k a o' h m=>yL h m) hl m;refine⟨?_,y⟩
      by_cases b:t.kind=9
      ·rw[o5 b] at he;exact .stop b he l v
      ·exact .arg b v
   ·rw[o5 l] at h;have b:t.kind=9:=by
     by_cases b:t.kind=9
     ·exact b
     ·rw[q9 b] at he;injection he with he
      exact vv (by rw[<-he];rfl) l
    rw[o5 b] at he;cases j:bg d t.id with
    | some k0 =>
     simp only[j] at h;injection h with h
     injection h with h
     injection h with _ h
     injection h with h _
     subst h;exact⟨m t.id (by rw[j];simp) t b rfl,m⟩
    | none =>
     simp only[j] at h;have key:∀k1 c w,bE s n x d (dX o t.id true)=some (some (k1,c,w))->jQ s t/\DR s (dX c t.id k1):=by
      intro k1 c w hx;obtain⟨v,y⟩:=yL hx m;refine⟨.step b he l v,fun i hi=>?_⟩;rw[ij] at hi
      by_cases e:i=t.id
      ·intro u hu z;exact .step hu ((GL (z.trans e)).trans he) l v
      ·rw[q9 e] at hi;exact y i hi
     have fin:∀X:Option (Option (Int×DM×OM)),(match X with
       | some (some (k,a,o'))=>some (some (k,dX a t.id k,o'))
       | some none=>some none
       | none=>none)=some (some (k,a,o'))->∃c,X=some (some (k,c,o'))/\a=dX c t.id k:=by
      intro X f;cases X with
      | none=>cases f
      | some q =>
       cases q with
       | none=>cases f
       | some p =>
        obtain⟨k1,c,w⟩:=p;injection f with f
        injection f with f
        injection f with e1 f
        injection f with e2 e3
        subst e1 e3;exact⟨c,rfl,e2.symm⟩
     have ho:¬bg o t.id=some true:=fun q=>by rw[q] at h;cases h
     have h:(match bE s n x d (dX o t.id true) with
       | some (some (k,a,o'))=>some (some (k,dX a t.id k,o'))
       | some none=>some none
       | none=>none)=some (some (k,a,o')):=by
      cases j:bg o t.id with
      | none=>rw[j] at h;exact h
      | some u =>
       cases u with
       | true=>exact vv j ho
       | false=>rw[j] at h;exact h
     obtain⟨c,h1,h2⟩:=fin _ h;rw[h2];exact key _ _ _ h1
theorem Be {s:List Ty}{n:Nat}:∀{i:Nat}{b:Bool}{d:DM}{o:OM},dw s n i=some (some (b,d,o))->(∀j<i,jQ s (vr j))/\DR s d
 | 0,b,d,o,h=>by
  rw[dw] at h;injection h with h
  injection h with h
  injection h with _ h
  injection h with h _
  subst h;exact⟨fun j c=>vv c (abB _),fun i hi=>vv rfl hi⟩
 | i+1,b,d,o,h=>by
  rw[dw] at h;cases h1:dw s n i with
  | none=>rw[h1] at h;cases h
  | some r =>
   rw[h1] at h;cases r with
   | none=>cases h
   | some p =>
    obtain⟨w,m,q⟩:=p;obtain⟨k,f⟩:=Be h1;simp only at h;cases a:bE s n (vr i) m q with
    | none=>rw[a] at h;cases h
    | some r =>
     rw[a] at h;cases r with
     | none=>cases h
     | some p =>
      obtain⟨x,u,v⟩:=p;injection h with h
      injection h with h
      injection h with _ h
      injection h with h _
      subst h;obtain⟨l,t⟩:=yL a f;refine⟨fun j c=>?_,t⟩
      by_cases e:j=i
      ·rw[e];exact l
      ·exact k j (by omega)
theorem oV {s:List Ty}{n:Nat}{d:DM}{o:OM}(h:bF s n=some (some (d,o))):Good s:=by
 unfold bF at h;split at h
 ·rename_i c;cases a:dw s n s.length with
  | none=>simp only[a] at h;cases h
  | some r =>
   cases r with
   | none=>simp only[a] at h;cases h
   | some p =>
    obtain⟨b,d,o⟩:=p;exact⟨Bc c,(Be a).1⟩
 ·cases h
theorem DS {s:List Ty}(g:Good s):∃n r,jM s n=some r:=by
 have h1:∀i∈List.range s.length,∃n r,aO s n (vr i)=some r:=fun i hi=>(g.fin i (List.mem_range.1 hi)).front;have j:∀i∈List.range s.length,∃n r,oP s n (vr i)=some r:=fun i hi=>(g.fin i (List.mem_range.1 hi)).ap;obtain⟨b,h1⟩:=nT (f:=fun n i=>aO s n (vr i)) dA h1;obtain⟨c,j⟩:=nT (f:=fun n i=>oP s n (vr i)) mQ j;have l:∀i,i<=s.length->∀d,∃r,iQ s b i d=some r:=by
  intro i
  induction i with
  | zero=>exact fun _ d=>⟨d,rfl⟩
  | succ i e =>
   intro hi d;obtain⟨t,h⟩:=h1 i (List.mem_range.2 (by omega));obtain⟨r,a⟩:=e (by omega) (if t.kind=9 then dX d t.id i else d);exact⟨r,by rw[iQ,h];exact a⟩
 obtain⟨m,o⟩:=l s.length (aa3 _) [];have k:∀i,i<=s.length->∃r,pB s c m i=some r:=by
  intro i
  induction i with
  | zero=>exact fun _=>⟨[],rfl⟩
  | succ i e =>
   intro hi;obtain⟨t,h⟩:=j i (List.mem_range.2 (by omega));obtain⟨r,a⟩:=e (by omega);exact⟨_,by rw[pB,a,h]⟩
 obtain⟨r,a⟩:=k s.length (aa3 _);refine⟨max b c,r,?_⟩;unfold jM;rw[sD (Nat.le_max_left b c) o];exact u9 (Nat.le_max_right b c) a
theorem yM {s:List Ty}{a b:Ty}(h:mW s a b=true):ins s.length a=true/\ins s.length b=true/\cK a<=8/\cK b<=8:=by
 unfold mW at h;simp only[aaN,Bool.not_eq_true',abZ] at h;exact⟨h.1.1,h.1.2,by omega,by omega⟩
theorem Qs (s:List Ty) (a b:Ty):∃n,Fuel n s a b/\(∀s',Ll n s a b s'->∃r,jM s' n=some r)/\∀s',Ll n s a b s'->Eo s s':=by
 obtain⟨c,r1,h1⟩:=vJ s
 by_cases hc:(∃d o,r1=some (d,o))/\mW s a b=true
 ·obtain⟨⟨d,o,rfl⟩,y⟩:=hc;have g:=oV h1;obtain⟨i1,i2,_,_⟩:=yM y;obtain⟨f,r2,l,h3⟩:=yJ _ s g (abU _) a b i1 i2;cases r2 with
  | none =>
   refine⟨max c f,⟨⟨_,kg (Nat.le_max_left c f) h1⟩,fun _ _=>⟨_,gP (Nat.le_max_right c f) l⟩,fun _ _ s' e=>?_,fun _ _ s' e=>?_⟩,fun s' e=>?_,fun s' e=>?_⟩
   ·rw[gP (Nat.le_max_right c f) l] at e;cases e
   ·rw[gP (Nat.le_max_right c f) l] at e;cases e
   ·have e:=e.2.2.1;rw[gP (Nat.le_max_right c f) l] at e;cases e
   ·have e:=e.2.2.1;rw[gP (Nat.le_max_right c f) l] at e;cases e
  | some s' =>
   have t:=h3 s' rfl;obtain⟨k,r3,h4⟩:=vJ s';obtain⟨m,r4,h5⟩:=DS t.good;have hd:∃j,∀d o,r3=some (d,o)->∃r,bE s' j a d o=some r:=by
    cases r3 with
    | none=>exact⟨0,fun d o e=>by cases e⟩
    | some p =>
     obtain⟨j,r5,u⟩:=DQ t.good.ins (show ins s'.length a=true by rw[t.len];exact i1) p.1 p.2;exact⟨j,fun d o e=>by injection e with e;rw[e] at u;exact⟨r5,u⟩⟩
   obtain⟨j,u⟩:=hd;have b1:c<=c+f+k+m+j:=by omega
   have x:f<=c+f+k+m+j:=by omega
   have w:k<=c+f+k+m+j:=by omega
   have b4:m<=c+f+k+m+j:=by omega
   have z:j<=c+f+k+m+j:=by omega
   generalize c+f+k+m+j=n at b1 x w b4 z;have v:∀{h},lG n s a b=some (some h)->h=s':=fun e=>by
    rw[gP x l] at e;injection e with e;injection e with e;exact e.symm
   refine⟨n,⟨⟨_,kg b1 h1⟩,fun _ _=>⟨_,gP x l⟩,fun _ _ h e=>?_,fun _ _ h e d o hf=>?_⟩,fun h e=>?_,fun h e=>?_⟩
   ·rw[v e];exact⟨_,kg w h4⟩
   ·rw[v e] at hf ⊢;rw[kg w h4] at hf;injection hf with hf
    obtain⟨r,hr⟩:=u d o hf;exact⟨r,gI z hr⟩
   ·rw[v e.2.2.1];exact⟨_,sF b4 h5⟩
   ·rw[v e.2.2.1];exact t
 ·have no:∀{X:Prop},(∃d o,bF s c=some (some (d,o)))->mW s a b=true->X:=fun⟨d,o,e⟩ y=>by
   rw[h1] at e;injection e with e;exact vv ⟨⟨d,o,e⟩,y⟩ hc
  exact⟨c,⟨⟨_,h1⟩,fun q p=>no q p,fun q p=>no q p,fun q p=>no q p⟩,fun s' e=>no e.1 e.2.1,fun s' e=>no e.1 e.2.1⟩
theorem nN.mono {P:Program}{H:Nat}{PS PS':Value->Prop}{ns:List Nat}{out:Value->List (List Value)}(h:nN P H PS ns out) (c:∀v,PS' v->PS v):nN P H PS' ns out :=
 ⟨h.inv,h.idle,fun F d v a w b=>h.caught F d v a w (c v b)⟩
theorem Ls:∀{a:List Own}{n:Nat},CF a [n]->∃g t cs,a=[.box g (t+1) cs]/\cs.length=n
 | [],_,h=>h.elim
 | [o],n,h=>by
  cases o with
  | row=>exact h.1.elim
  | box g t cs =>
   cases t with
   | zero=>exact vv rfl (wB h.1)
   | succ t=>exact⟨g,t,cs,rfl,h.1⟩
 | _::_::_,_,h=>h.2.elim
def O1 (v:Value):List (List Value):=match v with
 | .iface _ (.agg ⟨[.int _ n]⟩)=>[[.int .i64 n]]
 | _=>[]
theorem RS (c:List Own) (w:World) (hb:CF c [1]):CallsD P 93 (c.map lB).toArray .returning w fun e h w'=>e=.returned (.tuple #[])/\h=.returning/\w'=w:=by
 have f:Try.f93.ntmps=12:=by kernel_rfl
 have j:Try.f93.results=#[]:=by kernel_rfl
 obtain⟨g,t,cs,rfl,_⟩:=Ls hb;refine callsD_of_wpS Try.func93 rfl fun a cs d=>?_;apply wpS_seq;apply wpS_region;simp[wpOpsS,go_sem,recoverD,d,f,Exit.thenS,lB];refine wpS_of_wp (wp_block (wp_seq (wp_region ?_)));have b:P.underlying 20=some (.interface #[]):=by kernel_rfl
 have he:∀w:World,(Op.equal 20 .nilIface .nilIface).run P w=.ok true w:=fun w=>Eu b;simp[wpOps,go_sem,Exit.then,he,Exit.inBlock];refine .inl ?_;apply wp_cond_true
 ·simp[Act.eval,Array.replicate]
 apply wp_region;cases a
 simp_all [wpOps,go_sem,bodyPostS,results,Exit.inBlock]
theorem Cr:nN P 93 (fun v=>∃e,v=cA e) [1] O1:=by
 refine vE Try.func93 Oz rfl RS ?_;rintro F b v ⟨n,rfl⟩ hb;obtain⟨g,t,cs,rfl,h1⟩:=Ls hb
 match cs,h1 with
 | [a],_ =>
  intro c;exact rfl
def RG (n:Nat) (s:List Ty) (a b:Ty):List TO->C->Prop:=fun Mo v=>(∃s',Ll n s a b s'/\Mo=LU s'/\v=IC 0)\/(∃e,Qq n s a b e/\v=IC e/\∃i j,Mo=[.box 89 (List.replicate i .any),.box 93 (List.replicate j .any),.row 32 3 []])
theorem Qq.three {n:Nat}{s:List Ty}{a b:Ty}{e:Int}(h:Qq n s a b e):e=1\/e=2\/e=8:=by
 rcases h with⟨_,h⟩ | ⟨_,⟨_,h⟩ | ⟨_,⟨_,h⟩ | ⟨_,_,h,_⟩⟩⟩<;>omega
section
variable {L:TL}{ρ:aK}
theorem RT (ks:List Nat) {PS:nG}{n f:Nat}{s:List Ty}{a b:Ty}{args:List C}{K:TL->aK->C->Prop}{Lin:List TO}(h:CallsTX P f (args.map fun c=>c.aaj.ren (bA ks 1000)) (LU s) (RU n s a b) (PU n s a b)) (j:L.sub ks=some Lin)
  (d:(T.aP ks&&T.jv L ks ks&&aG Lin ks ks&&jw L ks PS.hb)=true) (q:Lin.map (TO.aad (C.ren (bA ks 1000)))=LU s) (m:ks.length=3) (r:∀v,PU n s a b v->PS.ps v)
  (k:∀s',Ll n s a b s'->K (((L.aae ks).kills (rowsOf L ks)).puts ks ((LU s').map (TO.aad (C.ren (aI ks))))) (dh (rowsOf L ks) ρ) (.tup [])):kU P PS f args L ρ K:=by
 simp only[aaN] at d;obtain⟨⟨⟨e,l⟩,c3⟩,c4⟩:=d;refine⟨[],ks,ks,L,Lin,_,_,.inl rfl,j,e,e,l,c3,c4,by rw[q];exact h,r,?_⟩;rintro v Mo ⟨s',o,rfl,rfl⟩ t p;exact⟨m,k s' o⟩
theorem RW (ks:List Nat) {n f:Nat}{s:List Ty}{a b:Ty}{args:List C}{K:TL->aK->C->Prop}{Lin:List TO}(h:CallsT P f (args.map fun c=>c.aaj.ren (bA ks 1000)) (LU s) (RG n s a b)) (o:L.sub ks=some Lin)
  (l:(T.aP ks&&T.jv L ks ks&&aG Lin ks ks)=true) (r:Lin.map (TO.aad (C.ren (bA ks 1000)))=LU s) (k:ks.length=3)
  (k1:∀s',Ll n s a b s'->K (((L.aae ks).kills (rowsOf L ks)).puts ks ((LU s').map (TO.aad (C.ren (aI ks))))) (dh (rowsOf L ks) ρ) (IC 0))
  (q:∀e,Qq n s a b e->∀Lx,Lx.length=3->K (((L.aae ks).kills (rowsOf L ks)).puts ks Lx) (dh (rowsOf L ks) ρ) (IC e)):qa P f args L ρ K:=by
 simp only[aaN] at l;obtain⟨⟨m,p⟩,c3⟩:=l;refine .mk ⟨[],ks,ks,L,Lin,_,.inl rfl,o,m,m,p,c3,by rw[r];exact h,?_⟩;rintro v Mo (⟨s',d,rfl,rfl⟩ | ⟨e,d,rfl,i,j,rfl⟩) hw hwo
 ·exact⟨k,k1 s' d⟩
 ·exact⟨k,q e d _ rfl⟩
end
theorem Ws {F:au}{L:Loc}{m:Int}(h0:0<=m) (h1:m<64):Rel F L (IC m) (.int .i64 m):=by
 rw[Rel];exact⟨rfl,by rw[EN];simp only[IntKind.min,IntKind.max,IntKind.signed,IntKind.bits,abl];omega⟩
theorem Wt (n:Nat) (s:List Ty) (a b:Ty) (h:Lm s a b (RU n s a b) (PU n s a b)):CallsT P 56 [.fn 62 [] [.own 1000 0,.pt (yG a) 0,.pt (yG b) 0]] (LU s) (RG n s a b):=by
 refine gu (PS:=PU n s a b) (ns:=[1]) (out:=O1) Try.func56 B6 (nN.mono Cr fun v ⟨e,_,h⟩=>⟨e,h⟩) (fun v ⟨e,_,h⟩=>by subst h;rfl) rfl rfl ?_ fun m f=>?_
 ·rintro v ⟨e,hB,rfl⟩;refine⟨IC e,.int .i64 e,?_,?_,?_⟩
  ·intro L ρ h;obtain⟨a1,l,k,d⟩:=h 0 2 _ rfl rfl;simp only[mZ,a1,d];rfl
  ·intro F L;have:=hB.three;exact Ws (by omega) (by omega)
  ·rintro Mo ⟨i,Mo1,rfl,j,Mo2,rfl,Mo3,rfl,rfl⟩;exact .inr ⟨e,hB,rfl,i,j,rfl⟩
 refine⟨rfl,?_⟩;refine RT [1000,1001,1002] h rfl rfl rfl rfl (fun v q=>q) fun s' c=>?_;exact pA [1000,1001,1002] rfl rfl rfl rfl (.inl ⟨s',c,rfl,rfl⟩)
def UR (n:Nat) (s:List Ty) (a b:Ty) (r:List Ty) (e:Int):Prop:=(∃s',Ll n s a b s'/\jM s' n=some r/\e=0)\/(Qq n s a b e/\r=[])
def RN (n:Nat) (s:List Ty) (a b:Ty):List TO->C->Prop:=fun Mo v=>Mo=[]/\∃r e,UR n s a b r e/\v=.tup [.sl (r.map aM),IC e]
theorem Wu {L:TL}{K:TL->Prop}(h:K L):fT L K:=by rw[fQ];exact h
theorem t23 (n:Nat) (s:List Ty) (a b:Ty) (m:s.length<=2 ^ 30) (F:Fuel n s a b) (hf:∀s e r,bF s n=some r->DN s e r) (h:cK a<=2 ^ 40) (k:cK b<=2 ^ 40)
  (f:∀s',Ll n s a b s'->s'.length<=2 ^ 30/\(∀x∈s',jl x)/\∃r,jM s' n=some r):CallsT P 23 [.sl (s.map aM),aT a,aT b] [] (RN n s a b):=by
 have d:=Wt n s a b (t62 n s a b F hf h k);have j:=t61 s m;refine af Try.func23 NS rfl fun p _=>?_;refine callO [] [11] j rfl rfl rfl rfl rfl fun _ _=>?_;refine RW [8,13,11] d rfl rfl rfl rfl (fun s' c=>?_) fun e he Lx o=>?_
 ·skip
  refine vU (f s' c).2.2 fun r l=>?_;refine F9 [11] [13] [13] (t65 s' n r (f s' c).1 (f s' c).2.1 l) ⟨_,rfl,rfl,rfl,rfl,rfl,fun _ _=>?_⟩;exact pA [] rfl rfl rfl rfl ⟨rfl,r,0,.inl ⟨s',c,l,rfl⟩,rfl⟩
 ·refine Wu ?_;have h0:¬e=0:=by have:=he.three;omega
  refine aX (fun _=>?_) (fun q=>vv q h0);exact pA [] rfl rfl rfl rfl ⟨rfl,[],e,.inr ⟨he,rfl⟩,rfl⟩
def RFf (s:List Ty) (r:Option (DM×OM)):List TO->C->Prop:=fun Mo v=>∃d o,r=some (d,o)/\Mo=I5 s d o/\v=.tup []
def tY (s:List Ty) (e:Int) (r:Option (DM×OM)):Prop:=CallsTX P 58 [.own 1000 0,IC e] (ur s) (RFf s r) (PF e r)
section
variable {L:TL}{ρ:aK}
theorem GN (ks ko:List Nat) {PS:nG}{args:List C}{K:TL->aK->C->Prop}{s:List Ty}{e:Int}{r:Option (DM×OM)}{Lin:List TO}(h:tY s e r) (b:L.sub ks=some Lin)
  (a:(T.aP ks&&T.aP ko&&T.jv L ks ko&&aG Lin ks ko&&jw L ks PS.hb)=true) (l:(args.map fun c=>c.aaj.ren (bA ks 1000))=[.own 1000 0,IC e]) (n:Lin.map (TO.aad (C.ren (bA ks 1000)))=ur s) (j:ko.length=3) (p:∀v,PF e r v->PS.ps v)
  (k:∀d o,r=some (d,o)->K (((L.aae ks).kills (rowsOf L ks)).puts ko ((I5 s d o).map (TO.aad (C.ren (aI ko))))) (dh (rowsOf L ks) ρ) (.tup [])):kU P PS 58 args L ρ K:=by
 simp only[aaN] at a;obtain⟨⟨⟨⟨q,f⟩,c3⟩,c4⟩,c5⟩:=a;refine⟨[],ks,ko,L,Lin,_,_,.inl rfl,b,q,f,c3,c4,c5,by rw[n,l];exact h,p,?_⟩;rintro v Mo ⟨d,o,t,rfl,rfl⟩ u m;exact⟨j,k d o t⟩
end
theorem Wv (s:List Ty) (t:Ty) (d:DM) (o:OM) (h:tY s 1 (some (d,o))) (r:Ty) (hi:ins s.length t=true) (b:CallsT P 60 [.own 1000 0,aT t] (ur s) (aU (ur s) (aT r))):CallsTX P 57 [.own 1000 0,.pt (yG t) 0,.own 1002 0] [.box 89 [.own 1001 0],.box 93 [.sl (s.map aM),.any,.any],.box 32 [IC 0,IC 0,.nils]] (aU [.box 89 [.own 1001 0],.box 93 [.sl (s.map aM),.any,.any],.box 32 (yG r)] (.tup [])) (fun _=>False):=by
 have a:=fun D O=>K4 s D O t;refine aV Try.func57 Gi rfl fun c _=>?_;refine GN [1001] [1001,2003,2004] h rfl rfl rfl rfl rfl (fun v q=>by cases q.1) fun d o e=>?_;refine callO [1001,2003,2004] [1001,2003,2004] (a _ _) rfl rfl rfl rfl rfl fun _ _=>?_;refine aq (fun _=>?_) (fun h=>vv (show ins s.length t=false from h) (by rw[hi];exact Bool.noConfusion));refine callO [1001] [1001] b rfl rfl rfl rfl rfl fun _ _=>?_;exact bB [1000,1001,1002] rfl rfl rfl rfl
theorem Ww (s:List Ty) (t:Ty) (d:DM) (o:OM) (h:tY s 1 (some (d,o))) (r:Ty) (hi:ins s.length t=true) (b:CallsT P 60 [.own 1000 0,aT t] (ur s) (aU (ur s) (aT r))):CallsT P 56 [.fn 57 [] [.own 1000 0,.pt (yG t) 0,.own 1002 0]] [.box 89 [.own 1001 0],.box 93 [.sl (s.map aM),.any,.any],.box 32 [IC 0,IC 0,.nils]] (aU [.box 89 [.own 1001 0],.box 93 [.sl (s.map aM),.any,.any],.box 32 (yG r)] (IC 0)):=by
 have a:=Wv s t d o h r hi b;refine gu (PS:=fun _=>False) (ns:=[1]) (out:=O1) Try.func56 B6 (nN.mono Cr fun v h=>h.elim) (fun v h=>h.elim) rfl rfl (fun v h=>h.elim) fun e c=>?_;refine⟨rfl,?_⟩;refine Kb [1000,1001,1002] [1000,1001,1002] a rfl rfl rfl rfl rfl (fun v q=>q) fun _ _=>?_;exact bB [1000,1001,1002] rfl rfl rfl rfl
theorem Wx (s:List Ty) (t:Ty) (d:DM) (o:OM) (h:tY s 1 (some (d,o))) (r:Ty) (hi:ins s.length t=true) (a:CallsT P 60 [.own 1000 0,aT t] (ur s) (aU (ur s) (aT r))):CallsT P 22 [.sl (s.map aM),aT t] [] (aU [] (aT r)):=by
 have b:=Ww s t d o h r hi a;refine af Try.func22 Gd rfl fun c _=>?_;refine callO [5,9,6] [5,9,6] b rfl rfl rfl rfl rfl fun _ _=>?_;exact aC rfl rfl
theorem Wy (s:List Ty) (t:Ty) (d:DM) (o:OM) (h:tY s 1 (some (d,o))) (hi:ins s.length t=false):CallsTX P 57 [.own 1000 0,.pt (yG t) 0,.own 1002 0] [.box 89 [.own 1001 0],.box 93 [.sl (s.map aM),.any,.any],.box 32 [IC 0,IC 0,.nils]] (aU [.box 89 [.own 1001 0],.box 93 [.sl (s.map aM),.any,.any],.box 32 ([IC 0,IC 0,.nils])] (.tup [])) (fun _=>False):=by
 have a:=fun D O=>K4 s D O t;refine aV Try.func57 Gi rfl fun b _=>?_;refine GN [1001] [1001,2003,2004] h rfl rfl rfl rfl rfl (fun v q=>by cases q.1) fun d o e=>?_;refine callO [1001,2003,2004] [1001,2003,2004] (a _ _) rfl rfl rfl rfl rfl fun _ _=>?_;refine aq (fun h=>vv (show ins s.length t=true from h) (by rw[hi];exact Bool.noConfusion)) (fun _=>?_);exact bB [1000,1001,1002] rfl rfl rfl rfl
theorem Wz (s:List Ty) (t:Ty) (d:DM) (o:OM) (h:tY s 1 (some (d,o))) (hi:ins s.length t=false):CallsT P 56 [.fn 57 [] [.own 1000 0,.pt (yG t) 0,.own 1002 0]] [.box 89 [.own 1001 0],.box 93 [.sl (s.map aM),.any,.any],.box 32 [IC 0,IC 0,.nils]] (aU [.box 89 [.own 1001 0],.box 93 [.sl (s.map aM),.any,.any],.box 32 ([IC 0,IC 0,.nils])] (IC 0)):=by
 have a:=Wy s t d o h hi;refine gu (PS:=fun _=>False) (ns:=[1]) (out:=O1) Try.func56 B6 (nN.mono Cr fun v h=>h.elim) (fun v h=>h.elim) rfl rfl (fun v h=>h.elim) fun c b=>?_;refine⟨rfl,?_⟩;refine Kb [1000,1001,1002] [1000,1001,1002] a rfl rfl rfl rfl rfl (fun v q=>q) fun _ _=>?_;exact bB [1000,1001,1002] rfl rfl rfl rfl
theorem WA (s:List Ty) (t:Ty) (d:DM) (o:OM) (h:tY s 1 (some (d,o))) (hi:ins s.length t=false):CallsT P 22 [.sl (s.map aM),aT t] [] (aU [] (aT (.mk 0 0 []))):=by
 have a:=Wz s t d o h hi;refine af Try.func22 Gd rfl fun b _=>?_;refine callO [5,9,6] [5,9,6] a rfl rfl rfl rfl rfl fun _ _=>?_;exact aC rfl rfl
def RX (s:List Ty) (n:Nat) (t:Ty):Option Ty:=if ins s.length t then oP s n t else some (.mk 0 0 [])
theorem t22 (s:List Ty) (n:Nat) (t r:Ty) (d:DM) (o:OM) (h:tY s 1 (some (d,o))) (b:∀x∈s,jl x) (hb:jl t) (a:RX s n t=some r):CallsT P 22 [.sl (s.map aM),aT t] [] (aU [] (aT r)):=by
 unfold RX at a;cases hi:ins s.length t with
 | true =>
  rw[o5 hi] at a;exact Wx s t d o h r hi (XY s b n t r hb a)
 | false =>
  rw[q9 (by rw[hi];exact abd)] at a;injection a with a
  rw[<-a];exact WA s t d o h hi
section
variable {P:Program}
def sH (v:Value):Deferred:={target:=.builtin .panic #[20] 0 #[false],args:=#[v]}
theorem IE {b:Frame}{cs:List Frame}{w:World}{t:TypeId}{x:Value}{ds:List Deferred}(h:b.mode≠.run) (d:b.defers=sH (.iface t x)::ds) :
  step P (lone b cs w)=.next (lone {b with defers:=ds,mode:=raised b.mode [{v:=.iface t x,recovered:=false}]} cs w):=by
 have e:∀u,({b with defers:=ds}:Frame).raise u={b with defers:=ds,mode:=raised b.mode u}:=fun u=>by rw[Frame.raise_mode]
 have c:(invoke (sH (.iface t x)).target (sH (.iface t x)).args).run P w=.halt (.panic (.iface t x)) w:=by
  simp[sH,invoke,builtin,go_sem,Instr.panic]
 simp only[sH] at d c;refine step_lone_go ?_;cases a:b.mode with
 | run=>exact vv a h
 | returning =>
  rw[a] at e;simp[stepG,unwind,callDeferred,a,d,c,e,raised]
 | panicking f =>
  rw[a] at e;simp[stepG,unwind,callDeferred,a,d,c,e,raised]
theorem sI {t:TypeId}{x:Value}:∀(ds:List Deferred) (f:Frame) (cs:List Frame) (w:World),(∀d∈ds,d=sH (.iface t x))->f.mode≠.run->f.defers=ds->ds≠[]->(∀c,f.mode=.panicking c->∀e∈c,e.goexit=false) ->
  ∃c,rK (.iface t x) c/\Steps P (lone f cs w) (lone {f with defers:=[],mode:=.panicking c} cs w)
 | [],f,cs,w,h,p,o,n,q=>vv rfl n
 | d::ds,f,cs,w,h,p,o,n,q=>by
  have e:=h d (by simp);subst e;have h1:=IE (P:=P) (cs:=cs) (w:=w) p o;have s:∃a,raised f.mode [{v:=.iface t x,recovered:=false}]=.panicking ({v:=.iface t x,recovered:=false}::a)/\∀e∈a,e.goexit=false:=by
   cases j:f.mode with
   | run=>exact vv j p
   | returning=>exact⟨[],rfl,fun e h=>by cases h⟩
   | panicking c=>exact⟨c,rfl,q c j⟩
  obtain⟨a,k,m⟩:=s
  by_cases l:ds=[]
  ·subst l;refine⟨_,⟨a,rfl,m⟩,?_⟩;rw[<-k];exact .one h1
  ·obtain⟨c,u,r⟩:=sI ds {f with defers:=ds,mode:=raised f.mode [{v:=.iface t x,recovered:=false}]} cs w (fun d o=>h d (by simp[o])) (by rw[k];exact fun h=>by cases h) rfl l (fun c b e he=>by
    have b:raised f.mode [{v:=.iface t x,recovered:=false}]=.panicking c:=b;rw[k] at b;injection b with b
    subst b;rcases aaW.1 he with rfl | he
    ·rfl
    ·exact m e he)
   exact⟨c,u,.head h1 r⟩
def rm (P:Program) (fn:Func) (v:Value) (R:Ending->World->Prop):Exit->Act->World->Prop
 | .normal,a,w | .ret,a,w=>(∀d∈a.defers,d=sH v)/\(a.defers=[]->∃x,(results fn a.tmps).run P w=.ok x w/\R (.returned x) w)/\(a.defers≠[]->∀c,rK v c->R (.panicked c) w)
 | .panic b,a,w=>(∀d∈a.defers,d=sH v)/\(a.defers=[]->R (.panicked b) w)/\(a.defers≠[]->(∀e∈b,e.goexit=false)/\∀c,rK v c->R (.panicked c) w)
 | .outgrown,_,w=>R .outgrown w
 | _,_,_=>False
theorem vY {f:FuncId}{fn:Func}{c:Code}{args:Array Value}{w:World}{t:TypeId}{x:Value}{R:Ending->World->Prop}
  (hf:P.funcs[f]?=some fn) (hb:fn.body=some c)
  (h:c.wp P (rm P fn (.iface t x) R) {tmps:=args++Array.replicate (fn.ntmps-args.size) undef,defers:=[]} w):Calls P f args w R:=by
 intro cs
 let b:Frame:={(default:Frame) with fn:=f,kind:=.normal}
 have r:Frame.enter P f args .normal =
   b.at {tmps:=args++Array.replicate (fn.ntmps-args.size) undef,defers:=[]} [.code c]:=by
  simp[Frame.enter,Frame.at,hf,hb,b]
 obtain⟨e,a',w',y,n⟩:=h b [] cs;rw[<-r] at n;have s:∀a,((∀d∈a'.defers,d=sH (.iface t x))/\(a'.defers=[]->∃x,(results fn a'.tmps).run P w'=.ok x w'/\R (.returned x) w')/\(a'.defers≠[]->∀q,rK (.iface t x) q->R (.panicked q) w')) ->
   ∃e o p,R e o/\Comes P (lone {b.at a' a with mode:=.returning} cs w') (lone p cs o) e/\p.fn=f/\p.leaving P o e:=by
  rintro a ⟨q1,q2,q3⟩
  by_cases j:a'.defers=[]
  ·obtain⟨v,hr,z⟩:=q2 j;exact⟨.returned v,w',_,z,Steps.refl P _,rfl,rfl,j,rfl,fn,hf,hr⟩
  ·obtain⟨q,k1,k2⟩:=sI (P:=P) a'.defers {b.at a' a with mode:=.returning} cs w' q1 (fun h=>by cases h) rfl j (fun q h=>by cases h);exact⟨.panicked q,w',_,q3 j q k1,k2,rfl,rfl,rfl,fn,hf⟩
 cases e with
 | normal =>
  obtain⟨e',o,p,z,hs,u,hl⟩:=s [] y;exact⟨e',o,p,z,Comes.of_steps (Steps.trans n (.one step_end)) hs,u,hl⟩
 | ret =>
  obtain⟨a,k⟩:=n;obtain⟨e',o,p,z,hs,u,hl⟩:=s a y;exact⟨e',o,p,z,Comes.of_steps k hs,u,hl⟩
 | panic m =>
  obtain⟨a,k⟩:=n;obtain⟨q1,q2,q3⟩:=y
  by_cases j:a'.defers=[]
  ·exact⟨.panicked m,w',{b.at a' a with mode:=.panicking m},q2 j,Comes.of_steps k (Steps.refl P _),rfl,rfl,j,fn,hf⟩
  ·obtain⟨q,k1,k2⟩:=sI (P:=P) a'.defers {b.at a' a with mode:=.panicking m} cs w' q1 (fun h=>by cases h) rfl j (fun q h=>by
    have h:FrameMode.panicking m=.panicking q:=h;injection h with h
    subst h;exact(q3 j).1)
   exact⟨.panicked q,w',_,(q3 j).2 q k1,Comes.of_steps k k2,rfl,rfl,rfl,fn,hf⟩
 | exit id=>exact y.elim
 | goto l=>exact y.elim
 | outgrown=>exact⟨.outgrown,w',b,y,n.resolve_left (by simp[b]),rfl,trivial⟩
end
theorem WB {B g n c:Nat}(a:n<B) (b:c<B):(c+(g*B+n)*B) / B % B=n/\(c+(g*B+n)*B) % B=c/\(c+(g*B+n)*B) / (B*B)=g:=by
 have hB:0<B:=by omega
 have h1:(c+(g*B+n)*B) / B=g*B+n:=by rw[Nat.add_mul_div_right _ _ hB,Nat.div_eq_of_lt b,Nat.zero_add]
 refine⟨?_,?_,?_⟩
 ·rw[h1,Nat.add_comm,Nat.add_mul_mod_self_right,Nat.mod_eq_of_lt a]
 ·rw[Nat.add_mul_mod_self_right,Nat.mod_eq_of_lt b]
 ·rw[<-Nat.div_div_eq_div_mul,h1,Nat.add_comm,Nat.add_mul_div_right _ _ hB,Nat.div_eq_of_lt a,Nat.zero_add]
theorem Lu (m:Nat):rJ (m+2)=some (m / fF % fF):=rfl
theorem Lv (m:Nat):I6 (m+1)=.slice (some ⟨m / (fF*fF),0,none⟩) (m / fF % fF) (m % fF):=rfl
theorem DT {n:Nat}(h:n<=maxLen):n<fF:=Nat.lt_of_le_of_lt h (by decide)
theorem GP (g n c:Nat) (a:n<=maxLen) (b:c<=maxLen):∃k,rJ k=some n/\∀F,gJ k F (.slice (some ⟨g,0,none⟩) n c):=by
 have a:=DT a;have b:=DT b;generalize hB:fF=B at a b;obtain⟨h1,e,d⟩:=WB (g:=g) a b;generalize c+(g*B+n)*B=m at h1 e d;refine⟨m+2,?_,fun F=>.inr ⟨m+1,rfl,?_⟩⟩
 ·rw[Lu,hB,h1]
 ·rw[Lv,hB,h1,e,d]
theorem O2 {F:au}{L L':Loc}{t:Ty}{v:Value}(h:Rel F L (aT t) v):Rel F L' (aT t) v:=by
 simp only[Rel,ax] at h ⊢;exact h
theorem Fq {F:au}{k:Nat}{v u:Value}(h:gJ k F v) (a:gJ k F u):v=u:=by
 rcases h with⟨rfl,rfl⟩ | ⟨m,rfl,rfl⟩
 ·rcases a with⟨_,rfl⟩ | ⟨m,h,_⟩
  ·rfl
  ·cases h
 ·rcases a with⟨h,_⟩ | ⟨b,h,rfl⟩
  ·cases h
  ·injection h with h;rw[h]
theorem WC {b c d:Own}{j:Nat}:(inp [b,c,d]).get j=if j=1000 then some b else if j=1001 then some c else if j=1002 then some d else none:=by
 rw[aF]
 by_cases h:1000<=j
 ·rw[o5 h]
  by_cases h0:j=1000
  ·rw[o5 h0,h0];rfl
  rw[q9 h0]
  by_cases h1:j=1001
  ·rw[o5 h1,h1];rfl
  rw[q9 h1]
  by_cases a:j=1002
  ·rw[o5 a,a];rfl
  rw[q9 a];exact abn (by simp;omega)
 ·rw[q9 h,q9 (by omega),q9 (by omega),q9 (by omega)]
theorem Tx {b c d:TO}{j:Nat}:(cC [b,c,d]).get j=if j=1000 then some b else if j=1001 then some c else if j=1002 then some d else none:=by
 rw[ck]
 by_cases h:1000<=j
 ·rw[o5 h]
  by_cases h0:j=1000
  ·rw[o5 h0,h0];rfl
  rw[q9 h0]
  by_cases h1:j=1001
  ·rw[o5 h1,h1];rfl
  rw[q9 h1]
  by_cases a:j=1002
  ·rw[o5 a,a];rfl
  rw[q9 a];exact abn (by simp;omega)
 ·rw[q9 h,q9 (by omega),q9 (by omega),q9 (by omega)]
theorem RY {F:au}{a c b:Own}{l k h:TO}(h0:cD F (inp [a,c,b]) l a) (h1:cD F (inp [a,c,b]) k c) (m:cD F (inp [a,c,b]) h b):bM F (inp [a,c,b]) (cC [l,k,h]):=by
 intro j;rw[WC,Tx]
 by_cases d:j=1000
 ·rw[o5 d,o5 d];exact h0
 rw[q9 d,q9 d]
 by_cases f:j=1001
 ·rw[o5 f,o5 f];exact h1
 rw[q9 f,q9 f]
 by_cases e:j=1002
 ·rw[o5 e,o5 e];exact m
 rw[q9 e,q9 e];trivial
theorem WD {c e f d:Own}{j:Nat}:(inp [c,e,f,d]).get j=if j=1000 then some c else if j=1001 then some e else if j=1002 then some f else if j=1003 then some d else none:=by
 rw[aF]
 by_cases h:1000<=j
 ·rw[o5 h]
  by_cases h0:j=1000
  ·rw[o5 h0,h0];rfl
  rw[q9 h0]
  by_cases h1:j=1001
  ·rw[o5 h1,h1];rfl
  rw[q9 h1]
  by_cases b:j=1002
  ·rw[o5 b,b];rfl
  rw[q9 b]
  by_cases a:j=1003
  ·rw[o5 a,a];rfl
  rw[q9 a];exact abn (by simp;omega)
 ·rw[q9 h,q9 (by omega),q9 (by omega),q9 (by omega),q9 (by omega)]
theorem Tz {c e f d:TO}{j:Nat}:(cC [c,e,f,d]).get j=if j=1000 then some c else if j=1001 then some e else if j=1002 then some f else if j=1003 then some d else none:=by
 rw[ck]
 by_cases h:1000<=j
 ·rw[o5 h]
  by_cases h0:j=1000
  ·rw[o5 h0,h0];rfl
  rw[q9 h0]
  by_cases h1:j=1001
  ·rw[o5 h1,h1];rfl
  rw[q9 h1]
  by_cases b:j=1002
  ·rw[o5 b,b];rfl
  rw[q9 b]
  by_cases a:j=1003
  ·rw[o5 a,a];rfl
  rw[q9 a];exact abn (by simp;omega)
 ·rw[q9 h,q9 (by omega),q9 (by omega),q9 (by omega),q9 (by omega)]
theorem RZ {F:au}{a d b c:Own}{o n l m:TO}(h0:cD F (inp [a,d,b,c]) o a) (h1:cD F (inp [a,d,b,c]) n d) (p:cD F (inp [a,d,b,c]) l b) (q:cD F (inp [a,d,b,c]) m c):bM F (inp [a,d,b,c]) (cC [o,n,l,m]):=by
 intro j;rw[WD,Tz]
 by_cases e:j=1000
 ·rw[o5 e,o5 e];exact h0
 rw[q9 e,q9 e]
 by_cases k:j=1001
 ·rw[o5 k,o5 k];exact h1
 rw[q9 k,q9 k]
 by_cases h:j=1002
 ·rw[o5 h,o5 h];exact p
 rw[q9 h,q9 h]
 by_cases f:j=1003
 ·rw[o5 f,o5 f];exact q
 rw[q9 f,q9 f];trivial
theorem Lw {F:au}{k b e f c:Nat}{v:Value}{d c3:List Value}{D O:List (C×C)}(a:tyOk 93 b e) (l:gJ k F v) (h:fC F D d) (j:fC F O c3) :
  bM F (inp [.box b e [v,.map (some f),.map (some c)],.box f 0 d,.box c 0 c3]) (cC (SO k D O)):=by
 refine RY ⟨a,?_⟩ ⟨rfl,h⟩ ⟨rfl,j⟩;simp only[ax,Rel];exact⟨_,_,rfl,l,_,_,rfl,⟨_,_,rfl,rfl⟩,_,_,rfl,⟨_,_,rfl,rfl⟩,rfl⟩
theorem O3 {P:Program}{f:Nat}{tx:Ty}{b:Bool}{sz t:Nat}{els:List (List C)}{D O:List (C×C)}
  (h:∀k,rJ k=some els.length->CallsT P f [.own 1000 0,aT tx] (SO k D O) (aU (SO k D O) (.bool b))) :
  iD P f [.own 1000 0,aT tx] [.box 93 [.rw 1001,.mpr 1002,.mpr 1003],.row t sz els,.map D,.map O] (aU [.box 93 [.rw 1001,.mpr 1002,.mpr 1003],.row t sz els,.map D,.map O] (.bool b)):=by
 refine⟨fun F Li vs hl z hr=>?_⟩
 match Li,hl with
 | [y,x,s,u],_ =>
  have q0:=z 1000;have q1:=z 1001;have q2:=z 1002;have q3:=z 1003;have g0:(inp [y,x,s,u]).get 1000=some y:=rfl;have g1:(inp [y,x,s,u]).get 1001=some x:=rfl;have g2:(inp [y,x,s,u]).get 1002=some s:=rfl;have g3:(inp [y,x,s,u]).get 1003=some u:=rfl;rw[g0] at q0;rw[g1] at q1;rw[g2] at q2;rw[g3] at q3;have q0:cD F (inp [y,x,s,u]) (.box 93 [.rw 1001,.mpr 1002,.mpr 1003]) y:=q0;have q1:cD F (inp [y,x,s,u]) (.row t sz els) x:=q1;have q2:cD F (inp [y,x,s,u]) (.map D) s:=q2;have q3:cD F (inp [y,x,s,u]) (.map O) u:=q3;cases y with
  | row=>exact q0.elim
  | box b0 t0 c0 =>
  cases x with
  | box=>exact q1.elim
  | row v1 t1 s1 d x1 =>
  cases s with
  | row=>exact q2.elim
  | box l t2 c2 =>
  cases u with
  | row=>exact q3.elim
  | box m t3 c3 =>
  obtain⟨aE,ba⟩:=q0;simp only[ax,Rel] at ba;obtain⟨w0,_,rfl,⟨a,c,t',de,n,xs,rfl,e1⟩,m1,_,rfl,⟨y1,z1,p,rfl⟩,m2,_,rfl,⟨y2,z2,j,rfl⟩,rfl⟩:=ba;rw[g1] at e1;rw[g2] at p;rw[g3] at j;injection e1 with e1
  injection e1 with e11 e12 e13 e14 e15
  subst e11 e12 e13 e14 e15;injection p with p
  injection p with e21 e22 e23
  subst e21 e22 e23;injection j with j
  injection j with e31 e32 e33
  subst e31 e32 e33;obtain⟨rfl,rfl,hn,⟨hm,hv⟩,bd⟩:=q1;obtain⟨_,q2⟩:=q2;obtain⟨_,q3⟩:=q3;rw[ax] at hr;obtain⟨u1,us,rfl,r1,r2⟩:=hr;rw[Rel] at r1;obtain⟨gg,tt,cc,r3,rfl⟩:=r1;rw[g0] at r3;injection r3 with r3
  injection r3 with r31 r32 r33
  subst r31 r32 r33;rw[ax] at r2;obtain⟨u2,df,rfl,r4,r5⟩:=r2;rw[ax] at r5;subst r5
  -- the arguments,in a smaller world
  have bc:∀(L':Loc) (b':Nat) (ty:TypeId) (cs:List Value),L'.get 1000=some (.box b' ty cs)->ax F L' [.own 1000 0,aT tx] [.pointer (some ⟨b',0,none⟩),u2]:=by
   intro L' b' ty cs hL;rw[ax];refine⟨_,_,rfl,by rw[Rel];exact⟨_,_,_,hL,rfl⟩,?_⟩;rw[ax];exact⟨u2,[],rfl,O2 r4,by rw[ax]⟩
  obtain⟨k0,bu,bk⟩:=GP 0 d d hm hm;have ent:=((h k0 (by rw[<-hn];exact bu)).out F [.box 0 93 [.slice (some ⟨0,0,none⟩) d d,.map (some l),.map (some m)],.box l 0 c2,.box m 0 c3] [.pointer (some ⟨0,0,none⟩),u2] rfl
   (Lw ⟨by decide,.inl rfl,by decide⟩ (bk F) q2 q3) (bc _ 0 93 _ rfl)).ent
  refine⟨ent,fun F G L v bz ⟨r,q⟩=>⟨gC.aao _ _ _ _ bz r,q⟩,fun w hs=>?_⟩;have am:=hs.own 1001 _ g1;simp only[Own.ok] at am;have hk:∃k,rJ k=some d/\∀F,gJ k F (.slice a d c):=by
   rcases am.2 with⟨e,_⟩ | ⟨g,cap,dg,e,_,_,k1,k2,_⟩
   ·injection e with e1 p j
    subst e1 p j;exact⟨1,rfl,fun F=>.inr ⟨0,rfl,rfl⟩⟩
   ·injection e with e1 p j
    subst e1 j;exact GP g d c hm k2
  obtain⟨k,ch,aw⟩:=hk;have ab:(inp [.box b0 t0 [.slice a d c,.map (some l),.map (some m)],.row (.slice a d c) t sz d x1,.box l 0 c2,.box m 0 c3]).sub [1000,1002,1003]=some [.box b0 t0 [.slice a d c,.map (some l),.map (some m)],.box l 0 c2,.box m 0 c3]:=rfl;have an:[1000,1002,1003].Nodup:=by decide
  refine(((h k (by rw[<-hn];exact ch)).out F _ _ rfl (Lw aE (aw F) q2 q3) (bc _ b0 t0 _ rfl)).run w (hs.handed ab an)).mono ?_;rintro e w' ⟨v,F',Lo,rfl,co,bb,Mo,cc,l1,l2,l3,l4,rfl,rfl⟩
  match Lo,l1 with
  | [p0,p1,p2],_ =>
   obtain⟨d0,i0⟩:=l4 0 _ _ _ rfl;obtain⟨d1,i1⟩:=l4 1 _ _ _ rfl;obtain⟨d2,i2⟩:=l4 2 _ _ _ rfl;injection i0 with i0
   injection i1 with i1
   injection i2 with i2
   subst i0 i1 i2;obtain⟨cp,ci⟩:=fN hs ab an an (fun k hk=>.inl hk) co bb rfl;have j0:=l2 1000;have j1:=l2 1001;have j2:=l2 1002;have j0:cD F' (inp [.box b0 t0 d0,.box l 0 d1,.box m 0 d2]) (.box 93 [.opq k,.mpr 1001,.mpr 1002]) (.box b0 t0 d0):=j0;have j1:cD F' (inp [.box b0 t0 d0,.box l 0 d1,.box m 0 d2]) (.map D) (.box l 0 d1):=j1;have j2:cD F' (inp [.box b0 t0 d0,.box l 0 d1,.box m 0 d2]) (.map O) (.box m 0 d2):=j2;obtain⟨cY,ad⟩:=j0;simp only[ax,Rel] at ad;obtain⟨w0,_,rfl,bs,m1,_,rfl,⟨y1,z1,p,rfl⟩,m2,_,rfl,⟨y2,z2,j,rfl⟩,rfl⟩:=ad;have p:some (Own.box l 0 d1)=some (.box y1 0 z1):=p;have j:some (Own.box m 0 d2)=some (.box y2 0 z2):=j;injection p with p
   injection p with e21 _ e23
   injection j with j
   injection j with e31 _ e33
   subst e21 e23 e31 e33;have ce:=Fq (aw F') bs;subst ce;refine⟨v,F',[.box b0 t0 [.slice a d c,.map (some l),.map (some m)],.row (.slice a d c) t sz d x1,.box l 0 d1,.box m 0 d2],rfl,cp,ci,⟨[.box 93 [.rw 1001,.mpr 1002,.mpr 1003],.row t sz els,.map D,.map O],.bool b,rfl,RZ ⟨aE,?_⟩ ⟨rfl,rfl,hn,⟨hm,hv⟩,bd.mono bb.le⟩ ⟨rfl,j1.2⟩ ⟨rfl,j2.2⟩,?_,?_,rfl,rfl⟩,rfl,?_⟩
   ·simp only[ax,Rel];exact⟨_,_,rfl,⟨a,c,_,_,d,_,rfl,rfl⟩,_,_,rfl,⟨_,_,rfl,rfl⟩,_,_,rfl,⟨_,_,rfl,rfl⟩,rfl⟩
   ·rw[Rel] at l3 ⊢;exact l3
   ·intro i g ty cs hi
    match i,hi with
    | 0,hi=>injection hi with hi;injection hi with h1 h2 h3;subst h1 h2;exact⟨_,rfl⟩
    | 1,hi=>cases hi
    | 2,hi=>injection hi with hi;injection hi with h1 h2 h3;subst h1 h2;exact⟨_,rfl⟩
    | 3,hi=>injection hi with hi;injection hi with h1 h2 h3;subst h1 h2;exact⟨_,rfl⟩
    | i+4,hi=>cases hi
   ·intro i o hi
    match i,hi with
    | 0,hi=>injection hi with hi;subst hi;exact⟨_,rfl,rfl,rfl⟩
    | 1,hi=>injection hi with hi;subst hi;exact⟨_,rfl,rfl,rfl,rfl⟩
    | 2,hi=>injection hi with hi;subst hi;exact⟨_,rfl,rfl,rfl⟩
    | 3,hi=>injection hi with hi;subst hi;exact⟨_,rfl,rfl,rfl⟩
    | i+4,hi=>cases hi
def vZ:Code->Code
 | .seq a _=>a
 | _=>.skip
def fE:Code->Code
 | .seq _ a=>a
 | _=>.skip
def WE:Code->Code
 | .block _ a=>a
 | .loop a=>a
 | _=>.skip
def cd1:Code->Code
 | .cond _ a _=>a
 | _=>.skip
noncomputable def GQ:Code:=Try.f58.body.getD .skip
noncomputable def k0:Code:=vZ GQ
noncomputable def k1:Code:=vZ (fE GQ)
noncomputable def k8:Code:=vZ (fE (fE GQ))
noncomputable def UX:Code:=WE (WE (fE (fE (fE GQ))))
noncomputable def k9:Code:=vZ UX
noncomputable def kc:Code:=vZ (fE UX)
noncomputable def WG:Code:=WE (vZ (fE (fE UX)))
noncomputable def k10:Code:=vZ WG
noncomputable def k11:Code:=vZ (fE WG)
noncomputable def k12:Code:=cd1 (fE (fE WG))
noncomputable def k13:Code:=fE (fE (fE UX))
theorem DU:Try.f58.body=some (k0.seq (k1.seq (k8.seq (.block 2 (.loop (k9.seq (kc.seq ((Code.block 3 (k10.seq (k11.seq (.cond (.tmp 67) k12 .skip)))).seq k13)))))))):=by kernel_rfl
def O4:dc:={n:=72,own:=[],frz:=[],ord:=[],pan:=[(6,2),(11,3)]}
def z0:ay:=(.reg [.op (some 8) (.mov (.t 0)) none,
  .op (some 9) (.mov (.t 0)) none,
  .op (some 10) (.mkmap) none,
  .op (some 11) (.mkmap) none,
  .op (some 12) (.nilck (.t 8)) none,
  .op (some 13) (.fieldA 1 (.t 12)) none,
  .op none (.store 1 (.t 13) (.t 10)) none,
  .op (some 14) (.nilck (.t 9)) none,
  .op (some 15) (.fieldA 2 (.t 14)) none,
  .op none (.store 1 (.t 15) (.t 11)) none])
theorem WH:low Try.prog O4 k0=some z0:=by kernel_rfl
def z1:ay:=(.seq (.reg [.op (some 16) (.mov (.t 0)) none,
  .op (some 17) (.nilck (.t 16)) none,
  .op (some 18) (.fieldA 0 (.t 17)) none,
  .op (some 19) (.load false 1 (.t 18)) none,
  .op (some 20) (.len (.t 19)) none,
  .op (some 21) (.mov (.c (.int .i64 0))) none])
 (.block 0
 (.loop [22,23,24,5,25,26,27,28,29,30,31,32,33,6,34,35,36,37,38,39,40,41,42,43,44,45,46,47,48,49,50,51,52,53,54,21]
  (.seq (.reg [.op (some 22) (.bin .lss (.t 21) (.t 20)) none])
   (.seq (.cond (.t 22)
   .skip
   (.exit 0))
   (.seq (.block 1
   (.seq (.reg [.op (some 23) (.idxA 3 (.t 19) (.t 21)) none,
     .op (some 24) (.load true 3 (.t 23)) none,
     .op (some 5) (.alloc 32 [(.int .i64 0),(.int .i64 0),(.slice none 0 0)]) none,
     .op none (.store 3 (.t 5) (.t 24)) none])
    (.seq (.reg [.op (some 25) (.fieldA 1 (.t 5)) none,
     .op (some 26) (.load false 1 (.t 25)) none,
     .op (some 27) (.bin .eql (.t 26) (.c (.int .i64 0))) none,
     .op (some 28) (.mov (.t 27)) none,
     .op (some 29) (.fieldA 2 (.t 5)) (some (28,true)),
     .op (some 30) (.load false 1 (.t 29)) (some (28,true)),
     .op (some 31) (.len (.t 30)) (some (28,true)),
     .op (some 32) (.bin .eql (.t 31) (.c (.int .i64 0))) (some (28,true)),
     .op (some 33) (.pick (.t 28) (.t 32) (.c (.bool false))) none,
     .op (some 6) (.mov (.t 33)) none])
    (.seq (.reg [.op (some 34) (.fieldA 0 (.t 5)) none,
     .op (some 35) (.load false 1 (.t 34)) none,
     .op (some 36) (.bin .eql (.t 35) (.c (.int .i64 0))) none,
     .op (some 37) (.mov (.t 36)) none,
     .op (some 38) (.mov (.t 6)) (some (37,true)),
     .op (some 39) (.un .not (.t 38)) (some (37,true)),
     .op (some 40) (.pick (.t 37) (.t 39) (.c (.bool false))) none,
     .op (some 41) (.mov (.t 40)) none,
     .op (some 42) (.fieldA 0 (.t 5)) (some (41,false)),
     .op (some 43) (.load false 1 (.t 42)) (some (41,false)),
     .op (some 44) (.bin .neq (.t 43) (.c (.int .i64 0))) (some (41,false)),
     .op (some 45) (.mov (.t 44)) (some (41,false)),
     .op (some 46) (.mov (.t 0)) (some (45,true)),
     .op (some 47) (.load true 3 (.t 5)) (some (45,true)),
     .op (some 48) (.call 59 [(.t 46),(.t 47)]) (some (45,true)),
     .op (some 49) (.un .not (.t 48)) (some (45,true)),
     .op (some 50) (.pick (.t 45) (.t 49) (.c (.bool false))) (some (41,false)),
     .op (some 51) (.pick (.t 41) (.c (.bool true)) (.t 50)) none])
    (.cond (.t 51)
    (.reg [.op (some 52) (.build [(.int .i64 0)] [(0,1,(.c (.int .i64 1)))]) none,
      .op (some 53) (.mkif 98 (.t 52)) none,
      .pc none (.pan (.t 53)) none])
    .skip)))))
   (.reg [.op (some 54) (.bin .add (.t 21) (.c (.int .i64 1))) none,
    .op (some 21) (.mov (.t 54)) none])))))))
theorem WI:low Try.prog O4 k1=some z1:=by kernel_rfl
def z8:ay:=(.reg [.op (some 55) (.mov (.t 0)) none,
  .op (some 56) (.nilck (.t 55)) none,
  .op (some 57) (.fieldA 0 (.t 56)) none,
  .op (some 58) (.load false 1 (.t 57)) none,
  .op (some 59) (.len (.t 58)) none,
  .op (some 60) (.mov (.c (.int .i64 0))) none])
theorem WJ:low Try.prog O4 k8=some z8:=by kernel_rfl
def z9:ay:=(.reg [.op (some 61) (.bin .lss (.t 60) (.t 59)) none])
theorem WK:low Try.prog O4 k9=some z9:=by kernel_rfl
def zc:ay:=(.cond (.t 61)
 .skip
 (.exit 2))
theorem WL:low Try.prog O4 kc=some zc:=by kernel_rfl
def UY:ay:=(.reg [.op (some 62) (.mov (.t 60)) none,
  .op (some 7) (.mov (.t 62)) none])
theorem TA:low Try.prog O4 k10=some UY:=by kernel_rfl
def TB:ay:=(.reg [.op (some 63) (.mov (.t 0)) none,
  .op (some 64) (.mov (.t 7)) none,
  .op (some 65) (.build [(.int .i64 0),(.int .i64 0),(.slice none 0 0)] [(0,1,(.c (.int .i64 9))),(1,1,(.t 64))]) none,
  .pc (some 66) (.call 64 [(.t 63),(.t 65)]) none,
  .op (some 67) (.bin .gtr (.t 66) (.c (.int .i64 8))) none])
theorem TD:low Try.prog O4 k11=some TB:=by kernel_rfl
def XZ:ay:=(.reg [.op (some 71) (.bin .add (.t 60) (.c (.int .i64 1))) none,
  .op (some 60) (.mov (.t 71)) none])
theorem TF:low Try.prog O4 k13=some XZ:=by kernel_rfl
section
variable {L:TL}{ρ:aK}
theorem Qt (ks:List Nat) {f:Nat}{args a:List C}{K:TL->aK->C->Prop}{x:C}{Lin Lin' Lo:List TO}(h:iD P f a Lin' (aU Lo x)) (d:L.sub ks=some Lin) (e:T.aP ks=true)
  (j:(args.map fun c=>c.aaj.ren (bA ks 1000))=a) (n:Lin.map (TO.aad (C.ren (bA ks 1000)))=Lin') (b:ks.length=Lo.length)
  (k:K ((L.aae ks).puts ks (Lo.map (TO.aad (C.ren (aI ks))))) ρ (x.ren (aI ks)).slt):qa P f args L ρ K:=by
 subst j n;exact .inpl ks Lin _ d e h fun v Mo ⟨l,m⟩ _ _=>by subst l m;exact⟨b,k⟩
end
def HS (M0:TL) (e:Int) (len i:Nat):TK:=fun M τ=>M=M0/\τ 0=.own 1000 0/\τ 1=IC e/\τ 59=IC len/\τ 60=IC i
theorem DV {n:Int}{t:Ty}(h:t.kind=0):eG n t=(decide (t.id=0)&&decide (t.args.length=0)):=o5 h
theorem yN {n:Int}{t:Ty}(h:¬t.kind=0):eG n t=ins n t:=q9 h
def TG (s:List Ty) (d:DM) (o:OM):TL:=[(10,.map (i9 IC d)),(11,.map (i9 C.bool o)),(1000,.box 93 [.rw 1001,.mpr 10,.mpr 11]),(1001,.row 32 3 (s.map aM))]
theorem TH (s:List Ty) (e:Int) (PS:Value->Prop) (z:s.all (eG s.length)=false->PS (cA 1)) (n:s.length<=9223372036854775807) :
  evalTC P ⟨PS,[],none⟩ (.seq z0 (.seq z1 z8)) (fun _ _ _=>False) (fun _ _=>False) (fun M τ=>s.all (eG s.length)=true/\HS (TG s [] []) e s.length 0 M τ) (cC (o9 s)) (jN 0 [.own 1000 0,IC e]):=by
 have p:∀t:Ty,iD P 59 [.own 1000 0,aT t] [.box 93 [.rw 1001,.mpr 1002,.mpr 1003],.row 32 3 (s.map aM),.map [],.map []] (aU [.box 93 [.rw 1001,.mpr 1002,.mpr 1003],.row 32 3 (s.map aM),.map [],.map []] (.bool (ins s.length t))):=fun t=>O3 fun k y=>Tk k s.length [] [] (by rw[y,aaP]) n t;have h:(s.map aM).length=s.length:=aaP _;have u:=fun t=>@DV s.length t;have o:=fun t=>@yN s.length t;generalize eG (s.length:Int)=f at z u o ⊢;refine cu s.length 21 [19] () (fun _=>[.rw 1001]) (fun _=>[(10,.map []),(11,.map []),(1000,.box 93 [.rw 1001,.mpr 10,.mpr 11]),(1001,.row 32 3 (s.map aM))]) (fun k _=>(s.drop k).all f=s.all f) rfl (ak rfl) ⟨ak rfl,trivial⟩ ⟨.inl ⟨_,rfl,.inl ⟨rfl,rfl⟩⟩,.inl ⟨_,rfl,.inl ⟨rfl,rfl⟩⟩,.inl ⟨_,rfl,.inl ⟨rfl,rfl⟩⟩,.inl ⟨_,rfl,.inl ⟨rfl,rfl⟩⟩,trivial⟩ (fun _=>rfl) (fun _=>rfl) ?_;rintro k _ y b _ _ _;refine ah (fun a=>?_) (fun l=>?_)
 ·have a:k<s.length:=by rw[h] at a;omega
  refine aZ a fun x hx aa j=>?_;have r:(x.args.map aM).length=x.args.length:=aaP _;have c:f x=false->PS (cA 1):=fun q=>z (K1 j b q).symm;refine FH.mk (by omega) (by rw[h];omega) ?_;refine RH hx ?_;refine ah (fun h1=>ah (fun d=>?_) (fun d=>?_)) (fun h1=>ah (fun d=>?_) (fun d=>?_))
  ·have w:f x=decide (x.args.length=0):=by rw[u x d,aaS h1,aaV]
   refine aX (fun v=>?_) (fun v=>?_)
   ·exact py rfl (c (by rw[w];exact aaT (by rw[r] at v;omega)))
   refine aX (fun q=>vv d q) (fun _=>?_);refine Fit.aag (by omega) (by omega) ?_;exact⟨(k+1,()),⟨a,nS j b (by rw[w];exact aaS (by rw[r] at v;omega))⟩,⟨bS,ak rfl,trivial⟩,⟨.inl ⟨_,rfl,.inl ⟨rfl,rfl⟩⟩,.inl ⟨_,rfl,.inl ⟨rfl,rfl⟩⟩,.inl ⟨_,rfl,.inl ⟨rfl,rfl⟩⟩,.inl ⟨_,rfl,.inl ⟨rfl,rfl⟩⟩,trivial⟩,bV a⟩
  ·refine aX (fun _=>?_) (fun q=>vv q d);refine Qt [1000,1001,10,11] (p x) rfl rfl rfl rfl rfl ?_;refine aq (fun m=>?_) (fun m=>?_)
   ·exact py rfl (c (by rw[o x d];simpa using m))
   refine Fit.aag (by omega) (by omega) ?_;exact⟨(k+1,()),⟨a,nS j b (by rw[o x d];simpa using m)⟩,⟨bS,ak rfl,trivial⟩,⟨.inl ⟨_,rfl,.inl ⟨rfl,rfl⟩⟩,.inl ⟨_,rfl,.inl ⟨rfl,rfl⟩⟩,.inl ⟨_,rfl,.inl ⟨rfl,rfl⟩⟩,.inl ⟨_,rfl,.inl ⟨rfl,rfl⟩⟩,trivial⟩,bV a⟩
  ·exact py rfl (c (by rw[u x d,aaT h1,aaY]))
  ·refine aX (fun _=>?_) (fun q=>vv q d);refine Qt [1000,1001,10,11] (p x) rfl rfl rfl rfl rfl ?_;refine aq (fun m=>?_) (fun m=>?_)
   ·exact py rfl (c (by rw[o x d];simpa using m))
   refine Fit.aag (by omega) (by omega) ?_;exact⟨(k+1,()),⟨a,nS j b (by rw[o x d];simpa using m)⟩,⟨bS,ak rfl,trivial⟩,⟨.inl ⟨_,rfl,.inl ⟨rfl,rfl⟩⟩,.inl ⟨_,rfl,.inl ⟨rfl,rfl⟩⟩,.inl ⟨_,rfl,.inl ⟨rfl,rfl⟩⟩,.inl ⟨_,rfl,.inl ⟨rfl,rfl⟩⟩,trivial⟩,bV a⟩
 ·have l:¬k<s.length:=by rw[h] at l;omega
  exact⟨(Gz l b).symm,rfl,rfl,rfl,xo IC (by rw[h]),rfl⟩
def TI (s:List Ty) (d:DM) (o:OM):TL:=[(10,.map (i9 IC d)),(11,.map (i9 C.bool o)),(1000,.box 93 [.sl (s.map aM),.mpr 10,.mpr 11])]
theorem TJ (s:List Ty) (e:Int) (PS:Value->Prop) (y:s.all (eG s.length)=false->PS (cA 1)) (w:s.length<=9223372036854775807) :
  evalTC P ⟨PS,[],none⟩ (.seq z0 (.seq z1 z8)) (fun _ _ _=>False) (fun _ _=>False) (fun M τ=>s.all (eG s.length)=true/\HS (TI s [] []) e s.length 0 M τ) (cC (ur s)) (jN 0 [.own 1000 0,IC e]):=by
 have o:=fun t=>K4 s [] [] t;have j:(s.map aM).length=s.length:=aaP _;have r:=fun t=>@DV s.length t;have n:=fun t=>@yN s.length t;generalize eG (s.length:Int)=f at y r n ⊢;refine cu s.length 21 [] () (fun _=>[]) (fun _=>[(10,.map []),(11,.map []),(1000,.box 93 [.sl (s.map aM),.mpr 10,.mpr 11])]) (fun k _=>(s.drop k).all f=s.all f) rfl (ak rfl) trivial ⟨.inl ⟨_,rfl,.inl ⟨rfl,rfl⟩⟩,.inl ⟨_,rfl,.inl ⟨rfl,rfl⟩⟩,.inl ⟨_,rfl,.inl ⟨rfl,rfl⟩⟩,trivial⟩ (fun _=>rfl) (fun _=>rfl) ?_;rintro k _ hk b _ _ _;refine ah (fun a=>?_) (fun l=>?_)
 ·have a:k<s.length:=by rw[j] at a;omega
  refine aZ a fun x hx z h=>?_;have p:(x.args.map aM).length=x.args.length:=aaP _;have c:f x=false->PS (cA 1):=fun q=>y (K1 h b q).symm;refine cP hx ?_;refine ah (fun h1=>ah (fun d=>?_) (fun d=>?_)) (fun h1=>ah (fun d=>?_) (fun d=>?_))
  ·have v:f x=decide (x.args.length=0):=by rw[r x d,aaS h1,aaV]
   refine aX (fun u=>?_) (fun u=>?_)
   ·exact py rfl (c (by rw[v];exact aaT (by rw[p] at u;omega)))
   refine aX (fun q=>vv d q) (fun _=>?_);refine Fit.aag (by omega) (by omega) ?_;exact⟨(k+1,()),⟨a,nS h b (by rw[v];exact aaS (by rw[p] at u;omega))⟩,⟨bS,trivial⟩,⟨.inl ⟨_,rfl,.inl ⟨rfl,rfl⟩⟩,.inl ⟨_,rfl,.inl ⟨rfl,rfl⟩⟩,.inl ⟨_,rfl,.inl ⟨rfl,rfl⟩⟩,trivial⟩,bV a⟩
  ·refine aX (fun _=>?_) (fun q=>vv q d);refine callO [1000,10,11] [1000,10,11] (o x) rfl rfl rfl rfl rfl fun _ _=>?_;refine aq (fun m=>?_) (fun m=>?_)
   ·exact py rfl (c (by rw[n x d];simpa using m))
   refine Fit.aag (by omega) (by omega) ?_;exact⟨(k+1,()),⟨a,nS h b (by rw[n x d];simpa using m)⟩,⟨bS,trivial⟩,⟨.inl ⟨_,rfl,.inl ⟨rfl,rfl⟩⟩,.inl ⟨_,rfl,.inl ⟨rfl,rfl⟩⟩,.inl ⟨_,rfl,.inl ⟨rfl,rfl⟩⟩,trivial⟩,bV a⟩
  ·exact py rfl (c (by rw[r x d,aaT h1,aaY]))
  ·refine aX (fun _=>?_) (fun q=>vv q d);refine callO [1000,10,11] [1000,10,11] (o x) rfl rfl rfl rfl rfl fun _ _=>?_;refine aq (fun m=>?_) (fun m=>?_)
   ·exact py rfl (c (by rw[n x d];simpa using m))
   refine Fit.aag (by omega) (by omega) ?_;exact⟨(k+1,()),⟨a,nS h b (by rw[n x d];simpa using m)⟩,⟨bS,trivial⟩,⟨.inl ⟨_,rfl,.inl ⟨rfl,rfl⟩⟩,.inl ⟨_,rfl,.inl ⟨rfl,rfl⟩⟩,.inl ⟨_,rfl,.inl ⟨rfl,rfl⟩⟩,trivial⟩,bV a⟩
 ·have l:¬k<s.length:=by rw[j] at l;omega
  exact⟨(Gz l b).symm,rfl,rfl,rfl,xo IC (by rw[j]),rfl⟩
theorem lH {a b:Nat}(h:¬a=b):Nat.beq a b=false:=by
 cases c:Nat.beq a b with
 | true=>exact vv (aaR c) h
 | false=>rfl
def MS (G:Nat->Option (Nat×TypeId)) (F0:au) (Li:List Own) (w0:World) (K:TK) (a:Act) (w:World):Prop :=
 ∃F L ρ M τ,St F L w/\aA L ρ a/\TS G F L ρ M τ/\a.tmps.size=72/\Step F0 (inp Li) w0 F L w/\K M τ
section
variable {G:Nat->Option (Nat×TypeId)}{F0:au}{Li:List Own}{w0:World}
theorem MS.piece {c:Code}{r:ay}(hl:low Try.prog O4 c=some r) (x:fH r=[]) {PS:nG}{E:Nat->TK}{N K:TK}{a:Act}{w:World}(h:MS G F0 Li w0 K a w)
  (z:∀M τ,K M τ->evalTC P PS r E (fun _ _=>False) N M τ) {Q:Exit->Act->World->Prop}
  (y:∀a' w',a'.defers=a.defers->MS G F0 Li w0 N a' w'->Q .normal a' w')
  (hE:∀j a' w',a'.defers=a.defers->MS G F0 Li w0 (E j) a' w'->Q (.exit j) a' w')
  (hP:∀v q a' w',rK v q->a'.defers=a.defers->PS.ps v->(∃F' L',St F' L' w'/\Step F0 (inp Li) w0 F' L' w'/\Kp G L')->Q (.panic q) a' w'):c.wp P Q a w:=by
 obtain⟨F,L,ρ,M,τ,g1,g2,g3,g4,t,n⟩:=h;refine wp_mono (fp c hl (fun k n=>by rw[x] at n;cases n) g1 g2 g3 g4 (z M τ n)) ?_;intro e a' w' d;cases e with
 | normal =>
  obtain⟨F',L',ρ',k1,f,o,m,p,k6,M',b,u,k8⟩:=d;exact y a' w' m ⟨F',L',ρ',M',b,k1,f,u,o,t.trans p,k8⟩
 | exit j =>
  obtain⟨F',L',ρ',k1,f,o,m,p,k6,M',b,u,k8⟩:=d;exact hE j a' w' m ⟨F',L',ρ',M',b,k1,f,u,o,t.trans p,k8⟩
 | ret=>obtain⟨F',L',ρ',_,_,_,_,_,_,M',b,_,h⟩:=d;exact h.elim
 | goto l=>exact d.elim
 | panic q =>
  obtain⟨v,s,F',L',k1,f,o,m,p,kp,hp,_⟩:=d;exact hP v q a' w' s m hp ⟨F',L',k1,t.trans f,kp⟩
 | outgrown=>exact d.elim
def hE (e:Int) (len i:Nat):aK:=bq (some 0) (.own 1000 0) (bq (some 1) (IC e) (bq (some 59) (IC len) (bq (some 60) (IC i) fun _=>.any)))
theorem O5 {F:au}{L:Loc}{ρ:Env}{τ:aK}{e:Int}{len i:Nat}(h:∀j,aJ F L (τ j) (ρ j)) (h0:τ 0=.own 1000 0) (h1:τ 1=IC e) (a:τ 59=IC len) (b:τ 60=IC i):∀j,aJ F L (hE e len i j) (ρ j):=by
 intro j
 by_cases d:j=0
 ·subst d;have:=h 0;rw[h0] at this;exact this
 by_cases k:j=1
 ·subst k;have:=h 1;rw[h1] at this;exact this
 by_cases f:j=59
 ·subst f;have:=h 59;rw[a] at this;exact this
 by_cases c:j=60
 ·subst c;have:=h 60;rw[b] at this;exact this
 have l:Nat.beq j 0=false:=lH d;have m:Nat.beq j 1=false:=lH k;have o:Nat.beq j 59=false:=lH f;have n:Nat.beq j 60=false:=lH c;simp only[hE,bq,l,m,o,n];trivial
theorem MS.weak {K:TK}{a:Act}{w:World}{M0:TL}{e:Int}{len i:Nat}(h:MS G F0 Li w0 K a w) (j:∀M τ,K M τ->HS M0 e len i M τ):MS G F0 Li w0 (fun M τ=>M=M0/\τ=hE e len i) a w:=by
 obtain⟨F,L,ρ,M,τ,n,k,b,o,d,f⟩:=h;obtain⟨h1,m,c,p,l⟩:=j M τ f;exact⟨F,L,ρ,M,hE e len i,n,k,⟨b.tl,O5 b.env m c p l,b.kp,b.glob⟩,o,d,h1,rfl⟩
theorem MS.mono {K K':TK}{a:Act}{w:World}(h:MS G F0 Li w0 K a w) (b:∀M τ,K M τ->K' M τ):MS G F0 Li w0 K' a w:=by
 obtain⟨F,L,ρ,M,τ,k,j,d,c,e,f⟩:=h;exact⟨F,L,ρ,M,τ,k,j,d,c,e,b M τ f⟩
theorem MS.int {K:TK}{a:Act}{w:World}{j:Nat}{x:Int}(h:MS G F0 Li w0 K a w) (c:∀M τ,K M τ->τ j=IC x):a.tmps.getD j undef=.int .i64 x:=by
 obtain⟨F,L,ρ,M,τ,k,e,d,l,f,b⟩:=h;have:=d.env j;rw[c M τ b] at this;simp only[aJ,Rel] at this;obtain⟨v,h1,rfl,_⟩:=this;rw[e.eq j,h1];rfl
theorem MS.bool {K:TK}{a:Act}{w:World}{j:Nat}{x:Bool}(h:MS G F0 Li w0 K a w) (c:∀M τ,K M τ->τ j=.bool x):a.tmps.getD j undef=.bool x:=by
 obtain⟨F,L,ρ,M,τ,k,e,d,l,f,b⟩:=h;have:=d.env j;rw[c M τ b] at this;simp only[aJ,Rel] at this;obtain⟨v,h1,rfl⟩:=this;rw[e.eq j,h1];rfl
theorem MS.wr {M0:TL}{e:Int}{len i:Nat}{a:Act}{w:World}{d:Nat}{v:Value}(h:MS G F0 Li w0 (fun M τ=>M=M0/\τ=hE e len i) a w) (y:d<72) (h0:d≠0) (h1:d≠1) (r:d≠59) (m:d≠60) :
  MS G F0 Li w0 (fun M τ=>M=M0/\τ=hE e len i) (a.put (some d) v) w:=by
 obtain⟨F,L,ρ,M,τ,t,p,c,u,n,rfl,rfl⟩:=h;refine⟨F,L,Fr.put (some d) (.v v) ρ,M,_,t,p.put (d:=some d) (x:=.v v) (fun k hk=>by injection hk with hk;subst hk;omega) rfl cq eJ (fun k g ty cs e=>⟨cs,e⟩),⟨c.tl,fun j=>?_,c.kp,c.glob⟩,by rw[jx];exact u,n,rfl,rfl⟩
 by_cases f:j=d
 ·subst f;have l:Nat.beq j 0=false:=lH h0;have o:Nat.beq j 1=false:=lH h1;have s:Nat.beq j 59=false:=lH r;have q:Nat.beq j 60=false:=lH m;simp only[hE,bq,l,o,s,q];trivial
 ·have:Fr.put (some d) (.v v) ρ j=ρ j:=by
   have b:Nat.beq j d=false:=lH f;simp only[Fr.put,b]
  rw[this];exact c.env j
theorem MS.defers {K:TK}{a:Act}{w:World}{ds:List Deferred}(h:MS G F0 Li w0 K a w):MS G F0 Li w0 K {a with defers:=ds} w:=by
 obtain⟨F,L,ρ,M,τ,j,b,d,c,e,f⟩:=h;exact⟨F,L,ρ,M,τ,j,⟨b.eq,b.own,b.el⟩,d,c,e,f⟩
theorem R0:k12=.region 12 #[{dst:=some 68,op:=.move (.tmp 1),type:=45,pos:="unify.go:115",after:=#[],guard:=none},
  {dst:=some 69,op:=.build 98 #[(0,.tmp 68)],type:=98,pos:="unify.go:115",after:=#[{on:=0,ground:=Ground.data}],guard:=none},
  {dst:=some 70,op:=.makeInterface 98 (.tmp 69),type:=20,pos:="unify.go:115",after:=#[{on:=1,ground:=Ground.data}],guard:=none},
  {dst:=none,op:=.defer {callee:=.builtin .panic,args:=#[.tmp 70],argTypes:=#[20]},type:=0,pos:="unify.go:115",after:=#[{on:=2,ground:=Ground.data}],guard:=none}] false:=by kernel_rfl
theorem WM {a:Act}{w:World}{e:Int}{Q:Exit->Act->World->Prop}(d:a.tmps.size=72) (h1:a.tmps.getD 1 undef=.int .i64 e)
  (h:∀x y z,Q .normal {(((a.put (some 68) x).put (some 69) y).put (some 70) z) with defers:=sH (cA e)::a.defers} w):k12.wp P Q a w:=by
 rw[R0];apply wp_region;have b:a.tmps[1]?.getD undef=.int .i64 e:=by rw[<-aa8];exact h1
 have c:∀q:1<a.tmps.size,a.tmps[1]'q=.int .i64 e:=fun q=>by rw[Array.getElem?_eq_getElem q] at b;exact b
 simp[wpOps,go_sem,Region.wanted,d,b,c,Array.getElem?_setIfInBounds];exact .inl (.inl (.inl (.inl (h (.int .i64 e) (.agg #[.int .i64 e]) (.iface 98 (.agg #[.int .i64 e]))))))
end
theorem yO {s:List Ty}{n:Nat}:∀{N:Nat}{y:Option (Bool×DM×OM)},dw s n N=some y->∀i≤N,∃x,dw s n i=some x
 | 0,y,h,i,hi=>⟨y,by rw[show i=0 by omega];exact h⟩
 | N+1,y,h,i,hi=>by
  by_cases e:i=N+1
  ·exact⟨y,by rw[e];exact h⟩
  ·rw[dw] at h;cases h1:dw s n N with
   | none=>simp only[h1] at h;cases h
   | some x=>exact yO h1 i (by omega)
theorem yP {s:List Ty}{n i:Nat}(h:dw s n i=some none):∀k,dw s n (i+k)=some none
 | 0=>h
 | k+1=>by rw[<-Nat.add_assoc,dw,yP h k]
theorem Fs {s:List Ty}{n i:Nat}{b:Bool}{d:DM}{o:OM}{y:Option (Bool×DM×OM)}(h:dw s n i=some (some (b,d,o))) (a:dw s n (i+1)=some y) :
  ∃c,bE s n (vr i) d o=some c/\(c=none->y=none)/\∀k e o',c=some (k,e,o')->y=some (b||decide (k>8),e,o'):=by
 rw[dw] at a;simp only[h] at a;cases f:bE s n (vr i) d o with
 | none=>simp only[f] at a;cases a
 | some c =>
  refine⟨c,rfl,?_,?_⟩
  ·rintro rfl;simp only[f] at a;injection a with a;exact a.symm
  ·rintro k e o' rfl;simp only[f] at a;injection a with a;exact a.symm
end Go.Fr.Try
