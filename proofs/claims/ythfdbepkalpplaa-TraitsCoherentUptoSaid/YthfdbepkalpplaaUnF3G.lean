/- Part of the proofs of the statements of this seat. -/
import Derived.Test.YthfdbepkalpplaaUnG2G
import Derived.Defers
set_option maxRecDepth 10000
set_option linter.unusedVariables false
set_option linter.unusedSimpArgs false
namespace Go.Fr.Try
open Go Go.RowKit Go.Proofs Go.Fr Go.Fr.T Go.Fr.Api
def Je (o:OM):Nat->Nat
 | 0=>0
 | i+1=>Je o i+(if br o i=some true then 0 else 1)
def Q7 (o o':OM):Prop:=∀i,br o i=some true->br o' i=some true
theorem FX {o o':OM}(h:Q7 o o'):∀n,Je o' n<=Je o n
 | 0=>aa0 _
 | n+1=>by
  rw[Je,Je];have:=FX h n
  by_cases e:br o n=some true
  ·rw[eu e,eu (h _ e)];omega
  ·rw[fo e];split<;>omega
theorem Mb {o o':OM}(h:Q7 o o') {i:Nat}(h1:¬br o i=some true) (a:br o' i=some true):∀n,i<n->Je o' n<Je o n
 | 0,hi=>fL hi (abz _)
 | n+1,hi=>by
  rw[Je,Je]
  by_cases e:i=n
  ·subst e;rw[fo h1,eu a];have:=FX h i;omega
  ·have:=Mb h h1 a n (by omega)
   by_cases e:br o n=some true
   ·rw[eu e,eu (h _ e)];omega
   ·rw[fo e];split<;>omega
theorem Q7.set (o:OM) (i:Int):Q7 o (eI o i true):=fun j h=>by
 rw[iK];split
 ·rfl
 ·exact h
def Ht (s:List Ty) (t:Ty) (d:DM) (o:OM):Prop:=∃n r,bI s n t d o=some r/\∀k a o',r=some (k,a,o')->Q7 o o'
theorem v9 {s:List Ty}{K:Nat}:∀(l:List Ty),(∀x∈l,∀d o,Je o s.length<K->Ht s x d o)->∀k d o,Je o s.length<K->∃n r,eH (bI s n) l k d o=some r/\∀k a o',r=some (k,a,o')->Q7 o o'
 | [],_,k,d,o,_=>⟨0,_,rfl,fun f a o' e=>by injection e with e;injection e with _ e;injection e with _ e;subst e;exact fun i h=>h⟩
 | x::l,h,k,d,o,u=>by
  obtain⟨n,r,h1,y⟩:=h x (by simp) d o u;cases r with
  | none=>exact⟨n,none,by rw[eH,h1],fun k a o' e=>by cases e⟩
  | some q =>
   obtain⟨f,a,o'⟩:=q;have c:=y f a o' rfl;obtain⟨m,r,t,j⟩:=v9 l (fun x w=>h x (by simp[w])) (if f>k then f else k) a o' (by have:=FX c s.length;omega);refine⟨max n m,r,?_,fun k v p e i hi=>j k v p e i (c i hi)⟩;rw[eH,gW (Nat.le_max_left n m) h1];exact sQ (fun x d o b hb=>gW (Nat.le_max_right n m) hb) t
theorem Bx {n:Nat}{s:List Ty}{t x:Ty}{d:DM}{o:OM}(he:(if t.kind=9 then bW s t else some (.mk 0 0 []))=some x) (a:x.kind=0):bI s (n+1) t d o=(match eH (bI s n) t.args 0 d o with
    | some (some (k,b,o'))=>some (some (zR (k+1),b,o'))
    | some none=>some none
    | none=>none):=by
 rw[bI,he];simp only;rw[fo (fun q=>q a)];rfl
theorem Jf {n:Nat}{s:List Ty}{t x:Ty}{d:DM}{o:OM}(c:t.kind=9) (he:bW s t=some x) (b:¬x.kind=0) (a:br d t.id=none) (e:¬br o t.id=some true) {r:Option (Int×DM×OM)}(h:bI s n x d (eI o t.id true)=some r):bI s (n+1) t d o=some (r.map fun p=>(p.1,eI p.2.1 t.id p.1,p.2.2)):=by
 rw[bI,eu c,he];simp only;rw[eu b,a];simp only;cases f:br o t.id with
 | none =>
  rw[h];cases r<;>rfl
 | some u =>
  cases u with
  | true=>exact fL f e
  | false =>
   rw[h];cases r<;>rfl
theorem ze {s:List Ty}(y:EX s):∀(K:Nat) (t:Ty),ins s.length t=true->∀d o,Je o s.length<K->Ht s t d o
 | 0=>fun t _ d o h=>fL h (abz _)
 | K+1=>dc (p:=fun t=>ins s.length t=true->∀d o,Je o s.length<K+1->Ht s t d o) fun t ih m d o q=>by
  have a:∀x,(if t.kind=9 then bW s t else some (.mk 0 0 []))=some x->x.kind=0->Ht s t d o:=fun x he b=>by
   obtain⟨n,r,h1,w⟩:=v9 t.args (fun x v d o q=>ih x v (fe m x v) d o q) 0 d o q;refine⟨n+1,r.map fun p=>(zR (p.1+1),p.2.1,p.2.2),?_,fun k u o' e=>?_⟩
   ·rw[Bx he b,h1];cases r with
    | none=>rfl
    | some p=>rfl
   ·cases r with
    | none=>cases e
    | some p =>
     obtain⟨k1,d1,o1⟩:=p;simp only[abo] at e;injection e with e
     injection e with _ e
     injection e with _ e
     subst e;exact w _ _ _ rfl
  by_cases f:t.kind=9
  ·obtain⟨x,he,v⟩:=za m f
   by_cases b:x.kind=0
   ·exact a x (by rw[eu f];exact he) b
   obtain⟨i,hi,_,j⟩:=y9 m f;have z:(if t.kind=9 then bW s t else some (.mk 0 0 []))=some x:=by rw[eu f];exact he
   cases l:br d t.id with
   | some k=>exact⟨1,_,by rw[bI,z];simp only;rw[eu b,l],fun k u o' e=>by injection e with e;injection e with _ e;injection e with _ e;subst e;exact fun i h=>h⟩
   | none =>
    by_cases c:br o t.id=some true
    ·exact⟨1,none,by rw[bI,z];simp only;rw[eu b,l,c],fun k u o' e=>by cases e⟩
    ·have ab:=Mb (Q7.set o t.id) (i:=i) (by rw[<-j];exact c) (by rw[iK,eu j.symm]) s.length hi;obtain⟨n,r,h1,w⟩:=ze y K x (y.elem he b) d (eI o t.id true) (by omega);refine⟨n+1,r.map fun p=>(p.1,eI p.2.1 t.id p.1,p.2.2),?_,fun k u o' e=>?_⟩
     ·exact Jf f he b l c h1
     ·cases r with
      | none=>cases e
      | some p =>
       obtain⟨k1,d1,o1⟩:=p;simp only[abo] at e;injection e with e
       injection e with _ e
       injection e with _ e
       subst e;exact fun i hi=>w _ _ _ rfl i (Q7.set o t.id i hi)
  ·exact a _ (by rw[fo f]) rfl
theorem Eo {s:List Ty}(a:EX s) {t:Ty}(b:ins s.length t=true) (d:DM) (o:OM):∃n r,bI s n t d o=some r:=by
 obtain⟨n,r,h,_⟩:=ze a _ t b d o (abT _);exact⟨n,r,h⟩
theorem Bz {s:List Ty}(h:s.all (eS s.length)=true):EX s:=fun x a=>by
 have:=(aaY.1 h) x a;unfold eS at this;split at this
 ·rename_i b;exact .inl b
 ·exact .inr this
theorem wg {s:List Ty}(a:EX s):∀i,i<=s.length->∃n r,dI s n i=some r
 | 0,_=>⟨0,_,rfl⟩
 | i+1,hi=>by
  obtain⟨n,r,h1⟩:=wg a i (by omega);cases r with
  | none=>exact⟨n,none,by rw[dI,h1]⟩
  | some p =>
   obtain⟨b,d,o⟩:=p;obtain⟨m,r,c⟩:=Eo a (sV (show i<s.length by omega)) d o;cases r with
   | none=>exact⟨max n m,none,by rw[dI,pD (Nat.le_max_left n m) h1];simp only;rw[gW (Nat.le_max_right n m) c]⟩
   | some q=>exact⟨max n m,some (b||decide (q.1>8),q.2.1,q.2.2),by rw[dI,pD (Nat.le_max_left n m) h1];simp only;rw[gW (Nat.le_max_right n m) c]⟩
theorem wh (s:List Ty):∃n r,bJ s n=some r:=by
 cases a:s.all (eS s.length) with
 | false=>exact⟨0,none,by unfold bJ;rw[fo (by rw[a];exact aa7)]⟩
 | true =>
  obtain⟨n,r,h⟩:=wg (Bz a) s.length (aa0 _);cases r with
  | none=>exact⟨n,none,by unfold bJ;rw[eu a,h]⟩
  | some p =>
   obtain⟨b,d,o⟩:=p;cases b with
   | true=>exact⟨n,none,by unfold bJ;rw[eu a,h];rfl⟩
   | false=>exact⟨n,some (d,o),by unfold bJ;rw[eu a,h];rfl⟩
def Xf (s:List Ty) (i:Int):Prop:=∀t:Ty,t.kind=9->t.id=i->j8 s t
def Ep (s:List Ty) (d:DM):Prop:=∀i,br d i≠none->Xf s i
theorem BA {s:List Ty}{n:Nat}:∀{l:List Ty},(∀x∈l,∀d o k a o',bI s n x d o=some (some (k,a,o'))->Ep s d->j8 s x/\Ep s a)->∀{k:Int}{d:DM}{o:OM}{f:Int}{a:DM}{o':OM},eH (bI s n) l k d o=some (some (f,a,o'))->Ep s d->(∀x∈l,j8 s x)/\Ep s a
 | [],_,k,d,o,f,a,o',h,e=>by
  rw[eH] at h;injection h with h
  injection h with h
  injection h with _ h
  injection h with h _
  subst h;exact⟨fun x c=>(by cases c),e⟩
 | x::l,c,k,d,o,f,a,o',h,e=>by
  rw[eH] at h;cases h1:bI s n x d o with
  | none=>rw[h1] at h;cases h
  | some r =>
   rw[h1] at h;cases r with
   | none=>cases h
   | some p =>
    obtain⟨k1,m,v⟩:=p;obtain⟨q,t⟩:=c x (by simp) d o k1 m v h1 e;obtain⟨j,u⟩:=BA (fun y b=>c y (by simp[b])) h t;refine⟨fun y b=>?_,u⟩;rcases aaT.1 b with rfl | b
    ·exact q
    ·exact j y b
theorem Hu {s:List Ty}{t u:Ty}(h:u.id=t.id):bW s u=bW s t:=by unfold bW;rw[h]
theorem zf {s:List Ty}:∀{n:Nat}{t:Ty}{d:DM}{o:OM}{k:Int}{a:DM}{o':OM},bI s n t d o=some (some (k,a,o'))->Ep s d->j8 s t/\Ep s a
 | 0,t,d,o,k,a,o',h,_=>by cases h
 | n+1,t,d,o,k,a,o',h,l=>by
  rw[bI] at h;cases he:(if t.kind=9 then bW s t else some (.mk 0 0 [])) with
  | none=>simp only[he] at h;cases h
  | some x =>
   simp only[he] at h
   by_cases m:x.kind=0
   ·rw[fo (fun q=>q m)] at h;cases y:eH (bI s n) t.args 0 d o with
    | none=>simp only[y] at h;cases h
    | some r =>
     simp only[y] at h;cases r with
     | none=>cases h
     | some p =>
      obtain⟨k1,b,w⟩:=p;injection h with h
      injection h with h
      injection h with _ h
      injection h with h _
      subst h;obtain⟨v,z⟩:=BA (fun x _ d o k a o' h l=>zf h l) y l;refine⟨?_,z⟩
      by_cases c:t.kind=9
      ·rw[eu c] at he;exact .stop c he m v
      ·exact .arg c v
   ·rw[eu m] at h;have c:t.kind=9:=by
     by_cases c:t.kind=9
     ·exact c
     ·rw[fo c] at he;injection he with he
      exact fL (by rw[<-he];rfl) m
    rw[eu c] at he;cases j:br d t.id with
    | some k0 =>
     simp only[j] at h;injection h with h
     injection h with h
     injection h with _ h
     injection h with h _
     subst h;exact⟨l t.id (by rw[j];simp) t c rfl,l⟩
    | none =>
     simp only[j] at h;have key:∀k1 b w,bI s n x d (eI o t.id true)=some (some (k1,b,w))->j8 s t/\Ep s (eI b t.id k1):=by
      intro k1 b w hx;obtain⟨v,z⟩:=zf hx l;refine⟨.step c he m v,fun i hi=>?_⟩;rw[iK] at hi
      by_cases e:i=t.id
      ·intro u hu aa;exact .step hu ((Hu (aa.trans e)).trans he) m v
      ·rw[fo e] at hi;exact z i hi
     have fin:∀X:Option (Option (Int×DM×OM)),(match X with
       | some (some (k,a,o'))=>some (some (k,eI a t.id k,o'))
       | some none=>some none
       | none=>none)=some (some (k,a,o'))->∃b,X=some (some (k,b,o'))/\a=eI b t.id k:=by
      intro X f;cases X with
      | none=>cases f
      | some q =>
       cases q with
       | none=>cases f
       | some p =>
        obtain⟨k1,b,w⟩:=p;injection f with f
        injection f with f
        injection f with e1 f
        injection f with e2 e3
        subst e1 e3;exact⟨b,rfl,e2.symm⟩
     have ho:¬br o t.id=some true:=fun q=>by rw[q] at h;cases h
     have h:(match bI s n x d (eI o t.id true) with
       | some (some (k,a,o'))=>some (some (k,eI a t.id k,o'))
       | some none=>some none
       | none=>none)=some (some (k,a,o')):=by
      cases j:br o t.id with
      | none=>rw[j] at h;exact h
      | some u =>
       cases u with
       | true=>exact fL j ho
       | false=>rw[j] at h;exact h
     obtain⟨b,h1,h2⟩:=fin _ h;rw[h2];exact key _ _ _ h1
theorem BB {s:List Ty}{n:Nat}:∀{i:Nat}{b:Bool}{d:DM}{o:OM},dI s n i=some (some (b,d,o))->(∀j<i,j8 s (vr j))/\Ep s d
 | 0,b,d,o,h=>by
  rw[dI] at h;injection h with h
  injection h with h
  injection h with _ h
  injection h with h _
  subst h;exact⟨fun j c=>fL c (abz _),fun i hi=>fL rfl hi⟩
 | i+1,b,d,o,h=>by
  rw[dI] at h;cases h1:dI s n i with
  | none=>rw[h1] at h;cases h
  | some r =>
   rw[h1] at h;cases r with
   | none=>cases h
   | some p =>
    obtain⟨w,k,t⟩:=p;obtain⟨l,m⟩:=BB h1;simp only at h;cases a:bI s n (vr i) k t with
    | none=>rw[a] at h;cases h
    | some r =>
     rw[a] at h;cases r with
     | none=>cases h
     | some p =>
      obtain⟨v,x,u⟩:=p;injection h with h
      injection h with h
      injection h with _ h
      injection h with h _
      subst h;obtain⟨f,q⟩:=zf a m;refine⟨fun j c=>?_,q⟩
      by_cases e:j=i
      ·rw[e];exact f
      ·exact l j (by omega)
theorem pF {s:List Ty}{n:Nat}{d:DM}{o:OM}(h:bJ s n=some (some (d,o))):Good s:=by
 unfold bJ at h;split at h
 ·rename_i c;cases a:dI s n s.length with
  | none=>simp only[a] at h;cases h
  | some r =>
   cases r with
   | none=>simp only[a] at h;cases h
   | some p =>
    obtain⟨b,d,o⟩:=p;exact⟨Bz c,(BB a).1⟩
 ·cases h
theorem Er {s:List Ty}(g:Good s):∃n r,j3 s n=some r:=by
 have h1:∀i∈List.range s.length,∃n r,aQ s n (vr i)=some r:=fun i hi=>(g.fin i (List.mem_range.1 hi)).front;have j:∀i∈List.range s.length,∃n r,pA s n (vr i)=some r:=fun i hi=>(g.fin i (List.mem_range.1 hi)).ap;obtain⟨b,h1⟩:=oq (f:=fun n i=>aQ s n (vr i)) dJ h1;obtain⟨c,j⟩:=oq (f:=fun n i=>pA s n (vr i)) m9 j;have l:∀i,i<=s.length->∀d,∃r,ja s b i d=some r:=by
  intro i
  induction i with
  | zero=>exact fun _ d=>⟨d,rfl⟩
  | succ i h =>
   intro hi d;obtain⟨t,e⟩:=h1 i (List.mem_range.2 (by omega));obtain⟨r,a⟩:=h (by omega) (if t.kind=9 then eI d t.id i else d);exact⟨r,by rw[ja,e];exact a⟩
 obtain⟨m,o⟩:=l s.length (aa0 _) [];have k:∀i,i<=s.length->∃r,pV s c m i=some r:=by
  intro i
  induction i with
  | zero=>exact fun _=>⟨[],rfl⟩
  | succ i h =>
   intro hi;obtain⟨t,e⟩:=j i (List.mem_range.2 (by omega));obtain⟨r,a⟩:=h (by omega);exact⟨_,by rw[pV,a,e]⟩
 obtain⟨r,a⟩:=k s.length (aa0 _);refine⟨max b c,r,?_⟩;unfold j3;rw[sS (Nat.le_max_left b c) o];exact vH (Nat.le_max_right b c) a
theorem zh {s:List Ty}{a b:Ty}(h:nD s a b=true):ins s.length a=true/\ins s.length b=true/\cu a<=8/\cu b<=8:=by
 unfold nD at h;simp only[v5,Bool.not_eq_true',abY] at h;exact⟨h.1.1,h.1.2,by omega,by omega⟩
theorem Q8 (s:List Ty) (a b:Ty):∃n,Fuel n s a b/\(∀s',L5 n s a b s'->∃r,j3 s' n=some r)/\∀s',L5 n s a b s'->EY s s':=by
 obtain⟨c,r1,h1⟩:=wh s
 by_cases hc:(∃d o,r1=some (d,o))/\nD s a b=true
 ·obtain⟨⟨d,o,rfl⟩,x⟩:=hc;have g:=pF h1;obtain⟨i1,i2,_,_⟩:=zh x;obtain⟨f,r2,m,h3⟩:=zb _ s g (abT _) a b i1 i2;cases r2 with
  | none =>
   refine⟨max c f,⟨⟨_,kI (Nat.le_max_left c f) h1⟩,fun _ _=>⟨_,ic (Nat.le_max_right c f) m⟩,fun _ _ s' e=>?_,fun _ _ s' e=>?_⟩,fun s' e=>?_,fun s' e=>?_⟩
   ·rw[ic (Nat.le_max_right c f) m] at e;cases e
   ·rw[ic (Nat.le_max_right c f) m] at e;cases e
   ·have e:=e.2.2.1;rw[ic (Nat.le_max_right c f) m] at e;cases e
   ·have e:=e.2.2.1;rw[ic (Nat.le_max_right c f) m] at e;cases e
  | some s' =>
   have v:=h3 s' rfl;obtain⟨l,z,h4⟩:=wh s';obtain⟨k,r4,h5⟩:=Er v.good;have hd:∃j,∀d o,z=some (d,o)->∃r,bI s' j a d o=some r:=by
    cases z with
    | none=>exact⟨0,fun d o e=>by cases e⟩
    | some p =>
     obtain⟨j,r5,u⟩:=Eo v.good.ins (show ins s'.length a=true by rw[v.len];exact i1) p.1 p.2;exact⟨j,fun d o e=>by injection e with e;rw[e] at u;exact⟨r5,u⟩⟩
   obtain⟨j,u⟩:=hd;have b1:c<=c+f+l+k+j:=by omega
   have y:f<=c+f+l+k+j:=by omega
   have w:l<=c+f+l+k+j:=by omega
   have b4:k<=c+f+l+k+j:=by omega
   have b5:j<=c+f+l+k+j:=by omega
   generalize c+f+l+k+j=n at b1 y w b4 b5;have t:∀{h},lQ n s a b=some (some h)->h=s':=fun e=>by
    rw[ic y m] at e;injection e with e;injection e with e;exact e.symm
   refine⟨n,⟨⟨_,kI b1 h1⟩,fun _ _=>⟨_,ic y m⟩,fun _ _ h e=>?_,fun _ _ h e d o hf=>?_⟩,fun h e=>?_,fun h e=>?_⟩
   ·rw[t e];exact⟨_,kI w h4⟩
   ·rw[t e] at hf ⊢;rw[kI w h4] at hf;injection hf with hf
    obtain⟨r,hr⟩:=u d o hf;exact⟨r,gW b5 hr⟩
   ·rw[t e.2.2.1];exact⟨_,sU b4 h5⟩
   ·rw[t e.2.2.1];exact v
 ·have no:∀{X:Prop},(∃d o,bJ s c=some (some (d,o)))->nD s a b=true->X:=fun⟨d,o,e⟩ x=>by
   rw[h1] at e;injection e with e;exact fL ⟨⟨d,o,e⟩,x⟩ hc
  exact⟨c,⟨⟨_,h1⟩,fun q p=>no q p,fun q p=>no q p,fun q p=>no q p⟩,fun s' e=>no e.1 e.2.1,fun s' e=>no e.1 e.2.1⟩
theorem n9.mono {P:Program}{H:Nat}{PS PS':Value->Prop}{ns:List Nat}{out:Value->List (List Value)}(h:n9 P H PS ns out) (c:∀v,PS' v->PS v):n9 P H PS' ns out :=
 ⟨h.inv,h.idle,fun F b v a w d=>h.caught F b v a w (c v d)⟩
theorem Mc:∀{a:List Own}{n:Nat},Da a [n]->∃g t cs,a=[.box g (t+1) cs]/\cs.length=n
 | [],_,h=>h.elim
 | [o],n,h=>by
  cases o with
  | row=>exact h.1.elim
  | box g t cs =>
   cases t with
   | zero=>exact fL rfl (wW h.1)
   | succ t=>exact⟨g,t,cs,rfl,h.1⟩
 | _::_::_,_,h=>h.2.elim
def PL (v:Value):List (List Value):=match v with
 | .iface _ (.agg ⟨[.int _ n]⟩)=>[[.int .i64 n]]
 | _=>[]
theorem SB (c:List Own) (w:World) (hb:Da c [1]):CallsD P 93 (c.map lN).toArray .returning w fun e f w'=>e=.returned (.tuple #[])/\f=.returning/\w'=w:=by
 have h:Try.f93.ntmps=12:=by kernel_rfl
 have j:Try.f93.results=#[]:=by kernel_rfl
 obtain⟨g,t,cs,rfl,_⟩:=Mc hb;refine callsD_of_wpS Try.func93 rfl fun a cs d=>?_;apply wpS_seq;apply wpS_region;simp[wpOpsS,go_sem,recoverD,d,h,Exit.thenS,lN];refine wpS_of_wp (wp_block (wp_seq (wp_region ?_)));have b:P.underlying 20=some (.interface #[]):=by kernel_rfl
 have he:∀w:World,(Op.equal 20 .nilIface .nilIface).run P w=.ok true w:=fun w=>E6 b;simp[wpOps,go_sem,Exit.then,he,Exit.inBlock];refine .inl ?_;apply wp_cond_true
 ·simp[Act.eval,Array.replicate]
 apply wp_region;cases a
 simp_all [wpOps,go_sem,bodyPostS,results,Exit.inBlock]
theorem CT:n9 P 93 (fun v=>∃e,v=cH e) [1] PL:=by
 refine vX Try.func93 Pf rfl SB ?_;rintro F c v ⟨n,rfl⟩ hb;obtain⟨g,t,cs,rfl,h1⟩:=Mc hb
 match cs,h1 with
 | [a],_ =>
  intro b;exact rfl
def RG (n:Nat) (s:List Ty) (a b:Ty):List TO->C->Prop:=fun Mo v=>(∃s',L5 n s a b s'/\Mo=LU s'/\v=IC 0)\/(∃e,Q6 n s a b e/\v=IC e/\∃i j,Mo=[.box 89 (List.replicate i .any),.box 93 (List.replicate j .any),.row 32 3 []])
theorem Q6.three {n:Nat}{s:List Ty}{a b:Ty}{e:Int}(h:Q6 n s a b e):e=1\/e=2\/e=8:=by
 rcases h with⟨_,h⟩ | ⟨_,⟨_,h⟩ | ⟨_,⟨_,h⟩ | ⟨_,_,h,_⟩⟩⟩<;>omega
section
variable {L:TL}{ρ:aM}
theorem SC (ks:List Nat) {PS:nU}{n f:Nat}{s:List Ty}{a b:Ty}{args:List C}{K:TL->aM->C->Prop}{Lin:List TO}(h:CallsTX P f (args.map fun c=>c.aaj.ren (bB ks 1000)) (LU s) (RU n s a b) (PU n s a b)) (o:L.sub ks=some Lin)
  (e:(T.aS ks&&T.jI L ks ks&&aK Lin ks ks&&jJ L ks PS.hb)=true) (l:Lin.map (TO.aad (C.ren (bB ks 1000)))=LU s) (r:ks.length=3) (q:∀v,PU n s a b v->PS.ps v)
  (k:∀s',L5 n s a b s'->K (((L.aae ks).kills (rowsOf L ks)).puts ks ((LU s').map (TO.aad (C.ren (aJ ks))))) (dF (rowsOf L ks) ρ) (.tup [])):lq P PS f args L ρ K:=by
 simp only[v5] at e;obtain⟨⟨⟨d,m⟩,c3⟩,c4⟩:=e;refine⟨[],ks,ks,L,Lin,_,_,.inl rfl,o,d,d,m,c3,c4,by rw[l];exact h,q,?_⟩;rintro v Mo ⟨s',p,rfl,rfl⟩ t j;exact⟨r,k s' p⟩
theorem SD (ks:List Nat) {n f:Nat}{s:List Ty}{a b:Ty}{args:List C}{K:TL->aM->C->Prop}{Lin:List TO}(h:CallsT P f (args.map fun c=>c.aaj.ren (bB ks 1000)) (LU s) (RG n s a b)) (q:L.sub ks=some Lin)
  (l:(T.aS ks&&T.jI L ks ks&&aK Lin ks ks)=true) (o:Lin.map (TO.aad (C.ren (bB ks 1000)))=LU s) (m:ks.length=3)
  (k1:∀s',L5 n s a b s'->K (((L.aae ks).kills (rowsOf L ks)).puts ks ((LU s').map (TO.aad (C.ren (aJ ks))))) (dF (rowsOf L ks) ρ) (IC 0))
  (r:∀e,Q6 n s a b e->∀Lx,Lx.length=3->K (((L.aae ks).kills (rowsOf L ks)).puts ks Lx) (dF (rowsOf L ks) ρ) (IC e)):qt P f args L ρ K:=by
 simp only[v5] at l;obtain⟨⟨k,p⟩,c3⟩:=l;refine .mk ⟨[],ks,ks,L,Lin,_,.inl rfl,q,k,k,p,c3,by rw[o];exact h,?_⟩;rintro v Mo (⟨s',d,rfl,rfl⟩ | ⟨e,d,rfl,i,j,rfl⟩) hw hwo
 ·exact⟨m,k1 s' d⟩
 ·exact⟨m,r e d _ rfl⟩
end
theorem Xg {F:aA}{L:Loc}{m:Int}(h0:0<=m) (h1:m<64):Rel F L (IC m) (.int .i64 m):=by
 rw[Rel];exact⟨rfl,by rw[Ft];simp only[IntKind.min,IntKind.max,IntKind.signed,IntKind.bits,abj];omega⟩
theorem Xh (n:Nat) (s:List Ty) (a b:Ty) (h:L9 s a b (RU n s a b) (PU n s a b)):CallsT P 56 [.fn 62 [] [.own 1000 0,.pt (wG a) 0,.pt (wG b) 0]] (LU s) (RG n s a b):=by
 refine gM (PS:=PU n s a b) (ns:=[1]) (out:=PL) Try.func56 Cy (n9.mono CT fun v ⟨e,_,h⟩=>⟨e,h⟩) (fun v ⟨e,_,h⟩=>by subst h;rfl) rfl rfl ?_ fun m f=>?_
 ·rintro v ⟨e,hB,rfl⟩;refine⟨IC e,.int .i64 e,?_,?_,?_⟩
  ·intro L ρ h;obtain⟨a1,k,l,d⟩:=h 0 2 _ rfl rfl;simp only[nH,a1,d];rfl
  ·intro F L;have:=hB.three;exact Xg (by omega) (by omega)
  ·rintro Mo ⟨i,Mo1,rfl,j,Mo2,rfl,Mo3,rfl,rfl⟩;exact .inr ⟨e,hB,rfl,i,j,rfl⟩
 refine⟨rfl,?_⟩;refine SC [1000,1001,1002] h rfl rfl rfl rfl (fun v q=>q) fun s' c=>?_;exact pU [1000,1001,1002] rfl rfl rfl rfl (.inl ⟨s',c,rfl,rfl⟩)
def UR (n:Nat) (s:List Ty) (a b:Ty) (r:List Ty) (e:Int):Prop:=(∃s',L5 n s a b s'/\j3 s' n=some r/\e=0)\/(Q6 n s a b e/\r=[])
def RN (n:Nat) (s:List Ty) (a b:Ty):List TO->C->Prop:=fun Mo v=>Mo=[]/\∃r e,UR n s a b r e/\v=.tup [.sl (r.map aI),IC e]
theorem Xi {L:TL}{K:TL->Prop}(h:K L):fT L K:=by rw[gk];exact h
theorem t23 (n:Nat) (s:List Ty) (a b:Ty) (m:s.length<=2 ^ 30) (F:Fuel n s a b) (hf:∀s e r,bJ s n=some r->Em s e r) (k:cu a<=2 ^ 40) (j:cu b<=2 ^ 40)
  (h:∀s',L5 n s a b s'->s'.length<=2 ^ 30/\(∀x∈s',ji x)/\∃r,j3 s' n=some r):CallsT P 23 [.sl (s.map aI),aV a,aV b] [] (RN n s a b):=by
 have f:=Xh n s a b (t62 n s a b F hf k j);have d:=t61 s m;refine af Try.func23 OD rfl fun p _=>?_;refine callO [] [11] d rfl rfl rfl rfl rfl fun _ _=>?_;refine SD [8,13,11] f rfl rfl rfl rfl (fun s' c=>?_) fun e he Lx o=>?_
 ·skip
  refine ul (h s' c).2.2 fun r l=>?_;refine GI [11] [13] [13] (t65 s' n r (h s' c).1 (h s' c).2.1 l) ⟨_,rfl,rfl,rfl,rfl,rfl,fun _ _=>?_⟩;exact pU [] rfl rfl rfl rfl ⟨rfl,r,0,.inl ⟨s',c,l,rfl⟩,rfl⟩
 ·refine Xi ?_;have h0:¬e=0:=by have:=he.three;omega
  refine aR (fun _=>?_) (fun q=>fL q h0);exact pU [] rfl rfl rfl rfl ⟨rfl,[],e,.inr ⟨he,rfl⟩,rfl⟩
def RFf (s:List Ty) (r:Option (DM×OM)):List TO->C->Prop:=fun Mo v=>∃d o,r=some (d,o)/\Mo=Jy s d o/\v=.tup []
def uy (s:List Ty) (e:Int) (r:Option (DM×OM)):Prop:=CallsTX P 58 [.own 1000 0,IC e] (uQ s) (RFf s r) (PF e r)
section
variable {L:TL}{ρ:aM}
theorem Hv (ks ko:List Nat) {PS:nU}{args:List C}{K:TL->aM->C->Prop}{s:List Ty}{e:Int}{r:Option (DM×OM)}{Lin:List TO}(h:uy s e r) (m:L.sub ks=some Lin)
  (a:(T.aS ks&&T.aS ko&&T.jI L ks ko&&aK Lin ks ko&&jJ L ks PS.hb)=true) (q:(args.map fun c=>c.aaj.ren (bB ks 1000))=[.own 1000 0,IC e]) (j:Lin.map (TO.aad (C.ren (bB ks 1000)))=uQ s) (t:ko.length=3) (p:∀v,PF e r v->PS.ps v)
  (k:∀d o,r=some (d,o)->K (((L.aae ks).kills (rowsOf L ks)).puts ko ((Jy s d o).map (TO.aad (C.ren (aJ ko))))) (dF (rowsOf L ks) ρ) (.tup [])):lq P PS 58 args L ρ K:=by
 simp only[v5] at a;obtain⟨⟨⟨⟨b,l⟩,c3⟩,c4⟩,c5⟩:=a;refine⟨[],ks,ko,L,Lin,_,_,.inl rfl,m,b,l,c3,c4,c5,by rw[j,q];exact h,p,?_⟩;rintro v Mo ⟨d,o,n,rfl,rfl⟩ u f;exact⟨t,k d o n⟩
end
theorem Xj (s:List Ty) (t:Ty) (d:DM) (o:OM) (h:uy s 1 (some (d,o))) (r:Ty) (hi:ins s.length t=true) (b:CallsT P 60 [.own 1000 0,aV t] (uQ s) (aU (uQ s) (aV r))):CallsTX P 57 [.own 1000 0,.pt (wG t) 0,.own 1002 0] [.box 89 [.own 1001 0],.box 93 [.sl (s.map aI),.any,.any],.box 32 [IC 0,IC 0,.nils]] (aU [.box 89 [.own 1001 0],.box 93 [.sl (s.map aI),.any,.any],.box 32 (wG r)] (.tup [])) (fun _=>False):=by
 have a:=fun D O=>LI s D O t;refine bf Try.func57 GU rfl fun c _=>?_;refine Hv [1001] [1001,2003,2004] h rfl rfl rfl rfl rfl (fun v q=>by cases q.1) fun d o e=>?_;refine callO [1001,2003,2004] [1001,2003,2004] (a _ _) rfl rfl rfl rfl rfl fun _ _=>?_;refine aq (fun _=>?_) (fun h=>fL (show ins s.length t=false from h) (by rw[hi];exact Bool.noConfusion));refine callO [1001] [1001] b rfl rfl rfl rfl rfl fun _ _=>?_;exact bF [1000,1001,1002] rfl rfl rfl rfl
theorem Xk (s:List Ty) (t:Ty) (d:DM) (o:OM) (h:uy s 1 (some (d,o))) (r:Ty) (hi:ins s.length t=true) (b:CallsT P 60 [.own 1000 0,aV t] (uQ s) (aU (uQ s) (aV r))):CallsT P 56 [.fn 57 [] [.own 1000 0,.pt (wG t) 0,.own 1002 0]] [.box 89 [.own 1001 0],.box 93 [.sl (s.map aI),.any,.any],.box 32 [IC 0,IC 0,.nils]] (aU [.box 89 [.own 1001 0],.box 93 [.sl (s.map aI),.any,.any],.box 32 (wG r)] (IC 0)):=by
 have a:=Xj s t d o h r hi b;refine gM (PS:=fun _=>False) (ns:=[1]) (out:=PL) Try.func56 Cy (n9.mono CT fun v h=>h.elim) (fun v h=>h.elim) rfl rfl (fun v h=>h.elim) fun c e=>?_;refine⟨rfl,?_⟩;refine KG [1000,1001,1002] [1000,1001,1002] a rfl rfl rfl rfl rfl (fun v q=>q) fun _ _=>?_;exact bF [1000,1001,1002] rfl rfl rfl rfl
theorem Xl (s:List Ty) (t:Ty) (d:DM) (o:OM) (h:uy s 1 (some (d,o))) (r:Ty) (hi:ins s.length t=true) (b:CallsT P 60 [.own 1000 0,aV t] (uQ s) (aU (uQ s) (aV r))):CallsT P 22 [.sl (s.map aI),aV t] [] (aU [] (aV r)):=by
 have a:=Xk s t d o h r hi b;refine af Try.func22 GN rfl fun c _=>?_;refine callO [5,9,6] [5,9,6] a rfl rfl rfl rfl rfl fun _ _=>?_;exact aC rfl rfl
theorem Xm (s:List Ty) (t:Ty) (d:DM) (o:OM) (h:uy s 1 (some (d,o))) (hi:ins s.length t=false):CallsTX P 57 [.own 1000 0,.pt (wG t) 0,.own 1002 0] [.box 89 [.own 1001 0],.box 93 [.sl (s.map aI),.any,.any],.box 32 [IC 0,IC 0,.nils]] (aU [.box 89 [.own 1001 0],.box 93 [.sl (s.map aI),.any,.any],.box 32 ([IC 0,IC 0,.nils])] (.tup [])) (fun _=>False):=by
 have a:=fun D O=>LI s D O t;refine bf Try.func57 GU rfl fun b _=>?_;refine Hv [1001] [1001,2003,2004] h rfl rfl rfl rfl rfl (fun v q=>by cases q.1) fun d o e=>?_;refine callO [1001,2003,2004] [1001,2003,2004] (a _ _) rfl rfl rfl rfl rfl fun _ _=>?_;refine aq (fun h=>fL (show ins s.length t=true from h) (by rw[hi];exact Bool.noConfusion)) (fun _=>?_);exact bF [1000,1001,1002] rfl rfl rfl rfl
theorem Xn (s:List Ty) (t:Ty) (d:DM) (o:OM) (h:uy s 1 (some (d,o))) (hi:ins s.length t=false):CallsT P 56 [.fn 57 [] [.own 1000 0,.pt (wG t) 0,.own 1002 0]] [.box 89 [.own 1001 0],.box 93 [.sl (s.map aI),.any,.any],.box 32 [IC 0,IC 0,.nils]] (aU [.box 89 [.own 1001 0],.box 93 [.sl (s.map aI),.any,.any],.box 32 ([IC 0,IC 0,.nils])] (IC 0)):=by
 have a:=Xm s t d o h hi;refine gM (PS:=fun _=>False) (ns:=[1]) (out:=PL) Try.func56 Cy (n9.mono CT fun v h=>h.elim) (fun v h=>h.elim) rfl rfl (fun v h=>h.elim) fun b c=>?_;refine⟨rfl,?_⟩;refine KG [1000,1001,1002] [1000,1001,1002] a rfl rfl rfl rfl rfl (fun v q=>q) fun _ _=>?_;exact bF [1000,1001,1002] rfl rfl rfl rfl
theorem Xo (s:List Ty) (t:Ty) (d:DM) (o:OM) (h:uy s 1 (some (d,o))) (hi:ins s.length t=false):CallsT P 22 [.sl (s.map aI),aV t] [] (aU [] (aV (.mk 0 0 []))):=by
 have a:=Xn s t d o h hi;refine af Try.func22 GN rfl fun b _=>?_;refine callO [5,9,6] [5,9,6] a rfl rfl rfl rfl rfl fun _ _=>?_;exact aC rfl rfl
def SE (s:List Ty) (n:Nat) (t:Ty):Option Ty:=if ins s.length t then pA s n t else some (.mk 0 0 [])
theorem t22 (s:List Ty) (n:Nat) (t r:Ty) (d:DM) (o:OM) (h:uy s 1 (some (d,o))) (b:∀x∈s,ji x) (hb:ji t) (a:SE s n t=some r):CallsT P 22 [.sl (s.map aI),aV t] [] (aU [] (aV r)):=by
 unfold SE at a;cases hi:ins s.length t with
 | true =>
  rw[eu hi] at a;exact Xl s t d o h r hi (YO s b n t r hb a)
 | false =>
  rw[fo (by rw[hi];exact aa7)] at a;injection a with a
  rw[<-a];exact Xo s t d o h hi
section
variable {P:Program}
def sW (v:Value):Deferred:={target:=.builtin .panic #[20] 0 #[false],args:=#[v]}
theorem Jg {b:Frame}{cs:List Frame}{w:World}{t:TypeId}{x:Value}{ds:List Deferred}(h:b.mode≠.run) (c:b.defers=sW (.iface t x)::ds) :
  step P (lone b cs w)=.next (lone {b with defers:=ds,mode:=raised b.mode [{v:=.iface t x,recovered:=false}]} cs w):=by
 have e:∀u,({b with defers:=ds}:Frame).raise u={b with defers:=ds,mode:=raised b.mode u}:=fun u=>by rw[Frame.raise_mode]
 have f:(invoke (sW (.iface t x)).target (sW (.iface t x)).args).run P w=.halt (.panic (.iface t x)) w:=by
  simp[sW,invoke,builtin,go_sem,Instr.panic]
 simp only[sW] at c f;refine step_lone_go ?_;cases a:b.mode with
 | run=>exact fL a h
 | returning =>
  rw[a] at e;simp[stepG,unwind,callDeferred,a,c,f,e,raised]
 | panicking d =>
  rw[a] at e;simp[stepG,unwind,callDeferred,a,c,f,e,raised]
theorem sZ {t:TypeId}{x:Value}:∀(ds:List Deferred) (c:Frame) (cs:List Frame) (w:World),(∀d∈ds,d=sW (.iface t x))->c.mode≠.run->c.defers=ds->ds≠[]->(∀f,c.mode=.panicking f->∀e∈f,e.goexit=false) ->
  ∃f,rY (.iface t x) f/\Steps P (lone c cs w) (lone {c with defers:=[],mode:=.panicking f} cs w)
 | [],c,cs,w,h,p,o,m,q=>fL rfl m
 | d::ds,c,cs,w,h,p,o,m,q=>by
  have e:=h d (by simp);subst e;have h1:=Jg (P:=P) (cs:=cs) (w:=w) p o;have u:∃a,raised c.mode [{v:=.iface t x,recovered:=false}]=.panicking ({v:=.iface t x,recovered:=false}::a)/\∀e∈a,e.goexit=false:=by
   cases j:c.mode with
   | run=>exact fL j p
   | returning=>exact⟨[],rfl,fun e h=>by cases h⟩
   | panicking f=>exact⟨f,rfl,q f j⟩
  obtain⟨a,k,l⟩:=u
  by_cases n:ds=[]
  ·subst n;refine⟨_,⟨a,rfl,l⟩,?_⟩;rw[<-k];exact .one h1
  ·obtain⟨f,r,s⟩:=sZ ds {c with defers:=ds,mode:=raised c.mode [{v:=.iface t x,recovered:=false}]} cs w (fun d o=>h d (by simp[o])) (by rw[k];exact fun h=>by cases h) rfl n (fun f b e he=>by
    have b:raised c.mode [{v:=.iface t x,recovered:=false}]=.panicking f:=b;rw[k] at b;injection b with b
    subst b;rcases aaT.1 he with rfl | he
    ·rfl
    ·exact l e he)
   exact⟨f,r,.head h1 s⟩
def rH (P:Program) (fn:Func) (v:Value) (R:Ending->World->Prop):Exit->Act->World->Prop
 | .normal,a,w | .ret,a,w=>(∀d∈a.defers,d=sW v)/\(a.defers=[]->∃x,(results fn a.tmps).run P w=.ok x w/\R (.returned x) w)/\(a.defers≠[]->∀c,rY v c->R (.panicked c) w)
 | .panic b,a,w=>(∀d∈a.defers,d=sW v)/\(a.defers=[]->R (.panicked b) w)/\(a.defers≠[]->(∀e∈b,e.goexit=false)/\∀c,rY v c->R (.panicked c) w)
 | .outgrown,_,w=>R .outgrown w
 | _,_,_=>False
theorem wH {f:FuncId}{fn:Func}{c:Code}{args:Array Value}{w:World}{t:TypeId}{x:Value}{R:Ending->World->Prop}
  (hf:P.funcs[f]?=some fn) (hb:fn.body=some c)
  (h:c.wp P (rH P fn (.iface t x) R) {tmps:=args++Array.replicate (fn.ntmps-args.size) undef,defers:=[]} w):Calls P f args w R:=by
 intro cs
 let b:Frame:={(default:Frame) with fn:=f,kind:=.normal}
 have r:Frame.enter P f args .normal =
   b.at {tmps:=args++Array.replicate (fn.ntmps-args.size) undef,defers:=[]} [.code c]:=by
  simp[Frame.enter,Frame.at,hf,hb,b]
 obtain⟨e,a',w',y,n⟩:=h b [] cs;rw[<-r] at n;have s:∀a,((∀d∈a'.defers,d=sW (.iface t x))/\(a'.defers=[]->∃x,(results fn a'.tmps).run P w'=.ok x w'/\R (.returned x) w')/\(a'.defers≠[]->∀q,rY (.iface t x) q->R (.panicked q) w')) ->
   ∃e p o,R e p/\Comes P (lone {b.at a' a with mode:=.returning} cs w') (lone o cs p) e/\o.fn=f/\o.leaving P p e:=by
  rintro a ⟨q1,q2,q3⟩
  by_cases j:a'.defers=[]
  ·obtain⟨v,hr,z⟩:=q2 j;exact⟨.returned v,w',_,z,Steps.refl P _,rfl,rfl,j,rfl,fn,hf,hr⟩
  ·obtain⟨q,k1,k2⟩:=sZ (P:=P) a'.defers {b.at a' a with mode:=.returning} cs w' q1 (fun h=>by cases h) rfl j (fun q h=>by cases h);exact⟨.panicked q,w',_,q3 j q k1,k2,rfl,rfl,rfl,fn,hf⟩
 cases e with
 | normal =>
  obtain⟨e',p,o,z,hs,u,hl⟩:=s [] y;exact⟨e',p,o,z,Comes.of_steps (Steps.trans n (.one step_end)) hs,u,hl⟩
 | ret =>
  obtain⟨a,m⟩:=n;obtain⟨e',p,o,z,hs,u,hl⟩:=s a y;exact⟨e',p,o,z,Comes.of_steps m hs,u,hl⟩
 | panic k =>
  obtain⟨a,m⟩:=n;obtain⟨q1,q2,q3⟩:=y
  by_cases j:a'.defers=[]
  ·exact⟨.panicked k,w',{b.at a' a with mode:=.panicking k},q2 j,Comes.of_steps m (Steps.refl P _),rfl,rfl,j,fn,hf⟩
  ·obtain⟨q,k1,k2⟩:=sZ (P:=P) a'.defers {b.at a' a with mode:=.panicking k} cs w' q1 (fun h=>by cases h) rfl j (fun q h=>by
    have h:FrameMode.panicking k=.panicking q:=h;injection h with h
    subst h;exact(q3 j).1)
   exact⟨.panicked q,w',_,(q3 j).2 q k1,Comes.of_steps m k2,rfl,rfl,rfl,fn,hf⟩
 | exit id=>exact y.elim
 | goto l=>exact y.elim
 | outgrown=>exact⟨.outgrown,w',b,y,n.resolve_left (by simp[b]),rfl,trivial⟩
end
theorem Xp {B g n c:Nat}(b:n<B) (a:c<B):(c+(g*B+n)*B) / B % B=n/\(c+(g*B+n)*B) % B=c/\(c+(g*B+n)*B) / (B*B)=g:=by
 have hB:0<B:=by omega
 have h1:(c+(g*B+n)*B) / B=g*B+n:=by rw[Nat.add_mul_div_right _ _ hB,Nat.div_eq_of_lt a,Nat.zero_add]
 refine⟨?_,?_,?_⟩
 ·rw[h1,Nat.add_comm,Nat.add_mul_mod_self_right,Nat.mod_eq_of_lt b]
 ·rw[Nat.add_mul_mod_self_right,Nat.mod_eq_of_lt a]
 ·rw[<-Nat.div_div_eq_div_mul,h1,Nat.add_comm,Nat.add_mul_div_right _ _ hB,Nat.div_eq_of_lt b,Nat.zero_add]
theorem Md (m:Nat):rX (m+2)=some (m / fV % fV):=rfl
theorem Me (m:Nat):Jz (m+1)=.slice (some ⟨m / (fV*fV),0,none⟩) (m / fV % fV) (m % fV):=rfl
theorem Es {n:Nat}(h:n<=maxLen):n<fV:=Nat.lt_of_le_of_lt h (by decide)
theorem Hw (g n c:Nat) (b:n<=maxLen) (a:c<=maxLen):∃k,rX k=some n/\∀F,gX k F (.slice (some ⟨g,0,none⟩) n c):=by
 have b:=Es b;have a:=Es a;generalize hB:fV=B at b a;obtain⟨h1,e,d⟩:=Xp (g:=g) b a;generalize c+(g*B+n)*B=m at h1 e d;refine⟨m+2,?_,fun F=>.inr ⟨m+1,rfl,?_⟩⟩
 ·rw[Md,hB,h1]
 ·rw[Me,hB,h1,e,d]
theorem PN {F:aA}{L L':Loc}{t:Ty}{v:Value}(h:Rel F L (aV t) v):Rel F L' (aV t) v:=by
 simp only[Rel,aB] at h ⊢;exact h
theorem FY {F:aA}{k:Nat}{v u:Value}(h:gX k F v) (a:gX k F u):v=u:=by
 rcases h with⟨rfl,rfl⟩ | ⟨m,rfl,rfl⟩
 ·rcases a with⟨_,rfl⟩ | ⟨m,h,_⟩
  ·rfl
  ·cases h
 ·rcases a with⟨h,_⟩ | ⟨b,h,rfl⟩
  ·cases h
  ·injection h with h;rw[h]
theorem Xq {c d b:Own}{j:Nat}:(inp [c,d,b]).get j=if j=1000 then some c else if j=1001 then some d else if j=1002 then some b else none:=by
 rw[aH]
 by_cases h:1000<=j
 ·rw[eu h]
  by_cases h0:j=1000
  ·rw[eu h0,h0];rfl
  rw[fo h0]
  by_cases h1:j=1001
  ·rw[eu h1,h1];rfl
  rw[fo h1]
  by_cases a:j=1002
  ·rw[eu a,a];rfl
  rw[fo a];exact abl (by simp;omega)
 ·rw[fo h,fo (by omega),fo (by omega),fo (by omega)]
theorem Uv {c d b:TO}{j:Nat}:(cJ [c,d,b]).get j=if j=1000 then some c else if j=1001 then some d else if j=1002 then some b else none:=by
 rw[cA]
 by_cases h:1000<=j
 ·rw[eu h]
  by_cases h0:j=1000
  ·rw[eu h0,h0];rfl
  rw[fo h0]
  by_cases h1:j=1001
  ·rw[eu h1,h1];rfl
  rw[fo h1]
  by_cases a:j=1002
  ·rw[eu a,a];rfl
  rw[fo a];exact abl (by simp;omega)
 ·rw[fo h,fo (by omega),fo (by omega),fo (by omega)]
theorem SG {F:aA}{b c a:Own}{k l h:TO}(h0:cK F (inp [b,c,a]) k b) (h1:cK F (inp [b,c,a]) l c) (m:cK F (inp [b,c,a]) h a):bS F (inp [b,c,a]) (cJ [k,l,h]):=by
 intro j;rw[Xq,Uv]
 by_cases e:j=1000
 ·rw[eu e,eu e];exact h0
 rw[fo e,fo e]
 by_cases f:j=1001
 ·rw[eu f,eu f];exact h1
 rw[fo f,fo f]
 by_cases d:j=1002
 ·rw[eu d,eu d];exact m
 rw[fo d,fo d];trivial
theorem Xr {d f c e:Own}{j:Nat}:(inp [d,f,c,e]).get j=if j=1000 then some d else if j=1001 then some f else if j=1002 then some c else if j=1003 then some e else none:=by
 rw[aH]
 by_cases h:1000<=j
 ·rw[eu h]
  by_cases h0:j=1000
  ·rw[eu h0,h0];rfl
  rw[fo h0]
  by_cases h1:j=1001
  ·rw[eu h1,h1];rfl
  rw[fo h1]
  by_cases b:j=1002
  ·rw[eu b,b];rfl
  rw[fo b]
  by_cases a:j=1003
  ·rw[eu a,a];rfl
  rw[fo a];exact abl (by simp;omega)
 ·rw[fo h,fo (by omega),fo (by omega),fo (by omega),fo (by omega)]
theorem Uw {d f c e:TO}{j:Nat}:(cJ [d,f,c,e]).get j=if j=1000 then some d else if j=1001 then some f else if j=1002 then some c else if j=1003 then some e else none:=by
 rw[cA]
 by_cases h:1000<=j
 ·rw[eu h]
  by_cases h0:j=1000
  ·rw[eu h0,h0];rfl
  rw[fo h0]
  by_cases h1:j=1001
  ·rw[eu h1,h1];rfl
  rw[fo h1]
  by_cases b:j=1002
  ·rw[eu b,b];rfl
  rw[fo b]
  by_cases a:j=1003
  ·rw[eu a,a];rfl
  rw[fo a];exact abl (by simp;omega)
 ·rw[fo h,fo (by omega),fo (by omega),fo (by omega),fo (by omega)]
theorem SH {F:aA}{b d a c:Own}{m o l n:TO}(h0:cK F (inp [b,d,a,c]) m b) (h1:cK F (inp [b,d,a,c]) o d) (q:cK F (inp [b,d,a,c]) l a) (p:cK F (inp [b,d,a,c]) n c):bS F (inp [b,d,a,c]) (cJ [m,o,l,n]):=by
 intro j;rw[Xr,Uw]
 by_cases h:j=1000
 ·rw[eu h,eu h];exact h0
 rw[fo h,fo h]
 by_cases k:j=1001
 ·rw[eu k,eu k];exact h1
 rw[fo k,fo k]
 by_cases e:j=1002
 ·rw[eu e,eu e];exact q
 rw[fo e,fo e]
 by_cases f:j=1003
 ·rw[eu f,eu f];exact p
 rw[fo f,fo f];trivial
theorem Mf {F:aA}{k d c b f:Nat}{v:Value}{e c3:List Value}{D O:List (C×C)}(a:tyOk 93 d c) (h:gX k F v) (j:fM F D e) (l:fM F O c3) :
  bS F (inp [.box d c [v,.map (some b),.map (some f)],.box b 0 e,.box f 0 c3]) (cJ (SO k D O)):=by
 refine SG ⟨a,?_⟩ ⟨rfl,j⟩ ⟨rfl,l⟩;simp only[aB,Rel];exact⟨_,_,rfl,h,_,_,rfl,⟨_,_,rfl,rfl⟩,_,_,rfl,⟨_,_,rfl,rfl⟩,rfl⟩
theorem PO {P:Program}{f:Nat}{tx:Ty}{b:Bool}{sz t:Nat}{els:List (List C)}{D O:List (C×C)}
  (h:∀k,rX k=some els.length->CallsT P f [.own 1000 0,aV tx] (SO k D O) (aU (SO k D O) (.bool b))) :
  fG P f [.own 1000 0,aV tx] [.box 93 [.rw 1001,.mpr 1002,.mpr 1003],.row t sz els,.map D,.map O] (aU [.box 93 [.rw 1001,.mpr 1002,.mpr 1003],.row t sz els,.map D,.map O] (.bool b)):=by
 refine⟨fun F Li vs hl z hr=>?_⟩
 match Li,hl with
 | [y,u,s,x],_ =>
  have q0:=z 1000;have q1:=z 1001;have q2:=z 1002;have q3:=z 1003;have g0:(inp [y,u,s,x]).get 1000=some y:=rfl;have g1:(inp [y,u,s,x]).get 1001=some u:=rfl;have g2:(inp [y,u,s,x]).get 1002=some s:=rfl;have g3:(inp [y,u,s,x]).get 1003=some x:=rfl;rw[g0] at q0;rw[g1] at q1;rw[g2] at q2;rw[g3] at q3;have q0:cK F (inp [y,u,s,x]) (.box 93 [.rw 1001,.mpr 1002,.mpr 1003]) y:=q0;have q1:cK F (inp [y,u,s,x]) (.row t sz els) u:=q1;have q2:cK F (inp [y,u,s,x]) (.map D) s:=q2;have q3:cK F (inp [y,u,s,x]) (.map O) x:=q3;cases y with
  | row=>exact q0.elim
  | box b0 t0 c0 =>
  cases u with
  | box=>exact q1.elim
  | row v1 t1 s1 d x1 =>
  cases s with
  | row=>exact q2.elim
  | box l t2 c2 =>
  cases x with
  | row=>exact q3.elim
  | box m t3 c3 =>
  obtain⟨ax,aE⟩:=q0;simp only[aB,Rel] at aE;obtain⟨w0,_,rfl,⟨a,c,t',dl,n,xs,rfl,e1⟩,m1,_,rfl,⟨y1,z1,p,rfl⟩,m2,_,rfl,⟨y2,z2,j,rfl⟩,rfl⟩:=aE;rw[g1] at e1;rw[g2] at p;rw[g3] at j;injection e1 with e1
  injection e1 with e11 e12 e13 e14 e15
  subst e11 e12 e13 e14 e15;injection p with p
  injection p with e21 e22 e23
  subst e21 e22 e23;injection j with j
  injection j with e31 e32 e33
  subst e31 e32 e33;obtain⟨rfl,rfl,hn,⟨hm,hv⟩,bb⟩:=q1;obtain⟨_,q2⟩:=q2;obtain⟨_,q3⟩:=q3;rw[aB] at hr;obtain⟨u1,us,rfl,r1,r2⟩:=hr;rw[Rel] at r1;obtain⟨gg,tt,cc,r3,rfl⟩:=r1;rw[g0] at r3;injection r3 with r3
  injection r3 with r31 r32 r33
  subst r31 r32 r33;rw[aB] at r2;obtain⟨u2,dd,rfl,r4,r5⟩:=r2;rw[aB] at r5;subst r5
  -- the arguments,in a smaller world
  have ay:∀(L':Loc) (b':Nat) (ty:TypeId) (cs:List Value),L'.get 1000=some (.box b' ty cs)->aB F L' [.own 1000 0,aV tx] [.pointer (some ⟨b',0,none⟩),u2]:=by
   intro L' b' ty cs hL;rw[aB];refine⟨_,_,rfl,by rw[Rel];exact⟨_,_,_,hL,rfl⟩,?_⟩;rw[aB];exact⟨u2,[],rfl,PN r4,by rw[aB]⟩
  obtain⟨k0,cd,bl⟩:=Hw 0 d d hm hm;have ent:=((h k0 (by rw[<-hn];exact cd)).out F [.box 0 93 [.slice (some ⟨0,0,none⟩) d d,.map (some l),.map (some m)],.box l 0 c2,.box m 0 c3] [.pointer (some ⟨0,0,none⟩),u2] rfl
   (Mf ⟨by decide,.inl rfl,by decide⟩ (bl F) q2 q3) (ay _ 0 93 _ rfl)).ent
  refine⟨ent,fun F G L v bu ⟨r,q⟩=>⟨gP.aao _ _ _ _ bu r,q⟩,fun w hs=>?_⟩;have aa:=hs.own 1001 _ g1;simp only[Own.ok] at aa;have hk:∃k,rX k=some d/\∀F,gX k F (.slice a d c):=by
   rcases aa.2 with⟨e,_⟩ | ⟨g,cap,dn,e,_,_,k1,k2,_⟩
   ·injection e with e1 p j
    subst e1 p j;exact⟨1,rfl,fun F=>.inr ⟨0,rfl,rfl⟩⟩
   ·injection e with e1 p j
    subst e1 j;exact Hw g d c hm k2
  obtain⟨k,bv,av⟩:=hk;have ac:(inp [.box b0 t0 [.slice a d c,.map (some l),.map (some m)],.row (.slice a d c) t sz d x1,.box l 0 c2,.box m 0 c3]).sub [1000,1002,1003]=some [.box b0 t0 [.slice a d c,.map (some l),.map (some m)],.box l 0 c2,.box m 0 c3]:=rfl;have an:[1000,1002,1003].Nodup:=by decide
  refine(((h k (by rw[<-hn];exact bv)).out F _ _ rfl (Mf ax (av F) q2 q3) (ay _ b0 t0 _ rfl)).run w (hs.handed ac an)).mono ?_;rintro e w' ⟨v,F',Lo,rfl,ce,aw,Mo,cc,l1,l2,l3,l4,rfl,rfl⟩
  match Lo,l1 with
  | [p0,p1,p2],_ =>
   obtain⟨d0,i0⟩:=l4 0 _ _ _ rfl;obtain⟨d1,i1⟩:=l4 1 _ _ _ rfl;obtain⟨d2,i2⟩:=l4 2 _ _ _ rfl;injection i0 with i0
   injection i1 with i1
   injection i2 with i2
   subst i0 i1 i2;obtain⟨bp,bk⟩:=gh hs ac an an (fun k hk=>.inl hk) ce aw rfl;have j0:=l2 1000;have j1:=l2 1001;have j2:=l2 1002;have j0:cK F' (inp [.box b0 t0 d0,.box l 0 d1,.box m 0 d2]) (.box 93 [.opq k,.mpr 1001,.mpr 1002]) (.box b0 t0 d0):=j0;have j1:cK F' (inp [.box b0 t0 d0,.box l 0 d1,.box m 0 d2]) (.map D) (.box l 0 d1):=j1;have j2:cK F' (inp [.box b0 t0 d0,.box l 0 d1,.box m 0 d2]) (.map O) (.box m 0 d2):=j2;obtain⟨co,am⟩:=j0;simp only[aB,Rel] at am;obtain⟨w0,_,rfl,bm,m1,_,rfl,⟨y1,z1,p,rfl⟩,m2,_,rfl,⟨y2,z2,j,rfl⟩,rfl⟩:=am;have p:some (Own.box l 0 d1)=some (.box y1 0 z1):=p;have j:some (Own.box m 0 d2)=some (.box y2 0 z2):=j;injection p with p
   injection p with e21 _ e23
   injection j with j
   injection j with e31 _ e33
   subst e21 e23 e31 e33;have bt:=FY (av F') bm;subst bt;refine⟨v,F',[.box b0 t0 [.slice a d c,.map (some l),.map (some m)],.row (.slice a d c) t sz d x1,.box l 0 d1,.box m 0 d2],rfl,bp,bk,⟨[.box 93 [.rw 1001,.mpr 1002,.mpr 1003],.row t sz els,.map D,.map O],.bool b,rfl,SH ⟨ax,?_⟩ ⟨rfl,rfl,hn,⟨hm,hv⟩,bb.mono aw.le⟩ ⟨rfl,j1.2⟩ ⟨rfl,j2.2⟩,?_,?_,rfl,rfl⟩,rfl,?_⟩
   ·simp only[aB,Rel];exact⟨_,_,rfl,⟨a,c,_,_,d,_,rfl,rfl⟩,_,_,rfl,⟨_,_,rfl,rfl⟩,_,_,rfl,⟨_,_,rfl,rfl⟩,rfl⟩
   ·rw[Rel] at l3 ⊢;exact l3
   ·intro i g ty cs hi
    match i,hi with
    | 0,hi=>injection hi with hi;injection hi with h1 h2 h3;subst h1 h2;exact⟨_,rfl⟩
    | 1,hi=>cases hi
    | 2,hi=>injection hi with hi;injection hi with h1 h2 h3;subst h1 h2;exact⟨_,rfl⟩
    | 3,hi=>injection hi with hi;injection hi with h1 h2 h3;subst h1 h2;exact⟨_,rfl⟩
    | i+4,hi=>cases hi
   ·intro i o hi
    match i,hi with
    | 0,hi=>injection hi with hi;subst hi;exact⟨_,rfl,rfl,rfl⟩
    | 1,hi=>injection hi with hi;subst hi;exact⟨_,rfl,rfl,rfl,rfl⟩
    | 2,hi=>injection hi with hi;subst hi;exact⟨_,rfl,rfl,rfl⟩
    | 3,hi=>injection hi with hi;subst hi;exact⟨_,rfl,rfl,rfl⟩
    | i+4,hi=>cases hi
def wI:Code->Code
 | .seq a _=>a
 | _=>.skip
def fR:Code->Code
 | .seq _ a=>a
 | _=>.skip
def Xt:Code->Code
 | .block _ a=>a
 | .loop a=>a
 | _=>.skip
def cd1:Code->Code
 | .cond _ a _=>a
 | _=>.skip
noncomputable def Hy:Code:=Try.f58.body.getD .skip
noncomputable def k0:Code:=wI Hy
noncomputable def k1:Code:=wI (fR Hy)
noncomputable def k8:Code:=wI (fR (fR Hy))
noncomputable def VI:Code:=Xt (Xt (fR (fR (fR Hy))))
noncomputable def k9:Code:=wI VI
noncomputable def kc:Code:=wI (fR VI)
noncomputable def Xu:Code:=Xt (wI (fR (fR VI)))
noncomputable def k10:Code:=wI Xu
noncomputable def k11:Code:=wI (fR Xu)
noncomputable def k12:Code:=cd1 (fR (fR Xu))
noncomputable def k13:Code:=fR (fR (fR VI))
theorem Et:Try.f58.body=some (k0.seq (k1.seq (k8.seq (.block 2 (.loop (k9.seq (kc.seq ((Code.block 3 (k10.seq (k11.seq (.cond (.tmp 67) k12 .skip)))).seq k13)))))))):=by kernel_rfl
def PV:cW:={n:=72,own:=[],frz:=[],ord:=[],pan:=[(6,2),(11,3)]}
def z0:au:=(.reg [.op (some 8) (.mov (.t 0)) none,
  .op (some 9) (.mov (.t 0)) none,
  .op (some 10) (.mkmap) none,
  .op (some 11) (.mkmap) none,
  .op (some 12) (.nilck (.t 8)) none,
  .op (some 13) (.fieldA 1 (.t 12)) none,
  .op none (.store 1 (.t 13) (.t 10)) none,
  .op (some 14) (.nilck (.t 9)) none,
  .op (some 15) (.fieldA 2 (.t 14)) none,
  .op none (.store 1 (.t 15) (.t 11)) none])
theorem Xv:low Try.prog PV k0=some z0:=by kernel_rfl
def z1:au:=(.seq (.reg [.op (some 16) (.mov (.t 0)) none,
  .op (some 17) (.nilck (.t 16)) none,
  .op (some 18) (.fieldA 0 (.t 17)) none,
  .op (some 19) (.load false 1 (.t 18)) none,
  .op (some 20) (.len (.t 19)) none,
  .op (some 21) (.mov (.c (.int .i64 0))) none])
 (.block 0
 (.loop [22,23,24,5,25,26,27,28,29,30,31,32,33,6,34,35,36,37,38,39,40,41,42,43,44,45,46,47,48,49,50,51,52,53,54,21]
  (.seq (.reg [.op (some 22) (.bin .lss (.t 21) (.t 20)) none])
   (.seq (.cond (.t 22)
   .skip
   (.exit 0))
   (.seq (.block 1
   (.seq (.reg [.op (some 23) (.idxA 3 (.t 19) (.t 21)) none,
     .op (some 24) (.load true 3 (.t 23)) none,
     .op (some 5) (.alloc 32 [(.int .i64 0),(.int .i64 0),(.slice none 0 0)]) none,
     .op none (.store 3 (.t 5) (.t 24)) none])
    (.seq (.reg [.op (some 25) (.fieldA 1 (.t 5)) none,
     .op (some 26) (.load false 1 (.t 25)) none,
     .op (some 27) (.bin .eql (.t 26) (.c (.int .i64 0))) none,
     .op (some 28) (.mov (.t 27)) none,
     .op (some 29) (.fieldA 2 (.t 5)) (some (28,true)),
     .op (some 30) (.load false 1 (.t 29)) (some (28,true)),
     .op (some 31) (.len (.t 30)) (some (28,true)),
     .op (some 32) (.bin .eql (.t 31) (.c (.int .i64 0))) (some (28,true)),
     .op (some 33) (.pick (.t 28) (.t 32) (.c (.bool false))) none,
     .op (some 6) (.mov (.t 33)) none])
    (.seq (.reg [.op (some 34) (.fieldA 0 (.t 5)) none,
     .op (some 35) (.load false 1 (.t 34)) none,
     .op (some 36) (.bin .eql (.t 35) (.c (.int .i64 0))) none,
     .op (some 37) (.mov (.t 36)) none,
     .op (some 38) (.mov (.t 6)) (some (37,true)),
     .op (some 39) (.un .not (.t 38)) (some (37,true)),
     .op (some 40) (.pick (.t 37) (.t 39) (.c (.bool false))) none,
     .op (some 41) (.mov (.t 40)) none,
     .op (some 42) (.fieldA 0 (.t 5)) (some (41,false)),
     .op (some 43) (.load false 1 (.t 42)) (some (41,false)),
     .op (some 44) (.bin .neq (.t 43) (.c (.int .i64 0))) (some (41,false)),
     .op (some 45) (.mov (.t 44)) (some (41,false)),
     .op (some 46) (.mov (.t 0)) (some (45,true)),
     .op (some 47) (.load true 3 (.t 5)) (some (45,true)),
     .op (some 48) (.call 59 [(.t 46),(.t 47)]) (some (45,true)),
     .op (some 49) (.un .not (.t 48)) (some (45,true)),
     .op (some 50) (.pick (.t 45) (.t 49) (.c (.bool false))) (some (41,false)),
     .op (some 51) (.pick (.t 41) (.c (.bool true)) (.t 50)) none])
    (.cond (.t 51)
    (.reg [.op (some 52) (.build [(.int .i64 0)] [(0,1,(.c (.int .i64 1)))]) none,
      .op (some 53) (.mkif 98 (.t 52)) none,
      .pc none (.pan (.t 53)) none])
    .skip)))))
   (.reg [.op (some 54) (.bin .add (.t 21) (.c (.int .i64 1))) none,
    .op (some 21) (.mov (.t 54)) none])))))))
theorem Xw:low Try.prog PV k1=some z1:=by kernel_rfl
def z8:au:=(.reg [.op (some 55) (.mov (.t 0)) none,
  .op (some 56) (.nilck (.t 55)) none,
  .op (some 57) (.fieldA 0 (.t 56)) none,
  .op (some 58) (.load false 1 (.t 57)) none,
  .op (some 59) (.len (.t 58)) none,
  .op (some 60) (.mov (.c (.int .i64 0))) none])
theorem Xx:low Try.prog PV k8=some z8:=by kernel_rfl
def z9:au:=(.reg [.op (some 61) (.bin .lss (.t 60) (.t 59)) none])
theorem Xy:low Try.prog PV k9=some z9:=by kernel_rfl
def zc:au:=(.cond (.t 61)
 .skip
 (.exit 2))
theorem Xz:low Try.prog PV kc=some zc:=by kernel_rfl
def VJ:au:=(.reg [.op (some 62) (.mov (.t 60)) none,
  .op (some 7) (.mov (.t 62)) none])
theorem Ux:low Try.prog PV k10=some VJ:=by kernel_rfl
def Uy:au:=(.reg [.op (some 63) (.mov (.t 0)) none,
  .op (some 64) (.mov (.t 7)) none,
  .op (some 65) (.build [(.int .i64 0),(.int .i64 0),(.slice none 0 0)] [(0,1,(.c (.int .i64 9))),(1,1,(.t 64))]) none,
  .pc (some 66) (.call 64 [(.t 63),(.t 65)]) none,
  .op (some 67) (.bin .gtr (.t 66) (.c (.int .i64 8))) none])
theorem Uz:low Try.prog PV k11=some Uy:=by kernel_rfl
def YP:au:=(.reg [.op (some 71) (.bin .add (.t 60) (.c (.int .i64 1))) none,
  .op (some 60) (.mov (.t 71)) none])
theorem UA:low Try.prog PV k13=some YP:=by kernel_rfl
section
variable {L:TL}{ρ:aM}
theorem Q9 (ks:List Nat) {f:Nat}{args a:List C}{K:TL->aM->C->Prop}{x:C}{Lin Lin' Lo:List TO}(h:fG P f a Lin' (aU Lo x)) (j:L.sub ks=some Lin) (n:T.aS ks=true)
  (m:(args.map fun c=>c.aaj.ren (bB ks 1000))=a) (d:Lin.map (TO.aad (C.ren (bB ks 1000)))=Lin') (b:ks.length=Lo.length)
  (k:K ((L.aae ks).puts ks (Lo.map (TO.aad (C.ren (aJ ks))))) ρ (x.ren (aJ ks)).slt):qt P f args L ρ K:=by
 subst m d;exact .inpl ks Lin _ j n h fun v Mo ⟨l,e⟩ _ _=>by subst l e;exact⟨b,k⟩
end
def HS (M0:TL) (e:Int) (len i:Nat):TK:=fun M τ=>M=M0/\τ 0=.own 1000 0/\τ 1=IC e/\τ 59=IC len/\τ 60=IC i
theorem Eu {n:Int}{t:Ty}(h:t.kind=0):eS n t=(decide (t.id=0)&&decide (t.args.length=0)):=eu h
theorem zi {n:Int}{t:Ty}(h:¬t.kind=0):eS n t=ins n t:=fo h
def UB (s:List Ty) (d:DM) (o:OM):TL:=[(10,.map (jl IC d)),(11,.map (jl C.bool o)),(1000,.box 93 [.rw 1001,.mpr 10,.mpr 11]),(1001,.row 32 3 (s.map aI))]
theorem UC (s:List Ty) (e:Int) (PS:Value->Prop) (y:s.all (eS s.length)=false->PS (cH 1)) (o:s.length<=9223372036854775807) :
  evalTC P ⟨PS,[],none⟩ (.seq z0 (.seq z1 z8)) (fun _ _ _=>False) (fun _ _=>False) (fun M τ=>s.all (eS s.length)=true/\HS (UB s [] []) e s.length 0 M τ) (cJ (pL s)) (j5 0 [.own 1000 0,IC e]):=by
 have p:∀t:Ty,fG P 59 [.own 1000 0,aV t] [.box 93 [.rw 1001,.mpr 1002,.mpr 1003],.row 32 3 (s.map aI),.map [],.map []] (aU [.box 93 [.rw 1001,.mpr 1002,.mpr 1003],.row 32 3 (s.map aI),.map [],.map []] (.bool (ins s.length t))):=fun t=>PO fun k w=>Uk k s.length [] [] (by rw[w,vz]) o t;have h:(s.map aI).length=s.length:=vz _;have v:=fun t=>@Eu s.length t;have r:=fun t=>@zi s.length t;generalize eS (s.length:Int)=f at y v r ⊢;refine bX s.length 21 [19] () (fun _=>[.rw 1001]) (fun _=>[(10,.map []),(11,.map []),(1000,.box 93 [.rw 1001,.mpr 10,.mpr 11]),(1001,.row 32 3 (s.map aI))]) (fun k _=>(s.drop k).all f=s.all f) rfl (ai rfl) ⟨ai rfl,trivial⟩ ⟨.inl ⟨_,rfl,.inl ⟨rfl,rfl⟩⟩,.inl ⟨_,rfl,.inl ⟨rfl,rfl⟩⟩,.inl ⟨_,rfl,.inl ⟨rfl,rfl⟩⟩,.inl ⟨_,rfl,.inl ⟨rfl,rfl⟩⟩,trivial⟩ (fun _=>rfl) (fun _=>rfl) ?_;rintro k _ w b _ _ _;refine ah (fun a=>?_) (fun m=>?_)
 ·have a:k<s.length:=by rw[h] at a;omega
  refine aX a fun x hx aa j=>?_;have n:(x.args.map aI).length=x.args.length:=vz _;have c:f x=false->PS (cH 1):=fun q=>y (LF j b q).symm;refine BS.mk (by omega) (by rw[h];omega) ?_;refine Px hx ?_;refine ah (fun h1=>ah (fun d=>?_) (fun d=>?_)) (fun h1=>ah (fun d=>?_) (fun d=>?_))
  ·have z:f x=decide (x.args.length=0):=by rw[v x d,aaN h1,aaS]
   refine aR (fun u=>?_) (fun u=>?_)
   ·exact pO rfl (c (by rw[z];exact aaP (by rw[n] at u;omega)))
   refine aR (fun q=>fL d q) (fun _=>?_);refine Fit.aaf (by omega) (by omega) ?_;exact⟨(k+1,()),⟨a,om j b (by rw[z];exact aaN (by rw[n] at u;omega))⟩,⟨bM,ai rfl,trivial⟩,⟨.inl ⟨_,rfl,.inl ⟨rfl,rfl⟩⟩,.inl ⟨_,rfl,.inl ⟨rfl,rfl⟩⟩,.inl ⟨_,rfl,.inl ⟨rfl,rfl⟩⟩,.inl ⟨_,rfl,.inl ⟨rfl,rfl⟩⟩,trivial⟩,bN a⟩
  ·refine aR (fun _=>?_) (fun q=>fL q d);refine Q9 [1000,1001,10,11] (p x) rfl rfl rfl rfl rfl ?_;refine aq (fun l=>?_) (fun l=>?_)
   ·exact pO rfl (c (by rw[r x d];simpa using l))
   refine Fit.aaf (by omega) (by omega) ?_;exact⟨(k+1,()),⟨a,om j b (by rw[r x d];simpa using l)⟩,⟨bM,ai rfl,trivial⟩,⟨.inl ⟨_,rfl,.inl ⟨rfl,rfl⟩⟩,.inl ⟨_,rfl,.inl ⟨rfl,rfl⟩⟩,.inl ⟨_,rfl,.inl ⟨rfl,rfl⟩⟩,.inl ⟨_,rfl,.inl ⟨rfl,rfl⟩⟩,trivial⟩,bN a⟩
  ·exact pO rfl (c (by rw[v x d,aaP h1,aaV]))
  ·refine aR (fun _=>?_) (fun q=>fL q d);refine Q9 [1000,1001,10,11] (p x) rfl rfl rfl rfl rfl ?_;refine aq (fun l=>?_) (fun l=>?_)
   ·exact pO rfl (c (by rw[r x d];simpa using l))
   refine Fit.aaf (by omega) (by omega) ?_;exact⟨(k+1,()),⟨a,om j b (by rw[r x d];simpa using l)⟩,⟨bM,ai rfl,trivial⟩,⟨.inl ⟨_,rfl,.inl ⟨rfl,rfl⟩⟩,.inl ⟨_,rfl,.inl ⟨rfl,rfl⟩⟩,.inl ⟨_,rfl,.inl ⟨rfl,rfl⟩⟩,.inl ⟨_,rfl,.inl ⟨rfl,rfl⟩⟩,trivial⟩,bN a⟩
 ·have m:¬k<s.length:=by rw[h] at m;omega
  exact⟨(Hj m b).symm,rfl,rfl,rfl,vv IC (by rw[h]),rfl⟩
def UD (s:List Ty) (d:DM) (o:OM):TL:=[(10,.map (jl IC d)),(11,.map (jl C.bool o)),(1000,.box 93 [.sl (s.map aI),.mpr 10,.mpr 11])]
theorem UE (s:List Ty) (e:Int) (PS:Value->Prop) (w:s.all (eS s.length)=false->PS (cH 1)) (v:s.length<=9223372036854775807) :
  evalTC P ⟨PS,[],none⟩ (.seq z0 (.seq z1 z8)) (fun _ _ _=>False) (fun _ _=>False) (fun M τ=>s.all (eS s.length)=true/\HS (UD s [] []) e s.length 0 M τ) (cJ (uQ s)) (j5 0 [.own 1000 0,IC e]):=by
 have o:=fun t=>LI s [] [] t;have l:(s.map aI).length=s.length:=vz _;have u:=fun t=>@Eu s.length t;have p:=fun t=>@zi s.length t;generalize eS (s.length:Int)=f at w u p ⊢;refine bX s.length 21 [] () (fun _=>[]) (fun _=>[(10,.map []),(11,.map []),(1000,.box 93 [.sl (s.map aI),.mpr 10,.mpr 11])]) (fun k _=>(s.drop k).all f=s.all f) rfl (ai rfl) trivial ⟨.inl ⟨_,rfl,.inl ⟨rfl,rfl⟩⟩,.inl ⟨_,rfl,.inl ⟨rfl,rfl⟩⟩,.inl ⟨_,rfl,.inl ⟨rfl,rfl⟩⟩,trivial⟩ (fun _=>rfl) (fun _=>rfl) ?_;rintro k _ hk b _ _ _;refine ah (fun a=>?_) (fun m=>?_)
 ·have a:k<s.length:=by rw[l] at a;omega
  refine aX a fun x hx z h=>?_;have n:(x.args.map aI).length=x.args.length:=vz _;have c:f x=false->PS (cH 1):=fun q=>w (LF h b q).symm;refine cL hx ?_;refine ah (fun h1=>ah (fun d=>?_) (fun d=>?_)) (fun h1=>ah (fun d=>?_) (fun d=>?_))
  ·have y:f x=decide (x.args.length=0):=by rw[u x d,aaN h1,aaS]
   refine aR (fun r=>?_) (fun r=>?_)
   ·exact pO rfl (c (by rw[y];exact aaP (by rw[n] at r;omega)))
   refine aR (fun q=>fL d q) (fun _=>?_);refine Fit.aaf (by omega) (by omega) ?_;exact⟨(k+1,()),⟨a,om h b (by rw[y];exact aaN (by rw[n] at r;omega))⟩,⟨bM,trivial⟩,⟨.inl ⟨_,rfl,.inl ⟨rfl,rfl⟩⟩,.inl ⟨_,rfl,.inl ⟨rfl,rfl⟩⟩,.inl ⟨_,rfl,.inl ⟨rfl,rfl⟩⟩,trivial⟩,bN a⟩
  ·refine aR (fun _=>?_) (fun q=>fL q d);refine callO [1000,10,11] [1000,10,11] (o x) rfl rfl rfl rfl rfl fun _ _=>?_;refine aq (fun j=>?_) (fun j=>?_)
   ·exact pO rfl (c (by rw[p x d];simpa using j))
   refine Fit.aaf (by omega) (by omega) ?_;exact⟨(k+1,()),⟨a,om h b (by rw[p x d];simpa using j)⟩,⟨bM,trivial⟩,⟨.inl ⟨_,rfl,.inl ⟨rfl,rfl⟩⟩,.inl ⟨_,rfl,.inl ⟨rfl,rfl⟩⟩,.inl ⟨_,rfl,.inl ⟨rfl,rfl⟩⟩,trivial⟩,bN a⟩
  ·exact pO rfl (c (by rw[u x d,aaP h1,aaV]))
  ·refine aR (fun _=>?_) (fun q=>fL q d);refine callO [1000,10,11] [1000,10,11] (o x) rfl rfl rfl rfl rfl fun _ _=>?_;refine aq (fun j=>?_) (fun j=>?_)
   ·exact pO rfl (c (by rw[p x d];simpa using j))
   refine Fit.aaf (by omega) (by omega) ?_;exact⟨(k+1,()),⟨a,om h b (by rw[p x d];simpa using j)⟩,⟨bM,trivial⟩,⟨.inl ⟨_,rfl,.inl ⟨rfl,rfl⟩⟩,.inl ⟨_,rfl,.inl ⟨rfl,rfl⟩⟩,.inl ⟨_,rfl,.inl ⟨rfl,rfl⟩⟩,trivial⟩,bN a⟩
 ·have m:¬k<s.length:=by rw[l] at m;omega
  exact⟨(Hj m b).symm,rfl,rfl,rfl,vv IC (by rw[l]),rfl⟩
theorem lR {a b:Nat}(h:¬a=b):Nat.beq a b=false:=by
 cases c:Nat.beq a b with
 | true=>exact fL (aaQ c) h
 | false=>rfl
def MS (G:Nat->Option (Nat×TypeId)) (F0:aA) (Li:List Own) (w0:World) (K:TK) (a:Act) (w:World):Prop :=
 ∃F L ρ M τ,St F L w/\aD L ρ a/\TS G F L ρ M τ/\a.tmps.size=72/\Step F0 (inp Li) w0 F L w/\K M τ
section
variable {G:Nat->Option (Nat×TypeId)}{F0:aA}{Li:List Own}{w0:World}
theorem MS.piece {c:Code}{r:au}(z:low Try.prog PV c=some r) (x:fZ r=[]) {PS:nU}{E:Nat->TK}{N K:TK}{a:Act}{w:World}(h:MS G F0 Li w0 K a w)
  (hK:∀M τ,K M τ->evalTC P PS r E (fun _ _=>False) N M τ) {Q:Exit->Act->World->Prop}
  (hN:∀a' w',a'.defers=a.defers->MS G F0 Li w0 N a' w'->Q .normal a' w')
  (hE:∀j a' w',a'.defers=a.defers->MS G F0 Li w0 (E j) a' w'->Q (.exit j) a' w')
  (hP:∀v q a' w',rY v q->a'.defers=a.defers->PS.ps v->(∃F' L',St F' L' w'/\Step F0 (inp Li) w0 F' L' w'/\Kp G L')->Q (.panic q) a' w'):c.wp P Q a w:=by
 obtain⟨F,L,ρ,M,τ,g1,g2,g3,g4,t,n⟩:=h;refine wp_mono (fH c z (fun k n=>by rw[x] at n;cases n) g1 g2 g3 g4 (hK M τ n)) ?_;intro e a' w' d;cases e with
 | normal =>
  obtain⟨F',L',ρ',k1,f,o,m,p,y,M',b,u,k8⟩:=d;exact hN a' w' m ⟨F',L',ρ',M',b,k1,f,u,o,t.trans p,k8⟩
 | exit j =>
  obtain⟨F',L',ρ',k1,f,o,m,p,y,M',b,u,k8⟩:=d;exact hE j a' w' m ⟨F',L',ρ',M',b,k1,f,u,o,t.trans p,k8⟩
 | ret=>obtain⟨F',L',ρ',_,_,_,_,_,_,M',b,_,h⟩:=d;exact h.elim
 | goto l=>exact d.elim
 | panic q =>
  obtain⟨v,s,F',L',k1,f,o,m,p,kp,hp,_⟩:=d;exact hP v q a' w' s m hp ⟨F',L',k1,t.trans f,kp⟩
 | outgrown=>exact d.elim
def hE (e:Int) (len i:Nat):aM:=bA (some 0) (.own 1000 0) (bA (some 1) (IC e) (bA (some 59) (IC len) (bA (some 60) (IC i) fun _=>.any)))
theorem PW {F:aA}{L:Loc}{ρ:Env}{τ:aM}{e:Int}{len i:Nat}(h:∀j,aN F L (τ j) (ρ j)) (h0:τ 0=.own 1000 0) (h1:τ 1=IC e) (a:τ 59=IC len) (b:τ 60=IC i):∀j,aN F L (hE e len i j) (ρ j):=by
 intro j
 by_cases d:j=0
 ·subst d;have:=h 0;rw[h0] at this;exact this
 by_cases f:j=1
 ·subst f;have:=h 1;rw[h1] at this;exact this
 by_cases c:j=59
 ·subst c;have:=h 59;rw[a] at this;exact this
 by_cases k:j=60
 ·subst k;have:=h 60;rw[b] at this;exact this
 have n:Nat.beq j 0=false:=lR d;have m:Nat.beq j 1=false:=lR f;have o:Nat.beq j 59=false:=lR c;have l:Nat.beq j 60=false:=lR k;simp only[hE,bA,n,m,o,l];trivial
theorem MS.weak {K:TK}{a:Act}{w:World}{M0:TL}{e:Int}{len i:Nat}(h:MS G F0 Li w0 K a w) (f:∀M τ,K M τ->HS M0 e len i M τ):MS G F0 Li w0 (fun M τ=>M=M0/\τ=hE e len i) a w:=by
 obtain⟨F,L,ρ,M,τ,m,o,b,k,l,j⟩:=h;obtain⟨h1,n,d,c,p⟩:=f M τ j;exact⟨F,L,ρ,M,hE e len i,m,o,⟨b.tl,PW b.env n d c p,b.kp,b.glob⟩,k,l,h1,rfl⟩
theorem MS.mono {K K':TK}{a:Act}{w:World}(h:MS G F0 Li w0 K a w) (c:∀M τ,K M τ->K' M τ):MS G F0 Li w0 K' a w:=by
 obtain⟨F,L,ρ,M,τ,d,k,f,j,b,e⟩:=h;exact⟨F,L,ρ,M,τ,d,k,f,j,b,c M τ e⟩
theorem MS.int {K:TK}{a:Act}{w:World}{j:Nat}{x:Int}(h:MS G F0 Li w0 K a w) (b:∀M τ,K M τ->τ j=IC x):a.tmps.getD j undef=.int .i64 x:=by
 obtain⟨F,L,ρ,M,τ,l,e,d,f,k,c⟩:=h;have:=d.env j;rw[b M τ c] at this;simp only[aN,Rel] at this;obtain⟨v,h1,rfl,_⟩:=this;rw[e.eq j,h1];rfl
theorem MS.bool {K:TK}{a:Act}{w:World}{j:Nat}{x:Bool}(h:MS G F0 Li w0 K a w) (b:∀M τ,K M τ->τ j=.bool x):a.tmps.getD j undef=.bool x:=by
 obtain⟨F,L,ρ,M,τ,l,e,d,f,k,c⟩:=h;have:=d.env j;rw[b M τ c] at this;simp only[aN,Rel] at this;obtain⟨v,h1,rfl⟩:=this;rw[e.eq j,h1];rfl
theorem MS.wr {M0:TL}{e:Int}{len i:Nat}{a:Act}{w:World}{d:Nat}{v:Value}(h:MS G F0 Li w0 (fun M τ=>M=M0/\τ=hE e len i) a w) (y:d<72) (h0:d≠0) (h1:d≠1) (t:d≠59) (m:d≠60) :
  MS G F0 Li w0 (fun M τ=>M=M0/\τ=hE e len i) (a.put (some d) v) w:=by
 obtain⟨F,L,ρ,M,τ,p,u,c,n,o,rfl,rfl⟩:=h;refine⟨F,L,Fr.put (some d) (.v v) ρ,M,_,p,u.put (d:=some d) (x:=.v v) (fun k hk=>by injection hk with hk;subst hk;omega) rfl cC eV (fun k g ty cs e=>⟨cs,e⟩),⟨c.tl,fun j=>?_,c.kp,c.glob⟩,by rw[jK];exact n,o,rfl,rfl⟩
 by_cases f:j=d
 ·subst f;have r:Nat.beq j 0=false:=lR h0;have q:Nat.beq j 1=false:=lR h1;have s:Nat.beq j 59=false:=lR t;have l:Nat.beq j 60=false:=lR m;simp only[hE,bA,r,q,s,l];trivial
 ·have:Fr.put (some d) (.v v) ρ j=ρ j:=by
   have b:Nat.beq j d=false:=lR f;simp only[Fr.put,b]
  rw[this];exact c.env j
theorem MS.defers {K:TK}{a:Act}{w:World}{ds:List Deferred}(h:MS G F0 Li w0 K a w):MS G F0 Li w0 K {a with defers:=ds} w:=by
 obtain⟨F,L,ρ,M,τ,d,b,f,j,c,e⟩:=h;exact⟨F,L,ρ,M,τ,d,⟨b.eq,b.own,b.el⟩,f,j,c,e⟩
theorem SI:k12=.region 12 #[{dst:=some 68,op:=.move (.tmp 1),type:=45,pos:="unify.go:115",after:=#[],guard:=none},
  {dst:=some 69,op:=.build 98 #[(0,.tmp 68)],type:=98,pos:="unify.go:115",after:=#[{on:=0,ground:=Ground.data}],guard:=none},
  {dst:=some 70,op:=.makeInterface 98 (.tmp 69),type:=20,pos:="unify.go:115",after:=#[{on:=1,ground:=Ground.data}],guard:=none},
  {dst:=none,op:=.defer {callee:=.builtin .panic,args:=#[.tmp 70],argTypes:=#[20]},type:=0,pos:="unify.go:115",after:=#[{on:=2,ground:=Ground.data}],guard:=none}] false:=by kernel_rfl
theorem XA {a:Act}{w:World}{e:Int}{Q:Exit->Act->World->Prop}(d:a.tmps.size=72) (h1:a.tmps.getD 1 undef=.int .i64 e)
  (h:∀x y z,Q .normal {(((a.put (some 68) x).put (some 69) y).put (some 70) z) with defers:=sW (cH e)::a.defers} w):k12.wp P Q a w:=by
 rw[SI];apply wp_region;have b:a.tmps[1]?.getD undef=.int .i64 e:=by rw[<-aa6];exact h1
 have c:∀q:1<a.tmps.size,a.tmps[1]'q=.int .i64 e:=fun q=>by rw[Array.getElem?_eq_getElem q] at b;exact b
 simp[wpOps,go_sem,Region.wanted,d,b,c,Array.getElem?_setIfInBounds];exact .inl (.inl (.inl (.inl (h (.int .i64 e) (.agg #[.int .i64 e]) (.iface 98 (.agg #[.int .i64 e]))))))
end
theorem zj {s:List Ty}{n:Nat}:∀{N:Nat}{y:Option (Bool×DM×OM)},dI s n N=some y->∀i≤N,∃x,dI s n i=some x
 | 0,y,h,i,hi=>⟨y,by rw[show i=0 by omega];exact h⟩
 | N+1,y,h,i,hi=>by
  by_cases e:i=N+1
  ·exact⟨y,by rw[e];exact h⟩
  ·rw[dI] at h;cases h1:dI s n N with
   | none=>simp only[h1] at h;cases h
   | some x=>exact zj h1 i (by omega)
theorem zk {s:List Ty}{n i:Nat}(h:dI s n i=some none):∀k,dI s n (i+k)=some none
 | 0=>h
 | k+1=>by rw[<-Nat.add_assoc,dI,zk h k]
theorem FZ {s:List Ty}{n i:Nat}{b:Bool}{d:DM}{o:OM}{y:Option (Bool×DM×OM)}(h:dI s n i=some (some (b,d,o))) (a:dI s n (i+1)=some y) :
  ∃c,bI s n (vr i) d o=some c/\(c=none->y=none)/\∀k f o',c=some (k,f,o')->y=some (b||decide (k>8),f,o'):=by
 rw[dI] at a;simp only[h] at a;cases e:bI s n (vr i) d o with
 | none=>simp only[e] at a;cases a
 | some c =>
  refine⟨c,rfl,?_,?_⟩
  ·rintro rfl;simp only[e] at a;injection a with a;exact a.symm
  ·rintro k f o' rfl;simp only[e] at a;injection a with a;exact a.symm
end Go.Fr.Try
