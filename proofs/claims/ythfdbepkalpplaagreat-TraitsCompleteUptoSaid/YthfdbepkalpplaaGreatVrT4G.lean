/- Part of the proofs of the statements of this seat. -/
import Derived.Test.YthfdbepkalpplaaGreatVrT1G
import Derived.Test.YthfdbepkalpplaaGreatFW3
set_option maxRecDepth 10000
set_option linter.unusedVariables false
set_option linter.unusedSimpArgs false
namespace Go.Fr.Tryz
open Go Go.RowKit Go.Proofs Go.Fr Go.Fr.T Go.Fr.Api
def CS (s:List Ty) (a b:Ty):Prop:=∃n s',LY n s a b s'
theorem UR.ok {n:Nat}{s:List Ty}{a b:Ty}{r:List Ty}{e:Int}(t:UR n s a b r e):e=0↔CS s a b:=by
 constructor
 ·rintro rfl;rcases t with⟨s',g,_⟩ | ⟨g,_⟩
  ·exact⟨n,s',g⟩
  ·have:=g.three;omega
 ·rintro⟨m,s',g⟩;rcases t with⟨_,_,_,h⟩ | ⟨q,_⟩
  ·exact h
  ·obtain⟨⟨d,o,h1⟩,u,h2,z,o1,k,d2,o2,h3,h4,hk⟩:=g;exfalso;rcases q with⟨q,_⟩ | ⟨_,⟨q,_⟩ | ⟨_,⟨q,_⟩ | ⟨w,q,_,f⟩⟩⟩
   ·have:=iX h1 q;cases this
   ·rw[u] at q;cases q
   ·have:=kU h2 q;cases this
   ·have p:=kU h2 q;injection p with p
    subst p;rcases f with f | ⟨d',o',f,c⟩
    ·have:=iX h3 f;cases this
    ·have j:=iX h3 f;injection j with j
     injection j with j e3
     subst j e3;rcases c with c | ⟨y,v,x,c,q4⟩
     ·have:=uJ h4 c;cases this
     ·have l:=uJ h4 c;injection l with l
      injection l with l
      omega
def Tp (a b:Impl):Prop:=a.trait=b.trait/\0<=a.params/\0<=b.params/\a.params<=4/\b.params<=4/\∃x y,fresh a.params 0 a.type=some x/\fresh b.params a.params b.type=some y/\CS (zeros (a.params+b.params).toNat) x y
theorem rK {n f:Int}:∀t r:Ty,fresh n f t=some r->iA t->iA r/\bW r=bW t:=cV (p:=fun t=>∀r,fresh n f t=some r->iA t->iA r/\bW r=bW t) fun t e r h hb=>by
 rw[lG] at h;split at h
 ·cases h
 ·rename_i k;split at h
  ·rename_i h5;injection h with h
   subst h;have j:t.args=[]:=aby (by omega);exact⟨(fu _).2 ⟨abd _,fun x h=>by cases h⟩,by rw[cQ t,j];rfl⟩
  ·cases c:j7 (fresh n f) t.args with
   | none=>rw[c] at h;cases h
   | some l =>
    rw[c] at h;injection h with h
    subst h;obtain⟨h1,h2⟩:=gJ c;have hb:=(fu t).1 hb;have key:∀x∈t.args,iA ((fresh n f x).getD x)/\bW ((fresh n f x).getD x)=bW x:=fun x a=>e x a _ (h1 x a) (hb.2 x a);refine⟨(fu _).2 ⟨by show l.length<=_;rw[h2,xo];exact hb.1,fun y b=>?_⟩,?_⟩
    ·have b:y∈l:=b;rw[h2] at b;obtain⟨x,a,rfl⟩:=abq.1 b;exact(key x a).1
    ·rw[cQ,cQ t];show cG l+1=_;have:∀d:List Ty,(∀x∈d,bW ((fresh n f x).getD x)=bW x)->cG (d.map fun x=>(fresh n f x).getD x)=cG d:=by
      intro d
      induction d with
      | nil=>exact fun _=>rfl
      | cons x d e=>intro c;rw[aaZ,cG,cG,c x (by simp),e fun y b=>c y (by simp[b])]
     rw[h2,this t.args fun x a=>(key x a).2]
abbrev Ml (f:Nat) (a b:Impl):Prop:=CallsT P f [zZ a,zZ b] [] (aR [] (.bool (xA (Tp a b))))
theorem Vv (a b:Impl) (h:¬(a.trait=b.trait/\0<=a.params/\0<=b.params/\a.params<=4/\b.params<=4)):Ml 17 a b:=by
 have d:¬Tp a b:=fun q=>h ⟨q.1,q.2.1,q.2.2.1,q.2.2.2.1,q.2.2.2.2.1⟩;have e:=ig d;refine af Tryz.func17 G3 rfl fun c _=>?_;refine aV (fun _=>?_) (fun h1=>?_)
 ·exact ay rfl (vz C.bool e)
 refine⟨S8 (by exact c.1.2.2.1) (by exact c.2.1.2.2.1),?_⟩;refine ah (fun _=>?_) (fun h2=>?_)
 ·exact ay rfl (vz C.bool e)
 refine⟨LN (by exact c.1.2.2.1) (by exact c.2.1.2.2.1),?_⟩;refine ah (fun _=>?_) (fun h3=>?_)
 ·exact ay rfl (vz C.bool e)
 have h2:¬(if b.params<a.params then b.params else a.params)<0:=h2;have h3:¬(if b.params>a.params then b.params else a.params)>4:=h3;exact vv ⟨h1,by split at h2<;>split at h3<;>omega⟩ h
section
variable {L:TL}{ρ:aG}
theorem Qg (l:Nat) {t sz:Nat}{els:List (List C)}{n:Nat}{s:List Ty}{a b:Ty}{args f:List C}{K:TL->aG->C->Prop}{d:Option Nat}(h:CallsT P 42 f [] (RN n s a b)) (he:vX P 42) (w:L.get l=some (.row t sz els)) (p:(args.map fun c=>(c.frz l els).aaj.ren (bh [] 1000))=f)
  (k:∀r e,UR n s a b r e->Wf (.tup [.sl (r.map aD),IC e])->K ((L.aad (C.kill l)).set l (.row t sz [])) (fun j=>(ρ j).kill l) (C.tup [.sl (r.map aD),IC e])):pA P 42 args L ρ d K:=by
 subst p;exact .row _ l t sz els he w h fun v Mo ⟨o,r,e,m,u⟩ q=>by subst o u;exact⟨rfl,k r e m q⟩
end
theorem Vw:vX P 42:=⟨Tryz.f42,Tryz.func42,by kernel_rfl,by kernel_rfl⟩
theorem RJ (a b:Impl) (h:a.trait=b.trait/\0<=a.params/\0<=b.params/\a.params<=4/\b.params<=4) (x y:Ty×Bool) (h1:Gq a.params 0 a.type x) (h2:Gq b.params a.params b.type y) (m:Nat) (t:(m:Int)=a.params+b.params) (v:Bool)
  (p:x.2=false->v=false) (k:y.2=false->v=false) (n:Nat) (c:x.2=true->y.2=true->CallsT P 42 [.sl (List.replicate m [IC 0,IC 0,.sl []]),aP x.1,aP y.1] [] (RN n (zeros m) x.1 y.1)/\∀r e,UR n (zeros m) x.1 y.1 r e->decide (e=0)=v):CallsT P 17 [zZ a,zZ b] [] (aR [] (.bool v)):=by
 obtain⟨x,o⟩:=x;obtain⟨y,s⟩:=y;generalize f:UR=U at c;refine af Tryz.func17 G3 rfl fun d _=>?_;refine aV (fun q=>vv h.1 q) (fun _=>?_);refine⟨S8 (by exact d.1.2.2.1) (by exact d.2.1.2.2.1),?_⟩;refine ah (fun q=>?_) (fun _=>?_)
 ·have q:(if b.params<a.params then b.params else a.params)<0:=q;exact vv q (by split<;>omega)
 refine⟨LN (by exact d.1.2.2.1) (by exact d.2.1.2.2.1),?_⟩;refine ah (fun q=>?_) (fun _=>?_)
 ·have q:(if b.params>a.params then b.params else a.params)>4:=q;exact vv q (by split<;>omega)
 refine aF h1 rfl fun _=>?_;refine aF h2 rfl fun _=>?_;refine aq (fun q=>?_) (fun q=>?_)
 ·exact ay rfl (vz C.bool (p (by simpa using q)).symm)
 refine aq (fun j=>?_) (fun j=>?_)
 ·exact ay rfl (vz C.bool (k (by simpa using j)).symm)
 have c:=c (by simpa using q) (by simpa using j);refine El (m:=(m:Int)) (by rw[IntKind.wrap_i64];omega) ?_;refine oQ.mk (by omega) (aa7 _) (by omega) (by simp only[maxLen];omega) ?_;subst f;refine Qg 62 c.1 Vw rfl rfl fun r e l _=>?_;exact ay rfl (vz C.bool (c.2 r e l))
theorem XU (a b:Impl) (u:iA a.type) (hb:iA b.type) (z:bW a.type<=2 ^ 40) (al:bW b.type<=2 ^ 40):Ml 17 a b:=by
 by_cases h:a.trait=b.trait/\0<=a.params/\0<=b.params/\a.params<=4/\b.params<=4
 ·have h1:=YV a.params 0 (by omega) (by omega) a.type u;have h2:=YV b.params a.params (by omega) (by omega) b.type hb;have p:∀{o:Option Ty},(MP o).2=true->o=some (MP o).1:=fun{o} h=>by cases o with | none=>cases h | some r=>rfl
  have t:∀{o:Option Ty}{r:Ty},o=some r->(MP o).2=true:=fun{o} {r} h=>by rw[h];rfl
  by_cases c:(nQ a.params 0 a.type).2=true/\(nQ b.params a.params b.type).2=true
  ·have ex:=p c.1;have j:=p c.2;obtain⟨k,ac⟩:=rK a.type _ ex u;obtain⟨l,ae⟩:=rK b.type _ j hb;have w:(zeros (a.params+b.params).toNat).length=(a.params+b.params).toNat:=by rw[zeros,abo]
   obtain⟨n,m,_⟩:=Gl (s:=zeros (a.params+b.params).toNat) (by rw[w];omega) (fun x c=>by rw[(abQ.1 c).2];exact(fu _).2 ⟨abd _,fun x h=>by cases h⟩) k l (by omega) (by omega);have hz:(zeros (a.params+b.params).toNat).map aD=List.replicate (a.params+b.params).toNat [IC 0,IC 0,.sl []]:=by rw[zeros,abV];rfl
   rw[hz] at m;refine RJ a b h _ _ h1 h2 (a.params+b.params).toNat (by omega) _ (fun q=>by rw[c.1] at q;cases q) (fun q=>by rw[c.2] at q;cases q) n fun _ _=>⟨m,fun r e v=>PV (v.ok.trans ?_)⟩;constructor
   ·exact fun q=>⟨h.1,h.2.1,h.2.2.1,h.2.2.2.1,h.2.2.2.2,_,_,ex,j,q⟩
   ·rintro⟨_,_,_,_,_,x,y,d,f,q⟩;rw[ex] at d;rw[j] at f;injection d with d
    injection f with f
    subst d f;exact q
  ·have hv:¬Tp a b:=fun⟨_,_,_,_,_,x,y,d,f,_⟩=>c ⟨t d,t f⟩;have e:=ig hv;refine RJ a b h _ _ h1 h2 (a.params+b.params).toNat (by omega) _ (fun _=>e.symm) (fun _=>e.symm) 0 fun q1 q2=>vv ⟨q1,q2⟩ c
 ·exact Vv a b h
mutual
def j9 (q:Int->Bool):Ty->Bool
 | .mk k i l=>if k=9 then q i else HU q l
def HU (q:Int->Bool):List Ty->Bool
 | []=>true
 | t::l=>j9 q t&&HU q l
end
theorem BK (q:Int->Bool):∀l:List Ty,HU q l=l.all (j9 q)
 | []=>rfl
 | t::l=>by rw[HU,BK q l];rfl
theorem dY (q:Int->Bool) (t:Ty):j9 q t=if t.kind=9 then q t.id else t.args.all (j9 q):=by
 cases t;rw[j9,BK];rfl
theorem mZ {q q':Int->Bool}{n:Int}(h:∀w,0<=w->w<n->q w=true->q' w=true):∀t:Ty,ins n t=true->j9 q t=true->j9 q' t=true:=cV fun t f e c=>by
 rw[dY] at c ⊢
 by_cases h9:t.kind=9
 ·rw[fo h9] at c ⊢;obtain⟨a,b,_⟩:=fC e h9;exact h _ a b c
 ·rw[o5 h9,aa1] at c ⊢;exact fun x d=>f x d (cH e x d) (c x d)
def kn (s:List Ty):Nat->Int->Bool
 | 0,_=>false
 | j+1,v=>match s[v.toNat]? with
  | none=>true
  | some x=>decide (x.kind=0)||j9 (kn s j) x
theorem zE {s:List Ty}(b:zY s):∀(j:Nat) (v:Int),kn s j v=true->kn s (j+1) v=true
 | 0,v,h=>by cases h
 | j+1,v,h=>by
  rw[kn] at h ⊢;cases c:s[v.toNat]? with
  | none=>rfl
  | some x =>
   rw[c] at h;simp only at h ⊢
   by_cases a:x.kind=0
   ·rw[aaP a];rfl
   ·rw[aaS a,Bool.false_or] at h ⊢;exact mZ (fun w _ _=>zE b j w) x ((b x (aaU c)).resolve_left a) h
theorem Qh {s:List Ty}(o:zY s) {j:Nat}{t:Ty}(h:j8 s t):ins s.length t=true->j9 (kn s j) t=false->∃i:Nat,i<s.length/\kn s j i=false/\kn s (j+1) i=true:=by
 induction h with
 | @step t x h9 he k _ d =>
  intro b a;obtain⟨n,f,c⟩:=bE he
  by_cases m:j9 (kn s j) x=true
  ·rw[dY,fo h9] at a;have e:((t.id.toNat:Nat):Int)=t.id:=by omega
   refine⟨t.id.toNat,c,by rw[e];exact a,?_⟩;rw[kn,e,f];simp only;rw[m,Bool.or_true]
  ·exact d (o.elem he k) (by simpa using m)
 | @stop t x h9 he k _ _ =>
  intro b a;obtain⟨n,f,c⟩:=bE he;rw[dY,fo h9] at a;have e:((t.id.toNat:Nat):Int)=t.id:=by omega
  refine⟨t.id.toNat,c,by rw[e];exact a,?_⟩;rw[kn,e,f];simp only;rw[aaP k,Bool.true_or]
 | @arg t h9 _ d =>
  intro b a;rw[dY,o5 h9,List.all_eq_false] at a;obtain⟨y,l,a⟩:=a;exact d y l (cH b y l) (by simpa using a)
def rO (q:Nat->Bool):Nat->Nat
 | 0=>0
 | n+1=>(if q n=true then 1 else 0)+rO q n
theorem HV (q:Nat->Bool):∀n,rO q n<=n
 | 0=>aa2 _
 | n+1=>by have:=HV q n;rw[rO];split<;>omega
theorem BL {q q':Nat->Bool}(h:∀i,q i=true->q' i=true):∀n,rO q n<=rO q' n
 | 0=>aa2 _
 | n+1=>by
  have:=BL h n;rw[rO,rO]
  by_cases a:q n=true
  ·rw[fo a,fo (h n a)];omega
  ·rw[o5 a];split<;>omega
theorem HW {q q':Nat->Bool}(h:∀i,q i=true->q' i=true) {i:Nat}(h1:q i=false) (h2:q' i=true):∀n,i<n->rO q n<rO q' n
 | 0,hi=>vv hi (abv _)
 | n+1,hi=>by
  rw[rO,rO]
  by_cases e:i=n
  ·subst e;have:=BL h i;rw[o5 (by rw[h1];exact abf),fo h2];omega
  ·have:=HW h h1 h2 n (by omega)
   by_cases a:q n=true
   ·rw[fo a,fo (h n a)];omega
   ·rw[o5 a];split<;>omega
theorem BM {q:Nat->Bool}:∀{n},n<=rO q n->∀i<n,q i=true
 | 0,_,i,hi=>vv hi (abv _)
 | n+1,h,i,hi=>by
  rw[rO] at h;have:=HV q n
  by_cases a:q n=true
  ·rw[fo a] at h
   by_cases e:i=n
   ·rw[e];exact a
   ·exact BM (n:=n) (q:=q) (by omega) i (by omega)
  ·rw[o5 a] at h;omega
theorem Good.kn {s:List Ty}(g:Good s):∀i:Nat,i<s.length->Tryz.kn s s.length i=true:=by
 have k:∀j,j<=s.length->j<=rO (fun i=>Tryz.kn s j i) s.length:=by
  intro j
  induction j with
  | zero=>exact fun _=>abd _
  | succ j e =>
   intro f;have e:=e (by omega)
   by_cases a:∀i:Nat,i<s.length->Tryz.kn s j i=true
   ·have:∀n,n<=s.length->n<=rO (fun i=>Tryz.kn s (j+1) i) n:=by
     intro n
     induction n with
     | zero=>exact fun _=>abd _
     | succ n d =>
      intro l;have:=d (by omega);rw[rO,fo (zE g.ins j n (a n (by omega)))];omega
    exact abw f (this s.length (aa2 _))
   ·have:∃i:Nat,i<s.length/\Tryz.kn s j i=false:=by
     refine Classical.byContradiction fun b=>a fun i hi=>?_;cases c:Tryz.kn s j i with
     | true=>rfl
     | false=>exact vv ⟨i,hi,c⟩ b
    obtain⟨i,hi,c⟩:=this;obtain⟨h,h1,h2,h3⟩:=Qh g.ins (j:=j) (g.fin i hi) (mW hi) (by rw[dY,fo (show(vr i).kind=9 from rfl)];exact c);have:=HW (q:=fun i=>Tryz.kn s j i) (q':=fun i=>Tryz.kn s (j+1) i) (fun i=>zE g.ins j i) (i:=h) h2 h3 s.length h1;omega
 exact BM (k s.length (aa2 _))
theorem zF {p:Nat->Prop}:∀n,p n->∃m,m<=n/\p m/\∀k<m,¬p k
 | 0,h=>⟨0,aa2 _,h,fun k b=>vv b (abv _)⟩
 | n+1,h=>by
  by_cases d:∃k,k<=n/\p k
  ·obtain⟨k,b,h⟩:=d;have l:∀k,k<=n->p k->∃m,m<=k/\p m/\∀j<m,¬p j:=by
    intro k
    induction k using Nat.strongRecOn with
    | _ k f =>
     intro b h
     by_cases e:∃j,j<k/\p j
     ·obtain⟨j,c,a⟩:=e;obtain⟨m,m1,m2,m3⟩:=f j c (by omega) a;exact⟨m,by omega,m2,m3⟩
     ·exact⟨k,aa2 _,h,fun j c a=>e ⟨j,c,a⟩⟩
   obtain⟨m,m1,m2,m3⟩:=l k b h;exact⟨m,by omega,m2,m3⟩
  ·exact⟨n+1,aa2 _,h,fun k b a=>d ⟨k,by omega,a⟩⟩
structure Rk (s:List Ty) (ρ:Int->Nat):Prop where
 lt:∀i:Nat,i<s.length->ρ i<s.length
 dn:∀(i:Nat) (x:Ty),s[i]?=some x->¬x.kind=0->j9 (fun w=>decide (ρ w<ρ i)) x=true
theorem Good.aaF {s:List Ty}(g:Good s):∃ρ,Rk s ρ:=by
 have h:∀v:Int,∃m,(0<=v->v<s.length->m<s.length/\Tryz.kn s (m+1) v=true/\∀k<m,Tryz.kn s (k+1) v=false):=by
  intro v
  by_cases o:0<=v/\v<s.length
  ·have h1:=g.kn v.toNat (by omega);rw[show((v.toNat:Nat):Int)=v by omega] at h1;obtain⟨m,m1,m2,m3⟩:=zF (p:=fun m=>Tryz.kn s (m+1) v=true) (s.length-1) (by rw[show s.length-1+1=s.length by omega];exact h1);exact⟨m,fun _ _=>⟨by omega,m2,fun k d=>by simpa using m3 k d⟩⟩
  ·exact⟨0,fun a b=>vv ⟨a,b⟩ o⟩
 refine⟨fun v=>(h v).choose,⟨fun i hi=>((h i).choose_spec (by omega) (by omega)).1,fun i x l d=>?_⟩⟩;have hi:i<s.length:=(aaT.1 l).1;obtain⟨a,b,c⟩:=(h i).choose_spec (by omega) (by omega);have e:=(g.ins x (aaU l)).resolve_left d;show j9 (fun w=>decide ((h w).choose<(h i).choose)) x=true;generalize q:(h (i:Int)).choose=m at a b c ⊢;rw[Tryz.kn,show((i:Nat):Int).toNat=i by omega,l] at b;simp only at b;rw[aaS d,Bool.false_or] at b;refine mZ (fun w h0 h1 j=>?_) x e b;obtain⟨a',r,n⟩:=(h w).choose_spec h0 h1;cases m with
 | zero=>cases j
 | succ m =>
  rw[aa0];have:=fun(k:Nat) (d:k<(h w).choose)=>n k d
  by_cases f:m<(h w).choose
  ·rw[n m f] at j;cases j
  ·omega
theorem Tq {u:List Ty}{B:Nat}(d:∀x∈u,bW x<=B):∀t:Ty,bW (gs u t)<=bW t+B:=cV fun t b=>by
 by_cases h9:t.kind=9
 ·rw[kM h9];cases a:u[t.id.toNat]? with
  | none=>show bW (.mk 0 0 [])<=_;rw[show bW (.mk 0 0 [])=1 from rfl];have:=cQ t;omega
  | some x=>have:=d x (aaU a);show bW x<=_;omega
 ·rw[iO h9,cQ,cQ t];have:cG (t.args.map (gs u))<=cG t.args+B:=xB fun y c=>by
   obtain⟨x,a,rfl⟩:=abq.1 c;have:=b x a;have:=jY a;omega
  show cG (t.args.map (gs u))+1<=_;omega
theorem zG {u:List Ty}{t y:Ty}(h9:¬t.kind=9) (a:y∈t.args):bW (gs u y)+1<=bW (gs u t):=by
 rw[iO h9,cQ (.mk _ _ _)];have:=jY (l:=t.args.map (gs u)) (x:=gs u y) (abq.2 ⟨y,a,rfl⟩);show _<=cG (t.args.map (gs u))+1;omega
def RM (u:List Ty) (ex:Prop) (d:DM):Prop:=∀j k,br d j=some k->1<=k/\k<=bW (gs u (.mk 9 j []))/\(ex->k=bW (gs u (.mk 9 j [])))
def Mn (d:DM) (o:OM) (j:Int):Prop:=br o j=some true/\br d j=none
theorem Qi {n:Nat}(h:n<=2 ^ 50):Ek ((n:Int)+1)=((n+1:Nat):Int):=by
 unfold Ek;rw[IntKind.wrap_i64];omega
theorem uK {u s:List Ty}{ρ:Int->Nat}{ex:Prop}(hS:Sat u s) (hs:zY s) (hR:Rk s ρ) (hu:∀x∈u,bW x<=2 ^ 30) (ae:ex->∀(t:Ty) (x:Ty),t.kind=9->bO s t=some x->x.kind=0->bW (gs u t)=1) :
  ∀(n:Nat) (t:Ty) (d:DM) (o:OM) r,ins s.length t=true->bW t<=2 ^ 30->(∀x∈s,bW x<=2 ^ 30)->RM u ex d->(∀j,Mn d o j->j9 (fun w=>decide (ρ w<ρ j)) t=true)->bH s n t d o=some r ->
   ∃k f o',r=some (k,f,o')/\1<=k/\k<=bW (gs u t)/\(ex->k=bW (gs u t))/\RM u ex f/\∀j,Mn f o' j->Mn d o j
 | 0,t,d,o,r,_,_,_,_,_,h=>by cases h
 | n+1,t,d,o,r,ht,cm,an,hd,ho,h=>by
  have hL:∀(l:List Ty) (k:Int) (d:DM) (o:OM) r,(∀x∈l,ins s.length x=true/\bW x<=2 ^ 30/\∀j,Mn d o j->j9 (fun w=>decide (ρ w<ρ j)) x=true)->RM u ex d->fV (bH s n) l k d o=some r ->
    ∃k' f o',r=some (k',f,o')/\(∀m:Nat,k<=m->k'<=(max m (cG (l.map (gs u))):Nat))/\k<=k'/\(ex->∀m:Nat,k=m->k'=(max m (cG (l.map (gs u))):Nat))/\RM u ex f/\∀j,Mn f o' j->Mn d o j:=by
   intro l
   induction l with
   | nil =>
    intro k d o r _ hd h;rw[fV] at h;injection h with h
    refine⟨k,d,o,h.symm,fun m hm=>?_,aa7 _,fun _ m hm=>?_,hd,fun j h=>h⟩
    ·rw[abJ,cG];omega
    ·rw[abJ,cG];omega
   | cons x l ih =>
    intro k d o r v hd h;rw[fV] at h;obtain⟨bo,bd,be⟩:=v x (by simp);cases hx:bH s n x d o with
    | none=>rw[hx] at h;cases h
    | some z =>
     rw[hx] at h;obtain⟨k1,d1,o1,rfl,c1,c2,c3,c4,c5⟩:=uK hS hs hR hu ae n x d o z bo bd an hd be hx;simp only at h;obtain⟨k2,d2,o2,rfl,e1,e2,e3,e4,e5⟩:=ih _ d1 o1 r (fun y hy=>⟨(v y (by simp[hy])).1,(v y (by simp[hy])).2.1,fun j c=>(v y (by simp[hy])).2.2 j (c5 j c)⟩) c4 h;refine⟨k2,d2,o2,rfl,fun m hm=>?_,?_,fun hx m hm=>?_,e4,fun j c=>c5 j (e5 j c)⟩
     ·have:=e1 (max m (bW (gs u x))) (by split<;>omega);rw[aaZ,cG];omega
     ·have:k<=if k1>k then k1 else k:=by split<;>omega
      omega
     ·have:=e3 hx (max m (bW (gs u x))) (by have:=c3 hx;split<;>omega);rw[aaZ,cG];omega
  rw[bH] at h;cases he:(if t.kind=9 then bO s t else some (.mk 0 0 [])) with
  | none=>simp only[he] at h;cases h
  | some x =>
   simp only[he] at h
   by_cases hk:x.kind=0
   ·rw[o5 (fun p=>p hk)] at h;cases v:fV (bH s n) t.args 0 d o with
    | none=>simp only[v] at h;cases h
    | some z =>
     simp only[v] at h
     by_cases h9:t.kind=9
     ·have ha:=(fC ht h9).2.2;rw[ha,fV] at v;injection v with v
      subst v;simp only at h;injection h with h
      rw[fo h9] at he;have hg:1<=bW (gs u t):=by rw[cQ];omega
      refine⟨_,d,o,h.symm,?_,?_,fun hx=>?_,hd,fun j h=>h⟩
      ·rw[show Ek (0+1)=1 from rfl];omega
      ·rw[show Ek (0+1)=1 from rfl];omega
      ·rw[show Ek (0+1)=1 from rfl,ae hx t x h9 he hk];rfl
     ·obtain⟨k1,d1,o1,rfl,c1,c2,c3,c4,c5⟩:=hL t.args 0 d o z (fun y hy=>⟨cH ht y hy,by have:=jY hy;have:=cQ t;omega,fun j c=>by
       have:=ho j c;rw[dY,o5 h9,aa1] at this;exact this y hy⟩) hd v
      simp only at h;injection h with h
      have hg:=Tq hu t;have c1:=c1 0 (by omega);have hq:bW (gs u t)=cG (t.args.map (gs u))+1:=by rw[iO h9,cQ];rfl
      have bm:k1=(k1.toNat:Int):=by omega
      have hw:Ek (k1+1)=k1+1:=by rw[bm,Qi (by omega)];omega
      refine⟨_,d1,o1,h.symm,by omega,by omega,fun hx=>?_,c4,c5⟩;have:=c3 hx 0 rfl;omega
   ·rw[fo hk] at h;have h9:t.kind=9:=by
     by_cases h9:t.kind=9
     ·exact h9
     ·rw[o5 h9] at he;injection he with he
      exact vv (by rw[<-he];rfl) hk
    rw[fo h9] at he;obtain⟨e1,e2,e3⟩:=bE he;have bj:gs u x=gs u t:=hS.elem h9 he hk;have aE:gs u (.mk 9 t.id [])=gs u t:=l9 rfl h9 rfl;cases hm:br d t.id with
    | some k =>
     rw[hm] at h;simp only at h;injection h with h
     have:=hd _ _ hm;rw[aE] at this;exact⟨k,d,o,h.symm,this.1,this.2.1,this.2.2,hd,fun j h=>h⟩
    | none =>
     rw[hm] at h;simp only at h;have bc:¬br o t.id=some true:=fun q=>by
      have:=ho t.id ⟨q,hm⟩;rw[dY,fo h9,aa0] at this;omega
     have am:=hR.dn t.id.toNat x e2 hk;rw[show((t.id.toNat:Nat):Int)=t.id by omega] at am;have key:∀z,bH s n x d (eV o t.id true)=some z->∃k f o',z=some (k,f,o')/\1<=k/\k<=bW (gs u t)/\(ex->k=bW (gs u t))/\RM u ex (eV f t.id k)/\∀j,Mn (eV f t.id k) o' j->Mn d o j:=by
      intro z a;obtain⟨k1,d1,o1,rfl,c1,c2,c3,c4,c5⟩:=uK hS hs hR hu ae n x d (eV o t.id true) z (hs.elem he hk) (an x (oI he)) an hd (fun j c=>by
       obtain⟨q1,q2⟩:=c;rw[iN] at q1
       by_cases e:j=t.id
       ·rw[e];exact am
       ·rw[o5 e] at q1;have:=ho j ⟨q1,q2⟩;rw[dY,fo h9,aa0] at this;exact mZ (n:=s.length) (fun w _ _ hw=>by rw[aa0] at hw ⊢;omega) x (hs.elem he hk) am) a
      rw[bj] at c2 c3;refine⟨k1,d1,o1,rfl,c1,c2,c3,fun j k c=>?_,fun j c=>?_⟩
      ·rw[iN] at c
       by_cases e:j=t.id
       ·rw[fo e] at c;injection c with c
        rw[e,aE,<-c];exact⟨c1,c2,c3⟩
       ·rw[o5 e] at c;exact c4 j k c
      ·obtain⟨q1,q2⟩:=c;rw[iN] at q2
       by_cases e:j=t.id
       ·rw[fo e] at q2;cases q2
       ·rw[o5 e] at q2;obtain⟨q3,q4⟩:=c5 j ⟨q1,q2⟩;rw[iN,o5 e] at q3;exact⟨q3,q4⟩
     cases ag:br o t.id with
     | none =>
      rw[ag] at h;simp only at h;cases a:bH s n x d (eV o t.id true) with
      | none=>rw[a] at h;cases h
      | some z =>
       rw[a] at h;obtain⟨k,f,o',rfl,q⟩:=key z a;simp only at h;injection h with h
       exact⟨_,_,_,h.symm,q⟩
     | some b =>
      rw[ag] at h;cases b with
      | true=>exact vv ag bc
      | false =>
       simp only at h;cases a:bH s n x d (eV o t.id true) with
       | none=>rw[a] at h;cases h
       | some z =>
        rw[a] at h;obtain⟨k,f,o',rfl,q⟩:=key z a;simp only at h;injection h with h
        exact⟨_,_,_,h.symm,q⟩
theorem uL {u s:List Ty}{ρ:Int->Nat}{ex:Prop}(hS:Sat u s) (v:zY s) (w:Rk s ρ) (m:∀x∈u,bW x<=2 ^ 30) (f:ex->∀(t:Ty) (x:Ty),t.kind=9->bO s t=some x->x.kind=0->bW (gs u t)=1) (c:∀x∈s,bW x<=2 ^ 30) (n:Nat) :
  ∀(i:Nat) r,i<=s.length->dJ s n i=some r->∃b d o,r=some (b,d,o)/\((∀j:Nat,j<i->bW (gs u (vr j))<=8)->b=false)/\(ex->b=false->∀j:Nat,j<i->bW (gs u (vr j))<=8)/\RM u ex d/\∀j,¬Mn d o j
 | 0,r,_,h=>by
  rw[dJ] at h;injection h with h
  exact⟨false,[],[],h.symm,fun _=>rfl,fun _ _ j a=>vv a (abv _),fun j k e=>(by cases e),fun j q=>by have:=q.1;cases this⟩
 | i+1,r,hi,h=>by
  rw[dJ] at h;cases l:dJ s n i with
  | none=>rw[l] at h;cases h
  | some r1 =>
   rw[l] at h;obtain⟨b,d,o,rfl,c1,c2,c3,c4⟩:=uL hS v w m f c n i r1 (by omega) l;simp only at h;cases hd:bH s n (vr i) d o with
   | none=>rw[hd] at h;cases h
   | some r2 =>
    rw[hd] at h;obtain⟨k,d',o',rfl,e1,e2,z,y,e5⟩:=uK hS v w m f n (vr i) d o r2 (mW (by omega)) (by rw[show bW (vr i)=1 from rfl];omega) c c3 (fun j a=>vv a (c4 j)) hd;simp only at h;injection h with h
    refine⟨_,d',o',h.symm,fun q=>?_,fun p q j a=>?_,y,fun j a=>c4 j (e5 j a)⟩
    ·have:=q i (abW i);rw[c1 fun j a=>q j (by omega),aaS (by omega)];rfl
    ·rw[Bool.or_eq_false_iff,ab0] at q
     by_cases e:j=i
     ·subst e;have:=z p;omega
     ·exact c2 p q.1 j (by omega)
theorem EG {s:List Ty}(h0:∀x∈s,x.kind=0->x=.mk 0 0 []) (c:zY s):s.all (gh s.length)=true:=by
 rw[aa1];intro x b;rcases c x b with a | a
 ·rw[h0 x b a];rfl
 ·rw[Ew (by have:=mV a;omega)];exact a
theorem Gr {s:List Ty}(h:s.all (gh s.length)=true):∀x∈s,x.kind=0->x=.mk 0 0 []:=fun x b a=>by
 have h:=(aa1.1 h) x b;unfold gh at h;rw[fo a,aaN,aa0,aa0] at h;exact wk a h.1 (aby h.2)
theorem CT {p:Ty->Prop}(w:∀t,p t->∀x∈t.args,p x) (hv:∀i,p (.mk 9 i [])):∀(n:Nat) (s:List Ty) (a b:Ty) (s':List Ty),(∀x∈s,p x)->p a->p b->kT n s a b=some (some s')->∀x∈s',p x:=by
 intro n
 induction n with
 | zero=>intro s a b s' _ _ _ h;cases h
 | succ n ih =>
  intro s a b s' c ha hb h;have k:∀{t r:Ty},aO s n t=some r->p t->p r:=fun hf ht=>rI (p:=p) (fun t x _ _ he _=>c x (oI he)) hf ht;have d:∀{i:Nat}{b:Ty},p b->∀x∈s.set i b,p x:=fun hb x f=>by
   rcases ab7 f with f | rfl
   ·exact c x f
   ·exact hb
  cases fa:aO s n a with
  | none=>rw[kT,fa] at h;cases h
  | some a' =>
  cases fb:aO s n b with
  | none=>rw[kT,fa,fb] at h;cases h
  | some q =>
  rw[lJ fa fb] at h;have m:=k fa ha;have j:=k fb hb;split at h
  ·split at h
   ·injection h with h;injection h with h;exact h▸c
   ·injection h with h;injection h with h;rw[<-h]
    exact d (hv _)
  ·split at h
   ·cases ho:jI s a'.id n q with
    | none=>rw[ho] at h;cases h
    | some o =>
     rw[ho] at h;cases o with
     | true=>cases h
     | false=>injection h with h;injection h with h;rw[<-h];exact d j
   ·split at h
    ·exact ih s q a' s' c j m h
    ·split at h
     ·cases h
     ·have hL:∀(l e:List Ty) (s:List Ty),(∀x∈l,p x)->(∀x∈e,p x)->(∀x∈s,p x)->jJ (kT n) s l e=some (some s')->∀x∈s',p x:=by
       intro l
       induction l with
       | nil=>intro e s _ _ c h;rw[jJ] at h;injection h with h;injection h with h;exact h▸c
       | cons x l u =>
        intro e s h1 h2 c h;cases e with
        | nil=>cases h
        | cons y e =>
         rw[jJ] at h;cases f:kT n s x y with
         | none=>rw[f] at h;cases h
         | some r =>
          rw[f] at h;cases r with
          | none=>cases h
          | some s1=>exact u e s1 (fun z v=>h1 z (by simp[v])) (fun z v=>h2 z (by simp[v])) (ih s x y s1 c (h1 x (by simp)) (h2 y (by simp)) f) h
      exact hL a'.args q.args s (w a' m) (w q j) c h
theorem EH {n:Nat}{s:List Ty}{a b:Ty}{s':List Ty}(f:∀x∈s,x.kind=0->x=.mk 0 0 []) (hi:zY s) (e:ins s.length a=true) (hb:ins s.length b=true) (h:kT n s a b=some (some s')):∀x∈s',x.kind=0->x=.mk 0 0 []:=by
 have:∀x∈s',x=.mk 0 0 []\/(x.kind=9/\x.args=[])\/(∃m,ins m x=true):=by
  refine CT (p:=fun x=>x=.mk 0 0 []\/(x.kind=9/\x.args=[])\/(∃m,ins m x=true)) ?_ (fun i=>.inr (.inl ⟨rfl,rfl⟩)) n s a b s' (fun x c=>?_) (.inr (.inr ⟨_,e⟩)) (.inr (.inr ⟨_,hb⟩)) h
  ·rintro t (rfl | ⟨_,h⟩ | ⟨m,h⟩) x c
   ·cases c
   ·rw[h] at c;cases c
   ·exact .inr (.inr ⟨m,cH h x c⟩)
  ·rcases hi x c with d | d
   ·exact .inl (f x c d)
   ·exact .inr (.inr ⟨_,d⟩)
 intro x c d;rcases this x c with h | ⟨h,_⟩ | ⟨m,h⟩
 ·exact h
 ·omega
 ·have:=mV h;omega
theorem zH (s:List Ty):mX s<s.length+1:=by
 induction s with
 | nil=>exact Nat.zero_lt_one
 | cons x s a=>rw[mX,aa8];split<;>omega
theorem xI {n:Nat}{s:List Ty}{a b:Ty}{s':List Ty}(g:Good s) (c:ins s.length a=true) (hb:ins s.length b=true) (h:kT n s a b=some (some s')):Fe s s':=by
 obtain⟨m,r,h1,h2⟩:=uH _ s g (zH s) a b c hb;have e:=kU h h1;exact h2 s' e.symm
theorem Jv {s u:List Ty}{a b:Ty}{m:Nat}{d0:DM}{o0:OM}(hf:bK s m=some (some (d0,o0))) (w:nP s a b=true) (al:∀x∈s,bW x<=2 ^ 30) (hS:Sat u s) (ae:gs u a=gs u b) (hv:∀x∈u,bW x<=8) (hd:bW (gs u a)<=8):CS s a b:=by
 have g:=mY hf;obtain⟨i1,i2,p1,p2⟩:=zu w;obtain⟨n,F,_,_⟩:=RD s a b;have f:∃d o,bK s n=some (some (d,o)):=by
  obtain⟨r,c⟩:=F.form;exact⟨d0,o0,by rw[c,iX c hf]⟩
 obtain⟨r,c⟩:=F.eq f w;obtain⟨s',rfl,aa⟩:=hS.eqs ae c;have y:=xI g i1 i2 c;obtain⟨ρ,hR⟩:=y.good.aaF;have v:∀x∈s',bW x<=2 ^ 30:=CT (p:=fun x=>bW x<=2 ^ 30) (fun t h x hx=>by have:=jY hx;have:=cQ t;omega) (fun i=>by rw[show bW (.mk 9 i [])=1 from rfl];omega) n s a b s' al (by omega) (by omega) c;have hu:∀x∈u,bW x<=2 ^ 30:=fun x hx=>by have:=hv x hx;omega
 have hz:s.all (gh s.length)=true:=by
  unfold bK at hf;split at hf
  ·assumption
  ·cases hf
 obtain⟨r2,l⟩:=F.form' f w s' c;have ac:∀j:Nat,j<s'.length->bW (gs u (vr j))<=8:=fun j hj=>by
  rw[kM (show(vr j).kind=9 from rfl)];cases hx:u[((vr j).id).toNat]? with
  | none=>show bW (.mk 0 0 [])<=8;decide
  | some x=>exact hv x (aaU hx)
 have e:∃d o,bK s' n=some (some (d,o))/\RM u False d/\∀j,¬Mn d o j:=by
  unfold bK at l ⊢;rw[fo (EG (EH (Gr hz) g.ins i1 i2 c) y.good.ins)] at l ⊢;cases hl:dJ s' n s'.length with
  | none=>rw[hl] at l;cases l
  | some r1 =>
   obtain⟨b1,d,o,rfl,c1,_,c3,c4⟩:=uL (ex:=False) aa y.good.ins hR hu (fun q=>q.elim) v n s'.length r1 (aa2 _) hl;have:=c1 ac;subst this;exact⟨d,o,rfl,c3,c4⟩
 obtain⟨d,o,e,ag,ad⟩:=e;obtain⟨r3,z⟩:=F.deep f w s' c d o e;obtain⟨k,d',o',rfl,e1,e2,_⟩:=uK (ex:=False) aa y.good.ins hR hu (fun q=>q.elim) n a d o r3 (by rw[y.len];exact i1) (by omega) v ag (fun j hj=>vv hj (ad j)) z;exact⟨n,s',f,w,c,d,o,k,d',o',e,z,by omega⟩
theorem Sat.back {u s:List Ty}{v:Int}{b c:Ty}(h:Sat u (s.set v.toNat b)) (h0:0<=v) (j:s[v.toNat]?=some c) (a:c.kind=0) (hb:¬b.kind=0):Sat u s/\gs u (.mk 9 v [])=gs u b:=by
 have d:=h.len;rw[abG] at d;refine⟨⟨d,fun i x hi f=>?_⟩,?_⟩
 ·by_cases e:v.toNat=i
  ·rw[<-e,j] at hi;injection hi with hi
   exact vv (hi▸a) f
  ·exact h.eq i x (by rw[abU e];exact hi) f
 ·have:=h.eq v.toNat b (abY (aaT.1 j).1) hb;rw[kM rfl];show(u[v.toNat]?).getD _=_;rw[this];rfl
theorem vM {u:List Ty}:∀(n:Nat) (s:List Ty) (a b:Ty) (s':List Ty),Good s->ins s.length a=true->ins s.length b=true->kT n s a b=some (some s')->Sat u s'->Sat u s/\gs u a=gs u b
 | 0,s,a,b,s',_,_,_,h,_=>by cases h
 | n+1,s,a,b,s',g,ha,hb,h,hS=>by
  cases fa:aO s n a with
  | none=>rw[kT,fa] at h;cases h
  | some a' =>
  cases fb:aO s n b with
  | none=>rw[kT,fa,fb] at h;cases h
  | some f =>
  rw[lJ fa fb] at h;have v:=g.ins.front fa ha;have m:=g.ins.front fb hb;have fin:Sat u s/\gs u a'=gs u f->Sat u s/\gs u a=gs u b:=fun⟨d,e⟩=>⟨d,by rw[<-d.front fa,<-d.front fb,e]⟩;refine fin ?_
  by_cases h9:a'.kind=9
  ·obtain⟨xa,ar,aa⟩:=gj fa h9;obtain⟨w,t,be⟩:=bE ar;have e1:gs u (.mk 9 a'.id [])=gs u a':=l9 rfl h9 rfl
   by_cases c:f.kind=9
   ·obtain⟨xb,an,av⟩:=gj fb c;obtain⟨ao,al,ba⟩:=bE an;have e2:gs u (.mk 9 f.id [])=gs u f:=l9 rfl c rfl;rw[fo ⟨h9,c⟩] at h
    by_cases hi:a'.id=f.id
    ·rw[fo hi] at h;injection h with h;injection h with h
     exact⟨h▸hS,l9 h9 c hi⟩
    ·rw[o5 hi] at h;injection h with h;injection h with h
     subst h;rcases Int.le_total a'.id f.id with j | j
     ·rw[Int.max_eq_right j,Int.min_eq_left j] at hS;obtain⟨d,e⟩:=hS.back ao al av (by show¬(9:Int)=0;omega);exact⟨d,by rw[<-e1,<-e2,e]⟩
     ·rw[Int.max_eq_left j,Int.min_eq_right j] at hS;obtain⟨d,e⟩:=hS.back w t aa (by show¬(9:Int)=0;omega);exact⟨d,by rw[<-e1,<-e2,e]⟩
   ·rw[o5 (fun q=>c q.2),fo h9] at h;cases ho:jI s a'.id n f with
    | none=>rw[ho] at h;cases h
    | some o =>
     rw[ho] at h;cases o with
     | true=>cases h
     | false =>
      injection h with h;injection h with h
      subst h;obtain⟨d,e⟩:=hS.back w t aa (by have:=mV m;omega);exact⟨d,by rw[<-e1,e]⟩
  ·rw[o5 (fun p=>h9 p.1),o5 h9] at h
   by_cases c:f.kind=9
   ·rw[fo c] at h;obtain⟨d,e⟩:=vM n s f a' s' g m v h hS;exact⟨d,e.symm⟩
   ·rw[o5 c] at h;split at h
    ·cases h
    ·rename_i hc;have hL:∀(l k:List Ty) (s:List Ty),Good s->l.length=k.length->(∀x∈l,ins s.length x=true)->(∀x∈k,ins s.length x=true)->jJ (kT n) s l k=some (some s')->Sat u s/\l.map (gs u)=k.map (gs u):=by
      intro l
      induction l with
      | nil =>
       intro k s g hl _ _ h;rw[jJ] at h;injection h with h;injection h with h
       cases k with
       | nil=>exact⟨h▸hS,rfl⟩
       | cons y k=>cases hl
      | cons x l ac =>
       intro k s g hl h1 h2 h;cases k with
       | nil=>cases h
       | cons y k =>
        rw[jJ] at h;cases hx:kT n s x y with
        | none=>rw[hx] at h;cases h
        | some r =>
         rw[hx] at h;cases r with
         | none=>cases h
         | some s1 =>
          have nx:=xI g (h1 x (by simp)) (h2 y (by simp)) hx;obtain⟨d,e⟩:=ac k s1 nx.good (by simpa using hl) (fun z hz=>by rw[nx.len];exact h1 z (by simp[hz])) (fun z hz=>by rw[nx.len];exact h2 z (by simp[hz])) h;obtain⟨q3,q4⟩:=vM n s x y s1 g (h1 x (by simp)) (h2 y (by simp)) hx d;exact⟨q3,by rw[aaZ,aaZ,e,q4]⟩
     obtain⟨d,e⟩:=hL a'.args f.args s g (by omega) (cH v) (cH m) h;refine⟨d,?_⟩;rw[iO h9,iO c,e,show a'.kind=f.kind by omega,show a'.id=f.id by omega]
theorem Tr (n:Nat):∀t:Ty,ins n t=true->bW (gs (List.replicate n iT) t)=bW t:=cV fun t d e=>by
 by_cases h9:t.kind=9
 ·obtain⟨a,b,c⟩:=fC e h9;rw[kM h9,cQ t,c];rw[ab2,fo (by omega)];rfl
 ·rw[iO h9,cQ,cQ t];have:∀l:List Ty,(∀x∈l,bW (gs (List.replicate n iT) x)=bW x)->cG (l.map (gs (List.replicate n iT)))=cG l:=by
   intro l
   induction l with
   | nil=>exact fun _=>rfl
   | cons x l d=>intro h;rw[aaZ,cG,cG,h x (by simp),d fun y j=>h y (by simp[j])]
  show cG (t.args.map _)+1=_;rw[this t.args fun x f=>d x f (cH e x f)]
theorem Good.inst {s:List Ty}(g:Good s):∃u,Sat u s/\(∀(t x:Ty),t.kind=9->bO s t=some x->x.kind=0->bW (gs u t)=1):=by
 have a:∀i:Nat,∃r,i<s.length->Ex s (vr i) r:=fun i=>by
  by_cases hi:i<s.length
  ·obtain⟨n,r,h⟩:=(g.fin i hi).ap;exact⟨r,fun _=>⟨n,h⟩⟩
  ·exact⟨zT,fun h=>vv h hi⟩
 let G:=List.replicate s.length iT
 let u:=(List.range s.length).map fun i=>gs G (a i).choose
 have o:u.length=s.length:=by simp[u]
 have c:∀i:Nat,i<s.length->u[i]?=some (gs G (a i).choose):=fun i hi=>by simp[u,hi]
 have f:∀t:Ty,Tryz.ins s.length t=true->∀r,Ex s t r->gs u t=gs G r:=cV fun t ih w r k=>by
  by_cases h9:t.kind=9
  ·obtain⟨i,hi,e,e2⟩:=zo w h9;rw[kM h9,e2,show((i:Nat):Int).toNat=i by omega,c i hi];show gs G (a i).choose=_;rw[((a i).choose_spec hi).one (e▸k)]
  ·obtain⟨h1,h2,h3,h4⟩:=k.args h9;rw[iO h9,iO (by rw[h1];exact h9),h1,h2];congr 1;refine abP fun j=>?_;rw[aa6,aa6];cases b:t.args[j]? with
   | none =>
    have:r.args[j]?=none:=by rw[abC] at b ⊢;omega
    rw[this];rfl
   | some x =>
    obtain⟨y,hy,p⟩:=h4 j x b;rw[hy];exact vz some (ih x (aaU b) (cH w x (aaU b)) y p)
 refine⟨u,⟨o,fun i x b l=>?_⟩,fun t x h9 he l=>?_⟩
 ·have hi:i<s.length:=(aaT.1 b).1;obtain⟨n,d⟩:=(a i).choose_spec hi;have m:Ex s x (a i).choose:=by
   cases n with
   | zero=>cases d
   | succ n =>
    have he:bO s (vr i)=some x:=by
     unfold bO;rw[o5 (by show¬((i:Int)<0);omega)];show s[((i:Int)).toNat]?=some x;rw[show((i:Int)).toNat=i by omega];exact b
    rw[nk,fo (show(vr i).kind=9 from rfl),he] at d;simp only at d;rw[fo l] at d;exact⟨n,d⟩
  rw[c i hi,f x ((g.ins x (aaU b)).resolve_left l) _ m]
 ·obtain⟨e1,e2,z⟩:=bE he;have hg:gs u t=gs u (vr t.id.toNat):=l9 h9 rfl (by show t.id=((t.id.toNat:Nat):Int);omega);have v:bO s (vr t.id.toNat)=some x:=(CN (by show((t.id.toNat:Nat):Int)=t.id;omega)).trans he;have k:Ex s (vr t.id.toNat) (vr t.id.toNat):=⟨1,by rw[nk,fo (show(vr t.id.toNat).kind=9 from rfl),v];simp only;rw[o5 (fun q=>q l)];rfl⟩;rw[hg,f _ (mW z) _ k];exact Tr s.length _ (mW z)
theorem Mp {u s:List Ty}{ρ:Int->Nat}(hS:Sat u s) (g:Good s) (o:Rk s ρ) {D:Nat}(hD:∀x∈s,bW x<=D) (l:∀(t x:Ty),t.kind=9->bO s t=some x->x.kind=0->bW (gs u t)=1):∀(k:Nat) (t:Ty),ins s.length t=true->j9 (fun w=>decide (ρ w<k)) t=true->bW (gs u t)<=bW t+k*D
 | k,t,d,c=>by
  induction k generalizing t with
  | zero =>
   revert d c
   refine cV (p:=fun t=>ins s.length t=true->j9 (fun w=>decide (ρ w<0)) t=true->bW (gs u t)<=bW t+0*D) (fun t j d c=>?_) t
   by_cases h9:t.kind=9
   ·rw[dY,fo h9,aa0] at c;omega
   ·rw[dY,o5 h9,aa1] at c;rw[iO h9,cQ,cQ t];have:cG (t.args.map (gs u))<=cG t.args+0*D:=xB fun y f=>by
     obtain⟨x,b,rfl⟩:=abq.1 f;have:=j x b (cH d x b) (c x b);have:=jY b;omega
    show cG (t.args.map (gs u))+1<=_;omega
  | succ k h =>
   revert d c
   refine cV (p:=fun t=>ins s.length t=true->j9 (fun w=>decide (ρ w<k+1)) t=true->bW (gs u t)<=bW t+(k+1)*D) (fun t j d c=>?_) t
   by_cases h9:t.kind=9
   ·rw[dY,fo h9,aa0] at c;obtain⟨x,he,b⟩:=qO d h9;obtain⟨v,q,r⟩:=bE he;have h1:=cQ t
    by_cases a:x.kind=0
    ·rw[l t x h9 he a];omega
    ·rw[<-hS.elem h9 he a];have e:=o.dn t.id.toNat x q a;rw[show((t.id.toNat:Nat):Int)=t.id by omega] at e;have:=h x (g.ins.elem he a) (mZ (n:=s.length) (fun w _ _ m=>by rw[aa0] at m ⊢;omega) x (g.ins.elem he a) e);have:=hD x b;rw[Nat.succ_mul];omega
   ·rw[dY,o5 h9,aa1] at c;rw[iO h9,cQ,cQ t];have:cG (t.args.map (gs u))<=cG t.args+(k+1)*D:=xB fun y f=>by
     obtain⟨x,b,rfl⟩:=abq.1 f;have:=j x b (cH d x b) (c x b);have:=jY b;omega
    show cG (t.args.map (gs u))+1<=_;omega
theorem Jw {s:List Ty}{a b:Ty}(q:s.length<=1000) (am:∀x∈s,bW x<=8) (h:CS s a b):∃u,u.length=s.length/\gs u a=gs u b/\(∀x∈u,bW x<=8)/\bW (gs u a)<=8:=by
 obtain⟨n,s',⟨d0,o0,hf⟩,hp,he,d,o,k,d',o',r,hd,hk⟩:=h;have g:=mY hf;have v:=mY r;obtain⟨i1,i2,p1,p2⟩:=zu hp;have nx:=xI g i1 i2 he;obtain⟨ρ,z⟩:=v.aaF;obtain⟨u,hS,l⟩:=v.inst;have m:∀x∈s',bW x<=8:=CT (p:=fun x=>bW x<=8) (fun t h x f=>by have:=jY f;have:=cQ t;omega) (fun i=>by rw[show bW (.mk 9 i [])=1 from rfl];omega) n s a b s' am p1 p2 he;have e:∀x∈s',bW x<=2 ^ 30:=fun x f=>by have:=m x f;omega
 obtain⟨_,ag⟩:=vM n s a b s' g i1 i2 he hS;have ae:u.length=s.length:=by rw[hS.len,nx.len]
 have w:∀(i:Nat) (x:Ty),u[i]?=some x->i<s'.length/\gs u (vr i)=x:=fun i x f=>by
  refine⟨by rw[<-hS.len];exact(aaT.1 f).1,?_⟩;rw[kM (show(vr i).kind=9 from rfl),show((vr i).id).toNat=i from by show((i:Nat):Int).toNat=i;omega,f];rfl
 have hu:∀x∈u,bW x<=2 ^ 30:=fun x f=>by
  obtain⟨i,hi⟩:=List.getElem?_of_mem f;obtain⟨h1,h2⟩:=w i x hi;have:=Mp hS v z m l s'.length (vr i) (mW h1) (by rw[dY,fo (show(vr i).kind=9 from rfl),aa0];exact z.lt i h1);rw[h2,show bW (vr i)=1 from rfl,nx.len] at this;omega
 have hq:∀j:Nat,j<s'.length->bW (gs u (vr j))<=8:=by
  have c:=r;unfold bK at c;split at c
  ·cases q:dJ s' n s'.length with
   | none=>rw[q] at c;cases c
   | some r1 =>
    obtain⟨b1,d1,o1,rfl,_,c2,_⟩:=uL (ex:=True) hS v.ins z hu (fun _=>l) e n s'.length r1 (aa2 _) q;rw[q] at c;cases b1 with
    | true=>cases c
    | false=>exact c2 trivial rfl
  ·cases c
 have y:RM u True d/\∀j,¬Mn d o j:=by
  have c:=r;unfold bK at c;split at c
  ·cases q:dJ s' n s'.length with
   | none=>rw[q] at c;cases c
   | some r1 =>
    obtain⟨b1,d1,o1,rfl,_,_,c3,c4⟩:=uL (ex:=True) hS v.ins z hu (fun _=>l) e n s'.length r1 (aa2 _) q;rw[q] at c;cases b1 with
    | true=>cases c
    | false =>
     injection c with c;injection c with c;injection c with h1 h2
     subst h1 h2;exact⟨c3,c4⟩
  ·cases c
 obtain⟨k1,d1,o1,e1,_,_,e3,_⟩:=uK (ex:=True) hS v.ins z hu (fun _=>l) n a d o _ (by rw[nx.len];exact i1) (by omega) e y.1 (fun j hj=>vv hj (y.2 j)) hd;injection e1 with e1
 injection e1 with e1 _
 refine⟨u,ae,ag,fun x f=>?_,?_⟩
 ·obtain⟨i,hi⟩:=List.getElem?_of_mem f;obtain⟨h1,h2⟩:=w i x hi;rw[<-h2];exact hq i h1
 ·have:=e3 trivial;omega
def bC (b:Bool):List C:=[.bool b]
abbrev LO (l:List Bool):List TO:=[.box 96 [.rw 1001],.row 4 1 (l.map bC)]
theorem t61 (l:List Bool) (n:Int) (h0:0<=n) (h1:n<l.length):CallsT P 61 [IC n,.own 1000 0] (LO l) (aR (LO (l.set n.toNat true)) (.tup [])):=by
 have b:(l.map bC)[n.toNat]?=some [.bool l[n.toNat]]:=by rw[aa6,aaQ (by omega)];rfl
 have a:(l.map bC).set n.toNat [.bool true]=(l.set n.toNat true).map bC:=by rw[List.map_set];rfl
 generalize l.set n.toNat true=l' at a ⊢;refine af Tryz.func61 O4 rfl fun c _=>?_;refine zV.mk h0 (by rw[xo];exact h1) ?_;refine⟨rfl,uF b rfl ?_⟩;exact bP [1000,1001] rfl rfl (vz (fun q=>[TO.box 96 [.rw 1001],.row 4 1 q]) a) rfl
mutual
def mark:Ty->List Bool->List Bool
 | .mk k i l,o=>oJ l (if k=5 then o.set i.toNat true else o)
def oJ:List Ty->List Bool->List Bool
 | [],o=>o
 | t::l,o=>oJ l (mark t o)
end
mutual
def zI (n:Int):Ty->Bool
 | .mk k i l=>(if k=5 then decide (0<=i)&&decide (i<n) else true)&&CU n l
def CU (n:Int):List Ty->Bool
 | []=>true
 | t::l=>zI n t&&CU n l
end
theorem zJ (n:Int):∀l:List Ty,CU n l=l.all (zI n)
 | []=>rfl
 | t::l=>by rw[CU,zJ n l,abg]
theorem EI (n:Int) (t:Ty):zI n t=((if t.kind=5 then decide (0<=t.id)&&decide (t.id<n) else true)&&t.args.all (zI n)):=by
 cases t;rw[zI,zJ];rfl
mutual
theorem qQ:∀(t:Ty) (o:List Bool),(mark t o).length=o.length
 | .mk k i l,o=>by
  rw[mark,BN];split
  ·rw[abG]
  ·rfl
theorem BN:∀(l:List Ty) (o:List Bool),(oJ l o).length=o.length
 | [],o=>by rw[oJ]
 | t::l,o=>by rw[oJ,BN,qQ]
end
theorem mark_eq (t:Ty) (o:List Bool):mark t o=oJ t.args (if t.kind=5 then o.set t.id.toNat true else o):=by cases t;rw[mark];rfl
abbrev EJ (t:Ty) (o o':List Bool):Prop:=CallsT P 60 [aP t,.fn 61 [] [.own 1000 0]] (LO o) (aR (LO o') (.tup []))
theorem XV (t:Ty) (n:Nat) (mk:Ty->List Bool->List Bool) (tV:List Ty->List Bool->List Bool) (m:∀o,tV [] o=o) (d:∀x l o,tV (x::l) o=tV l (mk x o)) (h:∀x o,(mk x o).length=o.length)
  (y:∀x∈t.args,∀o,o.length=n->EJ x o (mk x o)) (o b:List Bool) (u:b.length=n) (v:t.kind=5->CallsT P 61 [IC t.id,.own 1000 0] (LO o) (aR (LO b) (.tup []))) (hb:¬t.kind=5->o=b):EJ t o (tV t.args b):=by
 have j:(t.args.map aD).length=t.args.length:=xo _;refine af Tryz.func60 O3 rfl fun w _=>?_;have hl:t.args.length<=9223372036854775807:=fB w.1.2.2.1;refine ah (fun h5=>callO [1000,1001] [1000,1001] (v h5) rfl rfl rfl rfl rfl fun _ _=>bN t.args.length 16 [] b (fun _=>[]) (fun q=>[(1000,.box 96 [.rw 1001]),(1001,.row 4 1 (q.map bC))]) (fun k q=>tV (t.args.drop k) q=tV t.args b/\q.length=n) ⟨rfl,u⟩ (ai rfl) trivial
   ⟨.inl ⟨_,rfl,.inl ⟨rfl,rfl⟩⟩,.inl ⟨_,rfl,.inl ⟨rfl,rfl⟩⟩,trivial⟩ (fun _=>rfl) (fun _=>rfl) ?_) (fun h5=>bN t.args.length 16 [] b (fun _=>[]) (fun q=>[(1000,.box 96 [.rw 1001]),(1001,.row 4 1 (q.map bC))]) (fun k q=>tV (t.args.drop k) q=tV t.args b/\q.length=n) ⟨rfl,u⟩ (ai rfl) trivial
   ⟨.inl ⟨_,rfl,.inl ⟨rfl,rfl⟩⟩,.inl ⟨_,rfl,.inl ⟨vz (fun z=>TO.row 4 1 (z.map bC)) (hb h5),rfl⟩⟩,trivial⟩ (fun _=>rfl) (fun _=>rfl) ?_)
 all_goals
  rintro k q hk ⟨c,s⟩ _ _ _;refine ah (fun a=>?_) (fun f=>?_)
  ·have a:k<t.args.length:=by rw[j] at a;omega
   refine bf a fun x hx r p=>?_;refine cA hx ?_;refine callO [1000,1001] [1000,1001] (y x r q s) rfl rfl rfl rfl rfl fun _ _=>?_;refine Fit.aae (by omega) (by omega) ?_;refine⟨(k+1,mk x q),⟨a,?_,by rw[h];exact s⟩,⟨bw,trivial⟩,⟨.inl ⟨_,rfl,.inl ⟨rfl,rfl⟩⟩,.inl ⟨_,rfl,.inl ⟨rfl,rfl⟩⟩,trivial⟩,bB a⟩;have:=c;rw[p,d] at this;exact this
  ·have f:¬k<t.args.length:=by rw[j] at f;omega
   have e:q=tV t.args b:=by
    have:=c;rw[bU f,m] at this;exact this
   exact bP [1000,1001] rfl rfl (vz (fun z=>LO z) e) rfl
theorem t60 (n:Nat):∀t:Ty,zI n t=true->∀o,o.length=n->EJ t o (mark t o):=cV fun t d a o b=>by
 rw[EI,aaN,aa1] at a;rw[mark_eq];refine XV t n mark oJ (fun o=>by rw[oJ]) (fun x l o=>by rw[oJ]) qQ (fun x c o b=>d x c (a.2 x c) o b) o _ ?_ (fun h5=>?_) (fun h5=>?_)
 ·split
  ·rw[abG];exact b
  ·exact b
 ·rw[fo h5] at a ⊢;have a:=a.1;rw[aaN,aa0,aa0] at a;exact t61 o t.id a.1 (by rw[b];exact a.2)
 ·rw[o5 h5]
def MR (K:List Bool) (v:Int):Bool:=(K[v.toNat]?).getD false
theorem Vy {K:List Bool}{z:Int}{b:Bool}{k:List C->Prop}(h0:0<=z) (a:K[z.toNat]?=some b) (h:k [.bool b]):tL (K.map bC) z 1 k :=
 ⟨_,h0,by rw[aa6,a];rfl,rfl,h⟩
theorem Vz (K:List Bool) (t:Ty) (r:ins K.length t=true) (V:Bool) (q:Ty->Bool) (h9:t.kind=9->V=MR K t.id) (n:t.kind≠9->t.args.all q=V) (u:t.kind≠9->∀x∈t.args,CallsT P 104 [aP x,.sl (K.map bC)] [] (aR [] (.bool (q x)))):CallsT P 104 [aP t,.sl (K.map bC)] [] (aR [] (.bool V)):=by
 have m:=PZ t;have o:=fC r;have f:(t.args.map aD).length=t.args.length:=xo _;refine af Tryz.func104 Ll rfl fun s _=>?_;have p:t.args.length<=9223372036854775807:=fB s.1.2.2.1;refine aF m rfl fun _=>?_;refine ah (fun e=>?_) (fun e=>?_)
 ·have o:=o e;refine ck (l:=K) (k:=t.id.toNat) (by omega) fun b hb _=>?_;refine Vy o.1 hb ?_;exact ay rfl (vz C.bool (by rw[h9 e,MR,hb];rfl))
 have n:=n e;refine bN t.args.length 5 [] () (fun _=>[]) (fun _=>[]) (fun k _=>(t.args.drop k).all q=V) n (ai rfl) trivial trivial (fun _=>rfl) (fun _=>rfl) ?_;rintro k _ w a _ _ _;have a:(t.args.drop k).all q=V:=a;refine ah (fun c=>?_) (fun d=>?_)
 ·have c:k<t.args.length:=by rw[f] at c;omega
  refine bf c fun x v j h=>?_;rw[h,abg] at a;refine cA v ?_;refine aF (u e x j) rfl fun _=>?_;refine aq (fun z=>?_) (fun z=>?_)
  ·exact ay rfl (vz C.bool (by rw[<-a,show q x=false by simpa using z];rfl))
  rw[show q x=true by simpa using z,aaW] at a;refine Fit.aae (by omega) (by omega) ?_;exact⟨(k+1,()),⟨c,a⟩,⟨bw,trivial⟩,trivial,bB c⟩
 ·have d:¬k<t.args.length:=by rw[f] at d;omega
  rw[bU d] at a;exact ay rfl (vz C.bool a)
theorem XW (K:List Bool):∀t:Ty,ins K.length t=true->CallsT P 104 [aP t,.sl (K.map bC)] [] (aR [] (.bool (j9 (MR K) t))):=cV fun t c a =>
 Vz K t a _ (j9 (MR K)) (fun h=>by rw[dY,fo h]) (fun h=>by rw[dY,o5 h]) fun h x b=>c x b (cH a x b)
def MT (a:Int) (c:Prop):List TO->C->Prop:=fun Mo v=>Mo=[]/\∃d:Int,v=IC d/\0<=d/\d<=max a 0/\(c->1<=d)
theorem CV {L:TL}{ρ:aG}{b:Int}{c:Prop}{f:Nat}{args a:List C}{K:TL->aG->C->Prop}(h:CallsT P f a [] (MT b c)) (l:(args.map fun c=>c.aaj.ren (bh [] 1000))=a)
  (k:∀d:Int,0<=d->d<=max b 0->(c->1<=d)->K L ρ (IC d)):kX P f args L ρ K:=by
 subst l;exact .mk ⟨[],[],[],L,[],_,.inl rfl,rfl,rfl,rfl,rfl,rfl,h,fun v Mo ⟨j,d,e,h1,h2,h3⟩ m _=>by subst j e;exact⟨rfl,k d h1 h2 h3⟩⟩
theorem EK {L:TL}{Lin:List TO}{v:C}{a:Int}{c:Prop}(d:Int) (hb:aJ Lin (List.range' 1000 Lin.length) []=true) (e:v.aao.ren (bh [] 1000)=IC d) (h1:0<=d) (h2:d<=max a 0) (h3:c->1<=d):eS Lin L v (MT a c) :=
 ⟨[],[],L,v,v,[],rfl,.inl ⟨rfl,rfl⟩,rfl,rfl,hb,fun _=>⟨rfl,d,e,h1,h2,h3⟩⟩
theorem VA (s:List Ty) (t:Ty) (st a:Int) (c:Prop) (hm:a<=100) (an:0<=st/\st<=2 ^ 40) (hc:c->1<=a)
  (h9:t.kind=9->∃x,bO s t=some x/\t.args=[]/\(¬x.kind=0->1<=st/\CallsT P 93 [.sl (s.map aD),aP x,IC (st-1),IC a] [] (MT a c)))
  (y:Ty->Prop) (p:t.kind≠9->∀x∈t.args,CallsT P 93 [.sl (s.map aD),aP x,IC st,IC (a-1)] [] (MT (a-1) (y x))) (o:c->∀x∈t.args,y x):CallsT P 93 [.sl (s.map aD),aP t,IC st,IC a] [] (MT a c):=by
 have m:=PZ t;have r:(t.args.map aD).length=t.args.length:=xo _;refine af Tryz.func93 Ps rfl fun hw _=>?_;have v:t.args.length<=9223372036854775807:=fB hw.2.1.2.2.1;refine ah (fun q=>?_) (fun q1=>?_)
 ·exact EK 0 rfl rfl (aa7 _) (by omega) (fun z=>by have:=hc z;have q:a<1:=q;omega)
 refine ah (fun q=>vv (show st<0 from q) (by omega)) (fun q2=>?_);have q1:¬a<1:=q1;refine aF m rfl fun _=>?_;refine ah (fun e=>qe (h9 e) fun x j=>?_) (fun e=>?_)
 ·have he:=bE j.1;refine nO he.1 he.2.1 ?_;refine aV (fun u=>?_) (fun u=>?_)
  ·have h2:=j.2.2 u;refine nO he.1 he.2.1 ?_;refine Fit.aae (by omega) (by omega) ?_;refine CV h2.2 rfl fun d w d2 l=>?_;exact EK d rfl rfl w d2 l
  ·have ha:=j.2.1;have ac:(t.args.map aD).length=0:=by rw[ha];rfl
   refine bN 0 10 [9] (0:Int) (fun n=>[IC n]) (fun _=>[]) (fun _ n=>n=0) rfl (ai rfl) ⟨ai rfl,trivial⟩ trivial (fun _=>rfl) (fun _=>rfl) ?_;rintro k n ag h _ _ _;have h:n=0:=h;refine ah (fun q=>vv (show(k:Int)<((t.args.map aD).length:Int) from q) (by omega)) (fun _=>?_);refine Fit.aae (by omega) (by omega) ?_;exact EK (n+1) rfl rfl (by omega) (by omega) (fun _=>by omega)
 have p:=p e;refine bN t.args.length 10 [9] (0:Int) (fun n=>[IC n]) (fun _=>[]) (fun _ n=>0<=n/\n<=max (a-1) 0) ⟨aa7 _,by omega⟩ (ai rfl) ⟨ai rfl,trivial⟩ trivial (fun _=>rfl) (fun _=>rfl) ?_;rintro k n u h _ _ _;have h:0<=n/\n<=max (a-1) 0:=h;refine ah (fun b=>?_) (fun am=>?_)
 ·have b:k<t.args.length:=by rw[r] at b;omega
  refine ck b fun x j f=>?_;refine cA j ?_;refine Fit.aae (by omega) (by omega) ?_;refine CV (p x f) rfl fun d w d2 l=>?_;refine ah (fun q=>?_) (fun q=>?_)
  ·have q:d=0:=q;exact EK 0 rfl rfl (aa7 _) (by omega) (fun z=>by have:=l (o z x f);omega)
  refine⟨Rv (by split<;>omega) (by split<;>omega),?_⟩;refine Fit.aae (by omega) (by omega) ?_;exact⟨(k+1,if d>n then d else n),⟨b,(by split<;>omega:0<=if d>n then d else n),(by split<;>omega:(if d>n then d else n)<=max (a-1) 0)⟩,⟨bw,ai rfl,trivial⟩,trivial,bB b⟩
 ·refine Fit.aae (by omega) (by omega) ?_;exact EK (n+1) rfl rfl (by omega) (by omega) (fun _=>by omega)
theorem YW {u s:List Ty}{ρ:Int->Nat}(hS:Sat u s) (l:zY s) (v:Rk s ρ):∀(n:Nat) (t:Ty) (m:Int),n<=2 ^ 30->m<=100->ins s.length t=true->j9 (fun w=>decide (ρ w<n)) t=true->CallsT P 93 [.sl (s.map aD),aP t,IC (n:Int),IC m] [] (MT m ((bW (gs u t):Int)<=m)):=by
 intro n
 induction n with
 | zero =>
  refine cV (p:=fun t=>∀m:Int,0<=2 ^ 30->m<=100->ins s.length t=true->j9 (fun w=>decide (ρ w<0)) t=true->CallsT P 93 [.sl (s.map aD),aP t,IC ((0:Nat):Int),IC m] [] (MT m ((bW (gs u t):Int)<=m))) fun t j m _ e b c=>?_;have h1:1<=bW (gs u t):=by rw[cQ];omega
  refine VA s t 0 m _ e (by omega) (fun h=>by omega) (fun h9=>?_) (fun x=>(bW (gs u x):Int)<=m-1) (fun h9 x a=>?_) (fun h x a=>?_)
  ·rw[dY,fo h9,aa0] at c;omega
  ·rw[dY,o5 h9,aa1] at c;exact j x a (m-1) (by omega) (by omega) (cH b x a) (c x a)
  ·by_cases h9:t.kind=9
   ·rw[(fC b h9).2.2] at a;cases a
   ·have:=zG (u:=u) h9 a;omega
 | succ n k =>
  refine cV (p:=fun t=>∀m:Int,n+1<=2 ^ 30->m<=100->ins s.length t=true->j9 (fun w=>decide (ρ w<n+1)) t=true->CallsT P 93 [.sl (s.map aD),aP t,IC ((n+1:Nat):Int),IC m] [] (MT m ((bW (gs u t):Int)<=m))) fun t j m o e b c=>?_;have h1:1<=bW (gs u t):=by rw[cQ];omega
  refine VA s t ((n+1:Nat):Int) m _ e (by omega) (fun h=>by omega) (fun h9=>?_) (fun x=>(bW (gs u x):Int)<=m-1) (fun h9 x a=>?_) (fun h x a=>?_)
  ·rw[dY,fo h9,aa0] at c;obtain⟨x,he,a⟩:=qO b h9;obtain⟨z,r,y⟩:=bE he;refine⟨x,he,(fC b h9).2.2,fun f=>⟨by omega,?_⟩⟩;have d:=v.dn t.id.toNat x r f;rw[show((t.id.toNat:Nat):Int)=t.id by omega] at d;have:=k x m (by omega) e (l.elem he f) (mZ (n:=s.length) (fun w _ _ q=>by rw[aa0] at q ⊢;omega) x (l.elem he f) d);rw[hS.elem h9 he f] at this;rw[show((n+1:Nat):Int)-1=(n:Int) by omega];exact this
  ·rw[dY,o5 h9,aa1] at c;exact j x a (m-1) o (by omega) (cH b x a) (c x a)
  ·by_cases h9:t.kind=9
   ·rw[(fC b h9).2.2] at a;cases a
   ·have:=zG (u:=u) h9 a;omega
theorem Tw:vX P 104:=⟨Tryz.f104,Tryz.func104,by kernel_rfl,by kernel_rfl⟩
theorem VB {b:Bool}{F F':aA}{L L':Loc}{v:Value}(h:Rel F L (.bool b) v):Rel F' L' (.bool b) v:=by
 simp only[Rel] at h ⊢;exact h
theorem XY (K:List Bool) (t:Ty) (a:ins K.length t=true):iw P 104 [aP t,.rw 1000] [.row 4 1 (K.map bC)] (aR [.row 4 1 (K.map bC)] (.bool (j9 (MR K) t))):=CallsT.aaI (XW K t a) Tw VB
def JI (ρ:Int->Nat) (n j i:Nat) (K:List Bool):Prop:=K.length=n/\∀v:Nat,v<n->(ρ v<j\/(v<i/\ρ v<j+1))->K[v]?=some true
theorem JI.set {ρ:Int->Nat}{s:List Ty}(o:zY s) (p:Rk s ρ) {j i:Nat}{K:List Bool}(h:JI ρ s.length j i K) {x:Ty}(d:s[i]?=some x) {b:Bool}(hb:b=true\/K[i]?=some b/\b=false/\¬x.kind=0/\j9 (MR K) x=false):JI ρ s.length j (i+1) (K.set i b):=by
 obtain⟨h1,h2⟩:=h;have hi:=(aaT.1 d).1;refine⟨by rw[abG];exact h1,fun v m t=>?_⟩
 by_cases e:i=v
 ·subst e;rw[abY (by omega)];rcases hb with hb | ⟨hb,rfl,k,f⟩
  ·rw[hb]
  ·exfalso;have a:=(o x (aaU d)).resolve_left k;have c:=p.dn i x d k;have:j9 (MR K) x=true:=mZ (n:=s.length) (fun w r q l=>by
    rw[aa0] at l;have:=h2 w.toNat (by omega) (.inl (by rw[show((w.toNat:Nat):Int)=w by omega];omega));rw[MR,this];rfl) x a c
   rw[this] at f;cases f
 ·rw[abU e];exact h2 v m (by omega)
theorem JI.next {ρ:Int->Nat}{n j i:Nat}{K:List Bool}(h:JI ρ n j i K) (hi:¬i<n):JI ρ n (j+1) 0 K:=⟨h.1,fun v a q=>h.2 v a (by omega)⟩
theorem XZ {K:List Bool}{i:Nat}{b:Bool}:(K.map bC).set i [.bool b]=(K.set i b).map bC:=by rw[List.map_set];rfl
theorem kor {K:List Bool}{i:Nat}{b V:Bool}{x:Ty}(hb:K[i]?=some b) (q:b=false) (a:¬x.kind=0):V=true\/K[i]?=some V/\V=false/\¬x.kind=0/\V=false:=by
 cases V with
 | true=>exact .inl rfl
 | false=>exact .inr ⟨by rw[hb,q],rfl,a,rfl⟩
theorem t97 {s:List Ty}{ρ:Int->Nat}(hs:zY s) (hz:∀x∈s,x.kind=0->x=.mk 0 0 []) (hR:Rk s ρ) (hl:s.length<=2 ^ 30):CallsT P 97 [.sl (s.map aD)] [] (aR [] (.bool true)):=by
 have m:(s.map aD).length=s.length:=xo _;have am:=fun t=>YO s.length t;have z:∀x∈s,¬x.kind=0->ins s.length x=true:=fun x u hk=>(hs x u).resolve_left hk;have ae:=XY;have p:=fun{j i K} h {x} u {b} hb=>@JI.set ρ s hs hR j i K h x u b hb;have k0:JI ρ s.length 0 0 (List.replicate s.length false):=⟨abo,fun v _ q=>by omega⟩;have ag:(List.replicate s.length false).map bC=List.replicate s.length [C.bool false]:=by rw[abV];rfl
 have ab:List.replicate (((s.map aD).length:Int)).toNat [C.bool false]=(List.replicate s.length false).map bC:=by rw[m,ag];rfl
 refine af Tryz.func97 Pu rfl fun hw _=>?_;refine bN s.length 3 [] () (fun _=>[]) (fun _=>[]) (fun _ _=>True) trivial (ai rfl) trivial trivial (fun _=>rfl) (fun _=>rfl) ?_;rintro k _ hk _ _ _ _;refine ah (fun d=>?_) (fun aa=>?_)
 ·have d:k<s.length:=by rw[m] at d;omega
  refine ck d fun x u w=>?_;have f:s[((k:Int)).toNat]?=some x:=u;refine nO (by omega) f ?_;refine aV (fun r=>?_) (fun r=>?_)
  ·refine nO (by omega) f ?_;have h:=am x;rw[z x w r] at h;refine aF h (by rw[m];rfl) fun _=>?_;refine nO (by omega) f ?_;refine ah (fun q=>vv q r) (fun _=>?_);refine Fit.aae (by omega) (by omega) ?_;exact⟨(k+1,()),⟨d,trivial⟩,⟨bw,trivial⟩,trivial,bB d⟩
  ·have e:=hz x w r;refine nO (by omega) f ?_;refine ah (fun _=>?_) (fun q=>vv r q);refine nO (by omega) f ?_;refine aV (fun q=>vv (by rw[e];rfl) q) (fun _=>?_);refine nO (by omega) f ?_;refine ah (fun q=>vv (show((x.args.map aD).length:Int)>0 from q) (by rw[e];decide)) (fun _=>?_);refine Fit.aae (by omega) (by omega) ?_;exact⟨(k+1,()),⟨d,trivial⟩,⟨bw,trivial⟩,trivial,bB d⟩
 refine oQ.mk (by omega) (aa7 _) (by omega) (by simp only[maxLen];omega) ?_;refine bN s.length 5 [4] (List.replicate s.length false) (fun _=>[.rw 57]) (fun K=>[(57,.row 4 1 (K.map bC))]) (fun j K=>JI ρ s.length j 0 K) k0 (ai rfl) ⟨ai rfl,trivial⟩ ⟨.inl ⟨_,rfl,.inl ⟨nN ab,rfl⟩⟩,trivial⟩ (fun _=>rfl) (fun _=>rfl) ?_;rintro j K hj n _ _ _;have n:JI ρ s.length j 0 K:=n;refine ah (fun d=>?_) (fun aa=>?_)
 ·have d:j<s.length:=by rw[m] at d;omega
  refine bN s.length 6 [4] K (fun _=>[.rw 57]) (fun K=>[(57,.row 4 1 (K.map bC))]) (fun i K=>JI ρ s.length j i K) n (ai rfl) ⟨ai rfl,trivial⟩ ⟨.inl ⟨_,rfl,.inl ⟨rfl,rfl⟩⟩,trivial⟩ (fun _=>rfl) (fun _=>rfl) ?_;rintro i K hi n _ _ _;have n:JI ρ s.length j i K:=n;have al:(K.map bC).length=s.length:=by rw[xo];exact n.1
  refine ah (fun a=>?_) (fun y=>?_)
  ·have a:i<s.length:=by rw[m] at a;omega
   refine ck a fun x u w=>?_;have f:s[((i:Int)).toNat]?=some x:=u;refine ck (l:=K) (k:=i) (by rw[n.1];exact a) fun b hb _=>?_;have o:(K.map bC)[((i:Int)).toNat]?=some [.bool b]:=by rw[aa6,show((i:Int)).toNat=i from rfl,hb];rfl
   have ac:=fun c:Bool=>XZ (K:=K) (i:=i) (b:=c);refine zV.mk (by omega) (by omega) ?_;refine⟨_,o,rfl,?_⟩;refine aq (fun q=>?_) (fun q=>?_)
   ·refine zV.mk (by omega) (by omega) ?_;refine⟨rfl,uF o rfl ?_⟩;refine Fit.aae (by omega) (by omega) ?_;exact⟨(i+1,K.set i true),⟨a,p n u (.inl rfl)⟩,⟨bw,ai rfl,trivial⟩,⟨.inl ⟨_,rfl,.inl ⟨nN (ac true),rfl⟩⟩,trivial⟩,bB a⟩
   refine nO (by omega) f ?_;refine ah (fun hk=>?_) (fun hk=>?_)
   ·refine zV.mk (by omega) (by omega) ?_;refine⟨rfl,uF o rfl ?_⟩;refine Fit.aae (by omega) (by omega) ?_;exact⟨(i+1,K.set i true),⟨a,p n u (.inl rfl)⟩,⟨bw,ai rfl,trivial⟩,⟨.inl ⟨_,rfl,.inl ⟨nN (ac true),rfl⟩⟩,trivial⟩,bB a⟩
   refine nO (by omega) f ?_;refine zK [57] (ae K x (by rw[n.1];exact z x w hk)) rfl rfl rfl rfl rfl ?_;refine zV.mk (by omega) (by omega) ?_;refine⟨rfl,uF o rfl ?_⟩;refine Fit.aae (by omega) (by omega) ?_;refine⟨(i+1,K.set i (j9 (MR K) x)),⟨a,p n u ?_⟩,⟨bw,ai rfl,trivial⟩,⟨.inl ⟨_,rfl,.inl ⟨nN (ac (j9 (MR K) x)),rfl⟩⟩,trivial⟩,bB a⟩;exact kor hb q hk
  ·refine Fit.aae (by omega) (by omega) ?_;have y:¬i<s.length:=by rw[m] at y;omega
   exact⟨(j+1,K),⟨d,n.next y⟩,⟨bw,ai rfl,trivial⟩,⟨.inl ⟨_,rfl,.inl ⟨rfl,rfl⟩⟩,trivial⟩,bB d⟩
 have aa:¬j<s.length:=by rw[m] at aa;omega
 have al:(K.map bC).length=s.length:=by rw[xo];exact n.1
 refine bN s.length 7 [4] () (fun _=>[.rw 57]) (fun _=>[(57,.row 4 1 (K.map bC))]) (fun _ _=>True) trivial (ai rfl) ⟨ai rfl,trivial⟩ ⟨.inl ⟨_,rfl,.inl ⟨rfl,rfl⟩⟩,trivial⟩ (fun _=>rfl) (fun _=>rfl) ?_;rintro i _ hi _ _ _ _;refine ah (fun a=>?_) (fun y=>ay rfl rfl);have a:i<s.length:=by rw[m] at a;omega
 have hb:=n.2 i a (.inl (by have:=hR.lt i a;omega));have o:(K.map bC)[((i:Int)).toNat]?=some [.bool true]:=by rw[aa6,show((i:Int)).toNat=i from rfl,hb];rfl
 refine zV.mk (by omega) (by omega) ?_;refine⟨_,o,rfl,?_⟩;refine Fit.aae (by omega) (by omega) ?_;exact⟨(i+1,()),⟨a,trivial⟩,⟨bw,ai rfl,trivial⟩,⟨.inl ⟨_,rfl,.inl ⟨rfl,rfl⟩⟩,trivial⟩,bB a⟩
section
variable {α:Type}
def bL (q:α->Bool):List α->Int->Int
 | [],_=>-1
 | x::l,k=>if q x then k else bL q l (k+1)
theorem oL {q:α->Bool}{l:List α}{k:Nat}{x:α}{r:Int}(hd:l.drop k=x::l.drop (k+1)) (hi:bL q (l.drop k) k=r) (a:q x=true):(k:Int)=r:=by
 rw[hd,bL,fo a] at hi;exact hi
theorem qR {q:α->Bool}{l:List α}{k:Nat}{x:α}{r:Int}(hd:l.drop k=x::l.drop (k+1)) (hi:bL q (l.drop k) k=r) (a:q x=false):bL q (l.drop (k+1)) ((k+1:Nat):Int)=r:=by
 rw[hd,bL,o5 (by rw[a];exact abf)] at hi;exact hi
theorem oM {q:α->Bool}{l:List α}{k:Nat}{r:Int}(h:¬k<l.length) (hi:bL q (l.drop k) k=r):(-1:Int)=r:=by
 rw[bU h,bL] at hi;exact hi
theorem zL (q:α->Bool):∀(l:List α) (k:Int),0<=k->decide (0<=bL q l k)=l.any q
 | [],k,_=>rfl
 | x::l,k,h=>by
  rw[bL,abD];cases a:q x
  ·rw[o5 abf,Bool.false_or];exact zL q l (k+1) (by omega)
  ·rw[fo rfl,Bool.true_or];exact aaP h
theorem rL (q:α->Bool) (l:List α):decide (bL q l 0>=0)=l.any q:=zL q l 0 (aa7 _)
end
theorem Qk (o:List Bool) (p:Prog) (l:List aT) (q:aT->Bool) (h:∀x∈l,CallsT P 62 [.agg (aW x),.pt [.sl (o.map bC)] 0,.pt (kh p) 0] [] (aR [] (.bool (q x)))) :
  CallsT P 32 [.sl (l.map aW),.fn 62 [] [.pt [.sl (o.map bC)] 0,.pt (kh p) 0]] [] (aR [] (IC (bL q l 0))):=by
 have c:(l.map aW).length=l.length:=xo _;refine af Tryz.func32 G5 rfl fun n _=>?_;have m:l.length<=9223372036854775807:=by have:=gS n.1;rwa [c] at this
 refine bN l.length 8 [] () (fun _=>[]) (fun _=>[]) (fun k _=>bL q (l.drop k) k=bL q l 0) rfl (ai rfl) trivial trivial (fun _=>rfl) (fun _=>rfl) ?_;rintro k _ s b _ _ _;refine ah (fun a=>?_) (fun d=>?_)
 ·have a:k<l.length:=by rw[c] at a;omega
  refine bf a fun x r f e=>?_;refine BJ (by omega) (show l[((k:Int)).toNat]?=some x from r) ?_;refine aF (h x f) rfl fun _=>?_;refine aq (fun j=>?_) (fun j=>?_)
  ·exact ay rfl (vz IC (oL e b j))
  ·refine Fit.aae (by omega) (by omega) ?_;exact⟨(k+1,()),⟨a,qR e b j⟩,⟨bw,trivial⟩,trivial,bB a⟩
 ·have d:¬k<l.length:=by rw[c] at d;omega
  exact ay rfl (vz IC (oM d b))
theorem Ql (o:List Bool) (p:Prog) (l:List aT) (q:aT->Bool) (h:∀x∈l,CallsT P 62 [.agg (aW x),.pt [.sl (o.map bC)] 0,.pt (kh p) 0] [] (aR [] (.bool (q x)))) :
  CallsT P 65 [.sl (l.map aW),.fn 62 [] [.pt [.sl (o.map bC)] 0,.pt (kh p) 0]] [] (aR [] (.bool (l.any q))):=by
 have h1:=Qk o p l q h;have e:=rL q l;generalize bL q l 0=n at h1 e;refine af Tryz.func65 O8 rfl fun a _=>?_;refine aF h1 rfl fun _=>?_;exact ay rfl (vz C.bool e)
theorem Qm (g:Int) (t:Ty) (l:List aT) (q:aT->Bool) (h:∀x∈l,CallsT P 33 [.agg (aW x),.pt [IC g,IC t.kind,IC t.id,.sl (t.args.map aD)] 0] [] (aR [] (.bool (q x)))) :
  CallsT P 32 [.sl (l.map aW),.fn 33 [] [.pt [IC g,IC t.kind,IC t.id,.sl (t.args.map aD)] 0]] [] (aR [] (IC (bL q l 0))):=by
 have c:(l.map aW).length=l.length:=xo _;refine af Tryz.func32 G5 rfl fun n _=>?_;have m:l.length<=9223372036854775807:=by have:=gS n.1;rwa [c] at this
 refine bN l.length 8 [] () (fun _=>[]) (fun _=>[]) (fun k _=>bL q (l.drop k) k=bL q l 0) rfl (ai rfl) trivial trivial (fun _=>rfl) (fun _=>rfl) ?_;rintro k _ p b _ _ _;refine ah (fun a=>?_) (fun d=>?_)
 ·have a:k<l.length:=by rw[c] at a;omega
  refine bf a fun x o f e=>?_;refine BJ (by omega) (show l[((k:Int)).toNat]?=some x from o) ?_;refine aF (h x f) rfl fun _=>?_;refine aq (fun j=>?_) (fun j=>?_)
  ·exact ay rfl (vz IC (oL e b j))
  ·refine Fit.aae (by omega) (by omega) ?_;exact⟨(k+1,()),⟨a,qR e b j⟩,⟨bw,trivial⟩,trivial,bB a⟩
 ·have d:¬k<l.length:=by rw[c] at d;omega
  exact ay rfl (vz IC (oM d b))
theorem Qn (y:Impl) (l:List Impl) (q:Impl->Bool) (h:∀x∈l,CallsT P 40 [.agg (dN x),.pt [IC y.trait,IC y.module,IC y.params,.sl (y.bounds.map aW),IC y.type.kind,IC y.type.id,.sl (y.type.args.map aD),IC y.func] 0] [] (aR [] (.bool (q x)))) :
  CallsT P 39 [.sl (l.map dN),.fn 40 [] [.pt [IC y.trait,IC y.module,IC y.params,.sl (y.bounds.map aW),IC y.type.kind,IC y.type.id,.sl (y.type.args.map aD),IC y.func] 0]] [] (aR [] (IC (bL q l 0))):=by
 have d:(l.map dN).length=l.length:=xo _;refine af Tryz.func39 OL rfl fun n _=>?_;have m:l.length<=9223372036854775807:=by have:=gS n.1;rwa [d] at this
 refine bN l.length 8 [] () (fun _=>[]) (fun _=>[]) (fun k _=>bL q (l.drop k) k=bL q l 0) rfl (ai rfl) trivial trivial (fun _=>rfl) (fun _=>rfl) ?_;rintro k _ p b _ _ _;refine ah (fun a=>?_) (fun c=>?_)
 ·have a:k<l.length:=by rw[d] at a;omega
  refine bf a fun x o j e=>?_;refine rZ (by omega) (show l[((k:Int)).toNat]?=some x from o) ?_;refine aF (h x j) rfl fun _=>?_;refine aq (fun f=>?_) (fun f=>?_)
  ·exact ay rfl (vz IC (oL e b f))
  ·refine Fit.aae (by omega) (by omega) ?_;exact⟨(k+1,()),⟨a,qR e b f⟩,⟨bw,trivial⟩,trivial,bB a⟩
 ·have c:¬k<l.length:=by rw[d] at c;omega
  exact ay rfl (vz IC (oM c b))
end Go.Fr.Tryz
