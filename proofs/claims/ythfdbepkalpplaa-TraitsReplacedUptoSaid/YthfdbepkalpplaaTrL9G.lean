/- Part of the proofs of the statements of this seat. -/
import Derived.Test.YthfdbepkalpplaaTrX2G
import Derived.Test.YthfdbepkalpplaaTrCode4
import Derived.Test.YthfdbepkalpplaaTrP3G
import Derived.Test.YthfdbepkalpplaaTrCode2
import Derived.Test.YthfdbepkalpplaaFW3
import Derived.Test.YthfdbepkalpplaaTrIds
set_option maxRecDepth 10000
set_option linter.unusedVariables false
set_option linter.unusedSimpArgs false
namespace Go.Fr.Try
open Go Go.RowKit Go.Proofs Go.Fr Go.Fr.T Go.Fr.Api
theorem SA (s:List Ty) (t r:Ty) (g:Ty->Ty) (hb:t.args.length<=2 ^ 30) (u:t.kind=9->∃x,bS s t=some x/\(¬x.kind=0->CallsT P 124 [.sl (s.map aD),aK x] [] (aQ [] (aK r)))/\(x.kind=0->r=.mk t.kind t.id (t.args.map g)))
  (m:¬t.kind=9->r=.mk t.kind t.id (t.args.map g)) (q:∀x∈t.args,CallsT P 124 [.sl (s.map aD),aK x] [] (aQ [] (aK (g x)))):CallsT P 124 [.sl (s.map aD),aK t] [] (aQ [] (aK r)):=by
 have n:=NR t;have d:(t.args.map aD).length=t.args.length:=vz _;refine af Try.func124 Mg rfl fun v _=>?_;refine aF n rfl fun _=>?_;refine ah (fun e=>oP (u e) fun x f=>?_) (fun e=>?_)
 ·have he:=bD f.1;refine kg he.1 he.2.1 ?_;refine aT (fun j=>?_) (fun j=>?_)
  ·refine kg he.1 he.2.1 ?_;refine aF (f.2.1 j) rfl fun _=>?_;exact ay rfl rfl
  have m:=f.2.2 j;refine bA t.args.length 6 [] ([]:List Ty) (fun _=>[]) (fun l=>[(4,.box 32 [IC 0,IC 0,.nils]),(5,.box 32 [IC t.kind,IC t.id,.rw 47]),(47,.row 32 3 (l.map aD))]) (fun k l=>l=(t.args.take k).map g) rfl (aj rfl) trivial
   ⟨.inl ⟨_,rfl,.inl ⟨rfl,rfl⟩⟩,.inl ⟨_,rfl,.inr ⟨32,_,_,rfl,rfl,_,_,rfl,aj rfl,_,_,rfl,aj rfl,_,_,rfl,jf rfl rfl,rfl⟩⟩,.inr ⟨rfl,32,3,rfl⟩,trivial⟩ (fun _=>rfl) (fun _=>rfl) ?_
  rintro k l j a _ _ _;have a:l=(t.args.take k).map g:=a;have o:(l.map aD).length=k:=by rw[a,vz,vz,abM];omega
  refine ah (fun b=>?_) (fun c=>?_)
  ·have b:k<t.args.length:=by rw[d] at b;omega
   refine bR b fun x f h=>?_;refine bW f ?_;refine bB (q x h) rfl fun _=>?_;refine jN k rfl o (by decide) (by omega) ?_;refine Fit.aar (by omega) (by omega) ?_;refine⟨(k+1,l++[g x]),⟨b,?_⟩,⟨aZ,trivial⟩,⟨.inl ⟨_,rfl,.inl ⟨rfl,rfl⟩⟩,.inl ⟨_,rfl,.inl ⟨rfl,rfl⟩⟩,.inl ⟨_,rfl,.inl ⟨mq sF,rfl⟩⟩,trivial⟩,bf b⟩;show l++[g x]=(t.args.take (k+1)).map g;rw[dA f,a,abC];rfl
  ·have c:¬k<t.args.length:=by rw[d] at c;omega
   have p:C.agg [IC t.kind,IC t.id,.sl (l.map aD)]=aK r:=by
    rw[m,a,abA (by omega)];rfl
   exact uL [47] [] ⟨_,[],rfl,rfl,rfl,rfl,p⟩
 ·have m:=m e;refine bA t.args.length 6 [] ([]:List Ty) (fun _=>[]) (fun l=>[(4,.box 32 [IC 0,IC 0,.nils]),(5,.box 32 [IC t.kind,IC t.id,.rw 47]),(47,.row 32 3 (l.map aD))]) (fun k l=>l=(t.args.take k).map g) rfl (aj rfl) trivial
   ⟨.inl ⟨_,rfl,.inl ⟨rfl,rfl⟩⟩,.inl ⟨_,rfl,.inr ⟨32,_,_,rfl,rfl,_,_,rfl,aj rfl,_,_,rfl,aj rfl,_,_,rfl,jf rfl rfl,rfl⟩⟩,.inr ⟨rfl,32,3,rfl⟩,trivial⟩ (fun _=>rfl) (fun _=>rfl) ?_
  rintro k l j a _ _ _;have a:l=(t.args.take k).map g:=a;have o:(l.map aD).length=k:=by rw[a,vz,vz,abM];omega
  refine ah (fun b=>?_) (fun c=>?_)
  ·have b:k<t.args.length:=by rw[d] at b;omega
   refine bR b fun x f h=>?_;refine bW f ?_;refine bB (q x h) rfl fun _=>?_;refine jN k rfl o (by decide) (by omega) ?_;refine Fit.aar (by omega) (by omega) ?_;refine⟨(k+1,l++[g x]),⟨b,?_⟩,⟨aZ,trivial⟩,⟨.inl ⟨_,rfl,.inl ⟨rfl,rfl⟩⟩,.inl ⟨_,rfl,.inl ⟨rfl,rfl⟩⟩,.inl ⟨_,rfl,.inl ⟨mq sF,rfl⟩⟩,trivial⟩,bf b⟩;show l++[g x]=(t.args.take (k+1)).map g;rw[dA f,a,abC];rfl
  ·have c:¬k<t.args.length:=by rw[d] at c;omega
   have p:C.agg [IC t.kind,IC t.id,.sl (l.map aD)]=aK r:=by
    rw[m,a,abA (by omega)];rfl
   exact uL [47] [] ⟨_,[],rfl,rfl,rfl,rfl,p⟩
theorem UF {s:List Ty}(f:∀x∈s,gN x) (hi:Av s):∀(n:Nat) (t r:Ty),gN t->ins s.length t=true->nC s n t=some r->CallsT P 124 [.sl (s.map aD),aK t] [] (aQ [] (aK r))
 | 0,t,r,_,_,h=>by cases h
 | n+1,t,r,hb,k,h=>by
  have b:=(eM t).1 hb;rw[nC] at h;cases he:(if t.kind=9 then bS s t else some (.mk 0 0 [])) with
  | none=>simp only[he] at h;cases h
  | some x =>
   simp only[he] at h
   by_cases c:x.kind=0
   ·rw[fo (fun p=>p c)] at h;cases d:kx (nC s n) t.args with
    | none=>simp only[d] at h;cases h
    | some l =>
     simp only[d] at h;injection h with h
     obtain⟨h1,h2⟩:=gM d;subst h;refine SA s t _ (fun x=>(nC s n x).getD x) b.1 (fun a=>?_) (fun a=>by rw[h2]) fun x e=>UF f hi n x _ (b.2 x e) (cR k x e) (h1 x e);rw[eu a] at he;exact⟨x,he,fun q=>o5 c q,fun _=>by rw[h2]⟩
   ·rw[eu c] at h;have a:t.kind=9:=by
     by_cases a:t.kind=9
     ·exact a
     ·rw[fo a] at he;injection he with he
      exact o5 (by rw[<-he];rfl) c
    rw[eu a] at he;refine SA s t r id b.1 (fun _=>⟨x,he,fun _=>UF f hi n x r (f x (oU he)) (hi.elem he c) h,fun q=>o5 q c⟩) (fun q=>o5 a q) fun y j=>?_;rw[(fM k a).2.2] at j;cases j
theorem WM (R:List Ty) (t r:Ty) (g:Ty->Ty) (hb:t.args.length<=2 ^ 30) (f:t.kind=9->0<=t.id/\R[t.id.toNat]?=some r) (j:¬t.kind=9->r=.mk t.kind t.id (t.args.map g)) (n:¬t.kind=9->∀x∈t.args,CallsT P 123 [.sl (R.map aD),aK x] [] (aQ [] (aK (g x)))):CallsT P 123 [.sl (R.map aD),aK t] [] (aQ [] (aK r)):=by
 have m:=NR t;have c:(t.args.map aD).length=t.args.length:=vz _;refine af Try.func123 Mf rfl fun u _=>?_;refine aF m rfl fun _=>?_;refine ah (fun e=>?_) (fun e=>?_)
 ·have f:=f e;refine kg f.1 f.2 ?_;exact ay rfl rfl
 have j:=j e;have n:=n e;refine bA t.args.length 6 [] ([]:List Ty) (fun _=>[]) (fun l=>[(4,.box 32 [IC 0,IC 0,.nils]),(5,.box 32 [IC t.kind,IC t.id,.rw 36]),(36,.row 32 3 (l.map aD))]) (fun k l=>l=(t.args.take k).map g) rfl (aj rfl) trivial
  ⟨.inl ⟨_,rfl,.inl ⟨rfl,rfl⟩⟩,.inl ⟨_,rfl,.inr ⟨32,_,_,rfl,rfl,_,_,rfl,aj rfl,_,_,rfl,aj rfl,_,_,rfl,jf rfl rfl,rfl⟩⟩,.inr ⟨rfl,32,3,rfl⟩,trivial⟩ (fun _=>rfl) (fun _=>rfl) ?_
 rintro k l s a _ _ _;have a:l=(t.args.take k).map g:=a;have p:(l.map aD).length=k:=by rw[a,vz,vz,abM];omega
 refine ah (fun b=>?_) (fun d=>?_)
 ·have b:k<t.args.length:=by rw[c] at b;omega
  refine bR b fun x o h=>?_;refine bW o ?_;refine bB (n x h) rfl fun _=>?_;refine jN k rfl p (by decide) (by omega) ?_;refine Fit.aar (by omega) (by omega) ?_;refine⟨(k+1,l++[g x]),⟨b,?_⟩,⟨aZ,trivial⟩,⟨.inl ⟨_,rfl,.inl ⟨rfl,rfl⟩⟩,.inl ⟨_,rfl,.inl ⟨rfl,rfl⟩⟩,.inl ⟨_,rfl,.inl ⟨mq sF,rfl⟩⟩,trivial⟩,bf b⟩;show l++[g x]=(t.args.take (k+1)).map g;rw[dA o,a,abC];rfl
 ·have d:¬k<t.args.length:=by rw[c] at d;omega
  have q:C.agg [IC t.kind,IC t.id,.sl (l.map aD)]=aK r:=by
   rw[j,a,abA (by omega)];rfl
  exact uL [36] [] ⟨_,[],rfl,rfl,rfl,rfl,q⟩
theorem Z0 (R:List Ty):∀t:Ty,gN t->ins R.length t=true->CallsT P 123 [.sl (R.map aD),aK t] [] (aQ [] (aK (gs R t))):=cL fun t e hb d=>by
 have a:=(eM t).1 hb;refine WM R t _ (gs R) a.1 (fun b=>?_) (fun b=>iR b) fun _ x c=>e x c (a.2 x c) (cR d x c);obtain⟨x,he,_⟩:=rm d b;obtain⟨h,f,_⟩:=bD he;exact⟨h,by rw[kS b,f];rfl⟩
theorem fe.imp {Lin:List TO}{L:TL}{v:C}{R R':List TO->C->Prop}(h:fe Lin L v R) (b:∀Mo c,R Mo c->R' Mo c):fe Lin L v R':=by
 obtain⟨a,ko,h⟩:=h;refine⟨a,ko,En.frzK_imp h ?_⟩;rintro L ρ o ⟨L',c,n,Mo,e,l,m,k,f,j⟩;exact⟨L',c,n,Mo,e,l,m,k,f,fun d=>b _ _ (j d)⟩
def IE:List TO->C->Prop:=fun Mo v=>Mo=[]/\∃l,v=.sl l
theorem WN {F:List Int}{i:Nat}{z:Int}:(uS F).set i [IC z]=uS (F.set i z):=by rw[uS,uS,List.map_set]
structure Lst (s:List Ty):Prop where
 fr:∀k:Nat,k<s.length->∃t,CallsT P 69 [.sl (s.map aD),aK (vr k)] [] (aQ [] (aK t))/\(t.kind=9->0<=t.id/\t.id<s.length)
 ap:∀R:List Ty,R.length=s.length->∀k:Nat,k<s.length->∃r z,CallsT P 124 [.sl (s.map aD),aK (vr k)] [] (aQ [] (aK r))/\CallsT P 123 [.sl (R.map aD),aK r] [] (aQ [] (aK z))
theorem WO (s:List Ty) (X:Lst s) (hl:s.length<=2 ^ 29):CallsT P 120 [.sl (s.map aD)] [] IE:=by
 obtain⟨fr,ap⟩:=X;have p:=NR;have e:(s.map aD).length=s.length:=vz _;have v:List.replicate (((s.map aD).length:Int)).toNat [C.int .i64 0]=uS (List.replicate s.length 0):=by rw[e,uS,ab9];rfl
 have u:∀l:List Int,(uS l).length=l.length:=fun l=>vz _;refine af Try.func120 JX rfl fun hw _=>?_;refine pq.mk (by omega) (abn _) (by omega) (by simp only[maxLen];omega) ?_;refine Fit.aar (by omega) (by omega) ?_;refine wN.mk ⟨Nat×List Int,(s.length,List.replicate s.length 0),fun x=>x.1<=s.length/\x.2.length=s.length,[4,3],fun x=>[IC ((x.1:Int)-1),.rw 13],fun x=>[(13,.row 3 1 (uS x.2))],fun x=>x.1,⟨abh _,abD⟩,⟨.inr (.inl ⟨vv IC (by rw[e]),rfl⟩),aj rfl,trivial⟩,⟨.inl ⟨_,rfl,.inl ⟨mq v,rfl⟩⟩,trivial⟩,fun _=>rfl,fun _=>rfl,?_⟩;rintro⟨m,F⟩ ⟨hm,o⟩ _ _;have hm:m<=s.length:=hm;have o:F.length=s.length:=o;refine ah (fun b=>?_) (fun a=>?_)
 ·have b:(m:Int)-1>=0:=b;have hk:((m:Int)-1)=((m-1:Nat):Int):=by omega
  refine oP (fr (m-1) (by omega)) fun t ht=>?_;have q:=ht.1;rw[vr,<-hk] at q;refine aF q rfl fun _=>?_;refine aF (p t) rfl fun _=>?_;refine ah (fun h9=>?_) (fun h9=>?_)
  ·have hi:=ht.2 h9;refine bR (l:=F) (k:=t.id.toNat) (by omega) fun y hy _=>?_;have n:(uS F)[t.id.toNat]?=some [IC y]:=by rw[uS,abk,hy];rfl
   refine Ao.mk hi.1 (by rw[u,o];exact hi.2) ?_;refine⟨rfl,u5 n rfl ?_⟩;refine Fit.aar (by omega) (by omega) ?_;refine⟨(m-1,F.set t.id.toNat ((m:Int)-1)),⟨by show m-1<=s.length;omega,by show(F.set _ _).length=s.length;rw[abU];exact o⟩,⟨.inr (.inl ⟨vv IC (by show(m:Int)-1-1=((m-1:Nat):Int)-1;omega),rfl⟩),aj rfl,trivial⟩,⟨.inl ⟨_,rfl,.inl ⟨mq (WN (F:=F) (i:=t.id.toNat) (z:=(m:Int)-1)),rfl⟩⟩,trivial⟩,by show m-1<m;omega⟩
  ·refine Fit.aar (by omega) (by omega) ?_;exact⟨(m-1,F),⟨by show m-1<=s.length;omega,o⟩,⟨.inr (.inl ⟨vv IC (by show(m:Int)-1-1=((m-1:Nat):Int)-1;omega),rfl⟩),aj rfl,trivial⟩,⟨.inl ⟨_,rfl,.inl ⟨rfl,rfl⟩⟩,trivial⟩,by show m-1<m;omega⟩
 refine bA s.length 7 [3,6] ([]:List Ty) (fun _=>[.rw 13,.rw 45]) (fun R=>[(13,.row 3 1 (uS F)),(45,.row 32 3 (R.map aD))]) (fun k R=>R.length=k) rfl (aj rfl) ⟨aj rfl,jf rfl rfl,trivial⟩ ⟨.inl ⟨_,rfl,.inl ⟨rfl,rfl⟩⟩,.inr ⟨rfl,32,3,rfl⟩,trivial⟩ (fun _=>rfl) (fun _=>rfl) ?_;rintro k R hk w _ _ _;have w:R.length=k:=w;have ac:(R.map aD).length=k:=by rw[vz];exact w
 refine ah (fun a=>?_) (fun b=>?_)
 ·have a:k<s.length:=by rw[e] at a;omega
  refine bR (l:=F) (k:=k) (by omega) fun y hy _=>?_;have n:(uS F)[((k:Int)).toNat]?=some [IC y]:=by rw[uS,abk,show((k:Int)).toNat=k from rfl,hy];rfl
  refine Ao.mk (by omega) (by rw[u,o];omega) ?_;refine⟨_,n,rfl,?_⟩;refine jN k rfl ac (by decide) (by omega) ?_;refine Fit.aar (by omega) (by omega) ?_;exact⟨(k+1,R++[.mk 9 y []]),⟨a,by show(R++[_]).length=k+1;rw[abP,w];rfl⟩,⟨aZ,aj rfl,aj rfl,trivial⟩,⟨.inl ⟨_,rfl,.inl ⟨rfl,rfl⟩⟩,.inl ⟨_,rfl,.inl ⟨mq (sF (f:=.mk 9 y [])),rfl⟩⟩,trivial⟩,bf a⟩
 have b:¬k<s.length:=by rw[e] at b;omega
 have ad:R.length=s.length:=by omega
 refine bA s.length 9 [8] ([]:List Ty) (fun _=>[.rw 70]) (fun l=>[(70,.row 32 3 (l.map aD))]) (fun k l=>l.length=k) rfl (aj rfl) ⟨jf rfl rfl,trivial⟩ ⟨.inr ⟨rfl,32,3,rfl⟩,trivial⟩ (fun _=>rfl) (fun _=>rfl) ?_;rintro j l hj d _ _ _;have d:l.length=j:=d;have h:(l.map aD).length=j:=by rw[vz];exact d
 refine ah (fun a=>?_) (fun b=>?_)
 ·have a:j<s.length:=by rw[e] at a;omega
  refine oP (ap R ad j a) fun r hr=>oP hr fun z hz=>?_;refine aF hz.1 rfl fun _=>?_;refine aF hz.2 rfl fun _=>?_;refine aF (p z) rfl fun _=>?_;refine ah (fun h9=>ah (fun ae=>?_) (fun ae=>?_)) (fun h9=>?_)
  ·refine jN j rfl h (by decide) (by omega) ?_;refine Fit.aar (by omega) (by omega) ?_;exact⟨(j+1,l++[.mk 0 0 []]),⟨a,by show(l++[_]).length=j+1;rw[abP,d];rfl⟩,⟨aZ,aj rfl,trivial⟩,⟨.inl ⟨_,rfl,.inl ⟨mq (sF (f:=.mk 0 0 [])),rfl⟩⟩,trivial⟩,bf a⟩
  all_goals
   refine jN j rfl h (by decide) (by omega) ?_;refine Fit.aar (by omega) (by omega) ?_;exact⟨(j+1,l++[z]),⟨a,by show(l++[_]).length=j+1;rw[abP,d];rfl⟩,⟨aZ,aj rfl,trivial⟩,⟨.inl ⟨_,rfl,.inl ⟨mq (sF (f:=z)),rfl⟩⟩,trivial⟩,bf a⟩
 ·exact fe.imp (uL (Lo:=[]) (x:=.sl (l.map aD)) [70] [] ⟨_,[],rfl,rfl,rfl,rfl,rfl⟩) fun Mo c ⟨e1,e2⟩=>⟨e1,_,e2⟩
theorem Z1 {s:List Ty}(g:Good s) (hB:∀x∈s,gN x) (b:s.length<=2 ^ 29):CallsT P 120 [.sl (s.map aD)] [] IE:=by
 refine WO s ⟨fun k a=>?_,fun R c k a=>?_⟩ b
 ·obtain⟨n,t,h⟩:=(g.fin k a).front;refine⟨t,WE s n (vr k) t h,fun e=>?_⟩;have:=fM (g.ins.front h (nk a)) e;exact⟨this.1,this.2.1⟩
 ·obtain⟨n,r,h⟩:=(g.fin k a).ap;have d:=(GF g.ins h (nk a)).2;exact⟨r,_,UF hB g.ins n (vr k) r (Dc k) (nk a) h,Z0 R r (xU hB n _ _ (Dc k) h) (by rw[c];exact d)⟩
abbrev Al (n f:Int) (t r:Ty):Prop:=CallsT P 114 [aK t,IC n,IC f] [] (aQ [] (.tup [aK r,.bool true]))
theorem WQ (n f:Int) (t:Ty) (hf:0<=f/\f<=100) (d:n<=100) (h:¬(t.kind<1\/5<t.kind\/(t.kind=5/\(t.id<0\/n<=t.id\/0<t.args.length)))) (h5:t.kind=5):Al n f t (.mk 9 (f+t.id) []):=by
 have a:(t.args.map aD).length=t.args.length:=vz _;refine af Try.func114 EA rfl fun c _=>?_;refine ah (fun h1=>o5 (Or.inl h1) h) (fun h1=>ah (fun h2=>o5 (Or.inr (Or.inl h2)) h) (fun h2=>ah (fun h3=>ah (fun h4=>o5 (Or.inr (Or.inr ⟨h5,Or.inl h4⟩)) h) (fun h4=>ah (fun h6=>o5 (Or.inr (Or.inr ⟨h5,Or.inr (Or.inl h6)⟩)) h) (fun h6=>?_))) (fun h3=>o5 h5 h3)));refine ah (fun b=>o5 (Or.inr (Or.inr ⟨h5,Or.inr (Or.inr (by omega))⟩)) h) (fun b=>?_);refine ah (fun _=>?_) (fun q=>o5 h5 q);refine Fit.aar (by omega) (by omega) ?_;exact ay rfl rfl
theorem WR (n f:Int) (t:Ty) (g:Ty->Ty) (hb:t.args.length<=2 ^ 30) (h:¬(t.kind<1\/5<t.kind\/(t.kind=5/\(t.id<0\/n<=t.id\/0<t.args.length)))) (h5:¬t.kind=5) (l:∀x∈t.args,Al n f x (g x)) :
  Al n f t (.mk t.kind t.id (t.args.map g)):=by
 have c:(t.args.map aD).length=t.args.length:=vz _;refine af Try.func114 EA rfl fun p _=>?_;refine ah (fun h1=>o5 (Or.inl h1) h) (fun h1=>ah (fun h2=>o5 (Or.inr (Or.inl h2)) h) (fun h2=>ah (fun h3=>o5 h3 h5) (fun h3=>?_)));refine ah (fun q=>o5 q h5) (fun _=>?_);refine bA t.args.length 9 [] ([]:List Ty) (fun _=>[]) (fun s'=>[(6,.box 32 [IC 0,IC 0,.nils]),(8,.box 32 [IC t.kind,IC t.id,.rw 81]),(81,.row 32 3 (s'.map aD))]) (fun j s'=>s'=(t.args.take j).map g) (by simp) (aj rfl) trivial
  ⟨.inl ⟨_,rfl,.inl ⟨rfl,rfl⟩⟩,.inl ⟨_,rfl,.inr ⟨32,_,_,rfl,rfl,_,_,rfl,aj rfl,_,_,rfl,aj rfl,_,_,rfl,jf rfl rfl,rfl⟩⟩,.inr ⟨rfl,32,3,rfl⟩,trivial⟩ (fun _=>rfl) (fun _=>rfl) ?_
 rintro j s' r a _ _ _;have a:s'=(t.args.take j).map g:=a;have m:(s'.map aD).length=j:=by rw[a,vz,vz,abM];omega
 refine ah (fun b=>?_) (fun d=>?_)
 ·have b:j<t.args.length:=by rw[c] at b;omega
  refine bR b fun x k e=>?_;refine bW k ?_;refine aF (l x e) rfl fun _=>?_;refine jN j rfl m (by decide) (by omega) ?_;refine Fit.aar (by omega) (by omega) ?_;refine⟨(j+1,s'++[g x]),⟨b,?_⟩,⟨aZ,trivial⟩,⟨.inl ⟨_,rfl,.inl ⟨rfl,rfl⟩⟩,.inl ⟨_,rfl,.inl ⟨rfl,rfl⟩⟩,.inl ⟨_,rfl,.inl ⟨mq sF,rfl⟩⟩,trivial⟩,bf b⟩;show s'++[g x]=(t.args.take (j+1)).map _;rw[dA k,a,abC];rfl
 ·have d:¬j<t.args.length:=by rw[c] at d;omega
  have o:C.agg [IC t.kind,IC t.id,.sl (s'.map aD)]=aK (.mk t.kind t.id (t.args.map g)):=by
   rw[a,abA (by omega)];rfl
  refine uL [81] [] ⟨_,[],rfl,rfl,rfl,rfl,?_⟩;exact vv (fun z=>C.tup [z,.bool true]) o
theorem WS (n f:Int) (hf:0<=f/\f<=100) (d:n<=100):∀t r:Ty,gN t->fresh n f t=some r->Al n f t r:=cL (p:=fun t=>∀r,gN t->fresh n f t=some r->Al n f t r) fun t e r hb h=>by
 have hb:=(eM t).1 hb;rw[lI] at h;split at h
 ·cases h
 rename_i c;split at h
 ·rename_i h5;injection h with h
  rw[<-h];exact WQ n f t hf d c h5
 rename_i h5;cases a:kx (fresh n f) t.args with
 | none=>rw[a] at h;cases h
 | some l =>
  rw[a] at h;injection h with h
  obtain⟨h1,h2⟩:=gM a;have:=WR n f t (fun x=>(fresh n f x).getD x) hb.1 c h5 fun x b=>e x b _ (hb.2 x b) (h1 x b);rw[<-h,h2];exact this
theorem Z2 (A:List Ty) (t r:Ty) (g:Ty->Ty) (hb:t.args.length<=2 ^ 30) (h5:t.kind=5/\0<=t.id/\t.id<A.length->A[t.id.toNat]?=some r) (h:¬(t.kind=5/\0<=t.id/\t.id<A.length)->r=.mk t.kind t.id (t.args.map g)) (s:∀x∈t.args,CallsT P 39 [.sl (A.map aD),aK x] [] (aQ [] (aK (g x)))):CallsT P 39 [.sl (A.map aD),aK t] [] (aQ [] (aK r)):=by
 have d:(t.args.map aD).length=t.args.length:=vz _;have m:(A.map aD).length=A.length:=vz _;refine af Try.func39 PK rfl fun v _=>?_;refine ah (fun o=>ah (fun f=>ah (fun p=>?_) (fun p=>?_)) (fun f=>?_)) (fun o=>?_)
 ·have h5:=h5 ⟨o,f,by rw[<-m];exact p⟩;refine kg f h5 ?_;exact ay rfl rfl
 ·have h:=h (fun q=>p (by rw[m];exact q.2.2));refine bA t.args.length 6 [] ([]:List Ty) (fun _=>[]) (fun l=>[(4,.box 32 [IC 0,IC 0,.nils]),(5,.box 32 [IC t.kind,IC t.id,.rw 49]),(49,.row 32 3 (l.map aD))]) (fun k l=>l=(t.args.take k).map g) rfl (aj rfl) trivial
   ⟨.inl ⟨_,rfl,.inl ⟨rfl,rfl⟩⟩,.inl ⟨_,rfl,.inr ⟨32,_,_,rfl,rfl,_,_,rfl,aj rfl,_,_,rfl,aj rfl,_,_,rfl,jf rfl rfl,rfl⟩⟩,.inr ⟨rfl,32,3,rfl⟩,trivial⟩ (fun _=>rfl) (fun _=>rfl) ?_
  rintro k l u a _ _ _;have a:l=(t.args.take k).map g:=a;have n:(l.map aD).length=k:=by rw[a,vz,vz,abM];omega
  refine ah (fun b=>?_) (fun c=>?_)
  ·have b:k<t.args.length:=by rw[d] at b;omega
   refine bR b fun x j e=>?_;refine bW j ?_;refine bB (s x e) rfl fun _=>?_;refine jN k rfl n (by decide) (by omega) ?_;refine Fit.aar (by omega) (by omega) ?_;refine⟨(k+1,l++[g x]),⟨b,?_⟩,⟨aZ,trivial⟩,⟨.inl ⟨_,rfl,.inl ⟨rfl,rfl⟩⟩,.inl ⟨_,rfl,.inl ⟨rfl,rfl⟩⟩,.inl ⟨_,rfl,.inl ⟨mq sF,rfl⟩⟩,trivial⟩,bf b⟩;show l++[g x]=(t.args.take (k+1)).map g;rw[dA j,a,abC];rfl
  ·have c:¬k<t.args.length:=by rw[d] at c;omega
   have f:C.agg [IC t.kind,IC t.id,.sl (l.map aD)]=aK r:=by
    rw[h,a,abA (by omega)];rfl
   exact uL [49] [] ⟨_,[],rfl,rfl,rfl,rfl,f⟩
 ·have h:=h (fun q=>f q.2.1);refine bA t.args.length 6 [] ([]:List Ty) (fun _=>[]) (fun l=>[(4,.box 32 [IC 0,IC 0,.nils]),(5,.box 32 [IC t.kind,IC t.id,.rw 49]),(49,.row 32 3 (l.map aD))]) (fun k l=>l=(t.args.take k).map g) rfl (aj rfl) trivial
   ⟨.inl ⟨_,rfl,.inl ⟨rfl,rfl⟩⟩,.inl ⟨_,rfl,.inr ⟨32,_,_,rfl,rfl,_,_,rfl,aj rfl,_,_,rfl,aj rfl,_,_,rfl,jf rfl rfl,rfl⟩⟩,.inr ⟨rfl,32,3,rfl⟩,trivial⟩ (fun _=>rfl) (fun _=>rfl) ?_
  rintro k l u a _ _ _;have a:l=(t.args.take k).map g:=a;have n:(l.map aD).length=k:=by rw[a,vz,vz,abM];omega
  refine ah (fun b=>?_) (fun c=>?_)
  ·have b:k<t.args.length:=by rw[d] at b;omega
   refine bR b fun x j e=>?_;refine bW j ?_;refine bB (s x e) rfl fun _=>?_;refine jN k rfl n (by decide) (by omega) ?_;refine Fit.aar (by omega) (by omega) ?_;refine⟨(k+1,l++[g x]),⟨b,?_⟩,⟨aZ,trivial⟩,⟨.inl ⟨_,rfl,.inl ⟨rfl,rfl⟩⟩,.inl ⟨_,rfl,.inl ⟨rfl,rfl⟩⟩,.inl ⟨_,rfl,.inl ⟨mq sF,rfl⟩⟩,trivial⟩,bf b⟩;show l++[g x]=(t.args.take (k+1)).map g;rw[dA j,a,abC];rfl
  ·have c:¬k<t.args.length:=by rw[d] at c;omega
   have f:C.agg [IC t.kind,IC t.id,.sl (l.map aD)]=aK r:=by
    rw[h,a,abA (by omega)];rfl
   exact uL [49] [] ⟨_,[],rfl,rfl,rfl,rfl,f⟩
 ·have h:=h (fun q=>o q.1);refine bA t.args.length 6 [] ([]:List Ty) (fun _=>[]) (fun l=>[(4,.box 32 [IC 0,IC 0,.nils]),(5,.box 32 [IC t.kind,IC t.id,.rw 49]),(49,.row 32 3 (l.map aD))]) (fun k l=>l=(t.args.take k).map g) rfl (aj rfl) trivial
   ⟨.inl ⟨_,rfl,.inl ⟨rfl,rfl⟩⟩,.inl ⟨_,rfl,.inr ⟨32,_,_,rfl,rfl,_,_,rfl,aj rfl,_,_,rfl,aj rfl,_,_,rfl,jf rfl rfl,rfl⟩⟩,.inr ⟨rfl,32,3,rfl⟩,trivial⟩ (fun _=>rfl) (fun _=>rfl) ?_
  rintro k l u a _ _ _;have a:l=(t.args.take k).map g:=a;have n:(l.map aD).length=k:=by rw[a,vz,vz,abM];omega
  refine ah (fun b=>?_) (fun c=>?_)
  ·have b:k<t.args.length:=by rw[d] at b;omega
   refine bR b fun x j e=>?_;refine bW j ?_;refine bB (s x e) rfl fun _=>?_;refine jN k rfl n (by decide) (by omega) ?_;refine Fit.aar (by omega) (by omega) ?_;refine⟨(k+1,l++[g x]),⟨b,?_⟩,⟨aZ,trivial⟩,⟨.inl ⟨_,rfl,.inl ⟨rfl,rfl⟩⟩,.inl ⟨_,rfl,.inl ⟨rfl,rfl⟩⟩,.inl ⟨_,rfl,.inl ⟨mq sF,rfl⟩⟩,trivial⟩,bf b⟩;show l++[g x]=(t.args.take (k+1)).map g;rw[dA j,a,abC];rfl
  ·have c:¬k<t.args.length:=by rw[d] at c;omega
   have f:C.agg [IC t.kind,IC t.id,.sl (l.map aD)]=aK r:=by
    rw[h,a,abA (by omega)];rfl
   exact uL [49] [] ⟨_,[],rfl,rfl,rfl,rfl,f⟩
theorem t39 (A:List Ty):∀t:Ty,gN t->CallsT P 39 [.sl (A.map aD),aK t] [] (aQ [] (aK (subst A t))):=cL fun t b hb=>by
 have hb:=(eM t).1 hb;refine Z2 A t _ (subst A) hb.1 (fun h=>?_) (fun h=>by rw[subst_eq,fo h]) fun x a=>b x a (hb.2 x a);obtain⟨x,a⟩:=fK (l:=A) (k:=t.id.toNat) (by omega);rw[subst_eq,eu h,a];rfl
def NH (c:Prop):List TO->C->Prop:=fun Mo v=>Mo=[]/\∃l e,v=.tup [.sl l,IC e]/\(c->e=0)
theorem Dw {L:TL}{Lin:List TO}{v:C}{c:Prop}(l:List (List C)) (e:Int) (hb:aH Lin (List.range' 1000 Lin.length) []=true) (h:v.aaB.ren (bn [] 1000)=.tup [.sl l,IC e]) (a:c->e=0):fe Lin L v (NH c) :=
 ⟨[],[],L,v,v,[],rfl,.inl ⟨rfl,rfl⟩,rfl,rfl,hb,fun _=>⟨rfl,l,e,h,a⟩⟩
theorem Ro {L:TL}{ρ:aG}{f:Nat}{args a:List C}{K:TL->aG->C->Prop}(h:CallsT P f a [] IE) (d:(args.map fun c=>c.aaw.ren (bn [] 1000))=a) (k:∀l,K L ρ ((C.sl l).ren (aL [])).slt):kF P f args L ρ K:=by
 subst d;exact .mk ⟨[],[],[],L,[],_,.inl rfl,rfl,rfl,rfl,rfl,rfl,h,fun v Mo ⟨b,l,e⟩ j _=>by subst b e;exact⟨rfl,k l⟩⟩
structure Uni (s:List Ty) (a b:Ty) (da db:Nat) (r:Option (List Ty)) (c:Prop):Prop where
 h117:CallsT P 117 [.sl (s.map aD)] [] (aQ [] (.bool true))
 h21a:CallsT P 21 [aK a,IC s.length] [] (aQ [] (.bool true))
 h21b:CallsT P 21 [aK b,IC s.length] [] (aQ [] (.bool true))
 h18a:CallsT P 18 [aK a] [] (aQ [] (IC da))
 h18b:CallsT P 18 [aK b] [] (aQ [] (IC db))
 hd:da<=8/\db<=8
 h118:CallsT P 118 [.sl (s.map aD),aK a,aK b] [] (aQ [] (GS r))
 no:r=none->¬c
 ok:∀s',r=some s'->s'.length=s.length/\∃c1 c2:Prop,(c->c1/\c2)/\CallsT P 117 [.sl (s'.map aD)] [] (NG c1)/\CallsT P 119 [.sl (s'.map aD),aK a,IC ((s'.length:Int)+1),IC 8] [] (NV 8 c2)/\CallsT P 120 [.sl (s'.map aD)] [] IE
theorem WT (s:List Ty) (a b:Ty) (k m:Nat) (r:Option (List Ty)) (c:Prop) (X:Uni s a b k m r c) (v:s.length<=2 ^ 29):CallsT P 115 [.sl (s.map aD),aK a,aK b] [] (NH c):=by
 obtain⟨h117,h21a,h21b,h18a,h18b,hd,h118,no,ok⟩:=X;have f:(s.map aD).length=s.length:=vz _;refine af Try.func115 L5 rfl fun t _=>?_;refine aF h117 rfl fun _=>?_;refine aF h21a (by rw[f];rfl) fun _=>?_;refine aF h21b (by rw[f];rfl) fun _=>?_;refine aF h18a rfl fun _=>?_;refine ah (fun q=>o5 (show(k:Int)>8 from q) (by omega)) (fun _=>?_);refine aF h18b rfl fun _=>?_;refine ah (fun q=>o5 (show(m:Int)>8 from q) (by omega)) (fun _=>?_);refine Fx h118 rfl (fun s' e=>?_) (fun e=>Dw [] 8 rfl rfl fun q=>o5 q (no e));have ok:=ok s' e;have j:(s'.map aD).length=s'.length:=vz _;refine oP ok.2 fun y h=>oP h fun w h=>?_;refine UD h.2.1 rfl fun o p=>?_;refine aq (fun q=>Dw [] 2 rfl rfl fun z=>?_) (fun q=>?_)
 ·have:=p (h.1 z).1;rw[this] at q;exact o5 (show(!true)=true from q) (by decide)
 refine Fit.aar (by omega) (by omega) ?_;refine Dq h.2.2.1 (by rw[j];rfl) fun d u x n=>?_;refine ah (fun q=>Dw [] 2 rfl rfl fun z=>?_) (fun q=>?_)
 ·have:=n (h.1 z).2;have q:d=0:=q;omega
 refine Ro h.2.2.2 rfl fun l=>?_;exact Dw l 0 rfl rfl fun _=>rfl
def UG (m:Nat) (a b:Ty):Prop:=∃u:List Ty,u.length=m/\gs u a=gs u b/\(∀x∈u,cg x<=8)/\cg (gs u a)<=8
theorem wE {m:Nat}{u:List Ty}(h:u.length=m):Sat u (zeros m):=⟨by rw[h,zeros,abD],fun i x b a=>by
 have:=(ab2.1 (show x∈List.replicate m _ from aa8 b)).2;rw[this] at a;exact o5 rfl a⟩
theorem UH {u:List Ty}{k:Nat}:gs u (vr k)=(u[k]?).getD (.mk 0 0 []):=by
 rw[kS (show(vr k).kind=9 from rfl)];show(u[((k:Nat):Int).toNat]?).getD _=_;rw[show((k:Nat):Int).toNat=k by omega]
theorem NI {u:List Ty}(b:∀x∈u,cg x<=8) (k:Nat):cg (gs u (vr k))<=8:=by
 rw[UH];cases a:u[k]? with
 | none=>show cg (.mk 0 0 [])<=8;decide
 | some x=>exact b x (aa8 a)
theorem NG.tt {c:Prop}(h:c) {Mo:List TO}{v:C}(q:NG c Mo v):aQ [] (.bool true) Mo v:=by
 obtain⟨e,b,a,d⟩:=q;rw[d h] at a;exact⟨e,a⟩
theorem JY:∀t:Ty,kC (fun _=>true) t=true:=cL fun t a=>by
 rw[eH];split
 ·rfl
 ·rw[abg];exact a
theorem Z3 (m:Nat) (hm:m<=100) (a b:Ty) (ia:ins m a=true) (ib:ins m b=true) (da:cg a<=8) (db:cg b<=8) (ta:gN a) (tb:gN b):CallsT P 115 [.sl ((zeros m).map aD),aK a,aK b] [] (NH (UG m a b)):=by
 have c:(zeros m).length=m:=by rw[zeros,abD]
 have g:=GL m;have z:∀x∈zeros m,x=.mk 0 0 []:=fun x d=>(ab2.1 d).2;have t:∀x∈zeros m,x.kind=0->x=.mk 0 0 []:=fun x d _=>z x d;have ao:∀x∈zeros m,gN x:=fun x d=>by rw[z x d];exact cS rfl
 obtain⟨ρ,hR⟩:=g.aaT;have h:ins (zeros m).length a=true:=by rw[c];exact ia
 have o:ins (zeros m).length b=true:=by rw[c];exact ib
 obtain⟨n,r,h1,h2⟩:=u9 _ (zeros m) g (zZ _) a b h o;have ae:(List.replicate m iT).length=m:=abD;have s:∀x,ins m x=true->CallsT P 21 [aK x,IC (zeros m).length] [] (aQ [] (.bool true)):=fun x d=>by
  have:=t21 (zeros m).length x;rw[c,d] at this;rw[c];exact this
 refine WT (zeros m) a b (cg a) (cg b) r _ ⟨?_,s a ia,s b ib,Yx a (by omega),Yx b (by omega),⟨da,db⟩,UE n (zeros m) a b r (by rw[c];omega) g h o h1,fun e hc=>?_,fun s' e=>?_⟩ (by rw[c];omega)
 ·refine CallsT.imp (WH (u:=List.replicate m iT) (wE ae) g.ins t hR (by rw[c];omega)) fun Mo v q=>NG.tt (fun k _=>NI (fun x d=>by rw[(ab2.1 d).2];decide) k) q
 ·obtain⟨u,ul,l,hu,hd⟩:=hc;obtain⟨s',p,_⟩:=(wE ul).eqs l h1;rw[e] at p;cases p
 ·subst e;have f:=h2 s' rfl;obtain⟨ρ',j⟩:=f.good.aaT;have al:=E6 t g.ins h o h1;have ag:=Il n (zeros m) a b s' ao ta tb h1;have an:s'.length=m:=by rw[f.len,c]
  have y:ins s'.length a=true:=by rw[an];exact ia
  have am:∃u,Sat u s'/\(UG m a b->(∀k:Nat,k<s'.length->cg (gs u (vr k))<=8)/\(cg (gs u a):Int)<=8):=by
   by_cases hc:UG m a b
   ·obtain⟨u,ul,l,hu,hd⟩:=hc;obtain⟨aw,p,hS⟩:=(wE ul).eqs l h1;injection p with p
    subst p;exact⟨u,hS,fun _=>⟨fun k _=>NI hu k,by omega⟩⟩
   ·obtain⟨u,hS,_⟩:=f.good.inst;exact⟨u,hS,fun q=>o5 q hc⟩
  obtain⟨u,hS,hu⟩:=am;refine⟨f.len,_,_,hu,WH hS f.good.ins al j (by omega),?_,Z1 f.good ag (by omega)⟩;have:=t119 hS f.good.ins j (s'.length+1) a 8 (by omega) (by omega) y (nA (n:=s'.length) (q:=fun _=>true) (fun w w0 w1 _=>by
   rw[abf];have:=j.lt w.toNat (by omega);rw[show((w.toNat:Nat):Int)=w by omega] at this;omega) a y (JY a))
  exact this
theorem Rq (b:Nat) {L:TL}{ρ:aG}{t sz:Nat}{els:List (List C)}{c:Prop}{args a:List C}{K:TL->aG->C->Prop}{d:Option Nat}(h:CallsT P 115 a [] (NH c)) (he:wM P 115) (f:L.get b=some (.row t sz els)) (n:(args.map fun c=>(c.frz b els).aaw.ren (bn [] 1000))=a)
  (k:∀l e,(c->e=0)->K ((L.aaq (C.kill b)).set b (.row t sz [])) (fun j=>(ρ j).kill b) (C.tup [.sl l,IC e])):pK P 115 args L ρ d K:=by
 subst n;exact .row _ b t sz els he f h fun v Mo ⟨m,l,e,p,o⟩ q=>by subst m p;exact⟨rfl,k l e o⟩
theorem UI:wM P 115:=⟨Try.f115,Try.func115,by kernel_rfl,by kernel_rfl⟩
theorem WU (a b:Impl) (x y:Ty) (m:Nat) (c:Prop) (j:0<=a.params/\a.params<=4/\0<=b.params/\b.params<=4) (h1:Al a.params 0 a.type x) (h2:Al b.params a.params b.type y) (h:(m:Int)=a.params+b.params)
  (d:CallsT P 115 [.sl (List.replicate m [IC 0,IC 0,.sl []]),aK x,aK y] [] (NH c)):CallsT P 102 [Aw a,Aw b] [] (NG (a.trait=b.trait/\c)):=by
 refine af Try.func102 Ml rfl fun k _=>?_;refine aT (fun q=>IB false rfl rfl fun z=>o5 z.1 q) (fun _=>?_);refine ah (fun q=>o5 (show a.params<0 from q) (by omega)) (fun _=>?_);refine ah (fun q=>o5 (show a.params>4 from q) (by omega)) (fun _=>?_);refine ah (fun q=>o5 (show b.params<0 from q) (by omega)) (fun _=>?_);refine ah (fun q=>o5 (show b.params>4 from q) (by omega)) (fun _=>?_);refine aF h1 rfl fun _=>?_;refine aF h2 rfl fun _=>?_;refine zH (m:=(m:Int)) (by rw[IntKind.wrap_i64];omega) ?_;refine pq.mk (by omega) (abn _) (by omega) (by simp only[maxLen];omega) ?_;refine Rq 66 d UI rfl rfl fun l e f=>?_;exact IB (decide (e=0)) rfl rfl fun z=>aa2 (f z.2)
theorem Z4 {p:Prog}{a b:Impl}(m:IV p a) (hb:IV p b) (k:gN a.type) (j:gN b.type):CallsT P 102 [Aw a,Aw b] [] (NG (a.trait=b.trait/\comm a b)):=by
 obtain⟨x,q⟩:=qi (f:=0) a.type m.fm m.sto;obtain⟨y,l⟩:=qi (f:=a.params) b.type hb.fm hb.sto;have a0:=m.pos;have b0:=hb.pos;obtain⟨w,am⟩:=rZ a.type _ q k;obtain⟨t,al⟩:=rZ b.type _ l j;have d1:=m.dp;have d2:=hb.dp;have e:=Z3 (a.params+b.params).toNat (by omega) x y (by rw[show(((a.params+b.params).toNat:Nat):Int)=a.params+b.params by omega];exact si (abn 0) (by omega) a.type x q) (by rw[show(((a.params+b.params).toNat:Nat):Int)=a.params+b.params by omega];exact si a0.1 (abn _) b.type y l) (by omega) (by omega) w t;have h:(zeros (a.params+b.params).toNat).map aD=List.replicate (a.params+b.params).toNat [IC 0,IC 0,.sl []]:=by rw[zeros,ab9];rfl
 rw[h] at e;have:=WU a b x y (a.params+b.params).toNat _ ⟨a0.1,a0.2,b0.1,b0.2⟩ (WS a.params 0 (by omega) (by omega) a.type x k q) (WS b.params a.params (by omega) (by omega) b.type y j l) (by omega) e;refine CallsT.imp this ?_;rintro Mo v ⟨e1,o,e2,e3⟩;refine⟨e1,o,e2,fun hc=>e3 ⟨hc.1,?_⟩⟩;obtain⟨c,d,l1,l2,aa,hd,s,r⟩:=hc.2;have g1:=o6 (n:=a.params) (f:=0) (u:=c++d) (ts:=c) (abn _) l1 (fun i hi=>by
  rw[abV (by simpa using hi)];simp) a.type x q
 have g2:=o6 (n:=b.params) (f:=a.params) (u:=c++d) (ts:=d) a0.1 l2 (fun i hi=>by
  rw[abW (by omega)];congr 1;omega) b.type y l
 refine⟨c++d,by rw[abP];omega,by rw[g1,g2,aa],fun z h=>?_,by rw[g1];exact hd⟩;rcases aa9.1 h with h | h
 ·exact s z h
 ·exact r z h
def UJ (c:Prop):List TO->C->Prop:=fun Mo v=>Mo=[]/\∃e i k,v=.tup [IC e,IC i,IC k]/\(e=0->c)
theorem Dx {L:TL}{Lin:List TO}{v:C}{c:Prop}(e i k:Int) (hb:aH Lin (List.range' 1000 Lin.length) []=true) (h:v.aaB.ren (bn [] 1000)=.tup [IC e,IC i,IC k]) (a:e=0->c):fe Lin L v (UJ c) :=
 ⟨[],[],L,v,v,[],rfl,.inl ⟨rfl,rfl⟩,rfl,rfl,hb,fun _=>⟨rfl,e,i,k,h,a⟩⟩
theorem Rs {L:TL}{ρ:aG}{c:Prop}{f:Nat}{args a:List C}{K:TL->aG->C->Prop}(h:CallsT P f a [] (UJ c)) (d:(args.map fun c=>c.aaw.ren (bn [] 1000))=a) (k:∀e i k,(e=0->c)->K L ρ (.tup [IC e,IC i,IC k])):kF P f args L ρ K:=by
 subst d;exact .mk ⟨[],[],[],L,[],_,.inl rfl,rfl,rfl,rfl,rfl,rfl,h,fun v Mo ⟨b,e,i,j,m,l⟩ n _=>by subst b m;exact⟨rfl,k e i j l⟩⟩
structure WV (p:Prog) (n:Nat):Prop where
 iv:∀i x,i<n->p.impls[i]?=some x->IV p x
 no:∀(i k:Nat) (x y:Impl),i<k->k<n->p.impls[i]?=some x->p.impls[k]?=some y->x.trait=y.trait->¬comm x y
theorem t87 (p:Prog) (hB:∀x∈p.impls,gN x.type):CallsT P 87 [nD p] [] (UJ (NW p)):=by
 have h31:=t31 p;have w:=t41 p;have ad:∀y∈p.impls,∀z∈p.impls,IV p y->IV p z->CallsT P 102 [Aw y,Aw z] [] (NG (y.trait=z.trait/\comm y z)):=fun y d z b v1 v2=>Z4 v1 v2 (hB y d) (hB z b);have ab:=fun x=>@jO p x;generalize gY p=tv at h31 ab;generalize Cg p=ob at w;have ei:(p.impls.map dS).length=p.impls.length:=vz _;refine af Try.func87 Qi rfl fun hw _=>?_;have am:p.impls.length<=9223372036854775807:=by have:=gJ hw.1.2.2.2.2.2.1;rwa [ei] at this
 refine bA p.impls.length 5 [] () (fun _=>[]) (fun _=>[]) (fun k _=>WV p k) ⟨fun i x h=>o5 h (abL _),fun i k x y _ h=>o5 h (abL _)⟩ (aj rfl) trivial trivial (fun _=>rfl) (fun _=>rfl) ?_;rintro k _ hk a _ _ aE;have a:WV p k:=a;refine ah (fun f=>?_) (fun aa=>?_)
 ·have f:k<p.impls.length:=by rw[ei] at f;omega
  refine bR f fun x s ae=>?_;have v:p.impls[((k:Int)).toNat]?=some x:=s;refine rq (by omega) v ?_;refine bB (h31 x) rfl fun _=>?_;refine aq (fun q=>Dx 1 k k rfl rfl fun z=>o5 z (by decide)) (fun q1=>?_);have ac:IV p x:=ab x (by simpa using q1);refine rq (by omega) v ?_;refine bB (w x) rfl fun _=>?_;refine aq (fun q=>Dx 9 k k rfl rfl fun z=>o5 z (by decide)) (fun q2=>?_);refine bA k 6 [] () (fun _=>[]) (fun _=>[]) (fun m _=>∀(i:Nat) (y:Impl),i<m->p.impls[i]?=some y->y.trait=x.trait->¬comm y x) (fun i y h=>o5 h (abL _)) (aj rfl) trivial trivial (fun _=>rfl) (fun _=>rfl) ?_;rintro m _ hm n _ _ _;have n:∀(i:Nat) (y:Impl),i<m->p.impls[i]?=some y->y.trait=x.trait->¬comm y x:=n;refine ah (fun r=>?_) (fun az=>?_)
  ·have r:m<k:=by omega
   refine bR (l:=p.impls) (k:=m) (by omega) fun y d ag=>?_;refine rq (by omega) (show p.impls[((m:Int)).toNat]?=some y from d) ?_;refine rq (by omega) v ?_;refine Rm (ad y ag x ae (a.iv m y r d) ac) rfl fun o ho=>?_;refine aq (fun q=>Dx 10 m k rfl rfl fun z=>o5 z (by decide)) (fun q=>?_);refine Fit.aar (by omega) (by omega) ?_;refine⟨(m+1,()),⟨r,fun i z hi b c t=>?_⟩,⟨aZ,trivial⟩,trivial,bf r⟩
   by_cases e:i=m
   ·subst e;rw[d] at b;injection b with b
    subst b;have:=ho ⟨c,t⟩;rw[show o=false from q] at this;cases this
   ·exact n i z (by have:i<m+1:=hi;omega) b c t
  ·refine Fit.aar (by omega) (by omega) ?_;have ar:m=k:=by omega
   refine⟨(k+1,()),⟨f,⟨fun i z hi b=>?_,fun i j z y u hj b d c t=>?_⟩⟩,⟨aZ,trivial⟩,trivial,bf f⟩
   ·have hi:i<k+1:=hi
    by_cases e:i=k
    ·subst e;rw[s] at b;injection b with b
     exact b▸ac
    ·exact a.iv i z (by omega) b
   ·have hj:j<k+1:=hj
    by_cases e:j=k
    ·subst e;rw[s] at d;injection d with d
     subst d;exact n i z (by omega) b c t
    ·exact a.no i j z y u (by omega) b d c t
 ·have aa:¬k<p.impls.length:=by rw[ei] at aa;omega
  refine Dx 0 0 0 rfl rfl fun _=>⟨fun x s=>?_,fun i j x y u s d c t=>?_⟩
  ·obtain⟨i,hi⟩:=List.getElem?_of_mem s;have:=(aa6.1 hi).1;exact a.iv i x (by omega) hi
  ·have:=(aa6.1 d).1;exact a.no i j x y u (by omega) s d c t
theorem t38 (p:Prog) (bs:List aS) (hB:∀x∈p.impls,gN x.type):CallsT P 38 [nD p,.sl (bs.map aV)] [] (fun Mo v=>Mo=[]/\∃b:Bool,v=.bool b/\(b=true->NW p/\vB p bs=true)):=by
 have a:=t87 p hB;have h30:=t30 p bs;generalize vB p bs=F at h30 ⊢;have key:∀(b:Bool) {L:TL}{Lin:List TO}{v:C},aH Lin (List.range' 1000 Lin.length) []=true->v.aaB.ren (bn [] 1000)=.bool b->(b=true->NW p/\F=true)->fe Lin L v (fun Mo v=>Mo=[]/\∃b:Bool,v=.bool b/\(b=true->NW p/\F=true)):=fun b {L Lin v} hb e h =>
  ⟨[],[],L,v,v,[],rfl,.inl ⟨rfl,rfl⟩,rfl,rfl,hb,fun _=>⟨rfl,b,e,h⟩⟩
 refine af Try.func38 PJ rfl fun d _=>?_;refine Rs a rfl fun e i k c=>?_;refine aF h30 rfl fun _=>?_;refine aq (fun q=>?_) (fun q=>?_)
 ·exact key (decide (e=0)) rfl rfl fun z=>⟨c (abJ z),q⟩
 ·exact key false rfl rfl fun z=>by cases z
def SB (c:Prop):List TO->C->Prop:=fun Mo v=>Mo=[]/\∃b:Bool,v=.bool b/\(b=true->c)
theorem callThen {L:TL}{ρ:aG}{c:Prop}{f:Nat}{args a:List C}{K:TL->aG->C->Prop}(h:CallsT P f a [] (SB c)) (l:(args.map fun c=>c.aaw.ren (bn [] 1000))=a)
  (k:∀b:Bool,(b=true->c)->K L ρ (.bool b)):kF P f args L ρ K:=by
 subst l;exact .mk ⟨[],[],[],L,[],_,.inl rfl,rfl,rfl,rfl,rfl,rfl,h,fun v Mo ⟨j,d,e,h1⟩ m _=>by subst j e;exact⟨rfl,k d h1⟩⟩
structure RL9 (p:Prog) (bs:List aS) (tr:Int) (t:Ty) (args:List Ty) (cF:Prop) (S1 S2:Bool) (sel:List aS->Int->Ty->gR×Int) (u:Ty) (D:Nat):Prop where
 h29:CallsT P 29 [] [] (aQ [] (.bool true))
 h38:CallsT P 38 [nD p,.sl (bs.map aV)] [] (SB cF)
 h12:CallsT P 12 [.sl [u7 t]] [] (aQ [] (.bool S1))
 h12':CallsT P 12 [.sl (args.map aD)] [] (aQ [] (.bool S2))
 h34:cF->∀bs tr t,CallsT P 34 [nD p,.sl (bs.map aV),IC tr,aK t] [] (aQ [] (.tup [kD (sel bs tr t).1,IC (sel bs tr t).2]))
 h39:S1=true->CallsT P 39 [.sl (args.map aD),aK t] [] (aQ [] (aK u))
 h18:S1=true->S2=true->CallsT P 18 [aK u] [] (aQ [] (IC D))
 fin:cF->(sel bs tr t).2=0->(∀b∈bs,eC b.param args.length=true/\(sel [] b.trait ((args[b.param.toNat]?).getD zT)).2=0)->(D:Int)<=8->(sel [] tr u).2=0\/(sel [] tr u).2=2
theorem t9o (p:Prog) (bs:List aS) (tr:Int) (t:Ty) (args:List Ty) (cF:Prop) (S1 S2:Bool) (e:List aS->Int->Ty->gR×Int) (u:Ty) (D:Nat) (X:RL9 p bs tr t args cF S1 S2 e u D):CallsT P 9 [nD p,.sl (bs.map aV),IC tr,aK t,.sl (args.map aD)] [] (aQ [] (.bool true)):=by
 obtain⟨h29,h38,h12,h12',h34,h39,h18,fin⟩:=X;have r:(bs.map aV).length=bs.length:=vz _;have ea:(args.map aD).length=args.length:=vz _;have h:=fun(i:Int) (h0:0<=i) (h1:i<args.length)=>(dN (n:=i) (len:=args.length)).2 ⟨h0,h1⟩;generalize eC=ib at fin h;refine af Try.func9 Tm rfl fun hw _=>?_;have x:bs.length<=9223372036854775807:=by have:=gJ hw.2.1;rwa [r] at this
 refine aF h29 rfl fun _=>?_;refine callThen h38 rfl fun c hc=>?_;refine aq (fun q=>ay rfl rfl) (fun q1=>?_);have o:=hc (by simpa using q1);refine aF h12 rfl fun _=>?_;refine aq (fun q=>ay rfl rfl) (fun w=>?_);refine aF h12' rfl fun _=>?_;refine aq (fun q=>ay rfl rfl) (fun q3=>?_);have h39:=h39 (by simpa using w);have h18:=h18 (by simpa using w) (by simpa using q3);have h34:=h34 o;refine aF (h34 bs tr t) rfl fun _=>?_;refine aT (fun _=>ay rfl rfl) (fun e0=>?_);refine bA bs.length 14 [] () (fun _=>[]) (fun _=>[(12,.box 64 [.bool (e bs tr t).1.assumed,IC (e bs tr t).1.index,.sl ((e bs tr t).1.types.map aD),.sl ((e bs tr t).1.proofs.map iE)])]) (fun k _=>∀b∈bs.take k,ib b.param args.length=true/\(e [] b.trait ((args[b.param.toNat]?).getD zT)).2=0) (by simp) (aj rfl) trivial ⟨.inl ⟨_,rfl,.inl ⟨rfl,rfl⟩⟩,trivial⟩ (fun _=>rfl) (fun _=>rfl) ?_;rintro k _ hk a _ _ _;have a:∀b∈bs.take k,ib b.param args.length=true/\(e [] b.trait ((args[b.param.toNat]?).getD zT)).2=0:=a;refine ah (fun f=>?_) (fun m=>?_)
 ·have f:k<bs.length:=by rw[r] at f;omega
  refine bR f fun b hb al=>?_;have j:bs[((k:Int)).toNat]?=some b:=hb;refine wZ (by omega) j ?_;refine ah (fun _=>ay rfl rfl) (fun s=>ah (fun _=>ay rfl rfl) (fun v=>?_));have s:¬b.param<0:=s;have v:¬b.param>=((args.map aD).length:Int):=v;refine wZ (by omega) j ?_;refine bR (l:=args) (k:=b.param.toNat) (by omega) fun z y _=>?_;refine ND (by omega) y ?_;refine bB (h34 [] b.trait z) rfl fun _=>?_;refine aT (fun _=>ay rfl rfl) (fun e1=>?_);refine Fit.aar (by omega) (by omega) ?_;refine⟨(k+1,()),⟨f,fun b' d=>?_⟩,⟨aZ,trivial⟩,⟨.inl ⟨_,rfl,.inl ⟨rfl,rfl⟩⟩,trivial⟩,bf f⟩;have d:b'∈bs.take (k+1):=d;rw[dA hb] at d;rcases aa9.1 d with d | d
  ·exact a b' d
  ·rw[abR.1 d];exact⟨h b.param (by omega) (by rw[<-ea];omega),by rw[y];exact e1⟩
 ·have m:¬k<bs.length:=by rw[r] at m;omega
  rw[abA (by omega)] at a;refine aF h39 rfl fun _=>?_;refine aF h18 rfl fun _=>?_;refine ah (fun _=>ay rfl rfl) (fun q6=>?_);have q6:¬(D:Int)>8:=q6;have hf:=fin o e0 a (by omega);refine aF (h34 [] tr u) rfl fun _=>?_;refine ah (fun _=>ay rfl rfl) (fun q7=>?_);exact ay rfl (vv C.bool (aa2 (hf.resolve_left q7)))
theorem NJ {a:List Ty}(e:∀x∈a,gN x/\cg x<=30):∀t:Ty,gN t->gN (subst a t)/\cg (subst a t)<=cg t+30:=cL fun t d hb=>by
 rw[subst_eq];have hb:=(eM t).1 hb;split
 ·rename_i h;obtain⟨x,b⟩:=fK (l:=a) (k:=t.id.toNat) (by omega);rw[b];have:=e x (aa8 b);exact⟨this.1,by show cg x<=_;omega⟩
 ·refine⟨(eM _).2 ⟨by show(t.args.map _).length<=_;rw[vz];exact hb.1,fun y c=>?_⟩,?_⟩
  ·obtain⟨x,b,rfl⟩:=abx.1 (show y∈t.args.map (subst a) from c);exact(d x b (hb.2 x b)).1
  ·rw[cQ,cQ t];have:cI (t.args.map (subst a))<=cI t.args+30:=uX fun y c=>by
    obtain⟨x,b,rfl⟩:=abx.1 c;have:=(d x b (hb.2 x b)).2;have:=jy b;omega
   show cI (t.args.map (subst a))+1<=_;omega
theorem t9 (h29:CallsT P 29 [] [] (aQ [] (.bool true))) (p:Prog) (bs:List aS) (tr:Int) (t:Ty) (args:List Ty) (hB:∀x∈p.impls,gN x.type):CallsT P 9 [nD p,.sl (bs.map aV),IC tr,aK t,.sl (args.map aD)] [] (aQ [] (.bool true)):=by
 refine t9o p bs tr t args (NW p/\vB p bs=true) (jd [t]) (jd args) (iA p) (subst args t) (cg (subst args t)) ⟨h29,t38 p bs hB,Un t,t12 args,fun h d tr t=>UC p d tr t (by have:=(vD h.2).2.1;omega),fun h=>t39 args t ((rY h).2 t (by simp)).1,fun h1 h2=>?_,fun h o hb hd=>?_⟩
 ·have l:=(rY h1).2 t (by simp);have k:=(rY h2).2;have:=(NJ k t l.1).2;exact Yx _ (by omega)
 ·obtain⟨a,y⟩:=h;obtain⟨c,u⟩:=kU o;have n:=lJ p bs a.iv 401 [] 0 ⟨tr,t⟩ _ c u;obtain⟨z,j⟩:=JW a.iv (bs:=bs) (args:=args) (fun b f=>by
   obtain⟨h1,h2⟩:=hb b f;obtain⟨w,e⟩:=kU h2;exact⟨h1,_,lJ p [] a.iv 401 [] 0 ⟨b.trait,_⟩ _ w e⟩) _ tr t n
  obtain⟨s,_,s2,s3⟩:=JV j;have hd:cg (subst args t)<=8:=by omega
  rcases Fw a [] s 401 [] 0 ⟨tr,subst args t⟩ hd (abn _) (by omega) s2 s3 (fun h v=>by cases v) with⟨r,m,q,_⟩ | ⟨m,q,_⟩
  ·exact .inl (by rw[IA q])
  ·refine .inr ?_;unfold iA;rw[q]
def NN (h g:ct):Bool:=decide (h.tr=g.tr)&&eqB h.t g.t
theorem Rt (h g:ct):ig h g=NN h g:=by rw[ig,NN,C8]
def Am (p:Prog) (bs:List aS):Nat->List ct->Int->ct->qu
 | 0,_,c,_=>(.error 2,c+1)
 | n+1,b,c,g=>if c+1>400 then(.error 2,c+1) else if(b.any fun h=>NN h g)=true then(.error 15,c+1) else
  if bG (lQ g) bs 0>=0 then(.ok (.mk true (bG (lQ g) bs 0) [] []),c+1) else
  match nB g p.impls 0 with
  | none=>(.error 9,c+1)
  | some (k,x,ts)=>match fQ (Am p bs n (b++[g])) (x.bounds.map (kT ts)) (c+1) [] with
   | (.ok ps,a)=>(.ok (.mk false k ts ps),a)
   | (.error e,a)=>(.error e,a)
theorem Dy (p:Prog) (bs:List aS):∀n,cN p bs n=Am p bs n
 | 0=>rfl
 | n+1=>by
  funext ab c g
  rw[cN,Am,Dy p bs n];simp only[Rt];rfl
theorem IG {p:Prog}{bs:List aS}{tr:Int}{t:Ty}{r:gR}(h:(match(Am p bs 401 [] 0 ⟨tr,t⟩).1 with | .ok r=>some r | .error _=>none)=some r):iA p bs tr t=(r,0):=by
 unfold iA;rw[Dy];cases a:(Am p bs 401 [] 0 ⟨tr,t⟩).1 with
 | ok b=>rw[a] at h;injection h with h;subst h;rfl
 | error e=>rw[a] at h;cases h
theorem NP {p:Prog}{bs:List aS}{tr:Int}{t:Ty}{e:Int}(h:(match(Am p bs 401 [] 0 ⟨tr,t⟩).1 with | .ok _=>none | .error e=>some e)=some e):iA p bs tr t=(AX,e):=by
 unfold iA;rw[Dy];cases a:(Am p bs 401 [] 0 ⟨tr,t⟩).1 with
 | ok b=>rw[a] at h;cases h
 | error c=>rw[a] at h;injection h with h;subst h;rfl
def i0:Impl:=⟨0,0,0,[],iT,0⟩
def i1:Impl:=⟨0,0,1,[⟨0,0⟩],bx (.mk 5 0 []),0⟩
def i2:Impl:=⟨0,0,0,[],bx iT,0⟩
def i3:Impl:=⟨0,1,0,[],.mk 4 0 [iT],0⟩
def qm (l:List Impl):Prog:=⟨[⟨#[109]⟩],[],[],[⟨#[116]⟩],[0],l,[],0⟩
theorem s1:iA (qm [i0,i1]) [] 0 (bx (bx iT))=(.mk false 1 [bx iT] [.mk false 1 [iT] [.mk false 0 [] []]],0):=IG rfl
theorem s2:iA (qm [i0,i1]) [] 0 (.mk 4 0 [iT])=(AX,9):=NP rfl
theorem s3:iA (qm [i0,i1]) [⟨2,0⟩] 0 (bx (.mk 5 2 []))=(.mk false 1 [.mk 5 2 []] [.mk true 0 [] []],0):=IG rfl
theorem v0 (l:List Impl):gY (qm l) i0=true:=rfl
theorem v1 (l:List Impl):gY (qm l) i1=true:=rfl
theorem v2 (l:List Impl):gY (qm l) i2=true:=rfl
theorem v3 (l:List Impl):gY (qm l) i3=true:=rfl
theorem Xg:AR i0 i1=false:=by
 refine(iy fun h=>?_).symm;rw[Dt (jO (v0 [])) (jO (v1 [])) (cS rfl) (cS rfl)] at h;obtain⟨_,b,a,_,_,h,_⟩:=h;have:=vv Ty.kind h;rw[subst_eq,subst_eq,fo (by intro q;exact o5 q.1 (by decide)),fo (by intro q;exact o5 q.1 (by decide))] at this;exact o5 (show(1:Int)=3 from this) (by decide)
theorem o02:AR i0 i2=false:=by
 refine(iy fun h=>?_).symm;rw[Dt (jO (v0 [])) (jO (v2 [])) (cS rfl) (cS rfl)] at h;obtain⟨_,b,a,_,_,h,_⟩:=h;have:=vv Ty.kind h;rw[subst_eq,subst_eq,fo (by intro q;exact o5 q.1 (by decide)),fo (by intro q;exact o5 q.1 (by decide))] at this;exact o5 (show(1:Int)=3 from this) (by decide)
theorem o12:AR i1 i2=true:=by
 refine(pW ?_).symm;rw[Dt (jO (v1 [])) (jO (v2 [])) (cS rfl) (cS rfl)];exact⟨rfl,[iT],[],rfl,rfl,rfl,by decide,fun x a=>by rw[abR.1 a];decide,fun x a=>by cases a⟩
theorem c01:Fc (qm [i0,i1])=(0,0,0):=by
 have h1:bG (fun y=>AR y i1) [i0] 0=-1:=by
  show(if AR i0 i1=true then(0:Int) else bG _ [] _)=-1;rw[Xg];rfl
 show qt (qm [i0,i1]) [i0,i1] 0=_;rw[qt,fo (by rw[v0];simp),fo (by decide),fo (by decide),qt,fo (by rw[v1];simp),fo (by decide)];rw[show(qm [i0,i1]).impls.take (0+1)=[i0] from rfl,h1,fo (by decide)];rfl
theorem Z9:Fc (qm [i0,i1,i2])=(10,1,2):=by
 have h1:bG (fun y=>AR y i1) [i0] 0=-1:=by
  show(if AR i0 i1=true then(0:Int) else bG _ [] _)=-1;rw[Xg];rfl
 have h2:bG (fun y=>AR y i2) [i0,i1] 0=1:=by
  show(if AR i0 i2=true then(0:Int) else(if AR i1 i2=true then _ else bG _ [] _))=1;rw[o02,o12];rfl
 show qt (qm [i0,i1,i2]) [i0,i1,i2] 0=_;rw[qt,fo (by rw[v0];simp),fo (by decide),fo (by decide),qt,fo (by rw[v1];simp),fo (by decide)];rw[show(qm [i0,i1,i2]).impls.take (0+1)=[i0] from rfl,h1,fo (by decide),qt,fo (by rw[v2];simp),fo (by decide)];rw[show(qm [i0,i1,i2]).impls.take (0+1+1)=[i0,i1] from rfl,h2,eu (by decide)];rfl
theorem aac:Fc (qm [i0,i1,i3])=(9,2,2):=by
 have h1:bG (fun y=>AR y i1) [i0] 0=-1:=by
  show(if AR i0 i1=true then(0:Int) else bG _ [] _)=-1;rw[Xg];rfl
 show qt (qm [i0,i1,i3]) [i0,i1,i3] 0=_;rw[qt,fo (by rw[v0];simp),fo (by decide),fo (by decide),qt,fo (by rw[v1];simp),fo (by decide)];rw[show(qm [i0,i1,i3]).impls.take (0+1)=[i0] from rfl,h1,fo (by decide),qt,fo (by rw[v3];simp),eu (by decide)];rfl
theorem t70:CallsT P 70 [] [] (aQ [] (nD (qm [i0,i1]))):=by
 refine af Try.func70 P7 rfl fun a _=>?_;refine aF UU rfl fun _=>?_;refine aF (Xc 0) rfl fun _=>?_;refine aF (Tz 3 (.mk 5 0 [])) rfl fun _=>?_;exact ay rfl rfl
theorem aad:CallsT P 70 [] [] (aQ [.row 56 8 [dS i0,dS i1]] (.agg [.sl [[.str ⟨#[109]⟩]],.sl [],.sl [],.sl [[.str ⟨#[116]⟩]],.sl [[IC 0]],.rw 1000,.sl [],IC 0])):=by
 refine af Try.func70 NM rfl fun a _=>?_;refine aF UU rfl fun _=>?_;refine aF (Xc 0) rfl fun _=>?_;refine aF (Tz 3 (.mk 5 0 [])) rfl fun _=>?_;exact bJ [11] rfl rfl rfl rfl
theorem aae:CallsT P 34 [nD (qm [i0,i1]),.sl [],IC 0,aK (bx (bx iT))] [] (aQ [] (.tup [.agg [.bool false,IC 1,.sl [aD (bx iT)],.sl [iE (.mk false 1 [iT] [.mk false 0 [] []])]],IC 0])):=by
 have:=Xf (qm [i0,i1]) [] 0 (bx (bx iT)) (by decide);rw[s1] at this;exact this
theorem aaf:CallsT P 34 [nD (qm [i0,i1]),.sl [],IC 0,aK (.mk 4 0 [iT])] [] (aQ [] (.tup [.agg [.bool false,IC 0,.sl [],.sl []],IC 9])):=by
 have:=Xf (qm [i0,i1]) [] 0 (.mk 4 0 [iT]) (by decide);rw[s2] at this;exact this
theorem aag:CallsT P 34 [nD (qm [i0,i1]),.sl [[IC 2,IC 0]],IC 0,aK (bx (.mk 5 2 []))] [] (aQ [] (.tup [.agg [.bool false,IC 1,.sl [aD (.mk 5 2 [])],.sl [iE (.mk true 0 [] [])]],IC 0])):=by
 have:=Xf (qm [i0,i1]) [⟨2,0⟩] 0 (bx (.mk 5 2 [])) (by decide);rw[s3] at this;exact this
theorem Xh {l:List Impl}(h:∀x∈l,x=i0\/x=i1\/x=i2\/x=i3):∀x∈l,gN x.type/\cg x.type<=2 ^ 40:=fun x a=>by
 rcases h x a with rfl | rfl | rfl | rfl<;>exact⟨cS rfl,ic rfl⟩
theorem aah:CallsT P 40 [nD (qm [i0,i1])] [] (aQ [] (.tup [IC 0,IC 0,IC 0])):=by
 have:=ZE (qm [i0,i1]) (Xh (l:=[i0,i1]) fun x a=>by simp at a;rcases a with rfl | rfl<;>simp);rw[c01] at this;exact this
theorem aai:CallsT P 40 [nD (qm [i0,i1,i2])] [] (aQ [] (.tup [IC 10,IC 1,IC 2])):=by
 have:=ZE (qm [i0,i1,i2]) (Xh (l:=[i0,i1,i2]) fun x a=>by simp at a;rcases a with rfl | rfl | rfl<;>simp);rw[Z9] at this;exact this
theorem aaj:CallsT P 40 [nD (qm [i0,i1,i3])] [] (aQ [] (.tup [IC 9,IC 2,IC 2])):=by
 have:=ZE (qm [i0,i1,i3]) (Xh (l:=[i0,i1,i3]) fun x a=>by simp at a;rcases a with rfl | rfl | rfl<;>simp);rw[aac] at this;exact this
theorem SC:wM P 40:=⟨Try.f40,Try.func40,by kernel_rfl,by kernel_rfl⟩
theorem SD {a b c:Int}{F F':aA}{L L':Loc}{v:Value}(h:Rel F L (.tup [IC a,IC b,IC c]) v):Rel F' L' (.tup [IC a,IC b,IC c]) v:=by
 simp only[Rel,aB] at h ⊢;exact h
abbrev exA:C:=.agg [.sl [[.str ⟨#[109]⟩]],.sl [],.sl [],.sl [[.str ⟨#[116]⟩]],.sl [[IC 0]],.rw 1000,.sl [],IC 0]
theorem aak:iB P 40 [exA] [.row 56 8 [dS i0,dS i1,dS i2]] (aQ [.row 56 8 [dS i0,dS i1,dS i2]] (.tup [IC 10,IC 1,IC 2])):=CallsT.aaW aai SC SD
theorem aal:iB P 40 [exA] [.row 56 8 [dS i0,dS i1,dS i3]] (aQ [.row 56 8 [dS i0,dS i1,dS i3]] (.tup [IC 9,IC 2,IC 2])):=CallsT.aaW aaj SC SD
theorem h35 (a:gR):CallsT P 35 [kD a,kD a] [] (aQ [] (.bool true)):=by
 have:=t35 a a;rw[<-pW rfl] at this;exact this
theorem aam:CallsT P 32 [Aw i1,Aw i2] [] (aQ [] (.bool true)):=by
 have:=t32 i1 i2 (cS rfl) (cS rfl) (ic rfl) (ic rfl);rw[Nn,show Ar (Ug i1 i2)=AR i1 i2 from rfl,o12] at this;exact this
theorem aan:CallsT P 32 [Aw i0,Aw i1] [] (aQ [] (.bool false)):=by
 have:=t32 i0 i1 (cS rfl) (cS rfl) (ic rfl) (ic rfl);rw[Nn,show Ar (Ug i0 i1)=AR i0 i1 from rfl,Xg] at this;exact this
theorem h37:CallsT P 37 [nD (qm [i0,i1]),.sl [],IC 0,aK (bx iT),kD (.mk false 1 [iT] [.mk false 0 [] []])] [] (aQ [] (.bool true)) :=
 ZU (qm [i0,i1]) [] (fun x a=>(Xh (l:=[i0,i1]) (fun x a=>by simp at a;rcases a with rfl | rfl<;>simp) x a).1) (.mk false 1 [iT] [.mk false 0 [] []]) 0 (bx iT)
theorem Xi:CallsT P 14 [nD (qm [i0,i1]),IC 1,aK (bx (.mk 5 0 []))] [] (aQ [] (.bool true)):=t14 1 (qm [i0,i1]) (bx (.mk 5 0 [])) (ic rfl)
set_option maxRecDepth 100000 in
theorem t29:CallsT P 29 [] [] (aQ [] (.bool true)):=by
 refine af Try.func29 NK rfl fun a _=>?_;refine aF t70 rfl fun _=>?_;refine aF UU rfl fun _=>?_;refine aF (Tz 3 iT) rfl fun _=>?_;refine bB (Tz 3 (bx iT)) rfl fun _=>?_;refine bB aae rfl fun _=>?_;refine bB UU rfl fun _=>?_;refine bB (Tz 4 iT) rfl fun _=>?_;refine bB aaf rfl fun _=>?_;refine bB (Xc 2) rfl fun _=>?_;refine bB (Tz 3 (.mk 5 2 [])) rfl fun _=>?_;refine bB aag rfl fun _=>?_;refine aF aah rfl fun _=>?_;refine callO [] [5000] aad rfl rfl rfl rfl rfl fun _ _=>?_;refine jN 2 rfl rfl (by decide) (by decide) ?_;refine z7 [5000] aak rfl rfl rfl rfl rfl ?_;refine bB UU rfl fun _=>?_;refine bB (Tz 4 iT) rfl fun _=>?_;refine Ao.mk (by decide) (by decide) ?_;refine⟨rfl,u5 (show[dS i0,dS i1,dS i2][2]?=some (dS i2) from rfl) rfl ?_⟩;refine z7 [5000] aal rfl rfl rfl rfl rfl ?_;refine aF UU rfl fun _=>?_;refine bB (h35 (.mk false 1 [bx iT] [.mk false 1 [iT] [.mk false 0 [] []]])) rfl fun _=>?_;refine bB (Xc 2) rfl fun _=>?_;refine bB (h35 (.mk false 1 [.mk 5 2 []] [.mk true 0 [] []])) rfl fun _=>?_;refine Gg (show(qm [i0,i1]).impls[1]?=some i1 from rfl) rfl rfl ?_;refine bB aam rfl fun _=>?_;refine Gg (show(qm [i0,i1]).impls[0]?=some i0 from rfl) rfl rfl ?_;refine Gg (show(qm [i0,i1]).impls[1]?=some i1 from rfl) rfl rfl ?_;refine bB aan rfl fun _=>?_;refine bB h37 rfl fun _=>?_;refine Gg (show(qm [i0,i1]).impls[1]?=some i1 from rfl) rfl rfl ?_;refine bB Xi rfl fun _=>?_;exact ay rfl rfl
end Go.Fr.Try

