/- Part of the proofs of the statements of this seat. -/
import Derived.Test.YthfdbepkalpplaaGreatVrT4G
import Derived.Test.YthfdbepkalpplaaGreatVnR2G
import Derived.Test.YthfdbepkalpplaaGreatVrCode4
import Derived.Test.YthfdbepkalpplaaGreatVrP6G
import Derived.Test.YthfdbepkalpplaaGreatVrCode2
import Derived.Test.YthfdbepkalpplaaGreatFW3
set_option maxRecDepth 10000
set_option linter.unusedVariables false
set_option linter.unusedSimpArgs false
namespace Go.Fr.Tryz
open Go Go.RowKit Go.Proofs Go.Fr Go.Fr.T Go.Fr.Api
def ME (c:Prop):List TO->C->Prop:=fun Mo v=>Mo=[]/\∃b:Bool,v=.bool b/\(c->b=true)
theorem TU {L:TL}{ρ:aG}{c:Prop}{f:Nat}{args a:List C}{K:TL->aG->C->Prop}(h:CallsT P f a [] (ME c)) (l:(args.map fun c=>c.aaj.ren (bh [] 1000))=a)
  (k:∀b:Bool,(c->b=true)->K L ρ (.bool b)):kX P f args L ρ K:=by
 subst l;exact .mk ⟨[],[],[],L,[],_,.inl rfl,rfl,rfl,rfl,rfl,rfl,h,fun v Mo ⟨j,d,e,h1⟩ m _=>by subst j e;exact⟨rfl,k d h1⟩⟩
theorem QC {L:TL}{ρ:aG}{c:Prop}{f:Nat}{args a:List C}{d:Option Nat}{K:TL->aG->C->Prop}(h:CallsT P f a [] (ME c)) (j:(args.map fun c=>c.aaj.ren (bh [] 1000))=a)
  (k:∀b:Bool,(c->b=true)->K L ρ (.bool b)):pA P f args L ρ d K:=by
 subst j;exact .frz _ h fun v Mo ⟨l,d,e,h1⟩ m=>by subst l e;exact⟨rfl,k d h1⟩
theorem Ib {L:TL}{Lin:List TO}{v:C}{c:Prop}(b:Bool) (hb:aJ Lin (List.range' 1000 Lin.length) []=true) (e:v.aao.ren (bh [] 1000)=.bool b) (h:c->b=true):eS Lin L v (ME c) :=
 ⟨[],[],L,v,v,[],rfl,.inl ⟨rfl,rfl⟩,rfl,rfl,hb,fun _=>⟨rfl,b,e,h⟩⟩
theorem Za {u s:List Ty}{ρ:Int->Nat}(hS:Sat u s) (l:zY s) (m:∀x∈s,x.kind=0->x=.mk 0 0 []) (f:Rk s ρ) (p:s.length<=2 ^ 29):CallsT P 90 [.sl (s.map aD)] [] (ME (∀k:Nat,k<s.length->bW (gs u (vr k))<=8)):=by
 have c:(s.map aD).length=s.length:=xo _;have e:=t97 l m f (by omega);have b:∀k:Nat,k<s.length->CallsT P 93 [.sl (s.map aD),aP (vr k),IC ((s.length:Int)+1),IC 8] [] (MT 8 ((bW (gs u (vr k)):Int)<=8)):=fun k j =>
  YW hS l f (s.length+1) (vr k) 8 (by omega) (by omega) (mW j) (by rw[dY,fo (show(vr k).kind=9 from rfl),aa0];have:=f.lt k j;show ρ ((k:Nat):Int)<_;omega)
 refine af Tryz.func90 Pn rfl fun t _=>?_;refine aF e rfl fun _=>?_;refine bN s.length 3 [] () (fun _=>[]) (fun _=>[]) (fun _ _=>True) trivial (ai rfl) trivial trivial (fun _=>rfl) (fun _=>rfl) ?_;rintro k _ j _ _ _ _;refine ah (fun a=>?_) (fun o=>?_)
 ·have a:k<s.length:=by rw[c] at a;omega
  refine Fit.aae (by omega) (by omega) ?_;refine CV (b k a) (by rw[c];rfl) fun d v r n=>?_;refine ah (fun q=>Ib false rfl rfl fun h=>?_) (fun q=>?_)
  ·have:=n (by have:=h k a;omega);have q:d=0:=q;omega
  refine Fit.aae (by omega) (by omega) ?_;exact⟨(k+1,()),⟨a,trivial⟩,⟨bw,trivial⟩,trivial,bB a⟩
 ·exact Ib true rfl rfl fun _=>rfl
theorem VZ {l:List Ty}:∀es∈l.map aD,es.length=3:=fun es h=>by
 obtain⟨x,_,rfl⟩:=abq.1 h;rw[iM];rfl
theorem Yg (s:List Ty) (v:Int) (t:Ty) (h0:0<=v) (h1:v<s.length) (f:s.length<=2 ^ 29):CallsT P 100 [.sl (s.map aD),IC v,aP t] [] (aR [] (.sl ((s.set v.toNat t).map aD))):=by
 have a:(s.map aD).length=s.length:=xo _;obtain⟨x,d⟩:=fK (l:=s) (k:=v.toNat) (by omega);have c:=LL d;have b:=LK (s:=s) (j:=v.toNat) (t:=t);refine CallsT.give (t:=33) (sz:=3) ?_;refine af Tryz.func100 Le rfl fun e _=>?_;refine⟨by omega,fun es he=>(by cases he),?_⟩;refine Ye 0 s.length VZ rfl a (by omega) (by decide) ?_;refine zV.mk h0 (show v<(([]++s.map aD).length:Int) by rw[abp,a];exact h1) ?_;refine⟨rfl,uF c rfl ?_⟩;exact bP [10] rfl rfl (by rw[<-b];rfl) rfl
def Gv (r:Option (List Ty)):C:=match r with
 | some s=>.tup [.sl (s.map aD),.bool true]
 | none=>.tup [.sl [],.bool false]
structure Yh (s:List Ty) (a b a' b':Ty) (V:Option (List Ty)) (ok:List Ty->List Ty->List Ty->Option (List Ty)->Prop):Prop where
 fa:CallsT P 99 [.sl (s.map aD),aP a] [] (aR [] (aP a'))
 fb:CallsT P 99 [.sl (s.map aD),aP b] [] (aR [] (aP b'))
 va:a'.kind=9->0<=a'.id/\a'.id<s.length
 vb:b'.kind=9->0<=b'.id/\b'.id<s.length
 h1:a'.kind=9->b'.kind=9->a'.id=b'.id->V=some s
 h2:a'.kind=9->b'.kind=9->a'.id<b'.id->V=some (s.set b'.id.toNat a')
 h2':a'.kind=9->b'.kind=9->b'.id<a'.id->V=some (s.set a'.id.toNat b')
 h3:a'.kind=9->¬b'.kind=9->∃o,CallsT P 101 [.sl (s.map aD),IC a'.id,aP b'] [] (aR [] (.bool o))/\(o=true->V=none)/\(o=false->V=some (s.set a'.id.toNat b'))
 h4:¬a'.kind=9->b'.kind=9->CallsT P 92 [.sl (s.map aD),aP b',aP a'] [] (aR [] (Gv V))
 h5:¬a'.kind=9->¬b'.kind=9->(a'.kind≠b'.kind\/a'.id≠b'.id\/a'.args.length≠b'.args.length)->V=none
 h6:¬a'.kind=9->¬b'.kind=9->¬(a'.kind≠b'.kind\/a'.id≠b'.id\/a'.args.length≠b'.args.length)->ok s a'.args b'.args V
 nil:∀s,ok s [] [] V->V=some s
 cons:∀s x l y m,ok s (x::l) (y::m) V->∃r,CallsT P 92 [.sl (s.map aD),aP x,aP y] [] (aR [] (Gv r))/\(r=none->V=none)/\∀s',r=some s'->ok s' l m V
theorem QD {L:TL}{ρ:aG}{r:Option (List Ty)}{args a:List C}{d:Option Nat}{K:TL->aG->C->Prop}(h:CallsT P 92 a [] (aR [] (Gv r))) (b:(args.map fun c=>c.aaj.ren (bh [] 1000))=a)
  (k1:∀s,r=some s->K L ρ (.tup [.sl (s.map aD),.bool true])) (e:r=none->K L ρ (.tup [.sl [],.bool false])):pA P 92 args L ρ d K:=by
 cases r with
 | none=>exact bG h b fun _=>e rfl
 | some s=>exact bG h b fun _=>k1 s rfl
theorem E0 {L:TL}{ρ:aG}{r:Option (List Ty)}{args a:List C}{K:TL->aG->C->Prop}(h:CallsT P 92 a [] (aR [] (Gv r))) (b:(args.map fun c=>c.aaj.ren (bh [] 1000))=a)
  (k1:∀s,r=some s->K L ρ (.tup [.sl (s.map aD),.bool true])) (d:r=none->K L ρ (.tup [.sl [],.bool false])):kX P 92 args L ρ K:=by
 cases r with
 | none=>exact aF h b fun _=>d rfl
 | some s=>exact aF h b fun _=>k1 s rfl
theorem Yi (s:List Ty) (a b a' c:Ty) (V:Option (List Ty)) (ok:List Ty->List Ty->List Ty->Option (List Ty)->Prop) (X:Yh s a b a' c V ok) (hl:s.length<=2 ^ 29):CallsT P 92 [.sl (s.map aD),aP a,aP b] [] (aR [] (Gv V)):=by
 obtain⟨fa,fb,va,vb,h1,h2,h2',h3,h4,h5,h6,nil,cons⟩:=X;have j:=PZ;have m:=fun v t a b=>Yg s v t a b hl;have p:(a'.args.map aD).length=a'.args.length:=xo _;have ad:(c.args.map aD).length=c.args.length:=xo _;refine af Tryz.func92 Pr rfl fun hw _=>?_;refine aF fa rfl fun ag=>?_;have al:a'.args.length<=9223372036854775807:=fB ag.2.2.1;refine aF fb rfl fun _=>?_;refine aF (j a') rfl fun _=>?_;refine ah (fun d=>aF (j c) rfl fun _=>ah (fun h=>?_) (fun h=>?_)) (fun d=>?_)
 ·refine ah (fun q=>?_) (fun q=>ah (fun w=>?_) (fun w=>?_))
  ·exact ay rfl (by rw[h1 d h q];rfl)
  ·have vb:=vb h;refine aF (m c.id a' vb.1 vb.2) rfl fun _=>?_;exact ay rfl (by rw[h2 d h w];rfl)
  ·have va:=va d;have q:¬a'.id=c.id:=q;have w:¬a'.id<c.id:=w;refine aF (m a'.id c va.1 va.2) rfl fun _=>?_;exact ay rfl (by rw[h2' d h (by omega)];rfl)
 ·refine aF (j a') rfl fun _=>?_;refine ah (fun _=>?_) (fun q=>vv d q);have va:=va d;refine qe (h3 d h) fun o ho=>?_;refine aF ho.1 rfl fun _=>?_;refine aq (fun q=>?_) (fun q=>?_)
  ·exact ay rfl (by rw[ho.2.1 q];rfl)
  ·refine aF (m a'.id c va.1 va.2) rfl fun _=>?_;exact ay rfl (by rw[ho.2.2 q];rfl)
 refine aF (j a') rfl fun _=>?_;refine ah (fun q=>vv q d) (fun _=>?_);refine aF (j c) rfl fun _=>?_;refine ah (fun h=>?_) (fun h=>?_)
 ·have h4:=h4 d h;refine E0 h4 rfl (fun s' e=>?_) (fun e=>?_)
  ·exact ay rfl (by rw[e];rfl)
  ·exact ay rfl (by rw[e];rfl)
 refine aV (fun q=>ay rfl (by rw[h5 d h (.inl q)];rfl)) (fun e1=>?_);refine aV (fun q=>ay rfl (by rw[h5 d h (.inr (.inl q))];rfl)) (fun e2=>?_);refine aV (fun q=>ay rfl (by rw[h5 d h (.inr (.inr fun z=>q (by rw[p,ad,z])))];rfl)) (fun e3=>?_);have e3:((a'.args.map aD).length:Int)=((c.args.map aD).length:Int):=e3;have h6:=h6 d h (fun q=>q.elim (fun q=>q e1) fun q=>q.elim (fun q=>q e2) fun q=>q (by omega));refine bN a'.args.length 8 [0] s (fun s=>[.sl (s.map aD)]) (fun _=>[(4,.box 33 (Eo a')),(5,.box 33 (Eo c))]) (fun k s=>ok s (a'.args.drop k) (c.args.drop k) V) h6 (ai rfl) ⟨ai rfl,trivial⟩ ⟨.inl ⟨_,rfl,.inl ⟨rfl,rfl⟩⟩,.inl ⟨_,rfl,.inl ⟨rfl,rfl⟩⟩,trivial⟩ (fun _=>rfl) (fun _=>rfl) ?_;rintro k s' hk f _ _ _;have f:ok s' (a'.args.drop k) (c.args.drop k) V:=f;refine ah (fun n=>?_) (fun u=>?_)
 ·have n:k<a'.args.length:=by rw[p] at n;omega
  refine bf n fun x hx ar ac=>?_;refine bf (l:=c.args) (k:=k) (by omega) fun y hy aw ab=>?_;rw[ac,ab] at f;refine qe (cons s' x _ y _ f) fun r hr=>?_;refine cA hx ?_;refine cA hy ?_;refine QD hr.1 rfl (fun s2 e=>?_) (fun e=>?_)
  ·refine Fit.aae (by omega) (by omega) ?_;exact⟨(k+1,s2),⟨n,hr.2.2 s2 e⟩,⟨bw,ai rfl,trivial⟩,⟨.inl ⟨_,rfl,.inl ⟨rfl,rfl⟩⟩,.inl ⟨_,rfl,.inl ⟨rfl,rfl⟩⟩,trivial⟩,bB n⟩
  ·exact ay rfl (by rw[hr.2.1 e];rfl)
 ·have u:¬k<a'.args.length:=by rw[p] at u;omega
  rw[bU u,bU (l:=c.args) (by omega)] at f;exact ay rfl (by rw[nil s' f];rfl)
theorem var_eq {n:Int}{t:Ty}(h:ins n t=true) (h9:t.kind=9):t=.mk 9 t.id []:=wk h9 rfl (fC h h9).2.2
theorem Yj:∀(n:Nat) (s:List Ty) (a b:Ty) (r:Option (List Ty)),s.length<=2 ^ 29->Good s->ins s.length a=true->ins s.length b=true->kT n s a b=some r->CallsT P 92 [.sl (s.map aD),aP a,aP b] [] (aR [] (Gv r))
 | 0,s,a,b,r,_,_,_,_,h=>by cases h
 | n+1,s,a,b,r,v,g,ha,hb,h=>by
  cases fa:aO s n a with
  | none=>rw[kT,fa] at h;cases h
  | some a' =>
  cases fb:aO s n b with
  | none=>rw[kT,fa,fb] at h;cases h
  | some f =>
  rw[lJ fa fb] at h;have c:=g.ins.front fa ha;have d:=g.ins.front fb hb;have u:a'.kind=9->0<=a'.id/\a'.id<s.length:=fun h9=>by have:=fC c h9;exact⟨this.1,this.2.1⟩
  have aa:f.kind=9->0<=f.id/\f.id<s.length:=fun h9=>by have:=fC d h9;exact⟨this.1,this.2.1⟩
  refine Yi s a b a' f r (fun s l m V=>s.length<=2 ^ 29/\Good s/\l.length=m.length/\(∀x∈l,ins s.length x=true)/\(∀x∈m,ins s.length x=true)/\jJ (kT n) s l m=some V) ⟨VX s n a a' fa,VX s n b f fb,u,aa,fun h1 h2 h3=>?_,fun h1 h2 h3=>?_,fun h1 h2 h3=>?_,fun h1 h2=>?_,fun h1 h2=>?_,fun h1 h2 h3=>?_,fun h1 h2 h3=>?_,fun s h=>?_,fun s x l y m h=>?_⟩ v
  ·rw[fo ⟨h1,h2⟩,fo h3] at h;injection h with h;exact h.symm
  ·rw[fo ⟨h1,h2⟩,o5 (by omega),Int.max_eq_right (by omega),Int.min_eq_left (by omega)] at h;injection h with h
   rw[<-h,<-var_eq c h1]
  ·rw[fo ⟨h1,h2⟩,o5 (by omega),Int.max_eq_left (by omega),Int.min_eq_right (by omega)] at h;injection h with h
   rw[<-h,<-var_eq d h2]
  ·rw[o5 (fun q=>h2 q.2),fo h1] at h;cases ho:jI s a'.id n f with
   | none=>rw[ho] at h;cases h
   | some o =>
    rw[ho] at h;refine⟨o,VY s a'.id n f o ho,fun q=>?_,fun q=>?_⟩
    ·subst q;injection h with h;exact h.symm
    ·subst q;injection h with h;exact h.symm
  ·rw[o5 (fun q=>h1 q.1),o5 h1,fo h2] at h;exact Yj n s f a' r v g d c h
  ·rw[o5 (fun q=>h1 q.1),o5 h1,o5 h2,fo h3] at h;injection h with h;exact h.symm
  ·rw[o5 (fun q=>h1 q.1),o5 h1,o5 h2,o5 h3] at h;exact⟨v,g,by omega,cH c,cH d,h⟩
  ·have h:=h.2.2.2.2.2;rw[jJ] at h;injection h with h;exact h.symm
  ·obtain⟨h1,g,h2,k,j,h3⟩:=h;rw[jJ] at h3;cases t:kT n s x y with
   | none=>rw[t] at h3;cases h3
   | some r1 =>
    rw[t] at h3;refine⟨r1,Yj n s x y r1 h1 g (k x (by simp)) (j y (by simp)) t,fun e=>?_,fun s' e=>?_⟩
    ·subst e;injection h3 with h3;exact h3.symm
    ·subst e;have p:=xI g (k x (by simp)) (j y (by simp)) t;exact⟨by rw[p.len];exact h1,p.good,by simpa using h2,fun z w=>by rw[p.len];exact k z (by simp[w]),fun z w=>by rw[p.len];exact j z (by simp[w]),h3⟩
theorem RW (s:List Ty) (t r:Ty) (g:Ty->Ty) (hb:t.args.length<=2 ^ 30) (h9:t.kind=9->∃x,bO s t=some x/\(¬x.kind=0->CallsT P 103 [.sl (s.map aD),aP x] [] (aR [] (aP r)))/\(x.kind=0->r=.mk t.kind t.id (t.args.map g)))
  (j:¬t.kind=9->r=.mk t.kind t.id (t.args.map g)) (q:∀x∈t.args,CallsT P 103 [.sl (s.map aD),aP x] [] (aR [] (aP (g x)))):CallsT P 103 [.sl (s.map aD),aP t] [] (aR [] (aP r)):=by
 have n:=PZ t;have d:(t.args.map aD).length=t.args.length:=xo _;refine af Tryz.func103 Lj rfl fun u _=>?_;refine aF n rfl fun _=>?_;refine ah (fun e=>qe (h9 e) fun x f=>?_) (fun e=>?_)
 ·have he:=bE f.1;refine nO he.1 he.2.1 ?_;refine aV (fun m=>?_) (fun m=>?_)
  ·refine nO he.1 he.2.1 ?_;refine aF (f.2.1 m) rfl fun _=>?_;exact ay rfl rfl
  have j:=f.2.2 m;refine bN t.args.length 6 [] ([]:List Ty) (fun _=>[]) (fun l=>[(4,.box 33 [IC 0,IC 0,.nils]),(5,.box 33 [IC t.kind,IC t.id,.rw 47]),(47,.row 33 3 (l.map aD))]) (fun k l=>l=(t.args.take k).map g) rfl (ai rfl) trivial
   ⟨.inl ⟨_,rfl,.inl ⟨rfl,rfl⟩⟩,.inl ⟨_,rfl,.inr ⟨33,_,_,rfl,rfl,_,_,rfl,ai rfl,_,_,rfl,ai rfl,_,_,rfl,kK rfl rfl,rfl⟩⟩,.inr ⟨rfl,33,3,rfl⟩,trivial⟩ (fun _=>rfl) (fun _=>rfl) ?_
  rintro k l m a _ _ _;have a:l=(t.args.take k).map g:=a;have p:(l.map aD).length=k:=by rw[a,xo,xo,abF];omega
  refine ah (fun b=>?_) (fun c=>?_)
  ·have b:k<t.args.length:=by rw[d] at b;omega
   refine ck b fun x f h=>?_;refine cA f ?_;refine bG (q x h) rfl fun _=>?_;refine lD k rfl p (by decide) (by omega) ?_;refine Fit.aae (by omega) (by omega) ?_;refine⟨(k+1,l++[g x]),⟨b,?_⟩,⟨bw,trivial⟩,⟨.inl ⟨_,rfl,.inl ⟨rfl,rfl⟩⟩,.inl ⟨_,rfl,.inl ⟨rfl,rfl⟩⟩,.inl ⟨_,rfl,.inl ⟨nN vF,rfl⟩⟩,trivial⟩,bB b⟩;show l++[g x]=(t.args.take (k+1)).map g;rw[fL f,a,abx];rfl
  ·have c:¬k<t.args.length:=by rw[d] at c;omega
   have o:C.agg [IC t.kind,IC t.id,.sl (l.map aD)]=aP r:=by
    rw[j,a,abz (by omega)];rfl
   exact yT [47] [] ⟨_,[],rfl,rfl,rfl,rfl,o⟩
 ·have j:=j e;refine bN t.args.length 6 [] ([]:List Ty) (fun _=>[]) (fun l=>[(4,.box 33 [IC 0,IC 0,.nils]),(5,.box 33 [IC t.kind,IC t.id,.rw 47]),(47,.row 33 3 (l.map aD))]) (fun k l=>l=(t.args.take k).map g) rfl (ai rfl) trivial
   ⟨.inl ⟨_,rfl,.inl ⟨rfl,rfl⟩⟩,.inl ⟨_,rfl,.inr ⟨33,_,_,rfl,rfl,_,_,rfl,ai rfl,_,_,rfl,ai rfl,_,_,rfl,kK rfl rfl,rfl⟩⟩,.inr ⟨rfl,33,3,rfl⟩,trivial⟩ (fun _=>rfl) (fun _=>rfl) ?_
  rintro k l m a _ _ _;have a:l=(t.args.take k).map g:=a;have p:(l.map aD).length=k:=by rw[a,xo,xo,abF];omega
  refine ah (fun b=>?_) (fun c=>?_)
  ·have b:k<t.args.length:=by rw[d] at b;omega
   refine ck b fun x f h=>?_;refine cA f ?_;refine bG (q x h) rfl fun _=>?_;refine lD k rfl p (by decide) (by omega) ?_;refine Fit.aae (by omega) (by omega) ?_;refine⟨(k+1,l++[g x]),⟨b,?_⟩,⟨bw,trivial⟩,⟨.inl ⟨_,rfl,.inl ⟨rfl,rfl⟩⟩,.inl ⟨_,rfl,.inl ⟨rfl,rfl⟩⟩,.inl ⟨_,rfl,.inl ⟨nN vF,rfl⟩⟩,trivial⟩,bB b⟩;show l++[g x]=(t.args.take (k+1)).map g;rw[fL f,a,abx];rfl
  ·have c:¬k<t.args.length:=by rw[d] at c;omega
   have o:C.agg [IC t.kind,IC t.id,.sl (l.map aD)]=aP r:=by
    rw[j,a,abz (by omega)];rfl
   exact yT [47] [] ⟨_,[],rfl,rfl,rfl,rfl,o⟩
theorem TV {s:List Ty}(e:∀x∈s,iA x) (hi:zY s):∀(n:Nat) (t r:Ty),iA t->ins s.length t=true->nk s n t=some r->CallsT P 103 [.sl (s.map aD),aP t] [] (aR [] (aP r))
 | 0,t,r,_,_,h=>by cases h
 | n+1,t,r,hb,j,h=>by
  have a:=(fu t).1 hb;rw[nk] at h;cases he:(if t.kind=9 then bO s t else some (.mk 0 0 [])) with
  | none=>simp only[he] at h;cases h
  | some x =>
   simp only[he] at h
   by_cases b:x.kind=0
   ·rw[o5 (fun p=>p b)] at h;cases c:j7 (nk s n) t.args with
    | none=>simp only[c] at h;cases h
    | some l =>
     simp only[c] at h;injection h with h
     obtain⟨h1,h2⟩:=gJ c;subst h;refine RW s t _ (fun x=>(nk s n x).getD x) a.1 (fun h9=>?_) (fun h9=>by rw[h2]) fun x d=>TV e hi n x _ (a.2 x d) (cH j x d) (h1 x d);rw[fo h9] at he;exact⟨x,he,fun q=>vv b q,fun _=>by rw[h2]⟩
   ·rw[fo b] at h;have h9:t.kind=9:=by
     by_cases h9:t.kind=9
     ·exact h9
     ·rw[o5 h9] at he;injection he with he
      exact vv (by rw[<-he];rfl) b
    rw[fo h9] at he;refine RW s t r id a.1 (fun _=>⟨x,he,fun _=>TV e hi n x r (e x (oI he)) (hi.elem he b) h,fun q=>vv q b⟩) (fun q=>vv h9 q) fun y f=>?_;rw[(fC j h9).2.2] at f;cases f
theorem V0 (R:List Ty) (t r:Ty) (g:Ty->Ty) (hb:t.args.length<=2 ^ 30) (h9:t.kind=9->0<=t.id/\R[t.id.toNat]?=some r) (f:¬t.kind=9->r=.mk t.kind t.id (t.args.map g)) (m:¬t.kind=9->∀x∈t.args,CallsT P 102 [.sl (R.map aD),aP x] [] (aR [] (aP (g x)))):CallsT P 102 [.sl (R.map aD),aP t] [] (aR [] (aP r)):=by
 have j:=PZ t;have c:(t.args.map aD).length=t.args.length:=xo _;refine af Tryz.func102 Lh rfl fun q _=>?_;refine aF j rfl fun _=>?_;refine ah (fun e=>?_) (fun e=>?_)
 ·have h9:=h9 e;refine nO h9.1 h9.2 ?_;exact ay rfl rfl
 have f:=f e;have m:=m e;refine bN t.args.length 6 [] ([]:List Ty) (fun _=>[]) (fun l=>[(4,.box 33 [IC 0,IC 0,.nils]),(5,.box 33 [IC t.kind,IC t.id,.rw 36]),(36,.row 33 3 (l.map aD))]) (fun k l=>l=(t.args.take k).map g) rfl (ai rfl) trivial
  ⟨.inl ⟨_,rfl,.inl ⟨rfl,rfl⟩⟩,.inl ⟨_,rfl,.inr ⟨33,_,_,rfl,rfl,_,_,rfl,ai rfl,_,_,rfl,ai rfl,_,_,rfl,kK rfl rfl,rfl⟩⟩,.inr ⟨rfl,33,3,rfl⟩,trivial⟩ (fun _=>rfl) (fun _=>rfl) ?_
 rintro k l s a _ _ _;have a:l=(t.args.take k).map g:=a;have p:(l.map aD).length=k:=by rw[a,xo,xo,abF];omega
 refine ah (fun b=>?_) (fun d=>?_)
 ·have b:k<t.args.length:=by rw[c] at b;omega
  refine ck b fun x n h=>?_;refine cA n ?_;refine bG (m x h) rfl fun _=>?_;refine lD k rfl p (by decide) (by omega) ?_;refine Fit.aae (by omega) (by omega) ?_;refine⟨(k+1,l++[g x]),⟨b,?_⟩,⟨bw,trivial⟩,⟨.inl ⟨_,rfl,.inl ⟨rfl,rfl⟩⟩,.inl ⟨_,rfl,.inl ⟨rfl,rfl⟩⟩,.inl ⟨_,rfl,.inl ⟨nN vF,rfl⟩⟩,trivial⟩,bB b⟩;show l++[g x]=(t.args.take (k+1)).map g;rw[fL n,a,abx];rfl
 ·have d:¬k<t.args.length:=by rw[c] at d;omega
  have o:C.agg [IC t.kind,IC t.id,.sl (l.map aD)]=aP r:=by
   rw[f,a,abz (by omega)];rfl
  exact yT [36] [] ⟨_,[],rfl,rfl,rfl,rfl,o⟩
theorem Ym (R:List Ty):∀t:Ty,iA t->ins R.length t=true->CallsT P 102 [.sl (R.map aD),aP t] [] (aR [] (aP (gs R t))):=cV fun t d hb c=>by
 have a:=(fu t).1 hb;refine V0 R t _ (gs R) a.1 (fun h9=>?_) (fun h9=>iO h9) fun _ x b=>d x b (a.2 x b) (cH c x b);obtain⟨x,he,_⟩:=qO c h9;obtain⟨e,f,_⟩:=bE he;exact⟨e,by rw[kM h9,f];rfl⟩
theorem eS.imp {Lin:List TO}{L:TL}{v:C}{R R':List TO->C->Prop}(h:eS Lin L v R) (n:∀Mo c,R Mo c->R' Mo c):eS Lin L v R':=by
 obtain⟨b,ko,h⟩:=h;refine⟨b,ko,GW.frzK_imp h ?_⟩;rintro L ρ o ⟨L',c,m,Mo,e,l,f,a,j,d⟩;exact⟨L',c,m,Mo,e,l,f,a,j,fun k=>n _ _ (d k)⟩
def Ic:List TO->C->Prop:=fun Mo v=>Mo=[]/\∃l,v=.sl l
theorem V1 {F:List Int}{i:Nat}{z:Int}:(uh F).set i [IC z]=uh (F.set i z):=by rw[uh,uh,List.map_set]
structure Lst (s:List Ty):Prop where
 fr:∀k:Nat,k<s.length->∃t,CallsT P 99 [.sl (s.map aD),aP (vr k)] [] (aR [] (aP t))/\(t.kind=9->0<=t.id/\t.id<s.length)
 ap:∀R:List Ty,R.length=s.length->∀k:Nat,k<s.length->∃r z,CallsT P 103 [.sl (s.map aD),aP (vr k)] [] (aR [] (aP r))/\CallsT P 102 [.sl (R.map aD),aP r] [] (aR [] (aP z))
theorem Yn (s:List Ty) (X:Lst s) (hl:s.length<=2 ^ 29):CallsT P 94 [.sl (s.map aD)] [] Ic:=by
 obtain⟨fr,ap⟩:=X;have p:=PZ;have d:(s.map aD).length=s.length:=xo _;have v:List.replicate (((s.map aD).length:Int)).toNat [C.int .i64 0]=uh (List.replicate s.length 0):=by rw[d,uh,abV];rfl
 have q:∀l:List Int,(uh l).length=l.length:=fun l=>xo _;refine af Tryz.func94 MF rfl fun hw _=>?_;refine oQ.mk (by omega) (aa7 _) (by omega) (by simp only[maxLen];omega) ?_;refine Fit.aae (by omega) (by omega) ?_;refine vY.mk ⟨Nat×List Int,(s.length,List.replicate s.length 0),fun x=>x.1<=s.length/\x.2.length=s.length,[4,3],fun x=>[IC ((x.1:Int)-1),.rw 13],fun x=>[(13,.row 3 1 (uh x.2))],fun x=>x.1,⟨aa2 _,abo⟩,⟨.inr (.inl ⟨vz IC (by rw[d]),rfl⟩),ai rfl,trivial⟩,⟨.inl ⟨_,rfl,.inl ⟨nN v,rfl⟩⟩,trivial⟩,fun _=>rfl,fun _=>rfl,?_⟩;rintro⟨m,F⟩ ⟨hm,o⟩ _ _;have hm:m<=s.length:=hm;have o:F.length=s.length:=o;refine ah (fun b=>?_) (fun a=>?_)
 ·have b:(m:Int)-1>=0:=b;have hk:((m:Int)-1)=((m-1:Nat):Int):=by omega
  refine qe (fr (m-1) (by omega)) fun t ht=>?_;have u:=ht.1;rw[vr,<-hk] at u;refine aF u rfl fun _=>?_;refine aF (p t) rfl fun _=>?_;refine ah (fun h9=>?_) (fun h9=>?_)
  ·have hi:=ht.2 h9;refine ck (l:=F) (k:=t.id.toNat) (by omega) fun y hy _=>?_;have n:(uh F)[t.id.toNat]?=some [IC y]:=by rw[uh,aa6,hy];rfl
   refine zV.mk hi.1 (by rw[q,o];exact hi.2) ?_;refine⟨rfl,uF n rfl ?_⟩;refine Fit.aae (by omega) (by omega) ?_;refine⟨(m-1,F.set t.id.toNat ((m:Int)-1)),⟨by show m-1<=s.length;omega,by show(F.set _ _).length=s.length;rw[abG];exact o⟩,⟨.inr (.inl ⟨vz IC (by show(m:Int)-1-1=((m-1:Nat):Int)-1;omega),rfl⟩),ai rfl,trivial⟩,⟨.inl ⟨_,rfl,.inl ⟨nN (V1 (F:=F) (i:=t.id.toNat) (z:=(m:Int)-1)),rfl⟩⟩,trivial⟩,by show m-1<m;omega⟩
  ·refine Fit.aae (by omega) (by omega) ?_;exact⟨(m-1,F),⟨by show m-1<=s.length;omega,o⟩,⟨.inr (.inl ⟨vz IC (by show(m:Int)-1-1=((m-1:Nat):Int)-1;omega),rfl⟩),ai rfl,trivial⟩,⟨.inl ⟨_,rfl,.inl ⟨rfl,rfl⟩⟩,trivial⟩,by show m-1<m;omega⟩
 refine bN s.length 7 [3,6] ([]:List Ty) (fun _=>[.rw 13,.rw 45]) (fun R=>[(13,.row 3 1 (uh F)),(45,.row 33 3 (R.map aD))]) (fun k R=>R.length=k) rfl (ai rfl) ⟨ai rfl,kK rfl rfl,trivial⟩ ⟨.inl ⟨_,rfl,.inl ⟨rfl,rfl⟩⟩,.inr ⟨rfl,33,3,rfl⟩,trivial⟩ (fun _=>rfl) (fun _=>rfl) ?_;rintro k R hk w _ _ _;have w:R.length=k:=w;have ab:(R.map aD).length=k:=by rw[xo];exact w
 refine ah (fun a=>?_) (fun b=>?_)
 ·have a:k<s.length:=by rw[d] at a;omega
  refine ck (l:=F) (k:=k) (by omega) fun y hy _=>?_;have n:(uh F)[((k:Int)).toNat]?=some [IC y]:=by rw[uh,aa6,show((k:Int)).toNat=k from rfl,hy];rfl
  refine zV.mk (by omega) (by rw[q,o];omega) ?_;refine⟨_,n,rfl,?_⟩;refine lD k rfl ab (by decide) (by omega) ?_;refine Fit.aae (by omega) (by omega) ?_;exact⟨(k+1,R++[.mk 9 y []]),⟨a,by show(R++[_]).length=k+1;rw[abA,w];rfl⟩,⟨bw,ai rfl,ai rfl,trivial⟩,⟨.inl ⟨_,rfl,.inl ⟨rfl,rfl⟩⟩,.inl ⟨_,rfl,.inl ⟨nN (vF (f:=.mk 9 y [])),rfl⟩⟩,trivial⟩,bB a⟩
 have b:¬k<s.length:=by rw[d] at b;omega
 have ad:R.length=s.length:=by omega
 refine bN s.length 9 [8] ([]:List Ty) (fun _=>[.rw 70]) (fun l=>[(70,.row 33 3 (l.map aD))]) (fun k l=>l.length=k) rfl (ai rfl) ⟨kK rfl rfl,trivial⟩ ⟨.inr ⟨rfl,33,3,rfl⟩,trivial⟩ (fun _=>rfl) (fun _=>rfl) ?_;rintro j l hj e _ _ _;have e:l.length=j:=e;have h:(l.map aD).length=j:=by rw[xo];exact e
 refine ah (fun a=>?_) (fun b=>?_)
 ·have a:j<s.length:=by rw[d] at a;omega
  refine qe (ap R ad j a) fun r hr=>qe hr fun z hz=>?_;refine aF hz.1 rfl fun _=>?_;refine aF hz.2 rfl fun _=>?_;refine aF (p z) rfl fun _=>?_;refine ah (fun h9=>ah (fun ac=>?_) (fun ac=>?_)) (fun h9=>?_)
  ·refine lD j rfl h (by decide) (by omega) ?_;refine Fit.aae (by omega) (by omega) ?_;exact⟨(j+1,l++[.mk 0 0 []]),⟨a,by show(l++[_]).length=j+1;rw[abA,e];rfl⟩,⟨bw,ai rfl,trivial⟩,⟨.inl ⟨_,rfl,.inl ⟨nN (vF (f:=.mk 0 0 [])),rfl⟩⟩,trivial⟩,bB a⟩
  all_goals
   refine lD j rfl h (by decide) (by omega) ?_;refine Fit.aae (by omega) (by omega) ?_;exact⟨(j+1,l++[z]),⟨a,by show(l++[_]).length=j+1;rw[abA,e];rfl⟩,⟨bw,ai rfl,trivial⟩,⟨.inl ⟨_,rfl,.inl ⟨nN (vF (f:=z)),rfl⟩⟩,trivial⟩,bB a⟩
 ·exact eS.imp (yT (Lo:=[]) (x:=.sl (l.map aD)) [70] [] ⟨_,[],rfl,rfl,rfl,rfl,rfl⟩) fun Mo c ⟨e1,e2⟩=>⟨e1,_,e2⟩
theorem t94 {s:List Ty}(g:Good s) (hB:∀x∈s,iA x) (d:s.length<=2 ^ 29):CallsT P 94 [.sl (s.map aD)] [] Ic:=by
 refine Yn s ⟨fun k a=>?_,fun R c k a=>?_⟩ d
 ·obtain⟨n,t,h⟩:=(g.fin k a).front;refine⟨t,VX s n (vr k) t h,fun h9=>?_⟩;have:=fC (g.ins.front h (mW a)) h9;exact⟨this.1,this.2.1⟩
 ·obtain⟨n,r,h⟩:=(g.fin k a).ap;have b:=(Gj g.ins h (mW a)).2;exact⟨r,_,TV hB g.ins n (vr k) r (CK k) (mW a) h,Ym R r (xD hB n _ _ (CK k) h) (by rw[c];exact b)⟩
abbrev zS (n f:Int) (t r:Ty):Prop:=CallsT P 80 [aP t,IC n,IC f] [] (aR [] (.tup [aP r,.bool true]))
theorem Yo (n f:Int) (t:Ty) (hf:0<=f/\f<=100) (c:n<=100) (h:¬(t.kind<1\/5<t.kind\/(t.kind=5/\(t.id<0\/n<=t.id\/0<t.args.length)))) (h5:t.kind=5):zS n f t (.mk 9 (f+t.id) []):=by
 have a:(t.args.map aD).length=t.args.length:=xo _;refine af Tryz.func80 Hf rfl fun b _=>?_;refine ah (fun h1=>vv (Or.inl h1) h) (fun h1=>ah (fun h2=>vv (Or.inr (Or.inl h2)) h) (fun h2=>ah (fun h3=>ah (fun h4=>vv (Or.inr (Or.inr ⟨h5,Or.inl h4⟩)) h) (fun h4=>ah (fun h6=>vv (Or.inr (Or.inr ⟨h5,Or.inr (Or.inl h6)⟩)) h) (fun h6=>?_))) (fun h3=>vv h5 h3)));refine ah (fun h7=>vv (Or.inr (Or.inr ⟨h5,Or.inr (Or.inr (by omega))⟩)) h) (fun h7=>?_);refine ah (fun _=>?_) (fun q=>vv h5 q);refine Fit.aae (by omega) (by omega) ?_;exact ay rfl rfl
theorem Yp (n f:Int) (t:Ty) (g:Ty->Ty) (hb:t.args.length<=2 ^ 30) (h:¬(t.kind<1\/5<t.kind\/(t.kind=5/\(t.id<0\/n<=t.id\/0<t.args.length)))) (h5:¬t.kind=5) (l:∀x∈t.args,zS n f x (g x)) :
  zS n f t (.mk t.kind t.id (t.args.map g)):=by
 have c:(t.args.map aD).length=t.args.length:=xo _;refine af Tryz.func80 Hf rfl fun r _=>?_;refine ah (fun h1=>vv (Or.inl h1) h) (fun h1=>ah (fun h2=>vv (Or.inr (Or.inl h2)) h) (fun h2=>ah (fun h3=>vv h3 h5) (fun h3=>?_)));refine ah (fun q=>vv q h5) (fun _=>?_);refine bN t.args.length 9 [] ([]:List Ty) (fun _=>[]) (fun s'=>[(6,.box 33 [IC 0,IC 0,.nils]),(8,.box 33 [IC t.kind,IC t.id,.rw 81]),(81,.row 33 3 (s'.map aD))]) (fun j s'=>s'=(t.args.take j).map g) (by simp) (ai rfl) trivial
  ⟨.inl ⟨_,rfl,.inl ⟨rfl,rfl⟩⟩,.inl ⟨_,rfl,.inr ⟨33,_,_,rfl,rfl,_,_,rfl,ai rfl,_,_,rfl,ai rfl,_,_,rfl,kK rfl rfl,rfl⟩⟩,.inr ⟨rfl,33,3,rfl⟩,trivial⟩ (fun _=>rfl) (fun _=>rfl) ?_
 rintro j s' p a _ _ _;have a:s'=(t.args.take j).map g:=a;have o:(s'.map aD).length=j:=by rw[a,xo,xo,abF];omega
 refine ah (fun b=>?_) (fun d=>?_)
 ·have b:j<t.args.length:=by rw[c] at b;omega
  refine ck b fun x k e=>?_;refine cA k ?_;refine aF (l x e) rfl fun _=>?_;refine lD j rfl o (by decide) (by omega) ?_;refine Fit.aae (by omega) (by omega) ?_;refine⟨(j+1,s'++[g x]),⟨b,?_⟩,⟨bw,trivial⟩,⟨.inl ⟨_,rfl,.inl ⟨rfl,rfl⟩⟩,.inl ⟨_,rfl,.inl ⟨rfl,rfl⟩⟩,.inl ⟨_,rfl,.inl ⟨nN vF,rfl⟩⟩,trivial⟩,bB b⟩;show s'++[g x]=(t.args.take (j+1)).map _;rw[fL k,a,abx];rfl
 ·have d:¬j<t.args.length:=by rw[c] at d;omega
  have m:C.agg [IC t.kind,IC t.id,.sl (s'.map aD)]=aP (.mk t.kind t.id (t.args.map g)):=by
   rw[a,abz (by omega)];rfl
  refine yT [81] [] ⟨_,[],rfl,rfl,rfl,rfl,?_⟩;exact vz (fun z=>C.tup [z,.bool true]) m
theorem Zb (n f:Int) (hf:0<=f/\f<=100) (d:n<=100):∀t r:Ty,iA t->fresh n f t=some r->zS n f t r:=cV (p:=fun t=>∀r,iA t->fresh n f t=some r->zS n f t r) fun t e r hb h=>by
 have hb:=(fu t).1 hb;rw[lG] at h;split at h
 ·cases h
 rename_i c;split at h
 ·rename_i h5;injection h with h
  rw[<-h];exact Yo n f t hf d c h5
 rename_i h5;cases a:j7 (fresh n f) t.args with
 | none=>rw[a] at h;cases h
 | some l =>
  rw[a] at h;injection h with h
  obtain⟨h1,h2⟩:=gJ a;have:=Yp n f t (fun x=>(fresh n f x).getD x) hb.1 c h5 fun x b=>e x b _ (hb.2 x b) (h1 x b);rw[<-h,h2];exact this
def MG (c:Prop):List TO->C->Prop:=fun Mo v=>Mo=[]/\∃l e,v=.tup [.sl l,IC e]/\(c->e=0)
theorem CZ {L:TL}{Lin:List TO}{v:C}{c:Prop}(l:List (List C)) (e:Int) (hb:aJ Lin (List.range' 1000 Lin.length) []=true) (h:v.aao.ren (bh [] 1000)=.tup [.sl l,IC e]) (a:c->e=0):eS Lin L v (MG c) :=
 ⟨[],[],L,v,v,[],rfl,.inl ⟨rfl,rfl⟩,rfl,rfl,hb,fun _=>⟨rfl,l,e,h,a⟩⟩
theorem QE {L:TL}{ρ:aG}{f:Nat}{args a:List C}{K:TL->aG->C->Prop}(h:CallsT P f a [] Ic) (b:(args.map fun c=>c.aaj.ren (bh [] 1000))=a) (k:∀l,K L ρ ((C.sl l).ren (aN [])).slt):kX P f args L ρ K:=by
 subst b;exact .mk ⟨[],[],[],L,[],_,.inl rfl,rfl,rfl,rfl,rfl,rfl,h,fun v Mo ⟨d,l,e⟩ j _=>by subst d e;exact⟨rfl,k l⟩⟩
structure Uni (s:List Ty) (a b:Ty) (da db:Nat) (r:Option (List Ty)) (c:Prop):Prop where
 h117:CallsT P 90 [.sl (s.map aD)] [] (aR [] (.bool true))
 h21a:CallsT P 91 [aP a,IC s.length] [] (aR [] (.bool true))
 h21b:CallsT P 91 [aP b,IC s.length] [] (aR [] (.bool true))
 h18a:CallsT P 7 [aP a] [] (aR [] (IC da))
 h18b:CallsT P 7 [aP b] [] (aR [] (IC db))
 hd:da<=8/\db<=8
 h118:CallsT P 92 [.sl (s.map aD),aP a,aP b] [] (aR [] (Gv r))
 no:r=none->¬c
 ok:∀s',r=some s'->s'.length=s.length/\∃c1 c2:Prop,(c->c1/\c2)/\CallsT P 90 [.sl (s'.map aD)] [] (ME c1)/\CallsT P 93 [.sl (s'.map aD),aP a,IC ((s'.length:Int)+1),IC 8] [] (MT 8 c2)/\CallsT P 94 [.sl (s'.map aD)] [] Ic
theorem Yq (s:List Ty) (a b:Ty) (k m:Nat) (r:Option (List Ty)) (c:Prop) (X:Uni s a b k m r c) (t:s.length<=2 ^ 29):CallsT P 81 [.sl (s.map aD),aP a,aP b] [] (MG c):=by
 obtain⟨h117,h21a,h21b,h18a,h18b,hd,h118,no,ok⟩:=X;have j:(s.map aD).length=s.length:=xo _;refine af Tryz.func81 Ph rfl fun v _=>?_;refine aF h117 rfl fun _=>?_;refine aF h21a (by rw[j];rfl) fun _=>?_;refine aF h21b (by rw[j];rfl) fun _=>?_;refine aF h18a rfl fun _=>?_;refine ah (fun q=>vv (show(k:Int)>8 from q) (by omega)) (fun _=>?_);refine aF h18b rfl fun _=>?_;refine ah (fun q=>vv (show(m:Int)>8 from q) (by omega)) (fun _=>?_);refine E0 h118 rfl (fun s' e=>?_) (fun e=>CZ [] 8 rfl rfl fun q=>vv q (no e));have ok:=ok s' e;have f:(s'.map aD).length=s'.length:=xo _;refine qe ok.2 fun x h=>qe h fun w h=>?_;refine TU h.2.1 rfl fun o p=>?_;refine aq (fun q=>CZ [] 2 rfl rfl fun z=>?_) (fun q=>?_)
 ·have:=p (h.1 z).1;rw[this] at q;exact vv (show(!true)=true from q) (by decide)
 refine Fit.aae (by omega) (by omega) ?_;refine CV h.2.2.1 (by rw[f];rfl) fun d y u n=>?_;refine ah (fun q=>CZ [] 2 rfl rfl fun z=>?_) (fun q=>?_)
 ·have:=n (h.1 z).2;have q:d=0:=q;omega
 refine QE h.2.2.2 rfl fun l=>?_;exact CZ l 0 rfl rfl fun _=>rfl
def TW (m:Nat) (a b:Ty):Prop:=∃u:List Ty,u.length=m/\gs u a=gs u b/\(∀x∈u,bW x<=8)/\bW (gs u a)<=8
theorem vP {m:Nat}{u:List Ty}(h:u.length=m):Sat u (zeros m):=⟨by rw[h,zeros,abo],fun i x b a=>by
 have:=(abQ.1 (show x∈List.replicate m _ from aaU b)).2;rw[this] at a;exact vv rfl a⟩
theorem TY {u:List Ty}{k:Nat}:gs u (vr k)=(u[k]?).getD (.mk 0 0 []):=by
 rw[kM (show(vr k).kind=9 from rfl)];show(u[((k:Nat):Int).toNat]?).getD _=_;rw[show((k:Nat):Int).toNat=k by omega]
theorem MH {u:List Ty}(a:∀x∈u,bW x<=8) (k:Nat):bW (gs u (vr k))<=8:=by
 rw[TY];cases b:u[k]? with
 | none=>show bW (.mk 0 0 [])<=8;decide
 | some x=>exact a x (aaU b)
theorem ME.tt {c:Prop}(h:c) {Mo:List TO}{v:C}(q:ME c Mo v):aR [] (.bool true) Mo v:=by
 obtain⟨d,b,a,e⟩:=q;rw[e h] at a;exact⟨d,a⟩
theorem JF:∀t:Ty,j9 (fun _=>true) t=true:=cV fun t a=>by
 rw[dY];split
 ·rfl
 ·rw[aa1];exact a
theorem t81 (m:Nat) (hm:m<=100) (a b:Ty) (ia:ins m a=true) (ib:ins m b=true) (da:bW a<=8) (db:bW b<=8) (ta:iA a) (tb:iA b):CallsT P 81 [.sl ((zeros m).map aD),aP a,aP b] [] (MG (TW m a b)):=by
 have c:(zeros m).length=m:=by rw[zeros,abo]
 have g:=Gp m;have t:∀x∈zeros m,x=.mk 0 0 []:=fun x d=>(abQ.1 d).2;have s:∀x∈zeros m,x.kind=0->x=.mk 0 0 []:=fun x d _=>t x d;have ac:∀x∈zeros m,iA x:=fun x d=>by rw[t x d];exact dH rfl
 obtain⟨ρ,hR⟩:=g.aaF;have f:ins (zeros m).length a=true:=by rw[c];exact ia
 have j:ins (zeros m).length b=true:=by rw[c];exact ib
 obtain⟨n,r,h1,h2⟩:=uH _ (zeros m) g (zH _) a b f j;have an:(List.replicate m iT).length=m:=abo;have z:∀x,ins m x=true->CallsT P 91 [aP x,IC (zeros m).length] [] (aR [] (.bool true)):=fun x d=>by
  have:=YO (zeros m).length x;rw[c,d] at this;rw[c];exact this
 refine Yq (zeros m) a b (bW a) (bW b) r _ ⟨?_,z a ia,z b ib,t7 a (by omega),t7 b (by omega),⟨da,db⟩,Yj n (zeros m) a b r (by rw[c];omega) g f j h1,fun e hc=>?_,fun s' e=>?_⟩ (by rw[c];omega)
 ·refine CallsT.imp (Za (u:=List.replicate m iT) (vP an) g.ins s hR (by rw[c];omega)) fun Mo v q=>ME.tt (fun k _=>MH (fun x d=>by rw[(abQ.1 d).2];decide) k) q
 ·obtain⟨u,ul,l,hu,hd⟩:=hc;obtain⟨s',p,_⟩:=(vP ul).eqs l h1;rw[e] at p;cases p
 ·subst e;have h:=h2 s' rfl;obtain⟨ρ',o⟩:=h.good.aaF;have al:=EH s g.ins f j h1;have ae:=HT n (zeros m) a b s' ac ta tb h1;have am:s'.length=m:=by rw[h.len,c]
  have y:ins s'.length a=true:=by rw[am];exact ia
  have ao:∃u,Sat u s'/\(TW m a b->(∀k:Nat,k<s'.length->bW (gs u (vr k))<=8)/\(bW (gs u a):Int)<=8):=by
   by_cases hc:TW m a b
   ·obtain⟨u,ul,l,hu,hd⟩:=hc;obtain⟨az,p,hS⟩:=(vP ul).eqs l h1;injection p with p
    subst p;exact⟨u,hS,fun _=>⟨fun k _=>MH hu k,by omega⟩⟩
   ·obtain⟨u,hS,_⟩:=h.good.inst;exact⟨u,hS,fun q=>vv q hc⟩
  obtain⟨u,hS,hu⟩:=ao;refine⟨h.len,_,_,hu,Za hS h.good.ins al o (by omega),?_,t94 h.good ae (by omega)⟩;have:=YW hS h.good.ins o (s'.length+1) a 8 (by omega) (by omega) y (mZ (n:=s'.length) (q:=fun _=>true) (fun w w0 w1 _=>by
   rw[aa0];have:=o.lt w.toNat (by omega);rw[show((w.toNat:Nat):Int)=w by omega] at this;omega) a y (JF a))
  exact this
theorem QF (b:Nat) {L:TL}{ρ:aG}{t sz:Nat}{els:List (List C)}{c:Prop}{args a:List C}{K:TL->aG->C->Prop}{d:Option Nat}(h:CallsT P 81 a [] (MG c)) (he:vX P 81) (p:L.get b=some (.row t sz els)) (m:(args.map fun c=>(c.frz b els).aaj.ren (bh [] 1000))=a)
  (k:∀l e,(c->e=0)->K ((L.aad (C.kill b)).set b (.row t sz [])) (fun j=>(ρ j).kill b) (C.tup [.sl l,IC e])):pA P 81 args L ρ d K:=by
 subst m;exact .row _ b t sz els he p h fun v Mo ⟨f,l,e,o,n⟩ q=>by subst f o;exact⟨rfl,k l e n⟩
theorem V2:vX P 81:=⟨Tryz.f81,Tryz.func81,by kernel_rfl,by kernel_rfl⟩
theorem Yr (a b:Impl) (x y:Ty) (m:Nat) (c:Prop) (j:0<=a.params/\a.params<=4/\0<=b.params/\b.params<=4) (h1:zS a.params 0 a.type x) (h2:zS b.params a.params b.type y) (k:(m:Int)=a.params+b.params)
  (d:CallsT P 81 [.sl (List.replicate m [IC 0,IC 0,.sl []]),aP x,aP y] [] (MG c)):CallsT P 50 [zZ a,zZ b] [] (ME (a.trait=b.trait/\c)):=by
 refine af Tryz.func50 OX rfl fun h _=>?_;refine aV (fun q=>Ib false rfl rfl fun z=>vv z.1 q) (fun _=>?_);refine ah (fun q=>vv (show a.params<0 from q) (by omega)) (fun _=>?_);refine ah (fun q=>vv (show a.params>4 from q) (by omega)) (fun _=>?_);refine ah (fun q=>vv (show b.params<0 from q) (by omega)) (fun _=>?_);refine ah (fun q=>vv (show b.params>4 from q) (by omega)) (fun _=>?_);refine aF h1 rfl fun _=>?_;refine aF h2 rfl fun _=>?_;refine El (m:=(m:Int)) (by rw[IntKind.wrap_i64];omega) ?_;refine oQ.mk (by omega) (aa7 _) (by omega) (by simp only[maxLen];omega) ?_;refine QF 66 d V2 rfl rfl fun l e f=>?_;exact Ib (decide (e=0)) rfl rfl fun z=>aaP (f z.2)
theorem t50 {p:Prog}{a b:Impl}(m:IV p a) (hb:IV p b) (k:iA a.type) (j:iA b.type):CallsT P 50 [zZ a,zZ b] [] (ME (a.trait=b.trait/\comm a b)):=by
 obtain⟨x,q⟩:=pR (f:=0) a.type m.fm m.sto;obtain⟨y,l⟩:=pR (f:=a.params) b.type hb.fm hb.sto;have a0:=m.pos;have b0:=hb.pos;obtain⟨r,an⟩:=rK a.type _ q k;obtain⟨t,ao⟩:=rK b.type _ l j;have d1:=m.dp;have d2:=hb.dp;have e:=t81 (a.params+b.params).toNat (by omega) x y (by rw[show(((a.params+b.params).toNat:Nat):Int)=a.params+b.params by omega];exact rM (aa7 0) (by omega) a.type x q) (by rw[show(((a.params+b.params).toNat:Nat):Int)=a.params+b.params by omega];exact rM a0.1 (aa7 _) b.type y l) (by omega) (by omega) r t;have h:(zeros (a.params+b.params).toNat).map aD=List.replicate (a.params+b.params).toNat [IC 0,IC 0,.sl []]:=by rw[zeros,abV];rfl
 rw[h] at e;have:=Yr a b x y (a.params+b.params).toNat _ ⟨a0.1,a0.2,b0.1,b0.2⟩ (Zb a.params 0 (by omega) (by omega) a.type x k q) (Zb b.params a.params (by omega) (by omega) b.type y j l) (by omega) e;refine CallsT.imp this ?_;rintro Mo v ⟨e1,o,e2,e3⟩;refine⟨e1,o,e2,fun hc=>e3 ⟨hc.1,?_⟩⟩;obtain⟨c,d,l1,l2,w,hd,s,aa⟩:=hc.2;have g1:=oO (n:=a.params) (f:=0) (u:=c++d) (ts:=c) (aa7 _) l1 (fun i hi=>by
  rw[abH (by simpa using hi)];simp) a.type x q
 have g2:=oO (n:=b.params) (f:=a.params) (u:=c++d) (ts:=d) a0.1 l2 (fun i hi=>by
  rw[abI (by omega)];congr 1;omega) b.type y l
 refine⟨c++d,by rw[abA];omega,by rw[g1,g2,w],fun z h=>?_,by rw[g1];exact hd⟩;rcases aaV.1 h with h | h
 ·exact s z h
 ·exact aa z h
def T9 (c:Prop):List TO->C->Prop:=fun Mo v=>Mo=[]/\∃e i k,v=.tup [IC e,IC i,IC k]/\(e=0->c)
theorem C0 {L:TL}{Lin:List TO}{v:C}{c:Prop}(e i k:Int) (hb:aJ Lin (List.range' 1000 Lin.length) []=true) (h:v.aao.ren (bh [] 1000)=.tup [IC e,IC i,IC k]) (a:e=0->c):eS Lin L v (T9 c) :=
 ⟨[],[],L,v,v,[],rfl,.inl ⟨rfl,rfl⟩,rfl,rfl,hb,fun _=>⟨rfl,e,i,k,h,a⟩⟩
theorem QG {L:TL}{ρ:aG}{c:Prop}{f:Nat}{args a:List C}{K:TL->aG->C->Prop}(h:CallsT P f a [] (T9 c)) (d:(args.map fun c=>c.aaj.ren (bh [] 1000))=a) (k:∀e i k,(e=0->c)->K L ρ (.tup [IC e,IC i,IC k])):kX P f args L ρ K:=by
 subst d;exact .mk ⟨[],[],[],L,[],_,.inl rfl,rfl,rfl,rfl,rfl,rfl,h,fun v Mo ⟨b,e,i,j,m,l⟩ n _=>by subst b m;exact⟨rfl,k e i j l⟩⟩
structure V3 (p:Prog) (n:Nat):Prop where
 iv:∀i x,i<n->p.impls[i]?=some x->IV p x
 no:∀(i k:Nat) (x y:Impl),i<k->k<n->p.impls[i]?=some x->p.impls[k]?=some y->x.trait=y.trait->¬comm x y
theorem Zc (p:Prog) (hB:∀x∈p.impls,iA x.type):CallsT P 19 [nu p] [] (T9 (MC p)):=by
 have h31:=t48 p;have w:=t49 p;have ab:∀y∈p.impls,∀z∈p.impls,IV p y->IV p z->CallsT P 50 [zZ y,zZ z] [] (ME (y.trait=z.trait/\comm y z)):=fun y d z b v1 v2=>t50 v1 v2 (hB y d) (hB z b);have aa:=fun x=>@kN p x;generalize ij p=tv at h31 aa;generalize BO p=ob at w;have ei:(p.impls.map dN).length=p.impls.length:=xo _;refine af Tryz.func19 Ov rfl fun hw _=>?_;have an:p.impls.length<=9223372036854775807:=by have:=gS hw.1.2.2.2.2.2.1;rwa [ei] at this
 refine bN p.impls.length 5 [] () (fun _=>[]) (fun _=>[]) (fun k _=>V3 p k) ⟨fun i x h=>vv h (abv _),fun i k x y _ h=>vv h (abv _)⟩ (ai rfl) trivial trivial (fun _=>rfl) (fun _=>rfl) ?_;rintro k _ hk a _ _ ao;have a:V3 p k:=a;refine ah (fun f=>?_) (fun ad=>?_)
 ·have f:k<p.impls.length:=by rw[ei] at f;omega
  refine ck f fun x t ae=>?_;have v:p.impls[((k:Int)).toNat]?=some x:=t;refine rZ (by omega) v ?_;refine bG (h31 x) rfl fun _=>?_;refine aq (fun q=>C0 1 k k rfl rfl fun z=>vv z (by decide)) (fun q1=>?_);have ac:IV p x:=aa x (by simpa using q1);refine rZ (by omega) v ?_;refine bG (w x) rfl fun _=>?_;refine aq (fun q=>C0 9 k k rfl rfl fun z=>vv z (by decide)) (fun q2=>?_);refine bN k 6 [] () (fun _=>[]) (fun _=>[]) (fun m _=>∀(i:Nat) (y:Impl),i<m->p.impls[i]?=some y->y.trait=x.trait->¬comm y x) (fun i y h=>vv h (abv _)) (ai rfl) trivial trivial (fun _=>rfl) (fun _=>rfl) ?_;rintro m _ hm r _ _ _;have r:∀(i:Nat) (y:Impl),i<m->p.impls[i]?=some y->y.trait=x.trait->¬comm y x:=r;refine ah (fun n=>?_) (fun az=>?_)
  ·have n:m<k:=by omega
   refine ck (l:=p.impls) (k:=m) (by omega) fun y d ag=>?_;refine rZ (by omega) (show p.impls[((m:Int)).toNat]?=some y from d) ?_;refine rZ (by omega) v ?_;refine QC (ab y ag x ae (a.iv m y n d) ac) rfl fun o ho=>?_;refine aq (fun q=>C0 10 m k rfl rfl fun z=>vv z (by decide)) (fun q=>?_);refine Fit.aae (by omega) (by omega) ?_;refine⟨(m+1,()),⟨n,fun i z hi b c s=>?_⟩,⟨bw,trivial⟩,trivial,bB n⟩
   by_cases e:i=m
   ·subst e;rw[d] at b;injection b with b
    subst b;have:=ho ⟨c,s⟩;rw[show o=false from q] at this;cases this
   ·exact r i z (by have:i<m+1:=hi;omega) b c s
  ·refine Fit.aae (by omega) (by omega) ?_;have ar:m=k:=by omega
   refine⟨(k+1,()),⟨f,⟨fun i z hi b=>?_,fun i j z y u hj b d c s=>?_⟩⟩,⟨bw,trivial⟩,trivial,bB f⟩
   ·have hi:i<k+1:=hi
    by_cases e:i=k
    ·subst e;rw[t] at b;injection b with b
     exact b▸ac
    ·exact a.iv i z (by omega) b
   ·have hj:j<k+1:=hj
    by_cases e:j=k
    ·subst e;rw[t] at d;injection d with d
     subst d;exact r i z (by omega) b c s
    ·exact a.no i j z y u (by omega) b d c s
 ·have ad:¬k<p.impls.length:=by rw[ei] at ad;omega
  refine C0 0 0 0 rfl rfl fun _=>⟨fun x t=>?_,fun i j x y u t d c s=>?_⟩
  ·obtain⟨i,hi⟩:=List.getElem?_of_mem t;have:=(aaT.1 hi).1;exact a.iv i x (by omega) hi
  ·have:=(aaT.1 d).1;exact a.no i j x y u (by omega) t d c s
theorem t5 (p:Prog) (a:List aT) (hB:∀x∈p.impls,iA x.type):CallsT P 5 [nu p,.sl (a.map aW)] [] (fun Mo v=>Mo=[]/\∃b:Bool,v=.bool b/\(b=true->MC p/\wA p a=true)):=by
 have c:=Zc p hB;have h30:=t20 p a;generalize wA p a=F at h30 ⊢;have key:∀(b:Bool) {L:TL}{Lin:List TO}{v:C},aJ Lin (List.range' 1000 Lin.length) []=true->v.aao.ren (bh [] 1000)=.bool b->(b=true->MC p/\F=true)->eS Lin L v (fun Mo v=>Mo=[]/\∃b:Bool,v=.bool b/\(b=true->MC p/\F=true)):=fun b {L Lin v} hb e h =>
  ⟨[],[],L,v,v,[],rfl,.inl ⟨rfl,rfl⟩,rfl,rfl,hb,fun _=>⟨rfl,b,e,h⟩⟩
 refine af Tryz.func5 SH rfl fun f _=>?_;refine QG c rfl fun e i k d=>?_;refine aF h30 rfl fun _=>?_;refine aq (fun q=>?_) (fun q=>?_)
 ·exact key (decide (e=0)) rfl rfl fun z=>⟨d (abu z),q⟩
 ·exact key false rfl rfl fun z=>by cases z
mutual
/-- how many proofs are counted up to a number -/
def rQ:eI->Int->Int
 | .mk _ _ _ l,m=>iP l m 1
def iP:List eI->Int->Int->Int
 | [],_,n=>n
 | x::l,m,n=>if n<=m then iP l m (n+rQ x (m-n)) else n
end
mutual
theorem C2:∀(t:eI) (m:Int),0<=m->1<=rQ t m/\rQ t m<=m+1
 | .mk _ _ _ l,m,h=>by
  rw[rQ];exact E4 l m 1 h (by omega) (by omega)
theorem E4:∀(l:List eI) (m n:Int),0<=m->1<=n->n<=m+1->1<=iP l m n/\iP l m n<=m+1
 | [],m,n,_,h1,h2=>by rw[iP];exact⟨h1,h2⟩
 | x::l,m,n,h0,h1,h2=>by
  rw[iP];split
  ·have:=C2 x (m-n) (by omega);exact E4 l m _ h0 (by omega) (by omega)
  ·exact⟨h1,h2⟩
end
theorem Gw {l:List eI}{m n:Int}(h:¬n<=m):iP l m n=n:=by
 cases l with
 | nil=>rw[iP]
 | cons x l=>rw[iP,o5 h]
theorem E5:∀(l:List eI) (m n:Int),0<=m->n<=iP l m n
 | [],m,n,_=>by rw[iP];exact aa7 _
 | x::l,m,n,h=>by
  rw[iP];split
  ·have:=C2 x (m-n) (by omega);have:=E5 l m (n+rQ x (m-n)) h;omega
  ·exact aa7 _
mutual
theorem Ie:∀(t:eI) (m:Int),0<=m->rQ t m<=m->(wP t:Int)=rQ t m
 | .mk _ _ _ l,m,h0,h=>by
  rw[rQ] at h ⊢;have:=E6 l m 1 h0 h;rw[wP];omega
theorem E6:∀(l:List eI) (m n:Int),0<=m->iP l m n<=m->n+(H9 l:Int)=iP l m n
 | [],m,n,_,_=>by rw[iP,H9];omega
 | x::l,m,n,h0,h=>by
  rw[iP] at h ⊢;split at h
  ·rename_i hn;rw[fo hn];have h1:=E5 l m (n+rQ x (m-n)) h0;have h2:=Ie x (m-n) (by omega) (by omega);have h3:=E6 l m (n+rQ x (m-n)) h0 h;rw[H9];omega
  ·omega
end
theorem QH (x:eI) (m:Int):rQ x m=iP x.proofs m 1:=by cases x;rfl
theorem Yt:∀(a:eI) (m:Int),0<=m->m<=1000->CallsT P 22 [fW a,IC m] [] (aR [] (IC (rQ a m))):=vO (p:=fun a=>∀m:Int,0<=m->m<=1000->CallsT P 22 [fW a,IC m] [] (aR [] (IC (rQ a m)))) fun a v m h0 h1=>by
 have t:(a.proofs.map iB).length=a.proofs.length:=xo _;have j:=C2;rw[QH];have h:∀x r n,iP (x::r) m n=if n<=m then iP r m (n+rQ x (m-n)) else n:=fun x r n=>by rw[iP]
 generalize rQ=few' at v j h;refine af Tryz.func22 Oy rfl fun y _=>?_;have u:a.proofs.length<=9223372036854775807:=by have:=gS y.1.2.2.2.1;rwa [t] at this
 refine bN a.proofs.length 6 [5] (1:Int) (fun s=>[IC s]) (fun _=>[]) (fun k n=>iP (a.proofs.drop k) m n=iP a.proofs m 1/\1<=n/\n<=m+1) ⟨rfl,by omega,by omega⟩ (ai rfl) ⟨ai rfl,trivial⟩ trivial (fun _=>rfl) (fun _=>rfl) ?_;rintro k n hk ⟨c,aa,w⟩ _ _ _;refine ah (fun d=>?_) (fun f=>?_)
 ·have d:k<a.proofs.length:=by rw[t] at d;omega
  refine bf d fun x z q o=>?_;refine ah (fun e=>?_) (fun l=>?_)
  ·have e:n<=m:=e;refine My z ?_;refine Fit.aae (by omega) (by omega) ?_;refine aF (v x q (m-n) (by omega) (by omega)) rfl fun _=>?_;have hb:=j x (m-n) (by omega);refine Fit.aae (by omega) (by omega) ?_;refine Fit.aae (by omega) (by omega) ?_;refine⟨(k+1,n+few' x (m-n)),⟨d,?_,by omega,by omega⟩,⟨bw,ai rfl,trivial⟩,trivial,bB d⟩;rw[o,h,fo e] at c;exact c
  ·have b:=c;rw[Gw l] at b;exact ay rfl (vz IC b)
 ·have f:¬k<a.proofs.length:=by rw[t] at f;omega
  have b:=c;rw[bU f,iP] at b;exact ay rfl (vz IC b)
def wE (c:Prop):List TO->C->Prop:=fun Mo v=>Mo=[]/\∃b:Bool,v=.bool b/\(b=true->c)
theorem uS {L:TL}{Lin:List TO}{v:C}{c:Prop}(b:Bool) (hb:aJ Lin (List.range' 1000 Lin.length) []=true) (e:v.aao.ren (bh [] 1000)=.bool b) (h:b=true->c):eS Lin L v (wE c) :=
 ⟨[],[],L,v,v,[],rfl,.inl ⟨rfl,rfl⟩,rfl,rfl,hb,fun _=>⟨rfl,b,e,h⟩⟩
theorem callThen {L:TL}{ρ:aG}{c:Prop}{f:Nat}{args a:List C}{K:TL->aG->C->Prop}(h:CallsT P f a [] (wE c)) (l:(args.map fun c=>c.aaj.ren (bh [] 1000))=a)
  (k:∀b:Bool,(b=true->c)->K L ρ (.bool b)):kX P f args L ρ K:=by
 subst l;exact .mk ⟨[],[],[],L,[],_,.inl rfl,rfl,rfl,rfl,rfl,rfl,h,fun v Mo ⟨j,d,e,h1⟩ m _=>by subst j e;exact⟨rfl,k d h1⟩⟩
theorem t8:∀a:eI,CallsT P 8 [fW a] [] (wE (wP a<=400)):=vO (p:=fun a=>CallsT P 8 [fW a] [] (wE (wP a<=400))) fun a y=>by
 have t:(a.proofs.map iB).length=a.proofs.length:=xo _;have f:=Yt a 400 (by omega) (by omega);have j:=fun h=>Ie a 400 (by omega) h;have h6:=t6 a.types;have o:∀x∈a.proofs,CallsT P 8 [fW x] [] (wE True):=fun x r=>CallsT.imp (y x r) fun Mo c ⟨v,b,e,_⟩=>⟨v,b,e,fun _=>trivial⟩;generalize rQ a 400=n at f j;generalize jx a.types=S at h6;refine af Tryz.func8 SK rfl fun w _=>?_;have s:a.proofs.length<=9223372036854775807:=by have:=gS w.1.2.2.2.1;rwa [t] at this
 refine aF f rfl fun _=>?_;refine ah (fun q=>uS false rfl rfl fun z=>by cases z) (fun u=>?_);have u:¬n>400:=u;have m:wP a<=400:=by have:=j (by omega);omega
 refine aF h6 rfl fun _=>?_;refine aq (fun q=>uS false rfl rfl fun z=>by cases z) (fun q2=>?_);refine ah (fun q=>uS false rfl rfl fun z=>by cases z) (fun q3=>?_);refine bN a.proofs.length 3 [] () (fun _=>[]) (fun _=>[]) (fun _ _=>True) trivial (ai rfl) trivial trivial (fun _=>rfl) (fun _=>rfl) ?_;rintro k _ hk _ _ _ _;refine ah (fun d=>?_) (fun aa=>?_)
 ·have d:k<a.proofs.length:=by rw[t] at d;omega
  refine ck d fun x r l=>?_;refine My r ?_;refine callThen (o x l) rfl fun b _=>?_;refine aq (fun q=>uS false rfl rfl fun z=>by cases z) (fun q=>?_);refine Fit.aae (by omega) (by omega) ?_;exact⟨(k+1,()),⟨d,trivial⟩,⟨bw,trivial⟩,trivial,bB d⟩
 ·exact uS true rfl rfl fun _=>m
structure PL3 (p:Prog) (bs:List aT) (tr:Int) (t:Ty) (x y z:eI) (cF sx sy:Prop) (S:Bool) (D:Nat) (px py sm sz:Bool) (e:Int):Prop where
 h4:CallsT P 4 [] [] (aR [] (.bool true))
 h5:CallsT P 5 [nu p,.sl (bs.map aW)] [] (wE cF)
 h6:CallsT P 6 [.sl [Eo t]] [] (aR [] (.bool S))
 h7:S=true->CallsT P 7 [aP t] [] (aR [] (IC D))
 h8:CallsT P 8 [fW x] [] (wE sx)
 h8':CallsT P 8 [fW y] [] (wE sy)
 h9:CallsT P 9 [nu p,.sl (bs.map aW),IC tr,aP t,fW x] [] (aR [] (.bool px))
 h9':CallsT P 9 [nu p,.sl (bs.map aW),IC tr,aP t,fW y] [] (aR [] (.bool py))
 h10:cF->CallsT P 10 [nu p,.sl (bs.map aW),IC tr,aP t] [] (aR [] (.tup [fW z,IC e]))
 h11:CallsT P 11 [fW x,fW y] [] (aR [] (.bool sm))
 h11':CallsT P 11 [fW x,fW z] [] (aR [] (.bool sz))
 fin:cF->S=true->(D:Int)<=8->sx->sy->(px=true\/py=true->e=0)/\(px=true->bs.length=0->(py=true->sm=true)/\sz=true)
theorem t3o (p:Prog) (b:List aT) (tr:Int) (t:Ty) (x y z:eI) (v sx u:Prop) (S:Bool) (D:Nat) (px j s sz:Bool) (e:Int) (X:PL3 p b tr t x y z v sx u S D px j s sz e):CallsT P 3 [nu p,.sl (b.map aW),IC tr,aP t,fW x,fW y] [] (aR [] (.bool true)):=by
 obtain⟨h4,h5,h6,h7,h8,h8',h9,h9',h10,h11,h11',fin⟩:=X;have eb:(b.map aW).length=b.length:=xo _;refine af Tryz.func3 SG rfl fun hw _=>?_;refine aF h4 rfl fun _=>?_;refine callThen h5 rfl fun c hc=>?_;refine aq (fun q=>ay rfl rfl) (fun q1=>?_);have a:=hc (by simpa using q1);refine aF h6 rfl fun _=>?_;refine aq (fun q=>ay rfl rfl) (fun d=>?_);have hS:S=true:=by simpa using d
 refine aF (h7 hS) rfl fun _=>?_;refine ah (fun q=>ay rfl rfl) (fun m=>?_);have m:¬(D:Int)>8:=m;refine callThen h8 rfl fun b1 k=>?_;refine aq (fun q=>ay rfl rfl) (fun w=>?_);have k:=k (by simpa using w);refine callThen h8' rfl fun b2 f=>?_;refine aq (fun q=>ay rfl rfl) (fun r=>?_);have f:=f (by simpa using r);obtain⟨n,o⟩:=fin a hS (by omega) k f;cases px with
 | false =>
  cases j with
  | false =>
   refine aF h9 rfl fun _=>?_;refine aF h9' rfl fun _=>?_;refine aF (h10 a) rfl fun _=>?_;exact ay rfl rfl
  | true =>
   have l:=n (.inr rfl);subst l;refine aF h9 rfl fun _=>?_;refine aF h9' rfl fun _=>?_;refine aF (h10 a) rfl fun _=>?_;exact ay rfl rfl
 | true =>
  have l:=n (.inl rfl);subst l;cases j with
  | false =>
   refine aF h9 rfl fun _=>?_;refine aF h9' rfl fun _=>?_;refine aF (h10 a) rfl fun _=>?_;refine ah (fun q=>ay rfl rfl) (fun q=>?_);have q:¬((b.map aW).length:Int)>0:=q;have h1:=(o rfl (by omega)).2;subst h1;refine aF h11' rfl fun _=>?_;exact ay rfl rfl
  | true =>
   refine aF h9 rfl fun _=>?_;refine aF h9' rfl fun _=>?_;refine aF (h10 a) rfl fun _=>?_;refine ah (fun q=>?_) (fun q=>?_)
   ·have q:((b.map aW).length:Int)=0:=q;obtain⟨h,g2⟩:=o rfl (by omega);have h:=h rfl;subst h g2;refine aF h11 rfl fun _=>?_;refine ah (fun _=>ay rfl rfl) (fun _=>?_);refine aF h11' rfl fun _=>?_;exact ay rfl rfl
   ·have q:¬((b.map aW).length:Int)=0:=q;refine ah (fun _=>ay rfl rfl) (fun d=>?_);have d:¬((b.map aW).length:Int)>0:=d;omega
theorem t3 (h4:CallsT P 4 [] [] (aR [] (.bool true))) (p:Prog) (a:List aT) (tr:Int) (t:Ty) (x y:eI) (hB:∀x∈p.impls,iA x.type):CallsT P 3 [nu p,.sl (a.map aW),IC tr,aP t,fW x,fW y] [] (aR [] (.bool true)):=by
 refine t3o p a tr t x y (pU p a tr t).1 (MC p/\wA p a=true) (wP x<=400) (wP y<=400) (jx [t]) (bW t) (jh p a tr t x) (jh p a tr t y) (xA (x=y)) (xA (x=(pU p a tr t).1)) (pU p a tr t).2 ⟨h4,t5 p a hB,YZ t,fun h=>t7 _ (by have:=((BH h).2 t (by simp)).2;omega),t8 x,t8 y,t9 p a hB x tr t,t9 p a hB y tr t,fun h=>Yf p a tr t (by have:=(QA h.2).2.1;omega),Yb x y,Yb x _,fun⟨b,u⟩ _ hd d j=>?_⟩;have hd:bW t<=8:=by omega
 have key:∀w:eI,wP w<=400->jh p a tr t w=true->∃c,eM p a 401 [] 0 ⟨tr,t⟩=(.ok (pU p a tr t).1,c)/\(pU p a tr t).2=0:=fun w o k=>by
  obtain⟨s,s1,s2,s3⟩:=JE k;have:=EZ b a s 401 [] 0 ⟨tr,t⟩ hd (aa7 _) (by omega) s2 s3 (fun h n=>by cases n);rcases this with⟨r,f,q,_⟩ | ⟨f,q,l⟩
  ·rw[QB q];exact⟨f,q,rfl⟩
  ·exact vv (by omega) l
 refine⟨fun h=>?_,fun h hb=>?_⟩
 ·rcases h with h | h
  ·obtain⟨_,_,e⟩:=key x d h;exact e
  ·obtain⟨_,_,e⟩:=key y j h;exact e
 ·have hb:a=[]:=List.length_eq_zero_iff.1 hb;subst hb;refine⟨fun h2=>lY.2 (Ia b x y tr t hd h h2),?_⟩;obtain⟨c,m,_⟩:=key x d h;exact lY.2 (Ia b x _ tr t hd h (wD p [] b.iv 401 [] 0 ⟨tr,t⟩ _ c m))
def MJ (h g:cK):Bool:=decide (h.tr=g.tr)&&eqB h.t g.t
theorem QJ (h g:cK):gX h g=MJ h g:=by rw[gX,MJ,CH]
def zU (p:Prog) (a:List aT):Nat->List cK->Int->cK->rP
 | 0,_,c,_=>(.error 2,c+1)
 | n+1,d,c,g=>if c+1>400 then(.error 2,c+1) else if(d.any fun h=>MJ h g)=true then(.error 15,c+1) else
  if bL (m9 g) a 0>=0 then(.ok (.mk true (bL (m9 g) a 0) [] []),c+1) else
  match oN g p.impls 0 with
  | none=>(.error 9,c+1)
  | some (k,x,ts)=>match iZ (zU p a n (d++[g])) (x.bounds.map (mg ts)) (c+1) [] with
   | (.ok ps,b)=>(.ok (.mk false k ts ps),b)
   | (.error e,b)=>(.error e,b)
theorem C3 (p:Prog) (a:List aT):∀n,eM p a n=zU p a n
 | 0=>rfl
 | n+1=>by
  funext ab c g
  rw[eM,zU,C3 p a n];simp only[QJ];rfl
theorem Ig {p:Prog}{a:List aT}{tr:Int}{t:Ty}{r:eI}(h:(match(zU p a 401 [] 0 ⟨tr,t⟩).1 with | .ok r=>some r | .error _=>none)=some r):pU p a tr t=(r,0):=by
 unfold pU;rw[C3];cases b:(zU p a 401 [] 0 ⟨tr,t⟩).1 with
 | ok c=>rw[b] at h;injection h with h;subst h;rfl
 | error e=>rw[b] at h;cases h
theorem MK {p:Prog}{a:List aT}{tr:Int}{t:Ty}{e:Int}(h:(match(zU p a 401 [] 0 ⟨tr,t⟩).1 with | .ok _=>none | .error e=>some e)=some e):pU p a tr t=(Gu,e):=by
 unfold pU;rw[C3];cases b:(zU p a 401 [] 0 ⟨tr,t⟩).1 with
 | ok c=>rw[b] at h;cases h
 | error d=>rw[b] at h;injection h with h;subst h;rfl
def i0:Impl:=⟨0,0,0,[],iT,0⟩
def i1:Impl:=⟨0,0,1,[⟨0,0⟩],bx (.mk 5 0 []),0⟩
def i2:Impl:=⟨0,0,0,[],bx iT,0⟩
def i3:Impl:=⟨0,1,0,[],.mk 4 0 [iT],0⟩
def pY (l:List Impl):Prog:=⟨[⟨#[109]⟩],[],[],[⟨#[116]⟩],[0],l,[],0⟩
theorem s1:pU (pY [i0,i1]) [] 0 (bx (bx iT))=(.mk false 1 [bx iT] [.mk false 1 [iT] [.mk false 0 [] []]],0):=Ig rfl
theorem s2:pU (pY [i0,i1]) [] 0 (.mk 4 0 [iT])=(Gu,9):=MK rfl
theorem s3:pU (pY [i0,i1]) [⟨2,0⟩] 0 (bx (.mk 5 2 []))=(.mk false 1 [.mk 5 2 []] [.mk true 0 [] []],0):=Ig rfl
theorem v0 (l:List Impl):ij (pY l) i0=true:=rfl
theorem v1 (l:List Impl):ij (pY l) i1=true:=rfl
theorem v2 (l:List Impl):ij (pY l) i2=true:=rfl
theorem v3 (l:List Impl):ij (pY l) i3=true:=rfl
theorem Wq:Ap i0 i1=false:=by
 refine(ig fun h=>?_).symm;rw[CX (kN (v0 [])) (kN (v1 [])) (dH rfl) (dH rfl)] at h;obtain⟨_,a,b,_,_,h,_⟩:=h;have:=vz Ty.kind h;rw[subst_eq,subst_eq,o5 (by intro q;exact vv q.1 (by decide)),o5 (by intro q;exact vv q.1 (by decide))] at this;exact vv (show(1:Int)=3 from this) (by decide)
theorem o02:Ap i0 i2=false:=by
 refine(ig fun h=>?_).symm;rw[CX (kN (v0 [])) (kN (v2 [])) (dH rfl) (dH rfl)] at h;obtain⟨_,a,b,_,_,h,_⟩:=h;have:=vz Ty.kind h;rw[subst_eq,subst_eq,o5 (by intro q;exact vv q.1 (by decide)),o5 (by intro q;exact vv q.1 (by decide))] at this;exact vv (show(1:Int)=3 from this) (by decide)
theorem Zd:Ap i1 i2=true:=by
 refine(rF ?_).symm;rw[CX (kN (v1 [])) (kN (v2 [])) (dH rfl) (dH rfl)];exact⟨rfl,[iT],[],rfl,rfl,rfl,by decide,fun x a=>by rw[abK.1 a];decide,fun x a=>by cases a⟩
theorem c01:EM (pY [i0,i1])=(0,0,0):=by
 have h1:bL (fun y=>Ap y i1) [i0] 0=-1:=by
  show(if Ap i0 i1=true then(0:Int) else bL _ [] _)=-1;rw[Wq];rfl
 show qg (pY [i0,i1]) [i0,i1] 0=_;rw[qg,o5 (by rw[v0];simp),o5 (by decide),o5 (by decide),qg,o5 (by rw[v1];simp),o5 (by decide)];rw[show(pY [i0,i1]).impls.take (0+1)=[i0] from rfl,h1,o5 (by decide)];rfl
theorem Yw:EM (pY [i0,i1,i2])=(10,1,2):=by
 have h1:bL (fun y=>Ap y i1) [i0] 0=-1:=by
  show(if Ap i0 i1=true then(0:Int) else bL _ [] _)=-1;rw[Wq];rfl
 have h2:bL (fun y=>Ap y i2) [i0,i1] 0=1:=by
  show(if Ap i0 i2=true then(0:Int) else(if Ap i1 i2=true then _ else bL _ [] _))=1;rw[o02,Zd];rfl
 show qg (pY [i0,i1,i2]) [i0,i1,i2] 0=_;rw[qg,o5 (by rw[v0];simp),o5 (by decide),o5 (by decide),qg,o5 (by rw[v1];simp),o5 (by decide)];rw[show(pY [i0,i1,i2]).impls.take (0+1)=[i0] from rfl,h1,o5 (by decide),qg,o5 (by rw[v2];simp),o5 (by decide)];rw[show(pY [i0,i1,i2]).impls.take (0+1+1)=[i0,i1] from rfl,h2,fo (by decide)];rfl
theorem Yx:EM (pY [i0,i1,i3])=(9,2,2):=by
 have h1:bL (fun y=>Ap y i1) [i0] 0=-1:=by
  show(if Ap i0 i1=true then(0:Int) else bL _ [] _)=-1;rw[Wq];rfl
 show qg (pY [i0,i1,i3]) [i0,i1,i3] 0=_;rw[qg,o5 (by rw[v0];simp),o5 (by decide),o5 (by decide),qg,o5 (by rw[v1];simp),o5 (by decide)];rw[show(pY [i0,i1,i3]).impls.take (0+1)=[i0] from rfl,h1,o5 (by decide),qg,o5 (by rw[v3];simp),fo (by decide)];rfl
theorem t12:CallsT P 12 [] [] (aR [] (nu (pY [i0,i1]))):=by
 refine af Tryz.func12 Om rfl fun a _=>?_;refine aF Uf rfl fun _=>?_;refine aF (Wm 0) rfl fun _=>?_;refine aF (SZ 3 (.mk 5 0 [])) rfl fun _=>?_;exact ay rfl rfl
theorem Yy:CallsT P 12 [] [] (aR [.row 57 8 [dN i0,dN i1]] (.agg [.sl [[.str ⟨#[109]⟩]],.sl [],.sl [],.sl [[.str ⟨#[116]⟩]],.sl [[IC 0]],.rw 1000,.sl [],IC 0])):=by
 refine af Tryz.func12 MI rfl fun a _=>?_;refine aF Uf rfl fun _=>?_;refine aF (Wm 0) rfl fun _=>?_;refine aF (SZ 3 (.mk 5 0 [])) rfl fun _=>?_;exact bP [11] rfl rfl rfl rfl
theorem Yz:CallsT P 10 [nu (pY [i0,i1]),.sl [],IC 0,aP (bx (bx iT))] [] (aR [] (.tup [.agg [.bool false,IC 1,.sl [aD (bx iT)],.sl [iB (.mk false 1 [iT] [.mk false 0 [] []])]],IC 0])):=by
 have:=Wp (pY [i0,i1]) [] 0 (bx (bx iT)) (by decide);rw[s1] at this;exact this
theorem YA:CallsT P 10 [nu (pY [i0,i1]),.sl [],IC 0,aP (.mk 4 0 [iT])] [] (aR [] (.tup [.agg [.bool false,IC 0,.sl [],.sl []],IC 9])):=by
 have:=Wp (pY [i0,i1]) [] 0 (.mk 4 0 [iT]) (by decide);rw[s2] at this;exact this
theorem YB:CallsT P 10 [nu (pY [i0,i1]),.sl [[IC 2,IC 0]],IC 0,aP (bx (.mk 5 2 []))] [] (aR [] (.tup [.agg [.bool false,IC 1,.sl [aD (.mk 5 2 [])],.sl [iB (.mk true 0 [] [])]],IC 0])):=by
 have:=Wp (pY [i0,i1]) [⟨2,0⟩] 0 (bx (.mk 5 2 [])) (by decide);rw[s3] at this;exact this
theorem Wr {l:List Impl}(h:∀x∈l,x=i0\/x=i1\/x=i2\/x=i3):∀x∈l,iA x.type/\bW x.type<=2 ^ 40:=fun x a=>by
 rcases h x a with rfl | rfl | rfl | rfl<;>exact⟨dH rfl,gW rfl⟩
theorem YC:CallsT P 16 [nu (pY [i0,i1])] [] (aR [] (.tup [IC 0,IC 0,IC 0])):=by
 have:=t16 (pY [i0,i1]) (Wr (l:=[i0,i1]) fun x a=>by simp at a;rcases a with rfl | rfl<;>simp);rw[c01] at this;exact this
theorem YD:CallsT P 16 [nu (pY [i0,i1,i2])] [] (aR [] (.tup [IC 10,IC 1,IC 2])):=by
 have:=t16 (pY [i0,i1,i2]) (Wr (l:=[i0,i1,i2]) fun x a=>by simp at a;rcases a with rfl | rfl | rfl<;>simp);rw[Yw] at this;exact this
theorem YE:CallsT P 16 [nu (pY [i0,i1,i3])] [] (aR [] (.tup [IC 9,IC 2,IC 2])):=by
 have:=t16 (pY [i0,i1,i3]) (Wr (l:=[i0,i1,i3]) fun x a=>by simp at a;rcases a with rfl | rfl | rfl<;>simp);rw[Yx] at this;exact this
theorem RX:vX P 16:=⟨Tryz.f16,Tryz.func16,by kernel_rfl,by kernel_rfl⟩
theorem RY {a b c:Int}{F F':aA}{L L':Loc}{v:Value}(h:Rel F L (.tup [IC a,IC b,IC c]) v):Rel F' L' (.tup [IC a,IC b,IC c]) v:=by
 simp only[Rel,aB] at h ⊢;exact h
abbrev Ze:C:=.agg [.sl [[.str ⟨#[109]⟩]],.sl [],.sl [],.sl [[.str ⟨#[116]⟩]],.sl [[IC 0]],.rw 1000,.sl [],IC 0]
theorem YF:iw P 16 [Ze] [.row 57 8 [dN i0,dN i1,dN i2]] (aR [.row 57 8 [dN i0,dN i1,dN i2]] (.tup [IC 10,IC 1,IC 2])):=CallsT.aaI YD RX RY
theorem YG:iw P 16 [Ze] [.row 57 8 [dN i0,dN i1,dN i3]] (aR [.row 57 8 [dN i0,dN i1,dN i3]] (.tup [IC 9,IC 2,IC 2])):=CallsT.aaI YE RX RY
theorem h35 (a:eI):CallsT P 11 [fW a,fW a] [] (aR [] (.bool true)):=by
 have:=Yb a a;rw[<-rF rfl] at this;exact this
theorem YH:CallsT P 17 [zZ i1,zZ i2] [] (aR [] (.bool true)):=by
 have:=XU i1 i2 (dH rfl) (dH rfl) (gW rfl) (gW rfl);rw[Ml,show xA (Tp i1 i2)=Ap i1 i2 from rfl,Zd] at this;exact this
theorem YI:CallsT P 17 [zZ i0,zZ i1] [] (aR [] (.bool false)):=by
 have:=XU i0 i1 (dH rfl) (dH rfl) (gW rfl) (gW rfl);rw[Ml,show xA (Tp i0 i1)=Ap i0 i1 from rfl,Wq] at this;exact this
theorem h37:CallsT P 9 [nu (pY [i0,i1]),.sl [],IC 0,aP (bx iT),fW (.mk false 1 [iT] [.mk false 0 [] []])] [] (aR [] (.bool true)) :=
 t9 (pY [i0,i1]) [] (fun x a=>(Wr (l:=[i0,i1]) (fun x a=>by simp at a;rcases a with rfl | rfl<;>simp) x a).1) (.mk false 1 [iT] [.mk false 0 [] []]) 0 (bx iT)
theorem Ws:CallsT P 18 [nu (pY [i0,i1]),IC 1,aP (bx (.mk 5 0 []))] [] (aR [] (.bool true)):=YP 1 (pY [i0,i1]) (bx (.mk 5 0 [])) (gW rfl)
set_option maxRecDepth 100000 in
theorem t4:CallsT P 4 [] [] (aR [] (.bool true)):=by
 refine af Tryz.func4 QI rfl fun a _=>?_;refine aF t12 rfl fun _=>?_;refine aF Uf rfl fun _=>?_;refine aF (SZ 3 iT) rfl fun _=>?_;refine bG (SZ 3 (bx iT)) rfl fun _=>?_;refine bG Yz rfl fun _=>?_;refine bG Uf rfl fun _=>?_;refine bG (SZ 4 iT) rfl fun _=>?_;refine bG YA rfl fun _=>?_;refine bG (Wm 2) rfl fun _=>?_;refine bG (SZ 3 (.mk 5 2 [])) rfl fun _=>?_;refine bG YB rfl fun _=>?_;refine aF YC rfl fun _=>?_;refine callO [] [5000] Yy rfl rfl rfl rfl rfl fun _ _=>?_;refine lD 2 rfl rfl (by decide) (by decide) ?_;refine zK [5000] YF rfl rfl rfl rfl rfl ?_;refine bG Uf rfl fun _=>?_;refine bG (SZ 4 iT) rfl fun _=>?_;refine zV.mk (by decide) (by decide) ?_;refine⟨rfl,uF (show[dN i0,dN i1,dN i2][2]?=some (dN i2) from rfl) rfl ?_⟩;refine zK [5000] YG rfl rfl rfl rfl rfl ?_;refine aF Uf rfl fun _=>?_;refine bG (h35 (.mk false 1 [bx iT] [.mk false 1 [iT] [.mk false 0 [] []]])) rfl fun _=>?_;refine bG (Wm 2) rfl fun _=>?_;refine bG (h35 (.mk false 1 [.mk 5 2 []] [.mk true 0 [] []])) rfl fun _=>?_;refine FP (show(pY [i0,i1]).impls[1]?=some i1 from rfl) rfl rfl ?_;refine bG YH rfl fun _=>?_;refine FP (show(pY [i0,i1]).impls[0]?=some i0 from rfl) rfl rfl ?_;refine FP (show(pY [i0,i1]).impls[1]?=some i1 from rfl) rfl rfl ?_;refine bG YI rfl fun _=>?_;refine bG h37 rfl fun _=>?_;refine FP (show(pY [i0,i1]).impls[1]?=some i1 from rfl) rfl rfl ?_;refine bG Ws rfl fun _=>?_;exact ay rfl rfl
end Go.Fr.Tryz
