/- Part of the proofs of the statements of this seat. -/
import Derived.Test.YthfdbepkalpplaaTrO2G
import Derived.Test.YthfdbepkalpplaaFW3
set_option maxRecDepth 10000
set_option linter.unusedVariables false
set_option linter.unusedSimpArgs false
namespace Go.Fr.Try
open Go Go.RowKit Go.Proofs Go.Fr Go.Fr.T Go.Fr.Api
def bC (b:Bool):List C:=[.bool b]
abbrev LO (l:List Bool):List TO:=[.box 123 [.rw 1001],.row 4 1 (l.map bC)]
theorem Zu (l:List Bool) (n:Int) (h0:0<=n) (h1:n<l.length):CallsT P 106 [IC n,.own 1000 0] (LO l) (aQ (LO (l.set n.toNat true)) (.tup [])):=by
 have b:(l.map bC)[n.toNat]?=some [.bool l[n.toNat]]:=by rw[abk,aa4 (by omega)];rfl
 have a:(l.map bC).set n.toNat [.bool true]=(l.set n.toNat true).map bC:=by rw[List.map_set];rfl
 generalize l.set n.toNat true=l' at a ⊢;refine af Try.func106 LQ rfl fun c _=>?_;refine Ao.mk h0 (by rw[vz];exact h1) ?_;refine⟨rfl,u5 b rfl ?_⟩;exact bJ [1000,1001] rfl rfl (vv (fun q=>[TO.box 123 [.rw 1001],.row 4 1 q]) a) rfl
mutual
def mark:Ty->List Bool->List Bool
 | .mk k i l,o=>oV l (if k=5 then o.set i.toNat true else o)
def oV:List Ty->List Bool->List Bool
 | [],o=>o
 | t::l,o=>oV l (mark t o)
end
mutual
def z5 (n:Int):Ty->Bool
 | .mk k i l=>(if k=5 then decide (0<=i)&&decide (i<n) else true)&&Dp n l
def Dp (n:Int):List Ty->Bool
 | []=>true
 | t::l=>z5 n t&&Dp n l
end
theorem z6 (n:Int):∀l:List Ty,Dp n l=l.all (z5 n)
 | []=>rfl
 | t::l=>by rw[Dp,z6 n l,abu]
theorem E7 (n:Int) (t:Ty):z5 n t=((if t.kind=5 then decide (0<=t.id)&&decide (t.id<n) else true)&&t.args.all (z5 n)):=by
 cases t;rw[z5,z6];rfl
mutual
theorem ru:∀(t:Ty) (o:List Bool),(mark t o).length=o.length
 | .mk k i l,o=>by
  rw[mark,Cf];split
  ·rw[abU]
  ·rfl
theorem Cf:∀(l:List Ty) (o:List Bool),(oV l o).length=o.length
 | [],o=>by rw[oV]
 | t::l,o=>by rw[oV,Cf,ru]
end
theorem mark_eq (t:Ty) (o:List Bool):mark t o=oV t.args (if t.kind=5 then o.set t.id.toNat true else o):=by cases t;rw[mark];rfl
abbrev E8 (t:Ty) (o o':List Bool):Prop:=CallsT P 105 [aK t,.fn 106 [] [.own 1000 0]] (LO o) (aQ (LO o') (.tup []))
theorem Wh (t:Ty) (n:Nat) (mk:Ty->List Bool->List Bool) (uH:List Ty->List Bool->List Bool) (h:∀o,uH [] o=o) (f:∀x l o,uH (x::l) o=uH l (mk x o)) (m:∀x o,(mk x o).length=o.length)
  (ih:∀x∈t.args,∀o,o.length=n->E8 x o (mk x o)) (o b:List Bool) (s:b.length=n) (w:t.kind=5->CallsT P 106 [IC t.id,.own 1000 0] (LO o) (aQ (LO b) (.tup []))) (hb:¬t.kind=5->o=b):E8 t o (uH t.args b):=by
 have j:(t.args.map aD).length=t.args.length:=vz _;refine af Try.func105 LP rfl fun v _=>?_;have hl:t.args.length<=9223372036854775807:=dU v.1.2.2.1;refine ah (fun h5=>callO [1000,1001] [1000,1001] (w h5) rfl rfl rfl rfl rfl fun _ _=>bA t.args.length 16 [] b (fun _=>[]) (fun q=>[(1000,.box 123 [.rw 1001]),(1001,.row 4 1 (q.map bC))]) (fun k q=>uH (t.args.drop k) q=uH t.args b/\q.length=n) ⟨rfl,s⟩ (aj rfl) trivial
   ⟨.inl ⟨_,rfl,.inl ⟨rfl,rfl⟩⟩,.inl ⟨_,rfl,.inl ⟨rfl,rfl⟩⟩,trivial⟩ (fun _=>rfl) (fun _=>rfl) ?_) (fun h5=>bA t.args.length 16 [] b (fun _=>[]) (fun q=>[(1000,.box 123 [.rw 1001]),(1001,.row 4 1 (q.map bC))]) (fun k q=>uH (t.args.drop k) q=uH t.args b/\q.length=n) ⟨rfl,s⟩ (aj rfl) trivial
   ⟨.inl ⟨_,rfl,.inl ⟨rfl,rfl⟩⟩,.inl ⟨_,rfl,.inl ⟨vv (fun z=>TO.row 4 1 (z.map bC)) (hb h5),rfl⟩⟩,trivial⟩ (fun _=>rfl) (fun _=>rfl) ?_)
 all_goals
  rintro k q hk ⟨c,u⟩ _ _ _;refine ah (fun a=>?_) (fun d=>?_)
  ·have a:k<t.args.length:=by rw[j] at a;omega
   refine aX a fun x y p r=>?_;refine bW y ?_;refine callO [1000,1001] [1000,1001] (ih x p q u) rfl rfl rfl rfl rfl fun _ _=>?_;refine Fit.aar (by omega) (by omega) ?_;refine⟨(k+1,mk x q),⟨a,?_,by rw[m];exact u⟩,⟨aZ,trivial⟩,⟨.inl ⟨_,rfl,.inl ⟨rfl,rfl⟩⟩,.inl ⟨_,rfl,.inl ⟨rfl,rfl⟩⟩,trivial⟩,bf a⟩;have:=c;rw[r,f] at this;exact this
  ·have d:¬k<t.args.length:=by rw[j] at d;omega
   have e:q=uH t.args b:=by
    have:=c;rw[bU d,h] at this;exact this
   exact bJ [1000,1001] rfl rfl (vv (fun z=>LO z) e) rfl
theorem Zv (n:Nat):∀t:Ty,z5 n t=true->∀o,o.length=n->E8 t o (mark t o):=cL fun t d a o b=>by
 rw[E7,xo,abg] at a;rw[mark_eq];refine Wh t n mark oV (fun o=>by rw[oV]) (fun x l o=>by rw[oV]) ru (fun x c o b=>d x c (a.2 x c) o b) o _ ?_ (fun h5=>?_) (fun h5=>?_)
 ·split
  ·rw[abU];exact b
  ·exact b
 ·rw[eu h5] at a ⊢;have a:=a.1;rw[xo,abf,abf] at a;exact Zu o t.id a.1 (by rw[b];exact a.2)
 ·rw[fo h5]
def NU (K:List Bool) (v:Int):Bool:=(K[v.toNat]?).getD false
theorem Wj {K:List Bool}{z:Int}{b:Bool}{k:List C->Prop}(h0:0<=z) (a:K[z.toNat]?=some b) (h:k [.bool b]):ur (K.map bC) z 1 k :=
 ⟨_,h0,by rw[abk,a];rfl,rfl,h⟩
theorem Wk (K:List Bool) (t:Ty) (s:ins K.length t=true) (V:Bool) (q:Ty->Bool) (w:t.kind=9->V=NU K t.id) (m:t.kind≠9->t.args.all q=V) (v:t.kind≠9->∀x∈t.args,CallsT P 125 [aK x,.sl (K.map bC)] [] (aQ [] (.bool (q x)))):CallsT P 125 [aK t,.sl (K.map bC)] [] (aQ [] (.bool V)):=by
 have n:=NR t;have h:=fM s;have f:(t.args.map aD).length=t.args.length:=vz _;refine af Try.func125 Mi rfl fun r _=>?_;have p:t.args.length<=9223372036854775807:=dU r.1.2.2.1;refine aF n rfl fun _=>?_;refine ah (fun e=>?_) (fun e=>?_)
 ·have h:=h e;refine bR (l:=K) (k:=t.id.toNat) (by omega) fun b hb _=>?_;refine Wj h.1 hb ?_;exact ay rfl (vv C.bool (by rw[w e,NU,hb];rfl))
 have m:=m e;refine bA t.args.length 5 [] () (fun _=>[]) (fun _=>[]) (fun k _=>(t.args.drop k).all q=V) m (aj rfl) trivial trivial (fun _=>rfl) (fun _=>rfl) ?_;rintro k _ y a _ _ _;have a:(t.args.drop k).all q=V:=a;refine ah (fun c=>?_) (fun d=>?_)
 ·have c:k<t.args.length:=by rw[f] at c;omega
  refine aX c fun x u j o=>?_;rw[o,abu] at a;refine bW u ?_;refine aF (v e x j) rfl fun _=>?_;refine aq (fun z=>?_) (fun z=>?_)
  ·exact ay rfl (vv C.bool (by rw[<-a,show q x=false by simpa using z];rfl))
  rw[show q x=true by simpa using z,aa7] at a;refine Fit.aar (by omega) (by omega) ?_;exact⟨(k+1,()),⟨c,a⟩,⟨aZ,trivial⟩,trivial,bf c⟩
 ·have d:¬k<t.args.length:=by rw[f] at d;omega
  rw[bU d] at a;exact ay rfl (vv C.bool a)
theorem Zw (K:List Bool):∀t:Ty,ins K.length t=true->CallsT P 125 [aK t,.sl (K.map bC)] [] (aQ [] (.bool (kC (NU K) t))):=cL fun t c b =>
 Wk K t b _ (kC (NU K)) (fun h=>by rw[eH,eu h]) (fun h=>by rw[eH,fo h]) fun h x a=>c x a (cR b x a)
def NV (a:Int) (c:Prop):List TO->C->Prop:=fun Mo v=>Mo=[]/\∃d:Int,v=IC d/\0<=d/\d<=max a 0/\(c->1<=d)
theorem Dq {L:TL}{ρ:aG}{b:Int}{c:Prop}{f:Nat}{args a:List C}{K:TL->aG->C->Prop}(h:CallsT P f a [] (NV b c)) (l:(args.map fun c=>c.aaw.ren (bn [] 1000))=a)
  (k:∀d:Int,0<=d->d<=max b 0->(c->1<=d)->K L ρ (IC d)):kF P f args L ρ K:=by
 subst l;exact .mk ⟨[],[],[],L,[],_,.inl rfl,rfl,rfl,rfl,rfl,rfl,h,fun v Mo ⟨j,d,e,h1,h2,h3⟩ m _=>by subst j e;exact⟨rfl,k d h1 h2 h3⟩⟩
theorem E9 {L:TL}{Lin:List TO}{v:C}{a:Int}{c:Prop}(d:Int) (hb:aH Lin (List.range' 1000 Lin.length) []=true) (e:v.aaB.ren (bn [] 1000)=IC d) (h1:0<=d) (h2:d<=max a 0) (h3:c->1<=d):fe Lin L v (NV a c) :=
 ⟨[],[],L,v,v,[],rfl,.inl ⟨rfl,rfl⟩,rfl,rfl,hb,fun _=>⟨rfl,d,e,h1,h2,h3⟩⟩
theorem Sv (s:List Ty) (t:Ty) (st a:Int) (c:Prop) (hm:a<=100) (ao:0<=st/\st<=2 ^ 40) (hc:c->1<=a)
  (h9:t.kind=9->∃x,bS s t=some x/\t.args=[]/\(¬x.kind=0->1<=st/\CallsT P 119 [.sl (s.map aD),aK x,IC (st-1),IC a] [] (NV a c)))
  (y:Ty->Prop) (u:t.kind≠9->∀x∈t.args,CallsT P 119 [.sl (s.map aD),aK x,IC st,IC (a-1)] [] (NV (a-1) (y x))) (m:c->∀x∈t.args,y x):CallsT P 119 [.sl (s.map aD),aK t,IC st,IC a] [] (NV a c):=by
 have p:=NR t;have o:(t.args.map aD).length=t.args.length:=vz _;refine af Try.func119 Mc rfl fun hw _=>?_;have ab:t.args.length<=9223372036854775807:=dU hw.2.1.2.2.1;refine ah (fun q=>?_) (fun w=>?_)
 ·exact E9 0 rfl rfl (abn _) (by omega) (fun z=>by have:=hc z;have q:a<1:=q;omega)
 refine ah (fun q=>o5 (show st<0 from q) (by omega)) (fun q2=>?_);have w:¬a<1:=w;refine aF p rfl fun _=>?_;refine ah (fun e=>oP (h9 e) fun x j=>?_) (fun e=>?_)
 ·have he:=bD j.1;refine kg he.1 he.2.1 ?_;refine aT (fun l=>?_) (fun l=>?_)
  ·have h2:=j.2.2 l;refine kg he.1 he.2.1 ?_;refine Fit.aar (by omega) (by omega) ?_;refine Dq h2.2 rfl fun d d1 v r=>?_;exact E9 d rfl rfl d1 v r
  ·have ha:=j.2.1;have al:(t.args.map aD).length=0:=by rw[ha];rfl
   refine bA 0 10 [9] (0:Int) (fun n=>[IC n]) (fun _=>[]) (fun _ n=>n=0) rfl (aj rfl) ⟨aj rfl,trivial⟩ trivial (fun _=>rfl) (fun _=>rfl) ?_;rintro k n ad h _ _ _;have h:n=0:=h;refine ah (fun q=>o5 (show(k:Int)<((t.args.map aD).length:Int) from q) (by omega)) (fun _=>?_);refine Fit.aar (by omega) (by omega) ?_;exact E9 (n+1) rfl rfl (by omega) (by omega) (fun _=>by omega)
 have u:=u e;refine bA t.args.length 10 [9] (0:Int) (fun n=>[IC n]) (fun _=>[]) (fun _ n=>0<=n/\n<=max (a-1) 0) ⟨abn _,by omega⟩ (aj rfl) ⟨aj rfl,trivial⟩ trivial (fun _=>rfl) (fun _=>rfl) ?_;rintro k n l h _ _ _;have h:0<=n/\n<=max (a-1) 0:=h;refine ah (fun b=>?_) (fun ag=>?_)
 ·have b:k<t.args.length:=by rw[o] at b;omega
  refine bR b fun x j f=>?_;refine bW j ?_;refine Fit.aar (by omega) (by omega) ?_;refine Dq (u x f) rfl fun d d1 v r=>?_;refine ah (fun q=>?_) (fun q=>?_)
  ·have q:d=0:=q;exact E9 0 rfl rfl (abn _) (by omega) (fun z=>by have:=r (m z x f);omega)
  refine⟨Sb (by split<;>omega) (by split<;>omega),?_⟩;refine Fit.aar (by omega) (by omega) ?_;exact⟨(k+1,if d>n then d else n),⟨b,(by split<;>omega:0<=if d>n then d else n),(by split<;>omega:(if d>n then d else n)<=max (a-1) 0)⟩,⟨aZ,aj rfl,trivial⟩,trivial,bf b⟩
 ·refine Fit.aar (by omega) (by omega) ?_;exact E9 (n+1) rfl rfl (by omega) (by omega) (fun _=>by omega)
theorem t119 {u s:List Ty}{ρ:Int->Nat}(hS:Sat u s) (o:Av s) (v:Rk s ρ):∀(n:Nat) (t:Ty) (m:Int),n<=2 ^ 30->m<=100->ins s.length t=true->kC (fun w=>decide (ρ w<n)) t=true->CallsT P 119 [.sl (s.map aD),aK t,IC (n:Int),IC m] [] (NV m ((cg (gs u t):Int)<=m)):=by
 intro n
 induction n with
 | zero =>
  refine cL (p:=fun t=>∀m:Int,0<=2 ^ 30->m<=100->ins s.length t=true->kC (fun w=>decide (ρ w<0)) t=true->CallsT P 119 [.sl (s.map aD),aK t,IC ((0:Nat):Int),IC m] [] (NV m ((cg (gs u t):Int)<=m))) fun t l m _ j d c=>?_;have h1:1<=cg (gs u t):=by rw[cQ];omega
  refine Sv s t 0 m _ j (by omega) (fun h=>by omega) (fun b=>?_) (fun x=>(cg (gs u x):Int)<=m-1) (fun b x a=>?_) (fun h x a=>?_)
  ·rw[eH,eu b,abf] at c;omega
  ·rw[eH,fo b,abg] at c;exact l x a (m-1) (by omega) (by omega) (cR d x a) (c x a)
  ·by_cases b:t.kind=9
   ·rw[(fM d b).2.2] at a;cases a
   ·have:=zY (u:=u) b a;omega
 | succ n k =>
  refine cL (p:=fun t=>∀m:Int,n+1<=2 ^ 30->m<=100->ins s.length t=true->kC (fun w=>decide (ρ w<n+1)) t=true->CallsT P 119 [.sl (s.map aD),aK t,IC ((n+1:Nat):Int),IC m] [] (NV m ((cg (gs u t):Int)<=m))) fun t l m r j d c=>?_;have h1:1<=cg (gs u t):=by rw[cQ];omega
  refine Sv s t ((n+1:Nat):Int) m _ j (by omega) (fun h=>by omega) (fun b=>?_) (fun x=>(cg (gs u x):Int)<=m-1) (fun b x a=>?_) (fun h x a=>?_)
  ·rw[eH,eu b,abf] at c;obtain⟨x,he,a⟩:=rm d b;obtain⟨z,y,e3⟩:=bD he;refine⟨x,he,(fM d b).2.2,fun f=>⟨by omega,?_⟩⟩;have e:=v.dn t.id.toNat x y f;rw[show((t.id.toNat:Nat):Int)=t.id by omega] at e;have:=k x m (by omega) j (o.elem he f) (nA (n:=s.length) (fun w _ _ q=>by rw[abf] at q ⊢;omega) x (o.elem he f) e);rw[hS.elem b he f] at this;rw[show((n+1:Nat):Int)-1=(n:Int) by omega];exact this
  ·rw[eH,fo b,abg] at c;exact l x a (m-1) r (by omega) (cR d x a) (c x a)
  ·by_cases b:t.kind=9
   ·rw[(fM d b).2.2] at a;cases a
   ·have:=zY (u:=u) b a;omega
theorem Ul:wM P 125:=⟨Try.f125,Try.func125,by kernel_rfl,by kernel_rfl⟩
theorem Wl {b:Bool}{F F':aA}{L L':Loc}{v:Value}(h:Rel F L (.bool b) v):Rel F' L' (.bool b) v:=by
 simp only[Rel] at h ⊢;exact h
theorem Zx (K:List Bool) (t:Ty) (a:ins K.length t=true):iB P 125 [aK t,.rw 1000] [.row 4 1 (K.map bC)] (aQ [.row 4 1 (K.map bC)] (.bool (kC (NU K) t))):=CallsT.aaW (Zw K t a) Ul Wl
def J2 (ρ:Int->Nat) (n j i:Nat) (K:List Bool):Prop:=K.length=n/\∀v:Nat,v<n->(ρ v<j\/(v<i/\ρ v<j+1))->K[v]?=some true
theorem J2.set {ρ:Int->Nat}{s:List Ty}(p:Av s) (o:Rk s ρ) {j i:Nat}{K:List Bool}(h:J2 ρ s.length j i K) {x:Ty}(a:s[i]?=some x) {b:Bool}(hb:b=true\/K[i]?=some b/\b=false/\¬x.kind=0/\kC (NU K) x=false):J2 ρ s.length j (i+1) (K.set i b):=by
 obtain⟨h1,h2⟩:=h;have hi:=(aa6.1 a).1;refine⟨by rw[abU];exact h1,fun v l t=>?_⟩
 by_cases e:i=v
 ·subst e;rw[ace (by omega)];rcases hb with hb | ⟨hb,rfl,f,k⟩
  ·rw[hb]
  ·exfalso;have c:=(p x (aa8 a)).resolve_left f;have d:=o.dn i x a f;have:kC (NU K) x=true:=nA (n:=s.length) (fun w q r m=>by
    rw[abf] at m;have:=h2 w.toNat (by omega) (.inl (by rw[show((w.toNat:Nat):Int)=w by omega];omega));rw[NU,this];rfl) x c d
   rw[this] at k;cases k
 ·rw[ab8 e];exact h2 v l (by omega)
theorem J2.next {ρ:Int->Nat}{n j i:Nat}{K:List Bool}(h:J2 ρ n j i K) (hi:¬i<n):J2 ρ n (j+1) 0 K:=⟨h.1,fun v a q=>h.2 v a (by omega)⟩
theorem Zy {K:List Bool}{i:Nat}{b:Bool}:(K.map bC).set i [.bool b]=(K.set i b).map bC:=by rw[List.map_set];rfl
theorem kor {K:List Bool}{i:Nat}{b V:Bool}{x:Ty}(hb:K[i]?=some b) (q:b=false) (a:¬x.kind=0):V=true\/K[i]?=some V/\V=false/\¬x.kind=0/\V=false:=by
 cases V with
 | true=>exact .inl rfl
 | false=>exact .inr ⟨by rw[hb,q],rfl,a,rfl⟩
theorem Zz {s:List Ty}{ρ:Int->Nat}(hs:Av s) (hz:∀x∈s,x.kind=0->x=.mk 0 0 []) (hR:Rk s ρ) (hl:s.length<=2 ^ 30):CallsT P 121 [.sl (s.map aD)] [] (aQ [] (.bool true)):=by
 have m:(s.map aD).length=s.length:=vz _;have al:=fun t=>t21 s.length t;have z:∀x∈s,¬x.kind=0->ins s.length x=true:=fun x u hk=>(hs x u).resolve_left hk;have ae:=Zx;have p:=fun{j i K} h {x} u {b} hb=>@J2.set ρ s hs hR j i K h x u b hb;have k0:J2 ρ s.length 0 0 (List.replicate s.length false):=⟨abD,fun v _ q=>by omega⟩;have ag:(List.replicate s.length false).map bC=List.replicate s.length [C.bool false]:=by rw[ab9];rfl
 have ab:List.replicate (((s.map aD).length:Int)).toNat [C.bool false]=(List.replicate s.length false).map bC:=by rw[m,ag];rfl
 refine af Try.func121 Md rfl fun hw _=>?_;refine bA s.length 3 [] () (fun _=>[]) (fun _=>[]) (fun _ _=>True) trivial (aj rfl) trivial trivial (fun _=>rfl) (fun _=>rfl) ?_;rintro k _ hk _ _ _ _;refine ah (fun d=>?_) (fun aa=>?_)
 ·have d:k<s.length:=by rw[m] at d;omega
  refine bR d fun x u w=>?_;have f:s[((k:Int)).toNat]?=some x:=u;refine kg (by omega) f ?_;refine aT (fun r=>?_) (fun r=>?_)
  ·refine kg (by omega) f ?_;have h:=al x;rw[z x w r] at h;refine aF h (by rw[m];rfl) fun _=>?_;refine kg (by omega) f ?_;refine ah (fun q=>o5 q r) (fun _=>?_);refine Fit.aar (by omega) (by omega) ?_;exact⟨(k+1,()),⟨d,trivial⟩,⟨aZ,trivial⟩,trivial,bf d⟩
  ·have e:=hz x w r;refine kg (by omega) f ?_;refine ah (fun _=>?_) (fun q=>o5 r q);refine kg (by omega) f ?_;refine aT (fun q=>o5 (by rw[e];rfl) q) (fun _=>?_);refine kg (by omega) f ?_;refine ah (fun q=>o5 (show((x.args.map aD).length:Int)>0 from q) (by rw[e];decide)) (fun _=>?_);refine Fit.aar (by omega) (by omega) ?_;exact⟨(k+1,()),⟨d,trivial⟩,⟨aZ,trivial⟩,trivial,bf d⟩
 refine pq.mk (by omega) (abn _) (by omega) (by simp only[maxLen];omega) ?_;refine bA s.length 5 [4] (List.replicate s.length false) (fun _=>[.rw 57]) (fun K=>[(57,.row 4 1 (K.map bC))]) (fun j K=>J2 ρ s.length j 0 K) k0 (aj rfl) ⟨aj rfl,trivial⟩ ⟨.inl ⟨_,rfl,.inl ⟨mq ab,rfl⟩⟩,trivial⟩ (fun _=>rfl) (fun _=>rfl) ?_;rintro j K hj n _ _ _;have n:J2 ρ s.length j 0 K:=n;refine ah (fun d=>?_) (fun aa=>?_)
 ·have d:j<s.length:=by rw[m] at d;omega
  refine bA s.length 6 [4] K (fun _=>[.rw 57]) (fun K=>[(57,.row 4 1 (K.map bC))]) (fun i K=>J2 ρ s.length j i K) n (aj rfl) ⟨aj rfl,trivial⟩ ⟨.inl ⟨_,rfl,.inl ⟨rfl,rfl⟩⟩,trivial⟩ (fun _=>rfl) (fun _=>rfl) ?_;rintro i K hi n _ _ _;have n:J2 ρ s.length j i K:=n;have am:(K.map bC).length=s.length:=by rw[vz];exact n.1
  refine ah (fun a=>?_) (fun y=>?_)
  ·have a:i<s.length:=by rw[m] at a;omega
   refine bR a fun x u w=>?_;have f:s[((i:Int)).toNat]?=some x:=u;refine bR (l:=K) (k:=i) (by rw[n.1];exact a) fun b hb _=>?_;have o:(K.map bC)[((i:Int)).toNat]?=some [.bool b]:=by rw[abk,show((i:Int)).toNat=i from rfl,hb];rfl
   have ac:=fun c:Bool=>Zy (K:=K) (i:=i) (b:=c);refine Ao.mk (by omega) (by omega) ?_;refine⟨_,o,rfl,?_⟩;refine aq (fun q=>?_) (fun q=>?_)
   ·refine Ao.mk (by omega) (by omega) ?_;refine⟨rfl,u5 o rfl ?_⟩;refine Fit.aar (by omega) (by omega) ?_;exact⟨(i+1,K.set i true),⟨a,p n u (.inl rfl)⟩,⟨aZ,aj rfl,trivial⟩,⟨.inl ⟨_,rfl,.inl ⟨mq (ac true),rfl⟩⟩,trivial⟩,bf a⟩
   refine kg (by omega) f ?_;refine ah (fun hk=>?_) (fun hk=>?_)
   ·refine Ao.mk (by omega) (by omega) ?_;refine⟨rfl,u5 o rfl ?_⟩;refine Fit.aar (by omega) (by omega) ?_;exact⟨(i+1,K.set i true),⟨a,p n u (.inl rfl)⟩,⟨aZ,aj rfl,trivial⟩,⟨.inl ⟨_,rfl,.inl ⟨mq (ac true),rfl⟩⟩,trivial⟩,bf a⟩
   refine kg (by omega) f ?_;refine z7 [57] (ae K x (by rw[n.1];exact z x w hk)) rfl rfl rfl rfl rfl ?_;refine Ao.mk (by omega) (by omega) ?_;refine⟨rfl,u5 o rfl ?_⟩;refine Fit.aar (by omega) (by omega) ?_;refine⟨(i+1,K.set i (kC (NU K) x)),⟨a,p n u ?_⟩,⟨aZ,aj rfl,trivial⟩,⟨.inl ⟨_,rfl,.inl ⟨mq (ac (kC (NU K) x)),rfl⟩⟩,trivial⟩,bf a⟩;exact kor hb q hk
  ·refine Fit.aar (by omega) (by omega) ?_;have y:¬i<s.length:=by rw[m] at y;omega
   exact⟨(j+1,K),⟨d,n.next y⟩,⟨aZ,aj rfl,trivial⟩,⟨.inl ⟨_,rfl,.inl ⟨rfl,rfl⟩⟩,trivial⟩,bf d⟩
 have aa:¬j<s.length:=by rw[m] at aa;omega
 have am:(K.map bC).length=s.length:=by rw[vz];exact n.1
 refine bA s.length 7 [4] () (fun _=>[.rw 57]) (fun _=>[(57,.row 4 1 (K.map bC))]) (fun _ _=>True) trivial (aj rfl) ⟨aj rfl,trivial⟩ ⟨.inl ⟨_,rfl,.inl ⟨rfl,rfl⟩⟩,trivial⟩ (fun _=>rfl) (fun _=>rfl) ?_;rintro i _ hi _ _ _ _;refine ah (fun a=>?_) (fun y=>ay rfl rfl);have a:i<s.length:=by rw[m] at a;omega
 have hb:=n.2 i a (.inl (by have:=hR.lt i a;omega));have o:(K.map bC)[((i:Int)).toNat]?=some [.bool true]:=by rw[abk,show((i:Int)).toNat=i from rfl,hb];rfl
 refine Ao.mk (by omega) (by omega) ?_;refine⟨_,o,rfl,?_⟩;refine Fit.aar (by omega) (by omega) ?_;exact⟨(i+1,()),⟨a,trivial⟩,⟨aZ,aj rfl,trivial⟩,⟨.inl ⟨_,rfl,.inl ⟨rfl,rfl⟩⟩,trivial⟩,bf a⟩
section
variable {α:Type}
def bG (q:α->Bool):List α->Int->Int
 | [],_=>-1
 | x::l,k=>if q x then k else bG q l (k+1)
theorem oZ {q:α->Bool}{l:List α}{k:Nat}{x:α}{r:Int}(hd:l.drop k=x::l.drop (k+1)) (hi:bG q (l.drop k) k=r) (a:q x=true):(k:Int)=r:=by
 rw[hd,bG,eu a] at hi;exact hi
theorem rz {q:α->Bool}{l:List α}{k:Nat}{x:α}{r:Int}(hd:l.drop k=x::l.drop (k+1)) (hi:bG q (l.drop k) k=r) (a:q x=false):bG q (l.drop (k+1)) ((k+1:Nat):Int)=r:=by
 rw[hd,bG,fo (by rw[a];exact abt)] at hi;exact hi
theorem o4 {q:α->Bool}{l:List α}{k:Nat}{r:Int}(h:¬k<l.length) (hi:bG q (l.drop k) k=r):(-1:Int)=r:=by
 rw[bU h,bG] at hi;exact hi
theorem Aa (q:α->Bool):∀(l:List α) (k:Int),0<=k->decide (0<=bG q l k)=l.any q
 | [],k,_=>rfl
 | x::l,k,h=>by
  rw[bG,abQ];cases a:q x
  ·rw[fo abt,Bool.false_or];exact Aa q l (k+1) (by omega)
  ·rw[eu rfl,Bool.true_or];exact aa2 h
theorem r9 (q:α->Bool) (l:List α):decide (bG q l 0>=0)=l.any q:=Aa q l 0 (abn _)
end
theorem QW (o:List Bool) (p:Prog) (l:List aS) (q:aS->Bool) (h:∀x∈l,CallsT P 107 [.agg (aV x),.pt [.sl (o.map bC)] 0,.pt (kG p) 0] [] (aQ [] (.bool (q x)))) :
  CallsT P 81 [.sl (l.map aV),.fn 107 [] [.pt [.sl (o.map bC)] 0,.pt (kG p) 0]] [] (aQ [] (IC (bG q l 0))):=by
 have c:(l.map aV).length=l.length:=vz _;refine af Try.func81 HG rfl fun n _=>?_;have m:l.length<=9223372036854775807:=by have:=gJ n.1;rwa [c] at this
 refine bA l.length 8 [] () (fun _=>[]) (fun _=>[]) (fun k _=>bG q (l.drop k) k=bG q l 0) rfl (aj rfl) trivial trivial (fun _=>rfl) (fun _=>rfl) ?_;rintro k _ s a _ _ _;refine ah (fun b=>?_) (fun d=>?_)
 ·have b:k<l.length:=by rw[c] at b;omega
  refine aX b fun x r f e=>?_;refine wZ (by omega) (show l[((k:Int)).toNat]?=some x from r) ?_;refine aF (h x f) rfl fun _=>?_;refine aq (fun j=>?_) (fun j=>?_)
  ·exact ay rfl (vv IC (oZ e a j))
  ·refine Fit.aar (by omega) (by omega) ?_;exact⟨(k+1,()),⟨b,rz e a j⟩,⟨aZ,trivial⟩,trivial,bf b⟩
 ·have d:¬k<l.length:=by rw[c] at d;omega
  exact ay rfl (vv IC (o4 d a))
theorem Nt (o:List Bool) (p:Prog) (l:List aS) (q:aS->Bool) (h:∀x∈l,CallsT P 107 [.agg (aV x),.pt [.sl (o.map bC)] 0,.pt (kG p) 0] [] (aQ [] (.bool (q x)))) :
  CallsT P 110 [.sl (l.map aV),.fn 107 [] [.pt [.sl (o.map bC)] 0,.pt (kG p) 0]] [] (aQ [] (.bool (l.any q))):=by
 have h1:=QW o p l q h;have e:=r9 q l;generalize bG q l 0=n at h1 e;refine af Try.func110 LW rfl fun a _=>?_;refine aF h1 rfl fun _=>?_;exact ay rfl (vv C.bool e)
theorem QX (g:Int) (t:Ty) (l:List aS) (q:aS->Bool) (h:∀x∈l,CallsT P 82 [.agg (aV x),.pt [IC g,IC t.kind,IC t.id,.sl (t.args.map aD)] 0] [] (aQ [] (.bool (q x)))) :
  CallsT P 81 [.sl (l.map aV),.fn 82 [] [.pt [IC g,IC t.kind,IC t.id,.sl (t.args.map aD)] 0]] [] (aQ [] (IC (bG q l 0))):=by
 have c:(l.map aV).length=l.length:=vz _;refine af Try.func81 HG rfl fun n _=>?_;have m:l.length<=9223372036854775807:=by have:=gJ n.1;rwa [c] at this
 refine bA l.length 8 [] () (fun _=>[]) (fun _=>[]) (fun k _=>bG q (l.drop k) k=bG q l 0) rfl (aj rfl) trivial trivial (fun _=>rfl) (fun _=>rfl) ?_;rintro k _ p a _ _ _;refine ah (fun b=>?_) (fun d=>?_)
 ·have b:k<l.length:=by rw[c] at b;omega
  refine aX b fun x o f e=>?_;refine wZ (by omega) (show l[((k:Int)).toNat]?=some x from o) ?_;refine aF (h x f) rfl fun _=>?_;refine aq (fun j=>?_) (fun j=>?_)
  ·exact ay rfl (vv IC (oZ e a j))
  ·refine Fit.aar (by omega) (by omega) ?_;exact⟨(k+1,()),⟨b,rz e a j⟩,⟨aZ,trivial⟩,trivial,bf b⟩
 ·have d:¬k<l.length:=by rw[c] at d;omega
  exact ay rfl (vv IC (o4 d a))
theorem QY (y:Impl) (l:List Impl) (q:Impl->Bool) (h:∀x∈l,CallsT P 91 [.agg (dS x),.pt [IC y.trait,IC y.module,IC y.params,.sl (y.bounds.map aV),IC y.type.kind,IC y.type.id,.sl (y.type.args.map aD),IC y.func] 0] [] (aQ [] (.bool (q x)))) :
  CallsT P 90 [.sl (l.map dS),.fn 91 [] [.pt [IC y.trait,IC y.module,IC y.params,.sl (y.bounds.map aV),IC y.type.kind,IC y.type.id,.sl (y.type.args.map aD),IC y.func] 0]] [] (aQ [] (IC (bG q l 0))):=by
 have d:(l.map dS).length=l.length:=vz _;refine af Try.func90 Qk rfl fun n _=>?_;have m:l.length<=9223372036854775807:=by have:=gJ n.1;rwa [d] at this
 refine bA l.length 8 [] () (fun _=>[]) (fun _=>[]) (fun k _=>bG q (l.drop k) k=bG q l 0) rfl (aj rfl) trivial trivial (fun _=>rfl) (fun _=>rfl) ?_;rintro k _ p a _ _ _;refine ah (fun b=>?_) (fun c=>?_)
 ·have b:k<l.length:=by rw[d] at b;omega
  refine aX b fun x o f e=>?_;refine rq (by omega) (show l[((k:Int)).toNat]?=some x from o) ?_;refine aF (h x f) rfl fun _=>?_;refine aq (fun j=>?_) (fun j=>?_)
  ·exact ay rfl (vv IC (oZ e a j))
  ·refine Fit.aar (by omega) (by omega) ?_;exact⟨(k+1,()),⟨b,rz e a j⟩,⟨aZ,trivial⟩,trivial,bf b⟩
 ·have c:¬k<l.length:=by rw[d] at c;omega
  exact ay rfl (vv IC (o4 c a))
def vu (p:Prog) (n:Nat) (b:aS):Bool:=!eC b.param n||!eC b.trait p.traits.length
theorem ZA (o:List Bool) (p:Prog) (b:aS):CallsT P 107 [.agg (aV b),.pt [.sl (o.map bC)] 0,.pt (kG p) 0] [] (aQ [] (.bool (vu p o.length b))):=by
 have h1:=Zm (o.map bC) b.param;have h2:=Wc (Mq p.traits) b.trait;have c:(o.map bC).length=o.length:=vz _;have a:(Mq p.traits).length=p.traits.length:=by simp[Mq]
 have e:vu p o.length b=(!eC b.param o.length||!eC b.trait p.traits.length):=rfl;rw[c] at h1;rw[a] at h2;generalize eC b.param o.length=x at h1 e;generalize eC b.trait p.traits.length=y at h2 e;refine af Try.func107 LR rfl fun d _=>?_;refine aF h1 rfl fun _=>?_;refine aq (fun q=>?_) (fun q=>?_)
 ·exact ay rfl (vv C.bool (by rw[e];rw[show(!x)=true from q];rfl))
 refine aF h2 rfl fun _=>?_;exact ay rfl (vv C.bool (by rw[e];rw[show(!x)=false from q];rfl))
theorem ZB (o:List Bool):CallsT P 116 [.sl (o.map bC),.bool false] [] (aQ [] (IC (bG (fun x=>!x) o 0))):=by
 have d:(o.map bC).length=o.length:=vz _;refine af Try.func116 L9 rfl fun m _=>?_;have l:o.length<=9223372036854775807:=by have:=gJ m.1;rwa [d] at this
 refine bA o.length 8 [] () (fun _=>[]) (fun _=>[]) (fun k _=>bG (fun x=>!x) (o.drop k) k=bG (fun x=>!x) o 0) rfl (aj rfl) trivial trivial (fun _=>rfl) (fun _=>rfl) ?_;rintro k _ q a _ _ _;refine ah (fun b=>?_) (fun c=>?_)
 ·have b:k<o.length:=by rw[d] at b;omega
  refine aX b fun x n p e=>?_;refine Gg (f:=bC) (es:=[.bool x]) n rfl rfl ?_;refine ah (fun h=>?_) (fun h=>?_)
  ·exact ay rfl (vv IC (oZ e a (by rw[<-show false=x from h];rfl)))
  ·have j:x=true:=by cases x;exact o5 rfl h;rfl
   refine Fit.aar (by omega) (by omega) ?_;exact⟨(k+1,()),⟨b,rz e a (by rw[j];rfl)⟩,⟨aZ,trivial⟩,trivial,bf b⟩
 ·have c:¬k<o.length:=by rw[d] at c;omega
  exact ay rfl (vv IC (o4 c a))
theorem ZC (o:List Bool):CallsT P 109 [.sl (o.map bC),.bool false] [] (aQ [] (.bool (o.any fun x=>!x))):=by
 have h1:=ZB o;have e:=r9 (fun x=>!x) o;generalize bG (fun x=>!x) o 0=n at h1 e;refine af Try.func109 LV rfl fun a _=>?_;refine aF h1 rfl fun _=>?_;exact ay rfl (vv C.bool e)
def gY (p:Prog) (x:Impl):Bool:=eC x.trait p.traits.length&&!decide (x.module<0)&&je x.type&&jg p x.params x.type&&!(mark x.type (List.replicate x.params.toNat false)).any (fun b=>!b)&&!x.bounds.any (vu p x.params.toNat)
theorem Um {ds:List Api.Data}{n:Int}:∀t:Ty,wT ds n t=true->z5 n t=true:=cL fun t e h=>by
 rw[E7,xo,abg]
 by_cases h5:t.kind=5
 ·obtain⟨a,b,c⟩:=vg h h5;rw[eu h5,c];exact⟨by rw[aa2 a,aa2 b];rfl,fun x d=>by cases d⟩
 ·rw[fo h5];obtain⟨_,_,_,f⟩:=vh h h5;exact⟨rfl,fun x d=>e x d (f x d).2⟩
theorem rA {p:Prog}{n:Int}{t:Ty}(h:jg p n t=true):0<=n/\n<=4/\cg t<=8/\wT p.datas n t=true:=by
 unfold jg at h;split at h
 ·cases h
 ·exact⟨by omega,by omega,by omega,h⟩
theorem t88 (p:Prog) (x:Impl) (hd:cg x.type<=2 ^ 40):CallsT P 88 [nD p,Aw x] [] (aQ [] (.bool (gY p x))):=by
 have c:=Wc (Mq p.traits) x.trait;have v:(Mq p.traits).length=p.traits.length:=by simp[Mq]
 rw[v] at c;have f:=Zp x.type;have Xi:=t14 x.params p x.type hd;have e:gY p x=(eC x.trait p.traits.length&&!decide (x.module<0)&&je x.type&&jg p x.params x.type&&!(mark x.type (List.replicate x.params.toNat false)).any (fun b=>!b)&&!x.bounds.any (vu p x.params.toNat)):=rfl;have k:=@rA p x.params x.type;have a:jg p x.params x.type=true->E8 x.type (List.replicate x.params.toNat false) (mark x.type (List.replicate x.params.toNat false)):=fun h=>Zv x.params.toNat x.type (by
  have:=Um x.type (k h).2.2.2;rw[show((x.params.toNat:Nat):Int)=x.params by have:=k h;omega];exact this) _ abD
 have m:(mark x.type (List.replicate x.params.toNat false)).length=x.params.toNat:=by rw[ru,abD]
 have r:∀n:Nat,(List.replicate n false).map bC=List.replicate n [C.bool false]:=fun n=>by rw[ab9];rfl
 generalize mark x.type (List.replicate x.params.toNat false)=o at a m e;have j:=ZC o;have d:=Nt o p x.bounds (vu p x.params.toNat) fun b _=>by have:=ZA o p b;rw[m] at this;exact this
 generalize x.bounds.any (vu p x.params.toNat)=bb at d e;generalize(o.any fun x=>!x)=oo at j e;generalize eC x.trait p.traits.length=v1 at c e;generalize je x.type=v2 at f e;generalize jg p x.params x.type=v3 at Xi e k a;refine af Try.func88 Mk rfl fun w _=>?_;refine aF c rfl fun _=>?_;refine aq (fun q=>?_) (fun s=>?_)
 ·exact ay rfl (vv C.bool (by rw[e,show v1=false by simpa using q];rfl))
 refine ah (fun q=>?_) (fun u=>?_)
 ·exact ay rfl (vv C.bool (by rw[e,aa2 (show x.module<0 from q),show v1=true by simpa using s];rfl))
 refine aF f rfl fun _=>?_;refine aq (fun q=>?_) (fun t=>?_)
 ·exact ay rfl (vv C.bool (by rw[e,show v2=false by simpa using q,aby];rfl))
 refine aF Xi rfl fun _=>?_;refine aq (fun q=>?_) (fun l=>?_)
 ·exact ay rfl (vv C.bool (by rw[e,show v3=false by simpa using q,aby];rfl))
 have l:v3=true:=by simpa using l
 have k:=k l;have a:CallsT P 105 [aK x.type,.fn 106 [] [.own 1000 0]] [.box 123 [.rw 1001],.row 4 1 (List.replicate x.params.toNat [.bool false])] (aQ (LO o) (.tup [])):=by
  have:=a l;rw[E8,LO,r] at this;exact this
 have e:(!oo&&!bb)=gY p x:=by
  rw[e,show v1=true by simpa using s,aa3 (show¬x.module<0 from u),show v2=true by simpa using t,l];simp
 refine pq.mk k.1 (abn _) (by omega) (by simp only[maxLen];omega) ?_;refine callO [5,35] [5,35] a rfl rfl rfl rfl rfl fun _ _=>?_;refine aF j rfl fun _=>?_;refine aq (fun q=>?_) (fun q=>?_)
 ·refine aF d rfl fun _=>?_;exact ay rfl (vv C.bool (by rw[<-e,show(!oo)=true from q];rfl))
 ·exact ay rfl (vv C.bool (by rw[<-e,show(!oo)=false from q];rfl))
theorem Sw {l:List Int}{z x:Int}{K:List C->Prop}(h0:0<=z) (a:l[z.toNat]?=some x) (h:K [IC x]):ur (uS l) z 1 K:=⟨[IC x],h0,by simp[uS,a],rfl,h⟩
def Fb (p:Prog) (x:Impl):Bool:=eC x.trait p.homes.length&&decide (p.homes[x.trait.toNat]?=some x.module)
def ownB (p:Prog) (x:Impl):Bool:=decide (x.type.kind=2)&&(eC x.type.id p.datas.length&&decide ((p.datas[x.type.id.toNat]?).map (·.module)=some x.module))
def Cg (p:Prog) (x:Impl):Bool:=!Fb p x&&!ownB p x
theorem ZD (p:Prog) (x:Impl) (n:Bool) (h:Fb p x=n):CallsT P 89 [nD p,Aw x] [] (aQ [] (.bool (!n&&!ownB p x))):=by
 have b:=Zn (uS p.homes) x.trait;have s:(uS p.homes).length=p.homes.length:=by simp[uS]
 rw[s] at b;have a:=Zo (p.datas.map lG) x.type.id;have t:(p.datas.map lG).length=p.datas.length:=vz _;rw[t] at a;have i1:=@dN x.trait p.homes.length;have i2:=@dN x.type.id p.datas.length;unfold Fb at h;have j:ownB p x=(decide (x.type.kind=2)&&(eC x.type.id p.datas.length&&decide ((p.datas[x.type.id.toNat]?).map (·.module)=some x.module))):=rfl;generalize ownB p x=ow at j ⊢;generalize eC x.trait p.homes.length=v1 at b i1 h;generalize eC x.type.id p.datas.length=v2 at a i2 j;have o:True:=trivial;refine af Try.func89 Qj rfl fun u _=>?_;refine bB b rfl fun _=>?_;refine Cb (fun m=>oP (fK (l:=p.homes) (k:=x.trait.toNat) (by have:=i1.1 m;omega)) fun y r=>Sw (i1.1 m).1 r ?_) (fun m=>?_)
 ·have q:n=decide (y=x.module):=by
   rw[<-h,m,r,aa7];exact decide_eq_decide.2 (by rw[aa1])
  subst q;refine ah (fun k=>bB a rfl fun _=>Cb (fun e=>oP (fK (l:=p.datas) (k:=x.type.id.toNat) (by have:=i2.1 e;omega)) fun d hd=>Gs (i2.1 e).1 hd ?_) (fun e=>?_)) (fun k=>?_)
  ·have c:ow=decide (d.module=x.module):=by
    rw[j,aa2 (show x.type.kind=2 from k),e,hd,aa7,aa7];exact decide_eq_decide.2 (by rw[abI,aa1])
   subst c;refine aT (fun f=>ay rfl (vv C.bool ?_)) (fun f=>ay rfl (vv C.bool ?_))
   ·rw[aa3 (show¬y=x.module from f)];rfl
   ·rw[aa2 (show y=x.module from f)];rfl
  ·have c:ow=false:=by rw[j,e,abb,aby]
   subst c;refine aT (fun f=>ay rfl (vv C.bool ?_)) (fun f=>ay rfl (vv C.bool ?_))
   ·rw[aa3 (show¬y=x.module from f)];rfl
   ·rw[aa2 (show y=x.module from f)];rfl
  ·have c:ow=false:=by rw[j,aa3 (show¬x.type.kind=2 from k),abb]
   subst c;refine aT (fun f=>ay rfl (vv C.bool ?_)) (fun f=>ay rfl (vv C.bool ?_))
   ·rw[aa3 (show¬y=x.module from f)];rfl
   ·rw[aa2 (show y=x.module from f)];rfl
 ·have q:n=false:=by rw[<-h,m,abb]
  subst q;refine ah (fun k=>bB a rfl fun _=>Cb (fun e=>oP (fK (l:=p.datas) (k:=x.type.id.toNat) (by have:=i2.1 e;omega)) fun d hd=>Gs (i2.1 e).1 hd ?_) (fun e=>?_)) (fun k=>?_)
  ·have c:ow=decide (d.module=x.module):=by
    rw[j,aa2 (show x.type.kind=2 from k),e,hd,aa7,aa7];exact decide_eq_decide.2 (by rw[abI,aa1])
   exact ay rfl (vv C.bool (by rw[c];rfl))
  ·have c:ow=false:=by rw[j,e,abb,aby]
   exact ay rfl (vv C.bool (by rw[c];rfl))
  ·have c:ow=false:=by rw[j,aa3 (show¬x.type.kind=2 from k),abb]
   exact ay rfl (vv C.bool (by rw[c];rfl))
theorem t89 (p:Prog) (x:Impl):CallsT P 89 [nD p,Aw x] [] (aQ [] (.bool (Cg p x))):=ZD p x _ rfl
noncomputable def AR (a b:Impl):Bool:=Ar (Ug a b)
noncomputable def qt (p:Prog):List Impl->Nat->Int×Int×Int
 | [],_=>(0,0,0)
 | x::l,k=>if gY p x=false then(1,(k:Int),(k:Int)) else if Cg p x=true then(9,(k:Int),(k:Int)) else if bG (fun y=>AR y x) (p.impls.take k) 0>=0 then(10,bG (fun y=>AR y x) (p.impls.take k) 0,(k:Int)) else qt p l (k+1)
noncomputable def Fc (p:Prog):Int×Int×Int:=qt p p.impls 0
theorem t91 (x y:Impl) (h:Nn 32 x y):CallsT P 91 [.agg (dS x),.pt [IC y.trait,IC y.module,IC y.params,.sl (y.bounds.map aV),IC y.type.kind,IC y.type.id,.sl (y.type.args.map aD),IC y.func] 0] [] (aQ [] (.bool (AR x y))):=by
 refine af Try.func91 Ql rfl fun a _=>?_;refine aF h rfl fun _=>?_;exact ay rfl rfl
theorem ZE (p:Prog) (hB:∀x∈p.impls,gN x.type/\cg x.type<=2 ^ 40):CallsT P 40 [nD p] [] (aQ [] (.tup [IC (Fc p).1,IC (Fc p).2.1,IC (Fc p).2.2])):=by
 have r:=fun x (j:x∈p.impls)=>t88 p x (hB x j).2;have o:=t89 p;have n:=fun(y:Impl) (k:Nat) (w:y∈p.impls)=>QY y (p.impls.take k) (fun x=>AR x y) fun x j=>t91 x y (t32 x y (hB x (List.take_subset k p.impls j)).1 (hB y w).1 (hB x (List.take_subset k p.impls j)).2 (hB y w).2);have e:(p.impls.map dS).length=p.impls.length:=vz _;have b:∀x l k,qt p (x::l) k=if gY p x=false then(1,(k:Int),(k:Int)) else if Cg p x=true then(9,(k:Int),(k:Int)) else if bG (fun y=>AR y x) (p.impls.take k) 0>=0 then(10,bG (fun y=>AR y x) (p.impls.take k) 0,(k:Int)) else qt p l (k+1):=fun x l k=>rfl;have f:∀k,qt p [] k=(0,0,0):=fun k=>rfl;have d:Fc p=qt p p.impls 0:=rfl;generalize Fc p=R at d ⊢;generalize qt p=cl at b f d;generalize gY p=tv at r b;generalize Cg p=ob at o b;generalize AR=ov at n b;refine af Try.func40 Mj rfl fun hw _=>?_;have aa:p.impls.length<=9223372036854775807:=by have:=gJ hw.1.2.2.2.2.2.1;rwa [e] at this
 refine bA p.impls.length 11 [] () (fun _=>[]) (fun _=>[]) (fun k _=>cl (p.impls.drop k) k=R) d.symm (aj rfl) trivial trivial (fun _=>rfl) (fun _=>rfl) ?_;rintro k _ hk a _ _ _;have a:cl (p.impls.drop k) k=R:=a;refine ah (fun c=>?_) (fun h=>?_)
 ·have c:k<p.impls.length:=by rw[e] at c;omega
  refine aX c fun x j m u=>?_;rw[u,b] at a;refine rq (by omega) (show p.impls[((k:Int)).toNat]?=some x from j) ?_;refine aF (r x m) rfl fun _=>?_;refine aq (fun q=>?_) (fun q=>?_)
  ·rw[eu (show tv x=false by simpa using q)] at a;exact ay rfl (by rw[<-a];rfl)
  rw[fo (show¬tv x=false by simpa using q)] at a;refine aF (o x) rfl fun _=>?_;refine aq (fun t=>?_) (fun t=>?_)
  ·rw[eu (show ob x=true from t)] at a;exact ay rfl (by rw[<-a];rfl)
  rw[fo (show¬ob x=true by rw[show ob x=false from t];exact abt)] at a;have v:((p.impls.map dS).drop ((0:Int)).toNat).take (((k:Int)).toNat-((0:Int)).toNat)=(p.impls.take k).map dS:=by
   rw[show((0:Int)).toNat=0 from rfl,List.drop_zero,Nat.sub_zero,show((k:Int)).toNat=k by omega,List.map_take]
  refine U5.mk (by omega) (by omega) (by rw[e];omega) (fun es he=>by obtain⟨y,_,rfl⟩:=abx.1 he;rfl) ?_;refine aF (n x k m) (vv (fun z=>[C.sl z,.fn 91 [] [.pt [IC x.trait,IC x.module,IC x.params,.sl (x.bounds.map aV),IC x.type.kind,IC x.type.id,.sl (x.type.args.map aD),IC x.func] 0]]) v) fun _=>?_;refine ah (fun s=>?_) (fun s=>?_)
  ·rw[eu s] at a;exact ay rfl (by rw[<-a];rfl)
  ·rw[fo s] at a;refine Fit.aar (by omega) (by omega) ?_;exact⟨(k+1,()),⟨c,a⟩,⟨aZ,trivial⟩,trivial,bf c⟩
 ·have h:¬k<p.impls.length:=by rw[e] at h;omega
  rw[bU h,f] at a;exact ay rfl (by rw[<-a];rfl)
structure Nu (p:Prog) (pa d:Int) (t:Ty) (V:Bool) (fr:Ty->Bool):Prop where
 hA:t.kind=1\/t.kind=6->V=(decide (t.id=0)&&decide ((t.args.length:Int)=0))
 hP:t.kind=5->V=(decide (0<=t.id)&&decide (t.id<pa)&&decide ((t.args.length:Int)=0))
 hD0:t.kind=2->(t.id<0\/(p.datas.length:Int)<=t.id)->V=false
 hD:t.kind=2->∀dd,0<=t.id->p.datas[t.id.toNat]?=some dd->V=(decide ((t.args.length:Int)=dd.params)&&t.args.all fun x=>je x&&fr x)
 hB:t.kind=3\/t.kind=4\/t.kind=8->V=(decide (t.id=0)&&decide ((t.args.length:Int)=1)&&t.args.all fun x=>je x&&fr x)
 hS0:t.kind=7->¬(t.id=0/\(t.args.length:Int)=1)->V=false
 hS:t.kind=7->t.id=0->∀x,t.args=[x]->V=if x.kind=6 then fr x else t.args.all fun x=>je x&&fr x
 hO:t.kind<1\/8<t.kind->V=false
theorem Wm (p:Prog) (pa d:Int) (t:Ty) (h:d<1):CallsT P 99 [nD p,IC pa,aK t,IC d] [] (aQ [] (.bool false)):=by
 refine af Try.func99 HM rfl fun a _=>?_;refine ah (fun _=>?_) (fun q=>o5 h q);exact ay rfl rfl
theorem ZF (p:Prog) (pa d:Int) (t:Ty) (V:Bool) (fr:Ty->Bool) (hd:1<=d/\d<=100) (X:Nu p pa d t V fr) (ih:∀x∈t.args,CallsT P 99 [nD p,IC pa,aK x,IC (d-1)] [] (aQ [] (.bool (fr x)))):CallsT P 99 [nD p,IC pa,aK t,IC d] [] (aQ [] (.bool V)):=by
 obtain⟨hA,hP,hD0,hD,hB,hS0,hS,hO⟩:=X;have y:=t17;have o:(t.args.map aD).length=t.args.length:=vz _;have az:(p.datas.map lG).length=p.datas.length:=vz _;generalize je=sto at y hD hB hS;have v:((t.args.map aD).length:Int)=t.args.length:=by rw[o]
 have p3:t.kind=5->0<=t.id->t.id<pa->decide (((t.args.map aD).length:Int)=0)=V:=fun k a b=>by rw[hP k,aa2 a,aa2 b,v];rfl
 have p2:t.kind=5->0<=t.id->¬t.id<pa->false=V:=fun k a b=>by rw[hP k,aa3 b,aby];rfl
 have p1:t.kind=5->¬0<=t.id->false=V:=fun k a=>by rw[hP k,aa3 a];rfl
 have b0:t.kind=3\/t.kind=4\/t.kind=8->¬t.id=0->false=V:=fun k a=>by rw[hB k,aa3 a];rfl
 have b1:t.kind=3\/t.kind=4\/t.kind=8->t.id=0->¬((t.args.map aD).length:Int)=1->false=V:=fun k a b=>by rw[hB k,aa3 (show¬(t.args.length:Int)=1 by rw[<-v];exact b),aby];rfl
 have b2:t.kind=3\/t.kind=4\/t.kind=8->t.id=0->((t.args.map aD).length:Int)=1->t.args.all (fun x=>sto x&&fr x)=V:=fun k a b=>by rw[hB k,aa2 a,aa2 (show(t.args.length:Int)=1 by rw[<-v];exact b)];rfl
 have s0:t.kind=7->¬t.id=0->false=V:=fun k a=>(hS0 k fun q=>a q.1).symm;have s1:t.kind=7->¬((t.args.map aD).length:Int)=1->false=V:=fun k a=>(hS0 k fun q=>a (by rw[v];exact q.2)).symm;have d2:∀w:Api.Data,t.kind=2->0<=t.id->p.datas[t.id.toNat]?=some w->¬((t.args.map aD).length:Int)=w.params->false=V:=fun w k a b c=>by rw[hD k w a b,aa3 (show¬(t.args.length:Int)=w.params by rw[<-v];exact c),abb]
 have d3:∀w:Api.Data,t.kind=2->0<=t.id->p.datas[t.id.toNat]?=some w->((t.args.map aD).length:Int)=w.params->t.args.all (fun x=>sto x&&fr x)=V:=fun w k a b c=>by rw[hD k w a b,aa2 (show(t.args.length:Int)=w.params by rw[<-v];exact c),aa7]
 have one:((t.args.map aD).length:Int)=1->∃x,t.args=[x]/\t.args[0]?=some x:=fun h=>by
  rw[v] at h
  match t.args,h with
  | [x],_=>exact⟨x,rfl,rfl⟩
 generalize hg:(fun x=>sto x&&fr x)=g at b2 d3 hS;have hg:∀x,g x=(sto x&&fr x):=fun x=>by rw[<-hg]
 refine af Try.func99 HM rfl fun hw _=>?_;have aE:t.args.length<=9223372036854775807:=dU hw.2.2.1.2.2.1;refine ah (fun q=>o5 hd.1 (by omega)) (fun _=>?_);refine ah (fun k1=>ah (fun _=>ah (fun i0=>?_) (fun i0=>?_)) (fun q=>o5 k1 q)) (fun k1=>ah (fun k6=>ah (fun i0=>?_) (fun i0=>?_)) (fun k6=>?_))
 ·exact ay rfl (vv C.bool (by rw[hA (.inl k1),aa2 (show t.id=0 from i0),aa7,<-o]))
 ·exact ay rfl (vv C.bool (by rw[hA (.inl k1),aa3 (show¬t.id=0 from i0),abb]))
 ·exact ay rfl (vv C.bool (by rw[hA (.inr k6),aa2 (show t.id=0 from i0),aa7,<-o]))
 ·exact ay rfl (vv C.bool (by rw[hA (.inr k6),aa3 (show¬t.id=0 from i0),abb]))
 refine ah (fun k5=>ah (fun a=>ah (fun b=>ay rfl (vv C.bool (p3 k5 a b))) (fun b=>ay rfl (vv C.bool (p2 k5 a b)))) (fun a=>ay rfl (vv C.bool (p1 k5 a)))) (fun k5=>?_);refine ah (fun z=>ah (fun a=>ay rfl (vv C.bool (hD0 z (.inl a)).symm)) (fun a=>ah (fun b=>ay rfl (vv C.bool (hD0 z (.inr (by rw[<-az];exact b))).symm)) (fun b=>oP (fK (l:=p.datas) (k:=t.id.toNat) (by have b:¬t.id>=((p.datas.map lG).length:Int):=b;omega)) fun w aa=>Gs (by omega) aa <| aT (fun c=>ay rfl (vv C.bool (d2 w z (by omega) aa c))) (fun c=>?_)))) (fun z=>?_)
 ·have e:=d3 w z (by omega) aa c;refine bA t.args.length 10 [] () (fun _=>[]) (fun _=>[]) (fun k _=>(t.args.drop k).all g=V) e (aj rfl) trivial trivial (fun _=>rfl) (fun _=>rfl) ?_;rintro k _ hk f _ _ _;have f:(t.args.drop k).all g=V:=f;refine ah (fun j=>?_) (fun n=>?_)
  ·have j:k<t.args.length:=by rw[o] at j;omega
   refine aX j fun x s r u=>?_;rw[u,abu,hg] at f;refine bW s ?_;refine bB (y x) rfl fun _=>?_;refine aq (fun q=>?_) (fun q=>?_)
   ·have q:sto x=false:=by simpa using q
    rw[q,abb,abb] at f;exact ay rfl (vv C.bool f)
   have q:sto x=true:=by simpa using q
   rw[q,aa7] at f;refine bW s ?_;refine Fit.aar (by omega) (by omega) ?_;refine bB (ih x r) rfl fun _=>?_;refine aq (fun m=>?_) (fun m=>?_)
   ·have m:fr x=false:=by simpa using m
    rw[m,abb] at f;exact ay rfl (vv C.bool f)
   have m:fr x=true:=by simpa using m
   rw[m,aa7] at f;refine Fit.aar (by omega) (by omega) ?_;exact⟨(k+1,()),⟨j,f⟩,⟨aZ,trivial⟩,trivial,bf j⟩
  ·have n:¬k<t.args.length:=by rw[o] at n;omega
   rw[bU n] at f;exact ay rfl (vv C.bool f)
 have bi:∀K:(t.kind=3\/t.kind=4\/t.kind=8),t.id=0->((t.args.map aD).length:Int)=1->t.args.all g=V:=b2;refine ah (fun k3=>ah (fun _=>aT (fun a=>ay rfl (vv C.bool (b0 (.inl k3) a))) (fun a=>aT (fun b=>ay rfl (vv C.bool (b1 (.inl k3) a b))) (fun b=>?_))) (fun q=>o5 k3 q)) (fun k3=>?_)
 ·have e:=b2 (.inl k3) a b;refine bA t.args.length 10 [] () (fun _=>[]) (fun _=>[]) (fun k _=>(t.args.drop k).all g=V) e (aj rfl) trivial trivial (fun _=>rfl) (fun _=>rfl) ?_;rintro k _ hk f _ _ _;have f:(t.args.drop k).all g=V:=f;refine ah (fun j=>?_) (fun n=>?_)
  ·have j:k<t.args.length:=by rw[o] at j;omega
   refine aX j fun x s r u=>?_;rw[u,abu,hg] at f;refine bW s ?_;refine bB (y x) rfl fun _=>?_;refine aq (fun q=>?_) (fun q=>?_)
   ·have q:sto x=false:=by simpa using q
    rw[q,abb,abb] at f;exact ay rfl (vv C.bool f)
   have q:sto x=true:=by simpa using q
   rw[q,aa7] at f;refine bW s ?_;refine Fit.aar (by omega) (by omega) ?_;refine bB (ih x r) rfl fun _=>?_;refine aq (fun m=>?_) (fun m=>?_)
   ·have m:fr x=false:=by simpa using m
    rw[m,abb] at f;exact ay rfl (vv C.bool f)
   have m:fr x=true:=by simpa using m
   rw[m,aa7] at f;refine Fit.aar (by omega) (by omega) ?_;exact⟨(k+1,()),⟨j,f⟩,⟨aZ,trivial⟩,trivial,bf j⟩
  ·have n:¬k<t.args.length:=by rw[o] at n;omega
   rw[bU n] at f;exact ay rfl (vv C.bool f)
 refine ah (fun k4=>ah (fun _=>aT (fun a=>ay rfl (vv C.bool (b0 (.inr (.inl k4)) a))) (fun a=>aT (fun b=>ay rfl (vv C.bool (b1 (.inr (.inl k4)) a b))) (fun b=>?_))) (fun q=>o5 k4 q)) (fun k4=>?_)
 ·have e:=b2 (.inr (.inl k4)) a b;refine bA t.args.length 10 [] () (fun _=>[]) (fun _=>[]) (fun k _=>(t.args.drop k).all g=V) e (aj rfl) trivial trivial (fun _=>rfl) (fun _=>rfl) ?_;rintro k _ hk f _ _ _;have f:(t.args.drop k).all g=V:=f;refine ah (fun j=>?_) (fun n=>?_)
  ·have j:k<t.args.length:=by rw[o] at j;omega
   refine aX j fun x s r u=>?_;rw[u,abu,hg] at f;refine bW s ?_;refine bB (y x) rfl fun _=>?_;refine aq (fun q=>?_) (fun q=>?_)
   ·have q:sto x=false:=by simpa using q
    rw[q,abb,abb] at f;exact ay rfl (vv C.bool f)
   have q:sto x=true:=by simpa using q
   rw[q,aa7] at f;refine bW s ?_;refine Fit.aar (by omega) (by omega) ?_;refine bB (ih x r) rfl fun _=>?_;refine aq (fun m=>?_) (fun m=>?_)
   ·have m:fr x=false:=by simpa using m
    rw[m,abb] at f;exact ay rfl (vv C.bool f)
   have m:fr x=true:=by simpa using m
   rw[m,aa7] at f;refine Fit.aar (by omega) (by omega) ?_;exact⟨(k+1,()),⟨j,f⟩,⟨aZ,trivial⟩,trivial,bf j⟩
  ·have n:¬k<t.args.length:=by rw[o] at n;omega
   rw[bU n] at f;exact ay rfl (vv C.bool f)
 refine ah (fun k8=>aT (fun a=>ay rfl (vv C.bool (b0 (.inr (.inr k8)) a))) (fun a=>aT (fun b=>ay rfl (vv C.bool (b1 (.inr (.inr k8)) a b))) (fun b=>?_))) (fun k8=>?_)
 ·have e:=b2 (.inr (.inr k8)) a b;refine bA t.args.length 10 [] () (fun _=>[]) (fun _=>[]) (fun k _=>(t.args.drop k).all g=V) e (aj rfl) trivial trivial (fun _=>rfl) (fun _=>rfl) ?_;rintro k _ hk f _ _ _;have f:(t.args.drop k).all g=V:=f;refine ah (fun j=>?_) (fun n=>?_)
  ·have j:k<t.args.length:=by rw[o] at j;omega
   refine aX j fun x s r u=>?_;rw[u,abu,hg] at f;refine bW s ?_;refine bB (y x) rfl fun _=>?_;refine aq (fun q=>?_) (fun q=>?_)
   ·have q:sto x=false:=by simpa using q
    rw[q,abb,abb] at f;exact ay rfl (vv C.bool f)
   have q:sto x=true:=by simpa using q
   rw[q,aa7] at f;refine bW s ?_;refine Fit.aar (by omega) (by omega) ?_;refine bB (ih x r) rfl fun _=>?_;refine aq (fun m=>?_) (fun m=>?_)
   ·have m:fr x=false:=by simpa using m
    rw[m,abb] at f;exact ay rfl (vv C.bool f)
   have m:fr x=true:=by simpa using m
   rw[m,aa7] at f;refine Fit.aar (by omega) (by omega) ?_;exact⟨(k+1,()),⟨j,f⟩,⟨aZ,trivial⟩,trivial,bf j⟩
  ·have n:¬k<t.args.length:=by rw[o] at n;omega
   rw[bU n] at f;exact ay rfl (vv C.bool f)
 refine ah (fun k7=>aT (fun a=>ay rfl (vv C.bool (s0 k7 a))) (fun a=>aT (fun b=>ay rfl (vv C.bool (s1 k7 b))) (fun b=>oP (one b) fun x s=>?_))) (fun k7=>?_)
 ·have e7:V=if x.kind=6 then fr x else t.args.all g:=hS k7 a x s.1;refine bW (k:=0) s.2 ?_;refine ah (fun x6=>?_) (fun x6=>?_)
  ·have e:fr x=V:=by rw[e7,eu (show x.kind=6 from x6)]
   refine bW (k:=0) s.2 ?_;refine Fit.aar (by omega) (by omega) ?_;refine bB (ih x (by rw[s.1];exact .head _)) rfl fun _=>?_;exact ay rfl (vv C.bool e)
  have e:t.args.all g=V:=by rw[e7,fo (show¬x.kind=6 from x6)]
  refine bA t.args.length 10 [] () (fun _=>[]) (fun _=>[]) (fun k _=>(t.args.drop k).all g=V) e (aj rfl) trivial trivial (fun _=>rfl) (fun _=>rfl) ?_;rintro k _ hk f _ _ _;have f:(t.args.drop k).all g=V:=f;refine ah (fun j=>?_) (fun n=>?_)
  ·have j:k<t.args.length:=by rw[o] at j;omega
   refine aX j fun x s r u=>?_;rw[u,abu,hg] at f;refine bW s ?_;refine bB (y x) rfl fun _=>?_;refine aq (fun q=>?_) (fun q=>?_)
   ·have q:sto x=false:=by simpa using q
    rw[q,abb,abb] at f;exact ay rfl (vv C.bool f)
   have q:sto x=true:=by simpa using q
   rw[q,aa7] at f;refine bW s ?_;refine Fit.aar (by omega) (by omega) ?_;refine bB (ih x r) rfl fun _=>?_;refine aq (fun m=>?_) (fun m=>?_)
   ·have m:fr x=false:=by simpa using m
    rw[m,abb] at f;exact ay rfl (vv C.bool f)
   have m:fr x=true:=by simpa using m
   rw[m,aa7] at f;refine Fit.aar (by omega) (by omega) ?_;exact⟨(k+1,()),⟨j,f⟩,⟨aZ,trivial⟩,trivial,bf j⟩
  ·have n:¬k<t.args.length:=by rw[o] at n;omega
   rw[bU n] at f;exact ay rfl (vv C.bool f)
 exact ay rfl (vv C.bool (hO (by
  have k1:¬t.kind=1:=k1;have k6:¬t.kind=6:=k6;have k5:¬t.kind=5:=k5;have z:¬t.kind=2:=z;have k3:¬t.kind=3:=k3;have k4:¬t.kind=4:=k4;have k8:¬t.kind=8:=k8;have k7:¬t.kind=7:=k7;omega)).symm)
def DB (p:Prog) (pa d:Int) (t:Ty):Bool:=decide ((cg t:Int)<=d)&&wT p.datas pa t
theorem Fe {d:Int}(hd:1<=d):∀l:List Ty,decide ((cI l:Int)+1<=d)=l.all fun x=>decide ((cg x:Int)<=d-1)
 | []=>by rw[cI,List.all_nil,abf];omega
 | t::l=>by
  rw[abu,<-Fe hd l,cI,<-Bool.decide_and];exact decide_eq_decide.2 (by omega)
theorem QZ {a:Type}(f:a->Bool) (l:List a):(!l.any f)=l.all fun x=>!f x:=List.not_any_eq_all_not
theorem Iq {a:Type}(f g:a->Bool):∀l:List a,(l.all f&&l.all g)=l.all fun x=>f x&&g x
 | []=>rfl
 | x::l=>by
  rw[abu,abu,abu,<-Iq f g l];cases f x<;>cases g x<;>cases l.all f<;>rfl
theorem Ir {p:Prog}{pa d:Int}{t:Ty}(hd:1<=d) (h5:t.kind≠5) {n:Int}(c:DA p.datas t.kind t.id=some n) (h0:¬(t.kind≠2/\t.id≠0)) (b:t.kind≠7) :
  DB p pa d t=(decide ((t.args.length:Int)=n)&&t.args.all fun x=>je x&&DB p pa (d-1) x):=by
 unfold DB;rw[m9,fo h5,c,cQ];show(_&&if _ then _ else _)=_
 by_cases a:(t.args.length:Int)=n
 ·rw[fo (by omega),aa2 a,aa7,QZ,show((cI t.args+1:Nat):Int)=(cI t.args:Int)+1 by omega,Fe hd,Iq];congr 1
  funext x
  unfold Gr;rw[aa3 b];cases je x<;>cases wT p.datas pa x<;>simp
 ·rw[eu (.inr a),aa3 a,aby,abb]
theorem Nv (p:Prog) (pa d:Int) (t:Ty) (hd:1<=d):Nu p pa d t (DB p pa d t) (DB p pa (d-1)) where
 hA:=fun k=>by
  unfold DB;rw[m9,fo (by omega),show DA p.datas t.kind t.id=some 0 by rw[DA,eu k],cQ];show(_&&if _ then _ else _)=_
  by_cases hi:t.id=0
  ·by_cases a:(t.args.length:Int)=0
   ·have:t.args=[]:=List.length_eq_zero_iff.1 (by omega);rw[fo (by omega),this,aa2 hi];simp[cI,hd]
   ·rw[eu (.inr a),aa3 a,aby,aby]
  ·rw[eu (.inl ⟨by omega,hi⟩),aa3 hi,aby,abb]
 hP:=fun k=>by
  unfold DB;rw[m9,eu k,cQ,show decide ((t.args.length:Int)=0)=decide (t.args.length=0) from decide_eq_decide.2 (by omega)]
  by_cases a:t.args.length=0
  ·have:t.args=[]:=List.length_eq_zero_iff.1 a;rw[this];simp[cI,hd]
  ·rw[aa3 a];simp
 hD0:=fun k h=>by
  unfold DB;rw[m9,fo (by omega),DA,fo (by omega),eu k,eu h,aby]
 hD:=fun k l h0 b=>by
  have j:=(aa6.1 b).1;exact Ir hd (by omega) (by rw[DA,fo (by omega),eu k,fo (by omega),b];rfl) (by omega) (by omega)
 hB:=fun k=>by
  by_cases hi:t.id=0
  ·rw[Ir hd (by omega) (n:=1) (by rw[DA,fo (by omega),fo (by omega),eu (by omega)]) (by omega) (by omega),aa2 hi,aa7]
  ·unfold DB;rw[m9,fo (by omega),show DA p.datas t.kind t.id=some 1 by rw[DA,fo (by omega),fo (by omega),eu (by omega)]];show(_&&if _ then _ else _)=_;rw[eu (.inl ⟨by omega,hi⟩),aa3 hi,aby,abb,abb]
 hS0:=fun k h=>by
  unfold DB;rw[m9,fo (by omega),show DA p.datas t.kind t.id=some 1 by rw[DA,fo (by omega),fo (by omega),eu (by omega)]];show(_&&if _ then _ else _)=_;rw[eu (by omega),aby]
 hS:=fun k hi x f=>by
  unfold DB;rw[m9,fo (by omega),show DA p.datas t.kind t.id=some 1 by rw[DA,fo (by omega),fo (by omega),eu (by omega)],cQ];show(_&&if _ then _ else _)=_;rw[f,fo (by simp[hi])];have e:decide (((cI [x]+1:Nat):Int)<=d)=decide ((cg x:Int)<=d-1):=decide_eq_decide.2 (by simp only[cI];omega);rw[e];unfold Gr;rw[aa2 k];simp only[abQ,List.any_nil,abu,List.all_nil]
  by_cases c:x.kind=6
  ·rw[eu c,aa2 c];simp
  ·rw[fo c,aa3 c];cases je x<;>cases wT p.datas pa x<;>simp
 hO:=fun h=>by
  unfold DB;rw[m9,fo (by omega),DA,fo (by omega),fo (by omega),fo (by omega),aby]
theorem t99 (p:Prog) (pa:Int):∀(n:Nat) (t:Ty),n<=100->CallsT P 99 [nD p,IC pa,aK t,IC (n:Int)] [] (aQ [] (.bool (DB p pa n t)))
 | 0,t,_=>by
  have:=Wm p pa 0 t (by omega);have e:DB p pa ((0:Nat):Int) t=false:=by
   unfold DB;rw[cQ,aa3 (by omega),abb]
  rw[e];exact this
 | n+1,t,h=>by
  have:=ZF p pa ((n+1:Nat):Int) t _ _ (by omega) (Nv p pa ((n+1:Nat):Int) t (by omega)) fun x _=>by
   have:=t99 p pa n x (by omega);rw[show((n+1:Nat):Int)-1=(n:Int) by omega];exact this
  exact this
theorem t72 (p:Prog) (pa:Int) (t:Ty):CallsT P 72 [nD p,IC pa,aK t] [] (aQ [] (.bool (jg p pa t))):=by
 have h:=t99 p pa 8 t (by omega);have e:jg p pa t=(decide (0<=pa)&&(decide (pa<=4)&&DB p pa ((8:Nat):Int) t)):=by
  unfold jg DB
  by_cases a:0<=pa
  ·by_cases b:pa<=4
   ·rw[aa2 a,aa2 b]
    by_cases c:cg t>8
    ·rw[eu (by omega),aa3 (by omega)];rfl
    ·rw[fo (by omega),aa2 (by omega)];rfl
   ·rw[eu (by omega),aa3 b];simp
  ·rw[eu (by omega),aa3 a];rfl
 rw[e];generalize DB p pa ((8:Nat):Int) t=v at h ⊢;refine af Try.func72 P9 rfl fun j _=>?_;refine ah (fun d=>?_) (fun d=>?_)
 ·refine ah (fun f=>?_) (fun f=>?_)
  ·refine aF h rfl fun _=>?_;exact ay rfl (vv C.bool (by rw[aa2 (show 0<=pa from d),aa2 (show pa<=4 from f)];rfl))
  ·exact ay rfl (vv C.bool (by rw[aa2 (show 0<=pa from d),aa3 (show¬pa<=4 from f)];rfl))
 ·exact ay rfl (vv C.bool (by rw[aa3 (show¬0<=pa from d)];rfl))
mutual
/-- a parameter occurs -/
def rB (n:Int):Ty->Bool
 | .mk k i l=>if k=5 then decide (i=n) else Iu n l
def Iu (n:Int):List Ty->Bool
 | []=>false
 | x::l=>rB n x||Iu n l
end
theorem Ch (n:Int):∀l:List Ty,Iu n l=l.any (rB n)
 | []=>rfl
 | x::l=>by rw[Iu,Ch n l,abQ]
theorem vw (n:Int) (t:Ty):rB n t=if t.kind=5 then decide (t.id=n) else t.args.any (rB n):=by
 cases t;rw[rB,Ch];rfl
theorem ZG (n:Int) (t:Ty) (V:Bool) (d:Ty->Bool) (h5:t.kind=5->V=decide (t.id=n)) (r:t.kind≠5->t.args.any d=V) (p:∀x∈t.args,CallsT P 73 [IC n,aK x] [] (aQ [] (.bool (d x)))):CallsT P 73 [IC n,aK t] [] (aQ [] (.bool V)):=by
 have e:(t.args.map aD).length=t.args.length:=vz _;refine af Try.func73 Qa rfl fun m _=>?_;have l:t.args.length<=9223372036854775807:=dU m.2.1.2.2.1;refine ah (fun h=>ay rfl (vv C.bool (h5 h).symm)) (fun h=>?_);refine bA t.args.length 5 [] () (fun _=>[]) (fun _=>[]) (fun k _=>(t.args.drop k).any d=V) (r h) (aj rfl) trivial trivial (fun _=>rfl) (fun _=>rfl) ?_;rintro k _ s a _ _ _;have a:(t.args.drop k).any d=V:=a;refine ah (fun b=>?_) (fun c=>?_)
 ·have b:k<t.args.length:=by rw[e] at b;omega
  refine aX b fun x o f j=>?_;rw[j,abQ] at a;refine bW o ?_;refine aF (p x f) rfl fun _=>?_;refine Cb (fun q=>?_) (fun q=>?_)
  ·rw[show d x=true from q,Bool.true_or] at a;exact ay rfl (vv C.bool a)
  rw[show d x=false from q,Bool.false_or] at a;refine Fit.aar (by omega) (by omega) ?_;exact⟨(k+1,()),⟨b,a⟩,⟨aZ,trivial⟩,trivial,bf b⟩
 ·have c:¬k<t.args.length:=by rw[e] at c;omega
  rw[bU c] at a;exact ay rfl (vv C.bool a)
theorem t73 (n:Int):∀t:Ty,CallsT P 73 [IC n,aK t] [] (aQ [] (.bool (rB n t))):=cL fun t a =>
 ZG n t _ (rB n) (fun h=>by rw[vw,eu h]) (fun h=>by rw[vw,fo h]) a
end Go.Fr.Try
