/- Part of the proofs of the statements of this seat. -/
import Derived.Test.YthfdbepkalpplaaGreatVnV1G
set_option maxRecDepth 10000
set_option linter.unusedVariables false
set_option linter.unusedSimpArgs false
namespace Go.Fr.Tryz
open Go Go.RowKit Go.Proofs Go.Fr Go.Fr.T Go.Fr.Api
abbrev SU (s:List Ty) (D O:List (C×C)):List TO:=[.box 109 [.rw 1001,.mpr 1002,.mpr 1003],.row 33 3 (s.map aD),.map D,.map O]
abbrev SO (k:Nat) (D O:List (C×C)):List TO:=[.box 109 [.opq k,.mpr 1001,.mpr 1002],.map D,.map O]
abbrev pX (s:List Ty):List TO:=[.box 109 [.rw 1001,.any,.any],.row 33 3 (s.map aD)]
abbrev Fc (s:List Ty):List TO:=[.box 109 [.sl (s.map aD),.any,.any]]
theorem Hy (n:Int) (t:Ty):ins n t=if t.kind<1\/9<t.kind then false else if t.kind=9 then decide (0<=t.id)&&decide (t.id<n)&&decide (t.args.length=0) else !t.args.any fun x=>!ins n x:=by
 rw[qL];congr 1;congr 1;rw[List.all_eq_not_any_not]
theorem S1 (s:List Ty) (D O:List (C×C)) (l:List Ty) (q:Ty->Bool) (h:∀x∈l,CallsT P 84 [aP x,.own 1000 0] [.box 104 [.own 1001 0],.box 109 [.rw 1002,.mpr 1003,.mpr 1004],.row 33 3 (s.map aD),.map D,.map O] (aR [.box 104 [.own 1001 0],.box 109 [.rw 1002,.mpr 1003,.mpr 1004],.row 33 3 (s.map aD),.map D,.map O] (.bool (q x)))) :
  CallsT P 76 [.sl (l.map aD),.fn 84 [] [.own 1000 0]] [.box 104 [.own 1001 0],.box 109 [.rw 1002,.mpr 1003,.mpr 1004],.row 33 3 (s.map aD),.map D,.map O] (aR [.box 104 [.own 1001 0],.box 109 [.rw 1002,.mpr 1003,.mpr 1004],.row 33 3 (s.map aD),.map D,.map O] (IC (fidx q l 0))):=by
 have e:(l.map aD).length=l.length:=xo _;refine af Tryz.func76 xu rfl fun n _=>?_;have m:l.length<=9223372036854775807:=fB n.1;refine bN l.length 8 [] () (fun _=>[]) (fun _=>[(1000,.box 104 [.own 1001 0]),(1001,.box 109 [.rw 1002,.mpr 1003,.mpr 1004]),(1002,.row 33 3 (s.map aD)),(1003,.map D),(1004,.map O)]) (fun k _=>fidx q (l.drop k) k=fidx q l 0) rfl (ai rfl) trivial ⟨.inl ⟨_,rfl,.inl ⟨rfl,rfl⟩⟩,.inl ⟨_,rfl,.inl ⟨rfl,rfl⟩⟩,.inl ⟨_,rfl,.inl ⟨rfl,rfl⟩⟩,.inl ⟨_,rfl,.inl ⟨rfl,rfl⟩⟩,.inl ⟨_,rfl,.inl ⟨rfl,rfl⟩⟩,trivial⟩ (fun _=>rfl) (fun _=>rfl) ?_;rintro k _ p b _ _ _;refine ah (fun a=>?_) (fun c=>?_)
 ·have a:k<l.length:=by rw[e] at a;omega
  refine bf a fun x o f d=>?_;refine cA o ?_;refine callO [1000,1001,1002,1003,1004] [1000,1001,1002,1003,1004] (h x f) rfl rfl rfl rfl rfl fun _ _=>?_;refine aq (fun j=>?_) (fun j=>?_)
  ·exact bP [1000,1001,1002,1003,1004] rfl rfl rfl (vz IC (uw d b j))
  ·refine Fit.aae (by omega) (by omega) ?_;exact⟨(k+1,()),⟨a,xC d b j⟩,⟨bw,trivial⟩,⟨.inl ⟨_,rfl,.inl ⟨rfl,rfl⟩⟩,.inl ⟨_,rfl,.inl ⟨rfl,rfl⟩⟩,.inl ⟨_,rfl,.inl ⟨rfl,rfl⟩⟩,.inl ⟨_,rfl,.inl ⟨rfl,rfl⟩⟩,.inl ⟨_,rfl,.inl ⟨rfl,rfl⟩⟩,trivial⟩,bB a⟩
 ·have c:¬k<l.length:=by rw[e] at c;omega
  exact bP [1000,1001,1002,1003,1004] rfl rfl rfl (vz IC (uy c b))
theorem S2 (s:List Ty) (D O:List (C×C)) (l:List Ty) (q:Ty->Bool) (h:∀x∈l,CallsT P 84 [aP x,.own 1000 0] [.box 104 [.own 1001 0],.box 109 [.rw 1002,.mpr 1003,.mpr 1004],.row 33 3 (s.map aD),.map D,.map O] (aR [.box 104 [.own 1001 0],.box 109 [.rw 1002,.mpr 1003,.mpr 1004],.row 33 3 (s.map aD),.map D,.map O] (.bool (q x)))) :
  CallsT P 45 [.sl (l.map aD),.fn 84 [] [.own 1000 0]] [.box 104 [.own 1001 0],.box 109 [.rw 1002,.mpr 1003,.mpr 1004],.row 33 3 (s.map aD),.map D,.map O] (aR [.box 104 [.own 1001 0],.box 109 [.rw 1002,.mpr 1003,.mpr 1004],.row 33 3 (s.map aD),.map D,.map O] (.bool (l.any q))):=by
 have a:=S1 s D O l q h;have e:=uz q l;generalize fidx q l 0=n at a e;refine af Tryz.func45 xj rfl fun b _=>?_;refine callO [1000,1001,1002,1003,1004] [1000,1001,1002,1003,1004] a rfl rfl rfl rfl rfl fun _ _=>?_;exact bP [1000,1001,1002,1003,1004] rfl rfl rfl (vz C.bool e)
theorem UN (s:List Ty) (D O:List (C×C)) (x:Ty) (b:Bool) (h:CallsT P 72 [.own 1000 0,aP x] (SU s D O) (aR (SU s D O) (.bool b))) :
  CallsT P 84 [aP x,.own 1000 0] [.box 104 [.own 1001 0],.box 109 [.rw 1002,.mpr 1003,.mpr 1004],.row 33 3 (s.map aD),.map D,.map O] (aR [.box 104 [.own 1001 0],.box 109 [.rw 1002,.mpr 1003,.mpr 1004],.row 33 3 (s.map aD),.map D,.map O] (.bool (!b))):=by
 refine af Tryz.func84 Hg rfl fun a _=>?_;refine callO [1001,1002,1003,1004] [1001,1002,1003,1004] h rfl rfl rfl rfl rfl fun _ _=>?_;exact bP [1000,1001,1002,1003,1004] rfl rfl rfl rfl
theorem Rx (s:List Ty) (D O:List (C×C)):∀t:Ty,CallsT P 72 [.own 1000 0,aP t] (SU s D O) (aR (SU s D O) (.bool (ins s.length t))):=cV fun t d=>by
 have h49:=S2 s D O t.args (fun x=>!ins s.length x) fun x e=>UN s D O x _ (d x e);rw[Hy];generalize(t.args.any fun x=>!ins s.length x)=b at h49 ⊢;have a:(s.map aD).length=s.length:=xo _;have c:(t.args.map aD).length=t.args.length:=xo _;refine af Tryz.func72 He rfl fun f _=>?_;refine ah (fun h1=>?_) (fun h1=>?_)
 ·exact bP [1000,1001,1002,1003] rfl rfl rfl (vz C.bool (by rw[fo (Or.inl h1)]))
 refine ah (fun h2=>?_) (fun h2=>?_)
 ·exact bP [1000,1001,1002,1003] rfl rfl rfl (vz C.bool (by rw[fo (Or.inr h2)]))
 have h12:¬(t.kind<1\/9<t.kind):=fun q=>q.elim (fun q=>h1 q) (fun q=>h2 q);refine ah (fun h3=>?_) (fun h3=>?_)
 ·refine ah (fun h4=>?_) (fun h4=>?_)
  ·skip
   refine ah (fun h5=>?_) (fun h5=>?_)
   ·exact bP [1000,1001,1002,1003] rfl rfl rfl (vz C.bool (by rw[o5 h12,fo h3,aaP (show(0:Int)<=t.id from h4),aaP (show t.id<(s.length:Int) from by rw[a] at h5;exact h5),aaW,aaW];exact decide_eq_decide.2 (by rw[c];omega)))
   ·exact bP [1000,1001,1002,1003] rfl rfl rfl (vz C.bool (by rw[o5 h12,fo h3,aaS (show¬t.id<(s.length:Int) from by rw[a] at h5;exact h5),abl,aaY]))
  ·exact bP [1000,1001,1002,1003] rfl rfl rfl (vz C.bool (by rw[o5 h12,fo h3,aaS (show¬(0:Int)<=t.id from h4),aaY,aaY]))
 refine callO [2,1000,1001,1002,1003] [2,1000,1001,1002,1003] h49 rfl rfl rfl rfl rfl fun _ _=>?_;exact bP [1000,1001,1002,1003] rfl rfl rfl (vz C.bool (by rw[o5 h12,o5 h3]))
theorem S3 (k n:Nat) (D O:List (C×C)) (l:List Ty) (q:Ty->Bool) (h:∀x∈l,CallsT P 84 [aP x,.own 1000 0] [.box 104 [.own 1001 0],.box 109 [.opq k,.mpr 1002,.mpr 1003],.map D,.map O] (aR [.box 104 [.own 1001 0],.box 109 [.opq k,.mpr 1002,.mpr 1003],.map D,.map O] (.bool (q x)))) :
  CallsT P 76 [.sl (l.map aD),.fn 84 [] [.own 1000 0]] [.box 104 [.own 1001 0],.box 109 [.opq k,.mpr 1002,.mpr 1003],.map D,.map O] (aR [.box 104 [.own 1001 0],.box 109 [.opq k,.mpr 1002,.mpr 1003],.map D,.map O] (IC (fidx q l 0))):=by
 have e:(l.map aD).length=l.length:=xo _;refine af Tryz.func76 xu rfl fun o _=>?_;have m:l.length<=9223372036854775807:=fB o.1;refine bN l.length 8 [] () (fun _=>[]) (fun _=>[(1000,.box 104 [.own 1001 0]),(1001,.box 109 [.opq k,.mpr 1002,.mpr 1003]),(1002,.map D),(1003,.map O)]) (fun k _=>fidx q (l.drop k) k=fidx q l 0) rfl (ai rfl) trivial ⟨.inl ⟨_,rfl,.inl ⟨rfl,rfl⟩⟩,.inl ⟨_,rfl,.inl ⟨rfl,rfl⟩⟩,.inl ⟨_,rfl,.inl ⟨rfl,rfl⟩⟩,.inl ⟨_,rfl,.inl ⟨rfl,rfl⟩⟩,trivial⟩ (fun _=>rfl) (fun _=>rfl) ?_;rintro k _ r b _ _ _;refine ah (fun a=>?_) (fun c=>?_)
 ·have a:k<l.length:=by rw[e] at a;omega
  refine bf a fun x p f d=>?_;refine cA p ?_;refine callO [1000,1001,1002,1003] [1000,1001,1002,1003] (h x f) rfl rfl rfl rfl rfl fun _ _=>?_;refine aq (fun j=>?_) (fun j=>?_)
  ·exact bP [1000,1001,1002,1003] rfl rfl rfl (vz IC (uw d b j))
  ·refine Fit.aae (by omega) (by omega) ?_;exact⟨(k+1,()),⟨a,xC d b j⟩,⟨bw,trivial⟩,⟨.inl ⟨_,rfl,.inl ⟨rfl,rfl⟩⟩,.inl ⟨_,rfl,.inl ⟨rfl,rfl⟩⟩,.inl ⟨_,rfl,.inl ⟨rfl,rfl⟩⟩,.inl ⟨_,rfl,.inl ⟨rfl,rfl⟩⟩,trivial⟩,bB a⟩
 ·have c:¬k<l.length:=by rw[e] at c;omega
  exact bP [1000,1001,1002,1003] rfl rfl rfl (vz IC (uy c b))
theorem S5 (k n:Nat) (D O:List (C×C)) (l:List Ty) (q:Ty->Bool) (h:∀x∈l,CallsT P 84 [aP x,.own 1000 0] [.box 104 [.own 1001 0],.box 109 [.opq k,.mpr 1002,.mpr 1003],.map D,.map O] (aR [.box 104 [.own 1001 0],.box 109 [.opq k,.mpr 1002,.mpr 1003],.map D,.map O] (.bool (q x)))) :
  CallsT P 45 [.sl (l.map aD),.fn 84 [] [.own 1000 0]] [.box 104 [.own 1001 0],.box 109 [.opq k,.mpr 1002,.mpr 1003],.map D,.map O] (aR [.box 104 [.own 1001 0],.box 109 [.opq k,.mpr 1002,.mpr 1003],.map D,.map O] (.bool (l.any q))):=by
 have a:=S3 k n D O l q h;have e:=uz q l;generalize fidx q l 0=n at a e;refine af Tryz.func45 xj rfl fun b _=>?_;refine callO [1000,1001,1002,1003] [1000,1001,1002,1003] a rfl rfl rfl rfl rfl fun _ _=>?_;exact bP [1000,1001,1002,1003] rfl rfl rfl (vz C.bool e)
theorem UO (k n:Nat) (D O:List (C×C)) (x:Ty) (b:Bool) (h:CallsT P 72 [.own 1000 0,aP x] (SO k D O) (aR (SO k D O) (.bool b))) :
  CallsT P 84 [aP x,.own 1000 0] [.box 104 [.own 1001 0],.box 109 [.opq k,.mpr 1002,.mpr 1003],.map D,.map O] (aR [.box 104 [.own 1001 0],.box 109 [.opq k,.mpr 1002,.mpr 1003],.map D,.map O] (.bool (!b))):=by
 refine af Tryz.func84 Hg rfl fun a _=>?_;refine callO [1001,1002,1003] [1001,1002,1003] h rfl rfl rfl rfl rfl fun _ _=>?_;exact bP [1000,1001,1002,1003] rfl rfl rfl rfl
theorem UQ (k n:Nat) (D O:List (C×C)) (h:si k=some n) (d:n<=9223372036854775807):∀t:Ty,CallsT P 72 [.own 1000 0,aP t] (SO k D O) (aR (SO k D O) (.bool (ins n t))):=cV fun t e=>by
 have h49:=S5 k n D O t.args (fun x=>!ins n x) fun x f=>UO k n D O x _ (e x f);rw[Hy];generalize(t.args.any fun x=>!ins n x)=b at h49 ⊢;have c:n=n:=rfl;have a:(t.args.map aD).length=t.args.length:=xo _;refine af Tryz.func72 He rfl fun j _=>?_;refine ah (fun h1=>?_) (fun h1=>?_)
 ·exact bP [1000,1001,1002] rfl rfl rfl (vz C.bool (by rw[fo (Or.inl h1)]))
 refine ah (fun h2=>?_) (fun h2=>?_)
 ·exact bP [1000,1001,1002] rfl rfl rfl (vz C.bool (by rw[fo (Or.inr h2)]))
 have h12:¬(t.kind<1\/9<t.kind):=fun q=>q.elim (fun q=>h1 q) (fun q=>h2 q);refine ah (fun h3=>?_) (fun h3=>?_)
 ·refine ah (fun h4=>?_) (fun h4=>?_)
  ·skip
   refine Kv.mk ⟨n,h,d,?_⟩;refine ah (fun h5=>?_) (fun h5=>?_)
   ·exact bP [1000,1001,1002] rfl rfl rfl (vz C.bool (by rw[o5 h12,fo h3,aaP (show(0:Int)<=t.id from h4),aaP (show t.id<(n:Int) from h5),aaW,aaW];exact decide_eq_decide.2 (by rw[a];omega)))
   ·exact bP [1000,1001,1002] rfl rfl rfl (vz C.bool (by rw[o5 h12,fo h3,aaS (show¬t.id<(n:Int) from h5),abl,aaY]))
  ·exact bP [1000,1001,1002] rfl rfl rfl (vz C.bool (by rw[o5 h12,fo h3,aaS (show¬(0:Int)<=t.id from h4),aaY,aaY]))
 refine callO [2,1000,1001,1002] [2,1000,1001,1002] h49 rfl rfl rfl rfl rfl fun _ _=>?_;exact bP [1000,1001,1002] rfl rfl rfl (vz C.bool (by rw[o5 h12,o5 h3]))
theorem LJ {s:List Ty}{i:Nat}{x:Ty}{K:List C->Prop}(a:s[i]?=some x) (h:K [IC x.kind]):FA (s.map aD) i 0 1 K :=
 ⟨[IC x.kind,IC x.id,.sl (x.args.map aD)],by rw[aa6,a,abt,iM],rfl,h⟩
theorem S6 {s:List Ty}{i:Nat}{x:Ty}{K:List C->Prop}(a:s[i]?=some x) (h:K [IC x.kind,IC x.id,.sl (x.args.map aD)]):FA (s.map aD) i 0 3 K :=
 ⟨[IC x.kind,IC x.id,.sl (x.args.map aD)],by rw[aa6,a,abt,iM],rfl,h⟩
theorem nO {s:List Ty}{z:Int}{x:Ty}{K:List C->Prop}(h0:0<=z) (a:s[z.toNat]?=some x) (h:K [IC x.kind,IC x.id,.sl (x.args.map aD)]):tL (s.map aD) z 3 K :=
 ⟨_,h0,by rw[aa6,a,abt,iM],rfl,h⟩
theorem CI {s:List Ty}{z:Int}{x:Ty}(h0:0<=z) (a:s[z.toNat]?=some x):z<((s.map aD).length:Int):=by
 have:=(aaT.1 a).1;rw[xo];omega
theorem pJ {s:List Ty}{n:Nat}{c r:Ty}(h:aO s n c=some r):∃m,n=m+1/\((c.kind≠9/\r=c)\/(c.kind=9/\∃x,0<=c.id/\s[c.id.toNat]?=some x/\((x.kind=0/\r=c)\/(x.kind≠0/\aO s m x=some r)))):=by
 cases n with
 | zero=>cases h
 | succ m =>
  refine⟨m,rfl,?_⟩;rw[aO] at h
  by_cases h9:c.kind=9
  ·rw[fo h9] at h;refine .inr ⟨h9,?_⟩;cases he:bO s c with
   | none=>rw[he] at h;cases h
   | some x =>
    rw[he] at h;obtain⟨a,b,_⟩:=bE he;refine⟨x,a,b,?_⟩
    by_cases h0:x.kind=0
    ·refine .inl ⟨h0,?_⟩;simp only[h0,fo] at h;injection h with h;exact h.symm
    ·refine .inr ⟨h0,?_⟩;simp only[h0,abS] at h;exact h
  ·rw[o5 h9] at h;injection h with h
   exact .inl ⟨h9,h.symm⟩
theorem Hz (s:List Ty) (n:Nat) (t r:Ty) (h:aO s n t=some r):CallsT P 85 [.own 1000 0,aP t] (pX s) (aR (pX s) (aP r)):=by
 refine af Tryz.func85 Hh rfl fun l _=>?_;refine vY.mk ⟨Nat×Ty,(n,t),fun x=>aO s x.1 x.2=some r,[],fun _=>[],fun x=>[(3,.box 33 [IC x.2.kind,IC x.2.id,.sl (x.2.args.map aD)]),(4,.box 33 [IC 0,IC 0,.nils]),(1000,.box 109 [.rw 1001,.any,.any]),(1001,.row 33 3 (s.map aD))],fun x=>x.1,h,trivial,
  ⟨.inl ⟨_,rfl,.inl ⟨rfl,rfl⟩⟩,.inl ⟨_,rfl,.inl ⟨rfl,rfl⟩⟩,.inl ⟨_,rfl,.inl ⟨rfl,rfl⟩⟩,.inl ⟨_,rfl,.inl ⟨rfl,rfl⟩⟩,trivial⟩,fun _=>rfl,fun _=>rfl,?_⟩
 rintro⟨n,c⟩ b _ _;refine qe (pJ b) fun m j=>?_;refine ah (fun h9=>?_) (fun h9=>?_)
 ·refine qe (j.2.resolve_left fun q=>q.1 h9).2 fun x f=>?_;have h0:=f.1;have d:=f.2.1;refine zV.mk (by simpa using h0) (CI h0 d) ?_;refine LJ d ?_;refine aV (fun k=>?_) (fun k=>?_)
  ·have a:=f.2.2.resolve_left fun q=>k q.1;refine zV.mk (by simpa using h0) (CI h0 d) ?_;refine S6 d ?_;exact⟨(m,x),a.2,trivial,⟨.inl ⟨_,rfl,.inl ⟨rfl,rfl⟩⟩,.inl ⟨_,rfl,.inl ⟨rfl,rfl⟩⟩,.inl ⟨_,rfl,.inl ⟨rfl,rfl⟩⟩,.inl ⟨_,rfl,.inl ⟨rfl,rfl⟩⟩,trivial⟩,by have e:n=m+1:=j.1;show m<n;omega⟩
  ·have a:=f.2.2.resolve_right fun q=>q.1 k;exact bP [1000,1001] rfl rfl rfl (by rw[a.2];rfl)
 ·have a:=j.2.resolve_right fun q=>h9 q.1;exact bP [1000,1001] rfl rfl rfl (by rw[a.2];rfl)
theorem UU (s:List Ty) (n:Nat) (t r:Ty) (h:aO s n t=some r):CallsT P 85 [.own 1000 0,aP t] (Fc s) (aR (Fc s) (aP r)):=by
 refine af Tryz.func85 Hh rfl fun l _=>?_;refine vY.mk ⟨Nat×Ty,(n,t),fun x=>aO s x.1 x.2=some r,[],fun _=>[],fun x=>[(3,.box 33 [IC x.2.kind,IC x.2.id,.sl (x.2.args.map aD)]),(4,.box 33 [IC 0,IC 0,.nils]),(1000,.box 109 [.sl (s.map aD),.any,.any])],fun x=>x.1,h,trivial,
  ⟨.inl ⟨_,rfl,.inl ⟨rfl,rfl⟩⟩,.inl ⟨_,rfl,.inl ⟨rfl,rfl⟩⟩,.inl ⟨_,rfl,.inl ⟨rfl,rfl⟩⟩,trivial⟩,fun _=>rfl,fun _=>rfl,?_⟩
 rintro⟨n,c⟩ b _ _;refine qe (pJ b) fun m f=>?_;refine ah (fun h9=>?_) (fun h9=>?_)
 ·refine qe (f.2.resolve_left fun q=>q.1 h9).2 fun x d=>?_;have h0:=d.1;have k:=d.2.1;refine nO h0 k ?_;refine aV (fun j=>?_) (fun j=>?_)
  ·have a:=d.2.2.resolve_left fun q=>j q.1;refine nO h0 k ?_;exact⟨(m,x),a.2,trivial,⟨.inl ⟨_,rfl,.inl ⟨rfl,rfl⟩⟩,.inl ⟨_,rfl,.inl ⟨rfl,rfl⟩⟩,.inl ⟨_,rfl,.inl ⟨rfl,rfl⟩⟩,trivial⟩,by have e:n=m+1:=f.1;show m<n;omega⟩
  ·have a:=d.2.2.resolve_right fun q=>q.1 j;exact bP [1000] rfl rfl rfl (by rw[a.2];rfl)
 ·have a:=f.2.resolve_right fun q=>h9 q.1;exact bP [1000] rfl rfl rfl (by rw[a.2];rfl)
theorem UW (s:List Ty) (v:Int) (l:List Ty) (q:Ty->Bool) (h:∀x∈l,CallsT P 95 [aP x,.own 1000 0,.pt [IC v] 0] [.box 104 [.own 1001 0],.box 109 [.rw 1002,.any,.any],.row 33 3 (s.map aD)] (aR [.box 104 [.own 1001 0],.box 109 [.rw 1002,.any,.any],.row 33 3 (s.map aD)] (.bool (q x)))) :
  CallsT P 76 [.sl (l.map aD),.fn 95 [] [.own 1000 0,.pt [IC v] 0]] [.box 104 [.own 1001 0],.box 109 [.rw 1002,.any,.any],.row 33 3 (s.map aD)] (aR [.box 104 [.own 1001 0],.box 109 [.rw 1002,.any,.any],.row 33 3 (s.map aD)] (IC (fidx q l 0))):=by
 have e:(l.map aD).length=l.length:=xo _;refine af Tryz.func76 xu rfl fun n _=>?_;have m:l.length<=9223372036854775807:=fB n.1;refine bN l.length 8 [] () (fun _=>[]) (fun _=>[(1000,.box 104 [.own 1001 0]),(1001,.box 109 [.rw 1002,.any,.any]),(1002,.row 33 3 (s.map aD))]) (fun k _=>fidx q (l.drop k) k=fidx q l 0) rfl (ai rfl) trivial ⟨.inl ⟨_,rfl,.inl ⟨rfl,rfl⟩⟩,.inl ⟨_,rfl,.inl ⟨rfl,rfl⟩⟩,.inl ⟨_,rfl,.inl ⟨rfl,rfl⟩⟩,trivial⟩ (fun _=>rfl) (fun _=>rfl) ?_;rintro k _ p b _ _ _;refine ah (fun a=>?_) (fun c=>?_)
 ·have a:k<l.length:=by rw[e] at a;omega
  refine bf a fun x o f d=>?_;refine cA o ?_;refine callO [1000,1001,1002] [1000,1001,1002] (h x f) rfl rfl rfl rfl rfl fun _ _=>?_;refine aq (fun j=>?_) (fun j=>?_)
  ·exact bP [1000,1001,1002] rfl rfl rfl (vz IC (uw d b j))
  ·refine Fit.aae (by omega) (by omega) ?_;exact⟨(k+1,()),⟨a,xC d b j⟩,⟨bw,trivial⟩,⟨.inl ⟨_,rfl,.inl ⟨rfl,rfl⟩⟩,.inl ⟨_,rfl,.inl ⟨rfl,rfl⟩⟩,.inl ⟨_,rfl,.inl ⟨rfl,rfl⟩⟩,trivial⟩,bB a⟩
 ·have c:¬k<l.length:=by rw[e] at c;omega
  exact bP [1000,1001,1002] rfl rfl rfl (vz IC (uy c b))
theorem UX (s:List Ty) (v:Int) (l:List Ty) (q:Ty->Bool) (h:∀x∈l,CallsT P 95 [aP x,.own 1000 0,.pt [IC v] 0] [.box 104 [.own 1001 0],.box 109 [.rw 1002,.any,.any],.row 33 3 (s.map aD)] (aR [.box 104 [.own 1001 0],.box 109 [.rw 1002,.any,.any],.row 33 3 (s.map aD)] (.bool (q x)))) :
  CallsT P 45 [.sl (l.map aD),.fn 95 [] [.own 1000 0,.pt [IC v] 0]] [.box 104 [.own 1001 0],.box 109 [.rw 1002,.any,.any],.row 33 3 (s.map aD)] (aR [.box 104 [.own 1001 0],.box 109 [.rw 1002,.any,.any],.row 33 3 (s.map aD)] (.bool (l.any q))):=by
 have a:=UW s v l q h;have e:=uz q l;generalize fidx q l 0=n at a e;refine af Tryz.func45 xj rfl fun b _=>?_;refine callO [1000,1001,1002] [1000,1001,1002] a rfl rfl rfl rfl rfl fun _ _=>?_;exact bP [1000,1001,1002] rfl rfl rfl (vz C.bool e)
theorem oG {f:Ty->Option Bool}:∀{l:List Ty}{b:Bool},wM f l=some b->(∀x∈l,f x=some ((f x).getD false))/\l.any (fun x=>(f x).getD false)=b
 | [],b,h=>by
  rw[wM] at h;injection h with h
  exact⟨by simp,by rw[<-h];rfl⟩
 | x::l,b,h=>by
  rw[wM] at h;cases c:f x with
  | none=>rw[c] at h;cases h
  | some a =>
   rw[c] at h;cases e:wM f l with
   | none=>rw[e] at h;cases h
   | some j =>
    rw[e] at h;injection h with h
    obtain⟨i1,i2⟩:=oG e;refine⟨fun y d=>?_,?_⟩
    ·rcases aaX.1 d with rfl | d
     ·rw[c];rfl
     ·exact i1 y d
    ·rw[abD,i2,c];exact h
theorem t95 (s:List Ty) (v:Int) (x:Ty) (b:Bool) (h:CallsT P 86 [.own 1000 0,IC v,aP x] (pX s) (aR (pX s) (.bool b))) :
  CallsT P 95 [aP x,.own 1000 0,.pt [IC v] 0] [.box 104 [.own 1001 0],.box 109 [.rw 1002,.any,.any],.row 33 3 (s.map aD)] (aR [.box 104 [.own 1001 0],.box 109 [.rw 1002,.any,.any],.row 33 3 (s.map aD)] (.bool b)):=by
 refine af Tryz.func95 Pt rfl fun a _=>?_;refine callO [1001,1002] [1001,1002] h rfl rfl rfl rfl rfl fun _ _=>?_;exact bP [1000,1001,1002] rfl rfl rfl rfl
theorem Xk (s:List Ty) (v:Int) (t r:Ty) (h:CallsT P 85 [.own 1000 0,aP t] (pX s) (aR (pX s) (aP r))) (h9:r.kind=9) :
  CallsT P 86 [.own 1000 0,IC v,aP t] (pX s) (aR (pX s) (.bool (decide (r.id=v)))):=by
 refine af Tryz.func86 Hj rfl fun a _=>?_;refine callO [1000,1001] [1000,1001] h rfl rfl rfl rfl rfl fun _ _=>?_;refine ah (fun _=>?_) (fun q=>vv h9 q);exact bP [1000,1001] rfl rfl rfl rfl
theorem Xl (s:List Ty) (v:Int) (t r:Ty) (b:Bool) (h:CallsT P 85 [.own 1000 0,aP t] (pX s) (aR (pX s) (aP r))) (h9:¬r.kind=9)
  (h49:CallsT P 45 [.sl (r.args.map aD),.fn 95 [] [.own 1000 0,.pt [IC v] 0]] [.box 104 [.own 1001 0],.box 109 [.rw 1002,.any,.any],.row 33 3 (s.map aD)] (aR [.box 104 [.own 1001 0],.box 109 [.rw 1002,.any,.any],.row 33 3 (s.map aD)] (.bool b))) :
  CallsT P 86 [.own 1000 0,IC v,aP t] (pX s) (aR (pX s) (.bool b)):=by
 refine af Tryz.func86 Hj rfl fun a _=>?_;refine callO [1000,1001] [1000,1001] h rfl rfl rfl rfl rfl fun _ _=>?_;refine ah (fun q=>vv q h9) (fun _=>?_);refine callO [3,1000,1001] [3,1000,1001] h49 rfl rfl rfl rfl rfl fun _ _=>?_;exact bP [1000,1001] rfl rfl rfl rfl
theorem YR (s:List Ty) (v:Int):∀(n:Nat) (t:Ty) (b:Bool),jI s v n t=some b->CallsT P 86 [.own 1000 0,IC v,aP t] (pX s) (aR (pX s) (.bool b))
 | 0,t,b,h=>by cases h
 | n+1,t,b,h=>by
  rw[jI] at h;cases hf:aO s n t with
  | none=>rw[hf] at h;cases h
  | some r =>
   simp only[hf] at h
   by_cases h9:r.kind=9
   ·rw[fo h9] at h;injection h with h
    rw[<-h];exact Xk s v t r (Hz s n t r hf) h9
   ·rw[o5 h9] at h;obtain⟨h1,h2⟩:=oG h;have h49:=UX s v r.args (fun x=>(jI s v n x).getD false) fun x a=>t95 s v x _ (YR s v n x _ (h1 x a));rw[h2] at h49;exact Xl s v t r b (Hz s n t r hf) h9 h49
section
variable {P:Program}{L:TL}{ρ:aG}
theorem vG {R:List TO->C->Prop}(ko:List Nat) {Lin Mo Lo:List TO}{v x:C}(b:L.sub ko=some Mo) (a:(T.aU ko&&aJ Lin (List.range' 1000 Lin.length) ko)=true) (c:Mo.map (TO.aad (C.ren (bh ko 1000)))=Lo) (e:v.aao.ren (bh ko 1000)=x) (h:R Lo x):eS Lin L v R:=by
 simp only[aaN] at a;exact⟨[],ko,L,v,v,Mo,rfl,.inl ⟨rfl,rfl⟩,b,a.1,a.2,fun _=>by rw[c,e];exact h⟩
theorem oP.imp {P:Program}{f:FuncId}{args:Array Value}{F:aA}{Lin:List Own}{R R':aA->List Own->Value->Prop}{Pp Pp':Value->Prop}(h:oP P f args F Lin R Pp)
  (c:∀F G L v,F.le G->R' F L v->R' G L v) (l:∀F L v,R F L v->R' F L v) (b:∀v,Pp v->Pp' v):oP P f args F Lin R' Pp' :=
 ⟨h.ent,c,fun w j=>(h.run w j).mono fun e w' k=>by
  rcases k with⟨v,F',Lo,h1,h2,h3,h4⟩ | ⟨v,a,F',Lo,h1,d,h2,h3,h4,h5,h6⟩
  ·exact .inl ⟨v,F',Lo,h1,h2,h3,l _ _ _ h4⟩
  ·exact .inr ⟨v,a,F',Lo,h1,d,h2,h3,h4,h5,b v h6⟩⟩
theorem CallsTX.imp {P:Program}{f:Nat}{args:List C}{Lin:List TO}{R R':List TO->C->Prop}{Pp Pp':Value->Prop}(h:CallsTX P f args Lin R Pp)
  (m:∀Mo c,R Mo c->R' Mo c) (d:∀v,Pp v->Pp' v):CallsTX P f args Lin R' Pp' :=
 ⟨fun F Li a h1 h2 h3=>oP.imp (h.out F Li a h1 h2 h3) gQ.aap (fun F L v ⟨Mo,c,l,j,b,k,e⟩=>⟨Mo,c,l,j,b,k,m _ _ e⟩) d⟩
theorem je (ks:List Nat) {PS:qa}{Pp:Value->Prop}{fb:List Nat}{f:Nat}{args a:List C}{K:TL->aG->C->Prop}{x:C}{Lin Lin' Lo:List TO}(h:CallsTX P f a Lin' (aR Lo x) Pp) (s:L.sub ks=some Lin)
  (d:(T.aU ks&&rX ks fb&&aJ Lin ks ks&&kY L ks PS.hb)=true) (n:(args.map fun c=>c.aaj.ren (bh ks 1000))=a) (j:Lin.map (TO.aad (C.ren (bh ks 1000)))=Lin') (l:ks.length=Lo.length) (e:∀v,Pp v->PS.ps v)
  (k:Wf x->(∀o∈Lo,o.Wf)->K (((L.aaf ks).kills (rowsOf L ks)).puts ks (Lo.map (TO.aad (C.ren (aN ks))))) (ef (rowsOf L ks) ρ) (x.ren (aN ks)).slt):rp P PS fb f args L ρ K:=by
 subst n j;simp only[aaN] at d;obtain⟨⟨⟨r,q⟩,c3⟩,c4⟩:=d;exact⟨ks,Lin,_,_,s,r,q,c3,c4,h,e,fun v Mo ⟨m,t⟩ p b=>by subst m t;exact⟨l,k p b⟩⟩
end
theorem uF {els:List (List C)}{j off n:Nat}{a:List C}{K:List C->Prop}(h:els[j]?=some a) (b:fG ((a.drop off).take n) n=true) (k:K a):FA els j off n fun _=>∀es,els[j]?=some es->K es :=
 ⟨a,h,b,fun es he=>by rw[h] at he;injection he with he;rw[<-he];exact k⟩
theorem LK {s:List Ty}{j:Nat}{t:Ty}:(s.map aD).set j [IC t.kind,IC t.id,.sl (t.args.map aD)]=(s.set j t).map aD:=by
 rw[List.map_set,iM]
theorem LL {s:List Ty}{i:Nat}{x:Ty}(a:s[i]?=some x):(s.map aD)[i]?=some [IC x.kind,IC x.id,.sl (x.args.map aD)]:=by rw[aa6,a,abt,iM]
def dh (e:Int):Value:=.iface 113 (.agg #[.int .i64 e])
abbrev uG (s:List Ty) (t r:Ty):Prop:=CallsT P 85 [.own 1000 0,aP t] (pX s) (aR (pX s) (aP r))
abbrev sQ (s:List Ty) (a b:Ty) (R:List TO->C->Prop) (Pp:Value->Prop):Prop:=CallsTX P 73 [.own 1000 0,aP a,aP b] (pX s) R Pp
theorem LM (s:List Ty) (a b a' c:Ty) (d:uG s a a') (hb:uG s b c) (h1:a'.kind=9) (h2:c.kind=9) (h3:a'.id=c.id):sQ s a b (aR (pX s) (.tup [])) (fun _=>False):=by
 refine bR Tryz.func73 pH rfl fun e _=>?_;refine je [1000,1001] d.toX rfl rfl rfl rfl rfl (fun _ h=>h) fun _ _=>?_;refine je [1000,1001] hb.toX rfl rfl rfl rfl rfl (fun _ h=>h) fun _ _=>?_;refine ah (fun _=>?_) (fun q=>vv h1 q);refine ah (fun _=>?_) (fun q=>vv h2 q);refine aV (fun q=>vv h3 q) (fun _=>?_);exact bP [1000,1001] rfl rfl rfl rfl
def RE (r:Option (List Ty)):List TO->C->Prop:=fun Mo v=>∃s',r=some s'/\Mo=pX s'/\v=.tup []
def PE (r:Option (List Ty)):Value->Prop:=fun v=>r=none/\v=dh 8
section
variable {L:TL}{ρ:aG}
theorem Ry (ks:List Nat) {PS:qa}{args a:List C}{K:TL->aG->C->Prop}{s:List Ty}{r:Option (List Ty)}{Lin:List TO}(h:CallsTX P 73 a (pX s) (RE r) (PE r)) (o:L.sub ks=some Lin)
  (b:(T.aU ks&&T.kE L ks ks&&aJ Lin ks ks&&kY L ks PS.hb)=true) (m:(args.map fun c=>c.aaj.ren (bh ks 1000))=a) (f:Lin.map (TO.aad (C.ren (bh ks 1000)))=pX s) (j:ks.length=2) (e:∀v,PE r v->PS.ps v)
  (k:∀s',r=some s'->K (((L.aaf ks).kills (rowsOf L ks)).puts ks ((pX s').map (TO.aad (C.ren (aN ks))))) (ef (rowsOf L ks) ρ) (.tup [])):pz P PS 73 args L ρ K:=by
 subst m;simp only[aaN] at b;obtain⟨⟨⟨d,n⟩,c3⟩,c4⟩:=b;refine⟨[],ks,ks,L,Lin,_,_,.inl rfl,o,d,d,n,c3,c4,by rw[f];exact h,e,?_⟩;rintro v Mo ⟨s',l,rfl,rfl⟩ q p;exact⟨j,k s' l⟩
theorem S7 (ks:List Nat) {PS:qa}{fb:List Nat}{args a:List C}{K:TL->aG->C->Prop}{s:List Ty}{r:Option (List Ty)}{Lin:List TO}(h:CallsTX P 73 a (pX s) (RE r) (PE r)) (o:L.sub ks=some Lin)
  (b:(T.aU ks&&rX ks fb&&aJ Lin ks ks&&kY L ks PS.hb)=true) (l:(args.map fun c=>c.aaj.ren (bh ks 1000))=a) (e:Lin.map (TO.aad (C.ren (bh ks 1000)))=pX s) (f:ks.length=2) (d:∀v,PE r v->PS.ps v)
  (k:∀s',r=some s'->K (((L.aaf ks).kills (rowsOf L ks)).puts ks ((pX s').map (TO.aad (C.ren (aN ks))))) (ef (rowsOf L ks) ρ) (.tup [])):rp P PS fb 73 args L ρ K:=by
 subst l;simp only[aaN] at b;obtain⟨⟨⟨m,n⟩,c3⟩,c4⟩:=b;refine⟨ks,Lin,_,_,o,m,n,c3,c4,by rw[e];exact h,d,?_⟩;rintro v Mo ⟨s',j,rfl,rfl⟩ q p;exact⟨f,k s' j⟩
end
theorem LN {a b:Int}(h:Wf (IC a)) (k:Wf (IC b)):Wf (IC (if b>a then b else a)):=by split<;>assumption
theorem S8 {a b:Int}(h:Wf (IC a)) (k:Wf (IC b)):Wf (IC (if b<a then b else a)):=by split<;>assumption
theorem mmV (h:True) (a b:Int):(if b>a then b else a)=max a b:=by split<;>omega
theorem mmN (h:True) (a b:Int):(if b<a then b else a)=min a b:=by split<;>omega
theorem Bv (s:List Ty) (a b a' d x:Ty) (p:uG s a a') (hb:uG s b d) (h1:a'.kind=9) (h2:d.kind=9) (h3:¬a'.id=d.id) (h0:0<=max a'.id d.id) (o:s[(max a'.id d.id).toNat]?=some x) :
  sQ s a b (aR (pX (s.set (max a'.id d.id).toNat (.mk 9 (min a'.id d.id) []))) (.tup [])) (fun _=>False):=by
 have n:=mmV trivial a'.id d.id;have m:=mmN trivial a'.id d.id;have c:=LK (s:=s) (j:=(max a'.id d.id).toNat) (t:=.mk 9 (min a'.id d.id) []);have f:=LL o;have e:=CI h0 o;generalize s.set (max a'.id d.id).toNat (.mk 9 (min a'.id d.id) [])=s' at c ⊢;rw[<-n] at c f h0 e;rw[<-m] at c;refine bR Tryz.func73 pH rfl fun r _=>?_;refine je [1000,1001] p.toX rfl rfl rfl rfl rfl (fun _ h=>h) fun l _=>?_;refine je [1000,1001] hb.toX rfl rfl rfl rfl rfl (fun _ h=>h) fun k _=>?_;refine ah (fun _=>?_) (fun q=>vv h1 q);refine ah (fun _=>?_) (fun q=>vv h2 q);refine aV (fun _=>?_) (fun q=>vv q h3);refine⟨?_,⟨?_,?_⟩⟩
 ·exact LN l.2.1 k.2.1
 ·exact S8 l.2.1 k.2.1
 refine zV.mk h0 e ?_;refine⟨rfl,uF f rfl ?_⟩;exact bP [1000,1001] rfl rfl (vz (fun q=>[TO.box 109 [.rw 1001,.any,.any],.row 33 3 q]) c) rfl
theorem P3 (s:List Ty) (a b a' c:Ty) (d:uG s a a') (hb:uG s b c) (h1:a'.kind=9) (h2:¬c.kind=9) (e:CallsT P 86 [.own 1000 0,IC a'.id,aP c] (pX s) (aR (pX s) (.bool true))) :
  sQ s a b (fun _ _=>False) (PE none):=by
 refine bR Tryz.func73 pH rfl fun f _=>?_;refine je (Pp:=fun _=>False) [1000,1001] d.toX rfl rfl rfl rfl rfl (fun _ h=>False.elim h) fun _ _=>?_;refine je (Pp:=fun _=>False) [1000,1001] hb.toX rfl rfl rfl rfl rfl (fun _ h=>False.elim h) fun _ _=>?_;refine ah (fun _=>?_) (fun q=>vv h1 q);refine ah (fun q=>vv q h2) (fun _=>?_);refine ah (fun _=>?_) (fun q=>vv h1 q);refine callO [1000,1001] [1000,1001] e rfl rfl rfl rfl rfl fun _ _=>?_;exact vq rfl ⟨rfl,rfl⟩
theorem LP (s:List Ty) (a b a' d x:Ty) (l:uG s a a') (hb:uG s b d) (h1:a'.kind=9) (h2:¬d.kind=9) (m:CallsT P 86 [.own 1000 0,IC a'.id,aP d] (pX s) (aR (pX s) (.bool false)))
  (h0:0<=a'.id) (k:s[a'.id.toNat]?=some x):sQ s a b (aR (pX (s.set a'.id.toNat d)) (.tup [])) (fun _=>False):=by
 have c:=LK (s:=s) (j:=a'.id.toNat) (t:=d);have f:=LL k;have e:=CI h0 k;generalize s.set a'.id.toNat d=s' at c ⊢;refine bR Tryz.func73 pH rfl fun n _=>?_;refine je [1000,1001] l.toX rfl rfl rfl rfl rfl (fun _ h=>h) fun _ _=>?_;refine je [1000,1001] hb.toX rfl rfl rfl rfl rfl (fun _ h=>h) fun _ _=>?_;refine ah (fun _=>?_) (fun q=>vv h1 q);refine ah (fun q=>vv q h2) (fun _=>?_);refine ah (fun _=>?_) (fun q=>vv h1 q);refine callO [1000,1001] [1000,1001] m rfl rfl rfl rfl rfl fun _ _=>?_;refine zV.mk h0 e ?_;refine⟨rfl,uF f rfl ?_⟩;exact bP [1000,1001] rfl rfl (vz (fun q=>[TO.box 109 [.rw 1001,.any,.any],.row 33 3 q]) c) rfl
theorem LQ (s:List Ty) (a b a' c:Ty) (r:Option (List Ty)) (d:uG s a a') (hb:uG s b c) (h1:¬a'.kind=9) (h2:c.kind=9) (f:sQ s c a' (RE r) (PE r)):sQ s a b (RE r) (PE r):=by
 refine bR Tryz.func73 pH rfl fun j _=>?_;refine je (Pp:=fun _=>False) [1000,1001] d.toX rfl rfl rfl rfl rfl (fun _ h=>False.elim h) fun _ _=>?_;refine je (Pp:=fun _=>False) [1000,1001] hb.toX rfl rfl rfl rfl rfl (fun _ h=>False.elim h) fun _ _=>?_;refine ah (fun q=>vv q h1) (fun _=>?_);refine ah (fun q=>vv q h1) (fun _=>?_);refine ah (fun _=>?_) (fun q=>vv h2 q);refine Ry [1000,1001] f rfl rfl rfl rfl rfl (fun _ h=>h) fun s' e=>?_;exact vG [1000,1001] rfl rfl rfl rfl ⟨s',e,rfl,rfl⟩
theorem LR (s:List Ty) (a b a' c:Ty) (f:uG s a a') (hb:uG s b c) (h1:¬a'.kind=9) (h2:¬c.kind=9) (h3:a'.kind≠c.kind\/a'.id≠c.id\/a'.args.length≠c.args.length):sQ s a b (fun _ _=>False) (PE none):=by
 have d:(a'.args.map aD).length=a'.args.length:=xo _;have e:(c.args.map aD).length=c.args.length:=xo _;refine bR Tryz.func73 pH rfl fun j _=>?_;refine je (Pp:=fun _=>False) [1000,1001] f.toX rfl rfl rfl rfl rfl (fun _ h=>False.elim h) fun _ _=>?_;refine je (Pp:=fun _=>False) [1000,1001] hb.toX rfl rfl rfl rfl rfl (fun _ h=>False.elim h) fun _ _=>?_;refine ah (fun q=>vv q h1) (fun _=>?_);refine ah (fun q=>vv q h1) (fun _=>?_);refine ah (fun q=>vv q h2) (fun _=>?_);refine aV (fun h4=>?_) (fun h4=>?_)
 ·exact vq rfl ⟨rfl,rfl⟩
 refine aV (fun h5=>?_) (fun h5=>?_)
 ·exact vq rfl ⟨rfl,rfl⟩
 refine aV (fun h6=>?_) (fun h6=>vv h3 (by rw[d,e] at h6;omega));exact vq rfl ⟨rfl,rfl⟩
theorem Jh {f:List Ty->Ty->Ty->Option (Option (List Ty))}{s:List Ty}{x y:Ty}{l b:List Ty}{r:Option (List Ty)}(h:jJ f s (x::l) (y::b)=some r):∃a,f s x y=some a/\(a=none->r=none)/\∀s',a=some s'->jJ f s' l b=some r:=by
 rw[jJ] at h;cases hf:f s x y with
 | none=>simp only[hf] at h;cases h
 | some a =>
  refine⟨a,rfl,?_,?_⟩
  ·rintro rfl;simp only[hf] at h;injection h with h;exact h.symm
  ·rintro s' rfl;simp only[hf] at h;exact h
theorem LS (s:List Ty) (a b a' d:Ty) (ha:uG s a a') (hb:uG s b d) (h1:¬a'.kind=9) (h2:¬d.kind=9) (h3:¬(a'.kind≠d.kind\/a'.id≠d.id\/a'.args.length≠d.args.length))
  (f:List Ty->Ty->Ty->Option (Option (List Ty))) (ih:∀s x y r,f s x y=some r->sQ s x y (RE r) (PE r)) (r:Option (List Ty)) (hr:jJ f s a'.args d.args=some r):sQ s a b (RE r) (PE r):=by
 have m:(a'.args.map aD).length=a'.args.length:=xo _;have t:(d.args.map aD).length=d.args.length:=xo _;have ae:a'.args.length=d.args.length:=by omega
 refine bR Tryz.func73 pH rfl fun hw _=>?_;refine je (Pp:=fun _=>False) [1000,1001] ha.toX rfl rfl rfl rfl rfl (fun _ h=>False.elim h) fun u _=>?_;refine je (Pp:=fun _=>False) [1000,1001] hb.toX rfl rfl rfl rfl rfl (fun _ h=>False.elim h) fun ab _=>?_;have w:a'.args.length<=9223372036854775807:=fB u.2.2.1;refine ah (fun q=>vv q h1) (fun _=>?_);refine ah (fun q=>vv q h1) (fun _=>?_);refine ah (fun q=>vv q h2) (fun _=>?_);refine aV (fun h4=>vv (Or.inl h4) h3) (fun h4=>?_);refine aV (fun h5=>vv (Or.inr (Or.inl h5)) h3) (fun h5=>?_);refine aV (fun h6=>vv (by rw[m,t];omega) h6) (fun h6=>?_);refine bN a'.args.length 39 [] s (fun _=>[]) (fun s=>[(4,.box 33 [IC a'.kind,IC a'.id,.sl (a'.args.map aD)]),(5,.box 33 [IC d.kind,IC d.id,.sl (d.args.map aD)]),(1000,.box 109 [.rw 1001,.any,.any]),(1001,.row 33 3 (s.map aD))]) (fun k s=>jJ f s (a'.args.drop k) (d.args.drop k)=some r) hr (ai rfl) trivial
  ⟨.inl ⟨_,rfl,.inl ⟨rfl,rfl⟩⟩,.inl ⟨_,rfl,.inl ⟨rfl,rfl⟩⟩,.inl ⟨_,rfl,.inl ⟨rfl,rfl⟩⟩,.inl ⟨_,rfl,.inl ⟨rfl,rfl⟩⟩,trivial⟩ (fun _=>rfl) (fun _=>rfl) ?_
 rintro k s hk c _ _ _;refine ah (fun j=>?_) (fun n=>?_)
 ·have j:k<a'.args.length:=by rw[m] at j;omega
  refine bf j fun x hx ac o=>?_;refine bf (l:=d.args) (k:=k) (by omega) fun y z _ p=>?_;have c:=c;rw[o,p] at c;refine qe (Jh c) fun r1 h1=>?_;refine cA hx ?_;refine cA z ?_;refine S7 [1000,1001] (ih s x y r1 h1.1) rfl rfl rfl rfl rfl (fun v q=>⟨h1.2.1 q.1,q.2⟩) fun s' e=>?_;refine Fit.aae (by omega) (by omega) ?_;exact⟨(k+1,s'),⟨j,h1.2.2 s' e⟩,⟨bw,trivial⟩,⟨.inl ⟨_,rfl,.inl ⟨rfl,rfl⟩⟩,.inl ⟨_,rfl,.inl ⟨rfl,rfl⟩⟩,.inl ⟨_,rfl,.inl ⟨rfl,rfl⟩⟩,.inl ⟨_,rfl,.inl ⟨rfl,rfl⟩⟩,trivial⟩,bB j⟩
 ·have n:¬k<a'.args.length:=by rw[m] at n;omega
  have c:=c;rw[bU n,jJ] at c;exact vG [1000,1001] rfl rfl rfl rfl ⟨s,(abB c).symm,rfl,rfl⟩
theorem rG {s:List Ty}:∀{n:Nat}{t r:Ty},aO s n t=some r->r.kind=9->∃x,0<=r.id/\s[r.id.toNat]?=some x/\x.kind=0
 | 0,t,r,h,_=>by cases h
 | n+1,t,r,h,h9=>by
  obtain⟨m,e,h⟩:=pJ h;injection e with e
  subst e;rcases h with⟨h1,rfl⟩ | ⟨h1,x,h2,h3,h4⟩
  ·exact vv h9 h1
  ·rcases h4 with⟨h5,rfl⟩ | ⟨h5,h6⟩
   ·exact⟨x,h2,h3,h5⟩
   ·exact rG h6 h9
theorem LV {s:List Ty}{a b:Ty}{s':List Ty}(h:sQ s a b (aR (pX s') (.tup [])) (fun _=>False)):sQ s a b (RE (some s')) (PE (some s')) :=
 CallsTX.imp h (fun Mo v ⟨d,c⟩=>⟨s',rfl,d,c⟩) fun v q=>q.elim
theorem Rz {s:List Ty}{a b:Ty}(h:sQ s a b (fun _ _=>False) (PE none)):sQ s a b (RE none) (PE none) :=
 CallsTX.imp h (fun Mo v q=>q.elim) fun v q=>q
theorem Xm:∀(n:Nat) (s:List Ty) (a b:Ty) (r:Option (List Ty)),kT n s a b=some r->sQ s a b (RE r) (PE r)
 | 0,s,a,b,r,h=>by cases h
 | n+1,s,a,b,r,h=>by
  rw[kT] at h;cases d:aO s n a with
  | none=>simp only[d] at h;cases h
  | some a' =>
   cases hb:aO s n b with
   | none=>simp only[d,hb] at h;cases h
   | some c =>
    simp only[d,hb] at h;have fa:=Hz s n a a' d;have fb:=Hz s n b c hb
    by_cases h1:a'.kind=9
    ·by_cases h2:c.kind=9
     ·rw[fo ⟨h1,h2⟩] at h
      by_cases h3:a'.id=c.id
      ·rw[fo h3] at h;injection h with h
       subst h;exact LV (LM s a b a' c fa fb h1 h2 h3)
      ·rw[o5 h3] at h;injection h with h
       subst h;obtain⟨x,f,l,_⟩:=rG d h1;obtain⟨y,t,p,_⟩:=rG hb h2;refine LV ?_;rcases Int.le_total a'.id c.id with k | k
       ·have e:max a'.id c.id=c.id:=by omega
        exact Bv s a b a' c y fa fb h1 h2 h3 (by omega) (by rw[e];exact p)
       ·have e:max a'.id c.id=a'.id:=by omega
        exact Bv s a b a' c x fa fb h1 h2 h3 (by omega) (by rw[e];exact l)
     ·rw[o5 (fun q=>h2 q.2),fo h1] at h;obtain⟨x,f,l,_⟩:=rG d h1;cases j:jI s a'.id n c with
      | none=>simp only[j] at h;cases h
      | some o =>
       have m:=YR s a'.id n c o j;cases o
       ·simp only[j] at h;injection h with h
        subst h;exact LV (LP s a b a' c x fa fb h1 h2 m f l)
       ·simp only[j] at h;injection h with h
        subst h;exact Rz (P3 s a b a' c fa fb h1 h2 m)
    ·rw[o5 (fun q=>h1 q.1),o5 h1] at h
     by_cases h2:c.kind=9
     ·rw[fo h2] at h;exact LQ s a b a' c r fa fb h1 h2 (Xm n s c a' r h)
     ·rw[o5 h2] at h
      by_cases h3:a'.kind≠c.kind\/a'.id≠c.id\/a'.args.length≠c.args.length
      ·rw[fo h3] at h;injection h with h
       subst h;exact Rz (LR s a b a' c fa fb h1 h2 h3)
      ·rw[o5 h3] at h;exact LS s a b a' c fa fb h1 h2 h3 (kT n) (fun s x y r q=>Xm n s x y r q) r h
theorem sz3 (l:List Ty):∀es∈l.map aD,es.length=3:=by
 intro es h;obtain⟨t,_,rfl⟩:=abq.1 h;rw[iM];rfl
theorem t68 (l:List Ty) (e:l.length<=2 ^ 30):CallsT P 68 [.sl (l.map aD)] [] (aR [.row 33 3 (l.map aD)] (.rw 1000)):=by
 cases l with
 | nil =>
  refine af Tryz.func68 G9 rfl fun f _=>?_;intro b hb;refine aq (fun h=>?_) (fun h=>?_)
  ·exact WH 5 33 3 rfl rfl
  ·refine wH.mk (fun es he=>by cases he) (show 0+0<=maxLen from abd _) (show(0+0)*40<=_ from abd _) ?_;exact bP [5] rfl rfl rfl rfl
 | cons x l =>
  have a:(x::l).map aD≠[]:=by simp
  have c:=sz3 (x::l);have d:((x::l).map aD).length<=2 ^ 30:=by rw[xo];exact e
  generalize(x::l).map aD=els at a c d ⊢;refine af Tryz.func68 G9 rfl fun f _=>?_;intro b hb;refine aq (fun h=>vv (hb a) (fun q=>by rw[show b=true from h] at q;cases q)) (fun h=>?_);refine wH.mk c ?_ ?_ ?_
  ·show 0+els.length<=maxLen;simp only[maxLen];omega
  ·show(0+els.length)*40<=_;omega
  ·exact bP [5] rfl rfl rfl rfl
theorem El {k:IntKind}{n m:Int}{K:Int->Prop}(h:k.wrap n=m) (a:K m):Fit k n K:=⟨by rw[h];exact a⟩
theorem UY {i:Int}{o:OM}{Y:C->Prop}{N:Prop}(h:br o i=none\/br o i=some false) (k1:Y (.bool false)) (a:N):yq false (j6 C.bool o) (IC i) Y N:=by
 rcases h with h | h
 ·exact Eh h a
 ·exact Eg h k1
def PD (r:Option (Int×DM×OM)):Value->Prop:=fun v=>r=none/\v=dh 1
theorem zn {f:Ty->DM->OM->Option (Option (Int×DM×OM))}{x:Ty}{l:List Ty}{k:Int}{d:DM}{o:OM}{r:Option (Int×DM×OM)}(h:fV f (x::l) k d o=some r) :
  ∃a,f x d o=some a/\(a=none->r=none)/\∀b c o',a=some (b,c,o')->fV f l (if b>k then b else k) c o'=some r:=by
 rw[fV] at h;cases hf:f x d o with
 | none=>simp only[hf] at h;cases h
 | some a =>
  refine⟨a,rfl,?_,?_⟩
  ·rintro rfl;simp only[hf] at h;injection h with h;exact h.symm
  ·rintro b c o' rfl;simp only[hf] at h;exact h
theorem Ji {s:List Ty}{n:Nat}{t:Ty}{d:DM}{o:OM}{r:Option (Int×DM×OM)}(h:bH s (n+1) t d o=some r) :
  ∃x,(if t.kind=9 then bO s t else some (.mk 0 0 []))=some x /\
   (¬x.kind=0->(∃k,br d t.id=some k/\r=some (k,d,o))\/(br d t.id=none/\br o t.id=some true/\r=none) \/
    (br d t.id=none/\(br o t.id=none\/br o t.id=some false)/\∃a,bH s n x d (eV o t.id true)=some a/\(a=none->r=none)/\∀k c o',a=some (k,c,o')->r=some (k,eV c t.id k,o'))) /\
   (x.kind=0->∃a,fV (bH s n) t.args 0 d o=some a/\(a=none->r=none)/\∀k c o',a=some (k,c,o')->r=some (Ek (k+1),c,o')):=by
 rw[bH] at h;split at h
 ·cases h
 rename_i x he;refine⟨x,he,fun j=>?_,fun j=>?_⟩
 ·rw[fo j] at h;split at h
  ·rename_i k hd;injection h with h
   exact .inl ⟨k,hd,h.symm⟩
  ·rename_i hd;split at h
   ·rename_i l;injection h with h
    exact .inr (.inl ⟨hd,l,h.symm⟩)
   ·rename_i l;have f:br o t.id=none\/br o t.id=some false:=by
     cases e:br o t.id with
     | none=>exact .inl rfl
     | some b=>cases b with
      | true=>exact vv e l
      | false=>exact .inr rfl
    refine .inr (.inr ⟨hd,f,?_⟩);cases h1:bH s n x d (eV o t.id true) with
    | none=>simp only[h1] at h;cases h
    | some a =>
     refine⟨a,rfl,?_,?_⟩
     ·rintro rfl;simp only[h1] at h;injection h with h;exact h.symm
     ·rintro k c o' rfl;simp only[h1] at h;injection h with h;exact h.symm
 ·rw[o5 (fun q=>q j)] at h;cases h1:fV (bH s n) t.args 0 d o with
  | none=>simp only[h1] at h;cases h
  | some a =>
   refine⟨a,rfl,?_,?_⟩
   ·rintro rfl;simp only[h1] at h;injection h with h;exact h.symm
   ·rintro k c o' rfl;simp only[h1] at h;injection h with h;exact h.symm
abbrev JH (s:List Ty) (d:DM) (o:OM):List TO:=SU s (j6 IC d) (j6 C.bool o)
def LW (s:List Ty) (r:Option (Int×DM×OM)):List TO->C->Prop:=fun Mo v=>∃k d o,r=some (k,d,o)/\Mo=JH s d o/\v=IC k
abbrev P4 (s:List Ty) (t:Ty) (d:DM) (o:OM) (R:List TO->C->Prop) (Pp:Value->Prop):Prop:=CallsTX P 74 [.own 1000 0,aP t] (JH s d o) R Pp
section
variable {L:TL}{ρ:aG}
theorem CJ (ks:List Nat) {PS:qa}{args a:List C}{K:TL->aG->C->Prop}{s:List Ty}{d:DM}{o:OM}{r:Option (Int×DM×OM)}{Lin:List TO}(h:CallsTX P 74 a (JH s d o) (LW s r) (PD r)) (w:L.sub ks=some Lin)
  (f:(T.aU ks&&T.kE L ks ks&&aJ Lin ks ks&&kY L ks PS.hb)=true) (q:(args.map fun c=>c.aaj.ren (bh ks 1000))=a) (m:Lin.map (TO.aad (C.ren (bh ks 1000)))=JH s d o) (n:ks.length=4) (l:∀v,PD r v->PS.ps v)
  (k:∀b e o',r=some (b,e,o')->Wf (IC b)->K (((L.aaf ks).kills (rowsOf L ks)).puts ks ((JH s e o').map (TO.aad (C.ren (aN ks))))) (ef (rowsOf L ks) ρ) (IC b)):pz P PS 74 args L ρ K:=by
 subst q;simp only[aaN] at f;obtain⟨⟨⟨j,u⟩,c3⟩,c4⟩:=f;refine⟨[],ks,ks,L,Lin,_,_,.inl rfl,w,j,j,u,c3,c4,by rw[m];exact h,l,?_⟩;rintro v Mo ⟨b,e,o',p,rfl,rfl⟩ t x;exact⟨n,k b e o' p t⟩
theorem P5 (ks:List Nat) {PS:qa}{fb:List Nat}{args a:List C}{K:TL->aG->C->Prop}{s:List Ty}{d:DM}{o:OM}{r:Option (Int×DM×OM)}{Lin:List TO}(h:CallsTX P 74 a (JH s d o) (LW s r) (PD r)) (w:L.sub ks=some Lin)
  (f:(T.aU ks&&rX ks fb&&aJ Lin ks ks&&kY L ks PS.hb)=true) (p:(args.map fun c=>c.aaj.ren (bh ks 1000))=a) (l:Lin.map (TO.aad (C.ren (bh ks 1000)))=JH s d o) (m:ks.length=4) (j:∀v,PD r v->PS.ps v)
  (k:∀b e o',r=some (b,e,o')->Wf (IC b)->K (((L.aaf ks).kills (rowsOf L ks)).puts ks ((JH s e o').map (TO.aad (C.ren (aN ks))))) (ef (rowsOf L ks) ρ) (IC b)):rp P PS fb 74 args L ρ K:=by
 subst p;simp only[aaN] at f;obtain⟨⟨⟨t,u⟩,c3⟩,c4⟩:=f;refine⟨ks,Lin,_,_,w,t,u,c3,c4,by rw[l];exact h,j,?_⟩;rintro v Mo ⟨b,e,o',n,rfl,rfl⟩ q x;exact⟨m,k b e o' n q⟩
end
theorem Jj (s:List Ty) (t x:Ty) (d:DM) (o:OM) (k:Int) (h9:t.kind=9) (h0:0<=t.id) (a:s[t.id.toNat]?=some x) (b:¬x.kind=0) (hd:br d t.id=some k):P4 s t d o (LW s (some (k,d,o))) (PD (some (k,d,o))):=by
 refine bR Tryz.func74 xq rfl fun c _=>?_;refine ah (fun _=>?_) (fun q=>vv h9 q);refine zV.mk h0 (CI h0 a) ?_;refine LJ a ?_;refine aV (fun _=>?_) (fun q=>vv q b);refine Eg hd ?_;exact vG [1000,1001,1002,1003] rfl rfl rfl rfl ⟨k,d,o,rfl,rfl,rfl⟩
theorem Jk (s:List Ty) (t x:Ty) (d:DM) (o:OM) (h9:t.kind=9) (h0:0<=t.id) (a:s[t.id.toNat]?=some x) (b:¬x.kind=0) (hd:br d t.id=none) (c:br o t.id=some true):P4 s t d o (LW s none) (PD none):=by
 refine bR Tryz.func74 xq rfl fun e _=>?_;refine ah (fun _=>?_) (fun q=>vv h9 q);refine zV.mk h0 (CI h0 a) ?_;refine LJ a ?_;refine aV (fun _=>?_) (fun q=>vv q b);refine Eh hd ?_;refine Eg c ?_;exact vq rfl ⟨rfl,rfl⟩
theorem LX (s:List Ty) (t x:Ty) (d:DM) (o:OM) (h9:t.kind=9) (h0:0<=t.id) (c:s[t.id.toNat]?=some x) (m:¬x.kind=0) (hd:br d t.id=none) (n:br o t.id=none\/br o t.id=some false)
  (r b:Option (Int×DM×OM)) (h:P4 s x d (eV o t.id true) (LW s b) (PD b)) (j:b=none->r=none) (l:∀k a o',b=some (k,a,o')->r=some (k,eV a t.id k,o')):P4 s t d o (LW s r) (PD r):=by
 refine bR Tryz.func74 xq rfl fun p _=>?_;refine ah (fun _=>?_) (fun q=>vv h9 q);refine zV.mk h0 (CI h0 c) ?_;refine LJ c ?_;refine aV (fun _=>?_) (fun q=>vv q m);refine Eh hd ?_;refine UY n ?_ ?_
 all_goals
  refine P2 (f:=C.bool) (x:=true) rfl ?_;refine zV.mk h0 (CI h0 c) ?_;refine S6 c ?_;refine P5 [1000,1001,1002,1003] h rfl rfl rfl rfl rfl (fun v q=>⟨j q.1,q.2⟩) fun k a o' e _=>?_;refine P2 (f:=IC) (x:=k) rfl ?_;exact vG [1000,1001,1002,1003] rfl rfl rfl rfl ⟨k,_,_,l k a o' e,rfl,rfl⟩
theorem Jl (s:List Ty) (t:Ty) (d:DM) (o:OM) (h9:t.kind=9->∃x,0<=t.id/\s[t.id.toNat]?=some x/\x.kind=0)
  (f:Ty->DM->OM->Option (Option (Int×DM×OM))) (ih:∀x d o r,f x d o=some r->P4 s x d o (LW s r) (PD r)) (r:Option (Int×DM×OM)) (r1:Option (Int×DM×OM)) (h:fV f t.args 0 d o=some r1) (ab:r1=none->r=none) (hr:∀k u o',r1=some (k,u,o')->r=some (Ek (k+1),u,o')):P4 s t d o (LW s r) (PD r):=by
 have p:(t.args.map aD).length=t.args.length:=xo _;refine bR Tryz.func74 xq rfl fun hw _=>?_;have an:t.args.length<=9223372036854775807:=fB hw.2.1.2.2.1;refine ah (fun h9'=>qe (h9 h9') fun x hh=>?_) (fun _=>?_)
 ·have h0:=hh.1;have hx:=hh.2.1;have hk:=hh.2.2;refine zV.mk h0 (CI h0 hx) ?_;refine LJ hx ?_;refine aV (fun q=>vv hk q) (fun _=>?_);refine bN t.args.length 74 [8] ((0:Int),d,o) (fun x=>[IC x.1]) (fun x=>[(1000,.box 109 [.rw 1001,.mpr 1002,.mpr 1003]),(1001,.row 33 3 (s.map aD)),(1002,.map (j6 IC x.2.1)),(1003,.map (j6 C.bool x.2.2))]) (fun k x=>fV f (t.args.drop k) x.1 x.2.1 x.2.2=some r1) h (ai rfl) ⟨ai rfl,trivial⟩
   ⟨.inl ⟨_,rfl,.inl ⟨rfl,rfl⟩⟩,.inl ⟨_,rfl,.inl ⟨rfl,rfl⟩⟩,.inl ⟨_,rfl,.inl ⟨rfl,rfl⟩⟩,.inl ⟨_,rfl,.inl ⟨rfl,rfl⟩⟩,trivial⟩ (fun _=>rfl) (fun _=>rfl) ?_
  rintro k ⟨m,d,o⟩ ae c z _ _;refine ah (fun j=>?_) (fun l=>?_)
  ·have j:k<t.args.length:=by rw[p] at j;omega
   refine bf j fun x w ad y=>?_;have c:=c;rw[y] at c;refine qe (zn c) fun r2 h2=>?_;refine cA w ?_;refine CJ [1000,1001,1002,1003] (ih x d o r2 h2.1) rfl rfl rfl rfl rfl (fun v q=>⟨ab (h2.2.1 q.1▸rfl),q.2⟩) fun n u o' e aa=>?_;refine⟨?_,?_⟩
   ·exact LN (a:=m) (b:=n) z.1 aa
   refine Fit.aae (by omega) (by omega) ?_;exact⟨(k+1,((if n>m then n else m),u,o')),⟨j,h2.2.2 n u o' e⟩,⟨bw,.inr (.inl ⟨rfl,rfl⟩),trivial⟩,⟨.inl ⟨_,rfl,.inl ⟨rfl,rfl⟩⟩,.inl ⟨_,rfl,.inl ⟨rfl,rfl⟩⟩,.inl ⟨_,rfl,.inl ⟨rfl,rfl⟩⟩,.inl ⟨_,rfl,.inl ⟨rfl,rfl⟩⟩,trivial⟩,bB j⟩
  ·have l:¬k<t.args.length:=by rw[p] at l;omega
   have c:=c;rw[bU l,fV] at c;refine El (m:=Ek (m+1)) rfl ?_;exact vG [1000,1001,1002,1003] rfl rfl rfl rfl ⟨Ek (m+1),d,o,hr m d o (abB c).symm,rfl,rfl⟩
 ·skip
  refine bN t.args.length 74 [8] ((0:Int),d,o) (fun x=>[IC x.1]) (fun x=>[(1000,.box 109 [.rw 1001,.mpr 1002,.mpr 1003]),(1001,.row 33 3 (s.map aD)),(1002,.map (j6 IC x.2.1)),(1003,.map (j6 C.bool x.2.2))]) (fun k x=>fV f (t.args.drop k) x.1 x.2.1 x.2.2=some r1) h (ai rfl) ⟨ai rfl,trivial⟩
   ⟨.inl ⟨_,rfl,.inl ⟨rfl,rfl⟩⟩,.inl ⟨_,rfl,.inl ⟨rfl,rfl⟩⟩,.inl ⟨_,rfl,.inl ⟨rfl,rfl⟩⟩,.inl ⟨_,rfl,.inl ⟨rfl,rfl⟩⟩,trivial⟩ (fun _=>rfl) (fun _=>rfl) ?_
  rintro k ⟨m,d,o⟩ ae c z _ _;refine ah (fun j=>?_) (fun l=>?_)
  ·have j:k<t.args.length:=by rw[p] at j;omega
   refine bf j fun x w ad y=>?_;have c:=c;rw[y] at c;refine qe (zn c) fun r2 h2=>?_;refine cA w ?_;refine CJ [1000,1001,1002,1003] (ih x d o r2 h2.1) rfl rfl rfl rfl rfl (fun v q=>⟨ab (h2.2.1 q.1▸rfl),q.2⟩) fun n u o' e aa=>?_;refine⟨?_,?_⟩
   ·exact LN (a:=m) (b:=n) z.1 aa
   refine Fit.aae (by omega) (by omega) ?_;exact⟨(k+1,((if n>m then n else m),u,o')),⟨j,h2.2.2 n u o' e⟩,⟨bw,.inr (.inl ⟨rfl,rfl⟩),trivial⟩,⟨.inl ⟨_,rfl,.inl ⟨rfl,rfl⟩⟩,.inl ⟨_,rfl,.inl ⟨rfl,rfl⟩⟩,.inl ⟨_,rfl,.inl ⟨rfl,rfl⟩⟩,.inl ⟨_,rfl,.inl ⟨rfl,rfl⟩⟩,trivial⟩,bB j⟩
  ·have l:¬k<t.args.length:=by rw[p] at l;omega
   have c:=c;rw[bU l,fV] at c;refine El (m:=Ek (m+1)) rfl ?_;exact vG [1000,1001,1002,1003] rfl rfl rfl rfl ⟨Ek (m+1),d,o,hr m d o (abB c).symm,rfl,rfl⟩
theorem HA (s:List Ty):∀(n:Nat) (t:Ty) (d:DM) (o:OM) (r:Option (Int×DM×OM)),bH s n t d o=some r->P4 s t d o (LW s r) (PD r)
 | 0,t,d,o,r,h=>by cases h
 | n+1,t,d,o,r,h=>by
  obtain⟨x,he,h⟩:=Ji h
  by_cases a:x.kind=0
  ·have h:=h.2 a;obtain⟨e,h1,h2,h3⟩:=h;refine Jl s t d o (fun h9=>?_) (bH s n) (fun x d o r q=>HA s n x d o r q) r e h1 h2 h3;rw[fo h9] at he;obtain⟨b,c,_⟩:=bE he;exact⟨x,b,c,a⟩
  ·have h9:t.kind=9:=by
    by_cases h9:t.kind=9
    ·exact h9
    ·rw[o5 h9] at he;injection he with he
     rw[<-he] at a;exact vv rfl a
   rw[fo h9] at he;obtain⟨b,c,_⟩:=bE he;rcases h.1 a with⟨k,hd,rfl⟩ | ⟨hd,f,rfl⟩ | ⟨hd,f,e,h1,h2,h3⟩
   ·exact Jj s t x d o k h9 b c a hd
   ·exact Jk s t x d o h9 b c a hd f
   ·exact LX s t x d o h9 b c a hd f r e (HA s n x d _ e h1) h2 h3
section
variable {L:TL}{ρ:aG}
end
theorem UZ (s:List Ty) (t x:Ty) (h:CallsT P 96 [aP t,.own 1000 0] [.box 104 [.own 1001 0],.box 109 [.sl (s.map aD),.any,.any]] (aR [.box 104 [.own 1001 0],.box 109 [.sl (s.map aD),.any,.any]] (.tup [aP x,.bool true]))):CallsT P 52 [aP t,.fn 96 [] [.own 1000 0]] [.box 104 [.own 1001 0],.box 109 [.sl (s.map aD),.any,.any]] (aR [.box 104 [.own 1001 0],.box 109 [.sl (s.map aD),.any,.any]] (aP x)):=by
 refine af Tryz.func52 uf rfl fun a _=>?_;refine callO [1000,1001] [1000,1001] h rfl rfl rfl rfl rfl fun _ _=>?_;exact bP [1000,1001] rfl rfl rfl rfl
theorem U0 (s:List Ty) (t:Ty) (f:Ty->Ty) (hb:t.args.length<=2 ^ 30) (h:CallsT P 96 [aP t,.own 1000 0] [.box 104 [.own 1001 0],.box 109 [.sl (s.map aD),.any,.any]] (aR [.box 104 [.own 1001 0],.box 109 [.sl (s.map aD),.any,.any]] (.tup [aP t,.bool false])))
  (m:∀x∈t.args,CallsT P 52 [aP x,.fn 96 [] [.own 1000 0]] [.box 104 [.own 1001 0],.box 109 [.sl (s.map aD),.any,.any]] (aR [.box 104 [.own 1001 0],.box 109 [.sl (s.map aD),.any,.any]] (aP (f x)))):CallsT P 52 [aP t,.fn 96 [] [.own 1000 0]] [.box 104 [.own 1001 0],.box 109 [.sl (s.map aD),.any,.any]] (aR [.box 104 [.own 1001 0],.box 109 [.sl (s.map aD),.any,.any]] (aP (.mk t.kind t.id (t.args.map f)))):=by
 have c:(t.args.map aD).length=t.args.length:=xo _;refine af Tryz.func52 uf rfl fun p _=>?_;refine callO [1000,1001] [1000,1001] h rfl rfl rfl rfl rfl fun _ _=>?_;refine bN t.args.length 26 [] ([]:List Ty) (fun _=>[]) (fun s'=>[(4,.box 33 [IC 0,IC 0,.nils]),(5,.box 33 [IC t.kind,IC t.id,.sl (t.args.map aD)]),(7,.box 33 [IC t.kind,IC t.id,.rw 36]),(36,.row 33 3 (s'.map aD)),(1000,.box 104 [.own 1001 0]),(1001,.box 109 [.sl (s.map aD),.any,.any])]) (fun j s'=>s'=(t.args.take j).map f) (by simp) (ai rfl) trivial
  ⟨.inl ⟨_,rfl,.inl ⟨rfl,rfl⟩⟩,.inl ⟨_,rfl,.inl ⟨rfl,rfl⟩⟩,.inl ⟨_,rfl,.inr ⟨33,_,_,rfl,rfl,_,_,rfl,ai rfl,_,_,rfl,ai rfl,_,_,rfl,kK rfl rfl,rfl⟩⟩,.inr ⟨rfl,33,3,rfl⟩,.inl ⟨_,rfl,.inl ⟨rfl,rfl⟩⟩,.inl ⟨_,rfl,.inl ⟨rfl,rfl⟩⟩,trivial⟩ (fun _=>rfl) (fun _=>rfl) ?_
 rintro j s' o b _ _ _;refine ah (fun a=>?_) (fun d=>?_)
 ·have a:j<t.args.length:=by rw[c] at a;omega
  refine ck a fun x l k=>?_;have n:(s'.map aD).length=j:=by rw[b,xo,xo,abF];omega
  refine cA l ?_;refine je (Pp:=fun _=>False) [1000,1001] (m x k).toX rfl rfl rfl rfl rfl (fun _ h=>False.elim h) fun _ _=>?_;refine lD j rfl n (by decide) (by omega) ?_;refine Fit.aae (by omega) (by omega) ?_;refine⟨(j+1,s'++[f x]),⟨a,?_⟩,⟨bw,trivial⟩,⟨.inl ⟨_,rfl,.inl ⟨rfl,rfl⟩⟩,.inl ⟨_,rfl,.inl ⟨rfl,rfl⟩⟩,.inl ⟨_,rfl,.inl ⟨rfl,rfl⟩⟩,.inl ⟨_,rfl,.inl ⟨nN vF,rfl⟩⟩,.inl ⟨_,rfl,.inl ⟨rfl,rfl⟩⟩,.inl ⟨_,rfl,.inl ⟨rfl,rfl⟩⟩,trivial⟩,bB a⟩;show s'++[f x]=(t.args.take (j+1)).map f;rw[fL l,b,abx];rfl
 ·have d:¬j<t.args.length:=by rw[c] at d;omega
  have e:C.agg [IC t.kind,IC t.id,.sl (s'.map aD)]=aP (.mk t.kind t.id (t.args.map f)):=by
   rw[b,abz (by omega)];rfl
  exact yT [36] [1000,1001] ⟨_,_,rfl,rfl,rfl,rfl,e⟩
theorem U1 (m:DM) (t x:Ty) (h:CallsT P 88 [aP t,.own 1000 0] [.box 106 [.mpr 1001],.map (j6 IC m)] (aR [.box 106 [.mpr 1001],.map (j6 IC m)] (.tup [aP x,.bool true]))):CallsT P 52 [aP t,.fn 88 [] [.own 1000 0]] [.box 106 [.mpr 1001],.map (j6 IC m)] (aR [.box 106 [.mpr 1001],.map (j6 IC m)] (aP x)):=by
 refine af Tryz.func52 uf rfl fun a _=>?_;refine callO [1000,1001] [1000,1001] h rfl rfl rfl rfl rfl fun _ _=>?_;exact bP [1000,1001] rfl rfl rfl rfl
theorem U2 (m:DM) (t:Ty) (f:Ty->Ty) (hb:t.args.length<=2 ^ 30) (h:CallsT P 88 [aP t,.own 1000 0] [.box 106 [.mpr 1001],.map (j6 IC m)] (aR [.box 106 [.mpr 1001],.map (j6 IC m)] (.tup [aP t,.bool false])))
  (n:∀x∈t.args,CallsT P 52 [aP x,.fn 88 [] [.own 1000 0]] [.box 106 [.mpr 1001],.map (j6 IC m)] (aR [.box 106 [.mpr 1001],.map (j6 IC m)] (aP (f x)))):CallsT P 52 [aP t,.fn 88 [] [.own 1000 0]] [.box 106 [.mpr 1001],.map (j6 IC m)] (aR [.box 106 [.mpr 1001],.map (j6 IC m)] (aP (.mk t.kind t.id (t.args.map f)))):=by
 have c:(t.args.map aD).length=t.args.length:=xo _;refine af Tryz.func52 uf rfl fun q _=>?_;refine callO [1000,1001] [1000,1001] h rfl rfl rfl rfl rfl fun _ _=>?_;refine bN t.args.length 26 [] ([]:List Ty) (fun _=>[]) (fun s'=>[(4,.box 33 [IC 0,IC 0,.nils]),(5,.box 33 [IC t.kind,IC t.id,.sl (t.args.map aD)]),(7,.box 33 [IC t.kind,IC t.id,.rw 36]),(36,.row 33 3 (s'.map aD)),(1000,.box 106 [.mpr 1001]),(1001,.map (j6 IC m))]) (fun j s'=>s'=(t.args.take j).map f) (by simp) (ai rfl) trivial
  ⟨.inl ⟨_,rfl,.inl ⟨rfl,rfl⟩⟩,.inl ⟨_,rfl,.inl ⟨rfl,rfl⟩⟩,.inl ⟨_,rfl,.inr ⟨33,_,_,rfl,rfl,_,_,rfl,ai rfl,_,_,rfl,ai rfl,_,_,rfl,kK rfl rfl,rfl⟩⟩,.inr ⟨rfl,33,3,rfl⟩,.inl ⟨_,rfl,.inl ⟨rfl,rfl⟩⟩,.inl ⟨_,rfl,.inl ⟨rfl,rfl⟩⟩,trivial⟩ (fun _=>rfl) (fun _=>rfl) ?_
 rintro j s' p b _ _ _;refine ah (fun a=>?_) (fun d=>?_)
 ·have a:j<t.args.length:=by rw[c] at a;omega
  refine ck a fun x l k=>?_;have o:(s'.map aD).length=j:=by rw[b,xo,xo,abF];omega
  refine cA l ?_;refine je (Pp:=fun _=>False) [1000,1001] (n x k).toX rfl rfl rfl rfl rfl (fun _ h=>False.elim h) fun _ _=>?_;refine lD j rfl o (by decide) (by omega) ?_;refine Fit.aae (by omega) (by omega) ?_;refine⟨(j+1,s'++[f x]),⟨a,?_⟩,⟨bw,trivial⟩,⟨.inl ⟨_,rfl,.inl ⟨rfl,rfl⟩⟩,.inl ⟨_,rfl,.inl ⟨rfl,rfl⟩⟩,.inl ⟨_,rfl,.inl ⟨rfl,rfl⟩⟩,.inl ⟨_,rfl,.inl ⟨nN vF,rfl⟩⟩,.inl ⟨_,rfl,.inl ⟨rfl,rfl⟩⟩,.inl ⟨_,rfl,.inl ⟨rfl,rfl⟩⟩,trivial⟩,bB a⟩;show s'++[f x]=(t.args.take (j+1)).map f;rw[fL l,b,abx];rfl
 ·have d:¬j<t.args.length:=by rw[c] at d;omega
  have e:C.agg [IC t.kind,IC t.id,.sl (s'.map aD)]=aP (.mk t.kind t.id (t.args.map f)):=by
   rw[b,abz (by omega)];rfl
  exact yT [36] [1000,1001] ⟨_,_,rfl,rfl,rfl,rfl,e⟩
theorem Xn (s:List Ty) (t x r:Ty) (h9:t.kind=9) (h0:0<=t.id) (a:s[t.id.toNat]?=some x) (b:¬x.kind=0) (h:CallsT P 87 [.own 1000 0,aP x] (Fc s) (aR (Fc s) (aP r))) :
  CallsT P 96 [aP t,.own 1000 0] [.box 104 [.own 1001 0],.box 109 [.sl (s.map aD),.any,.any]] (aR [.box 104 [.own 1001 0],.box 109 [.sl (s.map aD),.any,.any]] (.tup [aP r,.bool true])):=by
 refine af Tryz.func96 Hp rfl fun c _=>?_;refine ah (fun _=>?_) (fun q=>vv h9 q);refine nO h0 a ?_;refine aV (fun _=>?_) (fun q=>vv q b);refine nO h0 a ?_;refine yS [1001] [1001] h rfl rfl rfl rfl rfl fun _ _=>?_;exact bP [1000,1001] rfl rfl rfl rfl
theorem Xo (s:List Ty) (t:Ty) (h9:t.kind=9->∃x,0<=t.id/\s[t.id.toNat]?=some x/\x.kind=0) :
  CallsT P 96 [aP t,.own 1000 0] [.box 104 [.own 1001 0],.box 109 [.sl (s.map aD),.any,.any]] (aR [.box 104 [.own 1001 0],.box 109 [.sl (s.map aD),.any,.any]] (.tup [aP t,.bool false])):=by
 refine af Tryz.func96 Hp rfl fun c _=>?_;refine ah (fun h=>qe (h9 h) fun x a=>?_) (fun _=>?_)
 ·have h0:=a.1;have b:=a.2.1;refine nO h0 b ?_;refine aV (fun q=>vv a.2.2 q) (fun _=>?_);exact bP [1000,1001] rfl rfl rfl rfl
 ·exact bP [1000,1001] rfl rfl rfl rfl
theorem U3 (s:List Ty) (t r:Ty) (h:CallsT P 52 [aP t,.fn 96 [] [.own 1000 0]] [.box 104 [.own 1001 0],.box 109 [.sl (s.map aD),.any,.any]] (aR [.box 104 [.own 1001 0],.box 109 [.sl (s.map aD),.any,.any]] (aP r))):CallsT P 87 [.own 1000 0,aP t] (Fc s) (aR (Fc s) (aP r)):=by
 refine af Tryz.func87 Pm rfl fun a _=>?_;refine callO [2,1000] [2,1000] h rfl rfl rfl rfl rfl fun _ _=>?_;exact bP [1000] rfl rfl rfl rfl
theorem gJ {f:Ty->Option Ty}:∀{l r:List Ty},j7 f l=some r->(∀x∈l,f x=some ((f x).getD x))/\r=l.map fun x=>(f x).getD x
 | [],r,h=>by
  rw[j7] at h;injection h with h
  exact⟨by simp,by rw[<-h];rfl⟩
 | x::l,r,h=>by
  rw[j7] at h;cases c:f x with
  | none=>simp only[c] at h;cases h
  | some a =>
   cases e:j7 f l with
   | none=>simp only[c,e] at h;cases h
   | some b =>
    simp only[c,e] at h;injection h with h
    obtain⟨i1,i2⟩:=gJ e;refine⟨fun y d=>?_,?_⟩
    ·rcases aaX.1 d with rfl | d
     ·rw[c];rfl
     ·exact i1 y d
    ·rw[aaZ,c,<-i2,<-h];rfl
theorem S9 (s:List Ty) (e:∀x∈s,iA x):∀(n:Nat) (t r:Ty),iA t->nk s n t=some r->CallsT P 52 [aP t,.fn 96 [] [.own 1000 0]] [.box 104 [.own 1001 0],.box 109 [.sl (s.map aD),.any,.any]] (aR [.box 104 [.own 1001 0],.box 109 [.sl (s.map aD),.any,.any]] (aP r))
 | 0,t,r,hb,h=>by cases h
 | n+1,t,r,hb,h=>by
  rw[nk] at h;split at h
  ·cases h
  rename_i x he
  by_cases a:x.kind=0
  ·rw[o5 (fun q=>q a)] at h;have j:=Xo s t fun h9=>by
    rw[fo h9] at he;obtain⟨d,b,_⟩:=bE he;exact⟨x,d,b,a⟩
   cases c:j7 (nk s n) t.args with
   | none=>simp only[c] at h;cases h
   | some l =>
    simp only[c] at h;injection h with h
    obtain⟨h1,h2⟩:=gJ c;have hb:=(fu t).1 hb;rw[<-h,h2];exact U0 s t (fun x=>(nk s n x).getD x) hb.1 j fun x f=>S9 s e n x _ (hb.2 x f) (h1 x f)
  ·rw[fo a] at h;have h9:t.kind=9:=by
    by_cases h9:t.kind=9
    ·exact h9
    ·rw[o5 h9] at he;injection he with he
     rw[<-he] at a;exact vv rfl a
   rw[fo h9] at he;obtain⟨d,b,_⟩:=bE he;exact UZ s t r (Xn s t x r h9 d b a (U3 s x r (S9 s e n x r (e x (aaU b)) h)))
theorem t87 (s:List Ty) (a:∀x∈s,iA x) (n:Nat) (t r:Ty) (hb:iA t) (h:nk s n t=some r):CallsT P 87 [.own 1000 0,aP t] (Fc s) (aR (Fc s) (aP r)):=U3 s t r (S9 s a n t r hb h)
mutual
def Jm (m:DM):Ty->Ty
 | .mk k i l=>if k=9 then .mk 9 ((br m i).getD 0) [] else .mk k i (Wi m l)
def Wi (m:DM):List Ty->List Ty
 | []=>[]
 | t::l=>Jm m t::Wi m l
end
theorem HC (m:DM):∀l:List Ty,Wi m l=l.map (Jm m)
 | []=>rfl
 | t::l=>by rw[Wi,HC m l];rfl
theorem Ta (m:DM) (t:Ty):Jm m t=if t.kind=9 then .mk 9 ((br m t.id).getD 0) [] else .mk t.kind t.id (t.args.map (Jm m)):=by
 cases t;rw[Jm,HC];rfl
theorem U4 {i:Int}{m:DM}{Y:C->Prop}{N:Prop}(k1:Y (IC ((br m i).getD 0))) (a:br m i=none->N):yq false (j6 IC m) (IC i) Y N:=by
 cases h:br m i with
 | none=>exact Eh h (a h)
 | some x=>rw[h] at k1;exact Eg h k1
theorem Xp (m:DM) (t:Ty) (h9:t.kind=9):CallsT P 88 [aP t,.own 1000 0] [.box 106 [.mpr 1001],.map (j6 IC m)] (aR [.box 106 [.mpr 1001],.map (j6 IC m)] (.tup [aP (.mk 9 ((br m t.id).getD 0) []),.bool true])):=by
 refine af Tryz.func88 Hl rfl fun b _=>?_;refine ah (fun _=>?_) (fun q=>vv h9 q);refine U4 ?_ (fun a=>?_)
 ·exact bP [1000,1001] rfl rfl rfl rfl
 ·exact bP [1000,1001] rfl rfl rfl (by rw[a];rfl)
theorem Xq (m:DM) (t:Ty) (h9:¬t.kind=9):CallsT P 88 [aP t,.own 1000 0] [.box 106 [.mpr 1001],.map (j6 IC m)] (aR [.box 106 [.mpr 1001],.map (j6 IC m)] (.tup [aP t,.bool false])):=by
 refine af Tryz.func88 Hl rfl fun a _=>?_;refine ah (fun q=>vv q h9) (fun _=>?_);exact bP [1000,1001] rfl rfl rfl rfl
theorem Xr (m:DM):∀t:Ty,iA t->CallsT P 52 [aP t,.fn 88 [] [.own 1000 0]] [.box 106 [.mpr 1001],.map (j6 IC m)] (aR [.box 106 [.mpr 1001],.map (j6 IC m)] (aP (Jm m t))):=cV fun t b hb=>by
 have hb:=(fu t).1 hb;rw[Ta]
 by_cases h9:t.kind=9
 ·rw[fo h9];exact U1 m t _ (Xp m t h9)
 ·rw[o5 h9];exact U2 m t _ hb.1 (Xq m t h9) fun x a=>b x a (hb.2 x a)
end Go.Fr.Tryz
