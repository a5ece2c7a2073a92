/- Part of the proofs of the statements of this seat. -/
import Derived.Test.YthfdbepkalpplaaUnM6G
import Derived.Test.YthfdbepkalpplaaTrCode
set_option maxRecDepth 10000
set_option linter.unusedVariables false
set_option linter.unusedSimpArgs false
namespace Go.Fr.Try
open Go Go.RowKit Go.Proofs Go.Fr Go.Fr.T Go.Fr.Api
theorem CallsT.imp {P:Program}{f:Nat}{args:List C}{Lin:List TO}{R R':List TO->C->Prop}(h:CallsT P f args Lin R) (d:∀Mo c,R Mo c->R' Mo c):CallsT P f args Lin R' :=
 CallsTX.noPan (CallsTX.imp (Pp:=fun _=>False) h.toX d fun v q=>q)
mutual
def cnt:Ty->Nat
 | .mk _ _ l=>wB l+1
def wB:List Ty->Nat
 | []=>0
 | t::l=>cnt t+wB l
end
theorem GH (t:Ty):cnt t=wB t.args+1:=by cases t;rfl
theorem Ij:∀(l:List Ty) (m n:Int),0<=m->n<=nF l m n
 | [],m,n,_=>by rw[nF];exact abn _
 | x::l,m,n,h0=>by
  rw[nF];split
  ·rename_i h;have:=(Gp x (m-n) (by omega)).1;have:=Ij l m (n+few x (m-n)) h0;omega
  ·exact abn _
mutual
theorem Ik:∀(t:Ty) (m:Int),0<=m->few t m<=m->(cnt t:Int)=few t m
 | .mk _ _ l,m,h0,h=>by
  rw[few] at h ⊢;rw[cnt,<-EZ l m 1 h0 h];omega
theorem EZ:∀(l:List Ty) (m n:Int),0<=m->nF l m n<=m->n+(wB l:Int)=nF l m n
 | [],m,n,_,_=>by rw[nF,wB];omega
 | x::l,m,n,h0,h=>by
  rw[nF] at h ⊢;split at h
  ·rename_i hn;rw[eu hn];have hge:=Ij l m (n+few x (m-n)) h0;have h1:=Ik x (m-n) (by omega) (by omega);have h2:=EZ l m (n+few x (m-n)) h0 h;rw[wB];omega
  ·omega
end
theorem Dj:∀{l:List Ty}{x:Ty},x∈l->cnt x<=wB l
 | t::l,x,h=>by
  rw[wB];rcases abd.1 h with rfl | h
  ·omega
  ·have:=Dj h;omega
theorem E0:∀l:List Ty,l.length<=wB l
 | []=>abh _
 | t::l=>by have:=E0 l;have:=GH t;rw[wB,abo];omega
theorem Dk:∀t:Ty,cnt t<=2 ^ 30->gN t:=cL fun t d h=>by
 rw[GH] at h;rw[eM];exact⟨by have:=E0 t.args;omega,fun x c=>d x c (by have:=Dj c;omega)⟩
theorem QR:∀t:Ty,cg t<=cnt t:=cL fun t d=>by
 rw[GH,cQ];have:cI t.args<=wB t.args:=uX fun x c=>abN (d x c) (Dj c);omega
theorem rY {l:List Ty}(h:jd l=true):l.length<=8/\∀x∈l,gN x/\cg x<=30:=by
 unfold jd at h;rw[xo,abg,abf] at h;refine⟨by omega,fun x c=>?_⟩;have h1:=abJ (h.1 x c);have h2:=Ik x 30 (by omega) h1;exact⟨Dk x (by omega),by have:=QR x;omega⟩
theorem V9 (p t:Ty) (n:Nat) (f:n<=4) (m:TM) (d:j9 n p t []=(m,false)):CallsT P 24 [aK p,aK t,IC n] [] (aQ [] (.tup [.sl [],.bool false])):=by
 have c:=t66 n p t [];rw[d] at c;refine af Try.func24 Hy rfl fun e _=>?_;refine ah (fun h=>o5 h (by omega)) (fun _=>?_);refine callO [9,8,19] [9,8,19] c rfl rfl rfl rfl rfl fun _ _=>?_;exact ay rfl rfl
def zS (n:Nat) (p t:Ty):List Ty×Bool:=if(j9 n p t []).2 then(lH n (j9 n p t []).1,true) else([],false)
theorem t24 (p t:Ty) (n:Nat) (c:n<=4):CallsT P 24 [aK p,aK t,IC n] [] (aQ [] (.tup [.sl ((zS n p t).1.map aD),.bool (zS n p t).2])):=by
 unfold zS;cases h:j9 n p t [] with
 | mk m b =>
  cases b with
  | true=>exact V8 p t n c m h
  | false=>exact V9 p t n c m h
theorem Sj.no {n:Nat}{s:List Ty}{a b:Ty}{e:Int}(h1:∃d o,bM s n=some (some (d,o))) (c:nV s a b=true) (h2:ld n s a b=some none) (h:Sj n s a b e):e=8:=by
 obtain⟨d,o,h1⟩:=h1;rcases h with⟨q,_⟩ | ⟨_,⟨q,_⟩ | ⟨_,⟨_,q⟩ | ⟨s',q,_⟩⟩⟩
 ·rw[h1] at q;cases q
 ·rw[c] at q;cases q
 ·exact q
 ·rw[h2] at q;cases q
theorem Il:∀(n:Nat) (s:List Ty) (a b:Ty) (s':List Ty),(∀x∈s,gN x)->gN a->gN b->ld n s a b=some (some s')->∀x∈s',gN x:=by
 intro n
 induction n with
 | zero=>intro s a b s' _ _ _ h;cases h
 | succ n w =>
  intro s a b s' hs ha hb h;have j:∀{t r:Ty},aP s n t=some r->gN t->gN r:=fun hf ht=>rW (p:=gN) (fun t x _ _ he _=>hs x (oU he)) hf ht;have c:∀{i:Nat}{b:Ty},gN b->∀x∈s.set i b,gN x:=fun hb x d=>by
   rcases acp d with d | rfl
   ·exact hs x d
   ·exact hb
  cases fa:aP s n a with
  | none=>rw[ld,fa] at h;cases h
  | some a' =>
  cases fb:aP s n b with
  | none=>rw[ld,fa,fb] at h;cases h
  | some m =>
  rw[lO fa fb] at h;have k:=j fa ha;have f:=j fb hb;split at h
  ·split at h
   ·injection h with h;injection h with h;exact h▸hs
   ·injection h with h;injection h with h;rw[<-h]
    exact c ((eM _).2 ⟨abr _,fun x h=>by cases h⟩)
  ·split at h
   ·cases v:jT s a'.id n m with
    | none=>rw[v] at h;cases h
    | some o =>
     rw[v] at h;cases o with
     | true=>cases h
     | false=>injection h with h;injection h with h;rw[<-h];exact c f
   ·split at h
    ·exact w s m a' s' hs f k h
    ·split at h
     ·cases h
     ·have hL:∀(l e:List Ty) (s:List Ty),(∀x∈l,gN x)->(∀x∈e,gN x)->(∀x∈s,gN x)->jU (ld n) s l e=some (some s')->∀x∈s',gN x:=by
       intro l
       induction l with
       | nil=>intro e s _ _ hs h;rw[jU] at h;injection h with h;injection h with h;exact h▸hs
       | cons x l q =>
        intro e s h1 h2 hs h;cases e with
        | nil=>cases h
        | cons y e =>
         rw[jU] at h;cases d:ld n s x y with
         | none=>rw[d] at h;cases h
         | some r =>
          rw[d] at h;cases r with
          | none=>cases h
          | some s1=>exact q e s1 (fun z u=>h1 z (by simp[u])) (fun z u=>h2 z (by simp[u])) (w s x y s1 hs (h1 x (by simp)) (h2 y (by simp)) d) h
      exact hL a'.args m.args s ((eM a').1 k).2 ((eM m).1 f).2 hs h
theorem GI {s:List Ty}{a b:Ty}(hl:s.length<=2 ^ 30) (hs:∀x∈s,gN x) (ha:gN a) (hb:gN b) (hda:cg a<=2 ^ 40) (hdb:cg b<=2 ^ 40):∃n,CallsT P 23 [.sl (s.map aD),aK a,aK b] [] (RN n s a b)/\(∀s',MY n s a b s'->FB s s')/\∃r,bM s n=some r:=by
 obtain⟨n,F,d,c⟩:=Sm s a b;refine⟨n,unify n s a b hl F hda hdb fun s' h=>⟨by rw[(c s' h).len];exact hl,?_,d s' h⟩,c,F.form⟩;exact Il n s a b s' hs ha hb h.2.2.1
theorem iY {s:List Ty}{n m:Nat}{r q:Option (DM×OM)}(h:bM s n=some r) (k:bM s m=some q):r=q:=by
 have h1:=kR (Nat.le_max_left n m) h;have h2:=kR (Nat.le_max_right n m) k;rw[h1] at h2;exact abK h2
theorem lf {s:List Ty}{a b:Ty}{n m:Nat}{r q:Option (List Ty)}(h:ld n s a b=some r) (k:ld m s a b=some q):r=q:=by
 have h1:=iC (Nat.le_max_left n m) h;have h2:=iC (Nat.le_max_right n m) k;rw[h1] at h2;exact abK h2
theorem vn {s:List Ty}{t:Ty}{d:DM}{o:OM}{n m:Nat}{r q:Option (Int×DM×OM)}(h:bL s n t d o=some r) (k:bL s m t d o=some q):r=q:=by
 have h1:=ij (Nat.le_max_left n m) h;have h2:=ij (Nat.le_max_right n m) k;rw[h1] at h2;exact abK h2
theorem JN {s:List Ty}{n m:Nat}{r q:List Ty}(h:kh s n=some r) (k:kh s m=some q):r=q:=by
 have h1:=tL (Nat.le_max_left n m) h;have h2:=tL (Nat.le_max_right n m) k;rw[h1] at h2;exact abK h2
section
variable {s:List Ty}{a b:Ty}(hl:s.length<=2 ^ 30) (hs:∀x∈s,gN x) (ha:gN a) (hb:gN b) (hda:cg a<=2 ^ 40) (hdb:cg b<=2 ^ 40)
include hl hs ha hb hda hdb
theorem Nj {m:Nat}(h1:∃d o,bM s m=some (some (d,o))) (j:nV s a b=true) (h2:ld m s a b=some none):CallsT P 23 [.sl (s.map aD),aK a,aK b] [] (aQ [] (.tup [.sl [],IC 8])):=by
 obtain⟨n,h,l,r,k⟩:=GI hl hs ha hb hda hdb;obtain⟨d,o,h1⟩:=h1;refine CallsT.imp h ?_;rintro Mo c ⟨rfl,r,e,f,rfl⟩;rcases f with⟨s',g,_⟩ | ⟨g,rfl⟩
 ·have:=lf h2 g.2.2.1;cases this
 ·rcases g with⟨q,_⟩ | ⟨_,⟨q,_⟩ | ⟨_,⟨_,q⟩ | ⟨s',q,_⟩⟩⟩
  ·have:=iY h1 q;cases this
  ·rw[j] at q;cases q
  ·subst q;exact⟨rfl,rfl⟩
  ·have:=lf h2 q;cases this
theorem E4 {m:Nat}(s' r:List Ty) (d:DM) (o:OM) (k:Int) (h1:∃d o,bM s m=some (some (d,o))) (z:nV s a b=true) (h2:ld m s a b=some (some s')) (h3:bM s' m=some (some (d,o))) (h4:∃v o',bL s' m a d o=some (some (k,v,o'))) (hk:k<=8) (h5:kh s' m=some r) :
  CallsT P 23 [.sl (s.map aD),aK a,aK b] [] (aQ [] (.tup [.sl (r.map aD),IC 0])):=by
 obtain⟨n,h,hx,r',hr⟩:=GI hl hs ha hb hda hdb;obtain⟨d1,o1,h1⟩:=h1;obtain⟨d2,o2,h4⟩:=h4;refine CallsT.imp h ?_;rintro Mo c ⟨rfl,w,e,y,rfl⟩;rcases y with⟨u,g,hc,rfl⟩ | ⟨g,rfl⟩
 ·have f:=lf h2 g.2.2.1;injection f with f
  subst f;rw[JN hc h5];exact⟨rfl,rfl⟩
 ·rcases g with⟨q,_⟩ | ⟨_,⟨q,_⟩ | ⟨_,⟨q,_⟩ | ⟨u,q,_,l⟩⟩⟩
  ·have:=iY h1 q;cases this
  ·rw[z] at q;cases q
  ·have:=lf h2 q;cases this
  ·have f:=lf h2 q;injection f with f
   subst f;rcases l with l | ⟨v,o',l,j⟩
   ·have:=iY h3 l;cases this
   ·have p:=iY h3 l;injection p with p
    injection p with p e3
    subst p e3;rcases j with j | ⟨k',ac,aa,j,q4⟩
    ·have:=vn h4 j;cases this
    ·have t:=vn h4 j;injection t with t
     injection t with t
     omega
end
def zT:Ty:=.mk 0 0 []
def iT:Ty:=.mk 1 0 []
def bx (t:Ty):Ty:=.mk 3 0 [t]
def two:List Ty:=[zT,zT]
theorem cS {t:Ty}(h:decide (cnt t<=100)=true):gN t:=Dk t (by have:=abJ h;omega)
theorem ic {t:Ty}(h:decide (cg t<=100)=true):cg t<=2 ^ 40:=by have:=abJ h;omega
theorem Nk:∀x∈two,gN x:=fun x a=>by
 rcases abd.1 a with rfl | a
 ·exact cS rfl
 ·rw[abR.1 a];exact cS rfl
theorem Nl:∃d o,bM two 10=some (some (d,o)):=⟨_,_,rfl⟩
theorem u1:CallsT P 23 [.sl (two.map aD),aK (bx (vr 0)),aK (bx iT)] [] (aQ [] (.tup [.sl ([iT,zT].map aD),IC 0])) :=
 E4 (by decide) Nk (cS rfl) (cS rfl) (ic rfl) (ic rfl) (m:=10) [iT,zT] [iT,zT] [(0,1)] [(0,true)] 2 Nl rfl rfl rfl ⟨_,_,rfl⟩ (by decide) rfl
theorem u2:CallsT P 23 [.sl (two.map aD),aK (vr 0),aK (vr 1)] [] (aQ [] (.tup [.sl ([zT,vr 0].map aD),IC 0])) :=
 E4 (by decide) Nk (cS rfl) (cS rfl) (ic rfl) (ic rfl) (m:=10) [zT,vr 0] [zT,vr 0] [(1,1)] [(1,true)] 1 Nl rfl rfl rfl ⟨_,_,rfl⟩ (by decide) rfl
theorem u3:CallsT P 23 [.sl (two.map aD),aK (bx (vr 0)),aK (.mk 4 0 [vr 0])] [] (aQ [] (.tup [.sl [],IC 8])) :=
 Nj (by decide) Nk (cS rfl) (cS rfl) (ic rfl) (ic rfl) (m:=10) Nl rfl rfl
theorem a1:CallsT P 22 [.sl ([iT,zT].map aD),aK (bx (vr 0))] [] (aQ [] (aK (bx iT))) :=
 apply [iT,zT] 10 (bx (vr 0)) (bx iT) [(0,1)] [(0,true)] rfl (fun x a=>by
  rcases abd.1 a with rfl | a
  ·exact cS rfl
  ·rw[abR.1 a];exact cS rfl) (cS rfl) rfl
section
variable {L:TL}{ρ:aG}
end
theorem UR.no {n m:Nat}{s:List Ty}{a b:Ty}{r:List Ty}{e:Int}(f:UR n s a b r e) (h1:∃d o,bM s m=some (some (d,o))) (c:nV s a b=true) (h2:ld m s a b=some none):e=8:=by
 obtain⟨d,o,h1⟩:=h1;rcases f with⟨s',g,_⟩ | ⟨g,rfl⟩
 ·have:=lf h2 g.2.2.1;cases this
 ·rcases g with⟨q,_⟩ | ⟨_,⟨q,_⟩ | ⟨_,⟨_,q⟩ | ⟨s',q,_⟩⟩⟩
  ·have:=iY h1 q;cases this
  ·rw[c] at q;cases q
  ·exact q
  ·have:=lf h2 q;cases this
def zeros (m:Nat):List Ty:=List.replicate m (.mk 0 0 [])
theorem GJ {m:Nat}{t x:Ty}(h:bS (zeros m) t=some x):x=.mk 0 0 []:=by
 have:=oU h;exact(ab2.1 this).2
theorem GK (m n i:Nat) (hi:i<m):bL (zeros m) (n+1) (vr i) [] []=some (some (1,[],[])):=by
 have he:∃x,bS (zeros m) (vr i)=some x/\x∈zeros m:=rm (nk (show i<(zeros m).length by rw[zeros,abD];exact hi)) rfl;obtain⟨x,he,_⟩:=he;have a:=GJ he;subst a;rw[BZ (x:=.mk 0 0 []) (by rw[eu (show(vr i).kind=9 from rfl)];exact he) rfl];rfl
theorem wY (m n:Nat):∀i,i<=m->dV (zeros m) (n+1) i=some (some (false,[],[]))
 | 0,_=>rfl
 | i+1,hi=>by
  rw[dV,wY m n i (by omega)];simp only;rw[GK m n i (by omega)];rfl
theorem zU (m n:Nat):∃d o,bM (zeros m) (n+1)=some (some (d,o)):=by
 have a:(zeros m).length=m:=by rw[zeros,abD]
 refine⟨[],[],?_⟩;unfold bM;rw[eu,a,wY m n m (abh _)]
 ·rfl
 ·rw[abg];intro x b;rw[(ab2.1 b).2];rfl
theorem GL (m:Nat):Good (zeros m):=(zU m 0).elim fun d h=>h.elim fun o h=>ny h
theorem Cb {b:Bool}{A B:Prop}(h:b=true->A) (k:b=false->B):Ap b A B:=by cases b;exact k rfl;exact h rfl
def eC (n:Int) (len:Nat):Bool:=decide (0<=n)&&decide (n<len)
theorem dN {n:Int}{len:Nat}:eC n len=true↔0<=n/\n<len:=by rw[eC,xo,abf,abf]
abbrev Uf (f:Nat):Prop:=∀(els:List (List C)) (n:Int),CallsT P f [.sl els,IC n] [] (aQ [] (.bool (eC n els.length)))
theorem t84:Uf 84:=fun els n=>by
 refine af Try.func84 Qf rfl fun a _=>?_;refine ah (fun h=>?_) (fun h=>?_)
 ·exact ay rfl (vv C.bool (by rw[eC,aa2 (show(0:Int)<=n from h),aa7]))
 ·exact ay rfl (vv C.bool (by rw[eC,aa3 (show¬(0:Int)<=n from h),abb]))
theorem t85:Uf 85:=fun els n=>by
 refine af Try.func85 Qg rfl fun a _=>?_;refine ah (fun h=>?_) (fun h=>?_)
 ·exact ay rfl (vv C.bool (by rw[eC,aa2 (show(0:Int)<=n from h),aa7]))
 ·exact ay rfl (vv C.bool (by rw[eC,aa3 (show¬(0:Int)<=n from h),abb]))
theorem t86:Uf 86:=fun els n=>by
 refine af Try.func86 Qh rfl fun a _=>?_;refine ah (fun h=>?_) (fun h=>?_)
 ·exact ay rfl (vv C.bool (by rw[eC,aa2 (show(0:Int)<=n from h),aa7]))
 ·exact ay rfl (vv C.bool (by rw[eC,aa3 (show¬(0:Int)<=n from h),abb]))
theorem Wc:Uf 103:=fun els n=>by
 refine af Try.func103 LM rfl fun a _=>?_;refine ah (fun h=>?_) (fun h=>?_)
 ·exact ay rfl (vv C.bool (by rw[eC,aa2 (show(0:Int)<=n from h),aa7]))
 ·exact ay rfl (vv C.bool (by rw[eC,aa3 (show¬(0:Int)<=n from h),abb]))
theorem Zm:Uf 108:=fun els n=>by
 refine af Try.func108 LS rfl fun a _=>?_;refine ah (fun h=>?_) (fun h=>?_)
 ·exact ay rfl (vv C.bool (by rw[eC,aa2 (show(0:Int)<=n from h),aa7]))
 ·exact ay rfl (vv C.bool (by rw[eC,aa3 (show¬(0:Int)<=n from h),abb]))
theorem Zn:Uf 111:=fun els n=>by
 refine af Try.func111 LX rfl fun a _=>?_;refine ah (fun h=>?_) (fun h=>?_)
 ·exact ay rfl (vv C.bool (by rw[eC,aa2 (show(0:Int)<=n from h),aa7]))
 ·exact ay rfl (vv C.bool (by rw[eC,aa3 (show¬(0:Int)<=n from h),abb]))
theorem Zo:Uf 112:=fun els n=>by
 refine af Try.func112 LY rfl fun a _=>?_;refine ah (fun h=>?_) (fun h=>?_)
 ·exact ay rfl (vv C.bool (by rw[eC,aa2 (show(0:Int)<=n from h),aa7]))
 ·exact ay rfl (vv C.bool (by rw[eC,aa3 (show¬(0:Int)<=n from h),abb]))
theorem Zp (t:Ty):CallsT P 104 [aK t] [] (aQ [] (.bool (je t))):=by
 have e:je t=(decide (1<=t.kind)&&decide (t.kind<=5)):=rfl;refine af Try.func104 LN rfl fun a _=>?_;refine ah (fun h=>?_) (fun h=>?_)
 ·exact ay rfl (vv C.bool (by rw[e,aa2 (show(1:Int)<=t.kind from h),aa7]))
 ·exact ay rfl (vv C.bool (by rw[e,aa3 (show¬(1:Int)<=t.kind from h),abb]))
theorem Xc (n:Int):CallsT P 71 [IC n] [] (aQ [] (aK (.mk 5 n []))):=by
 refine af Try.func71 P8 rfl fun a _=>?_;exact ay rfl rfl
abbrev Aw (x:Impl):C:=.agg (dS x)
abbrev nD (p:Prog):C:=.agg (kG p)
theorem rq {l:List Impl}{z:Int}{x:Impl}{K:List C->Prop}(h0:0<=z) (a:l[z.toNat]?=some x) (h:K (dS x)):ur (l.map dS) z 8 K :=
 ⟨_,h0,by rw[abk,a];rfl,rfl,h⟩
theorem wZ {l:List aS}{z:Int}{x:aS}{K:List C->Prop}(h0:0<=z) (a:l[z.toNat]?=some x) (h:K [IC x.param,IC x.trait]):ur (l.map aV) z 2 K :=
 ⟨_,h0,by rw[abk,a];rfl,rfl,h⟩
theorem Zq (a b:List Ty) (t:∀x∈a,∀y,qZ 80 [aK x,aK y] (x=y)):qZ 67 [.sl (a.map aD),.sl (b.map aD),.fn 80 [] []] (a=b):=by
 refine af Try.func67 xS rfl fun s _=>?_;have m:(a.map aD).length=a.length:=by simp
 have hb:(b.map aD).length=b.length:=by simp
 have v:a.length<=9223372036854775807:=by have:=gJ s.1;rwa [m] at this
 refine aq (fun d=>?_) (fun d=>?_)
 ·have d:¬a.length=b.length:=fun e=>by
   rw[m,hb,e] at d;simp at d
  exact ay rfl (vv C.bool (iy (Gm d)))
 have d:a.length=b.length:=by
  rw[m,hb] at d;simp at d;omega
 refine bA a.length 17 [] () (fun _=>[]) (fun _=>[]) (fun k _=>∀j<k,a[j]?=b[j]?) (fun j u=>o5 u (by omega)) (aj rfl) trivial trivial (fun _=>rfl) (fun _=>rfl) ?_;rintro k ⟨⟩ r f _ _ _;refine ah (fun c=>?_) (fun n=>?_)
 ·have c:k<a.length:=by rw[m] at c;omega
  refine bR c fun x q p=>?_;refine bR (l:=b) (k:=k) (by omega) fun y o _=>?_;refine bW q ?_;refine bW o ?_;refine aF (t x p y) rfl fun _=>?_;refine aq (fun h=>?_) (fun h=>?_)
  ·have h:¬x=y:=My (by simpa using h);exact ay rfl (vv C.bool (iy (Gn q o h)))
  ·have h:x=y:=EF (by simpa using h);refine Fit.aar (by omega) (by omega) ?_;exact⟨(k+1,()),⟨c,zC f q o h⟩,⟨aZ,trivial⟩,trivial,bf c⟩
 ·have n:¬k<a.length:=by rw[m] at n;omega
  have r:k=a.length:=by omega
  exact ay rfl (vv C.bool (pW (uV rfl d.symm (r▸f))))
theorem t80:∀x y:Ty,qZ 80 [aK x,aK y] (x=y):=fun x=>cL (p:=fun x=>∀y,qZ 80 [aK x,aK y] (x=y)) (fun x a y=>by
  have b:(x.args.map aD).length=x.args.length:=by simp
  refine af Try.func80 Qd rfl fun c _=>?_;refine ah (fun h0=>?_) (fun h0=>ay rfl (vv C.bool (iy fun e=>h0 (by rw[e]))));refine ah (fun h1=>?_) (fun h1=>ay rfl (vv C.bool (iy fun e=>h1 (by rw[e]))));refine aF (Zq x.args y.args a) rfl fun _=>?_;exact ay rfl (vv C.bool (wm ⟨fun h=>uW h0 h1 h,fun e=>by rw[e]⟩))) x
mutual
def fresh (n from':Int):Ty->Option Ty
 | .mk k i l=>if k<1\/5<k\/(k=5/\(i<0\/n<=i\/0<l.length)) then none else if k=5 then some (.mk 9 (from'+i) []) else match Dl n from' l with
  | some l'=>some (.mk k i l')
  | none=>none
def Dl (n from':Int):List Ty->Option (List Ty)
 | []=>some []
 | t::l=>match fresh n from' t,Dl n from' l with
  | some t',some l'=>some (t'::l')
  | _,_=>none
end
theorem zV (n f:Int):∀l:List Ty,Dl n f l=kx (fresh n f) l
 | []=>rfl
 | t::l=>by
  rw[Dl,zV n f l,kx];rfl
theorem lI (n f:Int) (t:Ty):fresh n f t=if t.kind<1\/5<t.kind\/(t.kind=5/\(t.id<0\/n<=t.id\/0<t.args.length)) then none else if t.kind=5 then some (.mk 9 (f+t.id) []) else match kx (fresh n f) t.args with
  | some a=>some (.mk t.kind t.id a)
  | none=>none:=by
 cases t;rw[fresh,zV];rfl
def NT:Option Ty->Ty×Bool
 | some r=>(r,true)
 | none=>(zT,false)
def nW (n f:Int) (t:Ty):Ty×Bool:=NT (fresh n f t)
abbrev GN (n f:Int) (t:Ty) (r:Ty×Bool):Prop:=CallsT P 74 [aK t,IC n,IC f] [] (aQ [] (.tup [aK r.1,.bool r.2]))
theorem Zr (n f:Int) (t:Ty) (h:t.kind<1\/5<t.kind\/(t.kind=5/\(t.id<0\/n<=t.id\/0<t.args.length))):GN n f t (zT,false):=by
 have a:(t.args.map aD).length=t.args.length:=vz _;refine af Try.func74 CX rfl fun b _=>?_;refine ah (fun h1=>?_) (fun h1=>ah (fun h2=>?_) (fun h2=>ah (fun h3=>ah (fun h4=>?_) (fun h4=>ah (fun h5=>?_) (fun h5=>?_))) (fun h3=>?_)))
 ·refine ah (fun _=>ay rfl rfl) (fun q=>o5 h1 q)
 ·refine ah (fun _=>ay rfl rfl) (fun q=>o5 h2 q)
 ·exact ay rfl rfl
 ·exact ay rfl rfl
 ·refine ah (fun _=>ay rfl rfl) (fun h6=>o5 h (by omega))
 ·exact o5 h (by omega)
theorem Zs (n f:Int) (t:Ty) (hf:0<=f/\f<=100) (d:n<=100) (h:¬(t.kind<1\/5<t.kind\/(t.kind=5/\(t.id<0\/n<=t.id\/0<t.args.length)))) (h5:t.kind=5):GN n f t (.mk 9 (f+t.id) [],true):=by
 have a:(t.args.map aD).length=t.args.length:=vz _;refine af Try.func74 CX rfl fun c _=>?_;refine ah (fun h1=>o5 (Or.inl h1) h) (fun h1=>ah (fun h2=>o5 (Or.inr (Or.inl h2)) h) (fun h2=>ah (fun h3=>ah (fun h4=>o5 (Or.inr (Or.inr ⟨h5,Or.inl h4⟩)) h) (fun h4=>ah (fun h6=>o5 (Or.inr (Or.inr ⟨h5,Or.inr (Or.inl h6)⟩)) h) (fun h6=>?_))) (fun h3=>o5 h5 h3)));refine ah (fun b=>o5 (Or.inr (Or.inr ⟨h5,Or.inr (Or.inr (by omega))⟩)) h) (fun b=>?_);refine ah (fun _=>?_) (fun q=>o5 h5 q);refine Fit.aar (by omega) (by omega) ?_;exact ay rfl rfl
theorem Zt (n f:Int) (t:Ty) (g:Ty->Ty×Bool) (hb:t.args.length<=2 ^ 30) (h:¬(t.kind<1\/5<t.kind\/(t.kind=5/\(t.id<0\/n<=t.id\/0<t.args.length)))) (h5:¬t.kind=5) (s:∀x∈t.args,GN n f x (g x)) :
  GN n f t (if t.args.all (fun x=>(g x).2) then(.mk t.kind t.id (t.args.map fun x=>(g x).1),true) else(zT,false)):=by
 have d:(t.args.map aD).length=t.args.length:=vz _;refine af Try.func74 CX rfl fun v _=>?_;refine ah (fun h1=>o5 (Or.inl h1) h) (fun h1=>ah (fun h2=>o5 (Or.inr (Or.inl h2)) h) (fun h2=>ah (fun h3=>o5 h3 h5) (fun h3=>?_)));refine ah (fun q=>o5 q h5) (fun _=>?_);refine bA t.args.length 58 [] ([]:List Ty) (fun _=>[]) (fun s'=>[(6,.box 32 [IC 0,IC 0,.nils]),(8,.box 32 [IC t.kind,IC t.id,.rw 76]),(76,.row 32 3 (s'.map aD))]) (fun j s'=>s'=(t.args.take j).map (fun x=>(g x).1)/\(t.args.drop j).all (fun x=>(g x).2)=t.args.all (fun x=>(g x).2)) ⟨by simp,rfl⟩ (aj rfl) trivial
  ⟨.inl ⟨_,rfl,.inl ⟨rfl,rfl⟩⟩,.inl ⟨_,rfl,.inr ⟨32,_,_,rfl,rfl,_,_,rfl,aj rfl,_,_,rfl,aj rfl,_,_,rfl,jf rfl rfl,rfl⟩⟩,.inr ⟨rfl,32,3,rfl⟩,trivial⟩ (fun _=>rfl) (fun _=>rfl) ?_
 rintro j s' w ⟨a,b⟩ _ _ _;have a:s'=(t.args.take j).map (fun x=>(g x).1):=a;have r:(s'.map aD).length=j:=by rw[a,vz,vz,abM];omega
 refine ah (fun c=>?_) (fun k=>?_)
 ·have c:j<t.args.length:=by rw[d] at c;omega
  refine aX c fun x p o l=>?_;refine bW p ?_;refine aF (s x o) rfl fun _=>?_;refine aq (fun m=>?_) (fun m=>?_)
  ·have e:t.args.all (fun x=>(g x).2)=false:=by
    rw[<-b,l,abu,show(g x).2=false by simpa using m,abb]
   exact ay rfl (by rw[e];rfl)
  ·have m:(g x).2=true:=by simpa using m
   refine jN j rfl r (by decide) (by omega) ?_;refine Fit.aar (by omega) (by omega) ?_;refine⟨(j+1,s'++[(g x).1]),⟨c,?_,?_⟩,⟨aZ,trivial⟩,⟨.inl ⟨_,rfl,.inl ⟨rfl,rfl⟩⟩,.inl ⟨_,rfl,.inl ⟨rfl,rfl⟩⟩,.inl ⟨_,rfl,.inl ⟨mq sF,rfl⟩⟩,trivial⟩,bf c⟩
   ·show s'++[(g x).1]=(t.args.take (j+1)).map _;rw[dA p,a,abC];rfl
   ·have:=b;rw[l,abu,m,aa7] at this;exact this
 ·have k:¬j<t.args.length:=by rw[d] at k;omega
  have e:t.args.all (fun x=>(g x).2)=true:=by rw[<-b,List.drop_of_length_le (by omega),List.all_nil]
  have u:C.agg [IC t.kind,IC t.id,.sl (s'.map aD)]=aK (.mk t.kind t.id (t.args.map fun x=>(g x).1)):=by
   rw[a,abA (by omega)];rfl
  refine uL [76] [] ⟨_,[],rfl,rfl,rfl,rfl,?_⟩;rw[e];exact vv (fun z=>C.tup [z,.bool true]) u
theorem Nm {f:Ty->Option Ty}:∀l:List Ty,kx f l=if l.all (fun x=>(NT (f x)).2) then some (l.map fun x=>(NT (f x)).1) else none
 | []=>rfl
 | x::l=>by
  rw[kx,Nm l,abu,abe];cases f x with
  | none=>rfl
  | some r =>
   rw[show(NT (some r)).2=true from rfl,show(NT (some r)).1=r from rfl,aa7]
   by_cases a:(l.all fun x=>(NT (f x)).2)=true
   ·rw[eu a,eu a]
   ·rw[fo a,fo a]
theorem t74 (n f:Int) (hf:0<=f/\f<=100) (d:n<=100):∀t:Ty,gN t->GN n f t (nW n f t):=cL fun t c hb=>by
 have hb:=(eM t).1 hb
 by_cases h:t.kind<1\/5<t.kind\/(t.kind=5/\(t.id<0\/n<=t.id\/0<t.args.length))
 ·have:=Zr n f t h;rw[nW,lI,eu h];exact this
 by_cases h5:t.kind=5
 ·have:=Zs n f t hf d h h5;rw[nW,lI,fo h,eu h5];exact this
 ·have:=Zt n f t (nW n f) hb.1 h h5 fun x b=>c x b (hb.2 x b);have e:fresh n f t=if t.args.all (fun x=>(nW n f x).2) then some (.mk t.kind t.id (t.args.map fun x=>(nW n f x).1)) else none:=by
   rw[lI,fo h,fo h5,Nm]
   by_cases a:(t.args.all fun x=>(NT (fresh n f x)).2)=true
   ·rw[eu a];exact(eu a).symm
   ·rw[fo a];exact(fo a).symm
  rw[nW,e]
  by_cases a:(t.args.all fun x=>(nW n f x).2)=true
  ·rw[eu a] at this ⊢;exact this
  ·rw[fo a] at this ⊢;exact this
def Dm (s:List Ty) (a b:Ty):Prop:=∃n s',MY n s a b s'
theorem UR.ok {n:Nat}{s:List Ty}{a b:Ty}{r:List Ty}{e:Int}(t:UR n s a b r e):e=0↔Dm s a b:=by
 constructor
 ·rintro rfl;rcases t with⟨s',g,_⟩ | ⟨g,_⟩
  ·exact⟨n,s',g⟩
  ·have:=g.three;omega
 ·rintro⟨m,s',g⟩;rcases t with⟨_,_,_,h⟩ | ⟨q,_⟩
  ·exact h
  ·obtain⟨⟨d,o,h1⟩,v,h2,d1,o1,k,y,o2,h3,h4,z⟩:=g;exfalso;rcases q with⟨q,_⟩ | ⟨_,⟨q,_⟩ | ⟨_,⟨q,_⟩ | ⟨u,q,_,f⟩⟩⟩
   ·have:=iY h1 q;cases this
   ·rw[v] at q;cases q
   ·have:=lf h2 q;cases this
   ·have p:=lf h2 q;injection p with p
    subst p;rcases f with f | ⟨d',o',f,c⟩
    ·have:=iY h3 f;cases this
    ·have j:=iY h3 f;injection j with j
     injection j with j e3
     subst j e3;rcases c with c | ⟨k',x,w,c,q4⟩
     ·have:=vn h4 c;cases this
     ·have l:=vn h4 c;injection l with l
      injection l with l
      omega
def Ug (a b:Impl):Prop:=a.trait=b.trait/\0<=a.params/\0<=b.params/\a.params<=4/\b.params<=4/\∃x y,fresh a.params 0 a.type=some x/\fresh b.params a.params b.type=some y/\Dm (zeros (a.params+b.params).toNat) x y
theorem rZ {n f:Int}:∀t r:Ty,fresh n f t=some r->gN t->gN r/\cg r=cg t:=cL (p:=fun t=>∀r,fresh n f t=some r->gN t->gN r/\cg r=cg t) fun t e r h hb=>by
 rw[lI] at h;split at h
 ·cases h
 ·rename_i k;split at h
  ·rename_i h5;injection h with h
   subst h;have j:t.args=[]:=abO (by omega);exact⟨(eM _).2 ⟨abr _,fun x h=>by cases h⟩,by rw[cQ t,j];rfl⟩
  ·cases c:kx (fresh n f) t.args with
   | none=>rw[c] at h;cases h
   | some l =>
    rw[c] at h;injection h with h
    subst h;obtain⟨h1,h2⟩:=gM c;have hb:=(eM t).1 hb;have key:∀x∈t.args,gN ((fresh n f x).getD x)/\cg ((fresh n f x).getD x)=cg x:=fun x a=>e x a _ (h1 x a) (hb.2 x a);refine⟨(eM _).2 ⟨by show l.length<=_;rw[h2,vz];exact hb.1,fun y b=>?_⟩,?_⟩
    ·have b:y∈l:=b;rw[h2] at b;obtain⟨x,a,rfl⟩:=abx.1 b;exact(key x a).1
    ·rw[cQ,cQ t];show cI l+1=_;have:∀d:List Ty,(∀x∈d,cg ((fresh n f x).getD x)=cg x)->cI (d.map fun x=>(fresh n f x).getD x)=cI d:=by
      intro d
      induction d with
      | nil=>exact fun _=>rfl
      | cons x d e=>intro c;rw[abe,cI,cI,c x (by simp),e fun y b=>c y (by simp[b])]
     rw[h2,this t.args fun x a=>(key x a).2]
abbrev Nn (f:Nat) (a b:Impl):Prop:=CallsT P f [Aw a,Aw b] [] (aQ [] (.bool (Ar (Ug a b))))
theorem Wd (a b:Impl) (h:¬(a.trait=b.trait/\0<=a.params/\0<=b.params/\a.params<=4/\b.params<=4)):Nn 32 a b:=by
 have d:¬Ug a b:=fun q=>h ⟨q.1,q.2.1,q.2.2.1,q.2.2.2.1,q.2.2.2.2.1⟩;have e:=iy d;refine af Try.func32 HN rfl fun c _=>?_;refine aT (fun _=>?_) (fun h1=>?_)
 ·exact ay rfl (vv C.bool e)
 refine⟨TP (by exact c.1.2.2.1) (by exact c.2.1.2.2.1),?_⟩;refine ah (fun _=>?_) (fun h2=>?_)
 ·exact ay rfl (vv C.bool e)
 refine⟨Gu (by exact c.1.2.2.1) (by exact c.2.1.2.2.1),?_⟩;refine ah (fun _=>?_) (fun h3=>?_)
 ·exact ay rfl (vv C.bool e)
 have h2:¬(if b.params<a.params then b.params else a.params)<0:=h2;have h3:¬(if b.params>a.params then b.params else a.params)>4:=h3;exact o5 ⟨h1,by split at h2<;>split at h3<;>omega⟩ h
section
variable {L:TL}{ρ:aG}
theorem QS (l:Nat) {t sz:Nat}{els:List (List C)}{n:Nat}{s:List Ty}{a b:Ty}{args f:List C}{K:TL->aG->C->Prop}{d:Option Nat}(h:CallsT P 23 f [] (RN n s a b)) (he:wM P 23) (m:L.get l=some (.row t sz els)) (q:(args.map fun c=>(c.frz l els).aaw.ren (bn [] 1000))=f)
  (k:∀r e,UR n s a b r e->Wf (.tup [.sl (r.map aD),IC e])->K ((L.aaq (C.kill l)).set l (.row t sz [])) (fun j=>(ρ j).kill l) (C.tup [.sl (r.map aD),IC e])):pK P 23 args L ρ d K:=by
 subst q;exact .row _ l t sz els he m h fun v Mo ⟨p,r,e,u,w⟩ o=>by subst p w;exact⟨rfl,k r e u o⟩
end
theorem Wg:wM P 23:=⟨Try.f23,Try.func23,by kernel_rfl,by kernel_rfl⟩
theorem Sr (a b:Impl) (h:a.trait=b.trait/\0<=a.params/\0<=b.params/\a.params<=4/\b.params<=4) (x y:Ty×Bool) (h1:GN a.params 0 a.type x) (h2:GN b.params a.params b.type y) (m:Nat) (t:(m:Int)=a.params+b.params) (v:Bool)
  (s:x.2=false->v=false) (k:y.2=false->v=false) (n:Nat) (c:x.2=true->y.2=true->CallsT P 23 [.sl (List.replicate m [IC 0,IC 0,.sl []]),aK x.1,aK y.1] [] (RN n (zeros m) x.1 y.1)/\∀r e,UR n (zeros m) x.1 y.1 r e->decide (e=0)=v):CallsT P 32 [Aw a,Aw b] [] (aQ [] (.bool v)):=by
 obtain⟨x,o⟩:=x;obtain⟨y,p⟩:=y;generalize j:UR=U at c;refine af Try.func32 HN rfl fun d _=>?_;refine aT (fun q=>o5 h.1 q) (fun _=>?_);refine⟨TP (by exact d.1.2.2.1) (by exact d.2.1.2.2.1),?_⟩;refine ah (fun q=>?_) (fun _=>?_)
 ·have q:(if b.params<a.params then b.params else a.params)<0:=q;exact o5 q (by split<;>omega)
 refine⟨Gu (by exact d.1.2.2.1) (by exact d.2.1.2.2.1),?_⟩;refine ah (fun q=>?_) (fun _=>?_)
 ·have q:(if b.params>a.params then b.params else a.params)>4:=q;exact o5 q (by split<;>omega)
 refine aF h1 rfl fun _=>?_;refine aF h2 rfl fun _=>?_;refine aq (fun q=>?_) (fun q=>?_)
 ·exact ay rfl (vv C.bool (s (by simpa using q)).symm)
 refine aq (fun f=>?_) (fun f=>?_)
 ·exact ay rfl (vv C.bool (k (by simpa using f)).symm)
 have c:=c (by simpa using q) (by simpa using f);refine zH (m:=(m:Int)) (by rw[IntKind.wrap_i64];omega) ?_;refine pq.mk (by omega) (abn _) (by omega) (by simp only[maxLen];omega) ?_;subst j;refine QS 62 c.1 Wg rfl rfl fun r e l _=>?_;exact ay rfl (vv C.bool (c.2 r e l))
theorem t32 (a b:Impl) (p:gN a.type) (hb:gN b.type) (ag:cg a.type<=2 ^ 40) (z:cg b.type<=2 ^ 40):Nn 32 a b:=by
 by_cases h:a.trait=b.trait/\0<=a.params/\0<=b.params/\a.params<=4/\b.params<=4
 ·have h1:=t74 a.params 0 (by omega) (by omega) a.type p;have h2:=t74 b.params a.params (by omega) (by omega) b.type hb;have u:∀{o:Option Ty},(NT o).2=true->o=some (NT o).1:=fun{o} h=>by cases o with | none=>cases h | some r=>rfl
  have m:∀{o:Option Ty}{r:Ty},o=some r->(NT o).2=true:=fun{o} {r} h=>by rw[h];rfl
  by_cases c:(nW a.params 0 a.type).2=true/\(nW b.params a.params b.type).2=true
  ·have ex:=u c.1;have l:=u c.2;obtain⟨k,ab⟩:=rZ a.type _ ex p;obtain⟨j,aa⟩:=rZ b.type _ l hb;have hl:(zeros (a.params+b.params).toNat).length=(a.params+b.params).toNat:=by rw[zeros,abD]
   obtain⟨n,t,_⟩:=GI (s:=zeros (a.params+b.params).toNat) (by rw[hl];omega) (fun x c=>by rw[(ab2.1 c).2];exact(eM _).2 ⟨abr _,fun x h=>by cases h⟩) k j (by omega) (by omega);have hz:(zeros (a.params+b.params).toNat).map aD=List.replicate (a.params+b.params).toNat [IC 0,IC 0,.sl []]:=by rw[zeros,ab9];rfl
   rw[hz] at t;refine Sr a b h _ _ h1 h2 (a.params+b.params).toNat (by omega) _ (fun q=>by rw[c.1] at q;cases q) (fun q=>by rw[c.2] at q;cases q) n fun _ _=>⟨t,fun r e w=>Qx (w.ok.trans ?_)⟩;constructor
   ·exact fun q=>⟨h.1,h.2.1,h.2.2.1,h.2.2.2.1,h.2.2.2.2,_,_,ex,l,q⟩
   ·rintro⟨_,_,_,_,_,x,y,d,f,q⟩;rw[ex] at d;rw[l] at f;injection d with d
    injection f with f
    subst d f;exact q
  ·have v:¬Ug a b:=fun⟨_,_,_,_,_,x,y,d,f,_⟩=>c ⟨m d,m f⟩;have e:=iy v;refine Sr a b h _ _ h1 h2 (a.params+b.params).toNat (by omega) _ (fun _=>e.symm) (fun _=>e.symm) 0 fun q1 q2=>o5 ⟨q1,q2⟩ c
 ·exact Wd a b h
mutual
def kC (q:Int->Bool):Ty->Bool
 | .mk k i l=>if k=9 then q i else Im q l
def Im (q:Int->Bool):List Ty->Bool
 | []=>true
 | t::l=>kC q t&&Im q l
end
theorem Cc (q:Int->Bool):∀l:List Ty,Im q l=l.all (kC q)
 | []=>rfl
 | t::l=>by rw[Im,Cc q l];rfl
theorem eH (q:Int->Bool) (t:Ty):kC q t=if t.kind=9 then q t.id else t.args.all (kC q):=by
 cases t;rw[kC,Cc];rfl
theorem nA {q q':Int->Bool}{n:Int}(h:∀w,0<=w->w<n->q w=true->q' w=true):∀t:Ty,ins n t=true->kC q t=true->kC q' t=true:=cL fun t j f c=>by
 rw[eH] at c ⊢
 by_cases e:t.kind=9
 ·rw[eu e] at c ⊢;obtain⟨a,b,_⟩:=fM f e;exact h _ a b c
 ·rw[fo e,abg] at c ⊢;exact fun x d=>j x d (cR f x d) (c x d)
def kn (s:List Ty):Nat->Int->Bool
 | 0,_=>false
 | j+1,v=>match s[v.toNat]? with
  | none=>true
  | some x=>decide (x.kind=0)||kC (kn s j) x
theorem zW {s:List Ty}(b:Av s):∀(j:Nat) (v:Int),kn s j v=true->kn s (j+1) v=true
 | 0,v,h=>by cases h
 | j+1,v,h=>by
  rw[kn] at h ⊢;cases c:s[v.toNat]? with
  | none=>rfl
  | some x =>
   rw[c] at h;simp only at h ⊢
   by_cases a:x.kind=0
   ·rw[aa2 a];rfl
   ·rw[aa3 a,Bool.false_or] at h ⊢;exact nA (fun w _ _=>zW b j w) x ((b x (aa8 c)).resolve_left a) h
theorem QT {s:List Ty}(p:Av s) {j:Nat}{t:Ty}(h:kz s t):ins s.length t=true->kC (kn s j) t=false->∃i:Nat,i<s.length/\kn s j i=false/\kn s (j+1) i=true:=by
 induction h with
 | @step t x b he c _ k =>
  intro d a;obtain⟨o,l,f⟩:=bD he
  by_cases n:kC (kn s j) x=true
  ·rw[eH,eu b] at a;have e:((t.id.toNat:Nat):Int)=t.id:=by omega
   refine⟨t.id.toNat,f,by rw[e];exact a,?_⟩;rw[kn,e,l];simp only;rw[n,Bool.or_true]
  ·exact k (p.elem he c) (by simpa using n)
 | @stop t x b he c _ _ =>
  intro d a;obtain⟨o,l,f⟩:=bD he;rw[eH,eu b] at a;have e:((t.id.toNat:Nat):Int)=t.id:=by omega
  refine⟨t.id.toNat,f,by rw[e];exact a,?_⟩;rw[kn,e,l];simp only;rw[aa2 c,Bool.true_or]
 | @arg t b _ k =>
  intro d a;rw[eH,fo b,List.all_eq_false] at a;obtain⟨y,m,a⟩:=a;exact k y m (cR d y m) (by simpa using a)
def sG (q:Nat->Bool):Nat->Nat
 | 0=>0
 | n+1=>(if q n=true then 1 else 0)+sG q n
theorem Io (q:Nat->Bool):∀n,sG q n<=n
 | 0=>abh _
 | n+1=>by have:=Io q n;rw[sG];split<;>omega
theorem Cd {q q':Nat->Bool}(h:∀i,q i=true->q' i=true):∀n,sG q n<=sG q' n
 | 0=>abh _
 | n+1=>by
  have:=Cd h n;rw[sG,sG]
  by_cases a:q n=true
  ·rw[eu a,eu (h n a)];omega
  ·rw[fo a];split<;>omega
theorem Ip {q q':Nat->Bool}(h:∀i,q i=true->q' i=true) {i:Nat}(h1:q i=false) (h2:q' i=true):∀n,i<n->sG q n<sG q' n
 | 0,hi=>o5 hi (abL _)
 | n+1,hi=>by
  rw[sG,sG]
  by_cases e:i=n
  ·subst e;have:=Cd h i;rw[fo (by rw[h1];exact abt),eu h2];omega
  ·have:=Ip h h1 h2 n (by omega)
   by_cases a:q n=true
   ·rw[eu a,eu (h n a)];omega
   ·rw[fo a];split<;>omega
theorem Ce {q:Nat->Bool}:∀{n},n<=sG q n->∀i<n,q i=true
 | 0,_,i,hi=>o5 hi (abL _)
 | n+1,h,i,hi=>by
  rw[sG] at h;have:=Io q n
  by_cases a:q n=true
  ·rw[eu a] at h
   by_cases e:i=n
   ·rw[e];exact a
   ·exact Ce (n:=n) (q:=q) (by omega) i (by omega)
  ·rw[fo a] at h;omega
theorem Good.kn {s:List Ty}(g:Good s):∀i:Nat,i<s.length->Try.kn s s.length i=true:=by
 have h:∀j,j<=s.length->j<=sG (fun i=>Try.kn s j i) s.length:=by
  intro j
  induction j with
  | zero=>exact fun _=>abr _
  | succ j e =>
   intro k;have e:=e (by omega)
   by_cases a:∀i:Nat,i<s.length->Try.kn s j i=true
   ·have:∀n,n<=s.length->n<=sG (fun i=>Try.kn s (j+1) i) n:=by
     intro n
     induction n with
     | zero=>exact fun _=>abr _
     | succ n b =>
      intro l;have:=b (by omega);rw[sG,eu (zW g.ins j n (a n (by omega)))];omega
    exact abN k (this s.length (abh _))
   ·have:∃i:Nat,i<s.length/\Try.kn s j i=false:=by
     refine Classical.byContradiction fun c=>a fun i hi=>?_;cases d:Try.kn s j i with
     | true=>rfl
     | false=>exact o5 ⟨i,hi,d⟩ c
    obtain⟨i,hi,d⟩:=this;obtain⟨f,h1,h2,h3⟩:=QT g.ins (j:=j) (g.fin i hi) (nk hi) (by rw[eH,eu (show(vr i).kind=9 from rfl)];exact d);have:=Ip (q:=fun i=>Try.kn s j i) (q':=fun i=>Try.kn s (j+1) i) (fun i=>zW g.ins j i) (i:=f) h2 h3 s.length h1;omega
 exact Ce (h s.length (abh _))
theorem zX {p:Nat->Prop}:∀n,p n->∃m,m<=n/\p m/\∀k<m,¬p k
 | 0,h=>⟨0,abh _,h,fun k a=>o5 a (abL _)⟩
 | n+1,h=>by
  by_cases e:∃k,k<=n/\p k
  ·obtain⟨k,a,h⟩:=e;have l:∀k,k<=n->p k->∃m,m<=k/\p m/\∀j<m,¬p j:=by
    intro k
    induction k using Nat.strongRecOn with
    | _ k f =>
     intro a h
     by_cases d:∃j,j<k/\p j
     ·obtain⟨j,c,b⟩:=d;obtain⟨m,m1,m2,m3⟩:=f j c (by omega) b;exact⟨m,by omega,m2,m3⟩
     ·exact⟨k,abh _,h,fun j c b=>d ⟨j,c,b⟩⟩
   obtain⟨m,m1,m2,m3⟩:=l k a h;exact⟨m,by omega,m2,m3⟩
  ·exact⟨n+1,abh _,h,fun k a b=>e ⟨k,by omega,b⟩⟩
structure Rk (s:List Ty) (ρ:Int->Nat):Prop where
 lt:∀i:Nat,i<s.length->ρ i<s.length
 dn:∀(i:Nat) (x:Ty),s[i]?=some x->¬x.kind=0->kC (fun w=>decide (ρ w<ρ i)) x=true
theorem Good.aaT {s:List Ty}(g:Good s):∃ρ,Rk s ρ:=by
 have h:∀v:Int,∃m,(0<=v->v<s.length->m<s.length/\Try.kn s (m+1) v=true/\∀k<m,Try.kn s (k+1) v=false):=by
  intro v
  by_cases o:0<=v/\v<s.length
  ·have h1:=g.kn v.toNat (by omega);rw[show((v.toNat:Nat):Int)=v by omega] at h1;obtain⟨m,m1,m2,m3⟩:=zX (p:=fun m=>Try.kn s (m+1) v=true) (s.length-1) (by rw[show s.length-1+1=s.length by omega];exact h1);exact⟨m,fun _ _=>⟨by omega,m2,fun k d=>by simpa using m3 k d⟩⟩
  ·exact⟨0,fun a b=>o5 ⟨a,b⟩ o⟩
 refine⟨fun v=>(h v).choose,⟨fun i hi=>((h i).choose_spec (by omega) (by omega)).1,fun i x j d=>?_⟩⟩;have hi:i<s.length:=(aa6.1 j).1;obtain⟨a,b,c⟩:=(h i).choose_spec (by omega) (by omega);have l:=(g.ins x (aa8 j)).resolve_left d;show kC (fun w=>decide ((h w).choose<(h i).choose)) x=true;generalize q:(h (i:Int)).choose=m at a b c ⊢;rw[Try.kn,show((i:Nat):Int).toNat=i by omega,j] at b;simp only at b;rw[aa3 d,Bool.false_or] at b;refine nA (fun w h0 h1 e=>?_) x l b;obtain⟨a',r,n⟩:=(h w).choose_spec h0 h1;cases m with
 | zero=>cases e
 | succ m =>
  rw[abf];have:=fun(k:Nat) (d:k<(h w).choose)=>n k d
  by_cases f:m<(h w).choose
  ·rw[n m f] at e;cases e
  ·omega
theorem Uh {u:List Ty}{B:Nat}(e:∀x∈u,cg x<=B):∀t:Ty,cg (gs u t)<=cg t+B:=cL fun t c=>by
 by_cases b:t.kind=9
 ·rw[kS b];cases a:u[t.id.toNat]? with
  | none=>show cg (.mk 0 0 [])<=_;rw[show cg (.mk 0 0 [])=1 from rfl];have:=cQ t;omega
  | some x=>have:=e x (aa8 a);show cg x<=_;omega
 ·rw[iR b,cQ,cQ t];have:cI (t.args.map (gs u))<=cI t.args+B:=uX fun y d=>by
   obtain⟨x,a,rfl⟩:=abx.1 d;have:=c x a;have:=jy a;omega
  show cI (t.args.map (gs u))+1<=_;omega
theorem zY {u:List Ty}{t y:Ty}(b:¬t.kind=9) (a:y∈t.args):cg (gs u y)+1<=cg (gs u t):=by
 rw[iR b,cQ (.mk _ _ _)];have:=jy (l:=t.args.map (gs u)) (x:=gs u y) (abx.2 ⟨y,a,rfl⟩);show _<=cI (t.args.map (gs u))+1;omega
def Ss (u:List Ty) (ex:Prop) (d:DM):Prop:=∀j k,bw d j=some k->1<=k/\k<=cg (gs u (.mk 9 j []))/\(ex->k=cg (gs u (.mk 9 j [])))
def Np (d:DM) (o:OM) (j:Int):Prop:=bw o j=some true/\bw d j=none
theorem QU {n:Nat}(h:n<=2 ^ 50):Au ((n:Int)+1)=((n+1:Nat):Int):=by
 unfold Au;rw[IntKind.wrap_i64];omega
theorem vo {u s:List Ty}{ρ:Int->Nat}{ex:Prop}(hS:Sat u s) (hs:Av s) (hR:Rk s ρ) (hu:∀x∈u,cg x<=2 ^ 30) (an:ex->∀(t:Ty) (x:Ty),t.kind=9->bS s t=some x->x.kind=0->cg (gs u t)=1) :
  ∀(n:Nat) (t:Ty) (d:DM) (o:OM) r,ins s.length t=true->cg t<=2 ^ 30->(∀x∈s,cg x<=2 ^ 30)->Ss u ex d->(∀j,Np d o j->kC (fun w=>decide (ρ w<ρ j)) t=true)->bL s n t d o=some r ->
   ∃k v o',r=some (k,v,o')/\1<=k/\k<=cg (gs u t)/\(ex->k=cg (gs u t))/\Ss u ex v/\∀j,Np v o' j->Np d o j
 | 0,t,d,o,r,_,_,_,_,_,h=>by cases h
 | n+1,t,d,o,r,ht,cm,ae,hd,ho,h=>by
  have hL:∀(l:List Ty) (k:Int) (d:DM) (o:OM) r,(∀x∈l,ins s.length x=true/\cg x<=2 ^ 30/\∀j,Np d o j->kC (fun w=>decide (ρ w<ρ j)) x=true)->Ss u ex d->eW (bL s n) l k d o=some r ->
    ∃k' v o',r=some (k',v,o')/\(∀m:Nat,k<=m->k'<=(max m (cI (l.map (gs u))):Nat))/\k<=k'/\(ex->∀m:Nat,k=m->k'=(max m (cI (l.map (gs u))):Nat))/\Ss u ex v/\∀j,Np v o' j->Np d o j:=by
   intro l
   induction l with
   | nil =>
    intro k d o r _ hd h;rw[eW] at h;injection h with h
    refine⟨k,d,o,h.symm,fun m hm=>?_,abn _,fun _ m hm=>?_,hd,fun j h=>h⟩
    ·rw[abX,cI];omega
    ·rw[abX,cI];omega
   | cons x l ih =>
    intro k d o r z hd h;rw[eW] at h;obtain⟨bd,bp,be⟩:=z x (by simp);cases hx:bL s n x d o with
    | none=>rw[hx] at h;cases h
    | some r1 =>
     rw[hx] at h;obtain⟨k1,d1,o1,rfl,c1,c2,c3,c4,c5⟩:=vo hS hs hR hu an n x d o r1 bd bp ae hd be hx;simp only at h;obtain⟨k2,d2,o2,rfl,e1,e2,e3,e4,e5⟩:=ih _ d1 o1 r (fun y hy=>⟨(z y (by simp[hy])).1,(z y (by simp[hy])).2.1,fun j c=>(z y (by simp[hy])).2.2 j (c5 j c)⟩) c4 h;refine⟨k2,d2,o2,rfl,fun m hm=>?_,?_,fun hx m hm=>?_,e4,fun j c=>c5 j (e5 j c)⟩
     ·have:=e1 (max m (cg (gs u x))) (by split<;>omega);rw[abe,cI];omega
     ·have:k<=if k1>k then k1 else k:=by split<;>omega
      omega
     ·have:=e3 hx (max m (cg (gs u x))) (by have:=c3 hx;split<;>omega);rw[abe,cI];omega
  rw[bL] at h;cases he:(if t.kind=9 then bS s t else some (.mk 0 0 [])) with
  | none=>simp only[he] at h;cases h
  | some x =>
   simp only[he] at h
   by_cases hk:x.kind=0
   ·rw[fo (fun p=>p hk)] at h;cases z:eW (bL s n) t.args 0 d o with
    | none=>simp only[z] at h;cases h
    | some r1 =>
     simp only[z] at h
     by_cases f:t.kind=9
     ·have ha:=(fM ht f).2.2;rw[ha,eW] at z;injection z with z
      subst z;simp only at h;injection h with h
      rw[eu f] at he;have hg:1<=cg (gs u t):=by rw[cQ];omega
      refine⟨_,d,o,h.symm,?_,?_,fun hx=>?_,hd,fun j h=>h⟩
      ·rw[show Au (0+1)=1 from rfl];omega
      ·rw[show Au (0+1)=1 from rfl];omega
      ·rw[show Au (0+1)=1 from rfl,an hx t x f he hk];rfl
     ·obtain⟨k1,d1,o1,rfl,c1,c2,c3,c4,c5⟩:=hL t.args 0 d o r1 (fun y hy=>⟨cR ht y hy,by have:=jy hy;have:=cQ t;omega,fun j c=>by
       have:=ho j c;rw[eH,fo f,abg] at this;exact this y hy⟩) hd z
      simp only at h;injection h with h
      have hg:=Uh hu t;have c1:=c1 0 (by omega);have hq:cg (gs u t)=cI (t.args.map (gs u))+1:=by rw[iR f,cQ];rfl
      have bj:k1=(k1.toNat:Int):=by omega
      have hw:Au (k1+1)=k1+1:=by rw[bj,QU (by omega)];omega
      refine⟨_,d1,o1,h.symm,by omega,by omega,fun hx=>?_,c4,c5⟩;have:=c3 hx 0 rfl;omega
   ·rw[eu hk] at h;have f:t.kind=9:=by
     by_cases f:t.kind=9
     ·exact f
     ·rw[fo f] at he;injection he with he
      exact o5 (by rw[<-he];rfl) hk
    rw[eu f] at he;obtain⟨e1,e2,e3⟩:=bD he;have bo:gs u x=gs u t:=hS.elem f he hk;have az:gs u (.mk 9 t.id [])=gs u t:=mA rfl f rfl;cases hm:bw d t.id with
    | some k =>
     rw[hm] at h;simp only at h;injection h with h
     have:=hd _ _ hm;rw[az] at this;exact⟨k,d,o,h.symm,this.1,this.2.1,this.2.2,hd,fun j h=>h⟩
    | none =>
     rw[hm] at h;simp only at h;have bk:¬bw o t.id=some true:=fun q=>by
      have:=ho t.id ⟨q,hm⟩;rw[eH,eu f,abf] at this;omega
     have ao:=hR.dn t.id.toNat x e2 hk;rw[show((t.id.toNat:Nat):Int)=t.id by omega] at ao;have key:∀r1,bL s n x d (eX o t.id true)=some r1->∃k v o',r1=some (k,v,o')/\1<=k/\k<=cg (gs u t)/\(ex->k=cg (gs u t))/\Ss u ex (eX v t.id k)/\∀j,Np (eX v t.id k) o' j->Np d o j:=by
      intro r1 a;obtain⟨k1,d1,o1,rfl,c1,c2,c3,c4,c5⟩:=vo hS hs hR hu an n x d (eX o t.id true) r1 (hs.elem he hk) (ae x (oU he)) ae hd (fun j c=>by
       obtain⟨q1,q2⟩:=c;rw[iQ] at q1
       by_cases e:j=t.id
       ·rw[e];exact ao
       ·rw[fo e] at q1;have:=ho j ⟨q1,q2⟩;rw[eH,eu f,abf] at this;exact nA (n:=s.length) (fun w _ _ hw=>by rw[abf] at hw ⊢;omega) x (hs.elem he hk) ao) a
      rw[bo] at c2 c3;refine⟨k1,d1,o1,rfl,c1,c2,c3,fun j k c=>?_,fun j c=>?_⟩
      ·rw[iQ] at c
       by_cases e:j=t.id
       ·rw[eu e] at c;injection c with c
        rw[e,az,<-c];exact⟨c1,c2,c3⟩
       ·rw[fo e] at c;exact c4 j k c
      ·obtain⟨q1,q2⟩:=c;rw[iQ] at q2
       by_cases e:j=t.id
       ·rw[eu e] at q2;cases q2
       ·rw[fo e] at q2;obtain⟨q3,q4⟩:=c5 j ⟨q1,q2⟩;rw[iQ,fo e] at q3;exact⟨q3,q4⟩
     cases al:bw o t.id with
     | none =>
      rw[al] at h;simp only at h;cases a:bL s n x d (eX o t.id true) with
      | none=>rw[a] at h;cases h
      | some r1 =>
       rw[a] at h;obtain⟨k,v,o',rfl,q⟩:=key r1 a;simp only at h;injection h with h
       exact⟨_,_,_,h.symm,q⟩
     | some b =>
      rw[al] at h;cases b with
      | true=>exact o5 al bk
      | false =>
       simp only at h;cases a:bL s n x d (eX o t.id true) with
       | none=>rw[a] at h;cases h
       | some r1 =>
        rw[a] at h;obtain⟨k,v,o',rfl,q⟩:=key r1 a;simp only at h;injection h with h
        exact⟨_,_,_,h.symm,q⟩
theorem vp {u s:List Ty}{ρ:Int->Nat}{ex:Prop}(hS:Sat u s) (w:Av s) (m:Rk s ρ) (p:∀x∈u,cg x<=2 ^ 30) (c:ex->∀(t:Ty) (x:Ty),t.kind=9->bS s t=some x->x.kind=0->cg (gs u t)=1) (f:∀x∈s,cg x<=2 ^ 30) (n:Nat) :
  ∀(i:Nat) r,i<=s.length->dV s n i=some r->∃b d o,r=some (b,d,o)/\((∀j:Nat,j<i->cg (gs u (vr j))<=8)->b=false)/\(ex->b=false->∀j:Nat,j<i->cg (gs u (vr j))<=8)/\Ss u ex d/\∀j,¬Np d o j
 | 0,r,_,h=>by
  rw[dV] at h;injection h with h
  exact⟨false,[],[],h.symm,fun _=>rfl,fun _ _ j a=>o5 a (abL _),fun j k e=>(by cases e),fun j q=>by have:=q.1;cases this⟩
 | i+1,r,hi,h=>by
  rw[dV] at h;cases l:dV s n i with
  | none=>rw[l] at h;cases h
  | some r1 =>
   rw[l] at h;obtain⟨b,d,o,rfl,c1,c2,c3,c4⟩:=vp hS w m p c f n i r1 (by omega) l;simp only at h;cases hd:bL s n (vr i) d o with
   | none=>rw[hd] at h;cases h
   | some r2 =>
    rw[hd] at h;obtain⟨k,y,o',rfl,e1,e2,z,e4,e5⟩:=vo hS w m p c n (vr i) d o r2 (nk (by omega)) (by rw[show cg (vr i)=1 from rfl];omega) f c3 (fun j a=>o5 a (c4 j)) hd;simp only at h;injection h with h
    refine⟨_,y,o',h.symm,fun q=>?_,fun v q j a=>?_,e4,fun j a=>c4 j (e5 j a)⟩
    ·have:=q i (acd i);rw[c1 fun j a=>q j (by omega),aa3 (by omega)];rfl
    ·rw[Bool.or_eq_false_iff,acg] at q
     by_cases e:j=i
     ·subst e;have:=z v;omega
     ·exact c2 v q.1 j (by omega)
theorem E5 {s:List Ty}(h0:∀x∈s,x.kind=0->x=.mk 0 0 []) (c:Av s):s.all (fA s.length)=true:=by
 rw[abg];intro x b;rcases c x b with a | a
 ·rw[h0 x b a];rfl
 ·rw[zM (by have:=nj a;omega)];exact a
theorem GP {s:List Ty}(h:s.all (fA s.length)=true):∀x∈s,x.kind=0->x=.mk 0 0 []:=fun x b a=>by
 have h:=(abg.1 h) x b;unfold fA at h;rw[eu a,xo,abf,abf] at h;exact uW a h.1 (abO h.2)
theorem Dn {p:Ty->Prop}(hp:∀t,p t->∀x∈t.args,p x) (hv:∀i,p (.mk 9 i [])):∀(n:Nat) (s:List Ty) (a b:Ty) (s':List Ty),(∀x∈s,p x)->p a->p b->ld n s a b=some (some s')->∀x∈s',p x:=by
 intro n
 induction n with
 | zero=>intro s a b s' _ _ _ h;cases h
 | succ n ih =>
  intro s a b s' c ha hb h;have k:∀{t r:Ty},aP s n t=some r->p t->p r:=fun hf ht=>rW (p:=p) (fun t x _ _ he _=>c x (oU he)) hf ht;have d:∀{i:Nat}{b:Ty},p b->∀x∈s.set i b,p x:=fun hb x e=>by
   rcases acp e with e | rfl
   ·exact c x e
   ·exact hb
  cases fa:aP s n a with
  | none=>rw[ld,fa] at h;cases h
  | some a' =>
  cases fb:aP s n b with
  | none=>rw[ld,fa,fb] at h;cases h
  | some q =>
  rw[lO fa fb] at h;have m:=k fa ha;have j:=k fb hb;split at h
  ·split at h
   ·injection h with h;injection h with h;exact h▸c
   ·injection h with h;injection h with h;rw[<-h]
    exact d (hv _)
  ·split at h
   ·cases w:jT s a'.id n q with
    | none=>rw[w] at h;cases h
    | some o =>
     rw[w] at h;cases o with
     | true=>cases h
     | false=>injection h with h;injection h with h;rw[<-h];exact d j
   ·split at h
    ·exact ih s q a' s' c j m h
    ·split at h
     ·cases h
     ·have hL:∀(l f:List Ty) (s:List Ty),(∀x∈l,p x)->(∀x∈f,p x)->(∀x∈s,p x)->jU (ld n) s l f=some (some s')->∀x∈s',p x:=by
       intro l
       induction l with
       | nil=>intro f s _ _ c h;rw[jU] at h;injection h with h;injection h with h;exact h▸c
       | cons x l u =>
        intro f s h1 h2 c h;cases f with
        | nil=>cases h
        | cons y f =>
         rw[jU] at h;cases e:ld n s x y with
         | none=>rw[e] at h;cases h
         | some r =>
          rw[e] at h;cases r with
          | none=>cases h
          | some s1=>exact u f s1 (fun z v=>h1 z (by simp[v])) (fun z v=>h2 z (by simp[v])) (ih s x y s1 c (h1 x (by simp)) (h2 y (by simp)) e) h
      exact hL a'.args q.args s (hp a' m) (hp q j) c h
theorem E6 {n:Nat}{s:List Ty}{a b:Ty}{s':List Ty}(e:∀x∈s,x.kind=0->x=.mk 0 0 []) (hi:Av s) (f:ins s.length a=true) (hb:ins s.length b=true) (h:ld n s a b=some (some s')):∀x∈s',x.kind=0->x=.mk 0 0 []:=by
 have:∀x∈s',x=.mk 0 0 []\/(x.kind=9/\x.args=[])\/(∃m,ins m x=true):=by
  refine Dn (p:=fun x=>x=.mk 0 0 []\/(x.kind=9/\x.args=[])\/(∃m,ins m x=true)) ?_ (fun i=>.inr (.inl ⟨rfl,rfl⟩)) n s a b s' (fun x c=>?_) (.inr (.inr ⟨_,f⟩)) (.inr (.inr ⟨_,hb⟩)) h
  ·rintro t (rfl | ⟨_,h⟩ | ⟨m,h⟩) x c
   ·cases c
   ·rw[h] at c;cases c
   ·exact .inr (.inr ⟨m,cR h x c⟩)
  ·rcases hi x c with d | d
   ·exact .inl (e x c d)
   ·exact .inr (.inr ⟨_,d⟩)
 intro x c d;rcases this x c with h | ⟨h,_⟩ | ⟨m,h⟩
 ·exact h
 ·omega
 ·have:=nj h;omega
theorem zZ (s:List Ty):nu s<s.length+1:=by
 induction s with
 | nil=>exact Nat.zero_lt_one
 | cons x s a=>rw[nu,abo];split<;>omega
theorem xW {n:Nat}{s:List Ty}{a b:Ty}{s':List Ty}(g:Good s) (c:ins s.length a=true) (hb:ins s.length b=true) (h:ld n s a b=some (some s')):FB s s':=by
 obtain⟨m,r,h1,h2⟩:=u9 _ s g (zZ s) a b c hb;have e:=lf h h1;exact h2 s' e.symm
theorem JO {s u:List Ty}{a b:Ty}{m:Nat}{d0:DM}{o0:OM}(hf:bM s m=some (some (d0,o0))) (z:nV s a b=true) (ae:∀x∈s,cg x<=2 ^ 30) (hS:Sat u s) (ag:gs u a=gs u b) (hv:∀x∈u,cg x<=8) (hd:cg (gs u a)<=8):Dm s a b:=by
 have g:=ny hf;obtain⟨i1,i2,p1,p2⟩:=zL z;obtain⟨n,F,_,_⟩:=Sm s a b;have l:∃d o,bM s n=some (some (d,o)):=by
  obtain⟨r,c⟩:=F.form;exact⟨d0,o0,by rw[c,iY c hf]⟩
 obtain⟨r,c⟩:=F.eq l z;obtain⟨s',rfl,aa⟩:=hS.eqs ag c;have y:=xW g i1 i2 c;obtain⟨ρ,hR⟩:=y.good.aaT;have v:∀x∈s',cg x<=2 ^ 30:=Dn (p:=fun x=>cg x<=2 ^ 30) (fun t h x hx=>by have:=jy hx;have:=cQ t;omega) (fun i=>by rw[show cg (.mk 9 i [])=1 from rfl];omega) n s a b s' ae (by omega) (by omega) c;have hu:∀x∈u,cg x<=2 ^ 30:=fun x hx=>by have:=hv x hx;omega
 have hz:s.all (fA s.length)=true:=by
  unfold bM at hf;split at hf
  ·assumption
  ·cases hf
 obtain⟨r2,e⟩:=F.form' l z s' c;have al:∀j:Nat,j<s'.length->cg (gs u (vr j))<=8:=fun j hj=>by
  rw[kS (show(vr j).kind=9 from rfl)];cases hx:u[((vr j).id).toNat]? with
  | none=>show cg (.mk 0 0 [])<=8;decide
  | some x=>exact hv x (aa8 hx)
 have f:∃d o,bM s' n=some (some (d,o))/\Ss u False d/\∀j,¬Np d o j:=by
  unfold bM at e ⊢;rw[eu (E5 (E6 (GP hz) g.ins i1 i2 c) y.good.ins)] at e ⊢;cases hl:dV s' n s'.length with
  | none=>rw[hl] at e;cases e
  | some r1 =>
   obtain⟨b1,d,o,rfl,c1,_,c3,c4⟩:=vp (ex:=False) aa y.good.ins hR hu (fun q=>q.elim) v n s'.length r1 (abh _) hl;have:=c1 al;subst this;exact⟨d,o,rfl,c3,c4⟩
 obtain⟨d,o,f,ad,ac⟩:=f;obtain⟨r3,w⟩:=F.deep l z s' c d o f;obtain⟨k,d',o',rfl,e1,e2,_⟩:=vo (ex:=False) aa y.good.ins hR hu (fun q=>q.elim) n a d o r3 (by rw[y.len];exact i1) (by omega) v ad (fun j hj=>o5 hj (ac j)) w;exact⟨n,s',l,z,c,d,o,k,d',o',f,w,by omega⟩
theorem Sat.back {u s:List Ty}{v:Int}{b j:Ty}(h:Sat u (s.set v.toNat b)) (h0:0<=v) (f:s[v.toNat]?=some j) (a:j.kind=0) (hb:¬b.kind=0):Sat u s/\gs u (.mk 9 v [])=gs u b:=by
 have d:=h.len;rw[abU] at d;refine⟨⟨d,fun i x hi c=>?_⟩,?_⟩
 ·by_cases e:v.toNat=i
  ·rw[<-e,f] at hi;injection hi with hi
   exact o5 (hi▸a) c
  ·exact h.eq i x (by rw[ab8 e];exact hi) c
 ·have:=h.eq v.toNat b (ace (aa6.1 f).1) hb;rw[kS rfl];show(u[v.toNat]?).getD _=_;rw[this];rfl
theorem wC {u:List Ty}:∀(n:Nat) (s:List Ty) (a b:Ty) (s':List Ty),Good s->ins s.length a=true->ins s.length b=true->ld n s a b=some (some s')->Sat u s'->Sat u s/\gs u a=gs u b
 | 0,s,a,b,s',_,_,_,h,_=>by cases h
 | n+1,s,a,b,s',g,ha,hb,h,hS=>by
  cases fa:aP s n a with
  | none=>rw[ld,fa] at h;cases h
  | some a' =>
  cases fb:aP s n b with
  | none=>rw[ld,fa,fb] at h;cases h
  | some f =>
  rw[lO fa fb] at h;have ab:=g.ins.front fa ha;have t:=g.ins.front fb hb;have fin:Sat u s/\gs u a'=gs u f->Sat u s/\gs u a=gs u b:=fun⟨d,e⟩=>⟨d,by rw[<-d.front fa,<-d.front fb,e]⟩;refine fin ?_
  by_cases m:a'.kind=9
  ·obtain⟨xa,am,aa⟩:=gj fa m;obtain⟨w,v,be⟩:=bD am;have e1:gs u (.mk 9 a'.id [])=gs u a':=mA rfl m rfl
   by_cases c:f.kind=9
   ·obtain⟨xb,aw,ae⟩:=gj fb c;obtain⟨ad,an,bd⟩:=bD aw;have e2:gs u (.mk 9 f.id [])=gs u f:=mA rfl c rfl;rw[eu ⟨m,c⟩] at h
    by_cases hi:a'.id=f.id
    ·rw[eu hi] at h;injection h with h;injection h with h
     exact⟨h▸hS,mA m c hi⟩
    ·rw[fo hi] at h;injection h with h;injection h with h
     subst h;rcases Int.le_total a'.id f.id with j | j
     ·rw[Int.max_eq_right j,Int.min_eq_left j] at hS;obtain⟨d,e⟩:=hS.back ad an ae (by show¬(9:Int)=0;omega);exact⟨d,by rw[<-e1,<-e2,e]⟩
     ·rw[Int.max_eq_left j,Int.min_eq_right j] at hS;obtain⟨d,e⟩:=hS.back w v aa (by show¬(9:Int)=0;omega);exact⟨d,by rw[<-e1,<-e2,e]⟩
   ·rw[fo (fun q=>c q.2),eu m] at h;cases ho:jT s a'.id n f with
    | none=>rw[ho] at h;cases h
    | some o =>
     rw[ho] at h;cases o with
     | true=>cases h
     | false =>
      injection h with h;injection h with h
      subst h;obtain⟨d,e⟩:=hS.back w v aa (by have:=nj t;omega);exact⟨d,by rw[<-e1,e]⟩
  ·rw[fo (fun p=>m p.1),fo m] at h
   by_cases c:f.kind=9
   ·rw[eu c] at h;obtain⟨d,e⟩:=wC n s f a' s' g t ab h hS;exact⟨d,e.symm⟩
   ·rw[fo c] at h;split at h
    ·cases h
    ·rename_i hc;have hL:∀(l k:List Ty) (s:List Ty),Good s->l.length=k.length->(∀x∈l,ins s.length x=true)->(∀x∈k,ins s.length x=true)->jU (ld n) s l k=some (some s')->Sat u s/\l.map (gs u)=k.map (gs u):=by
      intro l
      induction l with
      | nil =>
       intro k s g hl _ _ h;rw[jU] at h;injection h with h;injection h with h
       cases k with
       | nil=>exact⟨h▸hS,rfl⟩
       | cons y k=>cases hl
      | cons x l al =>
       intro k s g hl h1 h2 h;cases k with
       | nil=>cases h
       | cons y k =>
        rw[jU] at h;cases hx:ld n s x y with
        | none=>rw[hx] at h;cases h
        | some r =>
         rw[hx] at h;cases r with
         | none=>cases h
         | some s1 =>
          have nx:=xW g (h1 x (by simp)) (h2 y (by simp)) hx;obtain⟨d,e⟩:=al k s1 nx.good (by simpa using hl) (fun z hz=>by rw[nx.len];exact h1 z (by simp[hz])) (fun z hz=>by rw[nx.len];exact h2 z (by simp[hz])) h;obtain⟨q3,q4⟩:=wC n s x y s1 g (h1 x (by simp)) (h2 y (by simp)) hx d;exact⟨q3,by rw[abe,abe,e,q4]⟩
     obtain⟨d,e⟩:=hL a'.args f.args s g (by omega) (cR ab) (cR t) h;refine⟨d,?_⟩;rw[iR m,iR c,e,show a'.kind=f.kind by omega,show a'.id=f.id by omega]
theorem Ui (n:Nat):∀t:Ty,ins n t=true->cg (gs (List.replicate n iT) t)=cg t:=cL fun t d j=>by
 by_cases e:t.kind=9
 ·obtain⟨a,b,c⟩:=fM j e;rw[kS e,cQ t,c];rw[aci,eu (by omega)];rfl
 ·rw[iR e,cQ,cQ t];have:∀l:List Ty,(∀x∈l,cg (gs (List.replicate n iT) x)=cg x)->cI (l.map (gs (List.replicate n iT)))=cI l:=by
   intro l
   induction l with
   | nil=>exact fun _=>rfl
   | cons x l d=>intro h;rw[abe,cI,cI,h x (by simp),d fun y k=>h y (by simp[k])]
  show cI (t.args.map _)+1=_;rw[this t.args fun x f=>d x f (cR j x f)]
theorem Good.inst {s:List Ty}(g:Good s):∃u,Sat u s/\(∀(t x:Ty),t.kind=9->bS s t=some x->x.kind=0->cg (gs u t)=1):=by
 have a:∀i:Nat,∃r,i<s.length->Ex s (vr i) r:=fun i=>by
  by_cases hi:i<s.length
  ·obtain⟨n,r,h⟩:=(g.fin i hi).ap;exact⟨r,fun _=>⟨n,h⟩⟩
  ·exact⟨zT,fun h=>o5 h hi⟩
 let G:=List.replicate s.length iT
 let u:=(List.range s.length).map fun i=>gs G (a i).choose
 have v:u.length=s.length:=by simp[u]
 have c:∀i:Nat,i<s.length->u[i]?=some (gs G (a i).choose):=fun i hi=>by simp[u,hi]
 have k:∀t:Ty,Try.ins s.length t=true->∀r,Ex s t r->gs u t=gs G r:=cL fun t ih z r m=>by
  by_cases d:t.kind=9
  ·obtain⟨i,hi,e,e2⟩:=zI z d;rw[kS d,e2,show((i:Nat):Int).toNat=i by omega,c i hi];show gs G (a i).choose=_;rw[((a i).choose_spec hi).one (e▸m)]
  ·obtain⟨h1,h2,h3,h4⟩:=m.args d;rw[iR d,iR (by rw[h1];exact d),h1,h2];congr 1;refine ab5 fun j=>?_;rw[abk,abk];cases b:t.args[j]? with
   | none =>
    have:r.args[j]?=none:=by rw[abT] at b ⊢;omega
    rw[this];rfl
   | some x =>
    obtain⟨y,hy,w⟩:=h4 j x b;rw[hy];exact vv some (ih x (aa8 b) (cR z x (aa8 b)) y w)
 refine⟨u,⟨v,fun i x b l=>?_⟩,fun t x d he l=>?_⟩
 ·have hi:i<s.length:=(aa6.1 b).1;obtain⟨n,f⟩:=(a i).choose_spec hi;have p:Ex s x (a i).choose:=by
   cases n with
   | zero=>cases f
   | succ n =>
    have he:bS s (vr i)=some x:=by
     unfold bS;rw[fo (by show¬((i:Int)<0);omega)];show s[((i:Int)).toNat]?=some x;rw[show((i:Int)).toNat=i by omega];exact b
    rw[nC,eu (show(vr i).kind=9 from rfl),he] at f;simp only at f;rw[eu l] at f;exact⟨n,f⟩
  rw[c i hi,k x ((g.ins x (aa8 b)).resolve_left l) _ p]
 ·obtain⟨e1,e2,e3⟩:=bD he;have hg:gs u t=gs u (vr t.id.toNat):=mA d rfl (by show t.id=((t.id.toNat:Nat):Int);omega);have o:bS s (vr t.id.toNat)=some x:=(Dg (by show((t.id.toNat:Nat):Int)=t.id;omega)).trans he;have m:Ex s (vr t.id.toNat) (vr t.id.toNat):=⟨1,by rw[nC,eu (show(vr t.id.toNat).kind=9 from rfl),o];simp only;rw[fo (fun q=>q l)];rfl⟩;rw[hg,k _ (nk e3) _ m];exact Ui s.length _ (nk e3)
theorem Nq {u s:List Ty}{ρ:Int->Nat}(hS:Sat u s) (g:Good s) (q:Rk s ρ) {D:Nat}(hD:∀x∈s,cg x<=D) (l:∀(t x:Ty),t.kind=9->bS s t=some x->x.kind=0->cg (gs u t)=1):∀(k:Nat) (t:Ty),ins s.length t=true->kC (fun w=>decide (ρ w<k)) t=true->cg (gs u t)<=cg t+k*D
 | k,t,e,c=>by
  induction k generalizing t with
  | zero =>
   revert e c
   refine cL (p:=fun t=>ins s.length t=true->kC (fun w=>decide (ρ w<0)) t=true->cg (gs u t)<=cg t+0*D) (fun t m e c=>?_) t
   by_cases d:t.kind=9
   ·rw[eH,eu d,abf] at c;omega
   ·rw[eH,fo d,abg] at c;rw[iR d,cQ,cQ t];have:cI (t.args.map (gs u))<=cI t.args+0*D:=uX fun y j=>by
     obtain⟨x,b,rfl⟩:=abx.1 j;have:=m x b (cR e x b) (c x b);have:=jy b;omega
    show cI (t.args.map (gs u))+1<=_;omega
  | succ k h =>
   revert e c
   refine cL (p:=fun t=>ins s.length t=true->kC (fun w=>decide (ρ w<k+1)) t=true->cg (gs u t)<=cg t+(k+1)*D) (fun t m e c=>?_) t
   by_cases d:t.kind=9
   ·rw[eH,eu d,abf] at c;obtain⟨x,he,b⟩:=rm e d;obtain⟨v,r,z⟩:=bD he;have h1:=cQ t
    by_cases a:x.kind=0
    ·rw[l t x d he a];omega
    ·rw[<-hS.elem d he a];have f:=q.dn t.id.toNat x r a;rw[show((t.id.toNat:Nat):Int)=t.id by omega] at f;have:=h x (g.ins.elem he a) (nA (n:=s.length) (fun w _ _ o=>by rw[abf] at o ⊢;omega) x (g.ins.elem he a) f);have:=hD x b;rw[Nat.succ_mul];omega
   ·rw[eH,fo d,abg] at c;rw[iR d,cQ,cQ t];have:cI (t.args.map (gs u))<=cI t.args+(k+1)*D:=uX fun y j=>by
     obtain⟨x,b,rfl⟩:=abx.1 j;have:=m x b (cR e x b) (c x b);have:=jy b;omega
    show cI (t.args.map (gs u))+1<=_;omega
theorem JP {s:List Ty}{a b:Ty}(m:s.length<=1000) (al:∀x∈s,cg x<=8) (h:Dm s a b):∃u,u.length=s.length/\gs u a=gs u b/\(∀x∈u,cg x<=8)/\cg (gs u a)<=8:=by
 obtain⟨n,s',⟨d0,o0,hf⟩,hp,he,d,o,k,d',o',r,hd,hk⟩:=h;have g:=ny hf;have v:=ny r;obtain⟨i1,i2,p1,p2⟩:=zL hp;have nx:=xW g i1 i2 he;obtain⟨ρ,y⟩:=v.aaT;obtain⟨u,hS,l⟩:=v.inst;have q:∀x∈s',cg x<=8:=Dn (p:=fun x=>cg x<=8) (fun t h x f=>by have:=jy f;have:=cQ t;omega) (fun i=>by rw[show cg (.mk 9 i [])=1 from rfl];omega) n s a b s' al p1 p2 he;have e:∀x∈s',cg x<=2 ^ 30:=fun x f=>by have:=q x f;omega
 obtain⟨_,am⟩:=wC n s a b s' g i1 i2 he hS;have ad:u.length=s.length:=by rw[hS.len,nx.len]
 have w:∀(i:Nat) (x:Ty),u[i]?=some x->i<s'.length/\gs u (vr i)=x:=fun i x f=>by
  refine⟨by rw[<-hS.len];exact(aa6.1 f).1,?_⟩;rw[kS (show(vr i).kind=9 from rfl),show((vr i).id).toNat=i from by show((i:Nat):Int).toNat=i;omega,f];rfl
 have hu:∀x∈u,cg x<=2 ^ 30:=fun x f=>by
  obtain⟨i,hi⟩:=List.getElem?_of_mem f;obtain⟨h1,h2⟩:=w i x hi;have:=Nq hS v y q l s'.length (vr i) (nk h1) (by rw[eH,eu (show(vr i).kind=9 from rfl),abf];exact y.lt i h1);rw[h2,show cg (vr i)=1 from rfl,nx.len] at this;omega
 have hq:∀j:Nat,j<s'.length->cg (gs u (vr j))<=8:=by
  have c:=r;unfold bM at c;split at c
  ·cases m:dV s' n s'.length with
   | none=>rw[m] at c;cases c
   | some r1 =>
    obtain⟨b1,d1,o1,rfl,_,c2,_⟩:=vp (ex:=True) hS v.ins y hu (fun _=>l) e n s'.length r1 (abh _) m;rw[m] at c;cases b1 with
    | true=>cases c
    | false=>exact c2 trivial rfl
  ·cases c
 have z:Ss u True d/\∀j,¬Np d o j:=by
  have c:=r;unfold bM at c;split at c
  ·cases m:dV s' n s'.length with
   | none=>rw[m] at c;cases c
   | some r1 =>
    obtain⟨b1,d1,o1,rfl,_,_,c3,c4⟩:=vp (ex:=True) hS v.ins y hu (fun _=>l) e n s'.length r1 (abh _) m;rw[m] at c;cases b1 with
    | true=>cases c
    | false =>
     injection c with c;injection c with c;injection c with h1 h2
     subst h1 h2;exact⟨c3,c4⟩
  ·cases c
 obtain⟨k1,d1,o1,e1,_,_,e3,_⟩:=vo (ex:=True) hS v.ins y hu (fun _=>l) n a d o _ (by rw[nx.len];exact i1) (by omega) e z.1 (fun j hj=>o5 hj (z.2 j)) hd;injection e1 with e1
 injection e1 with e1 _
 refine⟨u,ad,am,fun x f=>?_,?_⟩
 ·obtain⟨i,hi⟩:=List.getElem?_of_mem f;obtain⟨h1,h2⟩:=w i x hi;rw[<-h2];exact hq i h1
 ·have:=e3 trivial;omega
end Go.Fr.Try
