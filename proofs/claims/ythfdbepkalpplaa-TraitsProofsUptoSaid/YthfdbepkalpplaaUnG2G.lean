/- Part of the proofs of the statements of this seat. -/
import Derived.Test.YthfdbepkalpplaaUnD1G
set_option maxRecDepth 10000
set_option linter.unusedVariables false
set_option linter.unusedSimpArgs false
namespace Go.Fr.Try
open Go Go.RowKit Go.Proofs Go.Fr Go.Fr.T Go.Fr.Api
theorem Tp (s:List Ty) (t x:Ty) (h:CallsT P 95 [aT t,.own 1000 0] [.box 89 [.own 1001 0],.box 93 [.sl (s.map aM),.any,.any]] (aU [.box 89 [.own 1001 0],.box 93 [.sl (s.map aM),.any,.any]] (.tup [aT x,.bool true]))):CallsT P 52 [aT t,.fn 95 [] [.own 1000 0]] [.box 89 [.own 1001 0],.box 93 [.sl (s.map aM),.any,.any]] (aU [.box 89 [.own 1001 0],.box 93 [.sl (s.map aM),.any,.any]] (aT x)):=by
 refine af Try.func52 tN rfl fun a _=>?_;refine callO [1000,1001] [1000,1001] h rfl rfl rfl rfl rfl fun _ _=>?_;exact bB [1000,1001] rfl rfl rfl rfl
theorem Tq (s:List Ty) (t:Ty) (f:Ty->Ty) (hb:t.args.length<=2 ^ 30) (h:CallsT P 95 [aT t,.own 1000 0] [.box 89 [.own 1001 0],.box 93 [.sl (s.map aM),.any,.any]] (aU [.box 89 [.own 1001 0],.box 93 [.sl (s.map aM),.any,.any]] (.tup [aT t,.bool false])))
  (n:∀x∈t.args,CallsT P 52 [aT x,.fn 95 [] [.own 1000 0]] [.box 89 [.own 1001 0],.box 93 [.sl (s.map aM),.any,.any]] (aU [.box 89 [.own 1001 0],.box 93 [.sl (s.map aM),.any,.any]] (aT (f x)))):CallsT P 52 [aT t,.fn 95 [] [.own 1000 0]] [.box 89 [.own 1001 0],.box 93 [.sl (s.map aM),.any,.any]] (aU [.box 89 [.own 1001 0],.box 93 [.sl (s.map aM),.any,.any]] (aT (.mk t.kind t.id (t.args.map f)))):=by
 have c:(t.args.map aM).length=t.args.length:=aaP _;refine af Try.func52 tN rfl fun p _=>?_;refine callO [1000,1001] [1000,1001] h rfl rfl rfl rfl rfl fun _ _=>?_;refine cu t.args.length 26 [] ([]:List Ty) (fun _=>[]) (fun s'=>[(4,.box 32 [IC 0,IC 0,.nils]),(5,.box 32 [IC t.kind,IC t.id,.sl (t.args.map aM)]),(7,.box 32 [IC t.kind,IC t.id,.rw 36]),(36,.row 32 3 (s'.map aM)),(1000,.box 89 [.own 1001 0]),(1001,.box 93 [.sl (s.map aM),.any,.any])]) (fun j s'=>s'=(t.args.take j).map f) (by simp) (ak rfl) trivial
  ⟨.inl ⟨_,rfl,.inl ⟨rfl,rfl⟩⟩,.inl ⟨_,rfl,.inl ⟨rfl,rfl⟩⟩,.inl ⟨_,rfl,.inr ⟨32,_,_,rfl,rfl,_,_,rfl,ak rfl,_,_,rfl,ak rfl,_,_,rfl,su rfl rfl,rfl⟩⟩,.inr ⟨rfl,32,3,rfl⟩,.inl ⟨_,rfl,.inl ⟨rfl,rfl⟩⟩,.inl ⟨_,rfl,.inl ⟨rfl,rfl⟩⟩,trivial⟩ (fun _=>rfl) (fun _=>rfl) ?_
 rintro j s' o b _ _ _;refine ah (fun a=>?_) (fun d=>?_)
 ·have a:j<t.args.length:=by rw[c] at a;omega
  refine fJ a fun x l k=>?_;have m:(s'.map aM).length=j:=by rw[b,aaP,aaP,abP];omega
  refine cP l ?_;refine iP (Pp:=fun _=>False) [1000,1001] (n x k).toX rfl rfl rfl rfl rfl (fun _ h=>False.elim h) fun _ _=>?_;refine rH j rfl m (by decide) (by omega) ?_;refine Fit.aag (by omega) (by omega) ?_;refine⟨(j+1,s'++[f x]),⟨a,?_⟩,⟨bS,trivial⟩,⟨.inl ⟨_,rfl,.inl ⟨rfl,rfl⟩⟩,.inl ⟨_,rfl,.inl ⟨rfl,rfl⟩⟩,.inl ⟨_,rfl,.inl ⟨rfl,rfl⟩⟩,.inl ⟨_,rfl,.inl ⟨DI Il,rfl⟩⟩,.inl ⟨_,rfl,.inl ⟨rfl,rfl⟩⟩,.inl ⟨_,rfl,.inl ⟨rfl,rfl⟩⟩,trivial⟩,bV a⟩;show s'++[f x]=(t.args.take (j+1)).map f;rw[iG l,b,abD];rfl
 ·have d:¬j<t.args.length:=by rw[c] at d;omega
  have e:C.agg [IC t.kind,IC t.id,.sl (s'.map aM)]=aT (.mk t.kind t.id (t.args.map f)):=by
   rw[b,abC (by omega)];rfl
  exact HY [36] [1000,1001] ⟨_,_,rfl,rfl,rfl,rfl,e⟩
theorem Tr (m:DM) (t x:Ty) (h:CallsT P 98 [aT t,.own 1000 0] [.box 90 [.mpr 1001],.map (i9 IC m)] (aU [.box 90 [.mpr 1001],.map (i9 IC m)] (.tup [aT x,.bool true]))):CallsT P 52 [aT t,.fn 98 [] [.own 1000 0]] [.box 90 [.mpr 1001],.map (i9 IC m)] (aU [.box 90 [.mpr 1001],.map (i9 IC m)] (aT x)):=by
 refine af Try.func52 tN rfl fun a _=>?_;refine callO [1000,1001] [1000,1001] h rfl rfl rfl rfl rfl fun _ _=>?_;exact bB [1000,1001] rfl rfl rfl rfl
theorem Tt (m:DM) (t:Ty) (f:Ty->Ty) (hb:t.args.length<=2 ^ 30) (h:CallsT P 98 [aT t,.own 1000 0] [.box 90 [.mpr 1001],.map (i9 IC m)] (aU [.box 90 [.mpr 1001],.map (i9 IC m)] (.tup [aT t,.bool false])))
  (o:∀x∈t.args,CallsT P 52 [aT x,.fn 98 [] [.own 1000 0]] [.box 90 [.mpr 1001],.map (i9 IC m)] (aU [.box 90 [.mpr 1001],.map (i9 IC m)] (aT (f x)))):CallsT P 52 [aT t,.fn 98 [] [.own 1000 0]] [.box 90 [.mpr 1001],.map (i9 IC m)] (aU [.box 90 [.mpr 1001],.map (i9 IC m)] (aT (.mk t.kind t.id (t.args.map f)))):=by
 have c:(t.args.map aM).length=t.args.length:=aaP _;refine af Try.func52 tN rfl fun q _=>?_;refine callO [1000,1001] [1000,1001] h rfl rfl rfl rfl rfl fun _ _=>?_;refine cu t.args.length 26 [] ([]:List Ty) (fun _=>[]) (fun s'=>[(4,.box 32 [IC 0,IC 0,.nils]),(5,.box 32 [IC t.kind,IC t.id,.sl (t.args.map aM)]),(7,.box 32 [IC t.kind,IC t.id,.rw 36]),(36,.row 32 3 (s'.map aM)),(1000,.box 90 [.mpr 1001]),(1001,.map (i9 IC m))]) (fun j s'=>s'=(t.args.take j).map f) (by simp) (ak rfl) trivial
  ⟨.inl ⟨_,rfl,.inl ⟨rfl,rfl⟩⟩,.inl ⟨_,rfl,.inl ⟨rfl,rfl⟩⟩,.inl ⟨_,rfl,.inr ⟨32,_,_,rfl,rfl,_,_,rfl,ak rfl,_,_,rfl,ak rfl,_,_,rfl,su rfl rfl,rfl⟩⟩,.inr ⟨rfl,32,3,rfl⟩,.inl ⟨_,rfl,.inl ⟨rfl,rfl⟩⟩,.inl ⟨_,rfl,.inl ⟨rfl,rfl⟩⟩,trivial⟩ (fun _=>rfl) (fun _=>rfl) ?_
 rintro j s' p b _ _ _;refine ah (fun a=>?_) (fun d=>?_)
 ·have a:j<t.args.length:=by rw[c] at a;omega
  refine fJ a fun x l k=>?_;have n:(s'.map aM).length=j:=by rw[b,aaP,aaP,abP];omega
  refine cP l ?_;refine iP (Pp:=fun _=>False) [1000,1001] (o x k).toX rfl rfl rfl rfl rfl (fun _ h=>False.elim h) fun _ _=>?_;refine rH j rfl n (by decide) (by omega) ?_;refine Fit.aag (by omega) (by omega) ?_;refine⟨(j+1,s'++[f x]),⟨a,?_⟩,⟨bS,trivial⟩,⟨.inl ⟨_,rfl,.inl ⟨rfl,rfl⟩⟩,.inl ⟨_,rfl,.inl ⟨rfl,rfl⟩⟩,.inl ⟨_,rfl,.inl ⟨rfl,rfl⟩⟩,.inl ⟨_,rfl,.inl ⟨DI Il,rfl⟩⟩,.inl ⟨_,rfl,.inl ⟨rfl,rfl⟩⟩,.inl ⟨_,rfl,.inl ⟨rfl,rfl⟩⟩,trivial⟩,bV a⟩;show s'++[f x]=(t.args.take (j+1)).map f;rw[iG l,b,abD];rfl
 ·have d:¬j<t.args.length:=by rw[c] at d;omega
  have e:C.agg [IC t.kind,IC t.id,.sl (s'.map aM)]=aT (.mk t.kind t.id (t.args.map f)):=by
   rw[b,abC (by omega)];rfl
  exact HY [36] [1000,1001] ⟨_,_,rfl,rfl,rfl,rfl,e⟩
theorem Wl (s:List Ty) (t x r:Ty) (c:t.kind=9) (h0:0<=t.id) (a:s[t.id.toNat]?=some x) (b:¬x.kind=0) (h:CallsT P 60 [.own 1000 0,aT x] (ur s) (aU (ur s) (aT r))) :
  CallsT P 95 [aT t,.own 1000 0] [.box 89 [.own 1001 0],.box 93 [.sl (s.map aM),.any,.any]] (aU [.box 89 [.own 1001 0],.box 93 [.sl (s.map aM),.any,.any]] (.tup [aT r,.bool true])):=by
 refine af Try.func95 Gl rfl fun d _=>?_;refine ah (fun _=>?_) (fun q=>vv c q);refine yF h0 a ?_;refine aX (fun _=>?_) (fun q=>vv q b);refine yF h0 a ?_;refine x9 [1001] [1001] h rfl rfl rfl rfl rfl fun _ _=>?_;exact bB [1000,1001] rfl rfl rfl rfl
theorem Wm (s:List Ty) (t:Ty) (b:t.kind=9->∃x,0<=t.id/\s[t.id.toNat]?=some x/\x.kind=0) :
  CallsT P 95 [aT t,.own 1000 0] [.box 89 [.own 1001 0],.box 93 [.sl (s.map aM),.any,.any]] (aU [.box 89 [.own 1001 0],.box 93 [.sl (s.map aM),.any,.any]] (.tup [aT t,.bool false])):=by
 refine af Try.func95 Gl rfl fun d _=>?_;refine ah (fun h=>vU (b h) fun x a=>?_) (fun _=>?_)
 ·have h0:=a.1;have c:=a.2.1;refine yF h0 c ?_;refine aX (fun q=>vv a.2.2 q) (fun _=>?_);exact bB [1000,1001] rfl rfl rfl rfl
 ·exact bB [1000,1001] rfl rfl rfl rfl
theorem Tv (s:List Ty) (t r:Ty) (h:CallsT P 52 [aT t,.fn 95 [] [.own 1000 0]] [.box 89 [.own 1001 0],.box 93 [.sl (s.map aM),.any,.any]] (aU [.box 89 [.own 1001 0],.box 93 [.sl (s.map aM),.any,.any]] (aT r))):CallsT P 60 [.own 1000 0,aT t] (ur s) (aU (ur s) (aT r)):=by
 refine af Try.func60 Oc rfl fun a _=>?_;refine callO [2,1000] [2,1000] h rfl rfl rfl rfl rfl fun _ _=>?_;exact bB [1000] rfl rfl rfl rfl
theorem ju {f:Ty->Option Ty}:∀{l r:List Ty},kY f l=some r->(∀x∈l,f x=some ((f x).getD x))/\r=l.map fun x=>(f x).getD x
 | [],r,h=>by
  rw[kY] at h;injection h with h
  exact⟨by simp,by rw[<-h];rfl⟩
 | x::l,r,h=>by
  rw[kY] at h;cases c:f x with
  | none=>simp only[c] at h;cases h
  | some a =>
   cases e:kY f l with
   | none=>simp only[c,e] at h;cases h
   | some b =>
    simp only[c,e] at h;injection h with h
    obtain⟨i1,i2⟩:=ju e;refine⟨fun y d=>?_,?_⟩
    ·rcases aaW.1 d with rfl | d
     ·rw[c];rfl
     ·exact i1 y d
    ·rw[aa0,c,<-i2,<-h];rfl
theorem RM (s:List Ty) (d:∀x∈s,jl x):∀(n:Nat) (t r:Ty),jl t->oP s n t=some r->CallsT P 52 [aT t,.fn 95 [] [.own 1000 0]] [.box 89 [.own 1001 0],.box 93 [.sl (s.map aM),.any,.any]] (aU [.box 89 [.own 1001 0],.box 93 [.sl (s.map aM),.any,.any]] (aT r))
 | 0,t,r,hb,h=>by cases h
 | n+1,t,r,hb,h=>by
  rw[oP] at h;split at h
  ·cases h
  rename_i x he
  by_cases b:x.kind=0
  ·rw[q9 (fun q=>q b)] at h;have k:=Wm s t fun a=>by
    rw[o5 a] at he;obtain⟨f,c,_⟩:=bJ he;exact⟨x,f,c,b⟩
   cases e:kY (oP s n) t.args with
   | none=>simp only[e] at h;cases h
   | some l =>
    simp only[e] at h;injection h with h
    obtain⟨h1,m⟩:=ju e;have hb:=(fS t).1 hb;rw[<-h,m];exact Tq s t (fun x=>(oP s n x).getD x) hb.1 k fun x j=>RM s d n x _ (hb.2 x j) (h1 x j)
  ·rw[o5 b] at h;have a:t.kind=9:=by
    by_cases a:t.kind=9
    ·exact a
    ·rw[q9 a] at he;injection he with he
     rw[<-he] at b;exact vv rfl b
   rw[o5 a] at he;obtain⟨f,c,_⟩:=bJ he;exact Tp s t r (Wl s t x r a f c b (Tv s x r (RM s d n x r (d x (aaZ c)) h)))
theorem XY (s:List Ty) (a:∀x∈s,jl x) (n:Nat) (t r:Ty) (hb:jl t) (h:oP s n t=some r):CallsT P 60 [.own 1000 0,aT t] (ur s) (aU (ur s) (aT r)):=Tv s t r (RM s a n t r hb h)
mutual
def Iz (m:DM):Ty->Ty
 | .mk k i l=>if k=9 then .mk 9 ((bg m i).getD 0) [] else .mk k i (UW m l)
def UW (m:DM):List Ty->List Ty
 | []=>[]
 | t::l=>Iz m t::UW m l
end
theorem GI (m:DM):∀l:List Ty,UW m l=l.map (Iz m)
 | []=>rfl
 | t::l=>by rw[UW,GI m l];rfl
theorem RO (m:DM) (t:Ty):Iz m t=if t.kind=9 then .mk 9 ((bg m t.id).getD 0) [] else .mk t.kind t.id (t.args.map (Iz m)):=by
 cases t;rw[Iz,GI];rfl
theorem Tw {i:Int}{m:DM}{Y:C->Prop}{N:Prop}(k1:Y (IC ((bg m i).getD 0))) (a:bg m i=none->N):xD false (i9 IC m) (IC i) Y N:=by
 cases h:bg m i with
 | none=>exact yE h (a h)
 | some x=>rw[h] at k1;exact yD h k1
theorem Wn (m:DM) (t:Ty) (b:t.kind=9):CallsT P 98 [aT t,.own 1000 0] [.box 90 [.mpr 1001],.map (i9 IC m)] (aU [.box 90 [.mpr 1001],.map (i9 IC m)] (.tup [aT (.mk 9 ((bg m t.id).getD 0) []),.bool true])):=by
 refine af Try.func98 Gp rfl fun c _=>?_;refine ah (fun _=>?_) (fun q=>vv b q);refine Tw ?_ (fun a=>?_)
 ·exact bB [1000,1001] rfl rfl rfl rfl
 ·exact bB [1000,1001] rfl rfl rfl (by rw[a];rfl)
theorem Wo (m:DM) (t:Ty) (a:¬t.kind=9):CallsT P 98 [aT t,.own 1000 0] [.box 90 [.mpr 1001],.map (i9 IC m)] (aU [.box 90 [.mpr 1001],.map (i9 IC m)] (.tup [aT t,.bool false])):=by
 refine af Try.func98 Gp rfl fun b _=>?_;refine ah (fun q=>vv q a) (fun _=>?_);exact bB [1000,1001] rfl rfl rfl rfl
theorem Wp (m:DM):∀t:Ty,jl t->CallsT P 52 [aT t,.fn 98 [] [.own 1000 0]] [.box 90 [.mpr 1001],.map (i9 IC m)] (aU [.box 90 [.mpr 1001],.map (i9 IC m)] (aT (Iz m t))):=dL fun t c hb=>by
 have hb:=(fS t).1 hb;rw[RO]
 by_cases a:t.kind=9
 ·rw[o5 a];exact Tr m t _ (Wn m t a)
 ·rw[q9 a];exact Tt m t _ hb.1 (Wo m t a) fun x b=>c x b (hb.2 x b)
def vr (i:Nat):Ty:=.mk 9 i []
def iQ (s:List Ty) (n:Nat):Nat->DM->Option DM
 | 0,m=>some m
 | i+1,m=>match aO s n (vr i) with
  | none=>none
  | some t=>iQ s n i (if t.kind=9 then dX m t.id i else m)
def OY (m:DM) (i:Nat) (t:Ty):Ty:=if(Iz m t).kind=9/\(Iz m t).id=i then .mk 0 0 [] else Iz m t
def pB (s:List Ty) (n:Nat) (m:DM):Nat->Option (List Ty)
 | 0=>some []
 | i+1=>match pB s n m i,oP s n (vr i) with
  | some l,some t=>some (l++[OY m i t])
  | _,_=>none
def jM (s:List Ty) (n:Nat):Option (List Ty):=match iQ s n s.length [] with
 | none=>none
 | some m=>pB s n m s.length
theorem Cp {s:List Ty}(d:∀x∈s,jl x):∀(n:Nat) (t r:Ty),jl t->oP s n t=some r->jl r
 | 0,t,r,hb,h=>by cases h
 | n+1,t,r,hb,h=>by
  rw[oP] at h;split at h
  ·cases h
  rename_i x he
  by_cases a:x.kind=0
  ·rw[q9 (fun q=>q a)] at h;cases e:kY (oP s n) t.args with
   | none=>simp only[e] at h;cases h
   | some l =>
    simp only[e] at h;injection h with h
    obtain⟨h1,j⟩:=ju e;have hb:=(fS t).1 hb;rw[fS,<-h];refine⟨by show l.length<=_;rw[j,aaP];exact hb.1,?_⟩;intro y b;have b:y∈l:=b;rw[j] at b;obtain⟨z,f,rfl⟩:=abt.1 b;exact Cp d n z _ (hb.2 z f) (h1 z f)
  ·rw[o5 a] at h;have c:t.kind=9:=by
    by_cases c:t.kind=9
    ·exact c
    ·rw[q9 c] at he;injection he with he
     rw[<-he] at a;exact vv rfl a
   rw[o5 c] at he;obtain⟨m,k,_⟩:=bJ he;exact Cp d n x r (d x (aaZ k)) h
theorem Lj (i:Nat):jl (vr i):=(fS _).2 ⟨abe _,fun x h=>by cases h⟩
theorem u6 {s:List Ty}{n:Nat}{m:DM}:∀{N:Nat}{l:List Ty},pB s n m N=some l->∀i<N,∃c t,pB s n m i=some c/\oP s n (vr i)=some t/\pB s n m (i+1)=some (c++[OY m i t])
 | 0,l,h,i,hi=>vv hi (abB _)
 | N+1,l,h,i,hi=>by
  have a:=h;rw[pB] at a;cases h1:pB s n m N with
  | none=>simp only[h1] at a;cases a
  | some d =>
   cases b:oP s n (vr N) with
   | none=>simp only[h1,b] at a;cases a
   | some t =>
    by_cases e:i=N
    ·subst e;refine⟨d,t,h1,b,?_⟩;rw[pB];simp only[h1,b]
    ·exact u6 h1 i (by omega)
theorem DL {s:List Ty}{n:Nat}{m:DM}:∀{N:Nat}{l:List Ty},pB s n m N=some l->l.length=N
 | 0,l,h=>by rw[pB] at h;injection h with h;rw[<-h];rfl
 | N+1,l,h=>by
  obtain⟨b,t,h1,c,a⟩:=u6 h N (abU _);rw[h] at a;injection a with a
  rw[a,abJ,DL h1];rfl
theorem Fl {s:List Ty}{n j:Nat}{m M:DM}(h:iQ s n (j+1) m=some M):∃t,aO s n (vr j)=some t/\iQ s n j (if t.kind=9 then dX m t.id j else m)=some M:=by
 rw[iQ] at h;cases hf:aO s n (vr j) with
 | none=>simp only[hf] at h;cases h
 | some t=>simp only[hf] at h;exact⟨t,rfl,h⟩
theorem Wq (s:List Ty) (n:Nat) (M:DM) (r:List Ty) (hn:s.length<=2 ^ 30) (hs:∀x∈s,jl x) (hm:iQ s n s.length []=some M) (hr:pB s n M s.length=some r)
  (z:∀t r,aO s n t=some r->CallsT P 96 [.own 1000 0,aT t] (ur s) (aU (ur s) (aT r)))
  (v:∀i r,oP s n (vr i)=some r->CallsT P 60 [.own 1000 0,aT (vr i)] (ur s) (aU (ur s) (aT r))/\CallsT P 52 [aT r,.fn 98 [] [.own 1000 0]] [.box 90 [.mpr 1001],.map (i9 IC M)] (aU [.box 90 [.mpr 1001],.map (i9 IC M)] (aT (Iz M r)))) :
  CallsT P 65 [.own 1000 0] (ur s) (aU (ur s) (.sl (r.map aM))):=by
 have p:(s.map aM).length=s.length:=aaP _;refine af Try.func65 Od rfl fun hw _=>?_;refine Fit.aag (by omega) (by omega) ?_;refine Aq.mk ⟨Nat×DM,(s.length,[]),fun x=>x.1<=s.length/\iQ s n x.1 x.2=some M,[4],fun x=>[IC ((x.1:Int)-1)],fun x=>[(3,.box 90 [.mpr 9]),(9,.map (i9 IC x.2)),(1000,.box 93 [.sl (s.map aM),.any,.any])],fun x=>x.1,⟨aa3 _,hm⟩,⟨.inr (.inl ⟨xo IC (by rw[p]),rfl⟩),trivial⟩,
  ⟨.inl ⟨_,rfl,.inl ⟨rfl,rfl⟩⟩,.inl ⟨_,rfl,.inl ⟨rfl,rfl⟩⟩,.inl ⟨_,rfl,.inl ⟨rfl,rfl⟩⟩,trivial⟩,fun _=>rfl,fun _=>rfl,?_⟩
 rintro⟨j,m⟩ ⟨hj,c⟩ _ _;refine ah (fun h=>?_) (fun a=>?_)
 ·have ac:∃i,j=i+1:=⟨j-1,by have:((j:Int)-1)>=0:=h;omega⟩;refine vU ac fun i hi=>?_;have ae:(C.agg [IC 9,IC ((j:Int)-1),.sl []])=aT (vr i):=by rw[hi];show C.agg _=C.agg [IC 9,IC (i:Int),.sl []];congr 3;congr 1;omega
  have c:iQ s n (i+1) m=some M:=by rw[<-hi];exact c
  refine vU (Fl c) fun t d=>?_;refine callO [1000] [1000] (z (vr i) t d.1) rfl rfl (by rw[<-ae];rfl) rfl rfl fun _ _=>?_;refine ah (fun w=>?_) (fun w=>?_)
  ·refine Im (f:=IC) (x:=(j:Int)-1) rfl ?_;refine Fit.aag (by omega) (by omega) ?_;refine⟨(i,dX m t.id i),⟨by omega,by have:=d.2;rw[o5 w] at this;exact this⟩,⟨.inr (.inl ⟨xo IC (by show(j:Int)-1-1=(i:Int)-1;omega),rfl⟩),trivial⟩,⟨.inl ⟨_,rfl,.inl ⟨rfl,rfl⟩⟩,.inl ⟨_,rfl,.inl ⟨?_,rfl⟩⟩,.inl ⟨_,rfl,.inl ⟨rfl,rfl⟩⟩,trivial⟩,by show i<j;omega⟩;exact xo (fun q=>TO.map (i9 IC (dX m t.id q))) (show(j:Int)-1=(i:Int) by omega)
  ·refine Fit.aag (by omega) (by omega) ?_;exact⟨(i,m),⟨by omega,by have:=d.2;rw[q9 w] at this;exact this⟩,⟨.inr (.inl ⟨xo IC (by show(j:Int)-1-1=(i:Int)-1;omega),rfl⟩),trivial⟩,⟨.inl ⟨_,rfl,.inl ⟨rfl,rfl⟩⟩,.inl ⟨_,rfl,.inl ⟨rfl,rfl⟩⟩,.inl ⟨_,rfl,.inl ⟨rfl,rfl⟩⟩,trivial⟩,by show i<j;omega⟩
 ·have y:j=0:=by have:¬((j:Int)-1)>=0:=a;omega
  have ad:m=M:=by rw[y,iQ] at c;exact abw c
  refine cu s.length 36 [6] ([]:List Ty) (fun _=>[.rw 58]) (fun l=>[(3,.box 90 [.mpr 9]),(9,.map (i9 IC M)),(58,.row 32 3 (l.map aM)),(1000,.box 93 [.sl (s.map aM),.any,.any])]) (fun k l=>pB s n M k=some l) rfl (ak rfl) ⟨.inr (.inr (.inr (.inl ⟨rfl,58,32,3,rfl,rfl,rfl⟩))),trivial⟩
   ⟨.inl ⟨_,rfl,.inl ⟨rfl,rfl⟩⟩,.inl ⟨_,rfl,.inl ⟨xo (fun q=>TO.map (i9 IC q)) ad,rfl⟩⟩,.inr ⟨rfl,32,3,rfl⟩,.inl ⟨_,rfl,.inl ⟨rfl,rfl⟩⟩,trivial⟩ (fun _=>rfl) (fun _=>rfl) ?_
  rintro k l hk b _ _ _;refine ah (fun a=>?_) (fun h=>?_)
  ·have a:k<s.length:=by rw[p] at a;omega
   refine vU (u6 hr k a) fun l' hl=>vU hl fun t d=>?_;have u:l=l':=by rw[b] at d;exact abw d.1
   have o:(l.map aM).length=k:=by rw[aaP];exact DL b
   refine callO [1000] [1000] (v k t d.2.1).1 rfl rfl rfl rfl rfl fun _ _=>?_;refine callO [3,9] [3,9] (v k t d.2.1).2 rfl rfl rfl rfl rfl fun _ _=>?_;refine ah (fun h1=>ah (fun h2=>?_) (fun h2=>?_)) (fun h1=>?_)
   ·have e:OY M k t=.mk 0 0 []:=o5 ⟨h1,h2⟩;refine rH k rfl o (by decide) (by omega) ?_;refine Fit.aag (by omega) (by omega) ?_;exact⟨(k+1,l++[.mk 0 0 []]),⟨a,by rw[d.2.2,e,u]⟩,⟨bS,ak rfl,trivial⟩,⟨.inl ⟨_,rfl,.inl ⟨rfl,rfl⟩⟩,.inl ⟨_,rfl,.inl ⟨rfl,rfl⟩⟩,.inl ⟨_,rfl,.inl ⟨DI (Il (f:=.mk 0 0 [])),rfl⟩⟩,.inl ⟨_,rfl,.inl ⟨rfl,rfl⟩⟩,trivial⟩,bV a⟩
   all_goals
    have e:OY M k t=Iz M t:=q9 (fun q=>by first | exact h2 q.2 | exact h1 q.1);refine rH k rfl o (by decide) (by omega) ?_;refine Fit.aag (by omega) (by omega) ?_;exact⟨(k+1,l++[Iz M t]),⟨a,by rw[d.2.2,e,u]⟩,⟨bS,ak rfl,trivial⟩,⟨.inl ⟨_,rfl,.inl ⟨rfl,rfl⟩⟩,.inl ⟨_,rfl,.inl ⟨rfl,rfl⟩⟩,.inl ⟨_,rfl,.inl ⟨DI (Il (f:=Iz M t)),rfl⟩⟩,.inl ⟨_,rfl,.inl ⟨rfl,rfl⟩⟩,trivial⟩,bV a⟩
  ·have h:¬k<s.length:=by rw[p] at h;omega
   have aa:k=s.length:=by omega
   have e:l=r:=by rw[aa,hr] at b;exact(abw b).symm
   exact HY [58] [1000] ⟨_,_,rfl,rfl,rfl,rfl,VY (by rw[e])⟩
theorem t65 (s:List Ty) (n:Nat) (r:List Ty) (c:s.length<=2 ^ 30) (a:∀x∈s,jl x) (h:jM s n=some r):CallsT P 65 [.own 1000 0] (ur s) (aU (ur s) (.sl (r.map aM))):=by
 unfold jM at h;cases b:iQ s n s.length [] with
 | none=>simp only[b] at h;cases h
 | some M =>
  simp only[b] at h;exact Wq s n M r c a b h (fun t r q=>Tl s n t r q) fun i r q=>⟨XY s a n (vr i) r (Lj i) q,Wp M r (Cp a n (vr i) r (Lj i) q)⟩
def eG (n:Int) (t:Ty):Bool:=if t.kind=0 then decide (t.id=0)&&decide (t.args.length=0) else ins n t
def dw (s:List Ty) (n:Nat):Nat->Option (Option (Bool×DM×OM))
 | 0=>some (some (false,[],[]))
 | i+1=>match dw s n i with
  | some (some (b,d,o))=>match bE s n (vr i) d o with
   | some (some (k,a,o'))=>some (some (b||decide (k>8),a,o'))
   | some none=>some none
   | none=>none
  | some none=>some none
  | none=>none
def bF (s:List Ty) (n:Nat):Option (Option (DM×OM)) :=
 if s.all (eG s.length) then(match dw s n s.length with
  | some (some (b,d,o))=>if b then some none else some (some (d,o))
  | some none=>some none
  | none=>none) else some none
def RF (s:List Ty) (r:Option (DM×OM)):List TO->C->Prop:=fun Mo v=>∃d o,r=some (d,o)/\Mo=I4 s d o/\v=.tup []
def PF (e:Int) (r:Option (DM×OM)):Value->Prop:=fun v=>r=none/\∃a,(a=1\/a=e)/\v=cA a
def DN (s:List Ty) (e:Int) (r:Option (DM×OM)):Prop:=CallsTX P 58 [.own 1000 0,IC e] (o9 s) (RF s r) (PF e r)
section
variable {L:TL}{ρ:aK}
theorem Cq (ks ko:List Nat) {PS:nG}{args:List C}{K:TL->aK->C->Prop}{s:List Ty}{e:Int}{r:Option (DM×OM)}{Lin:List TO}(h:DN s e r) (b:L.sub ks=some Lin)
  (a:(T.aP ks&&T.aP ko&&T.jv L ks ko&&aG Lin ks ko&&jw L ks PS.hb)=true) (l:(args.map fun c=>c.aaj.ren (bA ks 1000))=[.own 1000 0,IC e]) (n:Lin.map (TO.aad (C.ren (bA ks 1000)))=o9 s) (j:ko.length=4) (p:∀v,PF e r v->PS.ps v)
  (k:∀d o,r=some (d,o)->K (((L.aae ks).kills (rowsOf L ks)).puts ko ((I4 s d o).map (TO.aad (C.ren (aI ko))))) (dh (rowsOf L ks) ρ) (.tup [])):kU P PS 58 args L ρ K:=by
 simp only[aaN] at a;obtain⟨⟨⟨⟨q,f⟩,c3⟩,c4⟩,c5⟩:=a;refine⟨[],ks,ko,L,Lin,_,_,.inl rfl,b,q,f,c3,c4,c5,by rw[n,l];exact h,p,?_⟩;rintro v Mo ⟨d,o,t,rfl,rfl⟩ u m;exact⟨j,k d o t⟩
end
abbrev yG (t:Ty):List C:=[IC t.kind,IC t.id,.sl (t.args.map aM)]
abbrev LU (s:List Ty):List TO:=[.box 89 [.own 1001 0],.box 93 [.rw 1002,.any,.any],.row 32 3 (s.map aM)]
def mW (s:List Ty) (a b:Ty):Bool:=ins s.length a&&ins s.length b&&!decide (max (cK a) (cK b)>8)
def Ll (n:Nat) (s:List Ty) (a b:Ty) (s':List Ty):Prop :=
 (∃d o,bF s n=some (some (d,o)))/\mW s a b=true/\lG n s a b=some (some s')/\∃d o k c o',bF s' n=some (some (d,o))/\bE s' n a d o=some (some (k,c,o'))/\k<=8
def Qq (n:Nat) (s:List Ty) (a b:Ty) (e:Int):Prop :=
 (bF s n=some none/\e=1)\/((∃d o,bF s n=some (some (d,o)))/\((mW s a b=false/\e=1)\/(mW s a b=true/\((lG n s a b=some none/\e=8) \/
  ∃s',lG n s a b=some (some s')/\(e=1\/e=2)/\(bF s' n=some none\/∃d o,bF s' n=some (some (d,o))/\(bE s' n a d o=some none\/∃k c o',bE s' n a d o=some (some (k,c,o'))/\k>8))))))
structure Fuel (n:Nat) (s:List Ty) (a b:Ty):Prop where
 form:∃r,bF s n=some r
 eq:(∃d o,bF s n=some (some (d,o)))->mW s a b=true->∃r,lG n s a b=some r
 form':(∃d o,bF s n=some (some (d,o)))->mW s a b=true->∀s',lG n s a b=some (some s')->∃r,bF s' n=some r
 deep:(∃d o,bF s n=some (some (d,o)))->mW s a b=true->∀s',lG n s a b=some (some s')->∀d o,bF s' n=some (some (d,o))->∃r,bE s' n a d o=some r
def RU (n:Nat) (s:List Ty) (a b:Ty):List TO->C->Prop:=fun Mo v=>∃s',Ll n s a b s'/\Mo=LU s'/\v=.tup []
def PU (n:Nat) (s:List Ty) (a b:Ty):Value->Prop:=fun v=>∃e,Qq n s a b e/\v=cA e
abbrev Lm (s:List Ty) (a b:Ty) (R:List TO->C->Prop) (Pp:Value->Prop):Prop:=CallsTX P 62 [.own 1000 0,.pt (yG a) 0,.pt (yG b) 0] (LU s) R Pp
theorem OZ (n:Nat) (s:List Ty) (a b:Ty) (h1:bF s n=some none) (hf:∀s e r,bF s n=some r->DN s e r):Lm s a b (RU n s a b) (PU n s a b):=by
 refine aV Try.func62 Cb rfl fun f _=>?_;refine Cq [1001,1002] [1001,1002,2003,2004] (hf s 1 none h1) rfl rfl rfl rfl rfl (fun v q=>?_) fun d o e=>by cases e
 exact q.2.elim fun c he=>⟨c,.inl ⟨h1,by omega⟩,he.2⟩
theorem O0 (n:Nat) (s:List Ty) (a b:Ty) (d:DM) (o:OM) (h1:bF s n=some (some (d,o))) (hf:∀s e r,bF s n=some r->DN s e r) (u:mW s a b=false) (m:cK a<=2 ^ 40) (p:cK b<=2 ^ 40):Lm s a b (RU n s a b) (PU n s a b):=by
 have h:=S1 a m;have l:=S1 b p;have j:=fun D O t=>Qj s D O t;have c:PU n s a b (cA 1):=⟨1,.inr ⟨⟨d,o,h1⟩,.inl ⟨u,rfl⟩⟩,rfl⟩;have z:mW s a b=(ins s.length a&&ins s.length b&&!decide (max (cK a) (cK b)>8)):=rfl;rw[z] at u;generalize PU n s a b=Q at c ⊢;generalize RU n s a b=R;have y:=hf s 1 _ h1;generalize cK a=x at *;generalize cK b=w at *;refine aV Try.func62 Cb rfl fun hw _=>?_;refine Cq [1001,1002] [1001,1002,2003,2004] y rfl rfl rfl rfl rfl (fun v q=>by cases q.1) fun d o e=>?_;refine x9 [1001,1002,2003,2004] [1001,1002,2003,2004] (j _ _ a) rfl rfl rfl rfl rfl fun _ _=>?_;refine aq (fun k=>?_) (fun k=>?_)
 ·exact py rfl c
 refine x9 [1001,1002,2003,2004] [1001,1002,2003,2004] (j _ _ b) rfl rfl rfl rfl rfl fun _ _=>?_;refine aq (fun hb=>?_) (fun hb=>?_)
 ·exact py rfl c
 refine bL h rfl fun _=>?_;refine bL l rfl fun _=>?_;refine⟨?_,?_⟩
 ·exact V0 (a:=x) (b:=w) m p
 refine ah (fun aa=>?_) (fun f=>?_)
 ·exact py rfl c
 ·have f:¬(if(w:Int)>(x:Int) then(w:Int) else(x:Int))>8:=f;have k:(!ins s.length a)=false:=k;have hb:(!ins s.length b)=false:=hb;rw[Bool.not_eq_false'] at k hb;rw[k,hb,aaV,aaV,Bool.not_eq_false',aa2] at u;exact vv u (by split at f<;>omega)
theorem RP (n:Nat) (s:List Ty) (a b:Ty) (d:DM) (o:OM) (h1:bF s n=some (some (d,o))) (hf:∀s e r,bF s n=some r->DN s e r) (h:mW s a b=true) (al:cK a<=2 ^ 40) (am:cK b<=2 ^ 40)
  (r:Option (List Ty)) (hr:lG n s a b=some r) (az:sA s a b (RE r) (PE r)) (ar:∀s',r=some s'->∃p,bF s' n=some p/\DN s' 2 p) (ao:∀s',r=some s'->∀d o,bF s' n=some (some (d,o))->∃p,bE s' n a d o=some p/\OV s' a d o (Ld s' p) (PD p)):Lm s a b (RU n s a b) (PU n s a b):=by
 have aa:=S1 a al;have ae:=S1 b am;have ab:=fun D O t=>Qj s D O t;have h0:∃d o,bF s n=some (some (d,o)):=⟨d,o,h1⟩;have z:r=none->PU n s a b (cA 8):=fun e=>⟨8,.inr ⟨h0,.inr ⟨h,.inl ⟨by rw[hr,e],rfl⟩⟩⟩,rfl⟩;have w:∀s',r=some s'->bF s' n=some none->∀e,(e=1\/e=2)->PU n s a b (cA e):=fun s' e c k f=>⟨k,.inr ⟨h0,.inr ⟨h,.inr ⟨s',by rw[hr,e],f,.inl c⟩⟩⟩,rfl⟩;have x:∀s',r=some s'->∀d o,bF s' n=some (some (d,o))->bE s' n a d o=some none->PU n s a b (cA 1):=fun s' e d o c f=>⟨1,.inr ⟨h0,.inr ⟨h,.inr ⟨s',by rw[hr,e],.inl rfl,.inr ⟨d,o,c,.inl f⟩⟩⟩⟩,rfl⟩;have ad:∀s',r=some s'->∀d o,bF s' n=some (some (d,o))->∀k j o',bE s' n a d o=some (some (k,j,o'))->k>8->PU n s a b (cA 2):=fun s' e d o c k j o' f ag=>⟨2,.inr ⟨h0,.inr ⟨h,.inr ⟨s',by rw[hr,e],.inr rfl,.inr ⟨d,o,c,.inr ⟨k,j,o',f,ag⟩⟩⟩⟩⟩,rfl⟩;have y:∀s',r=some s'->∀d o,bF s' n=some (some (d,o))->∀k j o',bE s' n a d o=some (some (k,j,o'))->¬k>8->RU n s a b (LU s') (.tup []):=fun s' e d o c k j o' f ag=>⟨s',⟨h0,h,by rw[hr,e],d,o,k,j,o',c,f,by omega⟩,rfl,rfl⟩;have ba:mW s a b=(ins s.length a&&ins s.length b&&!decide (max (cK a) (cK b)>8)):=rfl;rw[ba] at h;generalize PU n s a b=Q at z w x ad ⊢;generalize RU n s a b=R at y ⊢;have aE:=hf s 1 _ h1;generalize cK a=da at *;generalize cK b=db at *;simp only[aaN,Bool.not_eq_true',abZ] at h;refine aV Try.func62 Cb rfl fun hw _=>?_;refine Cq [1001,1002] [1001,1002,2003,2004] aE rfl rfl rfl rfl rfl (fun v q=>by cases q.1) fun d o e=>?_;refine x9 [1001,1002,2003,2004] [1001,1002,2003,2004] (ab _ _ a) rfl rfl rfl rfl rfl fun _ _=>?_;refine aq (fun ha=>vv (show(!ins s.length a)=true from ha) (by rw[h.1.1];exact abd)) (fun ha=>?_);refine x9 [1001,1002,2003,2004] [1001,1002,2003,2004] (ab _ _ b) rfl rfl rfl rfl rfl fun _ _=>?_;refine aq (fun ha=>vv (show(!ins s.length b)=true from ha) (by rw[h.1.2];exact abd)) (fun hb=>?_);refine bL aa rfl fun _=>?_;refine bL ae rfl fun _=>?_;refine⟨?_,?_⟩
 ·exact V0 (a:=da) (b:=db) al am
 refine ah (fun m=>?_) (fun bc=>?_)
 ·have m:(if(db:Int)>(da:Int) then(db:Int) else(da:Int))>8:=m;have h8:=h.2;exact vv m (by split<;>omega)
 refine Qm [1001,1002] az rfl rfl rfl rfl rfl (fun v q=>?_) fun s' e=>?_
 ·exact q.2▸z q.1
 refine vU (ar s' e) fun p u=>?_;refine Cq [1001,1002] [1001,1002,2005,2006] u.2 rfl rfl rfl rfl rfl (fun v q=>?_) fun d o e2=>?_
 ·exact q.2.elim fun e' he=>he.2▸w s' e (by rw[u.1,q.1]) e' he.1
 have c:bF s' n=some (some (d,o)):=by rw[u.1,e2]
 refine vU (ao s' e d o c) fun rd l=>?_;refine Co [1001,1002,2005,2006] l.2 rfl rfl rfl rfl rfl (fun v q=>?_) fun k j o' e3 _=>?_
 ·exact q.2▸x s' e d o c (by rw[l.1,q.1])
 refine ah (fun f=>?_) (fun f=>?_)
 ·exact py rfl (ad s' e d o c k j o' (by rw[l.1,e3]) f)
 ·exact pA [1000,1001,1002] rfl rfl rfl rfl (y s' e d o c k j o' (by rw[l.1,e3]) f)
theorem t62 (n:Nat) (s:List Ty) (a b:Ty) (F:Fuel n s a b) (hf:∀s e r,bF s n=some r->DN s e r) (f:cK a<=2 ^ 40) (k:cK b<=2 ^ 40):Lm s a b (RU n s a b) (PU n s a b):=by
 obtain⟨r,h1⟩:=F.form;cases r with
 | none=>exact OZ n s a b h1 hf
 | some r =>
  obtain⟨d,o⟩:=r;have h0:∃d o,bF s n=some (some (d,o)):=⟨d,o,h1⟩;cases j:mW s a b with
  | false=>exact O0 n s a b d o h1 hf j f k
  | true =>
   obtain⟨r,l⟩:=F.eq h0 j;refine RP n s a b d o h1 hf j f k r l (Wk n s a b r l) (fun s' e=>?_) fun s' e d o m=>?_
   ·obtain⟨c,h⟩:=F.form' h0 j s' (by rw[l,e]);exact⟨c,h,hf s' 2 c h⟩
   ·obtain⟨c,h⟩:=F.deep h0 j s' (by rw[l,e]) d o m;exact⟨c,h,GH s' n a d o c h⟩
theorem u7 {f g:Ty->Option Bool}:∀{l:List Ty}{b:Bool},(∀x∈l,∀b,f x=some b->g x=some b)->vX f l=some b->vX g l=some b
 | [],b,_,h=>h
 | x::l,b,hf,h=>by
  rw[vX] at h ⊢;cases d:f x with
  | none=>simp only[d] at h;cases h
  | some a =>
   cases e:vX f l with
   | none=>simp only[d,e] at h;cases h
   | some c =>
    simp only[d,e] at h;simp only[hf x (by simp) a d,u7 (fun y j=>hf y (by simp[j])) e];exact h
theorem A7 {f g:Ty->Option Ty}:∀{l r:List Ty},(∀x∈l,∀b,f x=some b->g x=some b)->kY f l=some r->kY g l=some r
 | [],b,_,h=>h
 | x::l,b,hf,h=>by
  rw[kY] at h ⊢;cases d:f x with
  | none=>simp only[d] at h;cases h
  | some a =>
   cases e:kY f l with
   | none=>simp only[d,e] at h;cases h
   | some c =>
    simp only[d,e] at h;simp only[hf x (by simp) a d,A7 (fun y j=>hf y (by simp[j])) e];exact h
theorem ri {f g:List Ty->Ty->Ty->Option (Option (List Ty))}:∀{l c:List Ty}{s:List Ty}{r:Option (List Ty)},(∀s x y b,f s x y=some b->g s x y=some b)->j9 f s l c=some r->j9 g s l c=some r
 | [],c,s,r,_,h=>h
 | x::l,[],s,r,_,h=>h
 | x::l,y::c,s,r,hf,h=>by
  rw[j9] at h ⊢;cases d:f s x y with
  | none=>simp only[d] at h;cases h
  | some a =>
   simp only[d] at h;simp only[hf s x y a d];cases a with
   | none=>exact h
   | some s'=>exact ri hf h
theorem sB {f g:Ty->DM->OM->Option (Option (Int×DM×OM))}:∀{l:List Ty}{k:Int}{d:DM}{o:OM}{r:Option (Int×DM×OM)},(∀x d o b,f x d o=some b->g x d o=some b)->dW f l k d o=some r->dW g l k d o=some r
 | [],k,d,o,r,_,h=>h
 | x::l,k,d,o,r,hf,h=>by
  rw[dW] at h ⊢;cases c:f x d o with
  | none=>simp only[c] at h;cases h
  | some a =>
   simp only[c] at h;simp only[hf x d o a c];cases a with
   | none=>exact h
   | some p=>exact sB hf h
theorem dA {s:List Ty}:∀{n m:Nat}{t r:Ty},n<=m->aO s n t=some r->aO s m t=some r
 | 0,m,t,r,_,h=>by cases h
 | n+1,0,t,r,a,h=>vv a (by omega)
 | n+1,m+1,t,r,a,h=>by
  rw[aO] at h ⊢
  by_cases b:t.kind=9
  ·rw[o5 b] at h ⊢;cases he:bQ s t with
   | none=>rw[he] at h;cases h
   | some x =>
    rw[he] at h;simp only at h ⊢
    by_cases c:x.kind=0
    ·rw[o5 c] at h ⊢;exact h
    ·rw[q9 c] at h ⊢;exact dA (by omega) h
  ·rw[q9 b] at h ⊢;exact h
theorem mB {s:List Ty}{v:Int}:∀{n m:Nat}{t:Ty}{r:Bool},n<=m->kS s v n t=some r->kS s v m t=some r
 | 0,m,t,r,_,h=>by cases h
 | n+1,0,t,r,a,h=>vv a (by omega)
 | n+1,m+1,t,r,a,h=>by
  rw[kS] at h ⊢;cases hf:aO s n t with
  | none=>rw[hf] at h;cases h
  | some d =>
   rw[hf] at h;rw[dA (by omega) hf];simp only at h ⊢
   by_cases c:d.kind=9
   ·rw[o5 c] at h ⊢;exact h
   ·rw[q9 c] at h ⊢;exact u7 (fun x _ b hb=>mB (by omega) hb) h
theorem mQ {s:List Ty}:∀{n m:Nat}{t r:Ty},n<=m->oP s n t=some r->oP s m t=some r
 | 0,m,t,r,_,h=>by cases h
 | n+1,0,t,r,c,h=>vv c (by omega)
 | n+1,m+1,t,r,c,h=>by
  rw[oP] at h ⊢;cases he:(if t.kind=9 then bQ s t else some (.mk 0 0 [])) with
  | none=>simp only[he] at h;cases h
  | some x =>
   simp only[he] at h ⊢
   by_cases d:x.kind=0
   ·rw[q9 (fun q=>q d)] at h ⊢;cases a:kY (oP s n) t.args with
    | none=>simp only[a] at h;cases h
    | some l =>
     simp only[a] at h;simp only[A7 (g:=oP s m) (fun x _ b hb=>mQ (by omega) hb) a];exact h
   ·rw[o5 d] at h ⊢;exact mQ (by omega) h
theorem gP:∀{n m:Nat}{s:List Ty}{a b:Ty}{r:Option (List Ty)},n<=m->lG n s a b=some r->lG m s a b=some r
 | 0,m,s,a,b,r,_,h=>by cases h
 | n+1,0,s,a,b,r,l,h=>vv l (by omega)
 | n+1,m+1,s,a,b,r,l,h=>by
  rw[lG] at h ⊢;cases c:aO s n a with
  | none=>simp only[c] at h;cases h
  | some a' =>
   cases hb:aO s n b with
   | none=>simp only[c,hb] at h;cases h
   | some d =>
    simp only[c,hb] at h;simp only[dA (show n<=m by omega) c,dA (show n<=m by omega) hb]
    by_cases h1:a'.kind=9/\d.kind=9
    ·rw[o5 h1] at h ⊢;exact h
    rw[q9 h1] at h ⊢
    by_cases k:a'.kind=9
    ·rw[o5 k] at h ⊢;cases f:kS s a'.id n d with
     | none=>rw[f] at h;cases h
     | some q=>rw[f] at h;rw[mB (show n<=m by omega) f];exact h
    rw[q9 k] at h ⊢
    by_cases j:d.kind=9
    ·rw[o5 j] at h ⊢;exact gP (by omega) h
    rw[q9 j] at h ⊢;split at h
    ·rename_i e;rw[o5 e];exact h
    ·rename_i e;rw[q9 e];exact ri (fun s x y b o=>gP (by omega) o) h
theorem gI {s:List Ty}:∀{n m:Nat}{t:Ty}{d:DM}{o:OM}{r:Option (Int×DM×OM)},n<=m->bE s n t d o=some r->bE s m t d o=some r
 | 0,m,t,d,o,r,_,h=>by cases h
 | n+1,0,t,d,o,r,l,h=>vv l (by omega)
 | n+1,m+1,t,d,o,r,l,h=>by
  rw[bE] at h ⊢;cases he:(if t.kind=9 then bQ s t else some (.mk 0 0 [])) with
  | none=>simp only[he] at h;cases h
  | some x =>
   simp only[he] at h ⊢
   by_cases j:x.kind=0
   ·rw[q9 (fun q=>q j)] at h ⊢;cases f:dW (bE s n) t.args 0 d o with
    | none=>simp only[f] at h;cases h
    | some q =>
     simp only[f] at h;simp only[sB (g:=bE s m) (fun x d o b hb=>gI (by omega) hb) f];exact h
   ·rw[o5 j] at h ⊢;cases p:bg d t.id with
    | some k=>simp only[p] at h ⊢;exact h
    | none =>
     simp only[p] at h ⊢;have key:∀{X:Option (Option (Int×DM×OM))},bE s n x d (dX o t.id true)=X->X≠none->bE s m x d (dX o t.id true)=X:=by
      intro X e v;cases X with
      | none=>exact vv rfl v
      | some q=>exact gI (by omega) e
     cases c:bg o t.id with
     | none =>
      simp only[c] at h ⊢;cases a:bE s n x d (dX o t.id true) with
      | none=>simp only[a] at h;cases h
      | some q=>simp only[a] at h;simp only[key a (by simp)];exact h
     | some u =>
      cases u with
      | true=>simp only[c] at h ⊢;exact h
      | false =>
       simp only[c] at h ⊢;cases a:bE s n x d (dX o t.id true) with
       | none=>simp only[a] at h;cases h
       | some q=>simp only[a] at h;simp only[key a (by simp)];exact h
theorem oS {s:List Ty}{n m:Nat}(c:n<=m):∀{i:Nat}{r:Option (Bool×DM×OM)},dw s n i=some r->dw s m i=some r
 | 0,r,h=>h
 | i+1,r,h=>by
  rw[dw] at h ⊢;cases hf:dw s n i with
  | none=>simp only[hf] at h;cases h
  | some q =>
   simp only[hf] at h;simp only[oS c hf];cases q with
   | none=>exact h
   | some p =>
    obtain⟨b,d,o⟩:=p;simp only at h ⊢;cases a:bE s n (vr i) d o with
    | none=>simp only[a] at h;cases h
    | some q=>simp only[a] at h;simp only[gI c a];exact h
theorem kg {s:List Ty}{n m:Nat}(b:n<=m) {r:Option (DM×OM)}(h:bF s n=some r):bF s m=some r:=by
 unfold bF at h ⊢;split
 ·rename_i a;rw[o5 a] at h;cases hf:dw s n s.length with
  | none=>simp only[hf] at h;cases h
  | some q=>simp only[hf] at h;simp only[oS b hf];exact h
 ·rename_i a;rw[q9 a] at h;exact h
theorem sD {s:List Ty}{n m:Nat}(a:n<=m):∀{i:Nat}{d r:DM},iQ s n i d=some r->iQ s m i d=some r
 | 0,d,r,h=>h
 | i+1,d,r,h=>by
  rw[iQ] at h ⊢;cases hf:aO s n (vr i) with
  | none=>simp only[hf] at h;cases h
  | some t=>simp only[hf] at h;simp only[dA a hf];exact sD a h
theorem u9 {s:List Ty}{n m:Nat}(b:n<=m) {d:DM}:∀{i:Nat}{r:List Ty},pB s n d i=some r->pB s m d i=some r
 | 0,r,h=>h
 | i+1,r,h=>by
  rw[pB] at h ⊢;cases a:pB s n d i with
  | none=>simp only[a] at h;cases h
  | some l =>
   cases hf:oP s n (vr i) with
   | none=>simp only[a,hf] at h;cases h
   | some t=>simp only[a,hf] at h;simp only[u9 b a,mQ b hf];exact h
theorem sF {s:List Ty}{n m:Nat}(b:n<=m) {r:List Ty}(h:jM s n=some r):jM s m=some r:=by
 unfold jM at h ⊢;cases a:iQ s n s.length [] with
 | none=>simp only[a] at h;cases h
 | some d=>simp only[a] at h;simp only[sD b a];exact u9 b h
theorem nT {c d:Type}{f:Nat->c->Option d}(b:∀{n m:Nat}{x:c}{r:d},n<=m->f n x=some r->f m x=some r):∀{l:List c},(∀x∈l,∃n r,f n x=some r)->∃n,∀x∈l,∃r,f n x=some r
 | [],_=>⟨0,fun x h=>by cases h⟩
 | x::l,h=>by
  obtain⟨n,h1⟩:=nT (f:=f) b (l:=l) fun y a=>h y (by simp[a]);obtain⟨k,r,j⟩:=h x (by simp);refine⟨max n k,fun y a=>?_⟩;rcases aaW.1 a with rfl | a
  ·exact⟨r,b (Nat.le_max_right _ _) j⟩
  ·obtain⟨r,e⟩:=h1 y a;exact⟨r,b (Nat.le_max_left _ _) e⟩
theorem GJ {f:Ty->Option Bool}:∀{l:List Ty},(∀x∈l,∃b,f x=some b)->∃b,vX f l=some b
 | [],_=>⟨false,rfl⟩
 | x::l,h=>by
  obtain⟨a,h1⟩:=h x (by simp);obtain⟨b,d⟩:=GJ (l:=l) fun y c=>h y (by simp[c]);exact⟨a||b,by rw[vX,h1,d]⟩
theorem wF {f:Ty->Option Ty}:∀{l:List Ty},(∀x∈l,∃b,f x=some b)->∃b,kY f l=some b
 | [],_=>⟨[],rfl⟩
 | x::l,h=>by
  obtain⟨a,h1⟩:=h x (by simp);obtain⟨b,d⟩:=wF (l:=l) fun y c=>h y (by simp[c]);exact⟨a::b,by rw[kY,h1,d]⟩
inductive jQ (s:List Ty):Ty->Prop
 | step {t x:Ty}(h9:t.kind=9) (he:bQ s t=some x) (hk:¬x.kind=0) (h:jQ s x):jQ s t
 | stop {t x:Ty}(h9:t.kind=9) (he:bQ s t=some x) (hk:x.kind=0) (h:∀y∈t.args,jQ s y):jQ s t
 | arg {t:Ty}(h9:¬t.kind=9) (h:∀y∈t.args,jQ s y):jQ s t
theorem jQ.front {s:List Ty}{t:Ty}(h:jQ s t):∃n r,aO s n t=some r:=by
 induction h with
 | step a he b _ c =>
  obtain⟨n,r,h⟩:=c;exact⟨n+1,r,by rw[aO,o5 a,he];simp only;rw[q9 b];exact h⟩
 | stop a he b _ _=>exact⟨1,_,by rw[aO,o5 a,he];simp only;rw[o5 b]⟩
 | arg a _ _=>exact⟨1,_,by rw[aO,q9 a]⟩
theorem jQ.ap {s:List Ty}{t:Ty}(h:jQ s t):∃n r,oP s n t=some r:=by
 induction h with
 | step a he d _ b =>
  obtain⟨n,r,h⟩:=b;exact⟨n+1,r,by rw[oP,o5 a,he];simp only;rw[o5 d];exact h⟩
 | stop a he d _ b =>
  obtain⟨n,h⟩:=nT (f:=oP s) mQ b;obtain⟨l,c⟩:=wF h;exact⟨n+1,_,by rw[oP,o5 a,he];simp only;rw[q9 (fun q=>q d),c]⟩
 | arg a _ b =>
  obtain⟨n,h⟩:=nT (f:=oP s) mQ b;obtain⟨l,c⟩:=wF h;exact⟨n+1,_,by rw[oP,q9 a];simp only;rw[q9 (fun q=>q rfl),c]⟩
theorem jQ.occ {s:List Ty}(v:Int) {t:Ty}(h:jQ s t):∃n r,kS s v n t=some r:=by
 induction h with
 | @step t x a he d _ c =>
  obtain⟨n,r,h⟩:=c;cases n with
  | zero=>cases h
  | succ n =>
   refine⟨n+2,r,?_⟩;rw[kS] at h ⊢;have e:aO s (n+1) t=aO s n x:=by rw[aO,o5 a,he];simp only;rw[q9 d]
   rw[e];cases hf:aO s n x with
   | none=>rw[hf] at h;cases h
   | some j =>
    rw[hf] at h;simp only at h ⊢
    by_cases a:j.kind=9
    ·rw[o5 a] at h ⊢;exact h
    ·rw[q9 a] at h ⊢;exact u7 (fun x _ b hb=>mB (Nat.le_succ _) hb) h
 | @stop t x a he d _ _ =>
  exact⟨2,_,by rw[kS,aO,o5 a,he];simp only;rw[o5 d];simp only;rw[o5 a]⟩
 | @arg t a _ c =>
  obtain⟨n,h⟩:=nT (f:=kS s v) mB c;have h:∀x∈t.args,∃b,kS s v (n+1) x=some b:=fun x k=>by
   obtain⟨b,hb⟩:=h x k;exact⟨b,mB (Nat.le_succ _) hb⟩
  obtain⟨b,hb⟩:=GJ h;exact⟨n+2,b,by rw[kS,aO,q9 a];simp only;rw[q9 a];exact hb⟩
theorem fD {s:List Ty}:∀{n:Nat}{t r:Ty},aO s n t=some r->r.kind=9->∃x,bQ s r=some x/\x.kind=0
 | 0,t,r,h,_=>by cases h
 | n+1,t,r,h,c=>by
  rw[aO] at h
  by_cases a:t.kind=9
  ·rw[o5 a] at h;cases he:bQ s t with
   | none=>rw[he] at h;cases h
   | some x =>
    rw[he] at h;simp only at h
    by_cases b:x.kind=0
    ·rw[o5 b] at h;injection h with h;rw[<-h];exact⟨x,he,b⟩
    ·rw[q9 b] at h;exact fD h c
  ·rw[q9 a] at h;injection h with h;exact vv c (h▸a)
theorem Fm {s:List Ty}{t x:Ty}(a:t.kind=9) (he:bQ s t=some x) (b:x.kind=0) (n:Nat):aO s (n+1) t=some t:=by
 rw[aO,o5 a,he];simp only;rw[o5 b]
theorem A8 {s:List Ty}{t:Ty}(a:¬t.kind=9) (n:Nat):aO s (n+1) t=some t:=by
 rw[aO,q9 a]
theorem vG {s:List Ty}{n m:Nat}{t r:Ty}(h:aO s n t=some r):aO s (m+1) r=some r:=by
 by_cases a:r.kind=9
 ·obtain⟨x,he,b⟩:=fD h a;exact Fm a he b m
 ·exact A8 a m
theorem rj {s:List Ty}{p:Ty->Prop}(d:∀t x,p t->t.kind=9->bQ s t=some x->¬x.kind=0->p x):∀{n:Nat}{t r:Ty},aO s n t=some r->p t->p r
 | 0,t,r,h,_=>by cases h
 | n+1,t,r,h,a=>by
  rw[aO] at h
  by_cases b:t.kind=9
  ·rw[o5 b] at h;cases he:bQ s t with
   | none=>rw[he] at h;cases h
   | some x =>
    rw[he] at h;simp only at h
    by_cases c:x.kind=0
    ·rw[o5 c] at h;injection h with h;rw[<-h];exact a
    ·rw[q9 c] at h;exact rj d h (d t x a b he c)
  ·rw[q9 b] at h;injection h with h;exact h▸a
def Ex (s:List Ty) (t r:Ty):Prop:=∃n,oP s n t=some r
theorem Ex.one {s:List Ty}{t r q:Ty}(h:Ex s t r) (k:Ex s t q):r=q:=by
 obtain⟨n,h⟩:=h;obtain⟨m,k⟩:=k;have h1:=mQ (Nat.le_max_left n m) h;have a:=mQ (Nat.le_max_right n m) k;rw[h1] at a;exact abw a
theorem Ex.front {s:List Ty}:∀{n:Nat}{t a r:Ty},aO s n t=some a->Ex s t r->Ex s a r
 | 0,t,a,r,h,_=>by cases h
 | n+1,t,a,r,h,⟨m,k⟩=>by
  rw[aO] at h
  by_cases b:t.kind=9
  ·rw[o5 b] at h;cases he:bQ s t with
   | none=>rw[he] at h;cases h
   | some x =>
    rw[he] at h;simp only at h
    by_cases c:x.kind=0
    ·rw[o5 c] at h;injection h with h;rw[<-h];exact⟨m,k⟩
    ·rw[q9 c] at h;cases m with
     | zero=>cases k
     | succ m =>
      rw[oP,o5 b,he] at k;simp only at k;rw[o5 c] at k;exact Ex.front h ⟨m,k⟩
  ·rw[q9 b] at h;injection h with h;exact h▸⟨m,k⟩
theorem Ex.args {s:List Ty}{t r:Ty}(h:Ex s t r) (d:¬t.kind=9):r.kind=t.kind/\r.id=t.id/\r.args.length=t.args.length/\∀(j:Nat) (x:Ty),t.args[j]?=some x->∃y,r.args[j]?=some y/\Ex s x y:=by
 obtain⟨n,h⟩:=h;cases n with
 | zero=>cases h
 | succ n =>
  rw[oP,q9 d] at h;simp only at h;rw[q9 (fun q=>q rfl)] at h;cases a:kY (oP s n) t.args with
  | none=>simp only[a] at h;cases h
  | some l =>
   simp only[a] at h;injection h with h
   obtain⟨h1,b⟩:=ju a;subst h;refine⟨rfl,rfl,by show l.length=_;rw[b,aaP],fun j x c=>?_⟩;refine⟨(oP s n x).getD x,by show l[j]?=_;rw[b,aa9,c];rfl,n,h1 x (aaZ c)⟩
theorem nU {n:Int}{t:Ty}(h:ins n t=true):1<=t.kind/\t.kind<=9:=by
 rw[u5] at h;split at h
 ·cases h
 ·omega
theorem oU {n:Int}{t:Ty}(h:ins n t=true) (a:t.kind=9):0<=t.id/\t.id<n/\t.args=[]:=by
 have b:=nU h;rw[u5,q9 (by omega),o5 a] at h;simp only[aaN,aa2] at h;exact⟨h.1.1,h.1.2,abu h.2⟩
theorem eT {n:Int}{t:Ty}(h:ins n t=true):∀x∈t.args,ins n x=true:=by
 have c:=nU h
 by_cases a:t.kind=9
 ·rw[(oU h a).2.2];intro x b;cases b
 ·rw[u5,q9 (by omega),q9 a,aa1] at h;exact h
theorem ve {n i:Int}(h0:0<=i) (h1:i<n):ins n (.mk 9 i [])=true:=by
 rw[u5,q9 (by show¬((9:Int)<1\/(9:Int)<9);omega),o5 (show(Ty.mk 9 i []).kind=9 from rfl)];simp only[aaN,aa2];exact⟨⟨h0,h1⟩,rfl⟩
theorem sG {n:Nat}{i:Nat}(h:i<n):ins n (vr i)=true:=ve (by omega) (by omega)
theorem yH {n:Nat}{t:Ty}(h:ins n t=true) (a:t.kind=9):∃i:Nat,i<n/\t=vr i/\t.id=i:=by
 obtain⟨h0,h1,b⟩:=oU h a;refine⟨t.id.toNat,by omega,AR a ?_ b,by omega⟩;show t.id=(t.id.toNat:Int);omega
def En (s:List Ty):Prop:=∀x∈s,x.kind=0\/ins s.length x=true
theorem qu {s:List Ty}{t x:Ty}(h:bQ s t=some x):x∈s:=aaZ (bJ h).2.1
theorem En.elem {s:List Ty}(h:En s) {t x:Ty}(he:bQ s t=some x) (a:¬x.kind=0):ins s.length x=true:=(h x (qu he)).resolve_left a
theorem En.front {s:List Ty}(h:En s) {n:Nat}{t r:Ty}(hf:aO s n t=some r) (a:ins s.length t=true):ins s.length r=true :=
 rj (p:=fun t=>ins s.length t=true) (fun t x _ _ he b=>h.elem he b) hf a
theorem yI {s:List Ty}{t:Ty}(b:ins s.length t=true) (a:t.kind=9):∃x,bQ s t=some x/\x∈s:=by
 obtain⟨h0,h1,_⟩:=oU b a;exact K3 h0 h1
structure Good (s:List Ty):Prop where
 ins:En s
 fin:∀i<s.length,jQ s (vr i)
theorem Good.all {s:List Ty}(g:Good s):∀t:Ty,Try.ins s.length t=true->jQ s t:=dL fun t c h=>by
 by_cases b:t.kind=9
 ·obtain⟨i,hi,e,_⟩:=yH h b;rw[e];exact g.fin i hi
 ·exact .arg b fun y a=>c y a (eT h y a)
def mC:List Ty->Nat
 | []=>0
 | x::l=>(if x.kind=0 then 1 else 0)+mC l
theorem A9 {b:Ty}(hb:¬b.kind=0):∀{s:List Ty}{i:Nat}{x:Ty},s[i]?=some x->x.kind=0->mC (s.set i b)<mC s
 | [],i,x,h,_=>by simp at h
 | y::s,0,x,h,a=>by
  rw[aa6] at h;injection h with h
  subst h;rw[List.set_cons_zero,mC,mC,q9 hb,o5 a];omega
 | y::s,i+1,x,h,a=>by
  rw[abg] at h;rw[List.set_cons_succ,mC,mC];have:=A9 hb h a;omega
theorem mR {s:List Ty}{v:Int}{b t:Ty}(h0:0<=v) (h:t.id≠v):bQ (s.set v.toNat b) t=bQ s t:=by
 unfold bQ;split
 ·rfl
 ·rw[abW (by omega)]
theorem DP {s:List Ty}{v:Int}{b t x:Ty}(h0:0<=v) (a:s[v.toNat]?=some x) (h:t.id=v):bQ (s.set v.toNat b) t=some b:=by
 unfold bQ;rw[q9 (by omega),h,ab1 (aaU.1 a).1]
inductive qw (s:List Ty) (v:Int):Ty->Prop
 | step {t x:Ty}(h9:t.kind=9) (he:bQ s t=some x) (hk:¬x.kind=0) (h:qw s v x):qw s v t
 | stop {t x:Ty}(h9:t.kind=9) (he:bQ s t=some x) (hk:x.kind=0) (hv:t.id≠v) (ha:t.args=[]):qw s v t
 | arg {t:Ty}(h9:¬t.kind=9) (h:∀y∈t.args,qw s v y):qw s v t
theorem qw.front {s:List Ty}{v:Int}:∀{n:Nat}{t r:Ty},aO s n t=some r->qw s v r->qw s v t
 | 0,t,r,h,_=>by cases h
 | n+1,t,r,h,k=>by
  rw[aO] at h
  by_cases a:t.kind=9
  ·rw[o5 a] at h;cases he:bQ s t with
   | none=>rw[he] at h;cases h
   | some x =>
    rw[he] at h;simp only at h
    by_cases b:x.kind=0
    ·rw[o5 b] at h;injection h with h;rw[h];exact k
    ·rw[q9 b] at h;exact .step a he b (qw.front h k)
  ·rw[q9 a] at h;injection h with h;rw[h];exact k
theorem qw.of {s:List Ty}(c:En s) {v:Int}:∀{n:Nat}{t:Ty},ins s.length t=true->kS s v n t=some false->qw s v t
 | 0,t,_,h=>by cases h
 | n+1,t,f,h=>by
  rw[kS] at h;cases hf:aO s n t with
  | none=>rw[hf] at h;cases h
  | some r =>
   rw[hf] at h;have d:=c.front hf f;refine qw.front hf ?_;simp only at h
   by_cases a:r.kind=9
   ·rw[o5 a] at h;obtain⟨x,he,e⟩:=fD hf a;exact .stop a he e (by injection h with h;exact abO h) (oU d a).2.2
   ·rw[q9 a] at h;obtain⟨h1,j⟩:=qZ h;refine .arg a fun y b=>qw.of c (n:=n) (eT d y b) ?_;have:=(abX.1 j) y b;rw[ab3] at this;rw[h1 y b,this]
theorem qw.set {s:List Ty}{v:Int}{b k t:Ty}(h0:0<=v) (n:s[v.toNat]?=some k) (f:k.kind=0) (h:qw s v t):jQ (s.set v.toNat b) t:=by
 induction h with
 | @step t x a he c _ j =>
  have:t.id≠v:=fun e=>by
   obtain⟨_,d,_⟩:=bJ he;rw[e,n] at d;injection d with d
   exact c (d▸f)
  exact .step a ((mR h0 this).trans he) c j
 | @stop t x a he c o m=>exact .stop a ((mR h0 o).trans he) c (by rw[m];intro y l;cases l)
 | @arg t a _ j=>exact .arg a j
theorem jQ.set {s:List Ty}{v:Int}{b l t:Ty}(h0:0<=v) (m:s[v.toNat]?=some l) (j:l.kind=0) (k:¬b.kind=0) (hb:jQ (s.set v.toNat b) b) (h:jQ s t):jQ (s.set v.toNat b) t:=by
 induction h with
 | @step t x a he d _ c =>
  have:t.id≠v:=fun e=>by
   obtain⟨_,f,_⟩:=bJ he;rw[e,m] at f;injection f with f
   exact d (f▸j)
  exact .step a ((mR h0 this).trans he) d c
 | @stop t x a he d _ c =>
  by_cases e:t.id=v
  ·exact .step a (DP h0 m e) k hb
  ·exact .stop a ((mR h0 e).trans he) d c
 | @arg t a _ c=>exact .arg a c
structure Eo (s s':List Ty):Prop where
 len:s'.length=s.length
 good:Good s'
 less:s'=s\/mC s'<mC s
theorem Eo.refl {s:List Ty}(g:Good s):Eo s s:=⟨rfl,g,.inl rfl⟩
theorem Eo.trans {s t r:List Ty}(h:Eo s t) (k:Eo t r):Eo s r:=by
 refine⟨k.len.trans h.len,k.good,?_⟩;rcases h.less with e | h1
 ·subst e;exact k.less
 ·rcases k.less with e | a
  ·subst e;exact .inr h1
  ·exact .inr (by omega)
theorem Good.bind {s:List Ty}(g:Good s) {v:Int}{b h:Ty}(h0:0<=v) (e:s[v.toNat]?=some h) (a:h.kind=0) (hb:Try.ins s.length b=true) (j:qw s v b):Eo s (s.set v.toNat b):=by
 have c:¬b.kind=0:=by have:=nU hb;omega
 have f:jQ (s.set v.toNat b) b:=j.set h0 e a;refine⟨abK,⟨fun y d=>?_,fun i hi=>?_⟩,.inr (A9 c e a)⟩
 ·rw[abK];rcases ab8 d with d | rfl
  ·exact g.ins y d
  ·exact .inr hb
 ·rw[abK] at hi;exact jQ.set h0 e a c f (g.fin i hi)
theorem mD {n:Nat}{s:List Ty}{a b a' c:Ty}(d:aO s n a=some a') (hb:aO s n b=some c):lG (n+1) s a b =
   if a'.kind=9/\c.kind=9 then(if a'.id=c.id then some (some s) else some (some (s.set (max a'.id c.id).toNat (.mk 9 (min a'.id c.id) []))))
   else if a'.kind=9 then(match kS s a'.id n c with
    | none=>none
    | some true=>some none
    | some false=>some (some (s.set a'.id.toNat c)))
   else if c.kind=9 then lG n s c a'
   else if a'.kind≠c.kind\/a'.id≠c.id\/a'.args.length≠c.args.length then some none
   else j9 (lG n) s a'.args c.args:=by
 rw[lG];simp only[d,hb];rfl
def Ends (s:List Ty) (a b:Ty):Prop:=∃n r,lG n s a b=some r/\∀s',r=some s'->Eo s s'
theorem Ln {s:List Ty}(g:Good s) {a' c:Ty}(ha:Try.ins s.length a'=true) (hb:Try.ins s.length c=true) (t:a'.kind=9) (y:∃x,bQ s a'=some x/\x.kind=0) (ae:c.kind=9->∃x,bQ s c=some x/\x.kind=0) :
  ∃u r,(∀s',r=some s'->Eo s s')/\∀n,u<=n->∀a b,aO s n a=some a'->aO s n b=some c->lG (n+1) s a b=some r:=by
 obtain⟨xa,p,h⟩:=y;obtain⟨ac,l,ar⟩:=bJ p
 by_cases f:c.kind=9
 ·obtain⟨xb,m,o⟩:=ae f;obtain⟨aw,w,an⟩:=bJ m
  by_cases hi:a'.id=c.id
  ·refine⟨0,some s,fun s' e=>by injection e with e;subst e;exact Eo.refl g,fun n _ a b h1 j=>?_⟩;rw[mD h1 j,o5 ⟨t,f⟩,o5 hi]
  ·refine⟨0,some (s.set (max a'.id c.id).toNat (.mk 9 (min a'.id c.id) [])),fun s' e=>?_,fun n _ a b h1 j=>?_⟩
   ·injection e with e
    subst e;have z:∃k,s[(max a'.id c.id).toNat]?=some k/\k.kind=0:=by
     rcases Int.le_total a'.id c.id with d | d
     ·rw[Int.max_eq_right d];exact⟨xb,w,o⟩
     ·rw[Int.max_eq_left d];exact⟨xa,l,h⟩
    have ad:∃k,bQ s (.mk 9 (min a'.id c.id) [])=some k/\k.kind=0:=by
     rcases Int.le_total a'.id c.id with d | d
     ·rw[Int.min_eq_left d];exact⟨xa,p,h⟩
     ·rw[Int.min_eq_right d];exact⟨xb,m,o⟩
    obtain⟨k,q1,q2⟩:=z;obtain⟨x1,q3,q4⟩:=ad;have ab:min a'.id c.id≠max a'.id c.id:=by omega
    exact g.bind (by omega) q1 q2 (ve (by omega) (by omega)) (.stop rfl q3 q4 ab rfl)
   ·rw[mD h1 j,o5 ⟨t,f⟩,q9 hi]
 ·obtain⟨u,r,ho⟩:=(g.all c hb).occ a'.id;cases r with
  | true =>
   refine⟨u,none,fun s' e=>(by cases e),fun n v a b h1 j=>?_⟩;rw[mD h1 j,q9 (fun q=>f q.2),o5 t,mB v ho]
  | false =>
   refine⟨u,some (s.set a'.id.toNat c),fun s' e=>?_,fun n v a b h1 j=>?_⟩
   ·injection e with e
    subst e;exact g.bind ac l h hb (qw.of g.ins hb ho)
   ·rw[mD h1 j,q9 (fun q=>f q.2),o5 t,mB v ho]
theorem Ba {N:Nat}(p:∀s,Good s->mC s<N->∀a b,Try.ins s.length a=true->Try.ins s.length b=true->Ends s a b) {d:List Ty}(t:mC d<=N) :
  ∀(l f:List Ty),l.length=f.length->(∀(j:Nat) (x y:Ty),l[j]?=some x->f[j]?=some y->Try.ins d.length x=true/\Try.ins d.length y=true/\Ends d x y)->∀s,Eo d s->∃n r,j9 (lG n) s l f=some r/\∀s',r=some s'->Eo d s'
 | [],f,_,_,s,c=>⟨0,some s,rfl,fun s' e=>by injection e with e;exact e▸c⟩
 | x::l,[],h,_,s,c=>by cases h
 | x::l,y::f,h,q,s,c=>by
  obtain⟨o,k,he⟩:=q 0 x y rfl rfl;have h1:Ends s x y:=by
   rcases c.less with e | v
   ·rw[e];exact he
   ·exact p s c.good (by omega) x y (by rw[c.len];exact o) (by rw[c.len];exact k)
  obtain⟨n,r,h1,w⟩:=h1;cases r with
  | none=>exact⟨n,none,by rw[j9,h1],fun s' e=>by cases e⟩
  | some s1 =>
   obtain⟨m,r,u,z⟩:=Ba p t l f (by simpa using h) (fun j x y o k=>q (j+1) x y o k) s1 (c.trans (w s1 rfl));refine⟨max n m,r,?_,z⟩;rw[j9,gP (Nat.le_max_left n m) h1];exact ri (fun s x y b hb=>gP (Nat.le_max_right n m) hb) u
theorem yJ:∀(N:Nat) (s:List Ty),Good s->mC s<N->∀a b,ins s.length a=true->ins s.length b=true->Ends s a b
 | 0,s,_,h,_,_,_,_=>vv h (abB _)
 | N+1,s,g,hu,a,b,z,hb=>by
  have hN:=yJ N;have main:∀(M:Nat) (a b t v:Ty),ins s.length a=true->ins s.length b=true->Ex s a t->Ex s b v->SizeOf.sizeOf t+SizeOf.sizeOf v<M->Ends s a b:=by
   intro M
   induction M with
   | zero=>intro a b t v _ _ _ _ h;exact vv h (abB _)
   | succ M ih =>
    intro a b t v z hb o l hM;obtain⟨n1,a',k⟩:=(g.all a z).front;obtain⟨n2,u,f⟩:=(g.all b hb).front;have p:=g.ins.front k z;have m:=g.ins.front f hb;have am:=o.front k;have ag:=l.front f
    by_cases d:a'.kind=9
    ·obtain⟨n0,r,h1,h2⟩:=Ln g p m d (fD k d) (fun q=>fD f q);exact⟨_,r,h2 (max n0 (max n1 n2)) (by omega) a b (dA (by omega) k) (dA (by omega) f),h1⟩
    by_cases c:u.kind=9
    ·obtain⟨n0,r,h1,h2⟩:=Ln g m p c (fD f c) (fun q=>vv q d);refine⟨max n0 (max n1 n2)+1+1+1,r,?_,h1⟩;rw[mD (dA (by omega) k) (dA (by omega) f),q9 (fun q=>d q.1),q9 d,o5 c];exact h2 _ (by omega) u a' (vG f) (vG k)
    by_cases hd:a'.kind≠u.kind\/a'.id≠u.id\/a'.args.length≠u.args.length
    ·refine⟨max n1 n2+1,none,?_,fun s' e=>by cases e⟩;rw[mD (dA (by omega) k) (dA (by omega) f),q9 (fun q=>d q.1),q9 d,q9 c,o5 hd]
    ·obtain⟨e1,e2,e3,e4⟩:=am.args d;obtain⟨f1,f2,f3,f4⟩:=ag.args c;obtain⟨n,r,h1,h2⟩:=Ba hN (show mC s<=N by omega) a'.args u.args (by omega) (fun j x y hx hy=>by
      obtain⟨x',ao,al⟩:=e4 j x hx;obtain⟨y',ae,an⟩:=f4 j y hy;have s1:=Gw (aaZ ao);have s2:=Gw (aaZ ae);have w:=eT p x (aaZ hx);have aa:=eT m y (aaZ hy);exact⟨w,aa,ih x y x' y' w aa al an (by omega)⟩) s (Eo.refl g)
     refine⟨max n (max n1 n2)+1,r,?_,h2⟩;rw[mD (dA (by omega) k) (dA (by omega) f),q9 (fun q=>d q.1),q9 d,q9 c,q9 hd];exact ri (fun s x y b hb=>gP (by omega) hb) h1
  obtain⟨na,t,o⟩:=(g.all a z).ap;obtain⟨nb,v,l⟩:=(g.all b hb).ap;exact main _ a b t v z hb ⟨na,o⟩ ⟨nb,l⟩ (abU _)
end Go.Fr.Try
