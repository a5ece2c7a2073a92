/- Part of the proofs of the statements of this seat. -/
import Derived.Test.YthfdbepkalpplaaUnD1G
set_option maxRecDepth 10000
set_option linter.unusedVariables false
set_option linter.unusedSimpArgs false
namespace Go.Fr.Try
open Go Go.RowKit Go.Proofs Go.Fr Go.Fr.T Go.Fr.Api
theorem Uo (s:List Ty) (t x:Ty) (h:CallsT P 95 [aV t,.own 1000 0] [.box 89 [.own 1001 0],.box 93 [.sl (s.map aI),.any,.any]] (aU [.box 89 [.own 1001 0],.box 93 [.sl (s.map aI),.any,.any]] (.tup [aV x,.bool true]))):CallsT P 52 [aV t,.fn 95 [] [.own 1000 0]] [.box 89 [.own 1001 0],.box 93 [.sl (s.map aI),.any,.any]] (aU [.box 89 [.own 1001 0],.box 93 [.sl (s.map aI),.any,.any]] (aV x)):=by
 refine af Try.func52 uf rfl fun a _=>?_;refine callO [1000,1001] [1000,1001] h rfl rfl rfl rfl rfl fun _ _=>?_;exact bF [1000,1001] rfl rfl rfl rfl
theorem Uq (s:List Ty) (t:Ty) (f:Ty->Ty) (hb:t.args.length<=2 ^ 30) (h:CallsT P 95 [aV t,.own 1000 0] [.box 89 [.own 1001 0],.box 93 [.sl (s.map aI),.any,.any]] (aU [.box 89 [.own 1001 0],.box 93 [.sl (s.map aI),.any,.any]] (.tup [aV t,.bool false])))
  (n:∀x∈t.args,CallsT P 52 [aV x,.fn 95 [] [.own 1000 0]] [.box 89 [.own 1001 0],.box 93 [.sl (s.map aI),.any,.any]] (aU [.box 89 [.own 1001 0],.box 93 [.sl (s.map aI),.any,.any]] (aV (f x)))):CallsT P 52 [aV t,.fn 95 [] [.own 1000 0]] [.box 89 [.own 1001 0],.box 93 [.sl (s.map aI),.any,.any]] (aU [.box 89 [.own 1001 0],.box 93 [.sl (s.map aI),.any,.any]] (aV (.mk t.kind t.id (t.args.map f)))):=by
 have c:(t.args.map aI).length=t.args.length:=vz _;refine af Try.func52 uf rfl fun p _=>?_;refine callO [1000,1001] [1000,1001] h rfl rfl rfl rfl rfl fun _ _=>?_;refine bX t.args.length 26 [] ([]:List Ty) (fun _=>[]) (fun s'=>[(4,.box 32 [IC 0,IC 0,.nils]),(5,.box 32 [IC t.kind,IC t.id,.sl (t.args.map aI)]),(7,.box 32 [IC t.kind,IC t.id,.rw 36]),(36,.row 32 3 (s'.map aI)),(1000,.box 89 [.own 1001 0]),(1001,.box 93 [.sl (s.map aI),.any,.any])]) (fun j s'=>s'=(t.args.take j).map f) (by simp) (ai rfl) trivial
  ⟨.inl ⟨_,rfl,.inl ⟨rfl,rfl⟩⟩,.inl ⟨_,rfl,.inl ⟨rfl,rfl⟩⟩,.inl ⟨_,rfl,.inr ⟨32,_,_,rfl,rfl,_,_,rfl,ai rfl,_,_,rfl,ai rfl,_,_,rfl,sN rfl rfl,rfl⟩⟩,.inr ⟨rfl,32,3,rfl⟩,.inl ⟨_,rfl,.inl ⟨rfl,rfl⟩⟩,.inl ⟨_,rfl,.inl ⟨rfl,rfl⟩⟩,trivial⟩ (fun _=>rfl) (fun _=>rfl) ?_
 rintro j s' o a _ _ _;refine ah (fun b=>?_) (fun d=>?_)
 ·have b:j<t.args.length:=by rw[c] at b;omega
  refine dP b fun x l k=>?_;have m:(s'.map aI).length=j:=by rw[a,vz,vz,abJ];omega
  refine cL l ?_;refine i9 (Pp:=fun _=>False) [1000,1001] (n x k).toX rfl rfl rfl rfl rfl (fun _ h=>False.elim h) fun _ _=>?_;refine rV j rfl m (by decide) (by omega) ?_;refine Fit.aaf (by omega) (by omega) ?_;refine⟨(j+1,s'++[f x]),⟨b,?_⟩,⟨bM,trivial⟩,⟨.inl ⟨_,rfl,.inl ⟨rfl,rfl⟩⟩,.inl ⟨_,rfl,.inl ⟨rfl,rfl⟩⟩,.inl ⟨_,rfl,.inl ⟨rfl,rfl⟩⟩,.inl ⟨_,rfl,.inl ⟨Ei I3,rfl⟩⟩,.inl ⟨_,rfl,.inl ⟨rfl,rfl⟩⟩,.inl ⟨_,rfl,.inl ⟨rfl,rfl⟩⟩,trivial⟩,bN b⟩;show s'++[f x]=(t.args.take (j+1)).map f;rw[gV l,a,abB];rfl
 ·have d:¬j<t.args.length:=by rw[c] at d;omega
  have e:C.agg [IC t.kind,IC t.id,.sl (s'.map aI)]=aV (.mk t.kind t.id (t.args.map f)):=by
   rw[a,abA (by omega)];rfl
  exact IG [36] [1000,1001] ⟨_,_,rfl,rfl,rfl,rfl,e⟩
theorem Ur (m:DM) (t x:Ty) (h:CallsT P 98 [aV t,.own 1000 0] [.box 90 [.mpr 1001],.map (jl IC m)] (aU [.box 90 [.mpr 1001],.map (jl IC m)] (.tup [aV x,.bool true]))):CallsT P 52 [aV t,.fn 98 [] [.own 1000 0]] [.box 90 [.mpr 1001],.map (jl IC m)] (aU [.box 90 [.mpr 1001],.map (jl IC m)] (aV x)):=by
 refine af Try.func52 uf rfl fun a _=>?_;refine callO [1000,1001] [1000,1001] h rfl rfl rfl rfl rfl fun _ _=>?_;exact bF [1000,1001] rfl rfl rfl rfl
theorem Us (m:DM) (t:Ty) (f:Ty->Ty) (hb:t.args.length<=2 ^ 30) (h:CallsT P 98 [aV t,.own 1000 0] [.box 90 [.mpr 1001],.map (jl IC m)] (aU [.box 90 [.mpr 1001],.map (jl IC m)] (.tup [aV t,.bool false])))
  (o:∀x∈t.args,CallsT P 52 [aV x,.fn 98 [] [.own 1000 0]] [.box 90 [.mpr 1001],.map (jl IC m)] (aU [.box 90 [.mpr 1001],.map (jl IC m)] (aV (f x)))):CallsT P 52 [aV t,.fn 98 [] [.own 1000 0]] [.box 90 [.mpr 1001],.map (jl IC m)] (aU [.box 90 [.mpr 1001],.map (jl IC m)] (aV (.mk t.kind t.id (t.args.map f)))):=by
 have c:(t.args.map aI).length=t.args.length:=vz _;refine af Try.func52 uf rfl fun q _=>?_;refine callO [1000,1001] [1000,1001] h rfl rfl rfl rfl rfl fun _ _=>?_;refine bX t.args.length 26 [] ([]:List Ty) (fun _=>[]) (fun s'=>[(4,.box 32 [IC 0,IC 0,.nils]),(5,.box 32 [IC t.kind,IC t.id,.sl (t.args.map aI)]),(7,.box 32 [IC t.kind,IC t.id,.rw 36]),(36,.row 32 3 (s'.map aI)),(1000,.box 90 [.mpr 1001]),(1001,.map (jl IC m))]) (fun j s'=>s'=(t.args.take j).map f) (by simp) (ai rfl) trivial
  ⟨.inl ⟨_,rfl,.inl ⟨rfl,rfl⟩⟩,.inl ⟨_,rfl,.inl ⟨rfl,rfl⟩⟩,.inl ⟨_,rfl,.inr ⟨32,_,_,rfl,rfl,_,_,rfl,ai rfl,_,_,rfl,ai rfl,_,_,rfl,sN rfl rfl,rfl⟩⟩,.inr ⟨rfl,32,3,rfl⟩,.inl ⟨_,rfl,.inl ⟨rfl,rfl⟩⟩,.inl ⟨_,rfl,.inl ⟨rfl,rfl⟩⟩,trivial⟩ (fun _=>rfl) (fun _=>rfl) ?_
 rintro j s' p a _ _ _;refine ah (fun b=>?_) (fun d=>?_)
 ·have b:j<t.args.length:=by rw[c] at b;omega
  refine dP b fun x l k=>?_;have n:(s'.map aI).length=j:=by rw[a,vz,vz,abJ];omega
  refine cL l ?_;refine i9 (Pp:=fun _=>False) [1000,1001] (o x k).toX rfl rfl rfl rfl rfl (fun _ h=>False.elim h) fun _ _=>?_;refine rV j rfl n (by decide) (by omega) ?_;refine Fit.aaf (by omega) (by omega) ?_;refine⟨(j+1,s'++[f x]),⟨b,?_⟩,⟨bM,trivial⟩,⟨.inl ⟨_,rfl,.inl ⟨rfl,rfl⟩⟩,.inl ⟨_,rfl,.inl ⟨rfl,rfl⟩⟩,.inl ⟨_,rfl,.inl ⟨rfl,rfl⟩⟩,.inl ⟨_,rfl,.inl ⟨Ei I3,rfl⟩⟩,.inl ⟨_,rfl,.inl ⟨rfl,rfl⟩⟩,.inl ⟨_,rfl,.inl ⟨rfl,rfl⟩⟩,trivial⟩,bN b⟩;show s'++[f x]=(t.args.take (j+1)).map f;rw[gV l,a,abB];rfl
 ·have d:¬j<t.args.length:=by rw[c] at d;omega
  have e:C.agg [IC t.kind,IC t.id,.sl (s'.map aI)]=aV (.mk t.kind t.id (t.args.map f)):=by
   rw[a,abA (by omega)];rfl
  exact IG [36] [1000,1001] ⟨_,_,rfl,rfl,rfl,rfl,e⟩
theorem W9 (s:List Ty) (t x r:Ty) (c:t.kind=9) (h0:0<=t.id) (a:s[t.id.toNat]?=some x) (b:¬x.kind=0) (h:CallsT P 60 [.own 1000 0,aV x] (uQ s) (aU (uQ s) (aV r))) :
  CallsT P 95 [aV t,.own 1000 0] [.box 89 [.own 1001 0],.box 93 [.sl (s.map aI),.any,.any]] (aU [.box 89 [.own 1001 0],.box 93 [.sl (s.map aI),.any,.any]] (.tup [aV r,.bool true])):=by
 refine af Try.func95 GX rfl fun d _=>?_;refine ah (fun _=>?_) (fun q=>fL c q);refine yZ h0 a ?_;refine aR (fun _=>?_) (fun q=>fL q b);refine yZ h0 a ?_;refine yI [1001] [1001] h rfl rfl rfl rfl rfl fun _ _=>?_;exact bF [1000,1001] rfl rfl rfl rfl
theorem Xa (s:List Ty) (t:Ty) (c:t.kind=9->∃x,0<=t.id/\s[t.id.toNat]?=some x/\x.kind=0) :
  CallsT P 95 [aV t,.own 1000 0] [.box 89 [.own 1001 0],.box 93 [.sl (s.map aI),.any,.any]] (aU [.box 89 [.own 1001 0],.box 93 [.sl (s.map aI),.any,.any]] (.tup [aV t,.bool false])):=by
 refine af Try.func95 GX rfl fun d _=>?_;refine ah (fun h=>ul (c h) fun x a=>?_) (fun _=>?_)
 ·have h0:=a.1;have b:=a.2.1;refine yZ h0 b ?_;refine aR (fun q=>fL a.2.2 q) (fun _=>?_);exact bF [1000,1001] rfl rfl rfl rfl
 ·exact bF [1000,1001] rfl rfl rfl rfl
theorem Ut (s:List Ty) (t r:Ty) (h:CallsT P 52 [aV t,.fn 95 [] [.own 1000 0]] [.box 89 [.own 1001 0],.box 93 [.sl (s.map aI),.any,.any]] (aU [.box 89 [.own 1001 0],.box 93 [.sl (s.map aI),.any,.any]] (aV r))):CallsT P 60 [.own 1000 0,aV t] (uQ s) (aU (uQ s) (aV r)):=by
 refine af Try.func60 OX rfl fun a _=>?_;refine callO [2,1000] [2,1000] h rfl rfl rfl rfl rfl fun _ _=>?_;exact bF [1000] rfl rfl rfl rfl
theorem jH {f:Ty->Option Ty}:∀{l r:List Ty},lA f l=some r->(∀x∈l,f x=some ((f x).getD x))/\r=l.map fun x=>(f x).getD x
 | [],r,h=>by
  rw[lA] at h;injection h with h
  exact⟨by simp,by rw[<-h];rfl⟩
 | x::l,r,h=>by
  rw[lA] at h;cases c:f x with
  | none=>simp only[c] at h;cases h
  | some a =>
   cases e:lA f l with
   | none=>simp only[c,e] at h;cases h
   | some b =>
    simp only[c,e] at h;injection h with h
    obtain⟨i1,i2⟩:=jH e;refine⟨fun y d=>?_,?_⟩
    ·rcases aaT.1 d with rfl | d
     ·rw[c];rfl
     ·exact i1 y d
    ·rw[aaX,c,<-i2,<-h];rfl
theorem Sy (s:List Ty) (e:∀x∈s,ji x):∀(n:Nat) (t r:Ty),ji t->pA s n t=some r->CallsT P 52 [aV t,.fn 95 [] [.own 1000 0]] [.box 89 [.own 1001 0],.box 93 [.sl (s.map aI),.any,.any]] (aU [.box 89 [.own 1001 0],.box 93 [.sl (s.map aI),.any,.any]] (aV r))
 | 0,t,r,hb,h=>by cases h
 | n+1,t,r,hb,h=>by
  rw[pA] at h;split at h
  ·cases h
  rename_i x he
  by_cases b:x.kind=0
  ·rw[fo (fun q=>q b)] at h;have m:=Xa s t fun a=>by
    rw[eu a] at he;obtain⟨f,c,_⟩:=bP he;exact⟨x,f,c,b⟩
   cases d:lA (pA s n) t.args with
   | none=>simp only[d] at h;cases h
   | some l =>
    simp only[d] at h;injection h with h
    obtain⟨h1,k⟩:=jH d;have hb:=(gu t).1 hb;rw[<-h,k];exact Uq s t (fun x=>(pA s n x).getD x) hb.1 m fun x j=>Sy s e n x _ (hb.2 x j) (h1 x j)
  ·rw[eu b] at h;have a:t.kind=9:=by
    by_cases a:t.kind=9
    ·exact a
    ·rw[fo a] at he;injection he with he
     rw[<-he] at b;exact fL rfl b
   rw[eu a] at he;obtain⟨f,c,_⟩:=bP he;exact Uo s t r (W9 s t x r a f c b (Ut s x r (Sy s e n x r (e x (aaW c)) h)))
theorem YO (s:List Ty) (a:∀x∈s,ji x) (n:Nat) (t r:Ty) (hb:ji t) (h:pA s n t=some r):CallsT P 60 [.own 1000 0,aV t] (uQ s) (aU (uQ s) (aV r)):=Ut s t r (Sy s a n t r hb h)
mutual
def Jd (m:DM):Ty->Ty
 | .mk k i l=>if k=9 then .mk 9 ((br m i).getD 0) [] else .mk k i (VH m l)
def VH (m:DM):List Ty->List Ty
 | []=>[]
 | t::l=>Jd m t::VH m l
end
theorem Hr (m:DM):∀l:List Ty,VH m l=l.map (Jd m)
 | []=>rfl
 | t::l=>by rw[VH,Hr m l];rfl
theorem Sz (m:DM) (t:Ty):Jd m t=if t.kind=9 then .mk 9 ((br m t.id).getD 0) [] else .mk t.kind t.id (t.args.map (Jd m)):=by
 cases t;rw[Jd,Hr];rfl
theorem Uu {i:Int}{m:DM}{Y:C->Prop}{N:Prop}(k1:Y (IC ((br m i).getD 0))) (a:br m i=none->N):xZ false (jl IC m) (IC i) Y N:=by
 cases h:br m i with
 | none=>exact yY h (a h)
 | some x=>rw[h] at k1;exact yX h k1
theorem Xb (m:DM) (t:Ty) (a:t.kind=9):CallsT P 98 [aV t,.own 1000 0] [.box 90 [.mpr 1001],.map (jl IC m)] (aU [.box 90 [.mpr 1001],.map (jl IC m)] (.tup [aV (.mk 9 ((br m t.id).getD 0) []),.bool true])):=by
 refine af Try.func98 G3 rfl fun c _=>?_;refine ah (fun _=>?_) (fun q=>fL a q);refine Uu ?_ (fun b=>?_)
 ·exact bF [1000,1001] rfl rfl rfl rfl
 ·exact bF [1000,1001] rfl rfl rfl (by rw[b];rfl)
theorem Xc (m:DM) (t:Ty) (a:¬t.kind=9):CallsT P 98 [aV t,.own 1000 0] [.box 90 [.mpr 1001],.map (jl IC m)] (aU [.box 90 [.mpr 1001],.map (jl IC m)] (.tup [aV t,.bool false])):=by
 refine af Try.func98 G3 rfl fun b _=>?_;refine ah (fun q=>fL q a) (fun _=>?_);exact bF [1000,1001] rfl rfl rfl rfl
theorem Xd (m:DM):∀t:Ty,ji t->CallsT P 52 [aV t,.fn 98 [] [.own 1000 0]] [.box 90 [.mpr 1001],.map (jl IC m)] (aU [.box 90 [.mpr 1001],.map (jl IC m)] (aV (Jd m t))):=dc fun t c hb=>by
 have hb:=(gu t).1 hb;rw[Sz]
 by_cases a:t.kind=9
 ·rw[eu a];exact Ur m t _ (Xb m t a)
 ·rw[fo a];exact Us m t _ hb.1 (Xc m t a) fun x b=>c x b (hb.2 x b)
def vr (i:Nat):Ty:=.mk 9 i []
def ja (s:List Ty) (n:Nat):Nat->DM->Option DM
 | 0,m=>some m
 | i+1,m=>match aQ s n (vr i) with
  | none=>none
  | some t=>ja s n i (if t.kind=9 then eI m t.id i else m)
def PI (m:DM) (i:Nat) (t:Ty):Ty:=if(Jd m t).kind=9/\(Jd m t).id=i then .mk 0 0 [] else Jd m t
def pV (s:List Ty) (n:Nat) (m:DM):Nat->Option (List Ty)
 | 0=>some []
 | i+1=>match pV s n m i,pA s n (vr i) with
  | some l,some t=>some (l++[PI m i t])
  | _,_=>none
def j3 (s:List Ty) (n:Nat):Option (List Ty):=match ja s n s.length [] with
 | none=>none
 | some m=>pV s n m s.length
theorem CR {s:List Ty}(e:∀x∈s,ji x):∀(n:Nat) (t r:Ty),ji t->pA s n t=some r->ji r
 | 0,t,r,hb,h=>by cases h
 | n+1,t,r,hb,h=>by
  rw[pA] at h;split at h
  ·cases h
  rename_i x he
  by_cases a:x.kind=0
  ·rw[fo (fun q=>q a)] at h;cases d:lA (pA s n) t.args with
   | none=>simp only[d] at h;cases h
   | some l =>
    simp only[d] at h;injection h with h
    obtain⟨h1,j⟩:=jH d;have hb:=(gu t).1 hb;rw[gu,<-h];refine⟨by show l.length<=_;rw[j,vz];exact hb.1,?_⟩;intro y c;have c:y∈l:=c;rw[j] at c;obtain⟨z,f,rfl⟩:=abq.1 c;exact CR e n z _ (hb.2 z f) (h1 z f)
  ·rw[eu a] at h;have b:t.kind=9:=by
    by_cases b:t.kind=9
    ·exact b
    ·rw[fo b] at he;injection he with he
     rw[<-he] at a;exact fL rfl a
   rw[eu b] at he;obtain⟨m,k,_⟩:=bP he;exact CR e n x r (e x (aaW k)) h
theorem LZ (i:Nat):ji (vr i):=(gu _).2 ⟨aa8 _,fun x h=>by cases h⟩
theorem vF {s:List Ty}{n:Nat}{m:DM}:∀{N:Nat}{l:List Ty},pV s n m N=some l->∀i<N,∃c t,pV s n m i=some c/\pA s n (vr i)=some t/\pV s n m (i+1)=some (c++[PI m i t])
 | 0,l,h,i,hi=>fL hi (abz _)
 | N+1,l,h,i,hi=>by
  have a:=h;rw[pV] at a;cases h1:pV s n m N with
  | none=>simp only[h1] at a;cases a
  | some d =>
   cases b:pA s n (vr N) with
   | none=>simp only[h1,b] at a;cases a
   | some t =>
    by_cases e:i=N
    ·subst e;refine⟨d,t,h1,b,?_⟩;rw[pV];simp only[h1,b]
    ·exact vF h1 i (by omega)
theorem El {s:List Ty}{n:Nat}{m:DM}:∀{N:Nat}{l:List Ty},pV s n m N=some l->l.length=N
 | 0,l,h=>by rw[pV] at h;injection h with h;rw[<-h];rfl
 | N+1,l,h=>by
  obtain⟨c,t,h1,b,a⟩:=vF h N (abT _);rw[h] at a;injection a with a
  rw[a,abI,El h1];rfl
theorem FU {s:List Ty}{n j:Nat}{m M:DM}(h:ja s n (j+1) m=some M):∃t,aQ s n (vr j)=some t/\ja s n j (if t.kind=9 then eI m t.id j else m)=some M:=by
 rw[ja] at h;cases hf:aQ s n (vr j) with
 | none=>simp only[hf] at h;cases h
 | some t=>simp only[hf] at h;exact⟨t,rfl,h⟩
theorem Xe (s:List Ty) (n:Nat) (M:DM) (r:List Ty) (hn:s.length<=2 ^ 30) (hs:∀x∈s,ji x) (hm:ja s n s.length []=some M) (hr:pV s n M s.length=some r)
  (aa:∀t r,aQ s n t=some r->CallsT P 96 [.own 1000 0,aV t] (uQ s) (aU (uQ s) (aV r)))
  (v:∀i r,pA s n (vr i)=some r->CallsT P 60 [.own 1000 0,aV (vr i)] (uQ s) (aU (uQ s) (aV r))/\CallsT P 52 [aV r,.fn 98 [] [.own 1000 0]] [.box 90 [.mpr 1001],.map (jl IC M)] (aU [.box 90 [.mpr 1001],.map (jl IC M)] (aV (Jd M r)))) :
  CallsT P 65 [.own 1000 0] (uQ s) (aU (uQ s) (.sl (r.map aI))):=by
 have p:(s.map aI).length=s.length:=vz _;refine af Try.func65 OY rfl fun hw _=>?_;refine Fit.aaf (by omega) (by omega) ?_;refine AU.mk ⟨Nat×DM,(s.length,[]),fun x=>x.1<=s.length/\ja s n x.1 x.2=some M,[4],fun x=>[IC ((x.1:Int)-1)],fun x=>[(3,.box 90 [.mpr 9]),(9,.map (jl IC x.2)),(1000,.box 93 [.sl (s.map aI),.any,.any])],fun x=>x.1,⟨aa0 _,hm⟩,⟨.inr (.inl ⟨vv IC (by rw[p]),rfl⟩),trivial⟩,
  ⟨.inl ⟨_,rfl,.inl ⟨rfl,rfl⟩⟩,.inl ⟨_,rfl,.inl ⟨rfl,rfl⟩⟩,.inl ⟨_,rfl,.inl ⟨rfl,rfl⟩⟩,trivial⟩,fun _=>rfl,fun _=>rfl,?_⟩
 rintro⟨j,m⟩ ⟨hj,c⟩ _ _;refine ah (fun h=>?_) (fun b=>?_)
 ·have w:∃i,j=i+1:=⟨j-1,by have:((j:Int)-1)>=0:=h;omega⟩;refine ul w fun i hi=>?_;have ab:(C.agg [IC 9,IC ((j:Int)-1),.sl []])=aV (vr i):=by rw[hi];show C.agg _=C.agg [IC 9,IC (i:Int),.sl []];congr 3;congr 1;omega
  have c:ja s n (i+1) m=some M:=by rw[<-hi];exact c
  refine ul (FU c) fun t d=>?_;refine callO [1000] [1000] (aa (vr i) t d.1) rfl rfl (by rw[<-ab];rfl) rfl rfl fun _ _=>?_;refine ah (fun y=>?_) (fun y=>?_)
  ·refine I4 (f:=IC) (x:=(j:Int)-1) rfl ?_;refine Fit.aaf (by omega) (by omega) ?_;refine⟨(i,eI m t.id i),⟨by omega,by have:=d.2;rw[eu y] at this;exact this⟩,⟨.inr (.inl ⟨vv IC (by show(j:Int)-1-1=(i:Int)-1;omega),rfl⟩),trivial⟩,⟨.inl ⟨_,rfl,.inl ⟨rfl,rfl⟩⟩,.inl ⟨_,rfl,.inl ⟨?_,rfl⟩⟩,.inl ⟨_,rfl,.inl ⟨rfl,rfl⟩⟩,trivial⟩,by show i<j;omega⟩;exact vv (fun q=>TO.map (jl IC (eI m t.id q))) (show(j:Int)-1=(i:Int) by omega)
  ·refine Fit.aaf (by omega) (by omega) ?_;exact⟨(i,m),⟨by omega,by have:=d.2;rw[fo y] at this;exact this⟩,⟨.inr (.inl ⟨vv IC (by show(j:Int)-1-1=(i:Int)-1;omega),rfl⟩),trivial⟩,⟨.inl ⟨_,rfl,.inl ⟨rfl,rfl⟩⟩,.inl ⟨_,rfl,.inl ⟨rfl,rfl⟩⟩,.inl ⟨_,rfl,.inl ⟨rfl,rfl⟩⟩,trivial⟩,by show i<j;omega⟩
 ·have ae:j=0:=by have:¬((j:Int)-1)>=0:=b;omega
  have ac:m=M:=by rw[ae,ja] at c;exact abr c
  refine bX s.length 36 [6] ([]:List Ty) (fun _=>[.rw 58]) (fun l=>[(3,.box 90 [.mpr 9]),(9,.map (jl IC M)),(58,.row 32 3 (l.map aI)),(1000,.box 93 [.sl (s.map aI),.any,.any])]) (fun k l=>pV s n M k=some l) rfl (ai rfl) ⟨.inr (.inr (.inr (.inl ⟨rfl,58,32,3,rfl,rfl,rfl⟩))),trivial⟩
   ⟨.inl ⟨_,rfl,.inl ⟨rfl,rfl⟩⟩,.inl ⟨_,rfl,.inl ⟨vv (fun q=>TO.map (jl IC q)) ac,rfl⟩⟩,.inr ⟨rfl,32,3,rfl⟩,.inl ⟨_,rfl,.inl ⟨rfl,rfl⟩⟩,trivial⟩ (fun _=>rfl) (fun _=>rfl) ?_
  rintro k l hk a _ _ _;refine ah (fun b=>?_) (fun h=>?_)
  ·have b:k<s.length:=by rw[p] at b;omega
   refine ul (vF hr k b) fun l' hl=>ul hl fun t d=>?_;have u:l=l':=by rw[a] at d;exact abr d.1
   have o:(l.map aI).length=k:=by rw[vz];exact El a
   refine callO [1000] [1000] (v k t d.2.1).1 rfl rfl rfl rfl rfl fun _ _=>?_;refine callO [3,9] [3,9] (v k t d.2.1).2 rfl rfl rfl rfl rfl fun _ _=>?_;refine ah (fun h1=>ah (fun h2=>?_) (fun h2=>?_)) (fun h1=>?_)
   ·have e:PI M k t=.mk 0 0 []:=eu ⟨h1,h2⟩;refine rV k rfl o (by decide) (by omega) ?_;refine Fit.aaf (by omega) (by omega) ?_;exact⟨(k+1,l++[.mk 0 0 []]),⟨b,by rw[d.2.2,e,u]⟩,⟨bM,ai rfl,trivial⟩,⟨.inl ⟨_,rfl,.inl ⟨rfl,rfl⟩⟩,.inl ⟨_,rfl,.inl ⟨rfl,rfl⟩⟩,.inl ⟨_,rfl,.inl ⟨Ei (I3 (f:=.mk 0 0 [])),rfl⟩⟩,.inl ⟨_,rfl,.inl ⟨rfl,rfl⟩⟩,trivial⟩,bN b⟩
   all_goals
    have e:PI M k t=Jd M t:=fo (fun q=>by first | exact h2 q.2 | exact h1 q.1);refine rV k rfl o (by decide) (by omega) ?_;refine Fit.aaf (by omega) (by omega) ?_;exact⟨(k+1,l++[Jd M t]),⟨b,by rw[d.2.2,e,u]⟩,⟨bM,ai rfl,trivial⟩,⟨.inl ⟨_,rfl,.inl ⟨rfl,rfl⟩⟩,.inl ⟨_,rfl,.inl ⟨rfl,rfl⟩⟩,.inl ⟨_,rfl,.inl ⟨Ei (I3 (f:=Jd M t)),rfl⟩⟩,.inl ⟨_,rfl,.inl ⟨rfl,rfl⟩⟩,trivial⟩,bN b⟩
  ·have h:¬k<s.length:=by rw[p] at h;omega
   have z:k=s.length:=by omega
   have e:l=r:=by rw[z,hr] at a;exact(abr a).symm
   exact IG [58] [1000] ⟨_,_,rfl,rfl,rfl,rfl,WN (by rw[e])⟩
theorem t65 (s:List Ty) (n:Nat) (r:List Ty) (c:s.length<=2 ^ 30) (b:∀x∈s,ji x) (h:j3 s n=some r):CallsT P 65 [.own 1000 0] (uQ s) (aU (uQ s) (.sl (r.map aI))):=by
 unfold j3 at h;cases a:ja s n s.length [] with
 | none=>simp only[a] at h;cases h
 | some M =>
  simp only[a] at h;exact Xe s n M r c b a h (fun t r q=>Ul s n t r q) fun i r q=>⟨YO s b n (vr i) r (LZ i) q,Xd M r (CR b n (vr i) r (LZ i) q)⟩
def eS (n:Int) (t:Ty):Bool:=if t.kind=0 then decide (t.id=0)&&decide (t.args.length=0) else ins n t
def dI (s:List Ty) (n:Nat):Nat->Option (Option (Bool×DM×OM))
 | 0=>some (some (false,[],[]))
 | i+1=>match dI s n i with
  | some (some (b,d,o))=>match bI s n (vr i) d o with
   | some (some (k,a,o'))=>some (some (b||decide (k>8),a,o'))
   | some none=>some none
   | none=>none
  | some none=>some none
  | none=>none
def bJ (s:List Ty) (n:Nat):Option (Option (DM×OM)) :=
 if s.all (eS s.length) then(match dI s n s.length with
  | some (some (b,d,o))=>if b then some none else some (some (d,o))
  | some none=>some none
  | none=>none) else some none
def RF (s:List Ty) (r:Option (DM×OM)):List TO->C->Prop:=fun Mo v=>∃d o,r=some (d,o)/\Mo=Jw s d o/\v=.tup []
def PF (e:Int) (r:Option (DM×OM)):Value->Prop:=fun v=>r=none/\∃a,(a=1\/a=e)/\v=cH a
def Em (s:List Ty) (e:Int) (r:Option (DM×OM)):Prop:=CallsTX P 58 [.own 1000 0,IC e] (pL s) (RF s r) (PF e r)
section
variable {L:TL}{ρ:aM}
theorem CS (ks ko:List Nat) {PS:nU}{args:List C}{K:TL->aM->C->Prop}{s:List Ty}{e:Int}{r:Option (DM×OM)}{Lin:List TO}(h:Em s e r) (m:L.sub ks=some Lin)
  (a:(T.aS ks&&T.aS ko&&T.jI L ks ko&&aK Lin ks ko&&jJ L ks PS.hb)=true) (q:(args.map fun c=>c.aaj.ren (bB ks 1000))=[.own 1000 0,IC e]) (j:Lin.map (TO.aad (C.ren (bB ks 1000)))=pL s) (t:ko.length=4) (p:∀v,PF e r v->PS.ps v)
  (k:∀d o,r=some (d,o)->K (((L.aae ks).kills (rowsOf L ks)).puts ko ((Jw s d o).map (TO.aad (C.ren (aJ ko))))) (dF (rowsOf L ks) ρ) (.tup [])):lq P PS 58 args L ρ K:=by
 simp only[v5] at a;obtain⟨⟨⟨⟨b,l⟩,c3⟩,c4⟩,c5⟩:=a;refine⟨[],ks,ko,L,Lin,_,_,.inl rfl,m,b,l,c3,c4,c5,by rw[j,q];exact h,p,?_⟩;rintro v Mo ⟨d,o,n,rfl,rfl⟩ u f;exact⟨t,k d o n⟩
end
abbrev wG (t:Ty):List C:=[IC t.kind,IC t.id,.sl (t.args.map aI)]
abbrev LU (s:List Ty):List TO:=[.box 89 [.own 1001 0],.box 93 [.rw 1002,.any,.any],.row 32 3 (s.map aI)]
def nD (s:List Ty) (a b:Ty):Bool:=ins s.length a&&ins s.length b&&!decide (max (cu a) (cu b)>8)
def L5 (n:Nat) (s:List Ty) (a b:Ty) (s':List Ty):Prop :=
 (∃d o,bJ s n=some (some (d,o)))/\nD s a b=true/\lQ n s a b=some (some s')/\∃d o k c o',bJ s' n=some (some (d,o))/\bI s' n a d o=some (some (k,c,o'))/\k<=8
def Q6 (n:Nat) (s:List Ty) (a b:Ty) (e:Int):Prop :=
 (bJ s n=some none/\e=1)\/((∃d o,bJ s n=some (some (d,o)))/\((nD s a b=false/\e=1)\/(nD s a b=true/\((lQ n s a b=some none/\e=8) \/
  ∃s',lQ n s a b=some (some s')/\(e=1\/e=2)/\(bJ s' n=some none\/∃d o,bJ s' n=some (some (d,o))/\(bI s' n a d o=some none\/∃k c o',bI s' n a d o=some (some (k,c,o'))/\k>8))))))
structure Fuel (n:Nat) (s:List Ty) (a b:Ty):Prop where
 form:∃r,bJ s n=some r
 eq:(∃d o,bJ s n=some (some (d,o)))->nD s a b=true->∃r,lQ n s a b=some r
 form':(∃d o,bJ s n=some (some (d,o)))->nD s a b=true->∀s',lQ n s a b=some (some s')->∃r,bJ s' n=some r
 deep:(∃d o,bJ s n=some (some (d,o)))->nD s a b=true->∀s',lQ n s a b=some (some s')->∀d o,bJ s' n=some (some (d,o))->∃r,bI s' n a d o=some r
def RU (n:Nat) (s:List Ty) (a b:Ty):List TO->C->Prop:=fun Mo v=>∃s',L5 n s a b s'/\Mo=LU s'/\v=.tup []
def PU (n:Nat) (s:List Ty) (a b:Ty):Value->Prop:=fun v=>∃e,Q6 n s a b e/\v=cH e
abbrev L9 (s:List Ty) (a b:Ty) (R:List TO->C->Prop) (Pp:Value->Prop):Prop:=CallsTX P 62 [.own 1000 0,.pt (wG a) 0,.pt (wG b) 0] (LU s) R Pp
theorem PJ (n:Nat) (s:List Ty) (a b:Ty) (h1:bJ s n=some none) (hf:∀s e r,bJ s n=some r->Em s e r):L9 s a b (RU n s a b) (PU n s a b):=by
 refine bf Try.func62 CA rfl fun f _=>?_;refine CS [1001,1002] [1001,1002,2003,2004] (hf s 1 none h1) rfl rfl rfl rfl rfl (fun v q=>?_) fun d o e=>by cases e
 exact q.2.elim fun c he=>⟨c,.inl ⟨h1,by omega⟩,he.2⟩
theorem PK (n:Nat) (s:List Ty) (a b:Ty) (d:DM) (o:OM) (h1:bJ s n=some (some (d,o))) (hf:∀s e r,bJ s n=some r->Em s e r) (u:nD s a b=false) (m:cu a<=2 ^ 40) (k:cu b<=2 ^ 40):L9 s a b (RU n s a b) (PU n s a b):=by
 have p:=TT a m;have h:=TT b k;have j:=fun D O t=>QX s D O t;have c:PU n s a b (cH 1):=⟨1,.inr ⟨⟨d,o,h1⟩,.inl ⟨u,rfl⟩⟩,rfl⟩;have x:nD s a b=(ins s.length a&&ins s.length b&&!decide (max (cu a) (cu b)>8)):=rfl;rw[x] at u;generalize PU n s a b=Q at c ⊢;generalize RU n s a b=R;have w:=hf s 1 _ h1;generalize cu a=z at *;generalize cu b=y at *;refine bf Try.func62 CA rfl fun hw _=>?_;refine CS [1001,1002] [1001,1002,2003,2004] w rfl rfl rfl rfl rfl (fun v q=>by cases q.1) fun d o e=>?_;refine yI [1001,1002,2003,2004] [1001,1002,2003,2004] (j _ _ a) rfl rfl rfl rfl rfl fun _ _=>?_;refine aq (fun l=>?_) (fun l=>?_)
 ·exact pO rfl c
 refine yI [1001,1002,2003,2004] [1001,1002,2003,2004] (j _ _ b) rfl rfl rfl rfl rfl fun _ _=>?_;refine aq (fun hb=>?_) (fun hb=>?_)
 ·exact pO rfl c
 refine bD p rfl fun _=>?_;refine bD h rfl fun _=>?_;refine⟨?_,?_⟩
 ·exact VE (a:=z) (b:=y) m k
 refine ah (fun aa=>?_) (fun f=>?_)
 ·exact pO rfl c
 ·have f:¬(if(y:Int)>(z:Int) then(y:Int) else(z:Int))>8:=f;have l:(!ins s.length a)=false:=l;have hb:(!ins s.length b)=false:=hb;rw[Bool.not_eq_false'] at l hb;rw[l,hb,aaS,aaS,Bool.not_eq_false',aaZ] at u;exact fL u (by split at f<;>omega)
theorem SA (n:Nat) (s:List Ty) (a b:Ty) (d:DM) (o:OM) (h1:bJ s n=some (some (d,o))) (hf:∀s e r,bJ s n=some r->Em s e r) (j:nD s a b=true) (am:cu a<=2 ^ 40) (ag:cu b<=2 ^ 40)
  (r:Option (List Ty)) (hr:lQ n s a b=some r) (av:sP s a b (RE r) (PE r)) (aw:∀s',r=some s'->∃u,bJ s' n=some u/\Em s' 2 u) (az:∀s',r=some s'->∀d o,bJ s' n=some (some (d,o))->∃u,bI s' n a d o=some u/\Pz s' a d o (LV s' u) (PD u)):L9 s a b (RU n s a b) (PU n s a b):=by
 have x:=TT a am;have ac:=TT b ag;have ad:=fun D O t=>QX s D O t;have h0:∃d o,bJ s n=some (some (d,o)):=⟨d,o,h1⟩;have ae:r=none->PU n s a b (cH 8):=fun e=>⟨8,.inr ⟨h0,.inr ⟨j,.inl ⟨by rw[hr,e],rfl⟩⟩⟩,rfl⟩;have w:∀s',r=some s'->bJ s' n=some none->∀e,(e=1\/e=2)->PU n s a b (cH e):=fun s' e c k f=>⟨k,.inr ⟨h0,.inr ⟨j,.inr ⟨s',by rw[hr,e],f,.inl c⟩⟩⟩,rfl⟩;have ab:∀s',r=some s'->∀d o,bJ s' n=some (some (d,o))->bI s' n a d o=some none->PU n s a b (cH 1):=fun s' e d o c f=>⟨1,.inr ⟨h0,.inr ⟨j,.inr ⟨s',by rw[hr,e],.inl rfl,.inr ⟨d,o,c,.inl f⟩⟩⟩⟩,rfl⟩;have y:∀s',r=some s'->∀d o,bJ s' n=some (some (d,o))->∀k h o',bI s' n a d o=some (some (k,h,o'))->k>8->PU n s a b (cH 2):=fun s' e d o c k h o' f z=>⟨2,.inr ⟨h0,.inr ⟨j,.inr ⟨s',by rw[hr,e],.inr rfl,.inr ⟨d,o,c,.inr ⟨k,h,o',f,z⟩⟩⟩⟩⟩,rfl⟩;have aa:∀s',r=some s'->∀d o,bJ s' n=some (some (d,o))->∀k h o',bI s' n a d o=some (some (k,h,o'))->¬k>8->RU n s a b (LU s') (.tup []):=fun s' e d o c k h o' f z=>⟨s',⟨h0,j,by rw[hr,e],d,o,k,h,o',c,f,by omega⟩,rfl,rfl⟩;have ar:nD s a b=(ins s.length a&&ins s.length b&&!decide (max (cu a) (cu b)>8)):=rfl;rw[ar] at j;generalize PU n s a b=Q at ae w ab y ⊢;generalize RU n s a b=R at aa ⊢;have ao:=hf s 1 _ h1;generalize cu a=da at *;generalize cu b=db at *;simp only[v5,Bool.not_eq_true',abY] at j;refine bf Try.func62 CA rfl fun hw _=>?_;refine CS [1001,1002] [1001,1002,2003,2004] ao rfl rfl rfl rfl rfl (fun v q=>by cases q.1) fun d o e=>?_;refine yI [1001,1002,2003,2004] [1001,1002,2003,2004] (ad _ _ a) rfl rfl rfl rfl rfl fun _ _=>?_;refine aq (fun ha=>fL (show(!ins s.length a)=true from ha) (by rw[j.1.1];exact aa7)) (fun ha=>?_);refine yI [1001,1002,2003,2004] [1001,1002,2003,2004] (ad _ _ b) rfl rfl rfl rfl rfl fun _ _=>?_;refine aq (fun ha=>fL (show(!ins s.length b)=true from ha) (by rw[j.1.2];exact aa7)) (fun hb=>?_);refine bD x rfl fun _=>?_;refine bD ac rfl fun _=>?_;refine⟨?_,?_⟩
 ·exact VE (a:=da) (b:=db) am ag
 refine ah (fun p=>?_) (fun bb=>?_)
 ·have p:(if(db:Int)>(da:Int) then(db:Int) else(da:Int))>8:=p;have h8:=j.2;exact fL p (by split<;>omega)
 refine QY [1001,1002] av rfl rfl rfl rfl rfl (fun v q=>?_) fun s' e=>?_
 ·exact q.2▸ae q.1
 refine ul (aw s' e) fun u m=>?_;refine CS [1001,1002] [1001,1002,2005,2006] m.2 rfl rfl rfl rfl rfl (fun v q=>?_) fun d o e2=>?_
 ·exact q.2.elim fun e' he=>he.2▸w s' e (by rw[m.1,q.1]) e' he.1
 have c:bJ s' n=some (some (d,o)):=by rw[m.1,e2]
 refine ul (az s' e d o c) fun rd l=>?_;refine CQ [1001,1002,2005,2006] l.2 rfl rfl rfl rfl rfl (fun v q=>?_) fun k h o' e3 _=>?_
 ·exact q.2▸ab s' e d o c (by rw[l.1,q.1])
 refine ah (fun f=>?_) (fun f=>?_)
 ·exact pO rfl (y s' e d o c k h o' (by rw[l.1,e3]) f)
 ·exact pU [1000,1001,1002] rfl rfl rfl rfl (aa s' e d o c k h o' (by rw[l.1,e3]) f)
theorem t62 (n:Nat) (s:List Ty) (a b:Ty) (F:Fuel n s a b) (hf:∀s e r,bJ s n=some r->Em s e r) (k:cu a<=2 ^ 40) (j:cu b<=2 ^ 40):L9 s a b (RU n s a b) (PU n s a b):=by
 obtain⟨r,h1⟩:=F.form;cases r with
 | none=>exact PJ n s a b h1 hf
 | some r =>
  obtain⟨d,o⟩:=r;have h0:∃d o,bJ s n=some (some (d,o)):=⟨d,o,h1⟩;cases f:nD s a b with
  | false=>exact PK n s a b d o h1 hf f k j
  | true =>
   obtain⟨r,l⟩:=F.eq h0 f;refine SA n s a b d o h1 hf f k j r l (W8 n s a b r l) (fun s' e=>?_) fun s' e d o m=>?_
   ·obtain⟨c,h⟩:=F.form' h0 f s' (by rw[l,e]);exact⟨c,h,hf s' 2 c h⟩
   ·obtain⟨c,h⟩:=F.deep h0 f s' (by rw[l,e]) d o m;exact⟨c,h,Hq s' n a d o c h⟩
theorem vG {f g:Ty->Option Bool}:∀{l:List Ty}{b:Bool},(∀x∈l,∀b,f x=some b->g x=some b)->wF f l=some b->wF g l=some b
 | [],b,_,h=>h
 | x::l,b,hf,h=>by
  rw[wF] at h ⊢;cases d:f x with
  | none=>simp only[d] at h;cases h
  | some a =>
   cases e:wF f l with
   | none=>simp only[d,e] at h;cases h
   | some c =>
    simp only[d,e] at h;simp only[hf x (by simp) a d,vG (fun y j=>hf y (by simp[j])) e];exact h
theorem Bt {f g:Ty->Option Ty}:∀{l r:List Ty},(∀x∈l,∀b,f x=some b->g x=some b)->lA f l=some r->lA g l=some r
 | [],b,_,h=>h
 | x::l,b,hf,h=>by
  rw[lA] at h ⊢;cases d:f x with
  | none=>simp only[d] at h;cases h
  | some a =>
   cases e:lA f l with
   | none=>simp only[d,e] at h;cases h
   | some c =>
    simp only[d,e] at h;simp only[hf x (by simp) a d,Bt (fun y j=>hf y (by simp[j])) e];exact h
theorem rF {f g:List Ty->Ty->Ty->Option (Option (List Ty))}:∀{l c:List Ty}{s:List Ty}{r:Option (List Ty)},(∀s x y b,f s x y=some b->g s x y=some b)->kH f s l c=some r->kH g s l c=some r
 | [],c,s,r,_,h=>h
 | x::l,[],s,r,_,h=>h
 | x::l,y::c,s,r,hf,h=>by
  rw[kH] at h ⊢;cases d:f s x y with
  | none=>simp only[d] at h;cases h
  | some a =>
   simp only[d] at h;simp only[hf s x y a d];cases a with
   | none=>exact h
   | some s'=>exact rF hf h
theorem sQ {f g:Ty->DM->OM->Option (Option (Int×DM×OM))}:∀{l:List Ty}{k:Int}{d:DM}{o:OM}{r:Option (Int×DM×OM)},(∀x d o b,f x d o=some b->g x d o=some b)->eH f l k d o=some r->eH g l k d o=some r
 | [],k,d,o,r,_,h=>h
 | x::l,k,d,o,r,hf,h=>by
  rw[eH] at h ⊢;cases c:f x d o with
  | none=>simp only[c] at h;cases h
  | some a =>
   simp only[c] at h;simp only[hf x d o a c];cases a with
   | none=>exact h
   | some p=>exact sQ hf h
theorem dJ {s:List Ty}:∀{n m:Nat}{t r:Ty},n<=m->aQ s n t=some r->aQ s m t=some r
 | 0,m,t,r,_,h=>by cases h
 | n+1,0,t,r,a,h=>fL a (by omega)
 | n+1,m+1,t,r,a,h=>by
  rw[aQ] at h ⊢
  by_cases c:t.kind=9
  ·rw[eu c] at h ⊢;cases he:bW s t with
   | none=>rw[he] at h;cases h
   | some x =>
    rw[he] at h;simp only at h ⊢
    by_cases b:x.kind=0
    ·rw[eu b] at h ⊢;exact h
    ·rw[fo b] at h ⊢;exact dJ (by omega) h
  ·rw[fo c] at h ⊢;exact h
theorem mL {s:List Ty}{v:Int}:∀{n m:Nat}{t:Ty}{r:Bool},n<=m->lm s v n t=some r->lm s v m t=some r
 | 0,m,t,r,_,h=>by cases h
 | n+1,0,t,r,a,h=>fL a (by omega)
 | n+1,m+1,t,r,a,h=>by
  rw[lm] at h ⊢;cases hf:aQ s n t with
  | none=>rw[hf] at h;cases h
  | some d =>
   rw[hf] at h;rw[dJ (by omega) hf];simp only at h ⊢
   by_cases c:d.kind=9
   ·rw[eu c] at h ⊢;exact h
   ·rw[fo c] at h ⊢;exact vG (fun x _ b hb=>mL (by omega) hb) h
theorem m9 {s:List Ty}:∀{n m:Nat}{t r:Ty},n<=m->pA s n t=some r->pA s m t=some r
 | 0,m,t,r,_,h=>by cases h
 | n+1,0,t,r,c,h=>fL c (by omega)
 | n+1,m+1,t,r,c,h=>by
  rw[pA] at h ⊢;cases he:(if t.kind=9 then bW s t else some (.mk 0 0 [])) with
  | none=>simp only[he] at h;cases h
  | some x =>
   simp only[he] at h ⊢
   by_cases d:x.kind=0
   ·rw[fo (fun q=>q d)] at h ⊢;cases a:lA (pA s n) t.args with
    | none=>simp only[a] at h;cases h
    | some l =>
     simp only[a] at h;simp only[Bt (g:=pA s m) (fun x _ b hb=>m9 (by omega) hb) a];exact h
   ·rw[eu d] at h ⊢;exact m9 (by omega) h
theorem ic:∀{n m:Nat}{s:List Ty}{a b:Ty}{r:Option (List Ty)},n<=m->lQ n s a b=some r->lQ m s a b=some r
 | 0,m,s,a,b,r,_,h=>by cases h
 | n+1,0,s,a,b,r,k,h=>fL k (by omega)
 | n+1,m+1,s,a,b,r,k,h=>by
  rw[lQ] at h ⊢;cases c:aQ s n a with
  | none=>simp only[c] at h;cases h
  | some a' =>
   cases hb:aQ s n b with
   | none=>simp only[c,hb] at h;cases h
   | some f =>
    simp only[c,hb] at h;simp only[dJ (show n<=m by omega) c,dJ (show n<=m by omega) hb]
    by_cases h1:a'.kind=9/\f.kind=9
    ·rw[eu h1] at h ⊢;exact h
    rw[fo h1] at h ⊢
    by_cases l:a'.kind=9
    ·rw[eu l] at h ⊢;cases d:lm s a'.id n f with
     | none=>rw[d] at h;cases h
     | some q=>rw[d] at h;rw[mL (show n<=m by omega) d];exact h
    rw[fo l] at h ⊢
    by_cases j:f.kind=9
    ·rw[eu j] at h ⊢;exact ic (by omega) h
    rw[fo j] at h ⊢;split at h
    ·rename_i e;rw[eu e];exact h
    ·rename_i e;rw[fo e];exact rF (fun s x y b o=>ic (by omega) o) h
theorem gW {s:List Ty}:∀{n m:Nat}{t:Ty}{d:DM}{o:OM}{r:Option (Int×DM×OM)},n<=m->bI s n t d o=some r->bI s m t d o=some r
 | 0,m,t,d,o,r,_,h=>by cases h
 | n+1,0,t,d,o,r,p,h=>fL p (by omega)
 | n+1,m+1,t,d,o,r,p,h=>by
  rw[bI] at h ⊢;cases he:(if t.kind=9 then bW s t else some (.mk 0 0 [])) with
  | none=>simp only[he] at h;cases h
  | some x =>
   simp only[he] at h ⊢
   by_cases l:x.kind=0
   ·rw[fo (fun q=>q l)] at h ⊢;cases c:eH (bI s n) t.args 0 d o with
    | none=>simp only[c] at h;cases h
    | some q =>
     simp only[c] at h;simp only[sQ (g:=bI s m) (fun x d o b hb=>gW (by omega) hb) c];exact h
   ·rw[eu l] at h ⊢;cases j:br d t.id with
    | some k=>simp only[j] at h ⊢;exact h
    | none =>
     simp only[j] at h ⊢;have key:∀{X:Option (Option (Int×DM×OM))},bI s n x d (eI o t.id true)=X->X≠none->bI s m x d (eI o t.id true)=X:=by
      intro X e v;cases X with
      | none=>exact fL rfl v
      | some q=>exact gW (by omega) e
     cases f:br o t.id with
     | none =>
      simp only[f] at h ⊢;cases a:bI s n x d (eI o t.id true) with
      | none=>simp only[a] at h;cases h
      | some q=>simp only[a] at h;simp only[key a (by simp)];exact h
     | some u =>
      cases u with
      | true=>simp only[f] at h ⊢;exact h
      | false =>
       simp only[f] at h ⊢;cases a:bI s n x d (eI o t.id true) with
       | none=>simp only[a] at h;cases h
       | some q=>simp only[a] at h;simp only[key a (by simp)];exact h
theorem pD {s:List Ty}{n m:Nat}(c:n<=m):∀{i:Nat}{r:Option (Bool×DM×OM)},dI s n i=some r->dI s m i=some r
 | 0,r,h=>h
 | i+1,r,h=>by
  rw[dI] at h ⊢;cases hf:dI s n i with
  | none=>simp only[hf] at h;cases h
  | some q =>
   simp only[hf] at h;simp only[pD c hf];cases q with
   | none=>exact h
   | some p =>
    obtain⟨b,d,o⟩:=p;simp only at h ⊢;cases a:bI s n (vr i) d o with
    | none=>simp only[a] at h;cases h
    | some q=>simp only[a] at h;simp only[gW c a];exact h
theorem kI {s:List Ty}{n m:Nat}(b:n<=m) {r:Option (DM×OM)}(h:bJ s n=some r):bJ s m=some r:=by
 unfold bJ at h ⊢;split
 ·rename_i a;rw[eu a] at h;cases hf:dI s n s.length with
  | none=>simp only[hf] at h;cases h
  | some q=>simp only[hf] at h;simp only[pD b hf];exact h
 ·rename_i a;rw[fo a] at h;exact h
theorem sS {s:List Ty}{n m:Nat}(a:n<=m):∀{i:Nat}{d r:DM},ja s n i d=some r->ja s m i d=some r
 | 0,d,r,h=>h
 | i+1,d,r,h=>by
  rw[ja] at h ⊢;cases hf:aQ s n (vr i) with
  | none=>simp only[hf] at h;cases h
  | some t=>simp only[hf] at h;simp only[dJ a hf];exact sS a h
theorem vH {s:List Ty}{n m:Nat}(b:n<=m) {d:DM}:∀{i:Nat}{r:List Ty},pV s n d i=some r->pV s m d i=some r
 | 0,r,h=>h
 | i+1,r,h=>by
  rw[pV] at h ⊢;cases a:pV s n d i with
  | none=>simp only[a] at h;cases h
  | some l =>
   cases hf:pA s n (vr i) with
   | none=>simp only[a,hf] at h;cases h
   | some t=>simp only[a,hf] at h;simp only[vH b a,m9 b hf];exact h
theorem sU {s:List Ty}{n m:Nat}(b:n<=m) {r:List Ty}(h:j3 s n=some r):j3 s m=some r:=by
 unfold j3 at h ⊢;cases a:ja s n s.length [] with
 | none=>simp only[a] at h;cases h
 | some d=>simp only[a] at h;simp only[sS b a];exact vH b h
theorem oq {c d:Type}{f:Nat->c->Option d}(b:∀{n m:Nat}{x:c}{r:d},n<=m->f n x=some r->f m x=some r):∀{l:List c},(∀x∈l,∃n r,f n x=some r)->∃n,∀x∈l,∃r,f n x=some r
 | [],_=>⟨0,fun x h=>by cases h⟩
 | x::l,h=>by
  obtain⟨n,h1⟩:=oq (f:=f) b (l:=l) fun y a=>h y (by simp[a]);obtain⟨k,r,j⟩:=h x (by simp);refine⟨max n k,fun y a=>?_⟩;rcases aaT.1 a with rfl | a
  ·exact⟨r,b (Nat.le_max_right _ _) j⟩
  ·obtain⟨r,e⟩:=h1 y a;exact⟨r,b (Nat.le_max_left _ _) e⟩
theorem Hs {f:Ty->Option Bool}:∀{l:List Ty},(∀x∈l,∃b,f x=some b)->∃b,wF f l=some b
 | [],_=>⟨false,rfl⟩
 | x::l,h=>by
  obtain⟨a,h1⟩:=h x (by simp);obtain⟨b,d⟩:=Hs (l:=l) fun y c=>h y (by simp[c]);exact⟨a||b,by rw[wF,h1,d]⟩
theorem w9 {f:Ty->Option Ty}:∀{l:List Ty},(∀x∈l,∃b,f x=some b)->∃b,lA f l=some b
 | [],_=>⟨[],rfl⟩
 | x::l,h=>by
  obtain⟨a,h1⟩:=h x (by simp);obtain⟨b,d⟩:=w9 (l:=l) fun y c=>h y (by simp[c]);exact⟨a::b,by rw[lA,h1,d]⟩
inductive j8 (s:List Ty):Ty->Prop
 | step {t x:Ty}(h9:t.kind=9) (he:bW s t=some x) (hk:¬x.kind=0) (h:j8 s x):j8 s t
 | stop {t x:Ty}(h9:t.kind=9) (he:bW s t=some x) (hk:x.kind=0) (h:∀y∈t.args,j8 s y):j8 s t
 | arg {t:Ty}(h9:¬t.kind=9) (h:∀y∈t.args,j8 s y):j8 s t
theorem j8.front {s:List Ty}{t:Ty}(h:j8 s t):∃n r,aQ s n t=some r:=by
 induction h with
 | step a he b _ c =>
  obtain⟨n,r,h⟩:=c;exact⟨n+1,r,by rw[aQ,eu a,he];simp only;rw[fo b];exact h⟩
 | stop a he b _ _=>exact⟨1,_,by rw[aQ,eu a,he];simp only;rw[eu b]⟩
 | arg a _ _=>exact⟨1,_,by rw[aQ,fo a]⟩
theorem j8.ap {s:List Ty}{t:Ty}(h:j8 s t):∃n r,pA s n t=some r:=by
 induction h with
 | step b he d _ a =>
  obtain⟨n,r,h⟩:=a;exact⟨n+1,r,by rw[pA,eu b,he];simp only;rw[eu d];exact h⟩
 | stop b he d _ a =>
  obtain⟨n,h⟩:=oq (f:=pA s) m9 a;obtain⟨l,c⟩:=w9 h;exact⟨n+1,_,by rw[pA,eu b,he];simp only;rw[fo (fun q=>q d),c]⟩
 | arg b _ a =>
  obtain⟨n,h⟩:=oq (f:=pA s) m9 a;obtain⟨l,c⟩:=w9 h;exact⟨n+1,_,by rw[pA,fo b];simp only;rw[fo (fun q=>q rfl),c]⟩
theorem j8.occ {s:List Ty}(v:Int) {t:Ty}(h:j8 s t):∃n r,lm s v n t=some r:=by
 induction h with
 | @step t x a he c _ d =>
  obtain⟨n,r,h⟩:=d;cases n with
  | zero=>cases h
  | succ n =>
   refine⟨n+2,r,?_⟩;rw[lm] at h ⊢;have e:aQ s (n+1) t=aQ s n x:=by rw[aQ,eu a,he];simp only;rw[fo c]
   rw[e];cases hf:aQ s n x with
   | none=>rw[hf] at h;cases h
   | some j =>
    rw[hf] at h;simp only at h ⊢
    by_cases a:j.kind=9
    ·rw[eu a] at h ⊢;exact h
    ·rw[fo a] at h ⊢;exact vG (fun x _ b hb=>mL (Nat.le_succ _) hb) h
 | @stop t x a he c _ _ =>
  exact⟨2,_,by rw[lm,aQ,eu a,he];simp only;rw[eu c];simp only;rw[eu a]⟩
 | @arg t a _ d =>
  obtain⟨n,h⟩:=oq (f:=lm s v) mL d;have h:∀x∈t.args,∃b,lm s v (n+1) x=some b:=fun x k=>by
   obtain⟨b,hb⟩:=h x k;exact⟨b,mL (Nat.le_succ _) hb⟩
  obtain⟨b,hb⟩:=Hs h;exact⟨n+2,b,by rw[lm,aQ,fo a];simp only;rw[fo a];exact hb⟩
theorem fQ {s:List Ty}:∀{n:Nat}{t r:Ty},aQ s n t=some r->r.kind=9->∃x,bW s r=some x/\x.kind=0
 | 0,t,r,h,_=>by cases h
 | n+1,t,r,h,c=>by
  rw[aQ] at h
  by_cases a:t.kind=9
  ·rw[eu a] at h;cases he:bW s t with
   | none=>rw[he] at h;cases h
   | some x =>
    rw[he] at h;simp only at h
    by_cases b:x.kind=0
    ·rw[eu b] at h;injection h with h;rw[<-h];exact⟨x,he,b⟩
    ·rw[fo b] at h;exact fQ h c
  ·rw[fo a] at h;injection h with h;exact fL c (h▸a)
theorem FW {s:List Ty}{t x:Ty}(b:t.kind=9) (he:bW s t=some x) (a:x.kind=0) (n:Nat):aQ s (n+1) t=some t:=by
 rw[aQ,eu b,he];simp only;rw[eu a]
theorem Bu {s:List Ty}{t:Ty}(a:¬t.kind=9) (n:Nat):aQ s (n+1) t=some t:=by
 rw[aQ,fo a]
theorem vZ {s:List Ty}{n m:Nat}{t r:Ty}(h:aQ s n t=some r):aQ s (m+1) r=some r:=by
 by_cases a:r.kind=9
 ·obtain⟨x,he,b⟩:=fQ h a;exact FW a he b m
 ·exact Bu a m
theorem rG {s:List Ty}{p:Ty->Prop}(d:∀t x,p t->t.kind=9->bW s t=some x->¬x.kind=0->p x):∀{n:Nat}{t r:Ty},aQ s n t=some r->p t->p r
 | 0,t,r,h,_=>by cases h
 | n+1,t,r,h,c=>by
  rw[aQ] at h
  by_cases a:t.kind=9
  ·rw[eu a] at h;cases he:bW s t with
   | none=>rw[he] at h;cases h
   | some x =>
    rw[he] at h;simp only at h
    by_cases b:x.kind=0
    ·rw[eu b] at h;injection h with h;rw[<-h];exact c
    ·rw[fo b] at h;exact rG d h (d t x c a he b)
  ·rw[fo a] at h;injection h with h;exact h▸c
def Ex (s:List Ty) (t r:Ty):Prop:=∃n,pA s n t=some r
theorem Ex.one {s:List Ty}{t r q:Ty}(h:Ex s t r) (k:Ex s t q):r=q:=by
 obtain⟨n,h⟩:=h;obtain⟨m,k⟩:=k;have h1:=m9 (Nat.le_max_left n m) h;have a:=m9 (Nat.le_max_right n m) k;rw[h1] at a;exact abr a
theorem Ex.front {s:List Ty}:∀{n:Nat}{t a r:Ty},aQ s n t=some a->Ex s t r->Ex s a r
 | 0,t,a,r,h,_=>by cases h
 | n+1,t,a,r,h,⟨m,k⟩=>by
  rw[aQ] at h
  by_cases b:t.kind=9
  ·rw[eu b] at h;cases he:bW s t with
   | none=>rw[he] at h;cases h
   | some x =>
    rw[he] at h;simp only at h
    by_cases c:x.kind=0
    ·rw[eu c] at h;injection h with h;rw[<-h];exact⟨m,k⟩
    ·rw[fo c] at h;cases m with
     | zero=>cases k
     | succ m =>
      rw[pA,eu b,he] at k;simp only at k;rw[eu c] at k;exact Ex.front h ⟨m,k⟩
  ·rw[fo b] at h;injection h with h;exact h▸⟨m,k⟩
theorem Ex.args {s:List Ty}{t r:Ty}(h:Ex s t r) (d:¬t.kind=9):r.kind=t.kind/\r.id=t.id/\r.args.length=t.args.length/\∀(j:Nat) (x:Ty),t.args[j]?=some x->∃y,r.args[j]?=some y/\Ex s x y:=by
 obtain⟨n,h⟩:=h;cases n with
 | zero=>cases h
 | succ n =>
  rw[pA,fo d] at h;simp only at h;rw[fo (fun q=>q rfl)] at h;cases a:lA (pA s n) t.args with
  | none=>simp only[a] at h;cases h
  | some l =>
   simp only[a] at h;injection h with h
   obtain⟨h1,c⟩:=jH a;subst h;refine⟨rfl,rfl,by show l.length=_;rw[c,vz],fun j x b=>?_⟩;refine⟨(pA s n x).getD x,by show l[j]?=_;rw[c,aa4,b];rfl,n,h1 x (aaW b)⟩
theorem ou {n:Int}{t:Ty}(h:ins n t=true):1<=t.kind/\t.kind<=9:=by
 rw[vE] at h;split at h
 ·cases h
 ·omega
theorem pE {n:Int}{t:Ty}(h:ins n t=true) (a:t.kind=9):0<=t.id/\t.id<n/\t.args=[]:=by
 have b:=ou h;rw[vE,fo (by omega),eu a] at h;simp only[v5,aaZ] at h;exact⟨h.1.1,h.1.2,abu h.2⟩
theorem fe {n:Int}{t:Ty}(h:ins n t=true):∀x∈t.args,ins n x=true:=by
 have c:=ou h
 by_cases a:t.kind=9
 ·rw[(pE h a).2.2];intro x b;cases b
 ·rw[vE,fo (by omega),fo a,aaY] at h;exact h
theorem vI {n i:Int}(h0:0<=i) (h1:i<n):ins n (.mk 9 i [])=true:=by
 rw[vE,fo (by show¬((9:Int)<1\/(9:Int)<9);omega),eu (show(Ty.mk 9 i []).kind=9 from rfl)];simp only[v5,aaZ];exact⟨⟨h0,h1⟩,rfl⟩
theorem sV {n:Nat}{i:Nat}(h:i<n):ins n (vr i)=true:=vI (by omega) (by omega)
theorem y9 {n:Nat}{t:Ty}(h:ins n t=true) (a:t.kind=9):∃i:Nat,i<n/\t=vr i/\t.id=i:=by
 obtain⟨h0,h1,b⟩:=pE h a;refine⟨t.id.toNat,by omega,yT a ?_ b,by omega⟩;show t.id=(t.id.toNat:Int);omega
def EX (s:List Ty):Prop:=∀x∈s,x.kind=0\/ins s.length x=true
theorem qH {s:List Ty}{t x:Ty}(h:bW s t=some x):x∈s:=aaW (bP h).2.1
theorem EX.elem {s:List Ty}(h:EX s) {t x:Ty}(he:bW s t=some x) (a:¬x.kind=0):ins s.length x=true:=(h x (qH he)).resolve_left a
theorem EX.front {s:List Ty}(h:EX s) {n:Nat}{t r:Ty}(hf:aQ s n t=some r) (b:ins s.length t=true):ins s.length r=true :=
 rG (p:=fun t=>ins s.length t=true) (fun t x _ _ he a=>h.elem he a) hf b
theorem za {s:List Ty}{t:Ty}(a:ins s.length t=true) (b:t.kind=9):∃x,bW s t=some x/\x∈s:=by
 obtain⟨h0,h1,_⟩:=pE a b;exact LH h0 h1
structure Good (s:List Ty):Prop where
 ins:EX s
 fin:∀i<s.length,j8 s (vr i)
theorem Good.all {s:List Ty}(g:Good s):∀t:Ty,Try.ins s.length t=true->j8 s t:=dc fun t c h=>by
 by_cases b:t.kind=9
 ·obtain⟨i,hi,e,_⟩:=y9 h b;rw[e];exact g.fin i hi
 ·exact .arg b fun y a=>c y a (fe h y a)
def mM:List Ty->Nat
 | []=>0
 | x::l=>(if x.kind=0 then 1 else 0)+mM l
theorem Bv {b:Ty}(hb:¬b.kind=0):∀{s:List Ty}{i:Nat}{x:Ty},s[i]?=some x->x.kind=0->mM (s.set i b)<mM s
 | [],i,x,h,_=>by simp at h
 | y::s,0,x,h,a=>by
  rw[aa3] at h;injection h with h
  subst h;rw[List.set_cons_zero,mM,mM,fo hb,eu a];omega
 | y::s,i+1,x,h,a=>by
  rw[abe] at h;rw[List.set_cons_succ,mM,mM];have:=Bv hb h a;omega
theorem ni {s:List Ty}{v:Int}{b t:Ty}(h0:0<=v) (h:t.id≠v):bW (s.set v.toNat b) t=bW s t:=by
 unfold bW;split
 ·rfl
 ·rw[abN (by omega)]
theorem En {s:List Ty}{v:Int}{b t x:Ty}(h0:0<=v) (a:s[v.toNat]?=some x) (h:t.id=v):bW (s.set v.toNat b) t=some b:=by
 unfold bW;rw[fo (by omega),h,abS (aaR.1 a).1]
inductive qI (s:List Ty) (v:Int):Ty->Prop
 | step {t x:Ty}(h9:t.kind=9) (he:bW s t=some x) (hk:¬x.kind=0) (h:qI s v x):qI s v t
 | stop {t x:Ty}(h9:t.kind=9) (he:bW s t=some x) (hk:x.kind=0) (hv:t.id≠v) (ha:t.args=[]):qI s v t
 | arg {t:Ty}(h9:¬t.kind=9) (h:∀y∈t.args,qI s v y):qI s v t
theorem qI.front {s:List Ty}{v:Int}:∀{n:Nat}{t r:Ty},aQ s n t=some r->qI s v r->qI s v t
 | 0,t,r,h,_=>by cases h
 | n+1,t,r,h,k=>by
  rw[aQ] at h
  by_cases a:t.kind=9
  ·rw[eu a] at h;cases he:bW s t with
   | none=>rw[he] at h;cases h
   | some x =>
    rw[he] at h;simp only at h
    by_cases b:x.kind=0
    ·rw[eu b] at h;injection h with h;rw[h];exact k
    ·rw[fo b] at h;exact .step a he b (qI.front h k)
  ·rw[fo a] at h;injection h with h;rw[h];exact k
theorem qI.of {s:List Ty}(c:EX s) {v:Int}:∀{n:Nat}{t:Ty},ins s.length t=true->lm s v n t=some false->qI s v t
 | 0,t,_,h=>by cases h
 | n+1,t,f,h=>by
  rw[lm] at h;cases hf:aQ s n t with
  | none=>rw[hf] at h;cases h
  | some r =>
   rw[hf] at h;have d:=c.front hf f;refine qI.front hf ?_;simp only at h
   by_cases a:r.kind=9
   ·rw[eu a] at h;obtain⟨x,he,e⟩:=fQ hf a;exact .stop a he e (by injection h with h;exact abM h) (pE d a).2.2
   ·rw[fo a] at h;obtain⟨h1,j⟩:=rD h;refine .arg a fun y b=>qI.of c (n:=n) (fe d y b) ?_;have:=(abX.1 j) y b;rw[ab1] at this;rw[h1 y b,this]
theorem qI.set {s:List Ty}{v:Int}{b k t:Ty}(h0:0<=v) (n:s[v.toNat]?=some k) (j:k.kind=0) (h:qI s v t):j8 (s.set v.toNat b) t:=by
 induction h with
 | @step t x a he d _ f =>
  have:t.id≠v:=fun e=>by
   obtain⟨_,c,_⟩:=bP he;rw[e,n] at c;injection c with c
   exact d (c▸j)
  exact .step a ((ni h0 this).trans he) d f
 | @stop t x a he d l o=>exact .stop a ((ni h0 l).trans he) d (by rw[o];intro y m;cases m)
 | @arg t a _ f=>exact .arg a f
theorem j8.set {s:List Ty}{v:Int}{b l t:Ty}(h0:0<=v) (m:s[v.toNat]?=some l) (k:l.kind=0) (j:¬b.kind=0) (hb:j8 (s.set v.toNat b) b) (h:j8 s t):j8 (s.set v.toNat b) t:=by
 induction h with
 | @step t x a he f _ c =>
  have:t.id≠v:=fun e=>by
   obtain⟨_,d,_⟩:=bP he;rw[e,m] at d;injection d with d
   exact f (d▸k)
  exact .step a ((ni h0 this).trans he) f c
 | @stop t x a he f _ c =>
  by_cases e:t.id=v
  ·exact .step a (En h0 m e) j hb
  ·exact .stop a ((ni h0 e).trans he) f c
 | @arg t a _ c=>exact .arg a c
structure EY (s s':List Ty):Prop where
 len:s'.length=s.length
 good:Good s'
 less:s'=s\/mM s'<mM s
theorem EY.refl {s:List Ty}(g:Good s):EY s s:=⟨rfl,g,.inl rfl⟩
theorem EY.trans {s t r:List Ty}(h:EY s t) (k:EY t r):EY s r:=by
 refine⟨k.len.trans h.len,k.good,?_⟩;rcases h.less with e | h1
 ·subst e;exact k.less
 ·rcases k.less with e | a
  ·subst e;exact .inr h1
  ·exact .inr (by omega)
theorem Good.bind {s:List Ty}(g:Good s) {v:Int}{b h:Ty}(h0:0<=v) (f:s[v.toNat]?=some h) (a:h.kind=0) (hb:Try.ins s.length b=true) (j:qI s v b):EY s (s.set v.toNat b):=by
 have c:¬b.kind=0:=by have:=ou hb;omega
 have e:j8 (s.set v.toNat b) b:=j.set h0 f a;refine⟨abw,⟨fun y d=>?_,fun i hi=>?_⟩,.inr (Bv c f a)⟩
 ·rw[abw];rcases ab4 d with d | rfl
  ·exact g.ins y d
  ·exact .inr hb
 ·rw[abw] at hi;exact j8.set h0 f a c e (g.fin i hi)
theorem mN {n:Nat}{s:List Ty}{a b a' c:Ty}(d:aQ s n a=some a') (hb:aQ s n b=some c):lQ (n+1) s a b =
   if a'.kind=9/\c.kind=9 then(if a'.id=c.id then some (some s) else some (some (s.set (max a'.id c.id).toNat (.mk 9 (min a'.id c.id) []))))
   else if a'.kind=9 then(match lm s a'.id n c with
    | none=>none
    | some true=>some none
    | some false=>some (some (s.set a'.id.toNat c)))
   else if c.kind=9 then lQ n s c a'
   else if a'.kind≠c.kind\/a'.id≠c.id\/a'.args.length≠c.args.length then some none
   else kH (lQ n) s a'.args c.args:=by
 rw[lQ];simp only[d,hb];rfl
def Ends (s:List Ty) (a b:Ty):Prop:=∃n r,lQ n s a b=some r/\∀s',r=some s'->EY s s'
theorem Ma {s:List Ty}(g:Good s) {a' c:Ty}(ha:Try.ins s.length a'=true) (hb:Try.ins s.length c=true) (t:a'.kind=9) (z:∃x,bW s a'=some x/\x.kind=0) (aa:c.kind=9->∃x,bW s c=some x/\x.kind=0) :
  ∃u r,(∀s',r=some s'->EY s s')/\∀n,u<=n->∀a b,aQ s n a=some a'->aQ s n b=some c->lQ (n+1) s a b=some r:=by
 obtain⟨xa,p,j⟩:=z;obtain⟨w,o,ao⟩:=bP p
 by_cases f:c.kind=9
 ·obtain⟨xb,m,l⟩:=aa f;obtain⟨an,v,ar⟩:=bP m
  by_cases hi:a'.id=c.id
  ·refine⟨0,some s,fun s' e=>by injection e with e;subst e;exact EY.refl g,fun n _ a b h1 h=>?_⟩;rw[mN h1 h,eu ⟨t,f⟩,eu hi]
  ·refine⟨0,some (s.set (max a'.id c.id).toNat (.mk 9 (min a'.id c.id) [])),fun s' e=>?_,fun n _ a b h1 h=>?_⟩
   ·injection e with e
    subst e;have ad:∃k,s[(max a'.id c.id).toNat]?=some k/\k.kind=0:=by
     rcases Int.le_total a'.id c.id with d | d
     ·rw[Int.max_eq_right d];exact⟨xb,v,l⟩
     ·rw[Int.max_eq_left d];exact⟨xa,o,j⟩
    have ac:∃k,bW s (.mk 9 (min a'.id c.id) [])=some k/\k.kind=0:=by
     rcases Int.le_total a'.id c.id with d | d
     ·rw[Int.min_eq_left d];exact⟨xa,p,j⟩
     ·rw[Int.min_eq_right d];exact⟨xb,m,l⟩
    obtain⟨k,q1,q2⟩:=ad;obtain⟨x1,q3,q4⟩:=ac;have y:min a'.id c.id≠max a'.id c.id:=by omega
    exact g.bind (by omega) q1 q2 (vI (by omega) (by omega)) (.stop rfl q3 q4 y rfl)
   ·rw[mN h1 h,eu ⟨t,f⟩,fo hi]
 ·obtain⟨u,r,ho⟩:=(g.all c hb).occ a'.id;cases r with
  | true =>
   refine⟨u,none,fun s' e=>(by cases e),fun n hn a b h1 h=>?_⟩;rw[mN h1 h,fo (fun q=>f q.2),eu t,mL hn ho]
  | false =>
   refine⟨u,some (s.set a'.id.toNat c),fun s' e=>?_,fun n hn a b h1 h=>?_⟩
   ·injection e with e
    subst e;exact g.bind w o j hb (qI.of g.ins hb ho)
   ·rw[mN h1 h,fo (fun q=>f q.2),eu t,mL hn ho]
theorem Bw {N:Nat}(q:∀s,Good s->mM s<N->∀a b,Try.ins s.length a=true->Try.ins s.length b=true->Ends s a b) {d:List Ty}(u:mM d<=N) :
  ∀(l f:List Ty),l.length=f.length->(∀(j:Nat) (x y:Ty),l[j]?=some x->f[j]?=some y->Try.ins d.length x=true/\Try.ins d.length y=true/\Ends d x y)->∀s,EY d s->∃n r,kH (lQ n) s l f=some r/\∀s',r=some s'->EY d s'
 | [],f,_,_,s,c=>⟨0,some s,rfl,fun s' e=>by injection e with e;exact e▸c⟩
 | x::l,[],h,_,s,c=>by cases h
 | x::l,y::f,h,p,s,c=>by
  obtain⟨o,k,he⟩:=p 0 x y rfl rfl;have h1:Ends s x y:=by
   rcases c.less with e | w
   ·rw[e];exact he
   ·exact q s c.good (by omega) x y (by rw[c.len];exact o) (by rw[c.len];exact k)
  obtain⟨n,r,h1,z⟩:=h1;cases r with
  | none=>exact⟨n,none,by rw[kH,h1],fun s' e=>by cases e⟩
  | some s1 =>
   obtain⟨m,r,v,t⟩:=Bw q u l f (by simpa using h) (fun j x y o k=>p (j+1) x y o k) s1 (c.trans (z s1 rfl));refine⟨max n m,r,?_,t⟩;rw[kH,ic (Nat.le_max_left n m) h1];exact rF (fun s x y b hb=>ic (Nat.le_max_right n m) hb) v
theorem zb:∀(N:Nat) (s:List Ty),Good s->mM s<N->∀a b,ins s.length a=true->ins s.length b=true->Ends s a b
 | 0,s,_,h,_,_,_,_=>fL h (abz _)
 | N+1,s,g,hu,a,b,ha,hb=>by
  have hN:=zb N;have main:∀(M:Nat) (a b t u:Ty),ins s.length a=true->ins s.length b=true->Ex s a t->Ex s b u->SizeOf.sizeOf t+SizeOf.sizeOf u<M->Ends s a b:=by
   intro M
   induction M with
   | zero=>intro a b t u _ _ _ _ h;exact fL h (abz _)
   | succ M ih =>
    intro a b t u ha hb m o hM;obtain⟨n1,a',k⟩:=(g.all a ha).front;obtain⟨n2,v,f⟩:=(g.all b hb).front;have p:=g.ins.front k ha;have l:=g.ins.front f hb;have ar:=m.front k;have ae:=o.front f
    by_cases d:a'.kind=9
    ·obtain⟨n0,r,h1,h2⟩:=Ma g p l d (fQ k d) (fun q=>fQ f q);exact⟨_,r,h2 (max n0 (max n1 n2)) (by omega) a b (dJ (by omega) k) (dJ (by omega) f),h1⟩
    by_cases c:v.kind=9
    ·obtain⟨n0,r,h1,h2⟩:=Ma g l p c (fQ f c) (fun q=>fL q d);refine⟨max n0 (max n1 n2)+1+1+1,r,?_,h1⟩;rw[mN (dJ (by omega) k) (dJ (by omega) f),fo (fun q=>d q.1),fo d,eu c];exact h2 _ (by omega) v a' (vZ f) (vZ k)
    by_cases hd:a'.kind≠v.kind\/a'.id≠v.id\/a'.args.length≠v.args.length
    ·refine⟨max n1 n2+1,none,?_,fun s' e=>by cases e⟩;rw[mN (dJ (by omega) k) (dJ (by omega) f),fo (fun q=>d q.1),fo d,fo c,eu hd]
    ·obtain⟨e1,e2,e3,e4⟩:=ar.args d;obtain⟨f1,f2,f3,f4⟩:=ae.args c;obtain⟨n,r,h1,h2⟩:=Bw hN (show mM s<=N by omega) a'.args v.args (by omega) (fun j x y hx hy=>by
      obtain⟨x',an,am⟩:=e4 j x hx;obtain⟨y',al,ag⟩:=f4 j y hy;have s1:=Hf (aaW an);have s2:=Hf (aaW al);have w:=fe p x (aaW hx);have z:=fe l y (aaW hy);exact⟨w,z,ih x y x' y' w z am ag (by omega)⟩) s (EY.refl g)
     refine⟨max n (max n1 n2)+1,r,?_,h2⟩;rw[mN (dJ (by omega) k) (dJ (by omega) f),fo (fun q=>d q.1),fo d,fo c,fo hd];exact rF (fun s x y b hb=>ic (by omega) hb) h1
  obtain⟨na,t,m⟩:=(g.all a ha).ap;obtain⟨nb,u,o⟩:=(g.all b hb).ap;exact main _ a b t u ha hb ⟨na,m⟩ ⟨nb,o⟩ (abT _)
end Go.Fr.Try
