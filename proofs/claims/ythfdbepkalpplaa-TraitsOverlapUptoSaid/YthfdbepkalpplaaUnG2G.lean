/- Part of the proofs of the statements of this seat. -/
import Derived.Test.YthfdbepkalpplaaUnD1G
set_option maxRecDepth 10000
set_option linter.unusedVariables false
set_option linter.unusedSimpArgs false
namespace Go.Fr.Try
open Go Go.RowKit Go.Proofs Go.Fr Go.Fr.T Go.Fr.Api
theorem SX (s:List Ty) (t x:Ty) (h:CallsT P 95 [aR t,.own 1000 0] [.box 89 [.own 1001 0],.box 93 [.sl (s.map aG),.any,.any]] (aT [.box 89 [.own 1001 0],.box 93 [.sl (s.map aG),.any,.any]] (.tup [aR x,.bool true]))):CallsT P 52 [aR t,.fn 95 [] [.own 1000 0]] [.box 89 [.own 1001 0],.box 93 [.sl (s.map aG),.any,.any]] (aT [.box 89 [.own 1001 0],.box 93 [.sl (s.map aG),.any,.any]] (aR x)):=by
 refine af Try.func52 tI rfl fun a _=>?_;refine callO [1000,1001] [1000,1001] h rfl rfl rfl rfl rfl fun _ _=>?_;exact bq [1000,1001] rfl rfl rfl rfl
theorem SY (s:List Ty) (t:Ty) (f:Ty->Ty) (hb:t.args.length<=2 ^ 30) (h:CallsT P 95 [aR t,.own 1000 0] [.box 89 [.own 1001 0],.box 93 [.sl (s.map aG),.any,.any]] (aT [.box 89 [.own 1001 0],.box 93 [.sl (s.map aG),.any,.any]] (.tup [aR t,.bool false])))
  (m:∀x∈t.args,CallsT P 52 [aR x,.fn 95 [] [.own 1000 0]] [.box 89 [.own 1001 0],.box 93 [.sl (s.map aG),.any,.any]] (aT [.box 89 [.own 1001 0],.box 93 [.sl (s.map aG),.any,.any]] (aR (f x)))):CallsT P 52 [aR t,.fn 95 [] [.own 1000 0]] [.box 89 [.own 1001 0],.box 93 [.sl (s.map aG),.any,.any]] (aT [.box 89 [.own 1001 0],.box 93 [.sl (s.map aG),.any,.any]] (aR (.mk t.kind t.id (t.args.map f)))):=by
 have c:(t.args.map aG).length=t.args.length:=v5 _;refine af Try.func52 tI rfl fun p _=>?_;refine callO [1000,1001] [1000,1001] h rfl rfl rfl rfl rfl fun _ _=>?_;refine cA t.args.length 26 [] ([]:List Ty) (fun _=>[]) (fun s'=>[(4,.box 32 [IC 0,IC 0,.nils]),(5,.box 32 [IC t.kind,IC t.id,.sl (t.args.map aG)]),(7,.box 32 [IC t.kind,IC t.id,.rw 36]),(36,.row 32 3 (s'.map aG)),(1000,.box 89 [.own 1001 0]),(1001,.box 93 [.sl (s.map aG),.any,.any])]) (fun j s'=>s'=(t.args.take j).map f) (by simp) (ak rfl) trivial
  ⟨.inl ⟨_,rfl,.inl ⟨rfl,rfl⟩⟩,.inl ⟨_,rfl,.inl ⟨rfl,rfl⟩⟩,.inl ⟨_,rfl,.inr ⟨32,_,_,rfl,rfl,_,_,rfl,ak rfl,_,_,rfl,ak rfl,_,_,rfl,rZ rfl rfl,rfl⟩⟩,.inr ⟨rfl,32,3,rfl⟩,.inl ⟨_,rfl,.inl ⟨rfl,rfl⟩⟩,.inl ⟨_,rfl,.inl ⟨rfl,rfl⟩⟩,trivial⟩ (fun _=>rfl) (fun _=>rfl) ?_
 rintro j s' o a _ _ _;refine ah (fun b=>?_) (fun d=>?_)
 ·have b:j<t.args.length:=by rw[c] at b;omega
  refine fM b fun x l k=>?_;have n:(s'.map aG).length=j:=by rw[a,v5,v5,abL];omega
  refine cH l ?_;refine iK (Pp:=fun _=>False) [1000,1001] (m x k).toX rfl rfl rfl rfl rfl (fun _ h=>False.elim h) fun _ _=>?_;refine rB j rfl n (by decide) (by omega) ?_;refine Fit.aag (by omega) (by omega) ?_;refine⟨(j+1,s'++[f x]),⟨b,?_⟩,⟨bU,trivial⟩,⟨.inl ⟨_,rfl,.inl ⟨rfl,rfl⟩⟩,.inl ⟨_,rfl,.inl ⟨rfl,rfl⟩⟩,.inl ⟨_,rfl,.inl ⟨rfl,rfl⟩⟩,.inl ⟨_,rfl,.inl ⟨DE HX,rfl⟩⟩,.inl ⟨_,rfl,.inl ⟨rfl,rfl⟩⟩,.inl ⟨_,rfl,.inl ⟨rfl,rfl⟩⟩,trivial⟩,bX b⟩;show s'++[f x]=(t.args.take (j+1)).map f;rw[jo l,a,abA];rfl
 ·have d:¬j<t.args.length:=by rw[c] at d;omega
  have e:C.agg [IC t.kind,IC t.id,.sl (s'.map aG)]=aR (.mk t.kind t.id (t.args.map f)):=by
   rw[a,abF (by omega)];rfl
  exact HE [36] [1000,1001] ⟨_,_,rfl,rfl,rfl,rfl,e⟩
theorem SZ (m:DM) (t x:Ty) (h:CallsT P 98 [aR t,.own 1000 0] [.box 90 [.mpr 1001],.map (iU IC m)] (aT [.box 90 [.mpr 1001],.map (iU IC m)] (.tup [aR x,.bool true]))):CallsT P 52 [aR t,.fn 98 [] [.own 1000 0]] [.box 90 [.mpr 1001],.map (iU IC m)] (aT [.box 90 [.mpr 1001],.map (iU IC m)] (aR x)):=by
 refine af Try.func52 tI rfl fun a _=>?_;refine callO [1000,1001] [1000,1001] h rfl rfl rfl rfl rfl fun _ _=>?_;exact bq [1000,1001] rfl rfl rfl rfl
theorem S0 (m:DM) (t:Ty) (f:Ty->Ty) (hb:t.args.length<=2 ^ 30) (h:CallsT P 98 [aR t,.own 1000 0] [.box 90 [.mpr 1001],.map (iU IC m)] (aT [.box 90 [.mpr 1001],.map (iU IC m)] (.tup [aR t,.bool false])))
  (n:∀x∈t.args,CallsT P 52 [aR x,.fn 98 [] [.own 1000 0]] [.box 90 [.mpr 1001],.map (iU IC m)] (aT [.box 90 [.mpr 1001],.map (iU IC m)] (aR (f x)))):CallsT P 52 [aR t,.fn 98 [] [.own 1000 0]] [.box 90 [.mpr 1001],.map (iU IC m)] (aT [.box 90 [.mpr 1001],.map (iU IC m)] (aR (.mk t.kind t.id (t.args.map f)))):=by
 have c:(t.args.map aG).length=t.args.length:=v5 _;refine af Try.func52 tI rfl fun q _=>?_;refine callO [1000,1001] [1000,1001] h rfl rfl rfl rfl rfl fun _ _=>?_;refine cA t.args.length 26 [] ([]:List Ty) (fun _=>[]) (fun s'=>[(4,.box 32 [IC 0,IC 0,.nils]),(5,.box 32 [IC t.kind,IC t.id,.sl (t.args.map aG)]),(7,.box 32 [IC t.kind,IC t.id,.rw 36]),(36,.row 32 3 (s'.map aG)),(1000,.box 90 [.mpr 1001]),(1001,.map (iU IC m))]) (fun j s'=>s'=(t.args.take j).map f) (by simp) (ak rfl) trivial
  ⟨.inl ⟨_,rfl,.inl ⟨rfl,rfl⟩⟩,.inl ⟨_,rfl,.inl ⟨rfl,rfl⟩⟩,.inl ⟨_,rfl,.inr ⟨32,_,_,rfl,rfl,_,_,rfl,ak rfl,_,_,rfl,ak rfl,_,_,rfl,rZ rfl rfl,rfl⟩⟩,.inr ⟨rfl,32,3,rfl⟩,.inl ⟨_,rfl,.inl ⟨rfl,rfl⟩⟩,.inl ⟨_,rfl,.inl ⟨rfl,rfl⟩⟩,trivial⟩ (fun _=>rfl) (fun _=>rfl) ?_
 rintro j s' p a _ _ _;refine ah (fun b=>?_) (fun d=>?_)
 ·have b:j<t.args.length:=by rw[c] at b;omega
  refine fM b fun x l k=>?_;have o:(s'.map aG).length=j:=by rw[a,v5,v5,abL];omega
  refine cH l ?_;refine iK (Pp:=fun _=>False) [1000,1001] (n x k).toX rfl rfl rfl rfl rfl (fun _ h=>False.elim h) fun _ _=>?_;refine rB j rfl o (by decide) (by omega) ?_;refine Fit.aag (by omega) (by omega) ?_;refine⟨(j+1,s'++[f x]),⟨b,?_⟩,⟨bU,trivial⟩,⟨.inl ⟨_,rfl,.inl ⟨rfl,rfl⟩⟩,.inl ⟨_,rfl,.inl ⟨rfl,rfl⟩⟩,.inl ⟨_,rfl,.inl ⟨rfl,rfl⟩⟩,.inl ⟨_,rfl,.inl ⟨DE HX,rfl⟩⟩,.inl ⟨_,rfl,.inl ⟨rfl,rfl⟩⟩,.inl ⟨_,rfl,.inl ⟨rfl,rfl⟩⟩,trivial⟩,bX b⟩;show s'++[f x]=(t.args.take (j+1)).map f;rw[jo l,a,abA];rfl
 ·have d:¬j<t.args.length:=by rw[c] at d;omega
  have e:C.agg [IC t.kind,IC t.id,.sl (s'.map aG)]=aR (.mk t.kind t.id (t.args.map f)):=by
   rw[a,abF (by omega)];rfl
  exact HE [36] [1000,1001] ⟨_,_,rfl,rfl,rfl,rfl,e⟩
theorem VT (s:List Ty) (t x r:Ty) (c:t.kind=9) (h0:0<=t.id) (a:s[t.id.toNat]?=some x) (b:¬x.kind=0) (h:CallsT P 60 [.own 1000 0,aR x] (um s) (aT (um s) (aR r))) :
  CallsT P 95 [aR t,.own 1000 0] [.box 89 [.own 1001 0],.box 93 [.sl (s.map aG),.any,.any]] (aT [.box 89 [.own 1001 0],.box 93 [.sl (s.map aG),.any,.any]] (.tup [aR r,.bool true])):=by
 refine af Try.func95 F9 rfl fun d _=>?_;refine ah (fun _=>?_) (fun q=>o5 c q);refine yx h0 a ?_;refine aS (fun _=>?_) (fun q=>o5 q b);refine yx h0 a ?_;refine xV [1001] [1001] h rfl rfl rfl rfl rfl fun _ _=>?_;exact bq [1000,1001] rfl rfl rfl rfl
theorem VU (s:List Ty) (t:Ty) (c:t.kind=9->∃x,0<=t.id/\s[t.id.toNat]?=some x/\x.kind=0) :
  CallsT P 95 [aR t,.own 1000 0] [.box 89 [.own 1001 0],.box 93 [.sl (s.map aG),.any,.any]] (aT [.box 89 [.own 1001 0],.box 93 [.sl (s.map aG),.any,.any]] (.tup [aR t,.bool false])):=by
 refine af Try.func95 F9 rfl fun d _=>?_;refine ah (fun h=>vP (c h) fun x a=>?_) (fun _=>?_)
 ·have h0:=a.1;have b:=a.2.1;refine yx h0 b ?_;refine aS (fun q=>o5 a.2.2 q) (fun _=>?_);exact bq [1000,1001] rfl rfl rfl rfl
 ·exact bq [1000,1001] rfl rfl rfl rfl
theorem S1 (s:List Ty) (t r:Ty) (h:CallsT P 52 [aR t,.fn 95 [] [.own 1000 0]] [.box 89 [.own 1001 0],.box 93 [.sl (s.map aG),.any,.any]] (aT [.box 89 [.own 1001 0],.box 93 [.sl (s.map aG),.any,.any]] (aR r))):CallsT P 60 [.own 1000 0,aR t] (um s) (aT (um s) (aR r)):=by
 refine af Try.func60 Nz rfl fun a _=>?_;refine callO [2,1000] [2,1000] h rfl rfl rfl rfl rfl fun _ _=>?_;exact bq [1000] rfl rfl rfl rfl
theorem jq {f:Ty->Option Ty}:∀{l r:List Ty},kV f l=some r->(∀x∈l,f x=some ((f x).getD x))/\r=l.map fun x=>(f x).getD x
 | [],r,h=>by
  rw[kV] at h;injection h with h
  exact⟨by simp,by rw[<-h];rfl⟩
 | x::l,r,h=>by
  rw[kV] at h;cases c:f x with
  | none=>simp only[c] at h;cases h
  | some a =>
   cases d:kV f l with
   | none=>simp only[c,d] at h;cases h
   | some b =>
    simp only[c,d] at h;injection h with h
    obtain⟨i1,i2⟩:=jq d;refine⟨fun y e=>?_,?_⟩
    ·rcases aaT.1 e with rfl | e
     ·rw[c];rfl
     ·exact i1 y e
    ·rw[aaW,c,<-i2,<-h];rfl
theorem Q8 (s:List Ty) (e:∀x∈s,iN x):∀(n:Nat) (t r:Ty),iN t->oK s n t=some r->CallsT P 52 [aR t,.fn 95 [] [.own 1000 0]] [.box 89 [.own 1001 0],.box 93 [.sl (s.map aG),.any,.any]] (aT [.box 89 [.own 1001 0],.box 93 [.sl (s.map aG),.any,.any]] (aR r))
 | 0,t,r,hb,h=>by cases h
 | n+1,t,r,hb,h=>by
  rw[oK] at h;split at h
  ·cases h
  rename_i x a
  by_cases c:x.kind=0
  ·rw[fL (fun q=>q c)] at h;have m:=VU s t fun b=>by
    rw[fo b] at a;obtain⟨j,d,_⟩:=bG a;exact⟨x,j,d,c⟩
   cases f:kV (oK s n) t.args with
   | none=>simp only[f] at h;cases h
   | some l =>
    simp only[f] at h;injection h with h
    obtain⟨h1,o⟩:=jq f;have hb:=(fZ t).1 hb;rw[<-h,o];exact SY s t (fun x=>(oK s n x).getD x) hb.1 m fun x k=>Q8 s e n x _ (hb.2 x k) (h1 x k)
  ·rw[fo c] at h;have b:t.kind=9:=by
    by_cases b:t.kind=9
    ·exact b
    ·rw[fL b] at a;injection a with a
     rw[<-a] at c;exact o5 rfl c
   rw[fo b] at a;obtain⟨j,d,_⟩:=bG a;exact SX s t r (VT s t x r b j d c (S1 s x r (Q8 s e n x r (e x (aaX d)) h)))
theorem XE (s:List Ty) (a:∀x∈s,iN x) (n:Nat) (t r:Ty) (hb:iN t) (h:oK s n t=some r):CallsT P 60 [.own 1000 0,aR t] (um s) (aT (um s) (aR r)):=S1 s t r (Q8 s a n t r hb h)
mutual
def Ic (m:DM):Ty->Ty
 | .mk k i l=>if k=9 then .mk 9 ((bM m i).getD 0) [] else .mk k i (Ux m l)
def Ux (m:DM):List Ty->List Ty
 | []=>[]
 | t::l=>Ic m t::Ux m l
end
theorem Gq (m:DM):∀l:List Ty,Ux m l=l.map (Ic m)
 | []=>rfl
 | t::l=>by rw[Ux,Gq m l];rfl
theorem Q9 (m:DM) (t:Ty):Ic m t=if t.kind=9 then .mk 9 ((bM m t.id).getD 0) [] else .mk t.kind t.id (t.args.map (Ic m)):=by
 cases t;rw[Ic,Gq];rfl
theorem S2 {i:Int}{m:DM}{Y:C->Prop}{N:Prop}(k1:Y (IC ((bM m i).getD 0))) (a:bM m i=none->N):xk false (iU IC m) (IC i) Y N:=by
 cases h:bM m i with
 | none=>exact yw h (a h)
 | some x=>rw[h] at k1;exact yu h k1
theorem VW (m:DM) (t:Ty) (a:t.kind=9):CallsT P 98 [aR t,.own 1000 0] [.box 90 [.mpr 1001],.map (iU IC m)] (aT [.box 90 [.mpr 1001],.map (iU IC m)] (.tup [aR (.mk 9 ((bM m t.id).getD 0) []),.bool true])):=by
 refine af Try.func98 Gc rfl fun c _=>?_;refine ah (fun _=>?_) (fun q=>o5 a q);refine S2 ?_ (fun b=>?_)
 ·exact bq [1000,1001] rfl rfl rfl rfl
 ·exact bq [1000,1001] rfl rfl rfl (by rw[b];rfl)
theorem VX (m:DM) (t:Ty) (a:¬t.kind=9):CallsT P 98 [aR t,.own 1000 0] [.box 90 [.mpr 1001],.map (iU IC m)] (aT [.box 90 [.mpr 1001],.map (iU IC m)] (.tup [aR t,.bool false])):=by
 refine af Try.func98 Gc rfl fun b _=>?_;refine ah (fun q=>o5 q a) (fun _=>?_);exact bq [1000,1001] rfl rfl rfl rfl
theorem VY (m:DM):∀t:Ty,iN t->CallsT P 52 [aR t,.fn 98 [] [.own 1000 0]] [.box 90 [.mpr 1001],.map (iU IC m)] (aT [.box 90 [.mpr 1001],.map (iU IC m)] (aR (Ic m t))):=dJ fun t c hb=>by
 have hb:=(fZ t).1 hb;rw[Q9]
 by_cases a:t.kind=9
 ·rw[fo a];exact SZ m t _ (VW m t a)
 ·rw[fL a];exact S0 m t _ hb.1 (VX m t a) fun x b=>c x b (hb.2 x b)
def vr (i:Nat):Ty:=.mk 9 i []
def iL (s:List Ty) (n:Nat):Nat->DM->Option DM
 | 0,m=>some m
 | i+1,m=>match aO s n (vr i) with
  | none=>none
  | some t=>iL s n i (if t.kind=9 then eD m t.id i else m)
def Ol (m:DM) (i:Nat) (t:Ty):Ty:=if(Ic m t).kind=9/\(Ic m t).id=i then .mk 0 0 [] else Ic m t
def py (s:List Ty) (n:Nat) (m:DM):Nat->Option (List Ty)
 | 0=>some []
 | i+1=>match py s n m i,oK s n (vr i) with
  | some l,some t=>some (l++[Ol m i t])
  | _,_=>none
def jJ (s:List Ty) (n:Nat):Option (List Ty):=match iL s n s.length [] with
 | none=>none
 | some m=>py s n m s.length
theorem Ce {s:List Ty}(e:∀x∈s,iN x):∀(n:Nat) (t r:Ty),iN t->oK s n t=some r->iN r
 | 0,t,r,hb,h=>by cases h
 | n+1,t,r,hb,h=>by
  rw[oK] at h;split at h
  ·cases h
  rename_i x a
  by_cases d:x.kind=0
  ·rw[fL (fun q=>q d)] at h;cases f:kV (oK s n) t.args with
   | none=>simp only[f] at h;cases h
   | some l =>
    simp only[f] at h;injection h with h
    obtain⟨h1,k⟩:=jq f;have hb:=(fZ t).1 hb;rw[fZ,<-h];refine⟨by show l.length<=_;rw[k,v5];exact hb.1,?_⟩;intro y b;have b:y∈l:=b;rw[k] at b;obtain⟨z,j,rfl⟩:=abq.1 b;exact Ce e n z _ (hb.2 z j) (h1 z j)
  ·rw[fo d] at h;have c:t.kind=9:=by
    by_cases c:t.kind=9
    ·exact c
    ·rw[fL c] at a;injection a with a
     rw[<-a] at d;exact o5 rfl d
   rw[fo c] at a;obtain⟨o,m,_⟩:=bG a;exact Ce e n x r (e x (aaX m)) h
theorem KT (i:Nat):iN (vr i):=(fZ _).2 ⟨aa9 _,fun x h=>by cases h⟩
theorem uY {s:List Ty}{n:Nat}{m:DM}:∀{N:Nat}{l:List Ty},py s n m N=some l->∀i<N,∃c t,py s n m i=some c/\oK s n (vr i)=some t/\py s n m (i+1)=some (c++[Ol m i t])
 | 0,l,h,i,hi=>o5 hi (aby _)
 | N+1,l,h,i,hi=>by
  have a:=h;rw[py] at a;cases h1:py s n m N with
  | none=>simp only[h1] at a;cases a
  | some d =>
   cases b:oK s n (vr N) with
   | none=>simp only[h1,b] at a;cases a
   | some t =>
    by_cases e:i=N
    ·subst e;refine⟨d,t,h1,b,?_⟩;rw[py];simp only[h1,b]
    ·exact uY h1 i (by omega)
theorem DH {s:List Ty}{n:Nat}{m:DM}:∀{N:Nat}{l:List Ty},py s n m N=some l->l.length=N
 | 0,l,h=>by rw[py] at h;injection h with h;rw[<-h];rfl
 | N+1,l,h=>by
  obtain⟨c,t,h1,b,a⟩:=uY h N (abS _);rw[h] at a;injection a with a
  rw[a,abG,DH h1];rfl
theorem E6 {s:List Ty}{n j:Nat}{m M:DM}(h:iL s n (j+1) m=some M):∃t,aO s n (vr j)=some t/\iL s n j (if t.kind=9 then eD m t.id j else m)=some M:=by
 rw[iL] at h;cases a:aO s n (vr j) with
 | none=>simp only[a] at h;cases h
 | some t=>simp only[a] at h;exact⟨t,rfl,h⟩
theorem VZ (s:List Ty) (n:Nat) (M:DM) (r:List Ty) (hn:s.length<=2 ^ 30) (hs:∀x∈s,iN x) (hm:iL s n s.length []=some M) (hr:py s n M s.length=some r)
  (y:∀t r,aO s n t=some r->CallsT P 96 [.own 1000 0,aR t] (um s) (aT (um s) (aR r)))
  (v:∀i r,oK s n (vr i)=some r->CallsT P 60 [.own 1000 0,aR (vr i)] (um s) (aT (um s) (aR r))/\CallsT P 52 [aR r,.fn 98 [] [.own 1000 0]] [.box 90 [.mpr 1001],.map (iU IC M)] (aT [.box 90 [.mpr 1001],.map (iU IC M)] (aR (Ic M r)))) :
  CallsT P 65 [.own 1000 0] (um s) (aT (um s) (.sl (r.map aG))):=by
 have p:(s.map aG).length=s.length:=v5 _;refine af Try.func65 NA rfl fun hw _=>?_;refine Fit.aag (by omega) (by omega) ?_;refine zY.mk ⟨Nat×DM,(s.length,[]),fun x=>x.1<=s.length/\iL s n x.1 x.2=some M,[4],fun x=>[IC ((x.1:Int)-1)],fun x=>[(3,.box 90 [.mpr 9]),(9,.map (iU IC x.2)),(1000,.box 93 [.sl (s.map aG),.any,.any])],fun x=>x.1,⟨aa0 _,hm⟩,⟨.inr (.inl ⟨vv IC (by rw[p]),rfl⟩),trivial⟩,
  ⟨.inl ⟨_,rfl,.inl ⟨rfl,rfl⟩⟩,.inl ⟨_,rfl,.inl ⟨rfl,rfl⟩⟩,.inl ⟨_,rfl,.inl ⟨rfl,rfl⟩⟩,trivial⟩,fun _=>rfl,fun _=>rfl,?_⟩
 rintro⟨j,m⟩ ⟨hj,c⟩ _ _;refine ah (fun h=>?_) (fun b=>?_)
 ·have ad:∃i,j=i+1:=⟨j-1,by have:((j:Int)-1)>=0:=h;omega⟩;refine vP ad fun i hi=>?_;have aa:(C.agg [IC 9,IC ((j:Int)-1),.sl []])=aR (vr i):=by rw[hi];show C.agg _=C.agg [IC 9,IC (i:Int),.sl []];congr 3;congr 1;omega
  have c:iL s n (i+1) m=some M:=by rw[<-hi];exact c
  refine vP (E6 c) fun t d=>?_;refine callO [1000] [1000] (y (vr i) t d.1) rfl rfl (by rw[<-aa];rfl) rfl rfl fun _ _=>?_;refine ah (fun h9=>?_) (fun h9=>?_)
  ·refine HY (f:=IC) (x:=(j:Int)-1) rfl ?_;refine Fit.aag (by omega) (by omega) ?_;refine⟨(i,eD m t.id i),⟨by omega,by have:=d.2;rw[fo h9] at this;exact this⟩,⟨.inr (.inl ⟨vv IC (by show(j:Int)-1-1=(i:Int)-1;omega),rfl⟩),trivial⟩,⟨.inl ⟨_,rfl,.inl ⟨rfl,rfl⟩⟩,.inl ⟨_,rfl,.inl ⟨?_,rfl⟩⟩,.inl ⟨_,rfl,.inl ⟨rfl,rfl⟩⟩,trivial⟩,by show i<j;omega⟩;exact vv (fun q=>TO.map (iU IC (eD m t.id q))) (show(j:Int)-1=(i:Int) by omega)
  ·refine Fit.aag (by omega) (by omega) ?_;exact⟨(i,m),⟨by omega,by have:=d.2;rw[fL h9] at this;exact this⟩,⟨.inr (.inl ⟨vv IC (by show(j:Int)-1-1=(i:Int)-1;omega),rfl⟩),trivial⟩,⟨.inl ⟨_,rfl,.inl ⟨rfl,rfl⟩⟩,.inl ⟨_,rfl,.inl ⟨rfl,rfl⟩⟩,.inl ⟨_,rfl,.inl ⟨rfl,rfl⟩⟩,trivial⟩,by show i<j;omega⟩
 ·have w:j=0:=by have:¬((j:Int)-1)>=0:=b;omega
  have ab:m=M:=by rw[w,iL] at c;exact abr c
  refine cA s.length 36 [6] ([]:List Ty) (fun _=>[.rw 58]) (fun l=>[(3,.box 90 [.mpr 9]),(9,.map (iU IC M)),(58,.row 32 3 (l.map aG)),(1000,.box 93 [.sl (s.map aG),.any,.any])]) (fun k l=>py s n M k=some l) rfl (ak rfl) ⟨.inr (.inr (.inr (.inl ⟨rfl,58,32,3,rfl,rfl,rfl⟩))),trivial⟩
   ⟨.inl ⟨_,rfl,.inl ⟨rfl,rfl⟩⟩,.inl ⟨_,rfl,.inl ⟨vv (fun q=>TO.map (iU IC q)) ab,rfl⟩⟩,.inr ⟨rfl,32,3,rfl⟩,.inl ⟨_,rfl,.inl ⟨rfl,rfl⟩⟩,trivial⟩ (fun _=>rfl) (fun _=>rfl) ?_
  rintro k l hk a _ _ _;refine ah (fun b=>?_) (fun h=>?_)
  ·have b:k<s.length:=by rw[p] at b;omega
   refine vP (uY hr k b) fun l' hl=>vP hl fun t d=>?_;have u:l=l':=by rw[a] at d;exact abr d.1
   have o:(l.map aG).length=k:=by rw[v5];exact DH a
   refine callO [1000] [1000] (v k t d.2.1).1 rfl rfl rfl rfl rfl fun _ _=>?_;refine callO [3,9] [3,9] (v k t d.2.1).2 rfl rfl rfl rfl rfl fun _ _=>?_;refine ah (fun h1=>ah (fun z=>?_) (fun z=>?_)) (fun h1=>?_)
   ·have e:Ol M k t=.mk 0 0 []:=fo ⟨h1,z⟩;refine rB k rfl o (by decide) (by omega) ?_;refine Fit.aag (by omega) (by omega) ?_;exact⟨(k+1,l++[.mk 0 0 []]),⟨b,by rw[d.2.2,e,u]⟩,⟨bU,ak rfl,trivial⟩,⟨.inl ⟨_,rfl,.inl ⟨rfl,rfl⟩⟩,.inl ⟨_,rfl,.inl ⟨rfl,rfl⟩⟩,.inl ⟨_,rfl,.inl ⟨DE (HX (f:=.mk 0 0 [])),rfl⟩⟩,.inl ⟨_,rfl,.inl ⟨rfl,rfl⟩⟩,trivial⟩,bX b⟩
   all_goals
    have e:Ol M k t=Ic M t:=fL (fun q=>by first | exact z q.2 | exact h1 q.1);refine rB k rfl o (by decide) (by omega) ?_;refine Fit.aag (by omega) (by omega) ?_;exact⟨(k+1,l++[Ic M t]),⟨b,by rw[d.2.2,e,u]⟩,⟨bU,ak rfl,trivial⟩,⟨.inl ⟨_,rfl,.inl ⟨rfl,rfl⟩⟩,.inl ⟨_,rfl,.inl ⟨rfl,rfl⟩⟩,.inl ⟨_,rfl,.inl ⟨DE (HX (f:=Ic M t)),rfl⟩⟩,.inl ⟨_,rfl,.inl ⟨rfl,rfl⟩⟩,trivial⟩,bX b⟩
  ·have h:¬k<s.length:=by rw[p] at h;omega
   have ae:k=s.length:=by omega
   have e:l=r:=by rw[ae,hr] at a;exact(abr a).symm
   exact HE [58] [1000] ⟨_,_,rfl,rfl,rfl,rfl,VA (by rw[e])⟩
theorem t65 (s:List Ty) (n:Nat) (r:List Ty) (c:s.length<=2 ^ 30) (a:∀x∈s,iN x) (h:jJ s n=some r):CallsT P 65 [.own 1000 0] (um s) (aT (um s) (.sl (r.map aG))):=by
 unfold jJ at h;cases b:iL s n s.length [] with
 | none=>simp only[b] at h;cases h
 | some M =>
  simp only[b] at h;exact VZ s n M r c a b h (fun t r q=>SR s n t r q) fun i r q=>⟨XE s a n (vr i) r (KT i) q,VY M r (Ce a n (vr i) r (KT i) q)⟩
def eF (n:Int) (t:Ty):Bool:=if t.kind=0 then decide (t.id=0)&&decide (t.args.length=0) else ins n t
def dw (s:List Ty) (n:Nat):Nat->Option (Option (Bool×DM×OM))
 | 0=>some (some (false,[],[]))
 | i+1=>match dw s n i with
  | some (some (b,d,o))=>match bw s n (vr i) d o with
   | some (some (k,a,o'))=>some (some (b||decide (k>8),a,o'))
   | some none=>some none
   | none=>none
  | some none=>some none
  | none=>none
def bA (s:List Ty) (n:Nat):Option (Option (DM×OM)) :=
 if s.all (eF s.length) then(match dw s n s.length with
  | some (some (b,d,o))=>if b then some none else some (some (d,o))
  | some none=>some none
  | none=>none) else some none
def RF (s:List Ty) (r:Option (DM×OM)):List TO->C->Prop:=fun Mo v=>∃d o,r=some (d,o)/\Mo=Iy s d o/\v=.tup []
def PF (e:Int) (r:Option (DM×OM)):Value->Prop:=fun v=>r=none/\∃a,(a=1\/a=e)/\v=cB a
def DI (s:List Ty) (e:Int) (r:Option (DM×OM)):Prop:=CallsTX P 58 [.own 1000 0,IC e] (o4 s) (RF s r) (PF e r)
section
variable {L:TL}{ρ:aK}
theorem Cf (ks ko:List Nat) {PS:nD}{args:List C}{K:TL->aK->C->Prop}{s:List Ty}{e:Int}{r:Option (DM×OM)}{Lin:List TO}(h:DI s e r) (l:L.sub ks=some Lin)
  (a:(T.aP ks&&T.aP ko&&T.jt L ks ko&&aI Lin ks ko&&ju L ks PS.hb)=true) (b:(args.map fun c=>c.aaj.ren (bh ks 1000))=[.own 1000 0,IC e]) (p:Lin.map (TO.aad (C.ren (bh ks 1000)))=o4 s) (f:ko.length=4) (m:∀v,PF e r v->PS.ps v)
  (k:∀d o,r=some (d,o)->K (((L.aae ks).kills (rowsOf L ks)).puts ko ((Iy s d o).map (TO.aad (C.ren (aH ko))))) (dh (rowsOf L ks) ρ) (.tup [])):kR P PS 58 args L ρ K:=by
 simp only[xo] at a;obtain⟨⟨⟨⟨q,n⟩,c3⟩,c4⟩,c5⟩:=a;refine⟨[],ks,ko,L,Lin,_,_,.inl rfl,l,q,n,c3,c4,c5,by rw[p,b];exact h,m,?_⟩;rintro v Mo ⟨d,o,t,rfl,rfl⟩ u j;exact⟨f,k d o t⟩
end
abbrev qX (t:Ty):List C:=[IC t.kind,IC t.id,.sl (t.args.map aG)]
abbrev LU (s:List Ty):List TO:=[.box 89 [.own 1001 0],.box 93 [.rw 1002,.any,.any],.row 32 3 (s.map aG)]
def mT (s:List Ty) (a b:Ty):Bool:=ins s.length a&&ins s.length b&&!decide (max (cn a) (cn b)>8)
def KU (n:Nat) (s:List Ty) (a b:Ty) (s':List Ty):Prop :=
 (∃d o,bA s n=some (some (d,o)))/\mT s a b=true/\lD n s a b=some (some s')/\∃d o k c o',bA s' n=some (some (d,o))/\bw s' n a d o=some (some (k,c,o'))/\k<=8
def PL (n:Nat) (s:List Ty) (a b:Ty) (e:Int):Prop :=
 (bA s n=some none/\e=1)\/((∃d o,bA s n=some (some (d,o)))/\((mT s a b=false/\e=1)\/(mT s a b=true/\((lD n s a b=some none/\e=8) \/
  ∃s',lD n s a b=some (some s')/\(e=1\/e=2)/\(bA s' n=some none\/∃d o,bA s' n=some (some (d,o))/\(bw s' n a d o=some none\/∃k c o',bw s' n a d o=some (some (k,c,o'))/\k>8))))))
structure Fuel (n:Nat) (s:List Ty) (a b:Ty):Prop where
 form:∃r,bA s n=some r
 eq:(∃d o,bA s n=some (some (d,o)))->mT s a b=true->∃r,lD n s a b=some r
 form':(∃d o,bA s n=some (some (d,o)))->mT s a b=true->∀s',lD n s a b=some (some s')->∃r,bA s' n=some r
 deep:(∃d o,bA s n=some (some (d,o)))->mT s a b=true->∀s',lD n s a b=some (some s')->∀d o,bA s' n=some (some (d,o))->∃r,bw s' n a d o=some r
def RU (n:Nat) (s:List Ty) (a b:Ty):List TO->C->Prop:=fun Mo v=>∃s',KU n s a b s'/\Mo=LU s'/\v=.tup []
def PU (n:Nat) (s:List Ty) (a b:Ty):Value->Prop:=fun v=>∃e,PL n s a b e/\v=cB e
abbrev KV (s:List Ty) (a b:Ty) (R:List TO->C->Prop) (Pp:Value->Prop):Prop:=CallsTX P 62 [.own 1000 0,.pt (qX a) 0,.pt (qX b) 0] (LU s) R Pp
theorem Om (n:Nat) (s:List Ty) (a b:Ty) (h1:bA s n=some none) (f:∀s e r,bA s n=some r->DI s e r):KV s a b (RU n s a b) (PU n s a b):=by
 refine aU Try.func62 BN rfl fun j _=>?_;refine Cf [1001,1002] [1001,1002,2003,2004] (f s 1 none h1) rfl rfl rfl rfl rfl (fun v q=>?_) fun d o e=>by cases e
 exact q.2.elim fun h c=>⟨h,.inl ⟨h1,by omega⟩,c.2⟩
theorem Oo (n:Nat) (s:List Ty) (a b:Ty) (d:DM) (o:OM) (h1:bA s n=some (some (d,o))) (hf:∀s e r,bA s n=some r->DI s e r) (u:mT s a b=false) (l:cn a<=2 ^ 40) (m:cn b<=2 ^ 40):KV s a b (RU n s a b) (PU n s a b):=by
 have j:=Sw a l;have p:=Sw b m;have k:=fun D O t=>PA s D O t;have c:PU n s a b (cB 1):=⟨1,.inr ⟨⟨d,o,h1⟩,.inl ⟨u,rfl⟩⟩,rfl⟩;have z:mT s a b=(ins s.length a&&ins s.length b&&!decide (max (cn a) (cn b)>8)):=rfl;rw[z] at u;generalize PU n s a b=Q at c ⊢;generalize RU n s a b=R;have x:=hf s 1 _ h1;generalize cn a=w at *;generalize cn b=y at *;refine aU Try.func62 BN rfl fun hw _=>?_;refine Cf [1001,1002] [1001,1002,2003,2004] x rfl rfl rfl rfl rfl (fun v q=>by cases q.1) fun d o e=>?_;refine xV [1001,1002,2003,2004] [1001,1002,2003,2004] (k _ _ a) rfl rfl rfl rfl rfl fun _ _=>?_;refine aq (fun h=>?_) (fun h=>?_)
 ·exact o7 rfl c
 refine xV [1001,1002,2003,2004] [1001,1002,2003,2004] (k _ _ b) rfl rfl rfl rfl rfl fun _ _=>?_;refine aq (fun hb=>?_) (fun hb=>?_)
 ·exact o7 rfl c
 refine bJ j rfl fun _=>?_;refine bJ p rfl fun _=>?_;refine⟨?_,?_⟩
 ·exact Uu (a:=w) (b:=y) l m
 refine ah (fun aa=>?_) (fun f=>?_)
 ·exact o7 rfl c
 ·have f:¬(if(y:Int)>(w:Int) then(y:Int) else(w:Int))>8:=f;have h:(!ins s.length a)=false:=h;have hb:(!ins s.length b)=false:=hb;rw[Bool.not_eq_false'] at h hb;rw[h,hb,aaS,aaS,Bool.not_eq_false',aaZ] at u;exact o5 u (by split at f<;>omega)
theorem Ra (n:Nat) (s:List Ty) (a b:Ty) (d:DM) (o:OM) (h1:bA s n=some (some (d,o))) (hf:∀s e r,bA s n=some r->DI s e r) (h:mT s a b=true) (ac:cn a<=2 ^ 40) (ag:cn b<=2 ^ 40)
  (r:Option (List Ty)) (hr:lD n s a b=some r) (ao:si s a b (RE r) (PE r)) (aw:∀s',r=some s'->∃p,bA s' n=some p/\DI s' 2 p) (az:∀s',r=some s'->∀d o,bA s' n=some (some (d,o))->∃p,bw s' n a d o=some p/\Oh s' a d o (KP s' p) (PD p)):KV s a b (RU n s a b) (PU n s a b):=by
 have x:=Sw a ac;have al:=Sw b ag;have z:=fun D O t=>PA s D O t;have h0:∃d o,bA s n=some (some (d,o)):=⟨d,o,h1⟩;have am:r=none->PU n s a b (cB 8):=fun e=>⟨8,.inr ⟨h0,.inr ⟨h,.inl ⟨by rw[hr,e],rfl⟩⟩⟩,rfl⟩;have w:∀s',r=some s'->bA s' n=some none->∀e,(e=1\/e=2)->PU n s a b (cB e):=fun s' e c k f=>⟨k,.inr ⟨h0,.inr ⟨h,.inr ⟨s',by rw[hr,e],f,.inl c⟩⟩⟩,rfl⟩;have ab:∀s',r=some s'->∀d o,bA s' n=some (some (d,o))->bw s' n a d o=some none->PU n s a b (cB 1):=fun s' e d o c f=>⟨1,.inr ⟨h0,.inr ⟨h,.inr ⟨s',by rw[hr,e],.inl rfl,.inr ⟨d,o,c,.inl f⟩⟩⟩⟩,rfl⟩;have aa:∀s',r=some s'->∀d o,bA s' n=some (some (d,o))->∀k j o',bw s' n a d o=some (some (k,j,o'))->k>8->PU n s a b (cB 2):=fun s' e d o c k j o' f y=>⟨2,.inr ⟨h0,.inr ⟨h,.inr ⟨s',by rw[hr,e],.inr rfl,.inr ⟨d,o,c,.inr ⟨k,j,o',f,y⟩⟩⟩⟩⟩,rfl⟩;have ad:∀s',r=some s'->∀d o,bA s' n=some (some (d,o))->∀k j o',bw s' n a d o=some (some (k,j,o'))->¬k>8->RU n s a b (LU s') (.tup []):=fun s' e d o c k j o' f y=>⟨s',⟨h0,h,by rw[hr,e],d,o,k,j,o',c,f,by omega⟩,rfl,rfl⟩;have ba:mT s a b=(ins s.length a&&ins s.length b&&!decide (max (cn a) (cn b)>8)):=rfl;rw[ba] at h;generalize PU n s a b=Q at am w ab aa ⊢;generalize RU n s a b=R at ad ⊢;have av:=hf s 1 _ h1;generalize cn a=da at *;generalize cn b=db at *;simp only[xo,Bool.not_eq_true',ab1] at h;refine aU Try.func62 BN rfl fun hw _=>?_;refine Cf [1001,1002] [1001,1002,2003,2004] av rfl rfl rfl rfl rfl (fun v q=>by cases q.1) fun d o e=>?_;refine xV [1001,1002,2003,2004] [1001,1002,2003,2004] (z _ _ a) rfl rfl rfl rfl rfl fun _ _=>?_;refine aq (fun ha=>o5 (show(!ins s.length a)=true from ha) (by rw[h.1.1];exact aa8)) (fun ha=>?_);refine xV [1001,1002,2003,2004] [1001,1002,2003,2004] (z _ _ b) rfl rfl rfl rfl rfl fun _ _=>?_;refine aq (fun ha=>o5 (show(!ins s.length b)=true from ha) (by rw[h.1.2];exact aa8)) (fun hb=>?_);refine bJ x rfl fun _=>?_;refine bJ al rfl fun _=>?_;refine⟨?_,?_⟩
 ·exact Uu (a:=da) (b:=db) ac ag
 refine ah (fun m=>?_) (fun be=>?_)
 ·have m:(if(db:Int)>(da:Int) then(db:Int) else(da:Int))>8:=m;have h8:=h.2;exact o5 m (by split<;>omega)
 refine PG [1001,1002] ao rfl rfl rfl rfl rfl (fun v q=>?_) fun s' e=>?_
 ·exact q.2▸am q.1
 refine vP (aw s' e) fun p u=>?_;refine Cf [1001,1002] [1001,1002,2005,2006] u.2 rfl rfl rfl rfl rfl (fun v q=>?_) fun d o e2=>?_
 ·exact q.2.elim fun e' he=>he.2▸w s' e (by rw[u.1,q.1]) e' he.1
 have c:bA s' n=some (some (d,o)):=by rw[u.1,e2]
 refine vP (az s' e d o c) fun rd l=>?_;refine Cd [1001,1002,2005,2006] l.2 rfl rfl rfl rfl rfl (fun v q=>?_) fun k j o' e3 _=>?_
 ·exact q.2▸ab s' e d o c (by rw[l.1,q.1])
 refine ah (fun f=>?_) (fun f=>?_)
 ·exact o7 rfl (aa s' e d o c k j o' (by rw[l.1,e3]) f)
 ·exact pu [1000,1001,1002] rfl rfl rfl rfl (ad s' e d o c k j o' (by rw[l.1,e3]) f)
theorem t62 (n:Nat) (s:List Ty) (a b:Ty) (F:Fuel n s a b) (l:∀s e r,bA s n=some r->DI s e r) (j:cn a<=2 ^ 40) (k:cn b<=2 ^ 40):KV s a b (RU n s a b) (PU n s a b):=by
 obtain⟨r,h1⟩:=F.form;cases r with
 | none=>exact Om n s a b h1 l
 | some r =>
  obtain⟨d,o⟩:=r;have h0:∃d o,bA s n=some (some (d,o)):=⟨d,o,h1⟩;cases c:mT s a b with
  | false=>exact Oo n s a b d o h1 l c j k
  | true =>
   obtain⟨r,m⟩:=F.eq h0 c;refine Ra n s a b d o h1 l c j k r m (VS n s a b r m) (fun s' e=>?_) fun s' e d o p=>?_
   ·obtain⟨f,h⟩:=F.form' h0 c s' (by rw[m,e]);exact⟨f,h,l s' 2 f h⟩
   ·obtain⟨f,h⟩:=F.deep h0 c s' (by rw[m,e]) d o p;exact⟨f,h,Gp s' n a d o f h⟩
theorem uZ {f g:Ty->Option Bool}:∀{l:List Ty}{b:Bool},(∀x∈l,∀b,f x=some b->g x=some b)->vR f l=some b->vR g l=some b
 | [],b,_,h=>h
 | x::l,b,j,h=>by
  rw[vR] at h ⊢;cases d:f x with
  | none=>simp only[d] at h;cases h
  | some a =>
   cases e:vR f l with
   | none=>simp only[d,e] at h;cases h
   | some c =>
    simp only[d,e] at h;simp only[j x (by simp) a d,uZ (fun y k=>j y (by simp[k])) e];exact h
theorem AB {f g:Ty->Option Ty}:∀{l r:List Ty},(∀x∈l,∀b,f x=some b->g x=some b)->kV f l=some r->kV g l=some r
 | [],b,_,h=>h
 | x::l,b,j,h=>by
  rw[kV] at h ⊢;cases d:f x with
  | none=>simp only[d] at h;cases h
  | some a =>
   cases e:kV f l with
   | none=>simp only[d,e] at h;cases h
   | some c =>
    simp only[d,e] at h;simp only[j x (by simp) a d,AB (fun y k=>j y (by simp[k])) e];exact h
theorem qP {f g:List Ty->Ty->Ty->Option (Option (List Ty))}:∀{l c:List Ty}{s:List Ty}{r:Option (List Ty)},(∀s x y b,f s x y=some b->g s x y=some b)->j9 f s l c=some r->j9 g s l c=some r
 | [],c,s,r,_,h=>h
 | x::l,[],s,r,_,h=>h
 | x::l,y::c,s,r,e,h=>by
  rw[j9] at h ⊢;cases d:f s x y with
  | none=>simp only[d] at h;cases h
  | some a =>
   simp only[d] at h;simp only[e s x y a d];cases a with
   | none=>exact h
   | some s'=>exact qP e h
theorem sj {f g:Ty->DM->OM->Option (Option (Int×DM×OM))}:∀{l:List Ty}{k:Int}{d:DM}{o:OM}{r:Option (Int×DM×OM)},(∀x d o b,f x d o=some b->g x d o=some b)->dX f l k d o=some r->dX g l k d o=some r
 | [],k,d,o,r,_,h=>h
 | x::l,k,d,o,r,e,h=>by
  rw[dX] at h ⊢;cases c:f x d o with
  | none=>simp only[c] at h;cases h
  | some a =>
   simp only[c] at h;simp only[e x d o a c];cases a with
   | none=>exact h
   | some p=>exact sj e h
theorem dA {s:List Ty}:∀{n m:Nat}{t r:Ty},n<=m->aO s n t=some r->aO s m t=some r
 | 0,m,t,r,_,h=>by cases h
 | n+1,0,t,r,d,h=>o5 d (by omega)
 | n+1,m+1,t,r,d,h=>by
  rw[aO] at h ⊢
  by_cases c:t.kind=9
  ·rw[fo c] at h ⊢;cases a:bQ s t with
   | none=>rw[a] at h;cases h
   | some x =>
    rw[a] at h;simp only at h ⊢
    by_cases b:x.kind=0
    ·rw[fo b] at h ⊢;exact h
    ·rw[fL b] at h ⊢;exact dA (by omega) h
  ·rw[fL c] at h ⊢;exact h
theorem mq {s:List Ty}{v:Int}:∀{n m:Nat}{t:Ty}{r:Bool},n<=m->kQ s v n t=some r->kQ s v m t=some r
 | 0,m,t,r,_,h=>by cases h
 | n+1,0,t,r,d,h=>o5 d (by omega)
 | n+1,m+1,t,r,d,h=>by
  rw[kQ] at h ⊢;cases a:aO s n t with
  | none=>rw[a] at h;cases h
  | some e =>
   rw[a] at h;rw[dA (by omega) a];simp only at h ⊢
   by_cases c:e.kind=9
   ·rw[fo c] at h ⊢;exact h
   ·rw[fL c] at h ⊢;exact uZ (fun x _ b hb=>mq (by omega) hb) h
theorem mM {s:List Ty}:∀{n m:Nat}{t r:Ty},n<=m->oK s n t=some r->oK s m t=some r
 | 0,m,t,r,_,h=>by cases h
 | n+1,0,t,r,e,h=>o5 e (by omega)
 | n+1,m+1,t,r,e,h=>by
  rw[oK] at h ⊢;cases c:(if t.kind=9 then bQ s t else some (.mk 0 0 [])) with
  | none=>simp only[c] at h;cases h
  | some x =>
   simp only[c] at h ⊢
   by_cases d:x.kind=0
   ·rw[fL (fun q=>q d)] at h ⊢;cases a:kV (oK s n) t.args with
    | none=>simp only[a] at h;cases h
    | some l =>
     simp only[a] at h;simp only[AB (g:=oK s m) (fun x _ b hb=>mM (by omega) hb) a];exact h
   ·rw[fo d] at h ⊢;exact mM (by omega) h
theorem gP:∀{n m:Nat}{s:List Ty}{a b:Ty}{r:Option (List Ty)},n<=m->lD n s a b=some r->lD m s a b=some r
 | 0,m,s,a,b,r,_,h=>by cases h
 | n+1,0,s,a,b,r,k,h=>o5 k (by omega)
 | n+1,m+1,s,a,b,r,k,h=>by
  rw[lD] at h ⊢;cases c:aO s n a with
  | none=>simp only[c] at h;cases h
  | some a' =>
   cases hb:aO s n b with
   | none=>simp only[c,hb] at h;cases h
   | some e =>
    simp only[c,hb] at h;simp only[dA (show n<=m by omega) c,dA (show n<=m by omega) hb]
    by_cases h1:a'.kind=9/\e.kind=9
    ·rw[fo h1] at h ⊢;exact h
    rw[fL h1] at h ⊢
    by_cases j:a'.kind=9
    ·rw[fo j] at h ⊢;cases f:kQ s a'.id n e with
     | none=>rw[f] at h;cases h
     | some q=>rw[f] at h;rw[mq (show n<=m by omega) f];exact h
    rw[fL j] at h ⊢
    by_cases l:e.kind=9
    ·rw[fo l] at h ⊢;exact gP (by omega) h
    rw[fL l] at h ⊢;split at h
    ·rename_i d;rw[fo d];exact h
    ·rename_i d;rw[fL d];exact qP (fun s x y b o=>gP (by omega) o) h
theorem gK {s:List Ty}:∀{n m:Nat}{t:Ty}{d:DM}{o:OM}{r:Option (Int×DM×OM)},n<=m->bw s n t d o=some r->bw s m t d o=some r
 | 0,m,t,d,o,r,_,h=>by cases h
 | n+1,0,t,d,o,r,l,h=>o5 l (by omega)
 | n+1,m+1,t,d,o,r,l,h=>by
  rw[bw] at h ⊢;cases p:(if t.kind=9 then bQ s t else some (.mk 0 0 [])) with
  | none=>simp only[p] at h;cases h
  | some x =>
   simp only[p] at h ⊢
   by_cases v:x.kind=0
   ·rw[fL (fun q=>q v)] at h ⊢;cases c:dX (bw s n) t.args 0 d o with
    | none=>simp only[c] at h;cases h
    | some q =>
     simp only[c] at h;simp only[sj (g:=bw s m) (fun x d o b hb=>gK (by omega) hb) c];exact h
   ·rw[fo v] at h ⊢;cases j:bM d t.id with
    | some k=>simp only[j] at h ⊢;exact h
    | none =>
     simp only[j] at h ⊢;have key:∀{X:Option (Option (Int×DM×OM))},bw s n x d (eD o t.id true)=X->X≠none->bw s m x d (eD o t.id true)=X:=by
      intro X e w;cases X with
      | none=>exact o5 rfl w
      | some q=>exact gK (by omega) e
     cases f:bM o t.id with
     | none =>
      simp only[f] at h ⊢;cases a:bw s n x d (eD o t.id true) with
      | none=>simp only[a] at h;cases h
      | some q=>simp only[a] at h;simp only[key a (by simp)];exact h
     | some u =>
      cases u with
      | true=>simp only[f] at h ⊢;exact h
      | false =>
       simp only[f] at h ⊢;cases a:bw s n x d (eD o t.id true) with
       | none=>simp only[a] at h;cases h
       | some q=>simp only[a] at h;simp only[key a (by simp)];exact h
theorem oM {s:List Ty}{n m:Nat}(e:n<=m):∀{i:Nat}{r:Option (Bool×DM×OM)},dw s n i=some r->dw s m i=some r
 | 0,r,h=>h
 | i+1,r,h=>by
  rw[dw] at h ⊢;cases a:dw s n i with
  | none=>simp only[a] at h;cases h
  | some q =>
   simp only[a] at h;simp only[oM e a];cases q with
   | none=>exact h
   | some p =>
    obtain⟨b,d,o⟩:=p;simp only at h ⊢;cases c:bw s n (vr i) d o with
    | none=>simp only[c] at h;cases h
    | some q=>simp only[c] at h;simp only[gK e c];exact h
theorem kg {s:List Ty}{n m:Nat}(c:n<=m) {r:Option (DM×OM)}(h:bA s n=some r):bA s m=some r:=by
 unfold bA at h ⊢;split
 ·rename_i b;rw[fo b] at h;cases a:dw s n s.length with
  | none=>simp only[a] at h;cases h
  | some q=>simp only[a] at h;simp only[oM c a];exact h
 ·rename_i b;rw[fL b] at h;exact h
theorem sn {s:List Ty}{n m:Nat}(b:n<=m):∀{i:Nat}{d r:DM},iL s n i d=some r->iL s m i d=some r
 | 0,d,r,h=>h
 | i+1,d,r,h=>by
  rw[iL] at h ⊢;cases a:aO s n (vr i) with
  | none=>simp only[a] at h;cases h
  | some t=>simp only[a] at h;simp only[dA b a];exact sn b h
theorem u4 {s:List Ty}{n m:Nat}(c:n<=m) {d:DM}:∀{i:Nat}{r:List Ty},py s n d i=some r->py s m d i=some r
 | 0,r,h=>h
 | i+1,r,h=>by
  rw[py] at h ⊢;cases a:py s n d i with
  | none=>simp only[a] at h;cases h
  | some l =>
   cases b:oK s n (vr i) with
   | none=>simp only[a,b] at h;cases h
   | some t=>simp only[a,b] at h;simp only[u4 c a,mM c b];exact h
theorem su {s:List Ty}{n m:Nat}(b:n<=m) {r:List Ty}(h:jJ s n=some r):jJ s m=some r:=by
 unfold jJ at h ⊢;cases a:iL s n s.length [] with
 | none=>simp only[a] at h;cases h
 | some d=>simp only[a] at h;simp only[sn b a];exact u4 b h
theorem nQ {c d:Type}{f:Nat->c->Option d}(b:∀{n m:Nat}{x:c}{r:d},n<=m->f n x=some r->f m x=some r):∀{l:List c},(∀x∈l,∃n r,f n x=some r)->∃n,∀x∈l,∃r,f n x=some r
 | [],_=>⟨0,fun x h=>by cases h⟩
 | x::l,h=>by
  obtain⟨n,h1⟩:=nQ (f:=f) b (l:=l) fun y a=>h y (by simp[a]);obtain⟨k,r,e⟩:=h x (by simp);refine⟨max n k,fun y a=>?_⟩;rcases aaT.1 a with rfl | a
  ·exact⟨r,b (Nat.le_max_right _ _) e⟩
  ·obtain⟨r,j⟩:=h1 y a;exact⟨r,b (Nat.le_max_left _ _) j⟩
theorem Gr {f:Ty->Option Bool}:∀{l:List Ty},(∀x∈l,∃b,f x=some b)->∃b,vR f l=some b
 | [],_=>⟨false,rfl⟩
 | x::l,h=>by
  obtain⟨a,h1⟩:=h x (by simp);obtain⟨b,c⟩:=Gr (l:=l) fun y d=>h y (by simp[d]);exact⟨a||b,by rw[vR,h1,c]⟩
theorem wA {f:Ty->Option Ty}:∀{l:List Ty},(∀x∈l,∃b,f x=some b)->∃b,kV f l=some b
 | [],_=>⟨[],rfl⟩
 | x::l,h=>by
  obtain⟨a,h1⟩:=h x (by simp);obtain⟨b,c⟩:=wA (l:=l) fun y d=>h y (by simp[d]);exact⟨a::b,by rw[kV,h1,c]⟩
inductive jP (s:List Ty):Ty->Prop
 | step {t x:Ty}(h9:t.kind=9) (he:bQ s t=some x) (hk:¬x.kind=0) (h:jP s x):jP s t
 | stop {t x:Ty}(h9:t.kind=9) (he:bQ s t=some x) (hk:x.kind=0) (h:∀y∈t.args,jP s y):jP s t
 | arg {t:Ty}(h9:¬t.kind=9) (h:∀y∈t.args,jP s y):jP s t
theorem jP.front {s:List Ty}{t:Ty}(h:jP s t):∃n r,aO s n t=some r:=by
 induction h with
 | step a b c _ d =>
  obtain⟨n,r,h⟩:=d;exact⟨n+1,r,by rw[aO,fo a,b];simp only;rw[fL c];exact h⟩
 | stop a b c _ _=>exact⟨1,_,by rw[aO,fo a,b];simp only;rw[fo c]⟩
 | arg a _ _=>exact⟨1,_,by rw[aO,fL a]⟩
theorem jP.ap {s:List Ty}{t:Ty}(h:jP s t):∃n r,oK s n t=some r:=by
 induction h with
 | step b c e _ a =>
  obtain⟨n,r,h⟩:=a;exact⟨n+1,r,by rw[oK,fo b,c];simp only;rw[fo e];exact h⟩
 | stop b c e _ a =>
  obtain⟨n,h⟩:=nQ (f:=oK s) mM a;obtain⟨l,d⟩:=wA h;exact⟨n+1,_,by rw[oK,fo b,c];simp only;rw[fL (fun q=>q e),d]⟩
 | arg b _ a =>
  obtain⟨n,h⟩:=nQ (f:=oK s) mM a;obtain⟨l,d⟩:=wA h;exact⟨n+1,_,by rw[oK,fL b];simp only;rw[fL (fun q=>q rfl),d]⟩
theorem jP.occ {s:List Ty}(v:Int) {t:Ty}(h:jP s t):∃n r,kQ s v n t=some r:=by
 induction h with
 | @step t x a d j _ c =>
  obtain⟨n,r,h⟩:=c;cases n with
  | zero=>cases h
  | succ n =>
   refine⟨n+2,r,?_⟩;rw[kQ] at h ⊢;have e:aO s (n+1) t=aO s n x:=by rw[aO,fo a,d];simp only;rw[fL j]
   rw[e];cases k:aO s n x with
   | none=>rw[k] at h;cases h
   | some m =>
    rw[k] at h;simp only at h ⊢
    by_cases a:m.kind=9
    ·rw[fo a] at h ⊢;exact h
    ·rw[fL a] at h ⊢;exact uZ (fun x _ b hb=>mq (Nat.le_succ _) hb) h
 | @stop t x a d j _ _ =>
  exact⟨2,_,by rw[kQ,aO,fo a,d];simp only;rw[fo j];simp only;rw[fo a]⟩
 | @arg t a _ c =>
  obtain⟨n,h⟩:=nQ (f:=kQ s v) mq c;have h:∀x∈t.args,∃b,kQ s v (n+1) x=some b:=fun x l=>by
   obtain⟨b,hb⟩:=h x l;exact⟨b,mq (Nat.le_succ _) hb⟩
  obtain⟨b,hb⟩:=Gr h;exact⟨n+2,b,by rw[kQ,aO,fL a];simp only;rw[fL a];exact hb⟩
theorem fD {s:List Ty}:∀{n:Nat}{t r:Ty},aO s n t=some r->r.kind=9->∃x,bQ s r=some x/\x.kind=0
 | 0,t,r,h,_=>by cases h
 | n+1,t,r,h,d=>by
  rw[aO] at h
  by_cases b:t.kind=9
  ·rw[fo b] at h;cases a:bQ s t with
   | none=>rw[a] at h;cases h
   | some x =>
    rw[a] at h;simp only at h
    by_cases c:x.kind=0
    ·rw[fo c] at h;injection h with h;rw[<-h];exact⟨x,a,c⟩
    ·rw[fL c] at h;exact fD h d
  ·rw[fL b] at h;injection h with h;exact o5 d (h▸b)
theorem E7 {s:List Ty}{t x:Ty}(c:t.kind=9) (a:bQ s t=some x) (b:x.kind=0) (n:Nat):aO s (n+1) t=some t:=by
 rw[aO,fo c,a];simp only;rw[fo b]
theorem AE {s:List Ty}{t:Ty}(a:¬t.kind=9) (n:Nat):aO s (n+1) t=some t:=by
 rw[aO,fL a]
theorem vE {s:List Ty}{n m:Nat}{t r:Ty}(h:aO s n t=some r):aO s (m+1) r=some r:=by
 by_cases a:r.kind=9
 ·obtain⟨x,b,c⟩:=fD h a;exact E7 a b c m
 ·exact AE a m
theorem qQ {s:List Ty}{p:Ty->Prop}(e:∀t x,p t->t.kind=9->bQ s t=some x->¬x.kind=0->p x):∀{n:Nat}{t r:Ty},aO s n t=some r->p t->p r
 | 0,t,r,h,_=>by cases h
 | n+1,t,r,h,d=>by
  rw[aO] at h
  by_cases b:t.kind=9
  ·rw[fo b] at h;cases a:bQ s t with
   | none=>rw[a] at h;cases h
   | some x =>
    rw[a] at h;simp only at h
    by_cases c:x.kind=0
    ·rw[fo c] at h;injection h with h;rw[<-h];exact d
    ·rw[fL c] at h;exact qQ e h (e t x d b a c)
  ·rw[fL b] at h;injection h with h;exact h▸d
def Ex (s:List Ty) (t r:Ty):Prop:=∃n,oK s n t=some r
theorem Ex.one {s:List Ty}{t r q:Ty}(h:Ex s t r) (k:Ex s t q):r=q:=by
 obtain⟨n,h⟩:=h;obtain⟨m,k⟩:=k;have h1:=mM (Nat.le_max_left n m) h;have a:=mM (Nat.le_max_right n m) k;rw[h1] at a;exact abr a
theorem Ex.front {s:List Ty}:∀{n:Nat}{t a r:Ty},aO s n t=some a->Ex s t r->Ex s a r
 | 0,t,a,r,h,_=>by cases h
 | n+1,t,a,r,h,⟨m,k⟩=>by
  rw[aO] at h
  by_cases c:t.kind=9
  ·rw[fo c] at h;cases b:bQ s t with
   | none=>rw[b] at h;cases h
   | some x =>
    rw[b] at h;simp only at h
    by_cases d:x.kind=0
    ·rw[fo d] at h;injection h with h;rw[<-h];exact⟨m,k⟩
    ·rw[fL d] at h;cases m with
     | zero=>cases k
     | succ m =>
      rw[oK,fo c,b] at k;simp only at k;rw[fo d] at k;exact Ex.front h ⟨m,k⟩
  ·rw[fL c] at h;injection h with h;exact h▸⟨m,k⟩
theorem Ex.args {s:List Ty}{t r:Ty}(h:Ex s t r) (d:¬t.kind=9):r.kind=t.kind/\r.id=t.id/\r.args.length=t.args.length/\∀(j:Nat) (x:Ty),t.args[j]?=some x->∃y,r.args[j]?=some y/\Ex s x y:=by
 obtain⟨n,h⟩:=h;cases n with
 | zero=>cases h
 | succ n =>
  rw[oK,fL d] at h;simp only at h;rw[fL (fun q=>q rfl)] at h;cases a:kV (oK s n) t.args with
  | none=>simp only[a] at h;cases h
  | some l =>
   simp only[a] at h;injection h with h
   obtain⟨h1,b⟩:=jq a;subst h;refine⟨rfl,rfl,by show l.length=_;rw[b,v5],fun j x c=>?_⟩;refine⟨(oK s n x).getD x,by show l[j]?=_;rw[b,aa5,c];rfl,n,h1 x (aaX c)⟩
theorem nR {n:Int}{t:Ty}(h:ins n t=true):1<=t.kind/\t.kind<=9:=by
 rw[uX] at h;split at h
 ·cases h
 ·omega
theorem oN {n:Int}{t:Ty}(h:ins n t=true) (a:t.kind=9):0<=t.id/\t.id<n/\t.args=[]:=by
 have b:=nR h;rw[uX,fL (by omega),fo a] at h;simp only[xo,aaZ] at h;exact⟨h.1.1,h.1.2,abE h.2⟩
theorem eP {n:Int}{t:Ty}(h:ins n t=true):∀x∈t.args,ins n x=true:=by
 have c:=nR h
 by_cases a:t.kind=9
 ·rw[(oN h a).2.2];intro x b;cases b
 ·rw[uX,fL (by omega),fL a,aaY] at h;exact h
theorem u5 {n i:Int}(h0:0<=i) (h1:i<n):ins n (.mk 9 i [])=true:=by
 rw[uX,fL (by show¬((9:Int)<1\/(9:Int)<9);omega),fo (show(Ty.mk 9 i []).kind=9 from rfl)];simp only[xo,aaZ];exact⟨⟨h0,h1⟩,rfl⟩
theorem sw {n:Nat}{i:Nat}(h:i<n):ins n (vr i)=true:=u5 (by omega) (by omega)
theorem yA {n:Nat}{t:Ty}(h:ins n t=true) (a:t.kind=9):∃i:Nat,i<n/\t=vr i/\t.id=i:=by
 obtain⟨h0,h1,b⟩:=oN h a;refine⟨t.id.toNat,by omega,Ar a ?_ b,by omega⟩;show t.id=(t.id.toNat:Int);omega
def Eg (s:List Ty):Prop:=∀x∈s,x.kind=0\/ins s.length x=true
theorem qk {s:List Ty}{t x:Ty}(h:bQ s t=some x):x∈s:=aaX (bG h).2.1
theorem Eg.elem {s:List Ty}(h:Eg s) {t x:Ty}(a:bQ s t=some x) (b:¬x.kind=0):ins s.length x=true:=(h x (qk a)).resolve_left b
theorem Eg.front {s:List Ty}(h:Eg s) {n:Nat}{t r:Ty}(b:aO s n t=some r) (c:ins s.length t=true):ins s.length r=true :=
 qQ (p:=fun t=>ins s.length t=true) (fun t x _ _ a d=>h.elem a d) b c
theorem yB {s:List Ty}{t:Ty}(a:ins s.length t=true) (b:t.kind=9):∃x,bQ s t=some x/\x∈s:=by
 obtain⟨h0,h1,_⟩:=oN a b;exact KE h0 h1
structure Good (s:List Ty):Prop where
 ins:Eg s
 fin:∀i<s.length,jP s (vr i)
theorem Good.all {s:List Ty}(g:Good s):∀t:Ty,Try.ins s.length t=true->jP s t:=dJ fun t c h=>by
 by_cases a:t.kind=9
 ·obtain⟨i,hi,e,_⟩:=yA h a;rw[e];exact g.fin i hi
 ·exact .arg a fun y b=>c y b (eP h y b)
def mr:List Ty->Nat
 | []=>0
 | x::l=>(if x.kind=0 then 1 else 0)+mr l
theorem AF {b:Ty}(hb:¬b.kind=0):∀{s:List Ty}{i:Nat}{x:Ty},s[i]?=some x->x.kind=0->mr (s.set i b)<mr s
 | [],i,x,h,_=>by simp at h
 | y::s,0,x,h,a=>by
  rw[aa3] at h;injection h with h
  subst h;rw[List.set_cons_zero,mr,mr,fL hb,fo a];omega
 | y::s,i+1,x,h,a=>by
  rw[abk] at h;rw[List.set_cons_succ,mr,mr];have:=AF hb h a;omega
theorem mN {s:List Ty}{v:Int}{b t:Ty}(h0:0<=v) (h:t.id≠v):bQ (s.set v.toNat b) t=bQ s t:=by
 unfold bQ;split
 ·rfl
 ·rw[abN (by omega)]
theorem DJ {s:List Ty}{v:Int}{b t x:Ty}(h0:0<=v) (a:s[v.toNat]?=some x) (h:t.id=v):bQ (s.set v.toNat b) t=some b:=by
 unfold bQ;rw[fL (by omega),h,abR (aaR.1 a).1]
inductive ql (s:List Ty) (v:Int):Ty->Prop
 | step {t x:Ty}(h9:t.kind=9) (he:bQ s t=some x) (hk:¬x.kind=0) (h:ql s v x):ql s v t
 | stop {t x:Ty}(h9:t.kind=9) (he:bQ s t=some x) (hk:x.kind=0) (hv:t.id≠v) (ha:t.args=[]):ql s v t
 | arg {t:Ty}(h9:¬t.kind=9) (h:∀y∈t.args,ql s v y):ql s v t
theorem ql.front {s:List Ty}{v:Int}:∀{n:Nat}{t r:Ty},aO s n t=some r->ql s v r->ql s v t
 | 0,t,r,h,_=>by cases h
 | n+1,t,r,h,k=>by
  rw[aO] at h
  by_cases b:t.kind=9
  ·rw[fo b] at h;cases a:bQ s t with
   | none=>rw[a] at h;cases h
   | some x =>
    rw[a] at h;simp only at h
    by_cases c:x.kind=0
    ·rw[fo c] at h;injection h with h;rw[h];exact k
    ·rw[fL c] at h;exact .step b a c (ql.front h k)
  ·rw[fL b] at h;injection h with h;rw[h];exact k
theorem ql.of {s:List Ty}(d:Eg s) {v:Int}:∀{n:Nat}{t:Ty},ins s.length t=true->kQ s v n t=some false->ql s v t
 | 0,t,_,h=>by cases h
 | n+1,t,j,h=>by
  rw[kQ] at h;cases b:aO s n t with
  | none=>rw[b] at h;cases h
  | some r =>
   rw[b] at h;have e:=d.front b j;refine ql.front b ?_;simp only at h
   by_cases a:r.kind=9
   ·rw[fo a] at h;obtain⟨x,k,l⟩:=fD b a;exact .stop a k l (by injection h with h;exact abK h) (oN e a).2.2
   ·rw[fL a] at h;obtain⟨h1,f⟩:=qN h;refine .arg a fun y c=>ql.of d (n:=n) (eP e y c) ?_;have:=(abX.1 f) y c;rw[abZ] at this;rw[h1 y c,this]
theorem ql.set {s:List Ty}{v:Int}{b l t:Ty}(h0:0<=v) (p:s[v.toNat]?=some l) (k:l.kind=0) (h:ql s v t):jP (s.set v.toNat b) t:=by
 induction h with
 | @step t x a c d _ j =>
  have:t.id≠v:=fun e=>by
   obtain⟨_,f,_⟩:=bG c;rw[e,p] at f;injection f with f
   exact d (f▸k)
  exact .step a ((mN h0 this).trans c) d j
 | @stop t x a c d n m=>exact .stop a ((mN h0 n).trans c) d (by rw[m];intro y o;cases o)
 | @arg t a _ j=>exact .arg a j
theorem jP.set {s:List Ty}{v:Int}{b m t:Ty}(h0:0<=v) (n:s[v.toNat]?=some m) (k:m.kind=0) (l:¬b.kind=0) (hb:jP (s.set v.toNat b) b) (h:jP s t):jP (s.set v.toNat b) t:=by
 induction h with
 | @step t x a d f _ c =>
  have:t.id≠v:=fun e=>by
   obtain⟨_,j,_⟩:=bG d;rw[e,n] at j;injection j with j
   exact f (j▸k)
  exact .step a ((mN h0 this).trans d) f c
 | @stop t x a d f _ c =>
  by_cases e:t.id=v
  ·exact .step a (DJ h0 n e) l hb
  ·exact .stop a ((mN h0 e).trans d) f c
 | @arg t a _ c=>exact .arg a c
structure Eh (s s':List Ty):Prop where
 len:s'.length=s.length
 good:Good s'
 less:s'=s\/mr s'<mr s
theorem Eh.refl {s:List Ty}(g:Good s):Eh s s:=⟨rfl,g,.inl rfl⟩
theorem Eh.trans {s t r:List Ty}(h:Eh s t) (k:Eh t r):Eh s r:=by
 refine⟨k.len.trans h.len,k.good,?_⟩;rcases h.less with e | h1
 ·subst e;exact k.less
 ·rcases k.less with e | a
  ·subst e;exact .inr h1
  ·exact .inr (by omega)
theorem Good.bind {s:List Ty}(g:Good s) {v:Int}{b h:Ty}(h0:0<=v) (d:s[v.toNat]?=some h) (a:h.kind=0) (hb:Try.ins s.length b=true) (j:ql s v b):Eh s (s.set v.toNat b):=by
 have c:¬b.kind=0:=by have:=nR hb;omega
 have e:jP (s.set v.toNat b) b:=j.set h0 d a;refine⟨abu,⟨fun y f=>?_,fun i hi=>?_⟩,.inr (AF c d a)⟩
 ·rw[abu];rcases ab3 f with f | rfl
  ·exact g.ins y f
  ·exact .inr hb
 ·rw[abu] at hi;exact jP.set h0 d a c e (g.fin i hi)
theorem mA {n:Nat}{s:List Ty}{a b a' c:Ty}(d:aO s n a=some a') (hb:aO s n b=some c):lD (n+1) s a b =
   if a'.kind=9/\c.kind=9 then(if a'.id=c.id then some (some s) else some (some (s.set (max a'.id c.id).toNat (.mk 9 (min a'.id c.id) []))))
   else if a'.kind=9 then(match kQ s a'.id n c with
    | none=>none
    | some true=>some none
    | some false=>some (some (s.set a'.id.toNat c)))
   else if c.kind=9 then lD n s c a'
   else if a'.kind≠c.kind\/a'.id≠c.id\/a'.args.length≠c.args.length then some none
   else j9 (lD n) s a'.args c.args:=by
 rw[lD];simp only[d,hb];rfl
def Ends (s:List Ty) (a b:Ty):Prop:=∃n r,lD n s a b=some r/\∀s',r=some s'->Eh s s'
theorem KW {s:List Ty}(g:Good s) {a' c:Ty}(ha:Try.ins s.length a'=true) (hb:Try.ins s.length c=true) (u:a'.kind=9) (ab:∃x,bQ s a'=some x/\x.kind=0) (ad:c.kind=9->∃x,bQ s c=some x/\x.kind=0) :
  ∃t r,(∀s',r=some s'->Eh s s')/\∀n,t<=n->∀a b,aO s n a=some a'->aO s n b=some c->lD (n+1) s a b=some r:=by
 obtain⟨xa,p,j⟩:=ab;obtain⟨y,m,av⟩:=bG p
 by_cases f:c.kind=9
 ·obtain⟨xb,o,l⟩:=ad f;obtain⟨ao,z,am⟩:=bG o
  by_cases hi:a'.id=c.id
  ·refine⟨0,some s,fun s' e=>by injection e with e;subst e;exact Eh.refl g,fun n _ a b h1 h=>?_⟩;rw[mA h1 h,fo ⟨u,f⟩,fo hi]
  ·refine⟨0,some (s.set (max a'.id c.id).toNat (.mk 9 (min a'.id c.id) [])),fun s' e=>?_,fun n _ a b h1 h=>?_⟩
   ·injection e with e
    subst e;have w:∃k,s[(max a'.id c.id).toNat]?=some k/\k.kind=0:=by
     rcases Int.le_total a'.id c.id with d | d
     ·rw[Int.max_eq_right d];exact⟨xb,z,l⟩
     ·rw[Int.max_eq_left d];exact⟨xa,m,j⟩
    have ae:∃k,bQ s (.mk 9 (min a'.id c.id) [])=some k/\k.kind=0:=by
     rcases Int.le_total a'.id c.id with d | d
     ·rw[Int.min_eq_left d];exact⟨xa,p,j⟩
     ·rw[Int.min_eq_right d];exact⟨xb,o,l⟩
    obtain⟨k,q1,q2⟩:=w;obtain⟨x1,q3,q4⟩:=ae;have aa:min a'.id c.id≠max a'.id c.id:=by omega
    exact g.bind (by omega) q1 q2 (u5 (by omega) (by omega)) (.stop rfl q3 q4 aa rfl)
   ·rw[mA h1 h,fo ⟨u,f⟩,fL hi]
 ·obtain⟨t,r,ho⟩:=(g.all c hb).occ a'.id;cases r with
  | true =>
   refine⟨t,none,fun s' e=>(by cases e),fun n v a b h1 h=>?_⟩;rw[mA h1 h,fL (fun q=>f q.2),fo u,mq v ho]
  | false =>
   refine⟨t,some (s.set a'.id.toNat c),fun s' e=>?_,fun n v a b h1 h=>?_⟩
   ·injection e with e
    subst e;exact g.bind y m j hb (ql.of g.ins hb ho)
   ·rw[mA h1 h,fL (fun q=>f q.2),fo u,mq v ho]
theorem AG {N:Nat}(p:∀s,Good s->mr s<N->∀a b,Try.ins s.length a=true->Try.ins s.length b=true->Ends s a b) {d:List Ty}(t:mr d<=N) :
  ∀(l f:List Ty),l.length=f.length->(∀(j:Nat) (x y:Ty),l[j]?=some x->f[j]?=some y->Try.ins d.length x=true/\Try.ins d.length y=true/\Ends d x y)->∀s,Eh d s->∃n r,j9 (lD n) s l f=some r/\∀s',r=some s'->Eh d s'
 | [],f,_,_,s,c=>⟨0,some s,rfl,fun s' e=>by injection e with e;exact e▸c⟩
 | x::l,[],h,_,s,c=>by cases h
 | x::l,y::f,h,q,s,c=>by
  obtain⟨o,k,z⟩:=q 0 x y rfl rfl;have h1:Ends s x y:=by
   rcases c.less with e | aa
   ·rw[e];exact z
   ·exact p s c.good (by omega) x y (by rw[c.len];exact o) (by rw[c.len];exact k)
  obtain⟨n,r,h1,u⟩:=h1;cases r with
  | none=>exact⟨n,none,by rw[j9,h1],fun s' e=>by cases e⟩
  | some s1 =>
   obtain⟨m,r,v,w⟩:=AG p t l f (by simpa using h) (fun j x y o k=>q (j+1) x y o k) s1 (c.trans (u s1 rfl));refine⟨max n m,r,?_,w⟩;rw[j9,gP (Nat.le_max_left n m) h1];exact qP (fun s x y b hb=>gP (Nat.le_max_right n m) hb) v
theorem yC:∀(N:Nat) (s:List Ty),Good s->mr s<N->∀a b,ins s.length a=true->ins s.length b=true->Ends s a b
 | 0,s,_,h,_,_,_,_=>o5 h (aby _)
 | N+1,s,g,hu,a,b,w,hb=>by
  have hN:=yC N;have main:∀(M:Nat) (a b v u:Ty),ins s.length a=true->ins s.length b=true->Ex s a v->Ex s b u->SizeOf.sizeOf v+SizeOf.sizeOf u<M->Ends s a b:=by
   intro M
   induction M with
   | zero=>intro a b v u _ _ _ _ h;exact o5 h (aby _)
   | succ M ih =>
    intro a b v u w hb p l hM;obtain⟨n1,a',k⟩:=(g.all a w).front;obtain⟨n2,t,f⟩:=(g.all b hb).front;have m:=g.ins.front k w;have o:=g.ins.front f hb;have ao:=p.front k;have ag:=l.front f
    by_cases d:a'.kind=9
    ·obtain⟨n0,r,h1,z⟩:=KW g m o d (fD k d) (fun q=>fD f q);exact⟨_,r,z (max n0 (max n1 n2)) (by omega) a b (dA (by omega) k) (dA (by omega) f),h1⟩
    by_cases c:t.kind=9
    ·obtain⟨n0,r,h1,z⟩:=KW g o m c (fD f c) (fun q=>o5 q d);refine⟨max n0 (max n1 n2)+1+1+1,r,?_,h1⟩;rw[mA (dA (by omega) k) (dA (by omega) f),fL (fun q=>d q.1),fL d,fo c];exact z _ (by omega) t a' (vE f) (vE k)
    by_cases hd:a'.kind≠t.kind\/a'.id≠t.id\/a'.args.length≠t.args.length
    ·refine⟨max n1 n2+1,none,?_,fun s' e=>by cases e⟩;rw[mA (dA (by omega) k) (dA (by omega) f),fL (fun q=>d q.1),fL d,fL c,fo hd]
    ·obtain⟨e1,e2,e3,e4⟩:=ao.args d;obtain⟨f1,f2,f3,f4⟩:=ag.args c;obtain⟨n,r,h1,z⟩:=AG hN (show mr s<=N by omega) a'.args t.args (by omega) (fun j x y hx hy=>by
      obtain⟨x',an,am⟩:=e4 j x hx;obtain⟨y',ae,ar⟩:=f4 j y hy;have s1:=Gh (aaX an);have s2:=Gh (aaX ae);have aa:=eP m x (aaX hx);have ab:=eP o y (aaX hy);exact⟨aa,ab,ih x y x' y' aa ab am ar (by omega)⟩) s (Eh.refl g)
     refine⟨max n (max n1 n2)+1,r,?_,z⟩;rw[mA (dA (by omega) k) (dA (by omega) f),fL (fun q=>d q.1),fL d,fL c,fL hd];exact qP (fun s x y b hb=>gP (by omega) hb) h1
  obtain⟨na,v,p⟩:=(g.all a w).ap;obtain⟨nb,u,l⟩:=(g.all b hb).ap;exact main _ a b v u w hb ⟨na,p⟩ ⟨nb,l⟩ (abS _)
end Go.Fr.Try
