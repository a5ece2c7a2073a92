/- Part of the proofs of the statements of this seat. -/
import Derived.Test.YthfdbepkalpplaaUnD1G
set_option maxRecDepth 10000
set_option linter.unusedVariables false
set_option linter.unusedSimpArgs false
namespace Go.Fr.Try
open Go Go.RowKit Go.Proofs Go.Fr Go.Fr.T Go.Fr.Api
theorem Vz (s:List Ty) (t x:Ty) (h:CallsT P 95 [aK t,.own 1000 0] [.box 89 [.own 1001 0],.box 93 [.sl (s.map aD),.any,.any]] (aQ [.box 89 [.own 1001 0],.box 93 [.sl (s.map aD),.any,.any]] (.tup [aK x,.bool true]))):CallsT P 52 [aK t,.fn 95 [] [.own 1000 0]] [.box 89 [.own 1001 0],.box 93 [.sl (s.map aD),.any,.any]] (aQ [.box 89 [.own 1001 0],.box 93 [.sl (s.map aD),.any,.any]] (aK x)):=by
 refine af Try.func52 uQ rfl fun a _=>?_;refine callO [1000,1001] [1000,1001] h rfl rfl rfl rfl rfl fun _ _=>?_;exact bJ [1000,1001] rfl rfl rfl rfl
theorem VA (s:List Ty) (t:Ty) (f:Ty->Ty) (hb:t.args.length<=2 ^ 30) (h:CallsT P 95 [aK t,.own 1000 0] [.box 89 [.own 1001 0],.box 93 [.sl (s.map aD),.any,.any]] (aQ [.box 89 [.own 1001 0],.box 93 [.sl (s.map aD),.any,.any]] (.tup [aK t,.bool false])))
  (m:∀x∈t.args,CallsT P 52 [aK x,.fn 95 [] [.own 1000 0]] [.box 89 [.own 1001 0],.box 93 [.sl (s.map aD),.any,.any]] (aQ [.box 89 [.own 1001 0],.box 93 [.sl (s.map aD),.any,.any]] (aK (f x)))):CallsT P 52 [aK t,.fn 95 [] [.own 1000 0]] [.box 89 [.own 1001 0],.box 93 [.sl (s.map aD),.any,.any]] (aQ [.box 89 [.own 1001 0],.box 93 [.sl (s.map aD),.any,.any]] (aK (.mk t.kind t.id (t.args.map f)))):=by
 have c:(t.args.map aD).length=t.args.length:=vz _;refine af Try.func52 uQ rfl fun o _=>?_;refine callO [1000,1001] [1000,1001] h rfl rfl rfl rfl rfl fun _ _=>?_;refine bA t.args.length 26 [] ([]:List Ty) (fun _=>[]) (fun s'=>[(4,.box 32 [IC 0,IC 0,.nils]),(5,.box 32 [IC t.kind,IC t.id,.sl (t.args.map aD)]),(7,.box 32 [IC t.kind,IC t.id,.rw 36]),(36,.row 32 3 (s'.map aD)),(1000,.box 89 [.own 1001 0]),(1001,.box 93 [.sl (s.map aD),.any,.any])]) (fun j s'=>s'=(t.args.take j).map f) (by simp) (aj rfl) trivial
  ⟨.inl ⟨_,rfl,.inl ⟨rfl,rfl⟩⟩,.inl ⟨_,rfl,.inl ⟨rfl,rfl⟩⟩,.inl ⟨_,rfl,.inr ⟨32,_,_,rfl,rfl,_,_,rfl,aj rfl,_,_,rfl,aj rfl,_,_,rfl,jf rfl rfl,rfl⟩⟩,.inr ⟨rfl,32,3,rfl⟩,.inl ⟨_,rfl,.inl ⟨rfl,rfl⟩⟩,.inl ⟨_,rfl,.inl ⟨rfl,rfl⟩⟩,trivial⟩ (fun _=>rfl) (fun _=>rfl) ?_
 rintro j s' p a _ _ _;refine ah (fun b=>?_) (fun d=>?_)
 ·have b:j<t.args.length:=by rw[c] at b;omega
  refine bR b fun x l k=>?_;have n:(s'.map aD).length=j:=by rw[a,vz,vz,abM];omega
  refine bW l ?_;refine jh (Pp:=fun _=>False) [1000,1001] (m x k).toX rfl rfl rfl rfl rfl (fun _ h=>False.elim h) fun _ _=>?_;refine jN j rfl n (by decide) (by omega) ?_;refine Fit.aar (by omega) (by omega) ?_;refine⟨(j+1,s'++[f x]),⟨b,?_⟩,⟨aZ,trivial⟩,⟨.inl ⟨_,rfl,.inl ⟨rfl,rfl⟩⟩,.inl ⟨_,rfl,.inl ⟨rfl,rfl⟩⟩,.inl ⟨_,rfl,.inl ⟨rfl,rfl⟩⟩,.inl ⟨_,rfl,.inl ⟨mq sF,rfl⟩⟩,.inl ⟨_,rfl,.inl ⟨rfl,rfl⟩⟩,.inl ⟨_,rfl,.inl ⟨rfl,rfl⟩⟩,trivial⟩,bf b⟩;show s'++[f x]=(t.args.take (j+1)).map f;rw[dA l,a,abC];rfl
 ·have d:¬j<t.args.length:=by rw[c] at d;omega
  have e:C.agg [IC t.kind,IC t.id,.sl (s'.map aD)]=aK (.mk t.kind t.id (t.args.map f)):=by
   rw[a,abA (by omega)];rfl
  exact uL [36] [1000,1001] ⟨_,_,rfl,rfl,rfl,rfl,e⟩
theorem VB (m:DM) (t x:Ty) (h:CallsT P 98 [aK t,.own 1000 0] [.box 90 [.mpr 1001],.map (jt IC m)] (aQ [.box 90 [.mpr 1001],.map (jt IC m)] (.tup [aK x,.bool true]))):CallsT P 52 [aK t,.fn 98 [] [.own 1000 0]] [.box 90 [.mpr 1001],.map (jt IC m)] (aQ [.box 90 [.mpr 1001],.map (jt IC m)] (aK x)):=by
 refine af Try.func52 uQ rfl fun a _=>?_;refine callO [1000,1001] [1000,1001] h rfl rfl rfl rfl rfl fun _ _=>?_;exact bJ [1000,1001] rfl rfl rfl rfl
theorem VD (m:DM) (t:Ty) (f:Ty->Ty) (hb:t.args.length<=2 ^ 30) (h:CallsT P 98 [aK t,.own 1000 0] [.box 90 [.mpr 1001],.map (jt IC m)] (aQ [.box 90 [.mpr 1001],.map (jt IC m)] (.tup [aK t,.bool false])))
  (n:∀x∈t.args,CallsT P 52 [aK x,.fn 98 [] [.own 1000 0]] [.box 90 [.mpr 1001],.map (jt IC m)] (aQ [.box 90 [.mpr 1001],.map (jt IC m)] (aK (f x)))):CallsT P 52 [aK t,.fn 98 [] [.own 1000 0]] [.box 90 [.mpr 1001],.map (jt IC m)] (aQ [.box 90 [.mpr 1001],.map (jt IC m)] (aK (.mk t.kind t.id (t.args.map f)))):=by
 have c:(t.args.map aD).length=t.args.length:=vz _;refine af Try.func52 uQ rfl fun p _=>?_;refine callO [1000,1001] [1000,1001] h rfl rfl rfl rfl rfl fun _ _=>?_;refine bA t.args.length 26 [] ([]:List Ty) (fun _=>[]) (fun s'=>[(4,.box 32 [IC 0,IC 0,.nils]),(5,.box 32 [IC t.kind,IC t.id,.sl (t.args.map aD)]),(7,.box 32 [IC t.kind,IC t.id,.rw 36]),(36,.row 32 3 (s'.map aD)),(1000,.box 90 [.mpr 1001]),(1001,.map (jt IC m))]) (fun j s'=>s'=(t.args.take j).map f) (by simp) (aj rfl) trivial
  ⟨.inl ⟨_,rfl,.inl ⟨rfl,rfl⟩⟩,.inl ⟨_,rfl,.inl ⟨rfl,rfl⟩⟩,.inl ⟨_,rfl,.inr ⟨32,_,_,rfl,rfl,_,_,rfl,aj rfl,_,_,rfl,aj rfl,_,_,rfl,jf rfl rfl,rfl⟩⟩,.inr ⟨rfl,32,3,rfl⟩,.inl ⟨_,rfl,.inl ⟨rfl,rfl⟩⟩,.inl ⟨_,rfl,.inl ⟨rfl,rfl⟩⟩,trivial⟩ (fun _=>rfl) (fun _=>rfl) ?_
 rintro j s' q a _ _ _;refine ah (fun b=>?_) (fun d=>?_)
 ·have b:j<t.args.length:=by rw[c] at b;omega
  refine bR b fun x l k=>?_;have o:(s'.map aD).length=j:=by rw[a,vz,vz,abM];omega
  refine bW l ?_;refine jh (Pp:=fun _=>False) [1000,1001] (n x k).toX rfl rfl rfl rfl rfl (fun _ h=>False.elim h) fun _ _=>?_;refine jN j rfl o (by decide) (by omega) ?_;refine Fit.aar (by omega) (by omega) ?_;refine⟨(j+1,s'++[f x]),⟨b,?_⟩,⟨aZ,trivial⟩,⟨.inl ⟨_,rfl,.inl ⟨rfl,rfl⟩⟩,.inl ⟨_,rfl,.inl ⟨rfl,rfl⟩⟩,.inl ⟨_,rfl,.inl ⟨rfl,rfl⟩⟩,.inl ⟨_,rfl,.inl ⟨mq sF,rfl⟩⟩,.inl ⟨_,rfl,.inl ⟨rfl,rfl⟩⟩,.inl ⟨_,rfl,.inl ⟨rfl,rfl⟩⟩,trivial⟩,bf b⟩;show s'++[f x]=(t.args.take (j+1)).map f;rw[dA l,a,abC];rfl
 ·have d:¬j<t.args.length:=by rw[c] at d;omega
  have e:C.agg [IC t.kind,IC t.id,.sl (s'.map aD)]=aK (.mk t.kind t.id (t.args.map f)):=by
   rw[a,abA (by omega)];rfl
  exact uL [36] [1000,1001] ⟨_,_,rfl,rfl,rfl,rfl,e⟩
theorem YN (s:List Ty) (t x r:Ty) (c:t.kind=9) (h0:0<=t.id) (a:s[t.id.toNat]?=some x) (b:¬x.kind=0) (h:CallsT P 60 [.own 1000 0,aK x] (vF s) (aQ (vF s) (aK r))) :
  CallsT P 95 [aK t,.own 1000 0] [.box 89 [.own 1001 0],.box 93 [.sl (s.map aD),.any,.any]] (aQ [.box 89 [.own 1001 0],.box 93 [.sl (s.map aD),.any,.any]] (.tup [aK r,.bool true])):=by
 refine af Try.func95 HI rfl fun d _=>?_;refine ah (fun _=>?_) (fun q=>o5 c q);refine kg h0 a ?_;refine aT (fun _=>?_) (fun q=>o5 q b);refine kg h0 a ?_;refine zk [1001] [1001] h rfl rfl rfl rfl rfl fun _ _=>?_;exact bJ [1000,1001] rfl rfl rfl rfl
theorem YO (s:List Ty) (t:Ty) (c:t.kind=9->∃x,0<=t.id/\s[t.id.toNat]?=some x/\x.kind=0) :
  CallsT P 95 [aK t,.own 1000 0] [.box 89 [.own 1001 0],.box 93 [.sl (s.map aD),.any,.any]] (aQ [.box 89 [.own 1001 0],.box 93 [.sl (s.map aD),.any,.any]] (.tup [aK t,.bool false])):=by
 refine af Try.func95 HI rfl fun d _=>?_;refine ah (fun h=>oP (c h) fun x a=>?_) (fun _=>?_)
 ·have h0:=a.1;have b:=a.2.1;refine kg h0 b ?_;refine aT (fun q=>o5 a.2.2 q) (fun _=>?_);exact bJ [1000,1001] rfl rfl rfl rfl
 ·exact bJ [1000,1001] rfl rfl rfl rfl
theorem VE (s:List Ty) (t r:Ty) (h:CallsT P 52 [aK t,.fn 95 [] [.own 1000 0]] [.box 89 [.own 1001 0],.box 93 [.sl (s.map aD),.any,.any]] (aQ [.box 89 [.own 1001 0],.box 93 [.sl (s.map aD),.any,.any]] (aK r))):CallsT P 60 [.own 1000 0,aK t] (vF s) (aQ (vF s) (aK r)):=by
 refine af Try.func60 P3 rfl fun a _=>?_;refine callO [2,1000] [2,1000] h rfl rfl rfl rfl rfl fun _ _=>?_;exact bJ [1000] rfl rfl rfl rfl
theorem gM {f:Ty->Option Ty}:∀{l r:List Ty},kx f l=some r->(∀x∈l,f x=some ((f x).getD x))/\r=l.map fun x=>(f x).getD x
 | [],r,h=>by
  rw[kx] at h;injection h with h
  exact⟨by simp,by rw[<-h];rfl⟩
 | x::l,r,h=>by
  rw[kx] at h;cases c:f x with
  | none=>simp only[c] at h;cases h
  | some a =>
   cases d:kx f l with
   | none=>simp only[c,d] at h;cases h
   | some b =>
    simp only[c,d] at h;injection h with h
    obtain⟨i1,i2⟩:=gM d;refine⟨fun y e=>?_,?_⟩
    ·rcases abd.1 e with rfl | e
     ·rw[c];rfl
     ·exact i1 y e
    ·rw[abe,c,<-i2,<-h];rfl
theorem TQ (s:List Ty) (f:∀x∈s,gN x):∀(n:Nat) (t r:Ty),gN t->nC s n t=some r->CallsT P 52 [aK t,.fn 95 [] [.own 1000 0]] [.box 89 [.own 1001 0],.box 93 [.sl (s.map aD),.any,.any]] (aQ [.box 89 [.own 1001 0],.box 93 [.sl (s.map aD),.any,.any]] (aK r))
 | 0,t,r,hb,h=>by cases h
 | n+1,t,r,hb,h=>by
  rw[nC] at h;split at h
  ·cases h
  rename_i x he
  by_cases b:x.kind=0
  ·rw[fo (fun q=>q b)] at h;have k:=YO s t fun a=>by
    rw[eu a] at he;obtain⟨d,c,_⟩:=bD he;exact⟨x,d,c,b⟩
   cases e:kx (nC s n) t.args with
   | none=>simp only[e] at h;cases h
   | some l =>
    simp only[e] at h;injection h with h
    obtain⟨h1,h2⟩:=gM e;have hb:=(eM t).1 hb;rw[<-h,h2];exact VA s t (fun x=>(nC s n x).getD x) hb.1 k fun x j=>TQ s f n x _ (hb.2 x j) (h1 x j)
  ·rw[eu b] at h;have a:t.kind=9:=by
    by_cases a:t.kind=9
    ·exact a
    ·rw[fo a] at he;injection he with he
     rw[<-he] at b;exact o5 rfl b
   rw[eu a] at he;obtain⟨d,c,_⟩:=bD he;exact Vz s t r (YN s t x r a d c b (VE s x r (TQ s f n x r (f x (aa8 c)) h)))
theorem t60 (s:List Ty) (a:∀x∈s,gN x) (n:Nat) (t r:Ty) (hb:gN t) (h:nC s n t=some r):CallsT P 60 [.own 1000 0,aK t] (vF s) (aQ (vF s) (aK r)):=VE s t r (TQ s a n t r hb h)
mutual
def JG (m:DM):Ty->Ty
 | .mk k i l=>if k=9 then .mk 9 ((bw m i).getD 0) [] else .mk k i (W8 m l)
def W8 (m:DM):List Ty->List Ty
 | []=>[]
 | t::l=>JG m t::W8 m l
end
theorem H7 (m:DM):∀l:List Ty,W8 m l=l.map (JG m)
 | []=>rfl
 | t::l=>by rw[W8,H7 m l];rfl
theorem TR (m:DM) (t:Ty):JG m t=if t.kind=9 then .mk 9 ((bw m t.id).getD 0) [] else .mk t.kind t.id (t.args.map (JG m)):=by
 cases t;rw[JG,H7];rfl
theorem VF {i:Int}{m:DM}{Y:C->Prop}{N:Prop}(k1:Y (IC ((bw m i).getD 0))) (a:bw m i=none->N):yJ false (jt IC m) (IC i) Y N:=by
 cases h:bw m i with
 | none=>exact zG h (a h)
 | some x=>rw[h] at k1;exact zF h k1
theorem YP (m:DM) (t:Ty) (b:t.kind=9):CallsT P 98 [aK t,.own 1000 0] [.box 90 [.mpr 1001],.map (jt IC m)] (aQ [.box 90 [.mpr 1001],.map (jt IC m)] (.tup [aK (.mk 9 ((bw m t.id).getD 0) []),.bool true])):=by
 refine af Try.func98 HL rfl fun c _=>?_;refine ah (fun _=>?_) (fun q=>o5 b q);refine VF ?_ (fun a=>?_)
 ·exact bJ [1000,1001] rfl rfl rfl rfl
 ·exact bJ [1000,1001] rfl rfl rfl (by rw[a];rfl)
theorem YQ (m:DM) (t:Ty) (a:¬t.kind=9):CallsT P 98 [aK t,.own 1000 0] [.box 90 [.mpr 1001],.map (jt IC m)] (aQ [.box 90 [.mpr 1001],.map (jt IC m)] (.tup [aK t,.bool false])):=by
 refine af Try.func98 HL rfl fun b _=>?_;refine ah (fun q=>o5 q a) (fun _=>?_);exact bJ [1000,1001] rfl rfl rfl rfl
theorem YR (m:DM):∀t:Ty,gN t->CallsT P 52 [aK t,.fn 98 [] [.own 1000 0]] [.box 90 [.mpr 1001],.map (jt IC m)] (aQ [.box 90 [.mpr 1001],.map (jt IC m)] (aK (JG m t))):=cL fun t c hb=>by
 have hb:=(eM t).1 hb;rw[TR]
 by_cases a:t.kind=9
 ·rw[eu a];exact VB m t _ (YP m t a)
 ·rw[fo a];exact VD m t _ hb.1 (YQ m t a) fun x b=>c x b (hb.2 x b)
def vr (i:Nat):Ty:=.mk 9 i []
def ji (s:List Ty) (n:Nat):Nat->DM->Option DM
 | 0,m=>some m
 | i+1,m=>match aP s n (vr i) with
  | none=>none
  | some t=>ji s n i (if t.kind=9 then eX m t.id i else m)
def QG (m:DM) (i:Nat) (t:Ty):Ty:=if(JG m t).kind=9/\(JG m t).id=i then .mk 0 0 [] else JG m t
def qq (s:List Ty) (n:Nat) (m:DM):Nat->Option (List Ty)
 | 0=>some []
 | i+1=>match qq s n m i,nC s n (vr i) with
  | some l,some t=>some (l++[QG m i t])
  | _,_=>none
def kh (s:List Ty) (n:Nat):Option (List Ty):=match ji s n s.length [] with
 | none=>none
 | some m=>qq s n m s.length
theorem xU {s:List Ty}(e:∀x∈s,gN x):∀(n:Nat) (t r:Ty),gN t->nC s n t=some r->gN r
 | 0,t,r,hb,h=>by cases h
 | n+1,t,r,hb,h=>by
  rw[nC] at h;split at h
  ·cases h
  rename_i x he
  by_cases a:x.kind=0
  ·rw[fo (fun q=>q a)] at h;cases d:kx (nC s n) t.args with
   | none=>simp only[d] at h;cases h
   | some l =>
    simp only[d] at h;injection h with h
    obtain⟨h1,h2⟩:=gM d;have hb:=(eM t).1 hb;rw[eM,<-h];refine⟨by show l.length<=_;rw[h2,vz];exact hb.1,?_⟩;intro y b;have b:y∈l:=b;rw[h2] at b;obtain⟨z,f,rfl⟩:=abx.1 b;exact xU e n z _ (hb.2 z f) (h1 z f)
  ·rw[eu a] at h;have c:t.kind=9:=by
    by_cases c:t.kind=9
    ·exact c
    ·rw[fo c] at he;injection he with he
     rw[<-he] at a;exact o5 rfl a
   rw[eu c] at he;obtain⟨k,j,_⟩:=bD he;exact xU e n x r (e x (aa8 j)) h
theorem Dc (i:Nat):gN (vr i):=(eM _).2 ⟨abr _,fun x h=>by cases h⟩
theorem wq {s:List Ty}{n:Nat}{m:DM}:∀{N:Nat}{l:List Ty},qq s n m N=some l->∀i<N,∃b t,qq s n m i=some b/\nC s n (vr i)=some t/\qq s n m (i+1)=some (b++[QG m i t])
 | 0,l,h,i,hi=>o5 hi (abL _)
 | N+1,l,h,i,hi=>by
  have a:=h;rw[qq] at a;cases h1:qq s n m N with
  | none=>simp only[h1] at a;cases a
  | some c =>
   cases h2:nC s n (vr N) with
   | none=>simp only[h1,h2] at a;cases a
   | some t =>
    by_cases e:i=N
    ·subst e;refine⟨c,t,h1,h2,?_⟩;rw[qq];simp only[h1,h2]
    ·exact wq h1 i (by omega)
theorem EL {s:List Ty}{n:Nat}{m:DM}:∀{N:Nat}{l:List Ty},qq s n m N=some l->l.length=N
 | 0,l,h=>by rw[qq] at h;injection h with h;rw[<-h];rfl
 | N+1,l,h=>by
  obtain⟨a,t,h1,h2,h3⟩:=wq h N (acd _);rw[h] at h3;injection h3 with h3
  rw[h3,abP,EL h1];rfl
theorem Gw {s:List Ty}{n j:Nat}{m M:DM}(h:ji s n (j+1) m=some M):∃t,aP s n (vr j)=some t/\ji s n j (if t.kind=9 then eX m t.id j else m)=some M:=by
 rw[ji] at h;cases hf:aP s n (vr j) with
 | none=>simp only[hf] at h;cases h
 | some t=>simp only[hf] at h;exact⟨t,rfl,h⟩
theorem YS (s:List Ty) (n:Nat) (M:DM) (r:List Ty) (hn:s.length<=2 ^ 30) (hs:∀x∈s,gN x) (hm:ji s n s.length []=some M) (hr:qq s n M s.length=some r)
  (z:∀t r,aP s n t=some r->CallsT P 96 [.own 1000 0,aK t] (vF s) (aQ (vF s) (aK r)))
  (u:∀i r,nC s n (vr i)=some r->CallsT P 60 [.own 1000 0,aK (vr i)] (vF s) (aQ (vF s) (aK r))/\CallsT P 52 [aK r,.fn 98 [] [.own 1000 0]] [.box 90 [.mpr 1001],.map (jt IC M)] (aQ [.box 90 [.mpr 1001],.map (jt IC M)] (aK (JG M r)))) :
  CallsT P 65 [.own 1000 0] (vF s) (aQ (vF s) (.sl (r.map aD))):=by
 have p:(s.map aD).length=s.length:=vz _;refine af Try.func65 P4 rfl fun hw _=>?_;refine Fit.aar (by omega) (by omega) ?_;refine wN.mk ⟨Nat×DM,(s.length,[]),fun x=>x.1<=s.length/\ji s n x.1 x.2=some M,[4],fun x=>[IC ((x.1:Int)-1)],fun x=>[(3,.box 90 [.mpr 9]),(9,.map (jt IC x.2)),(1000,.box 93 [.sl (s.map aD),.any,.any])],fun x=>x.1,⟨abh _,hm⟩,⟨.inr (.inl ⟨vv IC (by rw[p]),rfl⟩),trivial⟩,
  ⟨.inl ⟨_,rfl,.inl ⟨rfl,rfl⟩⟩,.inl ⟨_,rfl,.inl ⟨rfl,rfl⟩⟩,.inl ⟨_,rfl,.inl ⟨rfl,rfl⟩⟩,trivial⟩,fun _=>rfl,fun _=>rfl,?_⟩
 rintro⟨j,m⟩ ⟨hj,c⟩ _ _;refine ah (fun h=>?_) (fun a=>?_)
 ·have aa:∃i,j=i+1:=⟨j-1,by have:((j:Int)-1)>=0:=h;omega⟩;refine oP aa fun i hi=>?_;have y:(C.agg [IC 9,IC ((j:Int)-1),.sl []])=aK (vr i):=by rw[hi];show C.agg _=C.agg [IC 9,IC (i:Int),.sl []];congr 3;congr 1;omega
  have c:ji s n (i+1) m=some M:=by rw[<-hi];exact c
  refine oP (Gw c) fun t d=>?_;refine callO [1000] [1000] (z (vr i) t d.1) rfl rfl (by rw[<-y];rfl) rfl rfl fun _ _=>?_;refine ah (fun h9=>?_) (fun h9=>?_)
  ·refine Jw (f:=IC) (x:=(j:Int)-1) rfl ?_;refine Fit.aar (by omega) (by omega) ?_;refine⟨(i,eX m t.id i),⟨by omega,by have:=d.2;rw[eu h9] at this;exact this⟩,⟨.inr (.inl ⟨vv IC (by show(j:Int)-1-1=(i:Int)-1;omega),rfl⟩),trivial⟩,⟨.inl ⟨_,rfl,.inl ⟨rfl,rfl⟩⟩,.inl ⟨_,rfl,.inl ⟨?_,rfl⟩⟩,.inl ⟨_,rfl,.inl ⟨rfl,rfl⟩⟩,trivial⟩,by show i<j;omega⟩;exact vv (fun q=>TO.map (jt IC (eX m t.id q))) (show(j:Int)-1=(i:Int) by omega)
  ·refine Fit.aar (by omega) (by omega) ?_;exact⟨(i,m),⟨by omega,by have:=d.2;rw[fo h9] at this;exact this⟩,⟨.inr (.inl ⟨vv IC (by show(j:Int)-1-1=(i:Int)-1;omega),rfl⟩),trivial⟩,⟨.inl ⟨_,rfl,.inl ⟨rfl,rfl⟩⟩,.inl ⟨_,rfl,.inl ⟨rfl,rfl⟩⟩,.inl ⟨_,rfl,.inl ⟨rfl,rfl⟩⟩,trivial⟩,by show i<j;omega⟩
 ·have ab:j=0:=by have:¬((j:Int)-1)>=0:=a;omega
  have ac:m=M:=by rw[ab,ji] at c;exact abK c
  refine bA s.length 36 [6] ([]:List Ty) (fun _=>[.rw 58]) (fun l=>[(3,.box 90 [.mpr 9]),(9,.map (jt IC M)),(58,.row 32 3 (l.map aD)),(1000,.box 93 [.sl (s.map aD),.any,.any])]) (fun k l=>qq s n M k=some l) rfl (aj rfl) ⟨.inr (.inr (.inr (.inl ⟨rfl,58,32,3,rfl,rfl,rfl⟩))),trivial⟩
   ⟨.inl ⟨_,rfl,.inl ⟨rfl,rfl⟩⟩,.inl ⟨_,rfl,.inl ⟨vv (fun q=>TO.map (jt IC q)) ac,rfl⟩⟩,.inr ⟨rfl,32,3,rfl⟩,.inl ⟨_,rfl,.inl ⟨rfl,rfl⟩⟩,trivial⟩ (fun _=>rfl) (fun _=>rfl) ?_
  rintro k l hk b _ _ _;refine ah (fun a=>?_) (fun h=>?_)
  ·have a:k<s.length:=by rw[p] at a;omega
   refine oP (wq hr k a) fun l' hl=>oP hl fun t d=>?_;have v:l=l':=by rw[b] at d;exact abK d.1
   have o:(l.map aD).length=k:=by rw[vz];exact EL b
   refine callO [1000] [1000] (u k t d.2.1).1 rfl rfl rfl rfl rfl fun _ _=>?_;refine callO [3,9] [3,9] (u k t d.2.1).2 rfl rfl rfl rfl rfl fun _ _=>?_;refine ah (fun h1=>ah (fun h2=>?_) (fun h2=>?_)) (fun h1=>?_)
   ·have e:QG M k t=.mk 0 0 []:=eu ⟨h1,h2⟩;refine jN k rfl o (by decide) (by omega) ?_;refine Fit.aar (by omega) (by omega) ?_;exact⟨(k+1,l++[.mk 0 0 []]),⟨a,by rw[d.2.2,e,v]⟩,⟨aZ,aj rfl,trivial⟩,⟨.inl ⟨_,rfl,.inl ⟨rfl,rfl⟩⟩,.inl ⟨_,rfl,.inl ⟨rfl,rfl⟩⟩,.inl ⟨_,rfl,.inl ⟨mq (sF (f:=.mk 0 0 [])),rfl⟩⟩,.inl ⟨_,rfl,.inl ⟨rfl,rfl⟩⟩,trivial⟩,bf a⟩
   all_goals
    have e:QG M k t=JG M t:=fo (fun q=>by first | exact h2 q.2 | exact h1 q.1);refine jN k rfl o (by decide) (by omega) ?_;refine Fit.aar (by omega) (by omega) ?_;exact⟨(k+1,l++[JG M t]),⟨a,by rw[d.2.2,e,v]⟩,⟨aZ,aj rfl,trivial⟩,⟨.inl ⟨_,rfl,.inl ⟨rfl,rfl⟩⟩,.inl ⟨_,rfl,.inl ⟨rfl,rfl⟩⟩,.inl ⟨_,rfl,.inl ⟨mq (sF (f:=JG M t)),rfl⟩⟩,.inl ⟨_,rfl,.inl ⟨rfl,rfl⟩⟩,trivial⟩,bf a⟩
  ·have h:¬k<s.length:=by rw[p] at h;omega
   have w:k=s.length:=by omega
   have e:l=r:=by rw[w,hr] at b;exact(abK b).symm
   exact uL [58] [1000] ⟨_,_,rfl,rfl,rfl,rfl,Yv (by rw[e])⟩
theorem t65 (s:List Ty) (n:Nat) (r:List Ty) (c:s.length<=2 ^ 30) (a:∀x∈s,gN x) (h:kh s n=some r):CallsT P 65 [.own 1000 0] (vF s) (aQ (vF s) (.sl (r.map aD))):=by
 unfold kh at h;cases b:ji s n s.length [] with
 | none=>simp only[b] at h;cases h
 | some M =>
  simp only[b] at h;exact YS s n M r c a b h (fun t r q=>Vw s n t r q) fun i r q=>⟨t60 s a n (vr i) r (Dc i) q,YR M r (xU a n (vr i) r (Dc i) q)⟩
def fA (n:Int) (t:Ty):Bool:=if t.kind=0 then decide (t.id=0)&&decide (t.args.length=0) else ins n t
def dV (s:List Ty) (n:Nat):Nat->Option (Option (Bool×DM×OM))
 | 0=>some (some (false,[],[]))
 | i+1=>match dV s n i with
  | some (some (b,d,o))=>match bL s n (vr i) d o with
   | some (some (k,a,o'))=>some (some (b||decide (k>8),a,o'))
   | some none=>some none
   | none=>none
  | some none=>some none
  | none=>none
def bM (s:List Ty) (n:Nat):Option (Option (DM×OM)) :=
 if s.all (fA s.length) then(match dV s n s.length with
  | some (some (b,d,o))=>if b then some none else some (some (d,o))
  | some none=>some none
  | none=>none) else some none
def RF (s:List Ty) (r:Option (DM×OM)):List TO->C->Prop:=fun Mo v=>∃d o,r=some (d,o)/\Mo=J0 s d o/\v=.tup []
def PF (e:Int) (r:Option (DM×OM)):Value->Prop:=fun v=>r=none/\∃a,(a=1\/a=e)/\v=cV a
def EM (s:List Ty) (e:Int) (r:Option (DM×OM)):Prop:=CallsTX P 58 [.own 1000 0,IC e] (ql s) (RF s r) (PF e r)
section
variable {L:TL}{ρ:aG}
theorem Df (ks ko:List Nat) {PS:oE}{args:List C}{K:TL->aG->C->Prop}{s:List Ty}{e:Int}{r:Option (DM×OM)}{Lin:List TO}(h:EM s e r) (q:L.sub ks=some Lin)
  (a:(T.aU ks&&T.aU ko&&T.jP L ks ko&&aH Lin ks ko&&jQ L ks PS.hb)=true) (j:(args.map fun c=>c.aaw.ren (bn ks 1000))=[.own 1000 0,IC e]) (l:Lin.map (TO.aaq (C.ren (bn ks 1000)))=ql s) (b:ko.length=4) (n:∀v,PF e r v->PS.ps v)
  (k:∀d o,r=some (d,o)->K (((L.aas ks).kills (rowsOf L ks)).puts ko ((J0 s d o).map (TO.aaq (C.ren (aL ko))))) (dO (rowsOf L ks) ρ) (.tup [])):lK P PS 58 args L ρ K:=by
 simp only[xo] at a;obtain⟨⟨⟨⟨p,m⟩,c3⟩,c4⟩,c5⟩:=a;refine⟨[],ks,ko,L,Lin,_,_,.inl rfl,q,p,m,c3,c4,c5,by rw[l,j];exact h,n,?_⟩;rintro v Mo ⟨d,o,f,rfl,rfl⟩ u t;exact⟨b,k d o f⟩
end
abbrev u7 (t:Ty):List C:=[IC t.kind,IC t.id,.sl (t.args.map aD)]
abbrev LU (s:List Ty):List TO:=[.box 89 [.own 1001 0],.box 93 [.rw 1002,.any,.any],.row 32 3 (s.map aD)]
def nV (s:List Ty) (a b:Ty):Bool:=ins s.length a&&ins s.length b&&!decide (max (cg a) (cg b)>8)
def MY (n:Nat) (s:List Ty) (a b:Ty) (s':List Ty):Prop :=
 (∃d o,bM s n=some (some (d,o)))/\nV s a b=true/\ld n s a b=some (some s')/\∃d o k c o',bM s' n=some (some (d,o))/\bL s' n a d o=some (some (k,c,o'))/\k<=8
def Sj (n:Nat) (s:List Ty) (a b:Ty) (e:Int):Prop :=
 (bM s n=some none/\e=1)\/((∃d o,bM s n=some (some (d,o)))/\((nV s a b=false/\e=1)\/(nV s a b=true/\((ld n s a b=some none/\e=8) \/
  ∃s',ld n s a b=some (some s')/\(e=1\/e=2)/\(bM s' n=some none\/∃d o,bM s' n=some (some (d,o))/\(bL s' n a d o=some none\/∃k c o',bL s' n a d o=some (some (k,c,o'))/\k>8))))))
structure Fuel (n:Nat) (s:List Ty) (a b:Ty):Prop where
 form:∃r,bM s n=some r
 eq:(∃d o,bM s n=some (some (d,o)))->nV s a b=true->∃r,ld n s a b=some r
 form':(∃d o,bM s n=some (some (d,o)))->nV s a b=true->∀s',ld n s a b=some (some s')->∃r,bM s' n=some r
 deep:(∃d o,bM s n=some (some (d,o)))->nV s a b=true->∀s',ld n s a b=some (some s')->∀d o,bM s' n=some (some (d,o))->∃r,bL s' n a d o=some r
def RU (n:Nat) (s:List Ty) (a b:Ty):List TO->C->Prop:=fun Mo v=>∃s',MY n s a b s'/\Mo=LU s'/\v=.tup []
def PU (n:Nat) (s:List Ty) (a b:Ty):Value->Prop:=fun v=>∃e,Sj n s a b e/\v=cV e
abbrev MZ (s:List Ty) (a b:Ty) (R:List TO->C->Prop) (Pp:Value->Prop):Prop:=CallsTX P 62 [.own 1000 0,.pt (u7 a) 0,.pt (u7 b) 0] (LU s) R Pp
theorem QH (n:Nat) (s:List Ty) (a b:Ty) (h1:bM s n=some none) (hf:∀s e r,bM s n=some r->EM s e r):MZ s a b (RU n s a b) (PU n s a b):=by
 refine bg Try.func62 CW rfl fun f _=>?_;refine Df [1001,1002] [1001,1002,2003,2004] (hf s 1 none h1) rfl rfl rfl rfl rfl (fun v q=>?_) fun d o e=>by cases e
 exact q.2.elim fun c he=>⟨c,.inl ⟨h1,by omega⟩,he.2⟩
theorem QI (n:Nat) (s:List Ty) (a b:Ty) (d:DM) (o:OM) (h1:bM s n=some (some (d,o))) (hf:∀s e r,bM s n=some r->EM s e r) (u:nV s a b=false) (l:cg a<=2 ^ 40) (j:cg b<=2 ^ 40):MZ s a b (RU n s a b) (PU n s a b):=by
 have m:=Vf a l;have p:=Vf b j;have k:=fun D O t=>Se s D O t;have c:PU n s a b (cV 1):=⟨1,.inr ⟨⟨d,o,h1⟩,.inl ⟨u,rfl⟩⟩,rfl⟩;have z:nV s a b=(ins s.length a&&ins s.length b&&!decide (max (cg a) (cg b)>8)):=rfl;rw[z] at u;generalize PU n s a b=Q at c ⊢;generalize RU n s a b=R;have y:=hf s 1 _ h1;generalize cg a=w at *;generalize cg b=x at *;refine bg Try.func62 CW rfl fun hw _=>?_;refine Df [1001,1002] [1001,1002,2003,2004] y rfl rfl rfl rfl rfl (fun v q=>by cases q.1) fun d o e=>?_;refine zk [1001,1002,2003,2004] [1001,1002,2003,2004] (k _ _ a) rfl rfl rfl rfl rfl fun _ _=>?_;refine aq (fun h=>?_) (fun h=>?_)
 ·exact qo rfl c
 refine zk [1001,1002,2003,2004] [1001,1002,2003,2004] (k _ _ b) rfl rfl rfl rfl rfl fun _ _=>?_;refine aq (fun hb=>?_) (fun hb=>?_)
 ·exact qo rfl c
 refine bB m rfl fun _=>?_;refine bB p rfl fun _=>?_;refine⟨?_,?_⟩
 ·exact W5 (a:=w) (b:=x) l j
 refine ah (fun aa=>?_) (fun f=>?_)
 ·exact qo rfl c
 ·have f:¬(if(x:Int)>(w:Int) then(x:Int) else(w:Int))>8:=f;have h:(!ins s.length a)=false:=h;have hb:(!ins s.length b)=false:=hb;rw[Bool.not_eq_false'] at h hb;rw[h,hb,aa7,aa7,Bool.not_eq_false',abf] at u;exact o5 u (by split at f<;>omega)
theorem TT (n:Nat) (s:List Ty) (a b:Ty) (d:DM) (o:OM) (h1:bM s n=some (some (d,o))) (hf:∀s e r,bM s n=some r->EM s e r) (j:nV s a b=true) (ad:cg a<=2 ^ 40) (z:cg b<=2 ^ 40)
  (r:Option (List Ty)) (y:ld n s a b=some r) (aE:tI s a b (RE r) (PE r)) (az:∀s',r=some s'->∃m,bM s' n=some m/\EM s' 2 m) (aw:∀s',r=some s'->∀d o,bM s' n=some (some (d,o))->∃m,bL s' n a d o=some m/\QD s' a d o (MU s' m) (PD m)):MZ s a b (RU n s a b) (PU n s a b):=by
 have al:=Vf a ad;have am:=Vf b z;have ab:=fun D O t=>Se s D O t;have h0:∃d o,bM s n=some (some (d,o)):=⟨d,o,h1⟩;have ac:r=none->PU n s a b (cV 8):=fun e=>⟨8,.inr ⟨h0,.inr ⟨j,.inl ⟨by rw[y,e],rfl⟩⟩⟩,rfl⟩;have ag:∀s',r=some s'->bM s' n=some none->∀e,(e=1\/e=2)->PU n s a b (cV e):=fun s' e c k f=>⟨k,.inr ⟨h0,.inr ⟨j,.inr ⟨s',by rw[y,e],f,.inl c⟩⟩⟩,rfl⟩;have ae:∀s',r=some s'->∀d o,bM s' n=some (some (d,o))->bL s' n a d o=some none->PU n s a b (cV 1):=fun s' e d o c f=>⟨1,.inr ⟨h0,.inr ⟨j,.inr ⟨s',by rw[y,e],.inl rfl,.inr ⟨d,o,c,.inl f⟩⟩⟩⟩,rfl⟩;have w:∀s',r=some s'->∀d o,bM s' n=some (some (d,o))->∀k h o',bL s' n a d o=some (some (k,h,o'))->k>8->PU n s a b (cV 2):=fun s' e d o c k h o' f aa=>⟨2,.inr ⟨h0,.inr ⟨j,.inr ⟨s',by rw[y,e],.inr rfl,.inr ⟨d,o,c,.inr ⟨k,h,o',f,aa⟩⟩⟩⟩⟩,rfl⟩;have x:∀s',r=some s'->∀d o,bM s' n=some (some (d,o))->∀k h o',bL s' n a d o=some (some (k,h,o'))->¬k>8->RU n s a b (LU s') (.tup []):=fun s' e d o c k h o' f aa=>⟨s',⟨h0,j,by rw[y,e],d,o,k,h,o',c,f,by omega⟩,rfl,rfl⟩;have ba:nV s a b=(ins s.length a&&ins s.length b&&!decide (max (cg a) (cg b)>8)):=rfl;rw[ba] at j;generalize PU n s a b=Q at ac ag ae w ⊢;generalize RU n s a b=R at x ⊢;have av:=hf s 1 _ h1;generalize cg a=da at *;generalize cg b=db at *;simp only[xo,Bool.not_eq_true',acg] at j;refine bg Try.func62 CW rfl fun hw _=>?_;refine Df [1001,1002] [1001,1002,2003,2004] av rfl rfl rfl rfl rfl (fun v q=>by cases q.1) fun d o e=>?_;refine zk [1001,1002,2003,2004] [1001,1002,2003,2004] (ab _ _ a) rfl rfl rfl rfl rfl fun _ _=>?_;refine aq (fun ha=>o5 (show(!ins s.length a)=true from ha) (by rw[j.1.1];exact abt)) (fun ha=>?_);refine zk [1001,1002,2003,2004] [1001,1002,2003,2004] (ab _ _ b) rfl rfl rfl rfl rfl fun _ _=>?_;refine aq (fun ha=>o5 (show(!ins s.length b)=true from ha) (by rw[j.1.2];exact abt)) (fun hb=>?_);refine bB al rfl fun _=>?_;refine bB am rfl fun _=>?_;refine⟨?_,?_⟩
 ·exact W5 (a:=da) (b:=db) ad z
 refine ah (fun p=>?_) (fun bc=>?_)
 ·have p:(if(db:Int)>(da:Int) then(db:Int) else(da:Int))>8:=p;have h8:=j.2;exact o5 p (by split<;>omega)
 refine Sf [1001,1002] aE rfl rfl rfl rfl rfl (fun v q=>?_) fun s' e=>?_
 ·exact q.2▸ac q.1
 refine oP (az s' e) fun m u=>?_;refine Df [1001,1002] [1001,1002,2005,2006] u.2 rfl rfl rfl rfl rfl (fun v q=>?_) fun d o e2=>?_
 ·exact q.2.elim fun e' he=>he.2▸ag s' e (by rw[u.1,q.1]) e' he.1
 have c:bM s' n=some (some (d,o)):=by rw[u.1,e2]
 refine oP (aw s' e d o c) fun rd l=>?_;refine Db [1001,1002,2005,2006] l.2 rfl rfl rfl rfl rfl (fun v q=>?_) fun k h o' e3 _=>?_
 ·exact q.2▸ae s' e d o c (by rw[l.1,q.1])
 refine ah (fun f=>?_) (fun f=>?_)
 ·exact qo rfl (w s' e d o c k h o' (by rw[l.1,e3]) f)
 ·exact qa [1000,1001,1002] rfl rfl rfl rfl (x s' e d o c k h o' (by rw[l.1,e3]) f)
theorem t62 (n:Nat) (s:List Ty) (a b:Ty) (F:Fuel n s a b) (hf:∀s e r,bM s n=some r->EM s e r) (k:cg a<=2 ^ 40) (c:cg b<=2 ^ 40):MZ s a b (RU n s a b) (PU n s a b):=by
 obtain⟨r,h1⟩:=F.form;cases r with
 | none=>exact QH n s a b h1 hf
 | some r =>
  obtain⟨d,o⟩:=r;have h0:∃d o,bM s n=some (some (d,o)):=⟨d,o,h1⟩;cases j:nV s a b with
  | false=>exact QI n s a b d o h1 hf j k c
  | true =>
   obtain⟨r,l⟩:=F.eq h0 j;refine TT n s a b d o h1 hf j k c r l (YM n s a b r l) (fun s' e=>?_) fun s' e d o m=>?_
   ·obtain⟨f,h⟩:=F.form' h0 j s' (by rw[l,e]);exact⟨f,h,hf s' 2 f h⟩
   ·obtain⟨f,h⟩:=F.deep h0 j s' (by rw[l,e]) d o m;exact⟨f,h,H6 s' n a d o f h⟩
theorem wu {f g:Ty->Option Bool}:∀{l:List Ty}{b:Bool},(∀x∈l,∀b,f x=some b->g x=some b)->xB f l=some b->xB g l=some b
 | [],b,_,h=>h
 | x::l,b,hf,h=>by
  rw[xB] at h ⊢;cases d:f x with
  | none=>simp only[d] at h;cases h
  | some a =>
   cases e:xB f l with
   | none=>simp only[d,e] at h;cases h
   | some c =>
    simp only[d,e] at h;simp only[hf x (by simp) a d,wu (fun y j=>hf y (by simp[j])) e];exact h
theorem BU {f g:Ty->Option Ty}:∀{l r:List Ty},(∀x∈l,∀b,f x=some b->g x=some b)->kx f l=some r->kx g l=some r
 | [],b,_,h=>h
 | x::l,b,hf,h=>by
  rw[kx] at h ⊢;cases d:f x with
  | none=>simp only[d] at h;cases h
  | some a =>
   cases e:kx f l with
   | none=>simp only[d,e] at h;cases h
   | some c =>
    simp only[d,e] at h;simp only[hf x (by simp) a d,BU (fun y j=>hf y (by simp[j])) e];exact h
theorem rV {f g:List Ty->Ty->Ty->Option (Option (List Ty))}:∀{l c:List Ty}{s:List Ty}{r:Option (List Ty)},(∀s x y b,f s x y=some b->g s x y=some b)->jU f s l c=some r->jU g s l c=some r
 | [],c,s,r,_,h=>h
 | x::l,[],s,r,_,h=>h
 | x::l,y::c,s,r,hf,h=>by
  rw[jU] at h ⊢;cases d:f s x y with
  | none=>simp only[d] at h;cases h
  | some a =>
   simp only[d] at h;simp only[hf s x y a d];cases a with
   | none=>exact h
   | some s'=>exact rV hf h
theorem tJ {f g:Ty->DM->OM->Option (Option (Int×DM×OM))}:∀{l:List Ty}{k:Int}{d:DM}{o:OM}{r:Option (Int×DM×OM)},(∀x d o b,f x d o=some b->g x d o=some b)->eW f l k d o=some r->eW g l k d o=some r
 | [],k,d,o,r,_,h=>h
 | x::l,k,d,o,r,hf,h=>by
  rw[eW] at h ⊢;cases c:f x d o with
  | none=>simp only[c] at h;cases h
  | some a =>
   simp only[c] at h;simp only[hf x d o a c];cases a with
   | none=>exact h
   | some p=>exact tJ hf h
theorem dW {s:List Ty}:∀{n m:Nat}{t r:Ty},n<=m->aP s n t=some r->aP s m t=some r
 | 0,m,t,r,_,h=>by cases h
 | n+1,0,t,r,b,h=>o5 b (by omega)
 | n+1,m+1,t,r,b,h=>by
  rw[aP] at h ⊢
  by_cases c:t.kind=9
  ·rw[eu c] at h ⊢;cases he:bS s t with
   | none=>rw[he] at h;cases h
   | some x =>
    rw[he] at h;simp only at h ⊢
    by_cases a:x.kind=0
    ·rw[eu a] at h ⊢;exact h
    ·rw[fo a] at h ⊢;exact dW (by omega) h
  ·rw[fo c] at h ⊢;exact h
theorem ni {s:List Ty}{v:Int}:∀{n m:Nat}{t:Ty}{r:Bool},n<=m->jT s v n t=some r->jT s v m t=some r
 | 0,m,t,r,_,h=>by cases h
 | n+1,0,t,r,a,h=>o5 a (by omega)
 | n+1,m+1,t,r,a,h=>by
  rw[jT] at h ⊢;cases hf:aP s n t with
  | none=>rw[hf] at h;cases h
  | some d =>
   rw[hf] at h;rw[dW (by omega) hf];simp only at h ⊢
   by_cases c:d.kind=9
   ·rw[eu c] at h ⊢;exact h
   ·rw[fo c] at h ⊢;exact wu (fun x _ b hb=>ni (by omega) hb) h
theorem nN {s:List Ty}:∀{n m:Nat}{t r:Ty},n<=m->nC s n t=some r->nC s m t=some r
 | 0,m,t,r,_,h=>by cases h
 | n+1,0,t,r,d,h=>o5 d (by omega)
 | n+1,m+1,t,r,d,h=>by
  rw[nC] at h ⊢;cases he:(if t.kind=9 then bS s t else some (.mk 0 0 [])) with
  | none=>simp only[he] at h;cases h
  | some x =>
   simp only[he] at h ⊢
   by_cases c:x.kind=0
   ·rw[fo (fun q=>q c)] at h ⊢;cases a:kx (nC s n) t.args with
    | none=>simp only[a] at h;cases h
    | some l =>
     simp only[a] at h;simp only[BU (g:=nC s m) (fun x _ b hb=>nN (by omega) hb) a];exact h
   ·rw[eu c] at h ⊢;exact nN (by omega) h
theorem iC:∀{n m:Nat}{s:List Ty}{a b:Ty}{r:Option (List Ty)},n<=m->ld n s a b=some r->ld m s a b=some r
 | 0,m,s,a,b,r,_,h=>by cases h
 | n+1,0,s,a,b,r,j,h=>o5 j (by omega)
 | n+1,m+1,s,a,b,r,j,h=>by
  rw[ld] at h ⊢;cases c:aP s n a with
  | none=>simp only[c] at h;cases h
  | some a' =>
   cases hb:aP s n b with
   | none=>simp only[c,hb] at h;cases h
   | some e =>
    simp only[c,hb] at h;simp only[dW (show n<=m by omega) c,dW (show n<=m by omega) hb]
    by_cases h1:a'.kind=9/\e.kind=9
    ·rw[eu h1] at h ⊢;exact h
    rw[fo h1] at h ⊢
    by_cases h2:a'.kind=9
    ·rw[eu h2] at h ⊢;cases f:jT s a'.id n e with
     | none=>rw[f] at h;cases h
     | some q=>rw[f] at h;rw[ni (show n<=m by omega) f];exact h
    rw[fo h2] at h ⊢
    by_cases h3:e.kind=9
    ·rw[eu h3] at h ⊢;exact iC (by omega) h
    rw[fo h3] at h ⊢;split at h
    ·rename_i d;rw[eu d];exact h
    ·rename_i d;rw[fo d];exact rV (fun s x y b k=>iC (by omega) k) h
theorem ij {s:List Ty}:∀{n m:Nat}{t:Ty}{d:DM}{o:OM}{r:Option (Int×DM×OM)},n<=m->bL s n t d o=some r->bL s m t d o=some r
 | 0,m,t,d,o,r,_,h=>by cases h
 | n+1,0,t,d,o,r,l,h=>o5 l (by omega)
 | n+1,m+1,t,d,o,r,l,h=>by
  rw[bL] at h ⊢;cases he:(if t.kind=9 then bS s t else some (.mk 0 0 [])) with
  | none=>simp only[he] at h;cases h
  | some x =>
   simp only[he] at h ⊢
   by_cases j:x.kind=0
   ·rw[fo (fun q=>q j)] at h ⊢;cases c:eW (bL s n) t.args 0 d o with
    | none=>simp only[c] at h;cases h
    | some q =>
     simp only[c] at h;simp only[tJ (g:=bL s m) (fun x d o b hb=>ij (by omega) hb) c];exact h
   ·rw[eu j] at h ⊢;cases hd:bw d t.id with
    | some k=>simp only[hd] at h ⊢;exact h
    | none =>
     simp only[hd] at h ⊢;have key:∀{X:Option (Option (Int×DM×OM))},bL s n x d (eX o t.id true)=X->X≠none->bL s m x d (eX o t.id true)=X:=by
      intro X e p;cases X with
      | none=>exact o5 rfl p
      | some q=>exact ij (by omega) e
     cases f:bw o t.id with
     | none =>
      simp only[f] at h ⊢;cases a:bL s n x d (eX o t.id true) with
      | none=>simp only[a] at h;cases h
      | some q=>simp only[a] at h;simp only[key a (by simp)];exact h
     | some u =>
      cases u with
      | true=>simp only[f] at h ⊢;exact h
      | false =>
       simp only[f] at h ⊢;cases a:bL s n x d (eX o t.id true) with
       | none=>simp only[a] at h;cases h
       | some q=>simp only[a] at h;simp only[key a (by simp)];exact h
theorem qd {s:List Ty}{n m:Nat}(a:n<=m):∀{i:Nat}{r:Option (Bool×DM×OM)},dV s n i=some r->dV s m i=some r
 | 0,r,h=>h
 | i+1,r,h=>by
  rw[dV] at h ⊢;cases hf:dV s n i with
  | none=>simp only[hf] at h;cases h
  | some q =>
   simp only[hf] at h;simp only[qd a hf];cases q with
   | none=>exact h
   | some p =>
    obtain⟨b,d,o⟩:=p;simp only at h ⊢;cases hd:bL s n (vr i) d o with
    | none=>simp only[hd] at h;cases h
    | some q=>simp only[hd] at h;simp only[ij a hd];exact h
theorem kR {s:List Ty}{n m:Nat}(b:n<=m) {r:Option (DM×OM)}(h:bM s n=some r):bM s m=some r:=by
 unfold bM at h ⊢;split
 ·rename_i a;rw[eu a] at h;cases hf:dV s n s.length with
  | none=>simp only[hf] at h;cases h
  | some q=>simp only[hf] at h;simp only[qd b hf];exact h
 ·rename_i a;rw[fo a] at h;exact h
theorem tK {s:List Ty}{n m:Nat}(a:n<=m):∀{i:Nat}{d r:DM},ji s n i d=some r->ji s m i d=some r
 | 0,d,r,h=>h
 | i+1,d,r,h=>by
  rw[ji] at h ⊢;cases hf:aP s n (vr i) with
  | none=>simp only[hf] at h;cases h
  | some t=>simp only[hf] at h;simp only[dW a hf];exact tK a h
theorem wz {s:List Ty}{n m:Nat}(b:n<=m) {d:DM}:∀{i:Nat}{r:List Ty},qq s n d i=some r->qq s m d i=some r
 | 0,r,h=>h
 | i+1,r,h=>by
  rw[qq] at h ⊢;cases a:qq s n d i with
  | none=>simp only[a] at h;cases h
  | some l =>
   cases hf:nC s n (vr i) with
   | none=>simp only[a,hf] at h;cases h
   | some t=>simp only[a,hf] at h;simp only[wz b a,nN b hf];exact h
theorem tL {s:List Ty}{n m:Nat}(b:n<=m) {r:List Ty}(h:kh s n=some r):kh s m=some r:=by
 unfold kh at h ⊢;cases a:ji s n s.length [] with
 | none=>simp only[a] at h;cases h
 | some d=>simp only[a] at h;simp only[tK b a];exact wz b h
theorem oS {c d:Type}{f:Nat->c->Option d}(b:∀{n m:Nat}{x:c}{r:d},n<=m->f n x=some r->f m x=some r):∀{l:List c},(∀x∈l,∃n r,f n x=some r)->∃n,∀x∈l,∃r,f n x=some r
 | [],_=>⟨0,fun x h=>by cases h⟩
 | x::l,h=>by
  obtain⟨n,h1⟩:=oS (f:=f) b (l:=l) fun y a=>h y (by simp[a]);obtain⟨k,r,h2⟩:=h x (by simp);refine⟨max n k,fun y a=>?_⟩;rcases abd.1 a with rfl | a
  ·exact⟨r,b (Nat.le_max_right _ _) h2⟩
  ·obtain⟨r,h3⟩:=h1 y a;exact⟨r,b (Nat.le_max_left _ _) h3⟩
theorem H8 {f:Ty->Option Bool}:∀{l:List Ty},(∀x∈l,∃b,f x=some b)->∃b,xB f l=some b
 | [],_=>⟨false,rfl⟩
 | x::l,h=>by
  obtain⟨a,h1⟩:=h x (by simp);obtain⟨b,h2⟩:=H8 (l:=l) fun y c=>h y (by simp[c]);exact⟨a||b,by rw[xB,h1,h2]⟩
theorem xV {f:Ty->Option Ty}:∀{l:List Ty},(∀x∈l,∃b,f x=some b)->∃b,kx f l=some b
 | [],_=>⟨[],rfl⟩
 | x::l,h=>by
  obtain⟨a,h1⟩:=h x (by simp);obtain⟨b,h2⟩:=xV (l:=l) fun y c=>h y (by simp[c]);exact⟨a::b,by rw[kx,h1,h2]⟩
inductive kz (s:List Ty):Ty->Prop
 | step {t x:Ty}(h9:t.kind=9) (he:bS s t=some x) (hk:¬x.kind=0) (h:kz s x):kz s t
 | stop {t x:Ty}(h9:t.kind=9) (he:bS s t=some x) (hk:x.kind=0) (h:∀y∈t.args,kz s y):kz s t
 | arg {t:Ty}(h9:¬t.kind=9) (h:∀y∈t.args,kz s y):kz s t
theorem kz.front {s:List Ty}{t:Ty}(h:kz s t):∃n r,aP s n t=some r:=by
 induction h with
 | step a he b _ c =>
  obtain⟨n,r,h⟩:=c;exact⟨n+1,r,by rw[aP,eu a,he];simp only;rw[fo b];exact h⟩
 | stop a he b _ _=>exact⟨1,_,by rw[aP,eu a,he];simp only;rw[eu b]⟩
 | arg a _ _=>exact⟨1,_,by rw[aP,fo a]⟩
theorem kz.ap {s:List Ty}{t:Ty}(h:kz s t):∃n r,nC s n t=some r:=by
 induction h with
 | step b he d _ a =>
  obtain⟨n,r,h⟩:=a;exact⟨n+1,r,by rw[nC,eu b,he];simp only;rw[eu d];exact h⟩
 | stop b he d _ a =>
  obtain⟨n,h⟩:=oS (f:=nC s) nN a;obtain⟨l,c⟩:=xV h;exact⟨n+1,_,by rw[nC,eu b,he];simp only;rw[fo (fun q=>q d),c]⟩
 | arg b _ a =>
  obtain⟨n,h⟩:=oS (f:=nC s) nN a;obtain⟨l,c⟩:=xV h;exact⟨n+1,_,by rw[nC,fo b];simp only;rw[fo (fun q=>q rfl),c]⟩
theorem kz.occ {s:List Ty}(v:Int) {t:Ty}(h:kz s t):∃n r,jT s v n t=some r:=by
 induction h with
 | @step t x a he c _ d =>
  obtain⟨n,r,h⟩:=d;cases n with
  | zero=>cases h
  | succ n =>
   refine⟨n+2,r,?_⟩;rw[jT] at h ⊢;have e:aP s (n+1) t=aP s n x:=by rw[aP,eu a,he];simp only;rw[fo c]
   rw[e];cases hf:aP s n x with
   | none=>rw[hf] at h;cases h
   | some j =>
    rw[hf] at h;simp only at h ⊢
    by_cases a:j.kind=9
    ·rw[eu a] at h ⊢;exact h
    ·rw[fo a] at h ⊢;exact wu (fun x _ b hb=>ni (Nat.le_succ _) hb) h
 | @stop t x a he c _ _ =>
  exact⟨2,_,by rw[jT,aP,eu a,he];simp only;rw[eu c];simp only;rw[eu a]⟩
 | @arg t a _ d =>
  obtain⟨n,h⟩:=oS (f:=jT s v) ni d;have h:∀x∈t.args,∃b,jT s v (n+1) x=some b:=fun x k=>by
   obtain⟨b,hb⟩:=h x k;exact⟨b,ni (Nat.le_succ _) hb⟩
  obtain⟨b,hb⟩:=H8 h;exact⟨n+2,b,by rw[jT,aP,fo a];simp only;rw[fo a];exact hb⟩
theorem gj {s:List Ty}:∀{n:Nat}{t r:Ty},aP s n t=some r->r.kind=9->∃x,bS s r=some x/\x.kind=0
 | 0,t,r,h,_=>by cases h
 | n+1,t,r,h,c=>by
  rw[aP] at h
  by_cases b:t.kind=9
  ·rw[eu b] at h;cases he:bS s t with
   | none=>rw[he] at h;cases h
   | some x =>
    rw[he] at h;simp only at h
    by_cases a:x.kind=0
    ·rw[eu a] at h;injection h with h;rw[<-h];exact⟨x,he,a⟩
    ·rw[fo a] at h;exact gj h c
  ·rw[fo b] at h;injection h with h;exact o5 c (h▸b)
theorem Gx {s:List Ty}{t x:Ty}(b:t.kind=9) (he:bS s t=some x) (a:x.kind=0) (n:Nat):aP s (n+1) t=some t:=by
 rw[aP,eu b,he];simp only;rw[eu a]
theorem BV {s:List Ty}{t:Ty}(a:¬t.kind=9) (n:Nat):aP s (n+1) t=some t:=by
 rw[aP,fo a]
theorem wU {s:List Ty}{n m:Nat}{t r:Ty}(h:aP s n t=some r):aP s (m+1) r=some r:=by
 by_cases a:r.kind=9
 ·obtain⟨x,he,b⟩:=gj h a;exact Gx a he b m
 ·exact BV a m
theorem rW {s:List Ty}{p:Ty->Prop}(d:∀t x,p t->t.kind=9->bS s t=some x->¬x.kind=0->p x):∀{n:Nat}{t r:Ty},aP s n t=some r->p t->p r
 | 0,t,r,h,_=>by cases h
 | n+1,t,r,h,b=>by
  rw[aP] at h
  by_cases c:t.kind=9
  ·rw[eu c] at h;cases he:bS s t with
   | none=>rw[he] at h;cases h
   | some x =>
    rw[he] at h;simp only at h
    by_cases a:x.kind=0
    ·rw[eu a] at h;injection h with h;rw[<-h];exact b
    ·rw[fo a] at h;exact rW d h (d t x b c he a)
  ·rw[fo c] at h;injection h with h;exact h▸b
def Ex (s:List Ty) (t r:Ty):Prop:=∃n,nC s n t=some r
theorem Ex.one {s:List Ty}{t r q:Ty}(h:Ex s t r) (k:Ex s t q):r=q:=by
 obtain⟨n,h⟩:=h;obtain⟨m,k⟩:=k;have h1:=nN (Nat.le_max_left n m) h;have h2:=nN (Nat.le_max_right n m) k;rw[h1] at h2;exact abK h2
theorem Ex.front {s:List Ty}:∀{n:Nat}{t a r:Ty},aP s n t=some a->Ex s t r->Ex s a r
 | 0,t,a,r,h,_=>by cases h
 | n+1,t,a,r,h,⟨m,k⟩=>by
  rw[aP] at h
  by_cases c:t.kind=9
  ·rw[eu c] at h;cases he:bS s t with
   | none=>rw[he] at h;cases h
   | some x =>
    rw[he] at h;simp only at h
    by_cases b:x.kind=0
    ·rw[eu b] at h;injection h with h;rw[<-h];exact⟨m,k⟩
    ·rw[fo b] at h;cases m with
     | zero=>cases k
     | succ m =>
      rw[nC,eu c,he] at k;simp only at k;rw[eu b] at k;exact Ex.front h ⟨m,k⟩
  ·rw[fo c] at h;injection h with h;exact h▸⟨m,k⟩
theorem Ex.args {s:List Ty}{t r:Ty}(h:Ex s t r) (c:¬t.kind=9):r.kind=t.kind/\r.id=t.id/\r.args.length=t.args.length/\∀(j:Nat) (x:Ty),t.args[j]?=some x->∃y,r.args[j]?=some y/\Ex s x y:=by
 obtain⟨n,h⟩:=h;cases n with
 | zero=>cases h
 | succ n =>
  rw[nC,fo c] at h;simp only at h;rw[fo (fun q=>q rfl)] at h;cases a:kx (nC s n) t.args with
  | none=>simp only[a] at h;cases h
  | some l =>
   simp only[a] at h;injection h with h
   obtain⟨h1,h2⟩:=gM a;subst h;refine⟨rfl,rfl,by show l.length=_;rw[h2,vz],fun j x b=>?_⟩;refine⟨(nC s n x).getD x,by show l[j]?=_;rw[h2,abk,b];rfl,n,h1 x (aa8 b)⟩
theorem nj {n:Int}{t:Ty}(h:ins n t=true):1<=t.kind/\t.kind<=9:=by
 rw[qX] at h;split at h
 ·cases h
 ·omega
theorem fM {n:Int}{t:Ty}(h:ins n t=true) (a:t.kind=9):0<=t.id/\t.id<n/\t.args=[]:=by
 have b:=nj h;rw[qX,fo (by omega),eu a] at h;simp only[xo,abf] at h;exact⟨h.1.1,h.1.2,abO h.2⟩
theorem cR {n:Int}{t:Ty}(h:ins n t=true):∀x∈t.args,ins n x=true:=by
 have c:=nj h
 by_cases a:t.kind=9
 ·rw[(fM h a).2.2];intro x b;cases b
 ·rw[qX,fo (by omega),fo a,abg] at h;exact h
theorem wA {n i:Int}(h0:0<=i) (h1:i<n):ins n (.mk 9 i [])=true:=by
 rw[qX,fo (by show¬((9:Int)<1\/(9:Int)<9);omega),eu (show(Ty.mk 9 i []).kind=9 from rfl)];simp only[xo,abf];exact⟨⟨h0,h1⟩,rfl⟩
theorem nk {n:Nat}{i:Nat}(h:i<n):ins n (vr i)=true:=wA (by omega) (by omega)
theorem zI {n:Nat}{t:Ty}(h:ins n t=true) (a:t.kind=9):∃i:Nat,i<n/\t=vr i/\t.id=i:=by
 obtain⟨h0,h1,h2⟩:=fM h a;refine⟨t.id.toNat,by omega,uW a ?_ h2,by omega⟩;show t.id=(t.id.toNat:Int);omega
def Av (s:List Ty):Prop:=∀x∈s,x.kind=0\/ins s.length x=true
theorem oU {s:List Ty}{t x:Ty}(h:bS s t=some x):x∈s:=aa8 (bD h).2.1
theorem Av.elem {s:List Ty}(h:Av s) {t x:Ty}(he:bS s t=some x) (a:¬x.kind=0):ins s.length x=true:=(h x (oU he)).resolve_left a
theorem Av.front {s:List Ty}(h:Av s) {n:Nat}{t r:Ty}(hf:aP s n t=some r) (b:ins s.length t=true):ins s.length r=true :=
 rW (p:=fun t=>ins s.length t=true) (fun t x _ _ he a=>h.elem he a) hf b
theorem rm {s:List Ty}{t:Ty}(a:ins s.length t=true) (b:t.kind=9):∃x,bS s t=some x/\x∈s:=by
 obtain⟨h0,h1,_⟩:=fM a b;exact MF h0 h1
structure Good (s:List Ty):Prop where
 ins:Av s
 fin:∀i<s.length,kz s (vr i)
theorem Good.all {s:List Ty}(g:Good s):∀t:Ty,Try.ins s.length t=true->kz s t:=cL fun t c h=>by
 by_cases b:t.kind=9
 ·obtain⟨i,hi,e,_⟩:=zI h b;rw[e];exact g.fin i hi
 ·exact .arg b fun y a=>c y a (cR h y a)
def nu:List Ty->Nat
 | []=>0
 | x::l=>(if x.kind=0 then 1 else 0)+nu l
theorem BW {b:Ty}(hb:¬b.kind=0):∀{s:List Ty}{i:Nat}{x:Ty},s[i]?=some x->x.kind=0->nu (s.set i b)<nu s
 | [],i,x,h,_=>by simp at h
 | y::s,0,x,h,a=>by
  rw[abm] at h;injection h with h
  subst h;rw[List.set_cons_zero,nu,nu,fo hb,eu a];omega
 | y::s,i+1,x,h,a=>by
  rw[abv] at h;rw[List.set_cons_succ,nu,nu];have:=BW hb h a;omega
theorem nO {s:List Ty}{v:Int}{b t:Ty}(h0:0<=v) (h:t.id≠v):bS (s.set v.toNat b) t=bS s t:=by
 unfold bS;split
 ·rfl
 ·rw[ab8 (by omega)]
theorem EN {s:List Ty}{v:Int}{b t x:Ty}(h0:0<=v) (a:s[v.toNat]?=some x) (h:t.id=v):bS (s.set v.toNat b) t=some b:=by
 unfold bS;rw[fo (by omega),h,ace (aa6.1 a).1]
inductive rp (s:List Ty) (v:Int):Ty->Prop
 | step {t x:Ty}(h9:t.kind=9) (he:bS s t=some x) (hk:¬x.kind=0) (h:rp s v x):rp s v t
 | stop {t x:Ty}(h9:t.kind=9) (he:bS s t=some x) (hk:x.kind=0) (hv:t.id≠v) (ha:t.args=[]):rp s v t
 | arg {t:Ty}(h9:¬t.kind=9) (h:∀y∈t.args,rp s v y):rp s v t
theorem rp.front {s:List Ty}{v:Int}:∀{n:Nat}{t r:Ty},aP s n t=some r->rp s v r->rp s v t
 | 0,t,r,h,_=>by cases h
 | n+1,t,r,h,k=>by
  rw[aP] at h
  by_cases b:t.kind=9
  ·rw[eu b] at h;cases he:bS s t with
   | none=>rw[he] at h;cases h
   | some x =>
    rw[he] at h;simp only at h
    by_cases a:x.kind=0
    ·rw[eu a] at h;injection h with h;rw[h];exact k
    ·rw[fo a] at h;exact .step b he a (rp.front h k)
  ·rw[fo b] at h;injection h with h;rw[h];exact k
theorem rp.of {s:List Ty}(d:Av s) {v:Int}:∀{n:Nat}{t:Ty},ins s.length t=true->jT s v n t=some false->rp s v t
 | 0,t,_,h=>by cases h
 | n+1,t,f,h=>by
  rw[jT] at h;cases hf:aP s n t with
  | none=>rw[hf] at h;cases h
  | some r =>
   rw[hf] at h;have c:=d.front hf f;refine rp.front hf ?_;simp only at h
   by_cases a:r.kind=9
   ·rw[eu a] at h;obtain⟨x,he,e⟩:=gj hf a;exact .stop a he e (by injection h with h;exact ab3 h) (fM c a).2.2
   ·rw[fo a] at h;obtain⟨h1,h2⟩:=oQ h;refine .arg a fun y b=>rp.of d (n:=n) (cR c y b) ?_;have:=(acf.1 h2) y b;rw[acj] at this;rw[h1 y b,this]
theorem rp.set {s:List Ty}{v:Int}{b k t:Ty}(h0:0<=v) (o:s[v.toNat]?=some k) (f:k.kind=0) (h:rp s v t):kz (s.set v.toNat b) t:=by
 induction h with
 | @step t x a he c _ j =>
  have:t.id≠v:=fun e=>by
   obtain⟨_,d,_⟩:=bD he;rw[e,o] at d;injection d with d
   exact c (d▸f)
  exact .step a ((nO h0 this).trans he) c j
 | @stop t x a he c l n=>exact .stop a ((nO h0 l).trans he) c (by rw[n];intro y m;cases m)
 | @arg t a _ j=>exact .arg a j
theorem kz.set {s:List Ty}{v:Int}{b m t:Ty}(h0:0<=v) (l:s[v.toNat]?=some m) (j:m.kind=0) (k:¬b.kind=0) (hb:kz (s.set v.toNat b) b) (h:kz s t):kz (s.set v.toNat b) t:=by
 induction h with
 | @step t x a he d _ c =>
  have:t.id≠v:=fun e=>by
   obtain⟨_,f,_⟩:=bD he;rw[e,l] at f;injection f with f
   exact d (f▸j)
  exact .step a ((nO h0 this).trans he) d c
 | @stop t x a he d _ c =>
  by_cases e:t.id=v
  ·exact .step a (EN h0 l e) k hb
  ·exact .stop a ((nO h0 e).trans he) d c
 | @arg t a _ c=>exact .arg a c
structure FB (s s':List Ty):Prop where
 len:s'.length=s.length
 good:Good s'
 less:s'=s\/nu s'<nu s
theorem FB.refl {s:List Ty}(g:Good s):FB s s:=⟨rfl,g,.inl rfl⟩
theorem FB.trans {s t r:List Ty}(h:FB s t) (k:FB t r):FB s r:=by
 refine⟨k.len.trans h.len,k.good,?_⟩;rcases h.less with e | h1
 ·subst e;exact k.less
 ·rcases k.less with e | h2
  ·subst e;exact .inr h1
  ·exact .inr (by omega)
theorem Good.bind {s:List Ty}(g:Good s) {v:Int}{b h:Ty}(h0:0<=v) (e:s[v.toNat]?=some h) (a:h.kind=0) (hb:Try.ins s.length b=true) (j:rp s v b):FB s (s.set v.toNat b):=by
 have c:¬b.kind=0:=by have:=nj hb;omega
 have f:kz (s.set v.toNat b) b:=j.set h0 e a;refine⟨abU,⟨fun y d=>?_,fun i hi=>?_⟩,.inr (BW c e a)⟩
 ·rw[abU];rcases acp d with d | rfl
  ·exact g.ins y d
  ·exact .inr hb
 ·rw[abU] at hi;exact kz.set h0 e a c f (g.fin i hi)
theorem lO {n:Nat}{s:List Ty}{a b a' c:Ty}(d:aP s n a=some a') (hb:aP s n b=some c):ld (n+1) s a b =
   if a'.kind=9/\c.kind=9 then(if a'.id=c.id then some (some s) else some (some (s.set (max a'.id c.id).toNat (.mk 9 (min a'.id c.id) []))))
   else if a'.kind=9 then(match jT s a'.id n c with
    | none=>none
    | some true=>some none
    | some false=>some (some (s.set a'.id.toNat c)))
   else if c.kind=9 then ld n s c a'
   else if a'.kind≠c.kind\/a'.id≠c.id\/a'.args.length≠c.args.length then some none
   else jU (ld n) s a'.args c.args:=by
 rw[ld];simp only[d,hb];rfl
def Ends (s:List Ty) (a b:Ty):Prop:=∃n r,ld n s a b=some r/\∀s',r=some s'->FB s s'
theorem Na {s:List Ty}(g:Good s) {a' c:Ty}(ha:Try.ins s.length a'=true) (hb:Try.ins s.length c=true) (t:a'.kind=9) (ac:∃x,bS s a'=some x/\x.kind=0) (aa:c.kind=9->∃x,bS s c=some x/\x.kind=0) :
  ∃p r,(∀s',r=some s'->FB s s')/\∀n,p<=n->∀a b,aP s n a=some a'->aP s n b=some c->ld (n+1) s a b=some r:=by
 obtain⟨xa,l,h⟩:=ac;obtain⟨z,m,an⟩:=bD l
 by_cases f:c.kind=9
 ·obtain⟨xb,o,k⟩:=aa f;obtain⟨al,y,ao⟩:=bD o
  by_cases hi:a'.id=c.id
  ·refine⟨0,some s,fun s' e=>by injection e with e;subst e;exact FB.refl g,fun n _ a b h1 h2=>?_⟩;rw[lO h1 h2,eu ⟨t,f⟩,eu hi]
  ·refine⟨0,some (s.set (max a'.id c.id).toNat (.mk 9 (min a'.id c.id) [])),fun s' e=>?_,fun n _ a b h1 h2=>?_⟩
   ·injection e with e
    subst e;have ab:∃j,s[(max a'.id c.id).toNat]?=some j/\j.kind=0:=by
     rcases Int.le_total a'.id c.id with d | d
     ·rw[Int.max_eq_right d];exact⟨xb,y,k⟩
     ·rw[Int.max_eq_left d];exact⟨xa,m,h⟩
    have w:∃j,bS s (.mk 9 (min a'.id c.id) [])=some j/\j.kind=0:=by
     rcases Int.le_total a'.id c.id with d | d
     ·rw[Int.min_eq_left d];exact⟨xa,l,h⟩
     ·rw[Int.min_eq_right d];exact⟨xb,o,k⟩
    obtain⟨j,q1,q2⟩:=ab;obtain⟨x1,q3,q4⟩:=w;have v:min a'.id c.id≠max a'.id c.id:=by omega
    exact g.bind (by omega) q1 q2 (wA (by omega) (by omega)) (.stop rfl q3 q4 v rfl)
   ·rw[lO h1 h2,eu ⟨t,f⟩,fo hi]
 ·obtain⟨p,r,ho⟩:=(g.all c hb).occ a'.id;cases r with
  | true =>
   refine⟨p,none,fun s' e=>(by cases e),fun n u a b h1 h2=>?_⟩;rw[lO h1 h2,fo (fun q=>f q.2),eu t,ni u ho]
  | false =>
   refine⟨p,some (s.set a'.id.toNat c),fun s' e=>?_,fun n u a b h1 h2=>?_⟩
   ·injection e with e
    subst e;exact g.bind z m h hb (rp.of g.ins hb ho)
   ·rw[lO h1 h2,fo (fun q=>f q.2),eu t,ni u ho]
theorem BX {N:Nat}(q:∀s,Good s->nu s<N->∀a b,Try.ins s.length a=true->Try.ins s.length b=true->Ends s a b) {d:List Ty}(u:nu d<=N) :
  ∀(l f:List Ty),l.length=f.length->(∀(j:Nat) (x y:Ty),l[j]?=some x->f[j]?=some y->Try.ins d.length x=true/\Try.ins d.length y=true/\Ends d x y)->∀s,FB d s->∃n r,jU (ld n) s l f=some r/\∀s',r=some s'->FB d s'
 | [],f,_,_,s,c=>⟨0,some s,rfl,fun s' e=>by injection e with e;exact e▸c⟩
 | x::l,[],h,_,s,c=>by cases h
 | x::l,y::f,h,p,s,c=>by
  obtain⟨o,k,he⟩:=p 0 x y rfl rfl;have h1:Ends s x y:=by
   rcases c.less with e | t
   ·rw[e];exact he
   ·exact q s c.good (by omega) x y (by rw[c.len];exact o) (by rw[c.len];exact k)
  obtain⟨n,r,h1,h2⟩:=h1;cases r with
  | none=>exact⟨n,none,by rw[jU,h1],fun s' e=>by cases e⟩
  | some s1 =>
   obtain⟨m,r,h3,h4⟩:=BX q u l f (by simpa using h) (fun j x y o k=>p (j+1) x y o k) s1 (c.trans (h2 s1 rfl));refine⟨max n m,r,?_,h4⟩;rw[jU,iC (Nat.le_max_left n m) h1];exact rV (fun s x y b hb=>iC (Nat.le_max_right n m) hb) h3
theorem u9:∀(N:Nat) (s:List Ty),Good s->nu s<N->∀a b,ins s.length a=true->ins s.length b=true->Ends s a b
 | 0,s,_,h,_,_,_,_=>o5 h (abL _)
 | N+1,s,g,hu,a,b,u,hb=>by
  have hN:=u9 N;have main:∀(M:Nat) (a b o p:Ty),ins s.length a=true->ins s.length b=true->Ex s a o->Ex s b p->SizeOf.sizeOf o+SizeOf.sizeOf p<M->Ends s a b:=by
   intro M
   induction M with
   | zero=>intro a b o p _ _ _ _ h;exact o5 h (abL _)
   | succ M ih =>
    intro a b o p u hb k l hM;obtain⟨z,a',fa⟩:=(g.all a u).front;obtain⟨n2,t,fb⟩:=(g.all b hb).front;have f:=g.ins.front fa u;have m:=g.ins.front fb hb;have ad:=k.front fa;have ae:=l.front fb
    by_cases d:a'.kind=9
    ·obtain⟨n0,r,h1,h2⟩:=Na g f m d (gj fa d) (fun q=>gj fb q);exact⟨_,r,h2 (max n0 (max z n2)) (by omega) a b (dW (by omega) fa) (dW (by omega) fb),h1⟩
    by_cases c:t.kind=9
    ·obtain⟨n0,r,h1,h2⟩:=Na g m f c (gj fb c) (fun q=>o5 q d);refine⟨max n0 (max z n2)+1+1+1,r,?_,h1⟩;rw[lO (dW (by omega) fa) (dW (by omega) fb),fo (fun q=>d q.1),fo d,eu c];exact h2 _ (by omega) t a' (wU fb) (wU fa)
    by_cases hd:a'.kind≠t.kind\/a'.id≠t.id\/a'.args.length≠t.args.length
    ·refine⟨max z n2+1,none,?_,fun s' e=>by cases e⟩;rw[lO (dW (by omega) fa) (dW (by omega) fb),fo (fun q=>d q.1),fo d,fo c,eu hd]
    ·obtain⟨e1,e2,e3,e4⟩:=ad.args d;obtain⟨f1,f2,f3,f4⟩:=ae.args c;obtain⟨n,r,h1,h2⟩:=BX hN (show nu s<=N by omega) a'.args t.args (by omega) (fun j x y hx hy=>by
      obtain⟨x',ab,ag⟩:=e4 j x hx;obtain⟨y',am,ac⟩:=f4 j y hy;have s1:=HV (aa8 ab);have s2:=HV (aa8 am);have w:=cR f x (aa8 hx);have v:=cR m y (aa8 hy);exact⟨w,v,ih x y x' y' w v ag ac (by omega)⟩) s (FB.refl g)
     refine⟨max n (max z n2)+1,r,?_,h2⟩;rw[lO (dW (by omega) fa) (dW (by omega) fb),fo (fun q=>d q.1),fo d,fo c,fo hd];exact rV (fun s x y b hb=>iC (by omega) hb) h1
  obtain⟨na,o,k⟩:=(g.all a u).ap;obtain⟨nb,p,l⟩:=(g.all b hb).ap;exact main _ a b o p u hb ⟨na,k⟩ ⟨nb,l⟩ (acd _)
end Go.Fr.Try
