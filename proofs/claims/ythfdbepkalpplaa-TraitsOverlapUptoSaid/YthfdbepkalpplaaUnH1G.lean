/- Part of the proofs of the statements of this seat. -/
import Derived.Test.YthfdbepkalpplaaUnF3G
import Derived.Test.YthfdbepkalpplaaUnV1G
set_option maxRecDepth 10000
set_option linter.unusedVariables false
set_option linter.unusedSimpArgs false
namespace Go.Fr.Try
open Go Go.RowKit Go.Proofs Go.Fr Go.Fr.T Go.Fr.Api
theorem Tf (PS:Value->Prop) (M0:TL) (e:Int) (len i:Nat):evalTC P ⟨PS,[],none⟩ (.seq z9 zc) (fun j M τ=>j=2/\¬i<len/\HS M0 e len i M τ) (fun _ _=>False) (fun M τ=>i<len/\HS M0 e len i M τ) M0 (hE e len i):=by
 refine ah (fun h=>?_) (fun h=>?_)
 ·exact⟨by omega,rfl,rfl,rfl,rfl,rfl⟩
 ·exact⟨rfl,by omega,rfl,rfl,rfl,rfl,rfl⟩
theorem Tg (PS:Value->Prop) (M0:TL) (e:Int) (len i:Nat) (h:i+1<=9223372036854775807):evalTC P ⟨PS,[],none⟩ XF (fun _ _ _=>False) (fun _ _=>False) (fun M τ=>HS M0 e len (i+1) M τ) M0 (hE e len i):=by
 refine Fit.aag (by omega) (by omega) ?_;exact⟨rfl,rfl,rfl,rfl,rfl⟩
theorem Wp (s:List Ty) (PS:Value->Prop) (e:Int) (len i:Nat) (d:DM) (o:OM) (b:Option (Int×DM×OM)) (c:Oh s (vr i) d o (KP s b) (PD b)) (f:b=none->PS (cB 1)) :
  evalTC P ⟨PS,[],none⟩ (.seq Uz S7) (fun _ _ _=>False) (fun _ _=>False) (fun M τ=>∃k a o',b=some (k,a,o')/\HS (Ta s a o') e len i M τ/\τ 67=.bool (decide (k>8))) (Ta s d o) (hE e len i):=by
 refine Cd [1000,1001,10,11] c rfl rfl rfl rfl rfl (fun v q=>q.2▸f q.1) fun k a o' h _=>?_;exact⟨k,a,o',h,⟨rfl,rfl,rfl,rfl,rfl⟩,rfl⟩
theorem Ti (s:List Ty) (d:DM) (o:OM) (R:List TO->C->Prop) (h:R (Iy s d o) (.tup [])):f9 (o4 s) (Ta s d o) (.tup []) R :=
 pu [1000,1001,10,11] rfl rfl rfl rfl h
theorem Wq (s:List Ty) (PS:Value->Prop) (e:Int) (len i:Nat) (d:DM) (o:OM) (b:Option (Int×DM×OM)) (c:PK s (vr i) d o (LC s b) (PD b)) (f:b=none->PS (cB 1)) :
  evalTC P ⟨PS,[],none⟩ (.seq Uz S7) (fun _ _ _=>False) (fun _ _=>False) (fun M τ=>∃k a o',b=some (k,a,o')/\HS (Td s a o') e len i M τ/\τ 67=.bool (decide (k>8))) (Td s d o) (hE e len i):=by
 refine E5 [1000,10,11] c rfl rfl rfl rfl rfl (fun v q=>q.2▸f q.1) fun k a o' h _=>?_;exact⟨k,a,o',h,⟨rfl,rfl,rfl,rfl,rfl⟩,rfl⟩
theorem Tj (s:List Ty) (d:DM) (o:OM) (R:List TO->C->Prop) (h:R (Iz s d o) (.tup [])):f9 (um s) (Td s d o) (.tup []) R :=
 pu [1000,10,11] rfl rfl rfl rfl h
theorem K2 {Lin:List TO}{Li:List Own}{F:au}{args:List C}{d:List Value}{w:World}(m:Nat) (y:Li.length=Lin.length) (o:bK F (inp Li) (cD Lin)) (r:ay F (inp Li) args d) (u:St F (inp Li) w) :
  ∃(G:Nat->Option (Nat×TypeId)) (a:Env),aA (inp Li) a {tmps:=d.toArray++Array.replicate m undef,defers:=[]}/\TS G F (inp Li) a (cD Lin) (jM 0 args)/\(∀k g t cs,(inp Li).get k=some (.box g t cs)->G k=some (g,t)):=by
 have l:=r.len;have key:∀j,∃sv,aL F (inp Li) (jM 0 args j) sv/\conc (inp Li) sv=(d.toArray++Array.replicate m undef).getD j undef/\(∀k off,sv=.own k off->∃g t cs,(inp Li).get k=some (.box g t cs))/\(∀f i,sv=.el f i->f≠none):=by
  intro j;rw[nJ];simp only[aa9,abj,Nat.sub_zero,aa4];cases e:args[j]? with
  | some c =>
   have b:j<d.length:=by rw[l];exact(aaR.1 e).1
   obtain⟨s1,s2,s3,s⟩:=qK (r.at e (aaN b));refine⟨_,s1,?_,s3,fun f i e=>o5 e (s f i)⟩;rw[s2,Array.getElem?_append_left (by simpa using b)];simp[b]
  | none =>
   have p:d.length<=j:=by rw[l];exact abx.1 e
   refine⟨.v undef,kO,?_,fun _ _ e=>(by cases e),fun _ _ e=>(by cases e)⟩;rw[Array.getElem?_append_right (by simpa using p)];simp only[Array.getElem?_replicate,conc];split<;>rfl
 let a:Env:=fun j=>(key j).choose
 have x:aA (inp Li) a {tmps:=d.toArray++Array.replicate m undef,defers:=[]} :=
  ⟨fun t=>(key t).choose_spec.2.1.symm,fun t k off e=>(key t).choose_spec.2.2.1 k off e,fun t f j e=>(key t).choose_spec.2.2.2 f j e⟩
 let G:Nat->Option (Nat×TypeId):=fun k=>match(inp Li).get k with | some (.box g t _)=>some (g,t) | _=>none
 have q:∀k g t cs,(inp Li).get k=some (.box g t cs)->G k=some (g,t):=fun k g t cs e=>by simp only[G,e]
 have n:Kp G (inp Li):=by
  intro k g t e;simp only[G] at e;split at e
  ·rename_i g' z cs h;injection e with e
   injection e with e1 e2
   subst e1 e2;exact⟨cs,h⟩
  ·cases e
 exact⟨G,a,x,⟨o,fun j=>(key j).choose_spec.1,n,u.glob⟩,q⟩
structure FV (s:List Ty) (Lin:List TO) (Mh:DM->OM->TL) (Sd:DM->OM->List TO):Prop where
 len:∀(F:au) (L:Loc),bK F L (cD Lin)->s.length<=9223372036854775807
 pre:s.length<=9223372036854775807->∀(e:Int) (PS:Value->Prop),(s.all (eF s.length)=false->PS (cB 1)) ->
  evalTC P ⟨PS,[],none⟩ (.seq z0 (.seq z1 z8)) (fun _ _ _=>False) (fun _ _=>False) (fun M τ=>s.all (eF s.length)=true/\HS (Mh [] []) e s.length 0 M τ) (cD Lin) (jM 0 [.own 1000 0,IC e])
 it:∀(n:Nat) (PS:Value->Prop) (e:Int) (i:Nat) (d:DM) (o:OM) (r1:Option (Int×DM×OM)),bw s n (vr i) d o=some r1->(r1=none->PS (cB 1)) ->
  evalTC P ⟨PS,[],none⟩ (.seq Uz S7) (fun _ _ _=>False) (fun _ _=>False) (fun M τ=>∃k d' o',r1=some (k,d',o')/\HS (Mh d' o') e s.length i M τ/\τ 67=.bool (decide (k>8))) (Mh d o) (hE e s.length i)
 ret:∀(d:DM) (o:OM) (R:List TO->C->Prop),R (Sd d o) (.tup [])->f9 Lin (Mh d o) (.tup []) R
theorem Rm {v:Value}{c:List PanicEntry}(h:rD v c):∀e∈c,e.goexit=false:=by
 obtain⟨b,rfl,h⟩:=h;intro e a;rcases aaT.1 a with rfl | a
 ·rfl
 ·exact h e a
theorem Fc {s:List Ty}{n:Nat}{r:Option (DM×OM)}(a:bA s n=some r) (c:s.all (eF s.length)=true) :
  ∃y,dw s n s.length=some y/\(y=none->r=none)/\(∀d o,y=some (true,d,o)->r=none)/\∀d o,y=some (false,d,o)->r=some (d,o):=by
 unfold bA at a;rw[fo c] at a;cases b:dw s n s.length with
 | none=>simp only[b] at a;cases a
 | some y =>
  refine⟨y,rfl,?_,?_,?_⟩
  ·rintro rfl;simp only[b] at a;injection a with a;exact a.symm
  ·rintro d o rfl;simp only[b,abj] at a;injection a with a;exact a.symm
  ·rintro d o rfl;simp only[b] at a;rw[fL (by decide)] at a;injection a with a;exact a.symm
theorem Ii {s:List Ty}{n:Nat}{r:Option (DM×OM)}(a:bA s n=some r) (b:s.all (eF s.length)=false):r=none:=by
 unfold bA at a;rw[fL (by rw[b];exact aa8)] at a;injection a with a;exact a.symm
theorem yJ {s:List Ty}{Lin:List TO}{Mh:DM->OM->TL}{Sd:DM->OM->List TO}(V:FV s Lin Mh Sd) (e:Int) (n:Nat) (r:Option (DM×OM)) (hr:bA s n=some r) :
  CallsTX P 58 [.own 1000 0,IC e] Lin (fun Mo v=>∃d o,r=some (d,o)/\Mo=Sd d o/\v=.tup []) (PF e r):=by
 refine⟨fun F Li vs hl aE ha=>⟨⟨Try.f58,Try.func58,by rw[DQ];rfl,by kernel_rfl⟩,gC.aao,fun w hs=>?_⟩⟩;have bt:=V.len F _ aE;have cp:Try.f58.ntmps=72:=by kernel_rfl
 have cm:vs.length=2:=by have:=ha.len;simpa using this
 obtain⟨G,co,he,ht,bu⟩:=K2 (72-vs.toArray.size) hl aE ha hs;refine vS (t:=98) (x:=.agg #[.int .i64 e]) Try.func58 DQ ?_;rw[cp];generalize hR:(fun(en:Ending) (w':World)=>(∃v F' Lo,en=.returned v/\St F' (inp Lo) w'/\Step F (inp Li) w F' (inp Lo) w'/\gC Li (fun Mo v=>∃d o,r=some (d,o)/\Mo=Sd d o/\v=.tup []) F' Lo v) \/
  ∃v f F' Lo,en=.panicked f/\rD v f/\St F' (inp Lo) w'/\Step F (inp Li) w F' (inp Lo) w'/\Lo.length=Li.length/\(∀(i:Nat) g t cs,Li[i]?=some (.box g t cs)->∃cs',Lo[i]?=some (.box g t cs'))/\PF e r v)=RR
 have Rp:∀v f w',rD v f->PF e r v->(∃F' L',St F' L' w'/\Step F (inp Li) w F' L' w'/\Kp G L')->RR (.panicked f) w':=by
  rintro v f w' p u ⟨F',L',g1,g2,kp⟩;obtain⟨Lo,q1,q2,q3,q4⟩:=rU g1 g2 (fun i g t cs hi=>kp (1000+i) g t (bu _ g t cs (by rw[aF,fo (by omega),show 1000+i-1000=i by omega];exact hi)));rw[<-hR];exact .inr ⟨v,f,F',Lo,rfl,p,q1,q2,q3,q4,u⟩
 have cy:r=none->PF e r (cB 1):=fun h=>⟨h,1,.inl rfl,rfl⟩;have bl:r=none->PF e r (cB e):=fun h=>⟨h,e,.inr rfl,rfl⟩;have M0:MS G F Li w (fun M τ=>M=cD Lin/\τ=jM 0 [.own 1000 0,IC e]) {tmps:=vs.toArray++Array.replicate (72-vs.toArray.size) undef,defers:=[]} w :=
  ⟨F,inp Li,co,_,_,hs,he,ht,by simp[cm],Step.refl _ _ _,rfl,rfl⟩
 generalize cl:({tmps:=vs.toArray++Array.replicate (72-vs.toArray.size) undef,defers:=[]}:Act)=a0 at M0;have bz:a0.defers=[]:=by rw[<-cl]
 -- what a panic of a piece means
 have pan:∀(v:Value) (f:List PanicEntry) (a':Act) (w':World),rD v f->(r=none/\v=cB 1)->(∀dd∈a'.defers,dd=sA (cB e))->(∃F' L',St F' L' w'/\Step F (inp Li) w F' L' w'/\Kp G L')->qR P Try.f58 (cB e) RR (.panic f) a' w':=by
  rintro v f a' w' p ⟨bm,rfl⟩ ac c;exact⟨ac,fun _=>Rp _ _ _ p (cy bm) c,fun _=>⟨Rm p,fun eo da=>Rp _ _ _ da (bl bm) c⟩⟩
 have an:∀{a':Act},a'.defers=[]->∀dd∈a'.defers,dd=sA (cB e):=fun h dd l=>by rw[h] at l;cases l
 have bk:=V.pre bt e (fun v=>r=none/\v=cB 1) fun h=>⟨Ii hr h,rfl⟩;refine wp_seq (MS.piece Wj rfl M0 (PS:=⟨fun v=>r=none/\v=cB 1,[],none⟩) (E:=fun _ _ _=>False) (N:=fun M τ=>evalTC P ⟨fun v=>r=none/\v=cB 1,[],none⟩ (.seq z1 z8) (fun _ _ _=>False) (fun _ _=>False) (fun M τ=>s.all (eF s.length)=true/\HS (Mh [] []) e s.length 0 M τ) M τ)
  (fun M τ q=>by rw[q.1,q.2];exact bk) (fun a1 w1 am M1=>?_) (fun j a' w' _ h=>(by obtain⟨_,_,_,_,_,_,_,_,_,_,h⟩:=h;exact h.elim)) (fun v f a' w' p l u c=>pan v f a' w' p u (an (l.trans bz)) c))
 have am:=am.trans bz;refine wp_seq (MS.piece Wk rfl M1 (PS:=⟨fun v=>r=none/\v=cB 1,[],none⟩) (E:=fun _ _ _=>False) (N:=fun M τ=>evalTC P ⟨fun v=>r=none/\v=cB 1,[],none⟩ z8 (fun _ _ _=>False) (fun _ _=>False) (fun M τ=>s.all (eF s.length)=true/\HS (Mh [] []) e s.length 0 M τ) M τ)
  (fun M τ q=>q) (fun a2 w2 az M2=>?_) (fun j a' w' _ h=>(by obtain⟨_,_,_,_,_,_,_,_,_,_,h⟩:=h;exact h.elim)) (fun v f a' w' p l u c=>pan v f a' w' p u (an (l.trans am)) c))
 have az:=az.trans am;refine wp_seq (MS.piece Wl rfl M2 (PS:=⟨fun v=>r=none/\v=cB 1,[],none⟩) (E:=fun _ _ _=>False) (N:=fun M τ=>s.all (eF s.length)=true/\HS (Mh [] []) e s.length 0 M τ)
  (fun M τ q=>q) (fun a3 w3 aw M3=>?_) (fun j a' w' _ h=>(by obtain⟨_,_,_,_,_,_,_,_,_,_,h⟩:=h;exact h.elim)) (fun v f a' w' p l u c=>pan v f a' w' p u (an (l.trans az)) c))
 have aw:=aw.trans az;have bo:s.all (eF s.length)=true:=by obtain⟨_,_,_,_,_,_,_,_,_,_,h⟩:=M3;exact h.1
 obtain⟨y,hy,yn,yb,yo⟩:=Fc hr bo;have M3:=M3.weak fun M τ q=>q.2;refine wp_block (uo (fun m a1 w1=>∃(i:Nat) (b:Bool) (d:DM) (o:OM),m=s.length-i/\i<=s.length/\dw s n i=some (some (b,d,o))/\MS G F Li w (fun M τ=>M=Mh d o/\τ=hE e s.length i) a1 w1/\(∀dd∈a1.defers,dd=sA (cB e))/\(b=true->a1.defers≠[])/\(b=false->a1.defers=[])) ?_ ?_)
 ·exact⟨_,0,false,[],[],rfl,aa9 _,rfl,M3,an aw,(fun h=>by cases h),fun _=>aw⟩
 rintro m a4 w4 ⟨i,b,d,o,rfl,hi,hf,M4,ab,av,ao⟩;have cf:=Tf (fun v=>r=none/\v=cB 1) (Mh d o) e s.length i;have done:∀(j:Nat) (a':Act) (w':World),a'.defers=a4.defers->MS G F Li w (fun M τ=>j=2/\¬i<s.length/\HS (Mh d o) e s.length i M τ) a' w'->Exit.inBlock 2 (qR P Try.f58 (cB e) RR) (.exit j) a' w':=by
  rintro j a' w' l ⟨F',L',ρ',M',cY,g1,g2,g3,g4,g5,rfl,bc,hM,_⟩;have cM:i=s.length:=by omega
  rw[cM,hy] at hf;injection hf with hf
  simp only[Exit.inBlock,abj];refine⟨l▸ab,fun bv=>?_,fun cr f p=>?_⟩
  ·have hb:b=false:=by
    cases b with
    | false=>rfl
    | true=>exact o5 (l▸bv) (av rfl)
   subst hb;have cX:=yo d o hf;have hq:=Ah (P:=P) (fn:=Try.f58) (rs:=[]) (n:=72) (asg:=[]) (a0:=a') (a':=a') (w':=w') (R:=fun Mo v=>∃d o,r=some (d,o)/\Mo=Sd d o/\v=.tup []) (by kernel_rfl) hl aE bu
    ⟨F',L',ρ',g1,g2,g4,rfl,g5,fun _ _=>rfl,M',cY,g3,by rw[hM];exact V.ret d o _ ⟨d,o,cX,rfl,rfl⟩⟩
   obtain⟨_,v,k2,F2,Lo,k3,k4,k5⟩:=hq;exact⟨v,k2,by rw[<-hR];exact .inl ⟨v,F2,Lo,rfl,k3,k4,k5⟩⟩
  ·have hb:b=true:=by
    cases b with
    | true=>rfl
    | false=>exact o5 (l.trans (ao rfl)) cr
   subst hb;exact Rp _ _ _ p (bl (yb d o hf)) ⟨F',L',g1,g5,g3.kp⟩
 refine wp_seq (MS.piece Wm rfl M4 (PS:=⟨fun v=>r=none/\v=cB 1,[],none⟩) (E:=fun j M τ=>j=2/\¬i<s.length/\HS (Mh d o) e s.length i M τ) (N:=fun M τ=>evalTC P ⟨fun v=>r=none/\v=cB 1,[],none⟩ zc (fun j M τ=>j=2/\¬i<s.length/\HS (Mh d o) e s.length i M τ) (fun _ _=>False) (fun M τ=>i<s.length/\HS (Mh d o) e s.length i M τ) M τ)
  (fun M τ q=>by rw[q.1,q.2];exact cf) (fun a5 w5 ba M5=>?_) (fun j a' w' l h=>done j a' w' l h) (fun v f a' w' p l u c=>pan v f a' w' p u (l▸ab) c))
 refine wp_seq (MS.piece Wn rfl M5 (PS:=⟨fun v=>r=none/\v=cB 1,[],none⟩) (E:=fun j M τ=>j=2/\¬i<s.length/\HS (Mh d o) e s.length i M τ) (N:=fun M τ=>i<s.length/\HS (Mh d o) e s.length i M τ)
  (fun M τ q=>q) (fun a6 w6 al M6=>?_) (fun j a' w' l h=>?_) (fun v f a' w' p l u c=>pan v f a' w' p u (l.trans ba▸ab) c))
 ·-- a variable more
  have al:=al.trans ba;have bc:i<s.length:=by obtain⟨_,_,_,_,_,_,_,_,_,_,h⟩:=M6;exact h.1
  have M6:=M6.weak fun M τ q=>q.2;obtain⟨y1,bb⟩:=yH hy (i+1) bc;obtain⟨r1,df,ci,cx⟩:=Fb hf bb;have cz:=V.it n (fun v=>r=none/\v=cB 1) e i d o r1 df (fun h=>by
   have h1:=yI (bb.trans (vv some (ci h))) (s.length-(i+1));rw[show i+1+(s.length-(i+1))=s.length by omega,hy] at h1;injection h1 with h1
   exact⟨yn h1,rfl⟩)
  refine wp_seq (wp_block (wp_seq (MS.piece S6 rfl M6 (PS:=⟨fun v=>r=none/\v=cB 1,[],none⟩) (E:=fun _ _ _=>False) (N:=fun M τ=>evalTC P ⟨fun v=>r=none/\v=cB 1,[],none⟩ S7 (fun _ _ _=>False) (fun _ _=>False) (fun M τ=>∃k d' o',r1=some (k,d',o')/\HS (Mh d' o') e s.length i M τ/\τ 67=.bool (decide (k>8))) M τ)
   (fun M τ q=>by rw[q.1,q.2];exact cz) (fun a7 w7 ar M7=>?_) (fun j a' w' _ h=>(by obtain⟨_,_,_,_,_,_,_,_,_,_,h⟩:=h;exact h.elim)) (fun v f a' w' p l u c=>pan v f a' w' p u (l.trans al▸ab) c))))
  have ar:=ar.trans al;refine wp_seq (MS.piece S8 rfl M7 (PS:=⟨fun v=>r=none/\v=cB 1,[],none⟩) (E:=fun _ _ _=>False) (N:=fun M τ=>∃k d' o',r1=some (k,d',o')/\HS (Mh d' o') e s.length i M τ/\τ 67=.bool (decide (k>8)))
   (fun M τ q=>q) (fun a8 w8 ad M8=>?_) (fun j a' w' _ h=>(by obtain⟨_,_,_,_,_,_,_,_,_,_,h⟩:=h;exact h.elim)) (fun v f a' w' p l u c=>pan v f a' w' p u (l.trans ar▸ab) c))
  have ad:=ad.trans ar;have hk:∃k d' o',r1=some (k,d',o'):=by
   obtain⟨_,_,_,_,_,_,_,_,_,_,k,d',o',h,_⟩:=M8;exact⟨k,d',o',h⟩
  obtain⟨k,d',o',rfl⟩:=hk;have M8:MS G F Li w (fun M τ=>HS (Mh d' o') e s.length i M τ/\τ 67=.bool (decide (k>8))) a8 w8:=M8.mono fun M τ ⟨k1,d1,o1,h,q⟩=>by
   injection h with h
   injection h with h1 h2
   injection h2 with h2 h3
   subst h1 h2 h3;exact q
  have de:=M8.bool (j:=67) fun M τ q=>q.2;have cd:=M8.int (j:=1) fun M τ q=>q.1.2.2.1;have bp:a8.tmps.size=72:=by obtain⟨_,_,_,_,_,_,_,_,h,_⟩:=M8;exact h
  have M8:=M8.weak fun M τ q=>q.1
  -- the end of a round
  have fin:∀(a9:Act),MS G F Li w (fun M τ=>M=Mh d' o'/\τ=hE e s.length i) a9 w8->(∀dd∈a9.defers,dd=sA (cB e))->((b||decide (k>8))=true->a9.defers≠[])->((b||decide (k>8))=false->a9.defers=[]) ->
    k13.wp P (Exit.then (fun a' w'=>∃m,m<s.length-i/\∃(i:Nat) (b:Bool) (d:DM) (o:OM),m=s.length-i/\i<=s.length/\dw s n i=some (some (b,d,o))/\MS G F Li w (fun M τ=>M=Mh d o/\τ=hE e s.length i) a' w'/\(∀dd∈a'.defers,dd=sA (cB e))/\(b=true->a'.defers≠[])/\(b=false->a'.defers=[])) (Exit.inBlock 2 (qR P Try.f58 (cB e) RR))) a9 w8:=by
   intro a9 M9 bs av ao;have cw:=Tg (fun v=>r=none/\v=cB 1) (Mh d' o') e s.length i (by omega);refine MS.piece S9 rfl M9 (PS:=⟨fun v=>r=none/\v=cB 1,[],none⟩) (E:=fun _ _ _=>False) (N:=fun M τ=>HS (Mh d' o') e s.length (i+1) M τ)
    (fun M τ q=>by rw[q.1,q.2];exact cw) (fun eh ej ag M10=>?_) (fun j a' w' _ h=>(by obtain⟨_,_,_,_,_,_,_,_,_,_,h⟩:=h;exact h.elim)) (fun v f a' w' p l u c=>pan v f a' w' p u (l▸bs) c)
   refine⟨s.length-(i+1),by omega,i+1,b||decide (k>8),d',o',rfl,bc,bb.trans (vv some (cx k d' o' rfl)),M10.weak fun M τ q=>q,ag▸bs,ag▸av,ag▸ao⟩
  refine wp_cond_split (t:=decide (k>8)) de (fun hk=>?_) (fun hk=>?_)
  ·refine Wo bp cd fun x y z=>?_;refine fin _ (((M8.wr (by omega) (by omega) (by omega) (by omega) (by omega)).wr (by omega) (by omega) (by omega) (by omega) (by omega)).wr (by omega) (by omega) (by omega) (by omega) (by omega)).defers ?_ (fun _ h=>by cases h) (fun h=>by rw[hk,Bool.or_true] at h;cases h);intro dd ac;rcases aaT.1 ac with rfl | ac
   ·rfl
   ·rw[ad] at ac;exact ab dd ac
  ·refine wp_skip ?_;refine fin _ M8 (ad▸ab) (fun h=>?_) (fun h=>?_)
   ·rw[ad];exact av (by rw[hk,Bool.or_false] at h;exact h)
   ·rw[ad];exact ao (by rw[hk,Bool.or_false] at h;exact h)
 ·exact done j a' w' (l.trans ba) h
theorem Wr {s:List Ty}{F:au}{L:Loc}(h:bK F L (cD (o4 s))):s.length<=9223372036854775807:=by
 have q:=h 1001;have q:xu F L (some (.row 32 3 (s.map aG))) (L.get 1001):=q;cases e:L.get 1001 with
 | none=>rw[e] at q;exact q.elim
 | some o =>
  rw[e] at q;cases o with
  | box=>exact q.elim
  | row v t sz n xs =>
   obtain⟨_,_,a,⟨b,_⟩,_⟩:=q;rw[v5] at a;simp only[maxLen] at b;omega
theorem Ws {s:List Ty}{F:au}{L:Loc}(h:bK F L (cD (um s))):s.length<=9223372036854775807:=by
 have q:=h 1000;have q:xu F L (some (.box 93 [.sl (s.map aG),.any,.any])) (L.get 1000):=q;cases e:L.get 1000 with
 | none=>rw[e] at q;exact q.elim
 | some o =>
  rw[e] at q;cases o with
  | row=>exact q.elim
  | box g t cs =>
   have q:=q.2;simp only[ay,Rel] at q;obtain⟨v,_,_,⟨a,c,_,_,b,_⟩,_⟩:=q;rw[v5] at b;simp only[maxLen] at b;omega
theorem fvU (s:List Ty):FV s (o4 s) (Ta s) (Iy s) :=
 ⟨fun F L h=>Wr h,fun a e PS h=>Tc s e PS h a,fun n PS e i d o b h c=>Wp s PS e s.length i d o b (Gp s n (vr i) d o b h) c,fun d o R h=>Ti s d o R h⟩
theorem fvF (s:List Ty):FV s (um s) (Td s) (Iz s) :=
 ⟨fun F L h=>Ws h,fun a e PS h=>Te s e PS h a,fun n PS e i d o b h c=>Wq s PS e s.length i d o b (KS s n (vr i) d o b h) c,fun d o R h=>Tj s d o R h⟩
theorem Wt (s:List Ty) (e:Int) {n:Nat}{r:Option (DM×OM)}(a:bA s n=some r):DI s e r:=yJ (fvU s) e n r a
theorem Wu (s:List Ty) (e:Int) {n:Nat}{r:Option (DM×OM)}(a:bA s n=some r):tU s e r:=yJ (fvF s) e n r a
theorem unify (n:Nat) (s:List Ty) (a b:Ty) (j:s.length<=2 ^ 30) (F:Fuel n s a b) (d:cn a<=2 ^ 40) (c:cn b<=2 ^ 40)
  (f:∀s',KU n s a b s'->s'.length<=2 ^ 30/\(∀x∈s',iN x)/\∃r,jJ s' n=some r):CallsT P 23 [.sl (s.map aG),aR a,aR b] [] (RN n s a b) :=
 t23 n s a b j F (fun s e r h=>Wt s e h) d c f
theorem apply (s:List Ty) (n:Nat) (t r:Ty) (d:DM) (o:OM) (h:bA s n=some (some (d,o))) (a:∀x∈s,iN x) (hb:iN t) (b:Rh s n t=some r):CallsT P 22 [.sl (s.map aG),aR t] [] (aT [] (aR r)) :=
 t22 s n t r d o (Wu s 1 h) a hb b
mutual
def gs (u:List Ty):Ty->Ty
 | .mk k i l=>if k=9 then(u[i.toNat]?).getD (.mk 0 0 []) else .mk k i (UA u l)
def UA (u:List Ty):List Ty->List Ty
 | []=>[]
 | t::l=>gs u t::UA u l
end
theorem Gx (u:List Ty):∀l:List Ty,UA u l=l.map (gs u)
 | []=>rfl
 | t::l=>by rw[UA,Gx u l];rfl
theorem PW (u:List Ty) (t:Ty):gs u t=if t.kind=9 then(u[t.id.toNat]?).getD (.mk 0 0 []) else .mk t.kind t.id (t.args.map (gs u)):=by
 cases t;rw[gs,Gx];rfl
theorem mB {u:List Ty}{t:Ty}(h:t.kind=9):gs u t=(u[t.id.toNat]?).getD (.mk 0 0 []):=by rw[PW,fo h]
theorem je {u:List Ty}{t:Ty}(h:¬t.kind=9):gs u t=.mk t.kind t.id (t.args.map (gs u)):=by rw[PW,fL h]
theorem lG {u:List Ty}{t r:Ty}(h:t.kind=9) (k:r.kind=9) (e:t.id=r.id):gs u t=gs u r:=by rw[mB h,mB k,e]
structure Sat (u s:List Ty):Prop where
 len:u.length=s.length
 eq:∀(i:Nat) (x:Ty),s[i]?=some x->¬x.kind=0->u[i]?=some (gs u x)
theorem Sat.elem {u s:List Ty}(h:Sat u s) {t x:Ty}(c:t.kind=9) (a:bQ s t=some x) (b:¬x.kind=0):gs u x=gs u t:=by
 obtain⟨_,e,_⟩:=bG a;rw[mB c,h.eq _ x e b];rfl
theorem Sat.front {u s:List Ty}(h:Sat u s):∀{n:Nat}{t r:Ty},aO s n t=some r->gs u r=gs u t
 | 0,t,r,q=>by cases q
 | n+1,t,r,q=>by
  rw[aO] at q
  by_cases b:t.kind=9
  ·rw[fo b] at q;cases a:bQ s t with
   | none=>rw[a] at q;cases q
   | some x =>
    rw[a] at q;simp only at q
    by_cases c:x.kind=0
    ·rw[fo c] at q;injection q with q;rw[q]
    ·rw[fL c] at q;rw[h.front q,h.elem b a c]
  ·rw[fL b] at q;injection q with q;rw[q]
theorem Tk {u:List Ty}{t y:Ty}(a:¬t.kind=9) (b:y∈t.args):SizeOf.sizeOf (gs u y)<SizeOf.sizeOf (gs u t):=by
 rw[je a];exact Gh (x:=gs u y) (t:=.mk t.kind t.id (t.args.map (gs u))) (abq.2 ⟨y,b,rfl⟩)
theorem Sat.occ {u s:List Ty}(h:Sat u s) {v:Int}:∀{n:Nat}{t:Ty},kQ s v n t=some true->SizeOf.sizeOf (gs u (.mk 9 v []))<=SizeOf.sizeOf (gs u t)/\(¬t.kind=9->SizeOf.sizeOf (gs u (.mk 9 v []))<SizeOf.sizeOf (gs u t))
 | 0,t,q=>by cases q
 | n+1,t,q=>by
  rw[kQ] at q;cases a:aO s n t with
  | none=>rw[a] at q;cases q
  | some r =>
   rw[a] at q;have e:=h.front a;simp only at q
   by_cases b:r.kind=9
   ·rw[fo b] at q;injection q with q
    have q:=abt q;refine⟨?_,fun f=>?_⟩
    ·rw[<-e,lG (u:=u) b (r:=.mk 9 v []) rfl q];exact aa0 _
    ·cases n with
     | zero=>cases a
     | succ n=>rw[AE f n] at a;injection a with a;exact o5 (a▸b) f
   ·rw[fL b] at q;obtain⟨h1,k⟩:=qN q;obtain⟨y,j,d⟩:=ab4.1 k;have c:kQ s v n y=some true:=by rw[h1 y j,d]
    have:=(h.occ c).1;have l:=Tk (u:=u) b j;rw[e] at l;exact⟨by omega,fun _=>by omega⟩
theorem Sat.set {u s:List Ty}(h:Sat u s) {v:Int}{b:Ty}(h0:0<=v) (hb:gs u (.mk 9 v [])=gs u b):Sat u (s.set v.toNat b):=by
 refine⟨by rw[abu];exact h.len,fun i x a d=>?_⟩
 by_cases e:v.toNat=i
 ·have c:i<s.length:=by have:=(aaR.1 a).1;rwa [abu] at this
  rw[e,abR c] at a;injection a with a
  subst a;rw[<-hb,mB rfl];show _=some ((u[v.toNat]?).getD _);rw[e,aaN (by rw[h.len];exact c)];rfl
 ·rw[abN e] at a;exact h.eq i x a d
theorem Gy {u:List Ty}{f:List Ty->Ty->Ty->Option (Option (List Ty))}(c:∀s x y r,Sat u s->gs u x=gs u y->f s x y=some r->∃s',r=some s'/\Sat u s'):∀{l a s:List Ty}{r:Option (List Ty)},Sat u s->l.map (gs u)=a.map (gs u)->j9 f s l a=some r->∃s',r=some s'/\Sat u s'
 | [],a,s,r,h,_,q=>by rw[j9] at q;injection q with q;exact⟨s,q.symm,h⟩
 | x::l,[],s,r,h,e,q=>by simp at e
 | x::l,y::a,s,r,h,e,q=>by
  rw[aaW,aaW,List.cons.injEq] at e;rw[j9] at q;cases b:f s x y with
  | none=>rw[b] at q;cases q
  | some d =>
   rw[b] at q;obtain⟨s1,rfl,h1⟩:=c s x y d h e.1 b;exact Gy c h1 e.2 q
theorem Sat.eqs {u:List Ty}:∀{n:Nat}{s:List Ty}{a b:Ty}{r:Option (List Ty)},Sat u s->gs u a=gs u b->lD n s a b=some r->∃s',r=some s'/\Sat u s'
 | 0,s,a,b,r,h,_,q=>by cases q
 | n+1,s,a,b,r,h,z,q=>by
  cases k:aO s n a with
  | none=>rw[lD,k] at q;cases q
  | some a' =>
  cases l:aO s n b with
  | none=>rw[lD,k,l] at q;cases q
  | some f =>
  rw[mA k l] at q;have c:gs u a'=gs u f:=by rw[h.front k,h.front l,z]
  by_cases j:a'.kind=9
  ·obtain⟨xa,aa,am⟩:=fD k j;have v:=(bG aa).1;have m:gs u (.mk 9 a'.id [])=gs u a':=lG rfl j rfl
   by_cases d:f.kind=9
   ·obtain⟨xb,w,ag⟩:=fD l d;have ad:=(bG w).1;have e2:gs u (.mk 9 f.id [])=gs u f:=lG rfl d rfl;rw[fo ⟨j,d⟩] at q
    by_cases hi:a'.id=f.id
    ·rw[fo hi] at q;injection q with q;exact⟨s,q.symm,h⟩
    ·rw[fL hi] at q;injection q with q
     refine⟨_,q.symm,h.set (by omega) ?_⟩;rcases Int.le_total a'.id f.id with e | e
     ·rw[Int.max_eq_right e,Int.min_eq_left e,m,e2,c]
     ·rw[Int.max_eq_left e,Int.min_eq_right e,m,e2,c]
   ·rw[fL (fun p=>d p.2),fo j] at q;cases ho:kQ s a'.id n f with
    | none=>rw[ho] at q;cases q
    | some o =>
     rw[ho] at q;cases o with
     | true =>
      have:=(h.occ ho).2 d;rw[m,c] at this;exact o5 this (Nat.lt_irrefl _)
     | false =>
      injection q with q
      exact⟨_,q.symm,h.set v (m.trans c)⟩
  ·rw[fL (fun p=>j p.1),fL j] at q
   by_cases d:f.kind=9
   ·rw[fo d] at q;exact Sat.eqs h c.symm q
   ·rw[fL d] at q;rw[je j,je d] at c;injection c with g1 g2 g3
    have g4:a'.args.length=f.args.length:=by have:=vv List.length g3;simpa using this
    rw[fL (by omega)] at q;exact Gy (fun s x y r hs t hq=>Sat.eqs hs t hq) h g3 q
theorem Sat.ap {u s:List Ty}(h:Sat u s):∀{n:Nat}{t r:Ty},oK s n t=some r->gs u r=gs u t
 | 0,t,r,q=>by cases q
 | n+1,t,r,q=>by
  rw[oK] at q;cases b:(if t.kind=9 then bQ s t else some (.mk 0 0 [])) with
  | none=>simp only[b] at q;cases q
  | some x =>
   simp only[b] at q
   by_cases c:x.kind=0
   ·rw[fL (fun p=>p c)] at q;cases d:kV (oK s n) t.args with
    | none=>simp only[d] at q;cases q
    | some l =>
     simp only[d] at q;injection q with q
     obtain⟨h1,e⟩:=jq d;subst q
     by_cases a:t.kind=9
     ·exact lG (by exact a) a rfl
     ·rw[je a,je (t:=.mk t.kind t.id l) a];show Ty.mk t.kind t.id (l.map (gs u))=_;rw[e,abQ];exact vv _ (abU fun y f=>h.ap (h1 y f))
   ·rw[fo c] at q;have a:t.kind=9:=by
     by_cases a:t.kind=9
     ·exact a
     ·rw[fL a] at b;injection b with b
      exact o5 (by rw[<-b];rfl) c
    rw[fo a] at b;rw[h.ap q,h.elem a b c]
inductive Wv (s:List Ty):Ty->Prop
 | var {t x:Ty}(h9:t.kind=9) (he:bQ s t=some x) (hk:x.kind=0):Wv s t
 | arg {t:Ty}(h9:¬t.kind=9) (h:∀y∈t.args,Wv s y):Wv s t
structure LOk (u s:List Ty) (m:DM):Prop where
 ok:∀j k,bM m j=some k->0<=k/\k<s.length/\gs u (.mk 9 k [])=gs u (.mk 9 j [])
theorem Ch {ds:List Api.Data}{pa:Int}{t:Ty}(h:wz ds pa t=true) (a:t.kind=5):0<=t.id/\t.id<pa/\t.args=[]:=by
 rw[mo,fo a] at h;simp only[xo,aaZ] at h;exact⟨h.1.1,h.1.2,abE h.2⟩
theorem Ci {ds:List Api.Data}{pa:Int}{t:Ty}(h:wz ds pa t=true) (c:¬t.kind=5):∃n,Cy ds t.kind t.id=some n/\¬((t.kind≠2/\t.id≠0)\/(t.args.length:Int)≠n)/\∀x∈t.args,(iI x=true\/(t.kind=7/\x.kind=6))/\wz ds pa x=true:=by
 rw[mo,fL c] at h;cases a:Cy ds t.kind t.id with
 | none=>simp only[a] at h;cases h
 | some n =>
  simp only[a] at h;split at h
  ·cases h
  ·rename_i b;refine⟨n,rfl,b,fun x e=>?_⟩;rw[Bool.not_eq_true'] at h;have hb:=(abX.1 h) x e;simp only[EZ,abn,xo,Bool.not_eq_true',Bool.not_eq_false',Bool.and_eq_false_iff,aaZ,ab1,not_or,not_and,abZ] at hb;refine⟨?_,?_⟩
   ·cases f:iI x with
    | true=>exact .inl rfl
    | false =>
     refine .inr ?_;have h1:=hb.1 f;simpa using h1
   ·cases d:wz ds pa x with
    | true=>rfl
    | false=>exact o5 d (by simpa using hb.2)
def iM (n:Int) (m:TM):Prop:=(∀p∈m,0<=p.1/\p.1<n)/\(m.map (·.1)).Nodup
theorem K3 {a:Type}{m:List (Int×a)}{i:Int}{x:a}(h:bM m i=some x):(i,x)∈m:=by
 induction m with
 | nil=>cases h
 | cons p m b =>
  obtain⟨k,v⟩:=p;simp only[bM] at h
  by_cases e:i=k
  ·rw[fo e] at h;injection h with h;subst e h;simp
  ·rw[fL e] at h;exact abf _ (b h)
theorem Ij {a:Type}(m:List (Int×a)) (i:Int) (x:a) (h:bM m i=none):eD m i x=m++[(i,x)]:=by
 induction m with
 | nil=>rfl
 | cons p m b =>
  obtain⟨k,v⟩:=p;simp only[bM] at h
  by_cases e:i=k
  ·rw[fo e] at h;cases h
  ·rw[fL e] at h;simp only[eD,fL e,b h,aa2]
theorem Ik {b:Type}{m:List (Int×b)}{i:Int}(h:bM m i=none):i∉m.map (·.1):=by
 induction m with
 | nil=>simp
 | cons p m a =>
  obtain⟨k,v⟩:=p;simp only[bM] at h
  by_cases e:i=k
  ·rw[fo e] at h;cases h
  ·rw[fL e] at h;simp only[aaW,aaT,not_or];exact⟨e,a h⟩
theorem Ox {b:Type}{m:List (Int×b)}{i:Int}{x:b}(a:(m.map (·.1)).Nodup) (h:(i,x)∈m):bM m i=some x:=by
 induction m with
 | nil=>cases h
 | cons p m c =>
  obtain⟨k,v⟩:=p;simp only[aaW,List.nodup_cons] at a;simp only[bM];rcases aaT.1 h with e | h
  ·injection e with e1 e2;rw[fo e1,e2]
  ·have:i≠k:=fun e=>a.1 (by rw[<-e];exact abq.2 ⟨_,h,rfl⟩);rw[fL this];exact c a.2 h
theorem iM.set {n:Int}{m:TM}{i:Int}{x:Ty}(h:iM n m) (h0:0<=i) (h1:i<n) (d:bM m i=none):iM n (eD m i x):=by
 rw[Ij m i x d];refine⟨fun p c=>?_,?_⟩
 ·rcases aaU.1 c with c | c
  ·exact h.1 p c
  ·rw[abD.1 c];exact⟨h0,h1⟩
 ·rw[abA];exact List.nodup_append.2 ⟨h.2,by simp,fun a f b hb=>by
   rw[abD.1 (by simpa using hb:b∈[i])];exact fun e=>Ik d (e▸f)⟩
theorem fit_keys (n:Int):∀(p t:Ty) (m:TM),iM n m->iM n (qW n p t m).1:=fun p=>dJ (p:=fun p=>∀(t:Ty) (m:TM),iM n m->iM n (qW n p t m).1) (fun p f t m h=>by
 have c:∀(l:List Ty),(∀x∈l,∀(t:Ty) (m:TM),iM n m->iM n (qW n x t m).1)->∀(a:List Ty) (m:TM),iM n m->iM n (Ca n l a m).1:=by
  intro l
  induction l with
  | nil=>intro _ a m h;rw[Ca];exact h
  | cons x l d =>
   intro e a m h;rw[Ca.eq_def];cases a with
   | nil=>exact h
   | cons y a =>
    have h1:=e x (by simp) y m h;simp only;cases o:qW n x y m with
    | mk k b =>
     rw[o] at h1;cases b
     ·exact h1
     ·exact d (fun z c=>e z (by simp[c])) a k h1
 rw[Gl,QV];split
 ·split
  ·exact h
  ·rename_i q;split
   ·exact h
   ·rename_i j;exact h.set (by omega) (by omega) j
 ·split
  ·split
   ·exact c p.args f t.args m h
   ·exact h
  ·exact h) p
noncomputable def tV:Code:=Try.f24.body.getD .skip
noncomputable def m0:Code:=vT tV
noncomputable def m1:Code:=vT (fE tV)
noncomputable def m2:Code:=vT (fE (fE tV))
noncomputable def m3:Code:=vT (fE (fE (fE tV)))
noncomputable def m4:Code:=vT (fE (fE (fE (fE tV))))
noncomputable def m5:Code:=vT (fE (fE (fE (fE (fE tV)))))
noncomputable def m6:Code:=vT (fE (fE (fE (fE (fE (fE tV))))))
noncomputable def m7:Code:=vT (fE (fE (fE (fE (fE (fE (fE tV)))))))
noncomputable def m8:Code:=vT (fE (fE (fE (fE (fE (fE (fE (fE tV))))))))
theorem DS:Try.f24.body=some (m0.seq (m1.seq (m2.seq (m3.seq (m4.seq (m5.seq (m6.seq (m7.seq (m8.seq .ret))))))))):=by kernel_rfl
def y0:ax:=(.reg [.op (some 3) (.boxF 32 (.t 0)) none,
  .op (some 4) (.boxF 32 (.t 1)) none,
  .op (some 5) (.boxF 3 (.t 2)) none,
  .op (some 6) (.mov (.c (.slice none 0 0))) none,
  .op (some 7) (.mov (.c (.bool false))) none])
theorem Tl:low Try.prog Iw m0=some y0:=by kernel_rfl
def y1:ax:=(.seq (.reg [.op (some 13) (.load false 1 (.t 5)) none,
  .op (some 14) (.bin .lss (.t 13) (.c (.int .i64 0))) none,
  .op (some 15) (.mov (.t 14)) none,
  .op (some 16) (.load false 1 (.t 5)) (some (15,false)),
  .op (some 17) (.bin .gtr (.t 16) (.c (.int .i64 4))) (some (15,false)),
  .op (some 18) (.pick (.t 15) (.c (.bool true)) (.t 17)) none])
 (.cond (.t 18)
 (.seq (.reg [.op (some 6) (.mov (.c (.slice none 0 0))) none,
   .op (some 7) (.mov (.c (.bool false))) none])
  .ret)
 .skip))
theorem Tm:low Try.prog Iw m1=some y1:=by kernel_rfl
def y2:ax:=(.reg [.op (some 19) (.mkmap) none,
  .op (some 8) (.alloc 101 [(.map none)]) none,
  .op none (.store 1 (.t 8) (.t 19)) none])
theorem Tn:low Try.prog Iw m2=some y2:=by kernel_rfl
def y3:ax:=(.reg [.op (some 9) (.alloc 37 [.nilFunc]) none])
theorem Tp:low Try.prog Iw m3=some y3:=by kernel_rfl
def y4:ax:=(.reg [.op (some 20) (.mkfn 66 [] [(.t 9),(.t 5),(.t 8)]) none,
  .op none (.store 1 (.t 9) (.t 20)) none])
theorem Tq:low Try.prog Iw m4=some y4:=by kernel_rfl
def y5:ax:=(.seq (.reg [.op (some 21) (.load false 1 (.t 9)) none,
  .op (some 22) (.load true 3 (.t 3)) none,
  .op (some 23) (.load true 3 (.t 4)) none,
  .op (some 24) (.callV (.t 21) [(.t 22),(.t 23)]) none,
  .op (some 25) (.un .not (.t 24)) none])
 (.cond (.t 25)
 (.seq (.reg [.op (some 6) (.mov (.c (.slice none 0 0))) none,
   .op (some 7) (.mov (.c (.bool false))) none])
  .ret)
 .skip))
theorem Tr:low Try.prog Iw m5=some y5:=by kernel_rfl
def y6:ax:=(.reg [.op (some 26) (.load false 1 (.t 5)) none,
  .op (some 27) (.makeS 32 3 40 [(.int .i64 0),(.int .i64 0),(.slice none 0 0)] (.t 26) (.t 26)) none,
  .op (some 10) (.mov (.t 27)) none])
theorem Tt:low Try.prog Iw m6=some y6:=by kernel_rfl
def y7:ax:=(.seq (.reg [.op (some 28) (.load false 1 (.t 8)) none,
  .op (some 29) (.mrange (.t 28)) none])
 (.block 0
 (.loop [30,31,32,33,34,12,11,35,36,37,38]
  (.seq (.reg [.op (some 30) (.mnext (.t 29)) none,
    .op (some 31) (.extr (.t 30) 0) none])
   (.seq (.cond (.t 31)
   .skip
   (.exit 0))
   (.block 1
   (.seq (.reg [.op (some 32) (.mentry (.t 29)) none,
     .op (some 33) (.extr (.t 32) 0) none,
     .op (some 34) (.extr (.t 32) 1) none,
     .op (some 12) (.alloc 32 [(.int .i64 0),(.int .i64 0),(.slice none 0 0)]) none,
     .op (some 11) (.mov (.t 33)) none,
     .op none (.store 3 (.t 12) (.t 34)) none])
    (.reg [.op (some 35) (.mov (.t 10)) none,
     .op (some 36) (.mov (.t 11)) none,
     .op (some 37) (.load true 3 (.t 12)) none,
     .op (some 38) (.idxA 3 (.t 35) (.t 36)) none,
     .op none (.store 3 (.t 38) (.t 37)) none]))))))))
theorem Tv:low Try.prog Iw m7=some y7:=by kernel_rfl
def y8:ax:=(.reg [.op (some 39) (.mov (.t 10)) none,
  .op (some 6) (.mov (.t 39)) none,
  .op (some 7) (.mov (.c (.bool true))) none])
abbrev ML (n:Nat) (m:TM) (out:List Ty):TL:=[(8,.box 101 [.mpr 19]),(9,.box 37 [.fn 66 [] [.own 9 0,.pt [IC n] 0,.own 8 0]]),(19,.map (iU aR m)),(27,.row 32 3 (out.map aG))]
theorem Ww (p t:Ty) (n:Nat) (d:n<=4) (m:TM) (b:qW n p t []=(m,true)):evalTC P ⟨fun _=>False,[],none⟩ (.seq y0 (.seq y1 (.seq y2 (.seq y3 (.seq y4 (.seq y5 y6)))))) (fun _ _ _=>False) (fun _ _=>False)
  (fun M τ=>M=ML n m (List.replicate n (.mk 0 0 []))/\τ 8=.own 8 0/\τ 10=.rw 27) [] (jM 0 [aR p,aR t,IC n]):=by
 have a:=XC n p t [];rw[b] at a;have c:List.replicate n ([C.int .i64 0,C.int .i64 0,C.sl []]:List C)=(List.replicate n (Ty.mk 0 0 [])).map aG:=by rw[abW];rfl
 refine ah (fun h=>o5 h (by omega)) (fun _=>?_);refine callO [9,8,19] [9,8,19] a rfl rfl rfl rfl rfl fun _ _=>?_;refine mP.mk (by omega) (abg _) (by omega) (by simp only[maxLen];omega) ?_;exact⟨vv (fun q=>[(8,TO.box 101 [.mpr 19]),(9,.box 37 [.fn 66 [] [.own 9 0,.pt [IC n] 0,.own 8 0]]),(19,.map (iU aR m)),(27,.row 32 3 q)]) c,rfl,rfl⟩
def Tw:Ty:=.mk 0 0 []
def qY (n:Nat) (m:TM):List Ty:=(List.range n).map fun(i:Nat)=>(bM m (i:Int)).getD Tw
theorem Gz {F:au}:∀{m:TM}{cs:List Value}{j:Nat}{e:Value},fC F (iU aR m) cs->cs[j]?=some e->∃k t v,m[j]?=some (k,t)/\e=.agg #[.int .i64 k,v]/\Rel F [] (aR t) v/\(Lit.int .i64 k).wf=true
 | [],cs,j,e,h,a=>by
  simp only[iU,abv,fC] at h;subst h;simp at a
 | (k,t)::m,cs,j,e,h,a=>by
  simp only[iU,aaW,fC] at h;obtain⟨kv,v,f,rfl,h1,c,d⟩:=h;rw[Rel] at h1;obtain⟨rfl,b⟩:=h1;cases j with
  | zero =>
   rw[aa3] at a;injection a with a
   exact⟨k,t,v,rfl,a.symm,c,b⟩
  | succ j =>
   rw[abk] at a;exact Gz (m:=m) d a
theorem DT {F:au}:∀{m:TM}{cs:List Value},fC F (iU aR m) cs->cs.length=m.length
 | [],cs,h=>by simp only[iU,abv,fC] at h;subst h;rfl
 | (k,t)::m,cs,h=>by
  simp only[iU,aaW,fC] at h;obtain⟨kv,v,a,rfl,h1,c,b⟩:=h;rw[aa7,aa7,DT (m:=m) b]
theorem yK {F:au}{m:TM}{cs:List Value}(h:fC F (iU aR m) cs):kZ cs=true:=by
 cases m with
 | nil=>simp only[iU,abv,fC] at h;subst h;rfl
 | cons p m =>
  simp only[iU,aaW,fC] at h;obtain⟨kv,v,a,rfl,_⟩:=h;rfl
abbrev RL (c a d:Nat) (cs:List Value) (v:Value) (n:Nat) (b:List Nat) (xs:List Value):Loc :=
 [(8,.box c 101 [.map (some a)]),(19,.box a 0 cs),(27,.row v 32 3 n xs),(29,.box d 0 (.tuple #[.map (some a),.int .i64 cs.length]::b.map fun(j:Nat)=>.int .i64 (j:Int)))]
def Cj (n:Nat) (m:TM) (a:List Nat) (out:List Ty):Prop :=
 out.length=n/\a.Nodup/\(∀j∈a,j<m.length)/\∀i<n,out[i]?=some (if∃j∈a,(m[j]?).map (·.1)=some (i:Int) then(bM m i).getD Tw else Tw)
theorem yL:∀(N:Nat) (l:List Nat),l.Nodup->(∀x∈l,x<N)->l.length<=N
 | 0,l,_,h=>by
  cases l with
  | nil=>exact aa0 _
  | cons x l=>exact o5 (h x (by simp)) (aby _)
 | N+1,l,c,h=>by
  by_cases d:N∈l
  ·have h1:=yL N (l.erase N) (c.erase N) fun x a=>by
    have b:=(c.mem_erase_iff).1 a;have:=h x b.2;omega
   rw[List.length_erase_of_mem d] at h1;omega
  ·have:=yL N l c fun x a=>by
    have h1:=h x a;have:x≠N:=fun e=>d (e▸a);omega
   omega
theorem DU (a:List Nat):(a.map fun(j:Nat)=>Value.int .i64 (j:Int)).map iE=a:=by
 rw[abQ];exact(abU fun j _=>(by show(j:Int).toNat=j;omega)).trans (List.map_id _)
theorem Cj.all {n:Nat}{m:TM}{a:List Nat}{out:List Ty}(h:Cj n m a out) (p:iM n m) (d:∀j<m.length,j∈a):out=qY n m:=by
 obtain⟨h1,l,o,e⟩:=h;refine tN h1 (by simp[qY]) fun i hi=>?_;rw[e i hi,qY,aa5,List.getElem?_range hi];simp only[abl,vz];split
 ·rfl
 ·rename_i b;cases k:bM m (i:Int) with
  | none=>rfl
  | some x =>
   obtain⟨j,c,f⟩:=List.mem_iff_getElem.1 (K3 k);exact o5 ⟨j,d j c,by rw[aaN c,f];rfl⟩ b
theorem Cj.next {n:Nat}{m:TM}{c:List Nat}{out:List Ty}{j:Nat}{k:Int}{t:Ty}(h:Cj n m c out) (u:iM n m) (s:m[j]?=some (k,t)) (w:j∉c):Cj n m (c++[j]) (out.set k.toNat t):=by
 obtain⟨h1,x,y,h4⟩:=h;have o:=aaX s;have z:=u.1 _ o;have hg:=Ox u.2 o;refine⟨by rw[abu];exact h1,List.nodup_append.2 ⟨x,by simp,fun a v b hb=>by rw[abD.1 hb];exact fun e=>w (e▸v)⟩,fun i hi=>?_,fun i hi=>?_⟩
 ·rcases aaU.1 hi with hi | hi
  ·exact y i hi
  ·rw[abD.1 hi];exact(aaR.1 s).1
 ·rw[List.getElem?_set]
  by_cases e:k.toNat=i
  ·have r:k=(i:Int):=by omega
   rw[fo e,fo (by omega),fo ⟨j,by simp,by rw[s,r];rfl⟩,<-r,hg];rfl
  ·rw[fL e,h4 i hi];have p:(∃l∈c++[j],(m[l]?).map (·.1)=some (i:Int))↔∃l∈c,(m[l]?).map (·.1)=some (i:Int):=by
    refine⟨fun⟨l,d,f⟩=>?_,fun⟨l,d,f⟩=>⟨l,List.mem_append_left _ d,f⟩⟩;rcases aaU.1 d with d | d
    ·exact⟨l,d,f⟩
    ·rw[abD.1 d,s] at f;injection f with f
     exact o5 (by have:k=(i:Int):=f;omega) e
   by_cases f:∃l∈c,(m[l]?).map (·.1)=some (i:Int)
   ·rw[fo f,fo (p.2 f)]
   ·rw[fL f,fL (fun q=>f (p.1 q))]
theorem Rn (F:au) (g8 f:Nat) (cs:List Value) (v:Value) (n:Nat) (m:TM) (xs:List Value) (jk:Nat->Value) (ad:Option Addr) (c:Nat) (hv:v=.slice ad n c) (hm:fC F (iU aR m) cs) (hk:iM n m) (hx:aN F 3 ((List.replicate n Tw).map aG) xs) (ae:0<n->ad≠none)
  (N:dm) (hN:∀F' gi a ao ρ',F.le F'->aN F' 3 ((qY n m).map aG) ao->ρ' 10=.v v->N F' (RL g8 f gi cs v n a ao) ρ') :
  jh P y7 (fun _ _ _ _=>False) (fun _ _ _=>False) N F [(8,.box g8 101 [.map (some f)]),(19,.box f 0 cs),(27,.row v 32 3 n xs)] (Fr.put (some 8) (.own 8 0) (Fr.put (some 10) (.v v) fun j=>.v (jk j))):=by
 refine CA.mk ⟨19,cs,rfl,yK hm,?_⟩;intro gi;refine IL.mk ⟨List Nat×List Value,([],xs),fun x F'=>F.le F'/\∃out,aN F' 3 (out.map aG) x.2/\Cj n m x.1 out,[],fun _=>[],fun x=>RL g8 f gi cs v n x.1 x.2,fun x=>m.length-x.1.length,?_,trivial,?_,fun x=>?_,?_⟩
 ·refine⟨au.le_refl F,List.replicate n Tw,hx,abe,List.nodup_nil,(fun j h=>by cases h),fun i hi=>?_⟩;rw[fL (fun⟨j,hj,_⟩=>by cases hj),abV,fo hi]
 ·exact⟨.inl rfl,.inl rfl,.inl rfl,.inl rfl,trivial⟩
 ·exact⟨⟨_,rfl⟩,⟨_,rfl⟩,⟨_,rfl⟩,trivial⟩
 rintro⟨a,xs⟩ F' bz bv ⟨b,out,hr,d,r,w,s⟩;refine II.mk ⟨19,cs,rfl,yK hm,rfl,fun j en hj z=>?_,fun al=>?_⟩
 ·obtain⟨k,t,v',e1,rfl,e3,e4⟩:=Gz hm hj;have ab:=hk.1 _ (aaX e1);simp only[ay,Rel] at e3;obtain⟨w3,rfl,w1,_,rfl,⟨rfl,bi⟩,w2,_,rfl,⟨rfl,ba⟩,w3,_,rfl,⟨a3,c3,rfl,bc,bj,bd,q⟩,rfl⟩:=e3;rw[DU] at z;refine Fy.mk ⟨19,cs,j,_,rfl,yK hm,rfl,List.getLast?_concat,hj,?_⟩;intro bp;subst hv;have ag:0<n:=by omega
  obtain⟨a0,ac⟩:=Option.ne_none_iff_exists'.1 (ae ag);have bb:xs.length=n*3:=by
   have:=gZ hr
   rwa [v5,d] at this
  refine IG.mk (ae ag) ab.1 ab.2 ?_;refine qu.mk ⟨27,_,_,_,_,_,a0,c,rfl,ac,by rw[ac],?_,?_,?_⟩
  ·show k.toNat*3+0+3<=xs.length;rw[bb];omega
  ·intro u y;rcases aaT.1 y with rfl | y
   ·rfl
   rcases aaT.1 y with rfl | y
   ·rfl
   rcases aaT.1 y with rfl | y
   ·rfl
   cases y
  ·refine⟨(a++[j],bO xs (k.toNat*3+0) [.int .i64 t.kind,.int .i64 t.id,.slice a3 (t.args.map aG).length c3]),⟨b,out.set k.toNat t,?_,Cj.next ⟨d,r,w,s⟩ hk e1 z⟩,trivial,⟨.inl rfl,.inl rfl,.inl rfl,.inl ?_,trivial⟩,?_⟩
   ·obtain⟨o,ho⟩:=kU (l:=out) (k:=k.toNat) (by omega);have p:=hr.set (j:=k.toNat) (es:=aG o) (ds:=[IC t.kind,IC t.id,.sl (t.args.map aG)]) (us:=[.int .i64 t.kind,.int .i64 t.id,.slice a3 (t.args.map aG).length c3]) (off:=0) (by rw[aa5,ho];rfl) (by simp) (by
     simp only[ay,Rel];refine⟨_,_,rfl,⟨rfl,bi⟩,_,_,rfl,⟨rfl,ba⟩,_,_,rfl,⟨a3,c3,rfl,bc,bj,bd,?_⟩,rfl⟩;obtain⟨sz,q⟩:=q;exact⟨sz,gu.mono b q⟩) rfl
    have e:iX (aG o) 0 [IC t.kind,IC t.id,.sl (t.args.map aG)]=aG t:=by
     rw[f8 o,f8 t];rfl
    rw[e,<-List.map_set] at p;exact p
   ·rw[abA];rfl
   ·show m.length-(a++[j]).length<m.length-a.length;have h1:=(aaR.1 e1).1;have an:=Cj.next ⟨d,r,w,s⟩ hk e1 z;have h2:(a++[j]).length<=m.length:=yL _ _ an.2.1 an.2.2.1;rw[abG] at h2 ⊢;simp only[aa7,abJ] at h2 ⊢;omega
 ·have ha:∀j<m.length,j∈a:=fun j hj=>by
   have:=al j (by rw[DT hm];exact hj)
   rwa [DU] at this
  have e:=Cj.all ⟨d,r,w,s⟩ hk ha;rw[e] at hr;exact hN F' gi a xs _ b hr rfl
def MQ (b:Nat) (G:Nat->Option (Nat×TypeId)) (F0:au) (Li:List Own) (w0:World) (K:TK) (a:Act) (w:World):Prop :=
 ∃F L ρ M τ,St F L w/\aA L ρ a/\TS G F L ρ M τ/\a.tmps.size=b/\Step F0 (inp Li) w0 F L w/\K M τ
section
variable {G:Nat->Option (Nat×TypeId)}{F0:au}{Li:List Own}{w0:World}
theorem MQ.seq {A:cT}{c b:Code}{p sc2:ax}(hl:low Try.prog A c=some p) (o:fK p=[]) {N K:TK}{a:Act}{w:World}(h:MQ A.n G F0 Li w0 K a w)
  (hK:∀M τ,K M τ->evalTC P ⟨fun _=>False,[],none⟩ (.seq p sc2) (fun _ _ _=>False) (fun _ _=>False) N M τ) {Q:Exit->Act->World->Prop}
  (hN:∀a' w',a'.defers=a.defers->MQ A.n G F0 Li w0 (fun M τ=>evalTC P ⟨fun _=>False,[],none⟩ sc2 (fun _ _ _=>False) (fun _ _=>False) N M τ) a' w'->b.wp P Q a' w'):(c.seq b).wp P Q a w:=by
 obtain⟨F,L,ρ,M,τ,g1,g2,g3,x,u,m⟩:=h;refine wp_seq (wp_mono (fu c hl (fun k m=>by rw[o] at m;cases m) g1 g2 g3 x (hK M τ m)) ?_);intro e a' w' f;cases e with
 | normal =>
  obtain⟨F',L',ρ',k1,r,q,s,t,k6,M',d,y,k8⟩:=f;exact hN a' w' s ⟨F',L',ρ',M',d,k1,r,y,q,u.trans t,k8⟩
 | exit j=>obtain⟨F',L',ρ',_,_,_,_,_,_,M',d,_,h⟩:=f;exact h.elim
 | ret=>obtain⟨F',L',ρ',_,_,_,_,_,_,M',d,_,h⟩:=f;exact h.elim
 | goto l=>exact f.elim
 | panic ch=>obtain⟨v,al,F',L',k1,r,q,s,t,kp,z,_⟩:=f;exact z.elim
 | outgrown=>exact f.elim
theorem MQ.one {A:cT}{c b:Code}{e:ax}(m:low Try.prog A c=some e) (d:fK e=[]) {N K:TK}{a:Act}{w:World}(h:MQ A.n G F0 Li w0 K a w)
  (l:∀M τ,K M τ->evalTC P ⟨fun _=>False,[],none⟩ e (fun _ _ _=>False) (fun _ _=>False) N M τ) {Q:Exit->Act->World->Prop}
  (k:∀a' w',a'.defers=a.defers->MQ A.n G F0 Li w0 N a' w'->b.wp P Q a' w'):(c.seq b).wp P Q a w :=
 MQ.seq (sc2:=.skip) m d h (fun M τ q=>l M τ q) fun a' w' f j=>k a' w' f j
theorem Step.cut {F F':au}{L L' L2:Loc}{w w':World}(h:Step F L w F' L' w') (a:L'.part L2):Step F L w F' L2 w' :=
 ⟨h.le,h.os,h.tape,h.output,h.size,h.same,h.frz,fun b ⟨k,o,e,hb⟩=>h.own b ⟨k,o,a k o e,hb⟩⟩
theorem GA {L L2:Loc}(h:∀p∈L2,L.get p.1=some p.2):L.part L2:=by
 intro k o e
 induction L2 with
 | nil=>cases e
 | cons p L2 a =>
  obtain⟨j,q⟩:=p;simp only[Loc.get] at e;cases hb:Nat.beq j k with
  | true =>
   rw[hb] at e;injection e with e
   have:=h (j,q) (by simp);rw[<-e,<-aaO hb];exact this
  | false =>
   rw[hb] at e;exact a (fun p b=>h p (by simp[b])) e
theorem Tx (hG:∀k,G k=none) {n:Nat}{m:TM}{K:TK}{a:Act}{w:World}(hk:iM n m) (h:MQ 40 G F0 Li w0 K a w) (hK:∀M τ,K M τ->M=ML n m (List.replicate n (.mk 0 0 []))/\τ 8=.own 8 0/\τ 10=.rw 27) {Q:Exit->Act->World->Prop}
  (hN:∀a' w',a'.defers=a.defers->MQ 40 G F0 Li w0 (fun M τ=>M=[(27,.row 32 3 ((qY n m).map aG))]/\τ=bg (some 10) (.rw 27) fun _=>.any) a' w'->Q .normal a' w'):m7.wp P Q a w:=by
 obtain⟨F,L,ρ,M,τ,g1,g2,g3,g4,g5,cb⟩:=h;obtain⟨rfl,h8,am⟩:=hK M τ cb;have q8:=g3.tl 8;have r:=g3.tl 19;have o:=g3.tl 27;have q8:xu F L (some (.box 101 [.mpr 19])) (L.get 8):=q8;have r:xu F L (some (.map (iU aR m))) (L.get 19):=r;have o:xu F L (some (.row 32 3 ((List.replicate n (Ty.mk 0 0 [])).map aG))) (L.get 27):=o;have s8:=g3.env 8;have be:=g3.env 10;rw[h8] at s8;rw[am] at be;cases e8:L.get 8 with
 | none=>rw[e8] at q8;exact q8.elim
 | some o8 =>
 cases ae:L.get 19 with
 | none=>rw[ae] at r;exact r.elim
 | some cd =>
 cases ac:L.get 27 with
 | none=>rw[ac] at o;exact o.elim
 | some cc =>
 rw[e8] at q8;rw[ae] at r;rw[ac] at o;cases o8 with
 | row=>exact q8.elim
 | box g8 t8 c8 =>
 cases cd with
 | row=>exact r.elim
 | box s da cs =>
 cases cc with
 | box=>exact o.elim
 | row v Z4 dn c xs =>
 obtain⟨ca,bm⟩:=q8;obtain⟨rfl,hE⟩:=r;obtain⟨rfl,rfl,aa,⟨bt,av,cv,hv,bd⟩,aw⟩:=o;have aa:c=n:=by rw[aa,v5,abe]
 subst aa;simp only[ay,Rel] at bm;obtain⟨w0,_,rfl,⟨gm,cm,x,rfl⟩,rfl⟩:=bm;rw[ae] at x;injection x with x
 injection x with i1 _ i2
 subst i1 i2;have bs:t8=101:=by
  rcases ca.2.1 with q | q
  ·exact q.symm
  ·have q':(101:Nat)=(g8+1)*1048576+(t8:Nat):=q;omega
 subst bs;have bj:ρ 8=.own 8 0:=s8.1;have al:ρ 10=.v v:=by
  obtain⟨u,q1,q2⟩:=be;rw[q1];rw[Rel] at q2;obtain⟨_,_,_,_,_,_,_,q3⟩:=q2;rw[ac] at q3;injection q3 with q3
  injection q3 with q3
  rw[q3]
 have ab:L.part [(8,.box g8 101 [.map (some s)]),(19,.box s 0 cs),(27,.row v 32 3 c xs)]:=GA fun p z=>by
  rcases aaT.1 z with rfl | z
  ·exact e8
  rcases aaT.1 z with rfl | z
  ·exact ae
  rcases aaT.1 z with rfl | z
  ·exact ac
  cases z
 have bz:=g1.part ab;have a8:a.tmps.getD 8 undef=.pointer (some ⟨g8,0,none⟩):=by rw[g2.eq 8,bj];simp only[conc,e8]
 have bu:a.tmps.getD 10 undef=v:=by rw[g2.eq 10,al];rfl
 have bb:aA [(8,.box g8 101 [.map (some s)]),(19,.box s 0 cs),(27,.row v 32 3 c xs)] (Fr.put (some 8) (.own 8 0) (Fr.put (some 10) (.v v) fun j=>.v (a.tmps.getD j undef))) a:=by
  refine⟨fun t=>?_,fun t k off e=>?_,fun t ad j e=>?_⟩
  ·by_cases h1:t=8
   ·subst h1;exact a8
   by_cases h2:t=10
   ·subst h2;exact bu
   have b1:Nat.beq t 8=false:=lF h1;have b2:Nat.beq t 10=false:=lF h2;simp only[Fr.put,b1,b2,conc]
  ·by_cases h1:t=8
   ·subst h1;have e:SV.own 8 0=SV.own k off:=e;injection e with e1 e2
    subst e1;exact⟨_,_,_,rfl⟩
   ·have b1:Nat.beq t 8=false:=lF h1;simp only[Fr.put,b1] at e;split at e<;>cases e
  ·by_cases h1:t=8
   ·subst h1;cases e
   ·have b1:Nat.beq t 8=false:=lF h1;simp only[Fr.put,b1] at e;split at e<;>cases e
 refine wp_mono (qd m7 Tv bz bb g4 (Rn F g8 s cs v c m xs _ av cv hv hE hk aw (fun h0 e=>by have:=bd e;omega) (fun F' L' ρ'=>∃gi f d,L'=RL g8 s gi cs v c f d/\aN F' 3 ((qY c m).map aG) d/\ρ' 10=.v v) (fun F' gi f d ρ' _ hx am=>⟨gi,f,d,rfl,hx,am⟩))) ?_;intro e a' w' hq;cases e with
 | normal =>
  obtain⟨F',L',ρ',k1,k2,k3,k4,k5,k6,gi,f,d,rfl,hx,bi⟩:=hq;have y:(RL g8 s gi cs v c f d).part [(27,.row v 32 3 c d)]:=GA fun p z=>by
   rcases aaT.1 z with rfl | z
   ·rfl
   cases z
  have bc:c=((qY c m).map aG).length:=by simp[qY]
  have bl:a'.tmps.getD 10 undef=v:=by rw[k2.eq 10,bi];rfl
  refine hN a' w' k4 ⟨F',[(27,.row v 32 3 c d)],fun j=>.v (a'.tmps.getD j undef),_,_,k1.part y,⟨fun t=>rfl,(fun t k off e=>by cases e),(fun t ad j e=>by cases e)⟩,⟨fun k=>?_,fun j=>?_,(fun k g t e=>by rw[hG k] at e;cases e),k1.glob⟩,k3,?_,rfl,rfl⟩
  ·by_cases az:k=27
   ·subst az;exact⟨rfl,rfl,bc,⟨bt,av,cv,hv,bd⟩,hx⟩
   ·have b:Nat.beq 27 k=false:=lF fun e=>az e.symm;simp only[TL.get,Loc.get,b];trivial
  ·by_cases hj:j=10
   ·subst hj;show aL F' _ (.rw 27) (.v (a'.tmps.getD 10 undef));rw[bl,hv];exact lm (by rw[<-hv];rfl)
   ·have b:Nat.beq j 10=false:=lF hj;simp only[bg,b];trivial
  ·exact Step.cut ((Step.cut g5 ab).trans k5) y
 | exit j=>obtain⟨F',L',ρ',_,_,_,_,_,_,h⟩:=hq;exact h.elim
 | ret=>obtain⟨F',L',ρ',_,_,_,_,_,_,h⟩:=hq;exact h.elim
 | goto l=>exact hq.elim
 | panic ch=>obtain⟨v,cY,F',L',_,_,_,_,_,z⟩:=hq;exact z.elim
 | outgrown=>exact hq.elim
end
theorem Tz:low Try.prog Iw (m8.seq .ret)=some (.seq y8 .ret):=by kernel_rfl
theorem mend (n:Nat) (m:TM) (R:List TO->C->Prop) (h:R [] (.tup [.sl ((qY n m).map aG),.bool true])) :
  evalTC P ⟨fun _=>False,[],none⟩ (.seq y8 .ret) (fun _ _ _=>False) (fun L ρ=>gF L ρ [(6,none),(7,none)] fun d=>f9 [] L (gD d) R) (fun _ _=>False) [(27,.row 32 3 ((qY n m).map aG))] (bg (some 10) (.rw 27) fun _=>.any):=by
 have a:f9 [] [(27,.row 32 3 ((qY n m).map aG))] (.tup [.rw 27,.bool true]) (aT [] (.tup [.sl ((qY n m).map aG),.bool true])):=HE [27] [] ⟨_,[],rfl,rfl,rfl,rfl,rfl⟩;obtain⟨p,ko,a⟩:=a.out;refine f9.mk ⟨p,ko,JT.frzK_imp a ?_⟩;rintro L ρ d ⟨L1,c,o,Mo,h1,f,k,l,j,e⟩;exact⟨L1,c,o,Mo,h1,f,k,l,j,fun b=>by rw[(e b).1,(e b).2];exact h⟩
theorem TA (p t:Ty) (n:Nat) (hn:n<=4) (m:TM) (hm:qW n p t []=(m,true)):CallsT P 24 [aR p,aR t,IC n] [] (aT [] (.tup [.sl ((qY n m).map aG),.bool true])):=by
 have hk:iM n m:=by
  have:=fit_keys n p t [] ⟨by simp,by simp⟩
  rwa [hm] at this
 refine CallsTX.noPan ⟨fun F Li c hl o ha=>⟨⟨Try.f24,Try.func24,by rw[DS];rfl,by kernel_rfl⟩,gC.aao,fun w hs=>?_⟩⟩;have r:Li=[]:=List.length_eq_zero_iff.1 hl;subst r;have ac:Try.f24.ntmps=40:=by kernel_rfl
 have z:c.length=3:=by have:=ha.len;simpa using this
 obtain⟨G0,aa,he,s,_⟩:=K2 (40-c.toArray.size) hl o ha hs
 let G:Nat->Option (Nat×TypeId):=fun _=>none
 refine calls_of_wp Try.func24 DS ?_;rw[ac];have M0:MQ Iw.n G F [] w (fun M τ=>M=[]/\τ=jM 0 [aR p,aR t,IC n]) {tmps:=c.toArray++Array.replicate (40-c.toArray.size) undef,defers:=[]} w :=
  ⟨F,inp [],aa,_,_,hs,he,⟨s.tl,s.env,(fun k g t e=>by cases e),s.glob⟩,by simp[z,Iw],Step.refl _ _ _,rfl,rfl⟩
 generalize x:({tmps:=c.toArray++Array.replicate (40-c.toArray.size) undef,defers:=[]}:Act)=a0 at M0;have al:a0.defers=[]:=by rw[<-x]
 have f:=Ww p t n hn m hm;refine MQ.seq Tl rfl M0 (sc2:=.seq y1 (.seq y2 (.seq y3 (.seq y4 (.seq y5 y6))))) (fun M τ q=>by rw[q.1,q.2];exact f) fun a1 w1 ab M1=>?_;refine MQ.seq Tm rfl M1 (sc2:=.seq y2 (.seq y3 (.seq y4 (.seq y5 y6)))) (fun M τ q=>q) fun a2 w2 an M2=>?_;refine MQ.seq Tn rfl M2 (sc2:=.seq y3 (.seq y4 (.seq y5 y6))) (fun M τ q=>q) fun a3 w3 am M3=>?_;refine MQ.seq Tp rfl M3 (sc2:=.seq y4 (.seq y5 y6)) (fun M τ q=>q) fun a4 w4 y M4=>?_;refine MQ.seq Tq rfl M4 (sc2:=.seq y5 y6) (fun M τ q=>q) fun a5 w5 ag M5=>?_;refine MQ.seq Tr rfl M5 (sc2:=y6) (fun M τ q=>q) fun a6 w6 u M6=>?_;refine MQ.one Tt rfl M6 (fun M τ q=>q) fun a7 w7 a M7=>?_;have a:a7.defers=[]:=by rw[a,u,ag,y,am,an,ab,al]
 refine wp_seq (Tx (fun _=>rfl) hk M7 (fun M τ q=>q) fun a8 w8 ae M8=>?_);obtain⟨F8,L8,bl,M,τ,g1,g2,g3,g4,g5,rfl,rfl⟩:=M8;show(m8.seq .ret).wp P _ a8 w8;refine wp_mono (fu (m8.seq .ret) Tz (fun k _ ad=>o5 rfl ad) g1 g2 g3 g4 (mend n m (aT [] (.tup [.sl ((qY n m).map aG),.bool true])) ⟨rfl,rfl⟩)) ?_;intro e a' w' d;cases e with
 | normal=>obtain⟨F',L',ρ',_,_,_,_,_,_,M',b,_,h⟩:=d;exact h.elim
 | exit j=>obtain⟨F',L',ρ',_,_,_,_,_,_,M',b,_,h⟩:=d;exact h.elim
 | ret =>
  obtain⟨F',L',ρ',k1,k2,k3,k4,k5,k6,M',b,k7,k8⟩:=d;have hf:=Ah (P:=P) (fn:=Try.f24) (rs:=[(6,none),(7,none)]) (n:=40) (asg:=[]) (a0:=a') (a':=a') (w':=w') (Li:=[]) (Lin:=[]) (w:=w) (F:=F) (G:=G) (R:=aT [] (.tup [.sl ((qY n m).map aG),.bool true])) (by kernel_rfl) rfl o (fun k g t cs e=>by cases e)
   ⟨F',L',ρ',k1,k2,k3,rfl,g5.trans k5,fun _ _=>rfl,M',b,k7,k8⟩
  obtain⟨_,v,q2,F2,Lo,q3,q4,q5⟩:=hf;exact⟨by rw[k4,ae,a],v,q2,.inl ⟨v,F2,Lo,rfl,q3,q4,q5⟩⟩
 | goto l=>exact d.elim
 | panic ch=>obtain⟨v,bj,F',L',k1,k2,k3,k4,k5,kp,hp,_⟩:=d;exact hp.elim
 | outgrown=>exact d.elim
theorem CallsT.imp {P:Program}{f:Nat}{args:List C}{Lin:List TO}{R R':List TO->C->Prop}(h:CallsT P f args Lin R) (d:∀Mo c,R Mo c->R' Mo c):CallsT P f args Lin R' :=
 CallsTX.noPan (CallsTX.imp (Pp:=fun _=>False) h.toX d fun v q=>q)
mutual
def cnt:Ty->Nat
 | .mk _ _ l=>yM l+1
def yM:List Ty->Nat
 | []=>0
 | t::l=>cnt t+yM l
end
theorem Fe (t:Ty):cnt t=yM t.args+1:=by cases t;rfl
theorem GD:∀(l:List Ty) (m n:Int),0<=m->n<=mD l m n
 | [],m,n,_=>by rw[mD];exact abg _
 | x::l,m,n,h0=>by
  rw[mD];split
  ·rename_i h;have:=(EY x (m-n) (by omega)).1;have:=GD l m (n+few x (m-n)) h0;omega
  ·exact abg _
mutual
theorem GF:∀(t:Ty) (m:Int),0<=m->few t m<=m->(cnt t:Int)=few t m
 | .mk _ _ l,m,h0,h=>by
  rw[few] at h ⊢;rw[cnt,<-DV l m 1 h0 h];omega
theorem DV:∀(l:List Ty) (m n:Int),0<=m->mD l m n<=m->n+(yM l:Int)=mD l m n
 | [],m,n,_,_=>by rw[mD,yM];omega
 | x::l,m,n,h0,h=>by
  rw[mD] at h ⊢;split at h
  ·rename_i hn;rw[fo hn];have hge:=GD l m (n+few x (m-n)) h0;have h1:=GF x (m-n) (by omega) (by omega);have h2:=DV l m (n+few x (m-n)) h0 h;rw[yM];omega
  ·omega
end
theorem Ck:∀{l:List Ty}{x:Ty},x∈l->cnt x<=yM l
 | t::l,x,h=>by
  rw[yM];rcases aaT.1 h with rfl | h
  ·omega
  ·have:=Ck h;omega
theorem DW:∀l:List Ty,l.length<=yM l
 | []=>aa0 _
 | t::l=>by have:=DW l;have:=Fe t;rw[yM,aa7];omega
theorem GH:∀t:Ty,cnt t<=2 ^ 30->iN t:=dJ fun t d h=>by
 rw[Fe] at h;rw[fZ];exact⟨by have:=DW t.args;omega,fun x c=>d x c (by have:=Ck c;omega)⟩
theorem Oy:∀t:Ty,cn t<=cnt t:=dJ fun t d=>by
 rw[Fe,cK];have:ct t.args<=yM t.args:=tO fun x c=>abz (d x c) (Ck c);omega
theorem Il {l:List Ty}(h:jH l=true):l.length<=8/\∀x∈l,iN x/\cn x<=30:=by
 unfold jH at h;rw[xo,aaY,aaZ] at h;refine⟨by omega,fun x c=>?_⟩;have h1:=abt (h.1 x c);have d:=GF x 30 (by omega) h1;exact⟨GH x (by omega),by have:=Oy x;omega⟩
theorem TB (p t:Ty) (n:Nat) (f:n<=4) (m:TM) (d:qW n p t []=(m,false)):CallsT P 24 [aR p,aR t,IC n] [] (aT [] (.tup [.sl [],.bool false])):=by
 have c:=XC n p t [];rw[d] at c;refine af Try.func24 FU rfl fun e _=>?_;refine ah (fun h=>o5 h (by omega)) (fun _=>?_);refine callO [9,8,19] [9,8,19] c rfl rfl rfl rfl rfl fun _ _=>?_;exact aC rfl rfl
def Cl (n:Nat) (p t:Ty):List Ty×Bool:=if(qW n p t []).2 then(qY n (qW n p t []).1,true) else([],false)
theorem t24 (p t:Ty) (n:Nat) (c:n<=4):CallsT P 24 [aR p,aR t,IC n] [] (aT [] (.tup [.sl ((Cl n p t).1.map aG),.bool (Cl n p t).2])):=by
 unfold Cl;cases h:qW n p t [] with
 | mk m b =>
  cases b with
  | true=>exact TA p t n c m h
  | false=>exact TB p t n c m h
theorem PL.no {n:Nat}{s:List Ty}{a b:Ty}{e:Int}(h1:∃d o,bA s n=some (some (d,o))) (f:mT s a b=true) (c:lD n s a b=some none) (h:PL n s a b e):e=8:=by
 obtain⟨d,o,h1⟩:=h1;rcases h with⟨q,_⟩ | ⟨_,⟨q,_⟩ | ⟨_,⟨_,q⟩ | ⟨s',q,_⟩⟩⟩
 ·rw[h1] at q;cases q
 ·rw[f] at q;cases q
 ·exact q
 ·rw[c] at q;cases q
theorem Oz:∀(n:Nat) (s:List Ty) (a b:Ty) (s':List Ty),(∀x∈s,iN x)->iN a->iN b->lD n s a b=some (some s')->∀x∈s',iN x:=by
 intro n
 induction n with
 | zero=>intro s a b s' _ _ _ h;cases h
 | succ n ih =>
  intro s a b s' hs ha hb h;have j:∀{t r:Ty},aO s n t=some r->iN t->iN r:=fun hf ht=>qQ (p:=iN) (fun t x _ _ he _=>hs x (qk he)) hf ht;have c:∀{i:Nat}{b:Ty},iN b->∀x∈s.set i b,iN x:=fun hb x f=>by
   rcases ab3 f with f | rfl
   ·exact hs x f
   ·exact hb
  cases m:aO s n a with
  | none=>rw[lD,m] at h;cases h
  | some a' =>
  cases w:aO s n b with
  | none=>rw[lD,m,w] at h;cases h
  | some q =>
  rw[mA m w] at h;have k:=j m ha;have e:=j w hb;split at h
  ·split at h
   ·injection h with h;injection h with h;exact h▸hs
   ·injection h with h;injection h with h;rw[<-h]
    exact c ((fZ _).2 ⟨aa9 _,fun x h=>by cases h⟩)
  ·split at h
   ·cases ho:kQ s a'.id n q with
    | none=>rw[ho] at h;cases h
    | some o =>
     rw[ho] at h;cases o with
     | true=>cases h
     | false=>injection h with h;injection h with h;rw[<-h];exact c e
   ·split at h
    ·exact ih s q a' s' hs e k h
    ·split at h
     ·cases h
     ·have hL:∀(l d:List Ty) (s:List Ty),(∀x∈l,iN x)->(∀x∈d,iN x)->(∀x∈s,iN x)->j9 (lD n) s l d=some (some s')->∀x∈s',iN x:=by
       intro l
       induction l with
       | nil=>intro d s _ _ hs h;rw[j9] at h;injection h with h;injection h with h;exact h▸hs
       | cons x l v =>
        intro d s h1 h2 hs h;cases d with
        | nil=>cases h
        | cons y d =>
         rw[j9] at h;cases f:lD n s x y with
         | none=>rw[f] at h;cases h
         | some r =>
          rw[f] at h;cases r with
          | none=>cases h
          | some s1=>exact v d s1 (fun z u=>h1 z (by simp[u])) (fun z u=>h2 z (by simp[u])) (ih s x y s1 hs (h1 x (by simp)) (h2 y (by simp)) f) h
      exact hL a'.args q.args s ((fZ a').1 k).2 ((fZ q).1 e).2 hs h
theorem Ff {s:List Ty}{a b:Ty}(hl:s.length<=2 ^ 30) (hs:∀x∈s,iN x) (ha:iN a) (hb:iN b) (hda:cn a<=2 ^ 40) (hdb:cn b<=2 ^ 40):∃n,CallsT P 23 [.sl (s.map aG),aR a,aR b] [] (RN n s a b)/\(∀s',KU n s a b s'->Eh s s')/\∃r,bA s n=some r:=by
 obtain⟨n,F,d,c⟩:=PO s a b;refine⟨n,unify n s a b hl F hda hdb fun s' h=>⟨by rw[(c s' h).len];exact hl,?_,d s' h⟩,c,F.form⟩;exact Oz n s a b s' hs ha hb h.2.2.1
theorem iC {s:List Ty}{n m:Nat}{r q:Option (DM×OM)}(h:bA s n=some r) (k:bA s m=some q):r=q:=by
 have h1:=kg (Nat.le_max_left n m) h;have c:=kg (Nat.le_max_right n m) k;rw[h1] at c;exact abr c
theorem kD {s:List Ty}{a b:Ty}{n m:Nat}{r q:Option (List Ty)}(h:lD n s a b=some r) (k:lD m s a b=some q):r=q:=by
 have h1:=gP (Nat.le_max_left n m) h;have c:=gP (Nat.le_max_right n m) k;rw[h1] at c;exact abr c
theorem tW {s:List Ty}{t:Ty}{d:DM}{o:OM}{n m:Nat}{r q:Option (Int×DM×OM)}(h:bw s n t d o=some r) (k:bw s m t d o=some q):r=q:=by
 have h1:=gK (Nat.le_max_left n m) h;have c:=gK (Nat.le_max_right n m) k;rw[h1] at c;exact abr c
theorem Im {s:List Ty}{n m:Nat}{r q:List Ty}(h:jJ s n=some r) (k:jJ s m=some q):r=q:=by
 have h1:=su (Nat.le_max_left n m) h;have c:=su (Nat.le_max_right n m) k;rw[h1] at c;exact abr c
section
variable {s:List Ty}{a b:Ty}(hl:s.length<=2 ^ 30) (hs:∀x∈s,iN x) (ha:iN a) (hb:iN b) (hda:cn a<=2 ^ 40) (hdb:cn b<=2 ^ 40)
include hl hs ha hb hda hdb
theorem K4 {m:Nat}(h1:∃d o,bA s m=some (some (d,o))) (k:mT s a b=true) (f:lD m s a b=some none):CallsT P 23 [.sl (s.map aG),aR a,aR b] [] (aT [] (.tup [.sl [],IC 8])):=by
 obtain⟨n,h,p,r,l⟩:=Ff hl hs ha hb hda hdb;obtain⟨d,o,h1⟩:=h1;refine CallsT.imp h ?_;rintro Mo c ⟨rfl,r,e,j,rfl⟩;rcases j with⟨s',g,_⟩ | ⟨g,rfl⟩
 ·have:=kD f g.2.2.1;cases this
 ·rcases g with⟨q,_⟩ | ⟨_,⟨q,_⟩ | ⟨_,⟨_,q⟩ | ⟨s',q,_⟩⟩⟩
  ·have:=iC h1 q;cases this
  ·rw[k] at q;cases q
  ·subst q;exact⟨rfl,rfl⟩
  ·have:=kD f q;cases this
theorem DX {m:Nat}(s' r:List Ty) (d:DM) (o:OM) (k:Int) (h1:∃d o,bA s m=some (some (d,o))) (hp:mT s a b=true) (v:lD m s a b=some (some s')) (y:bA s' m=some (some (d,o))) (u:∃z o',bw s' m a d o=some (some (k,z,o'))) (hk:k<=8) (h5:jJ s' m=some r) :
  CallsT P 23 [.sl (s.map aG),aR a,aR b] [] (aT [] (.tup [.sl (r.map aG),IC 0])):=by
 obtain⟨n,h,hx,r',hr⟩:=Ff hl hs ha hb hda hdb;obtain⟨d1,o1,h1⟩:=h1;obtain⟨d2,o2,u⟩:=u;refine CallsT.imp h ?_;rintro Mo c ⟨rfl,ae,e,hu,rfl⟩;rcases hu with⟨w,g,hc,rfl⟩ | ⟨g,rfl⟩
 ·have f:=kD v g.2.2.1;injection f with f
  subst f;rw[Im hc h5];exact⟨rfl,rfl⟩
 ·rcases g with⟨q,_⟩ | ⟨_,⟨q,_⟩ | ⟨_,⟨q,_⟩ | ⟨w,q,_,j⟩⟩⟩
  ·have:=iC h1 q;cases this
  ·rw[hp] at q;cases q
  ·have:=kD v q;cases this
  ·have f:=kD v q;injection f with f
   subst f;rcases j with j | ⟨z,o',j,l⟩
   ·have:=iC y j;cases this
   ·have p:=iC y j;injection p with p
    injection p with p e3
    subst p e3;rcases l with l | ⟨k',ag,ac,l,q4⟩
    ·have:=tW u l;cases this
    ·have t:=tW u l;injection t with t
     injection t with t
     omega
end
end Go.Fr.Try
