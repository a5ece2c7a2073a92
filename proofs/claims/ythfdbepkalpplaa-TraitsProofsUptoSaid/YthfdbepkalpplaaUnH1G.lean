/- Part of the proofs of the statements of this seat. -/
import Derived.Test.YthfdbepkalpplaaUnF3G
import Derived.Test.YthfdbepkalpplaaUnV1G
set_option maxRecDepth 10000
set_option linter.unusedVariables false
set_option linter.unusedSimpArgs false
namespace Go.Fr.Try
open Go Go.RowKit Go.Proofs Go.Fr Go.Fr.T Go.Fr.Api
theorem TN (PS:Value->Prop) (M0:TL) (e:Int) (len i:Nat):evalTC P ⟨PS,[],none⟩ (.seq z9 zc) (fun j M τ=>j=2/\¬i<len/\HS M0 e len i M τ) (fun _ _=>False) (fun M τ=>i<len/\HS M0 e len i M τ) M0 (hE e len i):=by
 refine ah (fun h=>?_) (fun h=>?_)
 ·exact⟨by omega,rfl,rfl,rfl,rfl,rfl⟩
 ·exact⟨rfl,by omega,rfl,rfl,rfl,rfl,rfl⟩
theorem TP (PS:Value->Prop) (M0:TL) (e:Int) (len i:Nat) (h:i+1<=9223372036854775807):evalTC P ⟨PS,[],none⟩ XZ (fun _ _ _=>False) (fun _ _=>False) (fun M τ=>HS M0 e len (i+1) M τ) M0 (hE e len i):=by
 refine Fit.aag (by omega) (by omega) ?_;exact⟨rfl,rfl,rfl,rfl,rfl⟩
theorem WN (s:List Ty) (PS:Value->Prop) (e:Int) (len i:Nat) (d:DM) (o:OM) (a:Option (Int×DM×OM)) (f:OV s (vr i) d o (Ld s a) (PD a)) (c:a=none->PS (cA 1)) :
  evalTC P ⟨PS,[],none⟩ (.seq UY TB) (fun _ _ _=>False) (fun _ _=>False) (fun M τ=>∃k b o',a=some (k,b,o')/\HS (TG s b o') e len i M τ/\τ 67=.bool (decide (k>8))) (TG s d o) (hE e len i):=by
 refine Co [1000,1001,10,11] f rfl rfl rfl rfl rfl (fun v q=>q.2▸c q.1) fun k b o' h _=>?_;exact⟨k,b,o',h,⟨rfl,rfl,rfl,rfl,rfl⟩,rfl⟩
theorem TQ (s:List Ty) (d:DM) (o:OM) (R:List TO->C->Prop) (h:R (I4 s d o) (.tup [])):fZ (o9 s) (TG s d o) (.tup []) R :=
 pA [1000,1001,10,11] rfl rfl rfl rfl h
theorem WO (s:List Ty) (PS:Value->Prop) (e:Int) (len i:Nat) (d:DM) (o:OM) (a:Option (Int×DM×OM)) (f:Qp s (vr i) d o (Md s a) (PD a)) (c:a=none->PS (cA 1)) :
  evalTC P ⟨PS,[],none⟩ (.seq UY TB) (fun _ _ _=>False) (fun _ _=>False) (fun M τ=>∃k b o',a=some (k,b,o')/\HS (TI s b o') e len i M τ/\τ 67=.bool (decide (k>8))) (TI s d o) (hE e len i):=by
 refine Fj [1000,10,11] f rfl rfl rfl rfl rfl (fun v q=>q.2▸c q.1) fun k b o' h _=>?_;exact⟨k,b,o',h,⟨rfl,rfl,rfl,rfl,rfl⟩,rfl⟩
theorem TR (s:List Ty) (d:DM) (o:OM) (R:List TO->C->Prop) (h:R (I5 s d o) (.tup [])):fZ (ur s) (TI s d o) (.tup []) R :=
 pA [1000,10,11] rfl rfl rfl rfl h
theorem Ly {Lin:List TO}{Li:List Own}{F:au}{args:List C}{f:List Value}{w:World}(m:Nat) (z:Li.length=Lin.length) (o:bM F (inp Li) (cC Lin)) (r:ax F (inp Li) args f) (s:St F (inp Li) w) :
  ∃(G:Nat->Option (Nat×TypeId)) (a:Env),aA (inp Li) a {tmps:=f.toArray++Array.replicate m undef,defers:=[]}/\TS G F (inp Li) a (cC Lin) (jN 0 args)/\(∀k g t cs,(inp Li).get k=some (.box g t cs)->G k=some (g,t)):=by
 have l:=r.len;have key:∀j,∃sv,aJ F (inp Li) (jN 0 args j) sv/\conc (inp Li) sv=(f.toArray++Array.replicate m undef).getD j undef/\(∀k off,sv=.own k off->∃g t cs,(inp Li).get k=some (.box g t cs))/\(∀d i,sv=.el d i->d≠none):=by
  intro j;rw[nM];simp only[abe,abl,Nat.sub_zero,aa8];cases e:args[j]? with
  | some c =>
   have b:j<f.length:=by rw[l];exact(aaU.1 e).1
   obtain⟨s1,s2,s3,u⟩:=qX (r.at e (aaQ b));refine⟨_,s1,?_,s3,fun d i e=>vv e (u d i)⟩;rw[s2,Array.getElem?_append_left (by simpa using b)];simp[b]
  | none =>
   have q:f.length<=j:=by rw[l];exact abA.1 e
   refine⟨.v undef,kQ,?_,fun _ _ e=>(by cases e),fun _ _ e=>(by cases e)⟩;rw[Array.getElem?_append_right (by simpa using q)];simp only[Array.getElem?_replicate,conc];split<;>rfl
 let a:Env:=fun j=>(key j).choose
 have he:aA (inp Li) a {tmps:=f.toArray++Array.replicate m undef,defers:=[]} :=
  ⟨fun t=>(key t).choose_spec.2.1.symm,fun t k off e=>(key t).choose_spec.2.2.1 k off e,fun t d j e=>(key t).choose_spec.2.2.2 d j e⟩
 let G:Nat->Option (Nat×TypeId):=fun k=>match(inp Li).get k with | some (.box g t _)=>some (g,t) | _=>none
 have n:∀k g t cs,(inp Li).get k=some (.box g t cs)->G k=some (g,t):=fun k g t cs e=>by simp only[G,e]
 have p:Kp G (inp Li):=by
  intro k g t e;simp only[G] at e;split at e
  ·rename_i y x cs h;injection e with e
   injection e with e1 e2
   subst e1 e2;exact⟨cs,h⟩
  ·cases e
 exact⟨G,a,he,⟨o,fun j=>(key j).choose_spec.1,p,s.glob⟩,n⟩
structure FV (s:List Ty) (Lin:List TO) (Mh:DM->OM->TL) (Sd:DM->OM->List TO):Prop where
 len:∀(F:au) (L:Loc),bM F L (cC Lin)->s.length<=9223372036854775807
 pre:s.length<=9223372036854775807->∀(e:Int) (PS:Value->Prop),(s.all (eG s.length)=false->PS (cA 1)) ->
  evalTC P ⟨PS,[],none⟩ (.seq z0 (.seq z1 z8)) (fun _ _ _=>False) (fun _ _=>False) (fun M τ=>s.all (eG s.length)=true/\HS (Mh [] []) e s.length 0 M τ) (cC Lin) (jN 0 [.own 1000 0,IC e])
 it:∀(n:Nat) (PS:Value->Prop) (e:Int) (i:Nat) (d:DM) (o:OM) (r1:Option (Int×DM×OM)),bE s n (vr i) d o=some r1->(r1=none->PS (cA 1)) ->
  evalTC P ⟨PS,[],none⟩ (.seq UY TB) (fun _ _ _=>False) (fun _ _=>False) (fun M τ=>∃k d' o',r1=some (k,d',o')/\HS (Mh d' o') e s.length i M τ/\τ 67=.bool (decide (k>8))) (Mh d o) (hE e s.length i)
 ret:∀(d:DM) (o:OM) (R:List TO->C->Prop),R (Sd d o) (.tup [])->fZ Lin (Mh d o) (.tup []) R
theorem R2 {v:Value}{b:List PanicEntry}(h:rK v b):∀e∈b,e.goexit=false:=by
 obtain⟨a,rfl,h⟩:=h;intro e he;rcases aaW.1 he with rfl | he
 ·rfl
 ·exact h e he
theorem Ft {s:List Ty}{n:Nat}{r:Option (DM×OM)}(a:bF s n=some r) (b:s.all (eG s.length)=true) :
  ∃y,dw s n s.length=some y/\(y=none->r=none)/\(∀d o,y=some (true,d,o)->r=none)/\∀d o,y=some (false,d,o)->r=some (d,o):=by
 unfold bF at a;rw[o5 b] at a;cases hf:dw s n s.length with
 | none=>simp only[hf] at a;cases a
 | some y =>
  refine⟨y,rfl,?_,?_,?_⟩
  ·rintro rfl;simp only[hf] at a;injection a with a;exact a.symm
  ·rintro d o rfl;simp only[hf,abl] at a;injection a with a;exact a.symm
  ·rintro d o rfl;simp only[hf] at a;rw[q9 (by decide)] at a;injection a with a;exact a.symm
theorem IG {s:List Ty}{n:Nat}{r:Option (DM×OM)}(a:bF s n=some r) (b:s.all (eG s.length)=false):r=none:=by
 unfold bF at a;rw[q9 (by rw[b];exact abd)] at a;injection a with a;exact a.symm
theorem yQ {s:List Ty}{Lin:List TO}{Mh:DM->OM->TL}{Sd:DM->OM->List TO}(V:FV s Lin Mh Sd) (e:Int) (n:Nat) (r:Option (DM×OM)) (hr:bF s n=some r) :
  CallsTX P 58 [.own 1000 0,IC e] Lin (fun Mo v=>∃d o,r=some (d,o)/\Mo=Sd d o/\v=.tup []) (PF e r):=by
 refine⟨fun F Li vs hl bc ha=>⟨⟨Try.f58,Try.func58,by rw[DU];rfl,by kernel_rfl⟩,gC.aao,fun w hs=>?_⟩⟩;have bp:=V.len F _ bc;have ci:Try.f58.ntmps=72:=by kernel_rfl
 have cz:vs.length=2:=by have:=ha.len;simpa using this
 obtain⟨G,cf,he,ht,bs⟩:=Ly (72-vs.toArray.size) hl bc ha hs;refine vY (t:=98) (x:=.agg #[.int .i64 e]) Try.func58 DU ?_;rw[ci];generalize hR:(fun(en:Ending) (w':World)=>(∃v F' Lo,en=.returned v/\St F' (inp Lo) w'/\Step F (inp Li) w F' (inp Lo) w'/\gC Li (fun Mo v=>∃d o,r=some (d,o)/\Mo=Sd d o/\v=.tup []) F' Lo v) \/
  ∃v f F' Lo,en=.panicked f/\rK v f/\St F' (inp Lo) w'/\Step F (inp Li) w F' (inp Lo) w'/\Lo.length=Li.length/\(∀(i:Nat) g t cs,Li[i]?=some (.box g t cs)->∃cs',Lo[i]?=some (.box g t cs'))/\PF e r v)=RR
 have Rp:∀v f w',rK v f->PF e r v->(∃F' L',St F' L' w'/\Step F (inp Li) w F' L' w'/\Kp G L')->RR (.panicked f) w':=by
  rintro v f w' p u ⟨F',L',g1,g2,kp⟩;obtain⟨Lo,q1,q2,q3,q4⟩:=r9 g1 g2 (fun i g t cs hi=>kp (1000+i) g t (bs _ g t cs (by rw[aF,o5 (by omega),show 1000+i-1000=i by omega];exact hi)));rw[<-hR];exact .inr ⟨v,f,F',Lo,rfl,p,q1,q2,q3,q4,u⟩
 have cb:r=none->PF e r (cA 1):=fun h=>⟨h,1,.inl rfl,rfl⟩;have bk:r=none->PF e r (cA e):=fun h=>⟨h,e,.inr rfl,rfl⟩;have M0:MS G F Li w (fun M τ=>M=cC Lin/\τ=jN 0 [.own 1000 0,IC e]) {tmps:=vs.toArray++Array.replicate (72-vs.toArray.size) undef,defers:=[]} w :=
  ⟨F,inp Li,cf,_,_,hs,he,ht,by simp[cz],Step.refl _ _ _,rfl,rfl⟩
 generalize cx:({tmps:=vs.toArray++Array.replicate (72-vs.toArray.size) undef,defers:=[]}:Act)=a0 at M0;have bo:a0.defers=[]:=by rw[<-cx]
 -- what a panic of a piece means
 have pan:∀(v:Value) (f:List PanicEntry) (a':Act) (w':World),rK v f->(r=none/\v=cA 1)->(∀dd∈a'.defers,dd=sH (cA e))->(∃F' L',St F' L' w'/\Step F (inp Li) w F' L' w'/\Kp G L')->rm P Try.f58 (cA e) RR (.panic f) a' w':=by
  rintro v f a' w' p ⟨bu,rfl⟩ ac c;exact⟨ac,fun _=>Rp _ _ _ p (cb bu) c,fun _=>⟨R2 p,fun ek cl=>Rp _ _ _ cl (bk bu) c⟩⟩
 have av:∀{a':Act},a'.defers=[]->∀dd∈a'.defers,dd=sH (cA e):=fun h dd l=>by rw[h] at l;cases l
 have bj:=V.pre bp e (fun v=>r=none/\v=cA 1) fun h=>⟨IG hr h,rfl⟩;refine wp_seq (MS.piece WH rfl M0 (PS:=⟨fun v=>r=none/\v=cA 1,[],none⟩) (E:=fun _ _ _=>False) (N:=fun M τ=>evalTC P ⟨fun v=>r=none/\v=cA 1,[],none⟩ (.seq z1 z8) (fun _ _ _=>False) (fun _ _=>False) (fun M τ=>s.all (eG s.length)=true/\HS (Mh [] []) e s.length 0 M τ) M τ)
  (fun M τ q=>by rw[q.1,q.2];exact bj) (fun a1 w1 an M1=>?_) (fun j a' w' _ h=>(by obtain⟨_,_,_,_,_,_,_,_,_,_,h⟩:=h;exact h.elim)) (fun v f a' w' p l u c=>pan v f a' w' p u (av (l.trans bo)) c))
 have an:=an.trans bo;refine wp_seq (MS.piece WI rfl M1 (PS:=⟨fun v=>r=none/\v=cA 1,[],none⟩) (E:=fun _ _ _=>False) (N:=fun M τ=>evalTC P ⟨fun v=>r=none/\v=cA 1,[],none⟩ z8 (fun _ _ _=>False) (fun _ _=>False) (fun M τ=>s.all (eG s.length)=true/\HS (Mh [] []) e s.length 0 M τ) M τ)
  (fun M τ q=>q) (fun a2 w2 az M2=>?_) (fun j a' w' _ h=>(by obtain⟨_,_,_,_,_,_,_,_,_,_,h⟩:=h;exact h.elim)) (fun v f a' w' p l u c=>pan v f a' w' p u (av (l.trans an)) c))
 have az:=az.trans an;refine wp_seq (MS.piece WJ rfl M2 (PS:=⟨fun v=>r=none/\v=cA 1,[],none⟩) (E:=fun _ _ _=>False) (N:=fun M τ=>s.all (eG s.length)=true/\HS (Mh [] []) e s.length 0 M τ)
  (fun M τ q=>q) (fun a3 w3 ar M3=>?_) (fun j a' w' _ h=>(by obtain⟨_,_,_,_,_,_,_,_,_,_,h⟩:=h;exact h.elim)) (fun v f a' w' p l u c=>pan v f a' w' p u (av (l.trans az)) c))
 have ar:=ar.trans az;have bl:s.all (eG s.length)=true:=by obtain⟨_,_,_,_,_,_,_,_,_,_,h⟩:=M3;exact h.1
 obtain⟨y,hy,yn,yb,yo⟩:=Ft hr bl;have M3:=M3.weak fun M τ q=>q.2;refine wp_block (uy (fun m a1 w1=>∃(i:Nat) (b:Bool) (d:DM) (o:OM),m=s.length-i/\i<=s.length/\dw s n i=some (some (b,d,o))/\MS G F Li w (fun M τ=>M=Mh d o/\τ=hE e s.length i) a1 w1/\(∀dd∈a1.defers,dd=sH (cA e))/\(b=true->a1.defers≠[])/\(b=false->a1.defers=[])) ?_ ?_)
 ·exact⟨_,0,false,[],[],rfl,abe _,rfl,M3,av ar,(fun h=>by cases h),fun _=>ar⟩
 rintro m a4 w4 ⟨i,b,d,o,rfl,hi,hf,M4,ab,aw,am⟩;have da:=TN (fun v=>r=none/\v=cA 1) (Mh d o) e s.length i;have done:∀(j:Nat) (a':Act) (w':World),a'.defers=a4.defers->MS G F Li w (fun M τ=>j=2/\¬i<s.length/\HS (Mh d o) e s.length i M τ) a' w'->Exit.inBlock 2 (rm P Try.f58 (cA e) RR) (.exit j) a' w':=by
  rintro j a' w' l ⟨F',L',ρ',M',db,g1,g2,g3,g4,g5,rfl,aE,hM,_⟩;have cp:i=s.length:=by omega
  rw[cp,hy] at hf;injection hf with hf
  simp only[Exit.inBlock,abl];refine⟨l▸ab,fun bt=>?_,fun cw f p=>?_⟩
  ·have hb:b=false:=by
    cases b with
    | false=>rfl
    | true=>exact vv (l▸bt) (aw rfl)
   subst hb;have cd:=yo d o hf;have hq:=AH (P:=P) (fn:=Try.f58) (rs:=[]) (n:=72) (asg:=[]) (a0:=a') (a':=a') (w':=w') (R:=fun Mo v=>∃d o,r=some (d,o)/\Mo=Sd d o/\v=.tup []) (by kernel_rfl) hl bc bs
    ⟨F',L',ρ',g1,g2,g4,rfl,g5,fun _ _=>rfl,M',db,g3,by rw[hM];exact V.ret d o _ ⟨d,o,cd,rfl,rfl⟩⟩
   obtain⟨_,v,k2,F2,Lo,k3,k4,k5⟩:=hq;exact⟨v,k2,by rw[<-hR];exact .inl ⟨v,F2,Lo,rfl,k3,k4,k5⟩⟩
  ·have hb:b=true:=by
    cases b with
    | true=>rfl
    | false=>exact vv (l.trans (am rfl)) cw
   subst hb;exact Rp _ _ _ p (bk (yb d o hf)) ⟨F',L',g1,g5,g3.kp⟩
 refine wp_seq (MS.piece WK rfl M4 (PS:=⟨fun v=>r=none/\v=cA 1,[],none⟩) (E:=fun j M τ=>j=2/\¬i<s.length/\HS (Mh d o) e s.length i M τ) (N:=fun M τ=>evalTC P ⟨fun v=>r=none/\v=cA 1,[],none⟩ zc (fun j M τ=>j=2/\¬i<s.length/\HS (Mh d o) e s.length i M τ) (fun _ _=>False) (fun M τ=>i<s.length/\HS (Mh d o) e s.length i M τ) M τ)
  (fun M τ q=>by rw[q.1,q.2];exact da) (fun a5 w5 bb M5=>?_) (fun j a' w' l h=>done j a' w' l h) (fun v f a' w' p l u c=>pan v f a' w' p u (l▸ab) c))
 refine wp_seq (MS.piece WL rfl M5 (PS:=⟨fun v=>r=none/\v=cA 1,[],none⟩) (E:=fun j M τ=>j=2/\¬i<s.length/\HS (Mh d o) e s.length i M τ) (N:=fun M τ=>i<s.length/\HS (Mh d o) e s.length i M τ)
  (fun M τ q=>q) (fun a6 w6 ao M6=>?_) (fun j a' w' l h=>?_) (fun v f a' w' p l u c=>pan v f a' w' p u (l.trans bb▸ab) c))
 ·-- a variable more
  have ao:=ao.trans bb;have aE:i<s.length:=by obtain⟨_,_,_,_,_,_,_,_,_,_,h⟩:=M6;exact h.1
  have M6:=M6.weak fun M τ q=>q.2;obtain⟨y1,ba⟩:=yO hy (i+1) aE;obtain⟨r1,cm,de,cr⟩:=Fs hf ba;have cy:=V.it n (fun v=>r=none/\v=cA 1) e i d o r1 cm (fun h=>by
   have h1:=yP (ba.trans (xo some (de h))) (s.length-(i+1));rw[show i+1+(s.length-(i+1))=s.length by omega,hy] at h1;injection h1 with h1
   exact⟨yn h1,rfl⟩)
  refine wp_seq (wp_block (wp_seq (MS.piece TA rfl M6 (PS:=⟨fun v=>r=none/\v=cA 1,[],none⟩) (E:=fun _ _ _=>False) (N:=fun M τ=>evalTC P ⟨fun v=>r=none/\v=cA 1,[],none⟩ TB (fun _ _ _=>False) (fun _ _=>False) (fun M τ=>∃k d' o',r1=some (k,d',o')/\HS (Mh d' o') e s.length i M τ/\τ 67=.bool (decide (k>8))) M τ)
   (fun M τ q=>by rw[q.1,q.2];exact cy) (fun a7 w7 al M7=>?_) (fun j a' w' _ h=>(by obtain⟨_,_,_,_,_,_,_,_,_,_,h⟩:=h;exact h.elim)) (fun v f a' w' p l u c=>pan v f a' w' p u (l.trans ao▸ab) c))))
  have al:=al.trans ao;refine wp_seq (MS.piece TD rfl M7 (PS:=⟨fun v=>r=none/\v=cA 1,[],none⟩) (E:=fun _ _ _=>False) (N:=fun M τ=>∃k d' o',r1=some (k,d',o')/\HS (Mh d' o') e s.length i M τ/\τ 67=.bool (decide (k>8)))
   (fun M τ q=>q) (fun a8 w8 ad M8=>?_) (fun j a' w' _ h=>(by obtain⟨_,_,_,_,_,_,_,_,_,_,h⟩:=h;exact h.elim)) (fun v f a' w' p l u c=>pan v f a' w' p u (l.trans al▸ab) c))
  have ad:=ad.trans al;have hk:∃k d' o',r1=some (k,d',o'):=by
   obtain⟨_,_,_,_,_,_,_,_,_,_,k,d',o',h,_⟩:=M8;exact⟨k,d',o',h⟩
  obtain⟨k,d',o',rfl⟩:=hk;have M8:MS G F Li w (fun M τ=>HS (Mh d' o') e s.length i M τ/\τ 67=.bool (decide (k>8))) a8 w8:=M8.mono fun M τ ⟨k1,d1,o1,h,q⟩=>by
   injection h with h
   injection h with h1 h2
   injection h2 with h2 h3
   subst h1 h2 h3;exact q
  have cX:=M8.bool (j:=67) fun M τ q=>q.2;have cM:=M8.int (j:=1) fun M τ q=>q.1.2.2.1;have bm:a8.tmps.size=72:=by obtain⟨_,_,_,_,_,_,_,_,h,_⟩:=M8;exact h
  have M8:=M8.weak fun M τ q=>q.1
  -- the end of a round
  have fin:∀(a9:Act),MS G F Li w (fun M τ=>M=Mh d' o'/\τ=hE e s.length i) a9 w8->(∀dd∈a9.defers,dd=sH (cA e))->((b||decide (k>8))=true->a9.defers≠[])->((b||decide (k>8))=false->a9.defers=[]) ->
    k13.wp P (Exit.then (fun a' w'=>∃m,m<s.length-i/\∃(i:Nat) (b:Bool) (d:DM) (o:OM),m=s.length-i/\i<=s.length/\dw s n i=some (some (b,d,o))/\MS G F Li w (fun M τ=>M=Mh d o/\τ=hE e s.length i) a' w'/\(∀dd∈a'.defers,dd=sH (cA e))/\(b=true->a'.defers≠[])/\(b=false->a'.defers=[])) (Exit.inBlock 2 (rm P Try.f58 (cA e) RR))) a9 w8:=by
   intro a9 M9 bv aw am;have cY:=TP (fun v=>r=none/\v=cA 1) (Mh d' o') e s.length i (by omega);refine MS.piece TF rfl M9 (PS:=⟨fun v=>r=none/\v=cA 1,[],none⟩) (E:=fun _ _ _=>False) (N:=fun M τ=>HS (Mh d' o') e s.length (i+1) M τ)
    (fun M τ q=>by rw[q.1,q.2];exact cY) (fun dC dz ag M10=>?_) (fun j a' w' _ h=>(by obtain⟨_,_,_,_,_,_,_,_,_,_,h⟩:=h;exact h.elim)) (fun v f a' w' p l u c=>pan v f a' w' p u (l▸bv) c)
   refine⟨s.length-(i+1),by omega,i+1,b||decide (k>8),d',o',rfl,aE,ba.trans (xo some (cr k d' o' rfl)),M10.weak fun M τ q=>q,ag▸bv,ag▸aw,ag▸am⟩
  refine wp_cond_split (t:=decide (k>8)) cX (fun hk=>?_) (fun hk=>?_)
  ·refine WM bm cM fun x y z=>?_;refine fin _ (((M8.wr (by omega) (by omega) (by omega) (by omega) (by omega)).wr (by omega) (by omega) (by omega) (by omega) (by omega)).wr (by omega) (by omega) (by omega) (by omega) (by omega)).defers ?_ (fun _ h=>by cases h) (fun h=>by rw[hk,Bool.or_true] at h;cases h);intro dd ac;rcases aaW.1 ac with rfl | ac
   ·rfl
   ·rw[ad] at ac;exact ab dd ac
  ·refine wp_skip ?_;refine fin _ M8 (ad▸ab) (fun h=>?_) (fun h=>?_)
   ·rw[ad];exact aw (by rw[hk,Bool.or_false] at h;exact h)
   ·rw[ad];exact am (by rw[hk,Bool.or_false] at h;exact h)
 ·exact done j a' w' (l.trans bb) h
theorem WQ {s:List Ty}{F:au}{L:Loc}(h:bM F L (cC (o9 s))):s.length<=9223372036854775807:=by
 have q:=h 1001;have q:xG F L (some (.row 32 3 (s.map aM))) (L.get 1001):=q;cases e:L.get 1001 with
 | none=>rw[e] at q;exact q.elim
 | some o =>
  rw[e] at q;cases o with
  | box=>exact q.elim
  | row v t sz n xs =>
   obtain⟨_,_,a,⟨b,_⟩,_⟩:=q;rw[aaP] at a;simp only[maxLen] at b;omega
theorem WR {s:List Ty}{F:au}{L:Loc}(h:bM F L (cC (ur s))):s.length<=9223372036854775807:=by
 have q:=h 1000;have q:xG F L (some (.box 93 [.sl (s.map aM),.any,.any])) (L.get 1000):=q;cases e:L.get 1000 with
 | none=>rw[e] at q;exact q.elim
 | some o =>
  rw[e] at q;cases o with
  | row=>exact q.elim
  | box g t cs =>
   have q:=q.2;simp only[ax,Rel] at q;obtain⟨v,_,_,⟨a,c,_,_,b,_⟩,_⟩:=q;rw[aaP] at b;simp only[maxLen] at b;omega
theorem fvU (s:List Ty):FV s (o9 s) (TG s) (I4 s) :=
 ⟨fun F L h=>WQ h,fun a e PS h=>TH s e PS h a,fun n PS e i d o b h c=>WN s PS e s.length i d o b (GH s n (vr i) d o b h) c,fun d o R h=>TQ s d o R h⟩
theorem fvF (s:List Ty):FV s (ur s) (TI s) (I5 s) :=
 ⟨fun F L h=>WR h,fun a e PS h=>TJ s e PS h a,fun n PS e i d o b h c=>WO s PS e s.length i d o b (Lh s n (vr i) d o b h) c,fun d o R h=>TR s d o R h⟩
theorem WS (s:List Ty) (e:Int) {n:Nat}{r:Option (DM×OM)}(a:bF s n=some r):DN s e r:=yQ (fvU s) e n r a
theorem WT (s:List Ty) (e:Int) {n:Nat}{r:Option (DM×OM)}(a:bF s n=some r):tY s e r:=yQ (fvF s) e n r a
theorem unify (n:Nat) (s:List Ty) (a b:Ty) (f:s.length<=2 ^ 30) (F:Fuel n s a b) (d:cK a<=2 ^ 40) (c:cK b<=2 ^ 40)
  (j:∀s',Ll n s a b s'->s'.length<=2 ^ 30/\(∀x∈s',jl x)/\∃r,jM s' n=some r):CallsT P 23 [.sl (s.map aM),aT a,aT b] [] (RN n s a b) :=
 t23 n s a b f F (fun s e r h=>WS s e h) d c j
theorem apply (s:List Ty) (n:Nat) (t r:Ty) (d:DM) (o:OM) (h:bF s n=some (some (d,o))) (a:∀x∈s,jl x) (hb:jl t) (b:RX s n t=some r):CallsT P 22 [.sl (s.map aM),aT t] [] (aU [] (aT r)) :=
 t22 s n t r d o (WT s 1 h) a hb b
mutual
def gs (u:List Ty):Ty->Ty
 | .mk k i l=>if k=9 then(u[i.toNat]?).getD (.mk 0 0 []) else .mk k i (UZ u l)
def UZ (u:List Ty):List Ty->List Ty
 | []=>[]
 | t::l=>gs u t::UZ u l
end
theorem GR (u:List Ty):∀l:List Ty,UZ u l=l.map (gs u)
 | []=>rfl
 | t::l=>by rw[UZ,GR u l];rfl
theorem Qu (u:List Ty) (t:Ty):gs u t=if t.kind=9 then(u[t.id.toNat]?).getD (.mk 0 0 []) else .mk t.kind t.id (t.args.map (gs u)):=by
 cases t;rw[gs,GR];rfl
theorem mE {u:List Ty}{t:Ty}(h:t.kind=9):gs u t=(u[t.id.toNat]?).getD (.mk 0 0 []):=by rw[Qu,o5 h]
theorem jm {u:List Ty}{t:Ty}(h:¬t.kind=9):gs u t=.mk t.kind t.id (t.args.map (gs u)):=by rw[Qu,q9 h]
theorem lI {u:List Ty}{t r:Ty}(h:t.kind=9) (k:r.kind=9) (e:t.id=r.id):gs u t=gs u r:=by rw[mE h,mE k,e]
structure Sat (u s:List Ty):Prop where
 len:u.length=s.length
 eq:∀(i:Nat) (x:Ty),s[i]?=some x->¬x.kind=0->u[i]?=some (gs u x)
theorem Sat.elem {u s:List Ty}(h:Sat u s) {t x:Ty}(a:t.kind=9) (he:bQ s t=some x) (b:¬x.kind=0):gs u x=gs u t:=by
 obtain⟨_,e,_⟩:=bJ he;rw[mE a,h.eq _ x e b];rfl
theorem Sat.front {u s:List Ty}(h:Sat u s):∀{n:Nat}{t r:Ty},aO s n t=some r->gs u r=gs u t
 | 0,t,r,q=>by cases q
 | n+1,t,r,q=>by
  rw[aO] at q
  by_cases a:t.kind=9
  ·rw[o5 a] at q;cases he:bQ s t with
   | none=>rw[he] at q;cases q
   | some x =>
    rw[he] at q;simp only at q
    by_cases b:x.kind=0
    ·rw[o5 b] at q;injection q with q;rw[q]
    ·rw[q9 b] at q;rw[h.front q,h.elem a he b]
  ·rw[q9 a] at q;injection q with q;rw[q]
theorem TT {u:List Ty}{t y:Ty}(b:¬t.kind=9) (a:y∈t.args):SizeOf.sizeOf (gs u y)<SizeOf.sizeOf (gs u t):=by
 rw[jm b];exact Gw (x:=gs u y) (t:=.mk t.kind t.id (t.args.map (gs u))) (abt.2 ⟨y,a,rfl⟩)
theorem Sat.occ {u s:List Ty}(h:Sat u s) {v:Int}:∀{n:Nat}{t:Ty},kS s v n t=some true->SizeOf.sizeOf (gs u (.mk 9 v []))<=SizeOf.sizeOf (gs u t)/\(¬t.kind=9->SizeOf.sizeOf (gs u (.mk 9 v []))<SizeOf.sizeOf (gs u t))
 | 0,t,q=>by cases q
 | n+1,t,q=>by
  rw[kS] at q;cases hf:aO s n t with
  | none=>rw[hf] at q;cases q
  | some r =>
   rw[hf] at q;have e:=h.front hf;simp only at q
   by_cases a:r.kind=9
   ·rw[o5 a] at q;injection q with q
    have q:=abv q;refine⟨?_,fun f=>?_⟩
    ·rw[<-e,lI (u:=u) a (r:=.mk 9 v []) rfl q];exact aa3 _
    ·cases n with
     | zero=>cases hf
     | succ n=>rw[A8 f n] at hf;injection hf with hf;exact vv (hf▸a) f
   ·rw[q9 a] at q;obtain⟨h1,j⟩:=qZ q;obtain⟨y,d,c⟩:=abT.1 j;have b:kS s v n y=some true:=by rw[h1 y d,c]
    have:=(h.occ b).1;have k:=TT (u:=u) a d;rw[e] at k;exact⟨by omega,fun _=>by omega⟩
theorem Sat.set {u s:List Ty}(h:Sat u s) {v:Int}{b:Ty}(h0:0<=v) (hb:gs u (.mk 9 v [])=gs u b):Sat u (s.set v.toNat b):=by
 refine⟨by rw[abK];exact h.len,fun i x a d=>?_⟩
 by_cases e:v.toNat=i
 ·have c:i<s.length:=by have:=(aaU.1 a).1;rwa [abK] at this
  rw[e,ab1 c] at a;injection a with a
  subst a;rw[<-hb,mE rfl];show _=some ((u[v.toNat]?).getD _);rw[e,aaQ (by rw[h.len];exact c)];rfl
 ·rw[abW e] at a;exact h.eq i x a d
theorem GS {u:List Ty}{f:List Ty->Ty->Ty->Option (Option (List Ty))}(hf:∀s x y r,Sat u s->gs u x=gs u y->f s x y=some r->∃s',r=some s'/\Sat u s'):∀{l a s:List Ty}{r:Option (List Ty)},Sat u s->l.map (gs u)=a.map (gs u)->j9 f s l a=some r->∃s',r=some s'/\Sat u s'
 | [],a,s,r,h,_,q=>by rw[j9] at q;injection q with q;exact⟨s,q.symm,h⟩
 | x::l,[],s,r,h,e,q=>by simp at e
 | x::l,y::a,s,r,h,e,q=>by
  rw[aa0,aa0,List.cons.injEq] at e;rw[j9] at q;cases b:f s x y with
  | none=>rw[b] at q;cases q
  | some c =>
   rw[b] at q;obtain⟨s1,rfl,h1⟩:=hf s x y c h e.1 b;exact GS hf h1 e.2 q
theorem Sat.eqs {u:List Ty}:∀{n:Nat}{s:List Ty}{a b:Ty}{r:Option (List Ty)},Sat u s->gs u a=gs u b->lG n s a b=some r->∃s',r=some s'/\Sat u s'
 | 0,s,a,b,r,h,_,q=>by cases q
 | n+1,s,a,b,r,h,v,q=>by
  cases k:aO s n a with
  | none=>rw[lG,k] at q;cases q
  | some a' =>
  cases l:aO s n b with
  | none=>rw[lG,k,l] at q;cases q
  | some f =>
  rw[mD k l] at q;have c:gs u a'=gs u f:=by rw[h.front k,h.front l,v]
  by_cases j:a'.kind=9
  ·obtain⟨xa,ab,ag⟩:=fD k j;have aa:=(bJ ab).1;have m:gs u (.mk 9 a'.id [])=gs u a':=lI rfl j rfl
   by_cases d:f.kind=9
   ·obtain⟨xb,t,al⟩:=fD l d;have am:=(bJ t).1;have e2:gs u (.mk 9 f.id [])=gs u f:=lI rfl d rfl;rw[o5 ⟨j,d⟩] at q
    by_cases hi:a'.id=f.id
    ·rw[o5 hi] at q;injection q with q;exact⟨s,q.symm,h⟩
    ·rw[q9 hi] at q;injection q with q
     refine⟨_,q.symm,h.set (by omega) ?_⟩;rcases Int.le_total a'.id f.id with e | e
     ·rw[Int.max_eq_right e,Int.min_eq_left e,m,e2,c]
     ·rw[Int.max_eq_left e,Int.min_eq_right e,m,e2,c]
   ·rw[q9 (fun p=>d p.2),o5 j] at q;cases z:kS s a'.id n f with
    | none=>rw[z] at q;cases q
    | some o =>
     rw[z] at q;cases o with
     | true =>
      have:=(h.occ z).2 d;rw[m,c] at this;exact vv this (Nat.lt_irrefl _)
     | false =>
      injection q with q
      exact⟨_,q.symm,h.set aa (m.trans c)⟩
  ·rw[q9 (fun p=>j p.1),q9 j] at q
   by_cases d:f.kind=9
   ·rw[o5 d] at q;exact Sat.eqs h c.symm q
   ·rw[q9 d] at q;rw[jm j,jm d] at c;injection c with g1 g2 g3
    have g4:a'.args.length=f.args.length:=by have:=xo List.length g3;simpa using this
    rw[q9 (by omega)] at q;exact GS (fun s x y r hs w hq=>Sat.eqs hs w hq) h g3 q
theorem Sat.ap {u s:List Ty}(h:Sat u s):∀{n:Nat}{t r:Ty},oP s n t=some r->gs u r=gs u t
 | 0,t,r,q=>by cases q
 | n+1,t,r,q=>by
  rw[oP] at q;cases he:(if t.kind=9 then bQ s t else some (.mk 0 0 [])) with
  | none=>simp only[he] at q;cases q
  | some x =>
   simp only[he] at q
   by_cases b:x.kind=0
   ·rw[q9 (fun p=>p b)] at q;cases c:kY (oP s n) t.args with
    | none=>simp only[c] at q;cases q
    | some l =>
     simp only[c] at q;injection q with q
     obtain⟨h1,e⟩:=ju c;subst q
     by_cases a:t.kind=9
     ·exact lI (by exact a) a rfl
     ·rw[jm a,jm (t:=.mk t.kind t.id l) a];show Ty.mk t.kind t.id (l.map (gs u))=_;rw[e,abS];exact xo _ (abV fun y d=>h.ap (h1 y d))
   ·rw[o5 b] at q;have a:t.kind=9:=by
     by_cases a:t.kind=9
     ·exact a
     ·rw[q9 a] at he;injection he with he
      exact vv (by rw[<-he];rfl) b
    rw[o5 a] at he;rw[h.ap q,h.elem a he b]
inductive WU (s:List Ty):Ty->Prop
 | var {t x:Ty}(h9:t.kind=9) (he:bQ s t=some x) (hk:x.kind=0):WU s t
 | arg {t:Ty}(h9:¬t.kind=9) (h:∀y∈t.args,WU s y):WU s t
structure LOk (u s:List Ty) (m:DM):Prop where
 ok:∀j k,bg m j=some k->0<=k/\k<s.length/\gs u (.mk 9 k [])=gs u (.mk 9 j [])
theorem wG {ds:List Api.Data}{pa:Int}{t:Ty}(h:vV ds pa t=true) (a:t.kind=5):0<=t.id/\t.id<pa/\t.args=[]:=by
 rw[mA,o5 a] at h;simp only[aaN,aa2] at h;exact⟨h.1.1,h.1.2,abu h.2⟩
theorem wH {ds:List Api.Data}{pa:Int}{t:Ty}(h:vV ds pa t=true) (b:¬t.kind=5):∃n,CG ds t.kind t.id=some n/\¬((t.kind≠2/\t.id≠0)\/(t.args.length:Int)≠n)/\∀x∈t.args,(iN x=true\/(t.kind=7/\x.kind=6))/\vV ds pa x=true:=by
 rw[mA,q9 b] at h;cases a:CG ds t.kind t.id with
 | none=>simp only[a] at h;cases h
 | some n =>
  simp only[a] at h;split at h
  ·cases h
  ·rename_i e;refine⟨n,rfl,e,fun x d=>?_⟩;rw[Bool.not_eq_true'] at h;have hb:=(abX.1 h) x d;simp only[Ff,abp,aaN,Bool.not_eq_true',Bool.not_eq_false',Bool.and_eq_false_iff,aa2,abZ,not_or,not_and,ab3] at hb;refine⟨?_,?_⟩
   ·cases c:iN x with
    | true=>exact .inl rfl
    | false =>
     refine .inr ?_;have h1:=hb.1 c;simpa using h1
   ·cases hf:vV ds pa x with
    | true=>rfl
    | false=>exact vv hf (by simpa using hb.2)
def iR (n:Int) (m:TM):Prop:=(∀p∈m,0<=p.1/\p.1<n)/\(m.map (·.1)).Nodup
theorem DW {a:Type}{m:List (Int×a)}{i:Int}{x:a}(h:bg m i=some x):(i,x)∈m:=by
 induction m with
 | nil=>cases h
 | cons p m b =>
  obtain⟨k,v⟩:=p;simp only[bg] at h
  by_cases e:i=k
  ·rw[o5 e] at h;injection h with h;subst e h;simp
  ·rw[q9 e] at h;exact abj _ (b h)
theorem II {a:Type}(m:List (Int×a)) (i:Int) (x:a) (h:bg m i=none):dX m i x=m++[(i,x)]:=by
 induction m with
 | nil=>rfl
 | cons p m b =>
  obtain⟨k,v⟩:=p;simp only[bg] at h
  by_cases e:i=k
  ·rw[o5 e] at h;cases h
  ·rw[q9 e] at h;simp only[dX,q9 e,b h,aa4]
theorem IJ {b:Type}{m:List (Int×b)}{i:Int}(h:bg m i=none):i∉m.map (·.1):=by
 induction m with
 | nil=>simp
 | cons p m a =>
  obtain⟨k,v⟩:=p;simp only[bg] at h
  by_cases e:i=k
  ·rw[o5 e] at h;cases h
  ·rw[q9 e] at h;simp only[aa0,aaW,not_or];exact⟨e,a h⟩
theorem O6 {b:Type}{m:List (Int×b)}{i:Int}{x:b}(a:(m.map (·.1)).Nodup) (h:(i,x)∈m):bg m i=some x:=by
 induction m with
 | nil=>cases h
 | cons p m c =>
  obtain⟨k,v⟩:=p;simp only[aa0,List.nodup_cons] at a;simp only[bg];rcases aaW.1 h with e | h
  ·injection e with e1 e2;rw[o5 e1,e2]
  ·have:i≠k:=fun e=>a.1 (by rw[<-e];exact abt.2 ⟨_,h,rfl⟩);rw[q9 this];exact c a.2 h
theorem iR.set {n:Int}{m:TM}{i:Int}{x:Ty}(h:iR n m) (h0:0<=i) (h1:i<n) (d:bg m i=none):iR n (dX m i x):=by
 rw[II m i x d];refine⟨fun p c=>?_,?_⟩
 ·rcases aaX.1 c with c | c
  ·exact h.1 p c
  ·rw[abI.1 c];exact⟨h0,h1⟩
 ·rw[abD];exact List.nodup_append.2 ⟨h.2,by simp,fun a f b hb=>by
   rw[abI.1 (by simpa using hb:b∈[i])];exact fun e=>IJ d (e▸f)⟩
theorem fit_keys (n:Int):∀(p t:Ty) (m:TM),iR n m->iR n (jK n p t m).1:=fun p=>dL (p:=fun p=>∀(t:Ty) (m:TM),iR n m->iR n (jK n p t m).1) (fun p f t m h=>by
 have c:∀(l:List Ty),(∀x∈l,∀(t:Ty) (m:TM),iR n m->iR n (jK n x t m).1)->∀(a:List Ty) (m:TM),iR n m->iR n (mH n l a m).1:=by
  intro l
  induction l with
  | nil=>intro _ a m h;rw[mH];exact h
  | cons x l d =>
   intro e a m h;rw[mH.eq_def];cases a with
   | nil=>exact h
   | cons y a =>
    have h1:=e x (by simp) y m h;simp only;cases hf:jK n x y m with
    | mk j b =>
     rw[hf] at h1;cases b
     ·exact h1
     ·exact d (fun z c=>e z (by simp[c])) a j h1
 rw[tW,Io];split
 ·split
  ·exact h
  ·rename_i o;split
   ·exact h
   ·rename_i k;exact h.set (by omega) (by omega) k
 ·split
  ·split
   ·exact c p.args f t.args m h
   ·exact h
  ·exact h) p
noncomputable def tZ:Code:=Try.f24.body.getD .skip
noncomputable def m0:Code:=vZ tZ
noncomputable def m1:Code:=vZ (fE tZ)
noncomputable def m2:Code:=vZ (fE (fE tZ))
noncomputable def m3:Code:=vZ (fE (fE (fE tZ)))
noncomputable def m4:Code:=vZ (fE (fE (fE (fE tZ))))
noncomputable def m5:Code:=vZ (fE (fE (fE (fE (fE tZ)))))
noncomputable def m6:Code:=vZ (fE (fE (fE (fE (fE (fE tZ))))))
noncomputable def m7:Code:=vZ (fE (fE (fE (fE (fE (fE (fE tZ)))))))
noncomputable def m8:Code:=vZ (fE (fE (fE (fE (fE (fE (fE (fE tZ))))))))
theorem DX:Try.f24.body=some (m0.seq (m1.seq (m2.seq (m3.seq (m4.seq (m5.seq (m6.seq (m7.seq (m8.seq .ret))))))))):=by kernel_rfl
def y0:ay:=(.reg [.op (some 3) (.boxF 32 (.t 0)) none,
  .op (some 4) (.boxF 32 (.t 1)) none,
  .op (some 5) (.boxF 3 (.t 2)) none,
  .op (some 6) (.mov (.c (.slice none 0 0))) none,
  .op (some 7) (.mov (.c (.bool false))) none])
theorem TU:low Try.prog I3 m0=some y0:=by kernel_rfl
def y1:ay:=(.seq (.reg [.op (some 13) (.load false 1 (.t 5)) none,
  .op (some 14) (.bin .lss (.t 13) (.c (.int .i64 0))) none,
  .op (some 15) (.mov (.t 14)) none,
  .op (some 16) (.load false 1 (.t 5)) (some (15,false)),
  .op (some 17) (.bin .gtr (.t 16) (.c (.int .i64 4))) (some (15,false)),
  .op (some 18) (.pick (.t 15) (.c (.bool true)) (.t 17)) none])
 (.cond (.t 18)
 (.seq (.reg [.op (some 6) (.mov (.c (.slice none 0 0))) none,
   .op (some 7) (.mov (.c (.bool false))) none])
  .ret)
 .skip))
theorem TV:low Try.prog I3 m1=some y1:=by kernel_rfl
def y2:ay:=(.reg [.op (some 19) (.mkmap) none,
  .op (some 8) (.alloc 101 [(.map none)]) none,
  .op none (.store 1 (.t 8) (.t 19)) none])
theorem TW:low Try.prog I3 m2=some y2:=by kernel_rfl
def y3:ay:=(.reg [.op (some 9) (.alloc 37 [.nilFunc]) none])
theorem TY:low Try.prog I3 m3=some y3:=by kernel_rfl
def y4:ay:=(.reg [.op (some 20) (.mkfn 66 [] [(.t 9),(.t 5),(.t 8)]) none,
  .op none (.store 1 (.t 9) (.t 20)) none])
theorem T9:low Try.prog I3 m4=some y4:=by kernel_rfl
def y5:ay:=(.seq (.reg [.op (some 21) (.load false 1 (.t 9)) none,
  .op (some 22) (.load true 3 (.t 3)) none,
  .op (some 23) (.load true 3 (.t 4)) none,
  .op (some 24) (.callV (.t 21) [(.t 22),(.t 23)]) none,
  .op (some 25) (.un .not (.t 24)) none])
 (.cond (.t 25)
 (.seq (.reg [.op (some 6) (.mov (.c (.slice none 0 0))) none,
   .op (some 7) (.mov (.c (.bool false))) none])
  .ret)
 .skip))
theorem Ua:low Try.prog I3 m5=some y5:=by kernel_rfl
def y6:ay:=(.reg [.op (some 26) (.load false 1 (.t 5)) none,
  .op (some 27) (.makeS 32 3 40 [(.int .i64 0),(.int .i64 0),(.slice none 0 0)] (.t 26) (.t 26)) none,
  .op (some 10) (.mov (.t 27)) none])
theorem Ub:low Try.prog I3 m6=some y6:=by kernel_rfl
def y7:ay:=(.seq (.reg [.op (some 28) (.load false 1 (.t 8)) none,
  .op (some 29) (.mrange (.t 28)) none])
 (.block 0
 (.loop [30,31,32,33,34,12,11,35,36,37,38]
  (.seq (.reg [.op (some 30) (.mnext (.t 29)) none,
    .op (some 31) (.extr (.t 30) 0) none])
   (.seq (.cond (.t 31)
   .skip
   (.exit 0))
   (.block 1
   (.seq (.reg [.op (some 32) (.mentry (.t 29)) none,
     .op (some 33) (.extr (.t 32) 0) none,
     .op (some 34) (.extr (.t 32) 1) none,
     .op (some 12) (.alloc 32 [(.int .i64 0),(.int .i64 0),(.slice none 0 0)]) none,
     .op (some 11) (.mov (.t 33)) none,
     .op none (.store 3 (.t 12) (.t 34)) none])
    (.reg [.op (some 35) (.mov (.t 10)) none,
     .op (some 36) (.mov (.t 11)) none,
     .op (some 37) (.load true 3 (.t 12)) none,
     .op (some 38) (.idxA 3 (.t 35) (.t 36)) none,
     .op none (.store 3 (.t 38) (.t 37)) none]))))))))
theorem Uc:low Try.prog I3 m7=some y7:=by kernel_rfl
def y8:ay:=(.reg [.op (some 39) (.mov (.t 10)) none,
  .op (some 6) (.mov (.t 39)) none,
  .op (some 7) (.mov (.c (.bool true))) none])
abbrev ML (n:Nat) (m:TM) (out:List Ty):TL:=[(8,.box 101 [.mpr 19]),(9,.box 37 [.fn 66 [] [.own 9 0,.pt [IC n] 0,.own 8 0]]),(19,.map (i9 aT m)),(27,.row 32 3 (out.map aM))]
theorem WV (p t:Ty) (n:Nat) (d:n<=4) (m:TM) (b:jK n p t []=(m,true)):evalTC P ⟨fun _=>False,[],none⟩ (.seq y0 (.seq y1 (.seq y2 (.seq y3 (.seq y4 (.seq y5 y6)))))) (fun _ _ _=>False) (fun _ _=>False)
  (fun M τ=>M=ML n m (List.replicate n (.mk 0 0 []))/\τ 8=.own 8 0/\τ 10=.rw 27) [] (jN 0 [aT p,aT t,IC n]):=by
 have a:=XV n p t [];rw[b] at a;have c:List.replicate n ([C.int .i64 0,C.int .i64 0,C.sl []]:List C)=(List.replicate n (Ty.mk 0 0 [])).map aM:=by rw[ab6];rfl
 refine ah (fun h=>vv h (by omega)) (fun _=>?_);refine callO [9,8,19] [9,8,19] a rfl rfl rfl rfl rfl fun _ _=>?_;refine uw.mk (by omega) (abm _) (by omega) (by simp only[maxLen];omega) ?_;exact⟨xo (fun q=>[(8,TO.box 101 [.mpr 19]),(9,.box 37 [.fn 66 [] [.own 9 0,.pt [IC n] 0,.own 8 0]]),(19,.map (i9 aT m)),(27,.row 32 3 q)]) c,rfl,rfl⟩
def R3:Ty:=.mk 0 0 []
def kT (n:Nat) (m:TM):List Ty:=(List.range n).map fun(i:Nat)=>(bg m (i:Int)).getD R3
theorem GU {F:au}:∀{m:TM}{cs:List Value}{j:Nat}{e:Value},fC F (i9 aT m) cs->cs[j]?=some e->∃k t v,m[j]?=some (k,t)/\e=.agg #[.int .i64 k,v]/\Rel F [] (aT t) v/\(Lit.int .i64 k).wf=true
 | [],cs,j,e,h,a=>by
  simp only[i9,abE,fC] at h;subst h;simp at a
 | (k,t)::m,cs,j,e,h,a=>by
  simp only[i9,aa0,fC] at h;obtain⟨kv,v,d,rfl,h1,c,b⟩:=h;rw[Rel] at h1;obtain⟨rfl,f⟩:=h1;cases j with
  | zero =>
   rw[aa6] at a;injection a with a
   exact⟨k,t,v,rfl,a.symm,c,f⟩
  | succ j =>
   rw[abg] at a;exact GU (m:=m) b a
theorem DY {F:au}:∀{m:TM}{cs:List Value},fC F (i9 aT m) cs->cs.length=m.length
 | [],cs,h=>by simp only[i9,abE,fC] at h;subst h;rfl
 | (k,t)::m,cs,h=>by
  simp only[i9,aa0,fC] at h;obtain⟨kv,v,a,rfl,h1,c,b⟩:=h;rw[aa7,aa7,DY (m:=m) b]
theorem yR {F:au}{m:TM}{cs:List Value}(h:fC F (i9 aT m) cs):ld cs=true:=by
 cases m with
 | nil=>simp only[i9,abE,fC] at h;subst h;rfl
 | cons p m =>
  simp only[i9,aa0,fC] at h;obtain⟨kv,v,a,rfl,_⟩:=h;rfl
abbrev RL (d a c:Nat) (cs:List Value) (v:Value) (n:Nat) (b:List Nat) (xs:List Value):Loc :=
 [(8,.box d 101 [.map (some a)]),(19,.box a 0 cs),(27,.row v 32 3 n xs),(29,.box c 0 (.tuple #[.map (some a),.int .i64 cs.length]::b.map fun(j:Nat)=>.int .i64 (j:Int)))]
def Cs (n:Nat) (m:TM) (a:List Nat) (out:List Ty):Prop :=
 out.length=n/\a.Nodup/\(∀j∈a,j<m.length)/\∀i<n,out[i]?=some (if∃j∈a,(m[j]?).map (·.1)=some (i:Int) then(bg m i).getD R3 else R3)
theorem yS:∀(N:Nat) (l:List Nat),l.Nodup->(∀x∈l,x<N)->l.length<=N
 | 0,l,_,h=>by
  cases l with
  | nil=>exact aa3 _
  | cons x l=>exact vv (h x (by simp)) (abB _)
 | N+1,l,b,h=>by
  by_cases d:N∈l
  ·have h1:=yS N (l.erase N) (b.erase N) fun x a=>by
    have c:=(b.mem_erase_iff).1 a;have:=h x c.2;omega
   rw[List.length_erase_of_mem d] at h1;omega
  ·have:=yS N l b fun x a=>by
    have h1:=h x a;have:x≠N:=fun e=>d (e▸a);omega
   omega
theorem DZ (a:List Nat):(a.map fun(j:Nat)=>Value.int .i64 (j:Int)).map iK=a:=by
 rw[abS];exact(abV fun j _=>(by show(j:Int).toNat=j;omega)).trans (List.map_id _)
theorem Cs.all {n:Nat}{m:TM}{a:List Nat}{out:List Ty}(h:Cs n m a out) (l:iR n m) (d:∀j<m.length,j∈a):out=kT n m:=by
 obtain⟨h1,o,k,e⟩:=h;refine tT h1 (by simp[kT]) fun i hi=>?_;rw[e i hi,kT,aa9,List.getElem?_range hi];simp only[abq,aaO];split
 ·rfl
 ·rename_i b;cases f:bg m (i:Int) with
  | none=>rfl
  | some x =>
   obtain⟨j,c,he⟩:=List.mem_iff_getElem.1 (DW f);exact vv ⟨j,d j c,by rw[aaQ c,he];rfl⟩ b
theorem Cs.next {n:Nat}{m:TM}{c:List Nat}{out:List Ty}{j:Nat}{k:Int}{t:Ty}(h:Cs n m c out) (u:iR n m) (s:m[j]?=some (k,t)) (w:j∉c):Cs n m (c++[j]) (out.set k.toNat t):=by
 obtain⟨h1,z,v,h4⟩:=h;have p:=aaZ s;have x:=u.1 _ p;have hg:=O6 u.2 p;refine⟨by rw[abK];exact h1,List.nodup_append.2 ⟨z,by simp,fun a y b hb=>by rw[abI.1 hb];exact fun e=>w (e▸y)⟩,fun i hi=>?_,fun i hi=>?_⟩
 ·rcases aaX.1 hi with hi | hi
  ·exact v i hi
  ·rw[abI.1 hi];exact(aaU.1 s).1
 ·rw[List.getElem?_set]
  by_cases e:k.toNat=i
  ·have r:k=(i:Int):=by omega
   rw[o5 e,o5 (by omega),o5 ⟨j,by simp,by rw[s,r];rfl⟩,<-r,hg];rfl
  ·rw[q9 e,h4 i hi];have o:(∃l∈c++[j],(m[l]?).map (·.1)=some (i:Int))↔∃l∈c,(m[l]?).map (·.1)=some (i:Int):=by
    refine⟨fun⟨l,d,f⟩=>?_,fun⟨l,d,f⟩=>⟨l,List.mem_append_left _ d,f⟩⟩;rcases aaX.1 d with d | d
    ·exact⟨l,d,f⟩
    ·rw[abI.1 d,s] at f;injection f with f
     exact vv (by have:k=(i:Int):=f;omega) e
   by_cases f:∃l∈c,(m[l]?).map (·.1)=some (i:Int)
   ·rw[o5 f,o5 (o.2 f)]
   ·rw[q9 f,q9 (fun q=>f (o.1 q))]
theorem R4 (F:au) (g8 f:Nat) (cs:List Value) (v:Value) (n:Nat) (m:TM) (xs:List Value) (jk:Nat->Value) (ad:Option Addr) (c:Nat) (hv:v=.slice ad n c) (hm:fC F (i9 aT m) cs) (hk:iR n m) (hx:aN F 3 ((List.replicate n R3).map aM) xs) (ac:0<n->ad≠none)
  (N:di) (hN:∀F' gi a ab ρ',F.le F'->aN F' 3 ((kT n m).map aM) ab->ρ' 10=.v v->N F' (RL g8 f gi cs v n a ab) ρ') :
  jo P y7 (fun _ _ _ _=>False) (fun _ _ _=>False) N F [(8,.box g8 101 [.map (some f)]),(19,.box f 0 cs),(27,.row v 32 3 n xs)] (Fr.put (some 8) (.own 8 0) (Fr.put (some 10) (.v v) fun j=>.v (jk j))):=by
 refine CI.mk ⟨19,cs,rfl,yR hm,?_⟩;intro gi;refine Jd.mk ⟨List Nat×List Value,([],xs),fun x F'=>F.le F'/\∃out,aN F' 3 (out.map aM) x.2/\Cs n m x.1 out,[],fun _=>[],fun x=>RL g8 f gi cs v n x.1 x.2,fun x=>m.length-x.1.length,?_,trivial,?_,fun x=>?_,?_⟩
 ·refine⟨au.le_refl F,List.replicate n R3,hx,aby,List.nodup_nil,(fun j h=>by cases h),fun i hi=>?_⟩;rw[q9 (fun⟨j,hj,_⟩=>by cases hj),ab2,o5 hi]
 ·exact⟨.inl rfl,.inl rfl,.inl rfl,.inl rfl,trivial⟩
 ·exact⟨⟨_,rfl⟩,⟨_,rfl⟩,⟨_,rfl⟩,trivial⟩
 rintro⟨a,xs⟩ F' cc bt ⟨b,out,hr,d,w,z,r⟩;refine Ja.mk ⟨19,cs,rfl,yR hm,rfl,fun j en hj q=>?_,fun ae=>?_⟩
 ·obtain⟨k,t,v',e1,rfl,e3,e4⟩:=GU hm hj;have al:=hk.1 _ (aaZ e1);simp only[ax,Rel] at e3;obtain⟨w3,rfl,w1,_,rfl,⟨rfl,aE⟩,w2,_,rfl,⟨rfl,bd⟩,w3,_,rfl,⟨a3,c3,rfl,be,bb,bc,y⟩,rfl⟩:=e3;rw[DZ] at q;refine FK.mk ⟨19,cs,j,_,rfl,yR hm,rfl,List.getLast?_concat,hj,?_⟩;intro bs;subst hv;have an:0<n:=by omega
  obtain⟨a0,ag⟩:=Option.ne_none_iff_exists'.1 (ac an);have bi:xs.length=n*3:=by
   have:=hU hr
   rwa [aaP,d] at this
  refine I9.mk (ac an) al.1 al.2 ?_;refine qG.mk ⟨27,_,_,_,_,_,a0,c,rfl,ag,by rw[ag],?_,?_,?_⟩
  ·show k.toNat*3+0+3<=xs.length;rw[bi];omega
  ·intro u s;rcases aaW.1 s with rfl | s
   ·rfl
   rcases aaW.1 s with rfl | s
   ·rfl
   rcases aaW.1 s with rfl | s
   ·rfl
   cases s
  ·refine⟨(a++[j],bP xs (k.toNat*3+0) [.int .i64 t.kind,.int .i64 t.id,.slice a3 (t.args.map aM).length c3]),⟨b,out.set k.toNat t,?_,Cs.next ⟨d,w,z,r⟩ hk e1 q⟩,trivial,⟨.inl rfl,.inl rfl,.inl rfl,.inl ?_,trivial⟩,?_⟩
   ·obtain⟨o,ho⟩:=j8 (l:=out) (k:=k.toNat) (by omega);have p:=hr.set (j:=k.toNat) (es:=aM o) (ds:=[IC t.kind,IC t.id,.sl (t.args.map aM)]) (us:=[.int .i64 t.kind,.int .i64 t.id,.slice a3 (t.args.map aM).length c3]) (off:=0) (by rw[aa9,ho];rfl) (by simp) (by
     simp only[ax,Rel];refine⟨_,_,rfl,⟨rfl,aE⟩,_,_,rfl,⟨rfl,bd⟩,_,_,rfl,⟨a3,c3,rfl,be,bb,bc,?_⟩,rfl⟩;obtain⟨sz,y⟩:=y;exact⟨sz,gk.mono b y⟩) rfl
    have e:jd (aM o) 0 [IC t.kind,IC t.id,.sl (t.args.map aM)]=aM t:=by
     rw[iM o,iM t];rfl
    rw[e,<-List.map_set] at p;exact p
   ·rw[abD];rfl
   ·show m.length-(a++[j]).length<m.length-a.length;have h1:=(aaU.1 e1).1;have am:=Cs.next ⟨d,w,z,r⟩ hk e1 q;have h2:(a++[j]).length<=m.length:=yS _ _ am.2.1 am.2.2.1;rw[abJ] at h2 ⊢;simp only[aa7,abN] at h2 ⊢;omega
 ·have ha:∀j<m.length,j∈a:=fun j hj=>by
   have:=ae j (by rw[DY hm];exact hj)
   rwa [DZ] at this
  have e:=Cs.all ⟨d,w,z,r⟩ hk ha;rw[e] at hr;exact hN F' gi a xs _ b hr rfl
def MQ (b:Nat) (G:Nat->Option (Nat×TypeId)) (F0:au) (Li:List Own) (w0:World) (K:TK) (a:Act) (w:World):Prop :=
 ∃F L ρ M τ,St F L w/\aA L ρ a/\TS G F L ρ M τ/\a.tmps.size=b/\Step F0 (inp Li) w0 F L w/\K M τ
section
variable {G:Nat->Option (Nat×TypeId)}{F0:au}{Li:List Own}{w0:World}
theorem MQ.seq {A:dc}{c b:Code}{o sc2:ay}(hl:low Try.prog A c=some o) (p:fH o=[]) {N K:TK}{a:Act}{w:World}(h:MQ A.n G F0 Li w0 K a w)
  (hK:∀M τ,K M τ->evalTC P ⟨fun _=>False,[],none⟩ (.seq o sc2) (fun _ _ _=>False) (fun _ _=>False) N M τ) {Q:Exit->Act->World->Prop}
  (u:∀a' w',a'.defers=a.defers->MQ A.n G F0 Li w0 (fun M τ=>evalTC P ⟨fun _=>False,[],none⟩ sc2 (fun _ _ _=>False) (fun _ _=>False) N M τ) a' w'->b.wp P Q a' w'):(c.seq b).wp P Q a w:=by
 obtain⟨F,L,ρ,M,τ,g1,g2,g3,g4,y,m⟩:=h;refine wp_seq (wp_mono (fp c hl (fun k m=>by rw[p] at m;cases m) g1 g2 g3 g4 (hK M τ m)) ?_);intro e a' w' f;cases e with
 | normal =>
  obtain⟨F',L',ρ',k1,s,q,t,r,k6,M',d,z,k8⟩:=f;exact u a' w' t ⟨F',L',ρ',M',d,k1,s,z,q,y.trans r,k8⟩
 | exit j=>obtain⟨F',L',ρ',_,_,_,_,_,_,M',d,_,h⟩:=f;exact h.elim
 | ret=>obtain⟨F',L',ρ',_,_,_,_,_,_,M',d,_,h⟩:=f;exact h.elim
 | goto l=>exact f.elim
 | panic ch=>obtain⟨v,x,F',L',k1,s,q,t,r,kp,hp,_⟩:=f;exact hp.elim
 | outgrown=>exact f.elim
theorem MQ.one {A:dc}{c b:Code}{d:ay}(k:low Try.prog A c=some d) (e:fH d=[]) {N K:TK}{a:Act}{w:World}(h:MQ A.n G F0 Li w0 K a w)
  (j:∀M τ,K M τ->evalTC P ⟨fun _=>False,[],none⟩ d (fun _ _ _=>False) (fun _ _=>False) N M τ) {Q:Exit->Act->World->Prop}
  (f:∀a' w',a'.defers=a.defers->MQ A.n G F0 Li w0 N a' w'->b.wp P Q a' w'):(c.seq b).wp P Q a w :=
 MQ.seq (sc2:=.skip) k e h (fun M τ q=>j M τ q) fun a' w' m l=>f a' w' m l
theorem Step.cut {F F':au}{L L' L2:Loc}{w w':World}(h:Step F L w F' L' w') (a:L'.part L2):Step F L w F' L2 w' :=
 ⟨h.le,h.os,h.tape,h.output,h.size,h.same,h.frz,fun b ⟨k,o,e,hb⟩=>h.own b ⟨k,o,a k o e,hb⟩⟩
theorem GV {L L2:Loc}(h:∀p∈L2,L.get p.1=some p.2):L.part L2:=by
 intro k o e
 induction L2 with
 | nil=>cases e
 | cons p L2 b =>
  obtain⟨j,q⟩:=p;simp only[Loc.get] at e;cases hb:Nat.beq j k with
  | true =>
   rw[hb] at e;injection e with e
   have:=h (j,q) (by simp);rw[<-e,<-aaR hb];exact this
  | false =>
   rw[hb] at e;exact b (fun p a=>h p (by simp[a])) e
theorem Ud (hG:∀k,G k=none) {n:Nat}{m:TM}{K:TK}{a:Act}{w:World}(hk:iR n m) (h:MQ 40 G F0 Li w0 K a w) (hK:∀M τ,K M τ->M=ML n m (List.replicate n (.mk 0 0 []))/\τ 8=.own 8 0/\τ 10=.rw 27) {Q:Exit->Act->World->Prop}
  (hN:∀a' w',a'.defers=a.defers->MQ 40 G F0 Li w0 (fun M τ=>M=[(27,.row 32 3 ((kT n m).map aM))]/\τ=bq (some 10) (.rw 27) fun _=>.any) a' w'->Q .normal a' w'):m7.wp P Q a w:=by
 obtain⟨F,L,ρ,M,τ,g1,g2,g3,g4,g5,bt⟩:=h;obtain⟨rfl,h8,ag⟩:=hK M τ bt;have q8:=g3.tl 8;have o:=g3.tl 19;have s:=g3.tl 27;have q8:xG F L (some (.box 101 [.mpr 19])) (L.get 8):=q8;have o:xG F L (some (.map (i9 aT m))) (L.get 19):=o;have s:xG F L (some (.row 32 3 ((List.replicate n (Ty.mk 0 0 [])).map aM))) (L.get 27):=s;have s8:=g3.env 8;have ba:=g3.env 10;rw[h8] at s8;rw[ag] at ba;cases e8:L.get 8 with
 | none=>rw[e8] at q8;exact q8.elim
 | some o8 =>
 cases ac:L.get 19 with
 | none=>rw[ac] at o;exact o.elim
 | some bs =>
 cases ae:L.get 27 with
 | none=>rw[ae] at s;exact s.elim
 | some cb =>
 rw[e8] at q8;rw[ac] at o;rw[ae] at s;cases o8 with
 | row=>exact q8.elim
 | box g8 t8 c8 =>
 cases bs with
 | row=>exact o.elim
 | box r dl cs =>
 cases cb with
 | box=>exact s.elim
 | row v t27 dr c xs =>
 obtain⟨bz,bd⟩:=q8;obtain⟨rfl,hE⟩:=o;obtain⟨rfl,rfl,aa,⟨cc,av,cv,hv,bj⟩,be⟩:=s;have aa:c=n:=by rw[aa,aaP,aby]
 subst aa;simp only[ax,Rel] at bd;obtain⟨w0,_,rfl,⟨gm,cm,y,rfl⟩,rfl⟩:=bd;rw[ac] at y;injection y with y
 injection y with i1 _ i2
 subst i1 i2;have bv:t8=101:=by
  rcases bz.2.1 with q | q
  ·exact q.symm
  ·have q':(101:Nat)=(g8+1)*1048576+(t8:Nat):=q;omega
 subst bv;have aE:ρ 8=.own 8 0:=s8.1;have al:ρ 10=.v v:=by
  obtain⟨u,q1,q2⟩:=ba;rw[q1];rw[Rel] at q2;obtain⟨_,_,_,_,_,_,_,q3⟩:=q2;rw[ae] at q3;injection q3 with q3
  injection q3 with q3
  rw[q3]
 have ab:L.part [(8,.box g8 101 [.map (some r)]),(19,.box r 0 cs),(27,.row v 32 3 c xs)]:=GV fun p z=>by
  rcases aaW.1 z with rfl | z
  ·exact e8
  rcases aaW.1 z with rfl | z
  ·exact ac
  rcases aaW.1 z with rfl | z
  ·exact ae
  cases z
 have ca:=g1.part ab;have a8:a.tmps.getD 8 undef=.pointer (some ⟨g8,0,none⟩):=by rw[g2.eq 8,aE];simp only[conc,e8]
 have bu:a.tmps.getD 10 undef=v:=by rw[g2.eq 10,al];rfl
 have bb:aA [(8,.box g8 101 [.map (some r)]),(19,.box r 0 cs),(27,.row v 32 3 c xs)] (Fr.put (some 8) (.own 8 0) (Fr.put (some 10) (.v v) fun j=>.v (a.tmps.getD j undef))) a:=by
  refine⟨fun t=>?_,fun t k off e=>?_,fun t ad j e=>?_⟩
  ·by_cases h1:t=8
   ·subst h1;exact a8
   by_cases h2:t=10
   ·subst h2;exact bu
   have b1:Nat.beq t 8=false:=lH h1;have b2:Nat.beq t 10=false:=lH h2;simp only[Fr.put,b1,b2,conc]
  ·by_cases h1:t=8
   ·subst h1;have e:SV.own 8 0=SV.own k off:=e;injection e with e1 e2
    subst e1;exact⟨_,_,_,rfl⟩
   ·have b1:Nat.beq t 8=false:=lH h1;simp only[Fr.put,b1] at e;split at e<;>cases e
  ·by_cases h1:t=8
   ·subst h1;cases e
   ·have b1:Nat.beq t 8=false:=lH h1;simp only[Fr.put,b1] at e;split at e<;>cases e
 refine wp_mono (qh m7 Uc ca bb g4 (R4 F g8 r cs v c m xs _ av cv hv hE hk be (fun h0 e=>by have:=bj e;omega) (fun F' L' ρ'=>∃gi f d,L'=RL g8 r gi cs v c f d/\aN F' 3 ((kT c m).map aM) d/\ρ' 10=.v v) (fun F' gi f d ρ' _ hx ag=>⟨gi,f,d,rfl,hx,ag⟩))) ?_;intro e a' w' hq;cases e with
 | normal =>
  obtain⟨F',L',ρ',k1,k2,k3,k4,k5,k6,gi,f,d,rfl,hx,aw⟩:=hq;have x:(RL g8 r gi cs v c f d).part [(27,.row v 32 3 c d)]:=GV fun p z=>by
   rcases aaW.1 z with rfl | z
   ·rfl
   cases z
  have bi:c=((kT c m).map aM).length:=by simp[kT]
  have bc:a'.tmps.getD 10 undef=v:=by rw[k2.eq 10,aw];rfl
  refine hN a' w' k4 ⟨F',[(27,.row v 32 3 c d)],fun j=>.v (a'.tmps.getD j undef),_,_,k1.part x,⟨fun t=>rfl,(fun t k off e=>by cases e),(fun t ad j e=>by cases e)⟩,⟨fun k=>?_,fun j=>?_,(fun k g t e=>by rw[hG k] at e;cases e),k1.glob⟩,k3,?_,rfl,rfl⟩
  ·by_cases bk:k=27
   ·subst bk;exact⟨rfl,rfl,bi,⟨cc,av,cv,hv,bj⟩,hx⟩
   ·have b:Nat.beq 27 k=false:=lH fun e=>bk e.symm;simp only[TL.get,Loc.get,b];trivial
  ·by_cases hj:j=10
   ·subst hj;show aJ F' _ (.rw 27) (.v (a'.tmps.getD 10 undef));rw[bc,hv];exact lp (by rw[<-hv];rfl)
   ·have b:Nat.beq j 10=false:=lH hj;simp only[bq,b];trivial
  ·exact Step.cut ((Step.cut g5 ab).trans k5) x
 | exit j=>obtain⟨F',L',ρ',_,_,_,_,_,_,h⟩:=hq;exact h.elim
 | ret=>obtain⟨F',L',ρ',_,_,_,_,_,_,h⟩:=hq;exact h.elim
 | goto l=>exact hq.elim
 | panic ch=>obtain⟨v,cz,F',L',_,_,_,_,_,z⟩:=hq;exact z.elim
 | outgrown=>exact hq.elim
end
theorem Ue:low Try.prog I3 (m8.seq .ret)=some (.seq y8 .ret):=by kernel_rfl
theorem mend (n:Nat) (m:TM) (R:List TO->C->Prop) (h:R [] (.tup [.sl ((kT n m).map aM),.bool true])) :
  evalTC P ⟨fun _=>False,[],none⟩ (.seq y8 .ret) (fun _ _ _=>False) (fun L ρ=>gF L ρ [(6,none),(7,none)] fun d=>fZ [] L (gD d) R) (fun _ _=>False) [(27,.row 32 3 ((kT n m).map aM))] (bq (some 10) (.rw 27) fun _=>.any):=by
 have a:fZ [] [(27,.row 32 3 ((kT n m).map aM))] (.tup [.rw 27,.bool true]) (aU [] (.tup [.sl ((kT n m).map aM),.bool true])):=HY [27] [] ⟨_,[],rfl,rfl,rfl,rfl,rfl⟩;obtain⟨j,ko,a⟩:=a.out;refine fZ.mk ⟨j,ko,F9.frzK_imp a ?_⟩;rintro L ρ d ⟨L1,c,p,Mo,h1,l,f,o,k,b⟩;exact⟨L1,c,p,Mo,h1,l,f,o,k,fun e=>by rw[(b e).1,(b e).2];exact h⟩
theorem Uf (p t:Ty) (n:Nat) (hn:n<=4) (m:TM) (hm:jK n p t []=(m,true)):CallsT P 24 [aT p,aT t,IC n] [] (aU [] (.tup [.sl ((kT n m).map aM),.bool true])):=by
 have hk:iR n m:=by
  have:=fit_keys n p t [] ⟨by simp,by simp⟩
  rwa [hm] at this
 refine CallsTX.noPan ⟨fun F Li d hl o ha=>⟨⟨Try.f24,Try.func24,by rw[DX];rfl,by kernel_rfl⟩,gC.aao,fun w hs=>?_⟩⟩;have am:Li=[]:=List.length_eq_zero_iff.1 hl;subst am;have s:Try.f24.ntmps=40:=by kernel_rfl
 have ae:d.length=3:=by have:=ha.len;simpa using this
 obtain⟨G0,r,he,ht,_⟩:=Ly (40-d.toArray.size) hl o ha hs
 let G:Nat->Option (Nat×TypeId):=fun _=>none
 refine calls_of_wp Try.func24 DX ?_;rw[s];have M0:MQ I3.n G F [] w (fun M τ=>M=[]/\τ=jN 0 [aT p,aT t,IC n]) {tmps:=d.toArray++Array.replicate (40-d.toArray.size) undef,defers:=[]} w :=
  ⟨F,inp [],r,_,_,hs,he,⟨ht.tl,ht.env,(fun k g t e=>by cases e),ht.glob⟩,by simp[ae,I3],Step.refl _ _ _,rfl,rfl⟩
 generalize ad:({tmps:=d.toArray++Array.replicate (40-d.toArray.size) undef,defers:=[]}:Act)=a0 at M0;have aa:a0.defers=[]:=by rw[<-ad]
 have f:=WV p t n hn m hm;refine MQ.seq TU rfl M0 (sc2:=.seq y1 (.seq y2 (.seq y3 (.seq y4 (.seq y5 y6))))) (fun M τ q=>by rw[q.1,q.2];exact f) fun a1 w1 u M1=>?_;refine MQ.seq TV rfl M1 (sc2:=.seq y2 (.seq y3 (.seq y4 (.seq y5 y6)))) (fun M τ q=>q) fun a2 w2 ag M2=>?_;refine MQ.seq TW rfl M2 (sc2:=.seq y3 (.seq y4 (.seq y5 y6))) (fun M τ q=>q) fun a3 w3 z M3=>?_;refine MQ.seq TY rfl M3 (sc2:=.seq y4 (.seq y5 y6)) (fun M τ q=>q) fun a4 w4 al M4=>?_;refine MQ.seq T9 rfl M4 (sc2:=.seq y5 y6) (fun M τ q=>q) fun a5 w5 x M5=>?_;refine MQ.seq Ua rfl M5 (sc2:=y6) (fun M τ q=>q) fun a6 w6 y M6=>?_;refine MQ.one Ub rfl M6 (fun M τ q=>q) fun a7 w7 a M7=>?_;have a:a7.defers=[]:=by rw[a,y,x,al,z,ag,u,aa]
 refine wp_seq (Ud (fun _=>rfl) hk M7 (fun M τ q=>q) fun a8 w8 an M8=>?_);obtain⟨F8,L8,bo,M,τ,g1,g2,g3,g4,g5,rfl,rfl⟩:=M8;show(m8.seq .ret).wp P _ a8 w8;refine wp_mono (fp (m8.seq .ret) Ue (fun k _ ac=>vv rfl ac) g1 g2 g3 g4 (mend n m (aU [] (.tup [.sl ((kT n m).map aM),.bool true])) ⟨rfl,rfl⟩)) ?_;intro e a' w' c;cases e with
 | normal=>obtain⟨F',L',ρ',_,_,_,_,_,_,M',b,_,h⟩:=c;exact h.elim
 | exit j=>obtain⟨F',L',ρ',_,_,_,_,_,_,M',b,_,h⟩:=c;exact h.elim
 | ret =>
  obtain⟨F',L',ρ',k1,k2,k3,k4,k5,k6,M',b,k7,k8⟩:=c;have hf:=AH (P:=P) (fn:=Try.f24) (rs:=[(6,none),(7,none)]) (n:=40) (asg:=[]) (a0:=a') (a':=a') (w':=w') (Li:=[]) (Lin:=[]) (w:=w) (F:=F) (G:=G) (R:=aU [] (.tup [.sl ((kT n m).map aM),.bool true])) (by kernel_rfl) rfl o (fun k g t cs e=>by cases e)
   ⟨F',L',ρ',k1,k2,k3,rfl,g5.trans k5,fun _ _=>rfl,M',b,k7,k8⟩
  obtain⟨_,v,q2,F2,Lo,q3,q4,q5⟩:=hf;exact⟨by rw[k4,an,a],v,q2,.inl ⟨v,F2,Lo,rfl,q3,q4,q5⟩⟩
 | goto l=>exact c.elim
 | panic ch=>obtain⟨v,bk,F',L',k1,k2,k3,k4,k5,kp,hp,_⟩:=c;exact hp.elim
 | outgrown=>exact c.elim
theorem CallsT.imp {P:Program}{f:Nat}{args:List C}{Lin:List TO}{R R':List TO->C->Prop}(h:CallsT P f args Lin R) (d:∀Mo c,R Mo c->R' Mo c):CallsT P f args Lin R' :=
 CallsTX.noPan (CallsTX.imp (Pp:=fun _=>False) h.toX d fun v q=>q)
mutual
def cnt:Ty->Nat
 | .mk _ _ l=>yT l+1
def yT:List Ty->Nat
 | []=>0
 | t::l=>cnt t+yT l
end
theorem Fu (t:Ty):cnt t=yT t.args+1:=by cases t;rfl
theorem GW:∀(l:List Ty) (m n:Int),0<=m->n<=mG l m n
 | [],m,n,_=>by rw[mG];exact abm _
 | x::l,m,n,h0=>by
  rw[mG];split
  ·rename_i h;have:=(Fe x (m-n) (by omega)).1;have:=GW l m (n+few x (m-n)) h0;omega
  ·exact abm _
mutual
theorem GX:∀(t:Ty) (m:Int),0<=m->few t m<=m->(cnt t:Int)=few t m
 | .mk _ _ l,m,h0,h=>by
  rw[few] at h ⊢;rw[cnt,<-D3 l m 1 h0 h];omega
theorem D3:∀(l:List Ty) (m n:Int),0<=m->mG l m n<=m->n+(yT l:Int)=mG l m n
 | [],m,n,_,_=>by rw[mG,yT];omega
 | x::l,m,n,h0,h=>by
  rw[mG] at h ⊢;split at h
  ·rename_i hn;rw[o5 hn];have hge:=GW l m (n+few x (m-n)) h0;have h1:=GX x (m-n) (by omega) (by omega);have h2:=D3 l m (n+few x (m-n)) h0 h;rw[yT];omega
  ·omega
end
theorem Ct:∀{l:List Ty}{x:Ty},x∈l->cnt x<=yT l
 | t::l,x,h=>by
  rw[yT];rcases aaW.1 h with rfl | h
  ·omega
  ·have:=Ct h;omega
theorem D4:∀l:List Ty,l.length<=yT l
 | []=>aa3 _
 | t::l=>by have:=D4 l;have:=Fu t;rw[yT,aa7];omega
theorem GY:∀t:Ty,cnt t<=2 ^ 30->jl t:=dL fun t d h=>by
 rw[Fu] at h;rw[fS];exact⟨by have:=D4 t.args;omega,fun x c=>d x c (by have:=Ct c;omega)⟩
theorem O7:∀t:Ty,cK t<=cnt t:=dL fun t d=>by
 rw[Fu,dH];have:cS t.args<=yT t.args:=wE fun x c=>abx (d x c) (Ct c);omega
theorem IK {l:List Ty}(h:jJ l=true):l.length<=8/\∀x∈l,jl x/\cK x<=30:=by
 unfold jJ at h;rw[aaN,aa1,aa2] at h;refine⟨by omega,fun x c=>?_⟩;have h1:=abv (h.1 x c);have d:=GX x 30 (by omega) h1;exact⟨GY x (by omega),by have:=O7 x;omega⟩
theorem Ug (p t:Ty) (n:Nat) (e:n<=4) (m:TM) (d:jK n p t []=(m,false)):CallsT P 24 [aT p,aT t,IC n] [] (aU [] (.tup [.sl [],.bool false])):=by
 have c:=XV n p t [];rw[d] at c;refine af Try.func24 Ge rfl fun f _=>?_;refine ah (fun h=>vv h (by omega)) (fun _=>?_);refine callO [9,8,19] [9,8,19] c rfl rfl rfl rfl rfl fun _ _=>?_;exact aC rfl rfl
def yU (n:Nat) (p t:Ty):List Ty×Bool:=if(jK n p t []).2 then(kT n (jK n p t []).1,true) else([],false)
theorem t24 (p t:Ty) (n:Nat) (c:n<=4):CallsT P 24 [aT p,aT t,IC n] [] (aU [] (.tup [.sl ((yU n p t).1.map aM),.bool (yU n p t).2])):=by
 unfold yU;cases h:jK n p t [] with
 | mk m b =>
  cases b with
  | true=>exact Uf p t n c m h
  | false=>exact Ug p t n c m h
theorem Qq.no {n:Nat}{s:List Ty}{a b:Ty}{e:Int}(h1:∃d o,bF s n=some (some (d,o))) (c:mW s a b=true) (f:lG n s a b=some none) (h:Qq n s a b e):e=8:=by
 obtain⟨d,o,h1⟩:=h1;rcases h with⟨q,_⟩ | ⟨_,⟨q,_⟩ | ⟨_,⟨_,q⟩ | ⟨s',q,_⟩⟩⟩
 ·rw[h1] at q;cases q
 ·rw[c] at q;cases q
 ·exact q
 ·rw[f] at q;cases q
theorem O8:∀(n:Nat) (s:List Ty) (a b:Ty) (s':List Ty),(∀x∈s,jl x)->jl a->jl b->lG n s a b=some (some s')->∀x∈s',jl x:=by
 intro n
 induction n with
 | zero=>intro s a b s' _ _ _ h;cases h
 | succ n ih =>
  intro s a b s' hs ha hb h;have j:∀{t r:Ty},aO s n t=some r->jl t->jl r:=fun hf ht=>rj (p:=jl) (fun t x _ _ he _=>hs x (qu he)) hf ht;have c:∀{i:Nat}{b:Ty},jl b->∀x∈s.set i b,jl x:=fun hb x e=>by
   rcases ab8 e with e | rfl
   ·exact hs x e
   ·exact hb
  cases q:aO s n a with
  | none=>rw[lG,q] at h;cases h
  | some a' =>
  cases w:aO s n b with
  | none=>rw[lG,q,w] at h;cases h
  | some m =>
  rw[mD q w] at h;have k:=j q ha;have d:=j w hb;split at h
  ·split at h
   ·injection h with h;injection h with h;exact h▸hs
   ·injection h with h;injection h with h;rw[<-h]
    exact c ((fS _).2 ⟨abe _,fun x h=>by cases h⟩)
  ·split at h
   ·cases ho:kS s a'.id n m with
    | none=>rw[ho] at h;cases h
    | some o =>
     rw[ho] at h;cases o with
     | true=>cases h
     | false=>injection h with h;injection h with h;rw[<-h];exact c d
   ·split at h
    ·exact ih s m a' s' hs d k h
    ·split at h
     ·cases h
     ·have hL:∀(l f:List Ty) (s:List Ty),(∀x∈l,jl x)->(∀x∈f,jl x)->(∀x∈s,jl x)->j9 (lG n) s l f=some (some s')->∀x∈s',jl x:=by
       intro l
       induction l with
       | nil=>intro f s _ _ hs h;rw[j9] at h;injection h with h;injection h with h;exact h▸hs
       | cons x l v =>
        intro f s h1 h2 hs h;cases f with
        | nil=>cases h
        | cons y f =>
         rw[j9] at h;cases e:lG n s x y with
         | none=>rw[e] at h;cases h
         | some r =>
          rw[e] at h;cases r with
          | none=>cases h
          | some s1=>exact v f s1 (fun z u=>h1 z (by simp[u])) (fun z u=>h2 z (by simp[u])) (ih s x y s1 hs (h1 x (by simp)) (h2 y (by simp)) e) h
      exact hL a'.args m.args s ((fS a').1 k).2 ((fS m).1 d).2 hs h
theorem Fv {s:List Ty}{a b:Ty}(hl:s.length<=2 ^ 30) (hs:∀x∈s,jl x) (ha:jl a) (hb:jl b) (hda:cK a<=2 ^ 40) (hdb:cK b<=2 ^ 40):∃n,CallsT P 23 [.sl (s.map aM),aT a,aT b] [] (RN n s a b)/\(∀s',Ll n s a b s'->Eo s s')/\∃r,bF s n=some r:=by
 obtain⟨n,F,d,c⟩:=Qs s a b;refine⟨n,unify n s a b hl F hda hdb fun s' h=>⟨by rw[(c s' h).len];exact hl,?_,d s' h⟩,c,F.form⟩;exact O8 n s a b s' hs ha hb h.2.2.1
theorem iH {s:List Ty}{n m:Nat}{r q:Option (DM×OM)}(h:bF s n=some r) (k:bF s m=some q):r=q:=by
 have h1:=kg (Nat.le_max_left n m) h;have c:=kg (Nat.le_max_right n m) k;rw[h1] at c;exact abw c
theorem kF {s:List Ty}{a b:Ty}{n m:Nat}{r q:Option (List Ty)}(h:lG n s a b=some r) (k:lG m s a b=some q):r=q:=by
 have h1:=gP (Nat.le_max_left n m) h;have c:=gP (Nat.le_max_right n m) k;rw[h1] at c;exact abw c
theorem t9 {s:List Ty}{t:Ty}{d:DM}{o:OM}{n m:Nat}{r q:Option (Int×DM×OM)}(h:bE s n t d o=some r) (k:bE s m t d o=some q):r=q:=by
 have h1:=gI (Nat.le_max_left n m) h;have c:=gI (Nat.le_max_right n m) k;rw[h1] at c;exact abw c
theorem IL {s:List Ty}{n m:Nat}{r q:List Ty}(h:jM s n=some r) (k:jM s m=some q):r=q:=by
 have h1:=sF (Nat.le_max_left n m) h;have c:=sF (Nat.le_max_right n m) k;rw[h1] at c;exact abw c
section
variable {s:List Ty}{a b:Ty}(hl:s.length<=2 ^ 30) (hs:∀x∈s,jl x) (ha:jl a) (hb:jl b) (hda:cK a<=2 ^ 40) (hdb:cK b<=2 ^ 40)
include hl hs ha hb hda hdb
theorem LA {m:Nat}(h1:∃d o,bF s m=some (some (d,o))) (k:mW s a b=true) (f:lG m s a b=some none):CallsT P 23 [.sl (s.map aM),aT a,aT b] [] (aU [] (.tup [.sl [],IC 8])):=by
 obtain⟨n,h,p,r,l⟩:=Fv hl hs ha hb hda hdb;obtain⟨d,o,h1⟩:=h1;refine CallsT.imp h ?_;rintro Mo c ⟨rfl,r,e,j,rfl⟩;rcases j with⟨s',g,_⟩ | ⟨g,rfl⟩
 ·have:=kF f g.2.2.1;cases this
 ·rcases g with⟨q,_⟩ | ⟨_,⟨q,_⟩ | ⟨_,⟨_,q⟩ | ⟨s',q,_⟩⟩⟩
  ·have:=iH h1 q;cases this
  ·rw[k] at q;cases q
  ·subst q;exact⟨rfl,rfl⟩
  ·have:=kF f q;cases this
theorem D5 {m:Nat}(s' r:List Ty) (d:DM) (o:OM) (k:Int) (h1:∃d o,bF s m=some (some (d,o))) (hp:mW s a b=true) (v:lG m s a b=some (some s')) (y:bF s' m=some (some (d,o))) (u:∃z o',bE s' m a d o=some (some (k,z,o'))) (hk:k<=8) (h5:jM s' m=some r) :
  CallsT P 23 [.sl (s.map aM),aT a,aT b] [] (aU [] (.tup [.sl (r.map aM),IC 0])):=by
 obtain⟨n,h,hx,r',hr⟩:=Fv hl hs ha hb hda hdb;obtain⟨d1,o1,h1⟩:=h1;obtain⟨d2,o2,u⟩:=u;refine CallsT.imp h ?_;rintro Mo c ⟨rfl,ac,e,hu,rfl⟩;rcases hu with⟨w,g,hc,rfl⟩ | ⟨g,rfl⟩
 ·have f:=kF v g.2.2.1;injection f with f
  subst f;rw[IL hc h5];exact⟨rfl,rfl⟩
 ·rcases g with⟨q,_⟩ | ⟨_,⟨q,_⟩ | ⟨_,⟨q,_⟩ | ⟨w,q,_,j⟩⟩⟩
  ·have:=iH h1 q;cases this
  ·rw[hp] at q;cases q
  ·have:=kF v q;cases this
  ·have f:=kF v q;injection f with f
   subst f;rcases j with j | ⟨z,o',j,l⟩
   ·have:=iH y j;cases this
   ·have p:=iH y j;injection p with p
    injection p with p e3
    subst p e3;rcases l with l | ⟨k',ad,ab,l,q4⟩
    ·have:=t9 u l;cases this
    ·have t:=t9 u l;injection t with t
     injection t with t
     omega
end
end Go.Fr.Try
