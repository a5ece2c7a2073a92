/- Part of the proofs of the statements of this seat. -/
import Derived.Test.YthfdbepkalpplaaUnF3G
import Derived.Test.YthfdbepkalpplaaUnV1G
set_option maxRecDepth 10000
set_option linter.unusedVariables false
set_option linter.unusedSimpArgs false
namespace Go.Fr.Try
open Go Go.RowKit Go.Proofs Go.Fr Go.Fr.T Go.Fr.Api
theorem VR (PS:Value->Prop) (M0:TL) (e:Int) (len i:Nat):evalTC P ⟨PS,[],none⟩ (.seq z9 zc) (fun j M τ=>j=2/\¬i<len/\HS M0 e len i M τ) (fun _ _=>False) (fun M τ=>i<len/\HS M0 e len i M τ) M0 (hE e len i):=by
 refine ah (fun h=>?_) (fun h=>?_)
 ·exact⟨by omega,rfl,rfl,rfl,rfl,rfl⟩
 ·exact⟨rfl,by omega,rfl,rfl,rfl,rfl,rfl⟩
theorem VS (PS:Value->Prop) (M0:TL) (e:Int) (len i:Nat) (h:i+1<=9223372036854775807):evalTC P ⟨PS,[],none⟩ z13 (fun _ _ _=>False) (fun _ _=>False) (fun M τ=>HS M0 e len (i+1) M τ) M0 (hE e len i):=by
 refine Fit.aar (by omega) (by omega) ?_;exact⟨rfl,rfl,rfl,rfl,rfl⟩
theorem Zf (s:List Ty) (PS:Value->Prop) (e:Int) (len i:Nat) (d:DM) (o:OM) (b:Option (Int×DM×OM)) (hd:QD s (vr i) d o (MU s b) (PD b)) (f:b=none->PS (cV 1)) :
  evalTC P ⟨PS,[],none⟩ (.seq Xa VJ) (fun _ _ _=>False) (fun _ _=>False) (fun M τ=>∃k a o',b=some (k,a,o')/\HS (VN s a o') e len i M τ/\τ 67=.bool (decide (k>8))) (VN s d o) (hE e len i):=by
 refine Db [1000,1001,10,11] hd rfl rfl rfl rfl rfl (fun v q=>q.2▸f q.1) fun k a o' c _=>?_;exact⟨k,a,o',c,⟨rfl,rfl,rfl,rfl,rfl⟩,rfl⟩
theorem VT (s:List Ty) (d:DM) (o:OM) (R:List TO->C->Prop) (h:R (J0 s d o) (.tup [])):fe (ql s) (VN s d o) (.tup []) R :=
 qa [1000,1001,10,11] rfl rfl rfl rfl h
theorem Zg (s:List Ty) (PS:Value->Prop) (e:Int) (len i:Nat) (d:DM) (o:OM) (b:Option (Int×DM×OM)) (hd:Si s (vr i) d o (NS s b) (PD b)) (f:b=none->PS (cV 1)) :
  evalTC P ⟨PS,[],none⟩ (.seq Xa VJ) (fun _ _ _=>False) (fun _ _=>False) (fun M τ=>∃k a o',b=some (k,a,o')/\HS (VP s a o') e len i M τ/\τ 67=.bool (decide (k>8))) (VP s d o) (hE e len i):=by
 refine Gv [1000,10,11] hd rfl rfl rfl rfl rfl (fun v q=>q.2▸f q.1) fun k a o' c _=>?_;exact⟨k,a,o',c,⟨rfl,rfl,rfl,rfl,rfl⟩,rfl⟩
theorem VU (s:List Ty) (d:DM) (o:OM) (R:List TO->C->Prop) (h:R (J1 s d o) (.tup [])):fe (vF s) (VP s d o) (.tup []) R :=
 qa [1000,10,11] rfl rfl rfl rfl h
theorem Ni {Lin:List TO}{Li:List Own}{F:aA}{args:List C}{f:List Value}{w:World}(m:Nat) (x:Li.length=Lin.length) (q:bV F (inp Li) (cT Lin)) (r:aB F (inp Li) args f) (u:St F (inp Li) w) :
  ∃(G:Nat->Option (Nat×TypeId)) (a:Env),aC (inp Li) a {tmps:=f.toArray++Array.replicate m undef,defers:=[]}/\TS G F (inp Li) a (cT Lin) (ku 0 args)/\(∀k g t cs,(inp Li).get k=some (.box g t cs)->G k=some (g,t)):=by
 have l:=r.len;have key:∀j,∃sv,aN F (inp Li) (ku 0 args j) sv/\conc (inp Li) sv=(f.toArray++Array.replicate m undef).getD j undef/\(∀k off,sv=.own k off->∃g t cs,(inp Li).get k=some (.box g t cs))/\(∀d i,sv=.el d i->d≠none):=by
  intro j;rw[oK];simp only[abr,abB,Nat.sub_zero,abp];cases e:args[j]? with
  | some c =>
   have b:j<f.length:=by rw[l];exact(aa6.1 e).1
   obtain⟨s1,s2,s3,s⟩:=rS (r.at e (aa4 b));refine⟨_,s1,?_,s3,fun d i e=>o5 e (s d i)⟩;rw[s2,Array.getElem?_append_left (by simpa using b)];simp[b]
  | none =>
   have p:f.length<=j:=by rw[l];exact abT.1 e
   refine⟨.v undef,lF,?_,fun _ _ e=>(by cases e),fun _ _ e=>(by cases e)⟩;rw[Array.getElem?_append_right (by simpa using p)];simp only[Array.getElem?_replicate,conc];split<;>rfl
 let a:Env:=fun j=>(key j).choose
 have he:aC (inp Li) a {tmps:=f.toArray++Array.replicate m undef,defers:=[]} :=
  ⟨fun t=>(key t).choose_spec.2.1.symm,fun t k off e=>(key t).choose_spec.2.2.1 k off e,fun t d j e=>(key t).choose_spec.2.2.2 d j e⟩
 let G:Nat->Option (Nat×TypeId):=fun k=>match(inp Li).get k with | some (.box g t _)=>some (g,t) | _=>none
 have o:∀k g t cs,(inp Li).get k=some (.box g t cs)->G k=some (g,t):=fun k g t cs e=>by simp only[G,e]
 have n:Kp G (inp Li):=by
  intro k g t e;simp only[G] at e;split at e
  ·rename_i z y cs h;injection e with e
   injection e with e1 e2
   subst e1 e2;exact⟨cs,h⟩
  ·cases e
 exact⟨G,a,he,⟨q,fun j=>(key j).choose_spec.1,n,u.glob⟩,o⟩
structure FV (s:List Ty) (Lin:List TO) (Mh:DM->OM->TL) (Sd:DM->OM->List TO):Prop where
 len:∀(F:aA) (L:Loc),bV F L (cT Lin)->s.length<=9223372036854775807
 pre:s.length<=9223372036854775807->∀(e:Int) (PS:Value->Prop),(s.all (fA s.length)=false->PS (cV 1)) ->
  evalTC P ⟨PS,[],none⟩ (.seq z0 (.seq z1 z8)) (fun _ _ _=>False) (fun _ _=>False) (fun M τ=>s.all (fA s.length)=true/\HS (Mh [] []) e s.length 0 M τ) (cT Lin) (ku 0 [.own 1000 0,IC e])
 it:∀(n:Nat) (PS:Value->Prop) (e:Int) (i:Nat) (d:DM) (o:OM) (r1:Option (Int×DM×OM)),bL s n (vr i) d o=some r1->(r1=none->PS (cV 1)) ->
  evalTC P ⟨PS,[],none⟩ (.seq Xa VJ) (fun _ _ _=>False) (fun _ _=>False) (fun M τ=>∃k d' o',r1=some (k,d',o')/\HS (Mh d' o') e s.length i M τ/\τ 67=.bool (decide (k>8))) (Mh d o) (hE e s.length i)
 ret:∀(d:DM) (o:OM) (R:List TO->C->Prop),R (Sd d o) (.tup [])->fe Lin (Mh d o) (.tup []) R
theorem Uc {v:Value}{b:List PanicEntry}(h:sQ v b):∀e∈b,e.goexit=false:=by
 obtain⟨a,rfl,h⟩:=h;intro e he;rcases abd.1 he with rfl | he
 ·rfl
 ·exact h e he
theorem GD {s:List Ty}{n:Nat}{r:Option (DM×OM)}(a:bM s n=some r) (b:s.all (fA s.length)=true) :
  ∃y,dV s n s.length=some y/\(y=none->r=none)/\(∀d o,y=some (true,d,o)->r=none)/\∀d o,y=some (false,d,o)->r=some (d,o):=by
 unfold bM at a;rw[eu b] at a;cases hf:dV s n s.length with
 | none=>simp only[hf] at a;cases a
 | some y =>
  refine⟨y,rfl,?_,?_,?_⟩
  ·rintro rfl;simp only[hf] at a;injection a with a;exact a.symm
  ·rintro d o rfl;simp only[hf,abB] at a;injection a with a;exact a.symm
  ·rintro d o rfl;simp only[hf] at a;rw[fo (by decide)] at a;injection a with a;exact a.symm
theorem JK {s:List Ty}{n:Nat}{r:Option (DM×OM)}(a:bM s n=some r) (b:s.all (fA s.length)=false):r=none:=by
 unfold bM at a;rw[fo (by rw[b];exact abt)] at a;injection a with a;exact a.symm
theorem zP {s:List Ty}{Lin:List TO}{Mh:DM->OM->TL}{Sd:DM->OM->List TO}(V:FV s Lin Mh Sd) (e:Int) (n:Nat) (r:Option (DM×OM)) (hr:bM s n=some r) :
  CallsTX P 58 [.own 1000 0,IC e] Lin (fun Mo v=>∃d o,r=some (d,o)/\Mo=Sd d o/\v=.tup []) (PF e r):=by
 refine⟨fun F Li vs hl aE ha=>⟨⟨Try.f58,Try.func58,by rw[ES];rfl,by kernel_rfl⟩,gV.aaC,fun w hs=>?_⟩⟩;have bu:=V.len F _ aE;have cr:Try.f58.ntmps=72:=by kernel_rfl
 have cd:vs.length=2:=by have:=ha.len;simpa using this
 obtain⟨G,cm,he,ht,bo⟩:=Ni (72-vs.toArray.size) hl aE ha hs;refine xC (t:=98) (x:=.agg #[.int .i64 e]) Try.func58 ES ?_;rw[cr];generalize hR:(fun(en:Ending) (w':World)=>(∃v F' Lo,en=.returned v/\St F' (inp Lo) w'/\Step F (inp Li) w F' (inp Lo) w'/\gV Li (fun Mo v=>∃d o,r=some (d,o)/\Mo=Sd d o/\v=.tup []) F' Lo v) \/
  ∃v f F' Lo,en=.panicked f/\sQ v f/\St F' (inp Lo) w'/\Step F (inp Li) w F' (inp Lo) w'/\Lo.length=Li.length/\(∀(i:Nat) g t cs,Li[i]?=some (.box g t cs)->∃cs',Lo[i]?=some (.box g t cs'))/\PF e r v)=RR
 have Rp:∀v f w',sQ v f->PF e r v->(∃F' L',St F' L' w'/\Step F (inp Li) w F' L' w'/\Kp G L')->RR (.panicked f) w':=by
  rintro v f w' l p ⟨F',L',g1,g2,kp⟩;obtain⟨Lo,q1,q2,q3,q4⟩:=tE g1 g2 (fun i g t cs hi=>kp (1000+i) g t (bo _ g t cs (by rw[aJ,eu (by omega),show 1000+i-1000=i by omega];exact hi)));rw[<-hR];exact .inr ⟨v,f,F',Lo,rfl,l,q1,q2,q3,q4,p⟩
 have cy:r=none->PF e r (cV 1):=fun h=>⟨h,1,.inl rfl,rfl⟩;have bs:r=none->PF e r (cV e):=fun h=>⟨h,e,.inr rfl,rfl⟩;have M0:MS G F Li w (fun M τ=>M=cT Lin/\τ=ku 0 [.own 1000 0,IC e]) {tmps:=vs.toArray++Array.replicate (72-vs.toArray.size) undef,defers:=[]} w :=
  ⟨F,inp Li,cm,_,_,hs,he,ht,by simp[cd],Step.refl _ _ _,rfl,rfl⟩
 generalize ci:({tmps:=vs.toArray++Array.replicate (72-vs.toArray.size) undef,defers:=[]}:Act)=a0 at M0;have bt:a0.defers=[]:=by rw[<-ci]
 -- what a panic of a piece means
 have pan:∀(v:Value) (f:List PanicEntry) (a':Act) (w':World),sQ v f->(r=none/\v=cV 1)->(∀dd∈a'.defers,dd=tM (cV e))->(∃F' L',St F' L' w'/\Step F (inp Li) w F' L' w'/\Kp G L')->rX P Try.f58 (cV e) RR (.panic f) a' w':=by
  rintro v f a' w' l ⟨bk,rfl⟩ ab c;exact⟨ab,fun _=>Rp _ _ _ l (cy bk) c,fun _=>⟨Uc l,fun dx cb=>Rp _ _ _ cb (bs bk) c⟩⟩
 have al:∀{a':Act},a'.defers=[]->∀dd∈a'.defers,dd=tM (cV e):=fun h dd hd=>by rw[h] at hd;cases hd
 have bp:=V.pre bu e (fun v=>r=none/\v=cV 1) fun h=>⟨JK hr h,rfl⟩;refine wp_seq (MS.piece Y9 rfl M0 (PS:=⟨fun v=>r=none/\v=cV 1,[],none⟩) (E:=fun _ _ _=>False) (N:=fun M τ=>evalTC P ⟨fun v=>r=none/\v=cV 1,[],none⟩ (.seq z1 z8) (fun _ _ _=>False) (fun _ _=>False) (fun M τ=>s.all (fA s.length)=true/\HS (Mh [] []) e s.length 0 M τ) M τ)
  (fun M τ q=>by rw[q.1,q.2];exact bp) (fun a1 w1 an M1=>?_) (fun j a' w' _ h=>(by obtain⟨_,_,_,_,_,_,_,_,_,_,h⟩:=h;exact h.elim)) (fun v f a' w' l hd p c=>pan v f a' w' l p (al (hd.trans bt)) c))
 have an:=an.trans bt;refine wp_seq (MS.piece Za rfl M1 (PS:=⟨fun v=>r=none/\v=cV 1,[],none⟩) (E:=fun _ _ _=>False) (N:=fun M τ=>evalTC P ⟨fun v=>r=none/\v=cV 1,[],none⟩ z8 (fun _ _ _=>False) (fun _ _=>False) (fun M τ=>s.all (fA s.length)=true/\HS (Mh [] []) e s.length 0 M τ) M τ)
  (fun M τ q=>q) (fun a2 w2 av M2=>?_) (fun j a' w' _ h=>(by obtain⟨_,_,_,_,_,_,_,_,_,_,h⟩:=h;exact h.elim)) (fun v f a' w' l hd p c=>pan v f a' w' l p (al (hd.trans an)) c))
 have av:=av.trans an;refine wp_seq (MS.piece Zb rfl M2 (PS:=⟨fun v=>r=none/\v=cV 1,[],none⟩) (E:=fun _ _ _=>False) (N:=fun M τ=>s.all (fA s.length)=true/\HS (Mh [] []) e s.length 0 M τ)
  (fun M τ q=>q) (fun a3 w3 aw M3=>?_) (fun j a' w' _ h=>(by obtain⟨_,_,_,_,_,_,_,_,_,_,h⟩:=h;exact h.elim)) (fun v f a' w' l hd p c=>pan v f a' w' l p (al (hd.trans av)) c))
 have aw:=aw.trans av;have bi:s.all (fA s.length)=true:=by obtain⟨_,_,_,_,_,_,_,_,_,_,h⟩:=M3;exact h.1
 obtain⟨y,hy,yn,yb,yo⟩:=GD hr bi;have M3:=M3.weak fun M τ q=>q.2;refine wp_block (vG (fun m a1 w1=>∃(i:Nat) (b:Bool) (d:DM) (o:OM),m=s.length-i/\i<=s.length/\dV s n i=some (some (b,d,o))/\MS G F Li w (fun M τ=>M=Mh d o/\τ=hE e s.length i) a1 w1/\(∀dd∈a1.defers,dd=tM (cV e))/\(b=true->a1.defers≠[])/\(b=false->a1.defers=[])) ?_ ?_)
 ·exact⟨_,0,false,[],[],rfl,abr _,rfl,M3,al aw,(fun h=>by cases h),fun _=>aw⟩
 rintro m a4 w4 ⟨i,b,d,o,rfl,hi,hf,M4,aa,ar,ag⟩;have cl:=VR (fun v=>r=none/\v=cV 1) (Mh d o) e s.length i;have done:∀(j:Nat) (a':Act) (w':World),a'.defers=a4.defers->MS G F Li w (fun M τ=>j=2/\¬i<s.length/\HS (Mh d o) e s.length i M τ) a' w'->Exit.inBlock 2 (rX P Try.f58 (cV e) RR) (.exit j) a' w':=by
  rintro j a' w' hd ⟨F',L',ρ',M',cx,g1,g2,g3,g4,g5,rfl,az,hM,_⟩;have cz:i=s.length:=by omega
  rw[cz,hy] at hf;injection hf with hf
  simp only[Exit.inBlock,abB];refine⟨hd▸aa,fun bm=>?_,fun ca f l=>?_⟩
  ·have hb:b=false:=by
    cases b with
    | false=>rfl
    | true=>exact o5 (hd▸bm) (ar rfl)
   subst hb;have cc:=yo d o hf;have hq:=BH (P:=P) (fn:=Try.f58) (rs:=[]) (n:=72) (asg:=[]) (a0:=a') (a':=a') (w':=w') (R:=fun Mo v=>∃d o,r=some (d,o)/\Mo=Sd d o/\v=.tup []) (by kernel_rfl) hl aE bo
    ⟨F',L',ρ',g1,g2,g4,rfl,g5,fun _ _=>rfl,M',cx,g3,by rw[hM];exact V.ret d o _ ⟨d,o,cc,rfl,rfl⟩⟩
   obtain⟨_,v,k2,F2,Lo,k3,k4,k5⟩:=hq;exact⟨v,k2,by rw[<-hR];exact .inl ⟨v,F2,Lo,rfl,k3,k4,k5⟩⟩
  ·have hb:b=true:=by
    cases b with
    | true=>rfl
    | false=>exact o5 (hd.trans (ag rfl)) ca
   subst hb;exact Rp _ _ _ l (bs (yb d o hf)) ⟨F',L',g1,g5,g3.kp⟩
 refine wp_seq (MS.piece Zc rfl M4 (PS:=⟨fun v=>r=none/\v=cV 1,[],none⟩) (E:=fun j M τ=>j=2/\¬i<s.length/\HS (Mh d o) e s.length i M τ) (N:=fun M τ=>evalTC P ⟨fun v=>r=none/\v=cV 1,[],none⟩ zc (fun j M τ=>j=2/\¬i<s.length/\HS (Mh d o) e s.length i M τ) (fun _ _=>False) (fun M τ=>i<s.length/\HS (Mh d o) e s.length i M τ) M τ)
  (fun M τ q=>by rw[q.1,q.2];exact cl) (fun a5 w5 ba M5=>?_) (fun j a' w' hd h=>done j a' w' hd h) (fun v f a' w' l hd p c=>pan v f a' w' l p (hd▸aa) c))
 refine wp_seq (MS.piece Zd rfl M5 (PS:=⟨fun v=>r=none/\v=cV 1,[],none⟩) (E:=fun j M τ=>j=2/\¬i<s.length/\HS (Mh d o) e s.length i M τ) (N:=fun M τ=>i<s.length/\HS (Mh d o) e s.length i M τ)
  (fun M τ q=>q) (fun a6 w6 ao M6=>?_) (fun j a' w' hd h=>?_) (fun v f a' w' l hd p c=>pan v f a' w' l p (hd.trans ba▸aa) c))
 ·-- a variable more
  have ao:=ao.trans ba;have az:i<s.length:=by obtain⟨_,_,_,_,_,_,_,_,_,_,h⟩:=M6;exact h.1
  have M6:=M6.weak fun M τ q=>q.2;obtain⟨y1,bb⟩:=zN hy (i+1) az;obtain⟨r1,da,co,cF⟩:=GA hf bb;have cX:=V.it n (fun v=>r=none/\v=cV 1) e i d o r1 da (fun h=>by
   have h1:=zO (bb.trans (vv some (co h))) (s.length-(i+1));rw[show i+1+(s.length-(i+1))=s.length by omega,hy] at h1;injection h1 with h1
   exact⟨yn h1,rfl⟩)
  refine wp_seq (wp_block (wp_seq (MS.piece VI rfl M6 (PS:=⟨fun v=>r=none/\v=cV 1,[],none⟩) (E:=fun _ _ _=>False) (N:=fun M τ=>evalTC P ⟨fun v=>r=none/\v=cV 1,[],none⟩ VJ (fun _ _ _=>False) (fun _ _=>False) (fun M τ=>∃k u o',r1=some (k,u,o')/\HS (Mh u o') e s.length i M τ/\τ 67=.bool (decide (k>8))) M τ)
   (fun M τ q=>by rw[q.1,q.2];exact cX) (fun a7 w7 am M7=>?_) (fun j a' w' _ h=>(by obtain⟨_,_,_,_,_,_,_,_,_,_,h⟩:=h;exact h.elim)) (fun v f a' w' l hd p c=>pan v f a' w' l p (hd.trans ao▸aa) c))))
  have am:=am.trans ao;refine wp_seq (MS.piece VK rfl M7 (PS:=⟨fun v=>r=none/\v=cV 1,[],none⟩) (E:=fun _ _ _=>False) (N:=fun M τ=>∃k u o',r1=some (k,u,o')/\HS (Mh u o') e s.length i M τ/\τ 67=.bool (decide (k>8)))
   (fun M τ q=>q) (fun a8 w8 ac M8=>?_) (fun j a' w' _ h=>(by obtain⟨_,_,_,_,_,_,_,_,_,_,h⟩:=h;exact h.elim)) (fun v f a' w' l hd p c=>pan v f a' w' l p (hd.trans am▸aa) c))
  have ac:=ac.trans am;have hk:∃k u o',r1=some (k,u,o'):=by
   obtain⟨_,_,_,_,_,_,_,_,_,_,k,u,o',h,_⟩:=M8;exact⟨k,u,o',h⟩
  obtain⟨k,u,o',rfl⟩:=hk;have M8:MS G F Li w (fun M τ=>HS (Mh u o') e s.length i M τ/\τ 67=.bool (decide (k>8))) a8 w8:=M8.mono fun M τ ⟨k1,d1,o1,h,q⟩=>by
   injection h with h
   injection h with h1 h2
   injection h2 with h2 h3
   subst h1 h2 h3;exact q
  have cf:=M8.bool (j:=67) fun M τ q=>q.2;have cw:=M8.int (j:=1) fun M τ q=>q.1.2.2.1;have bj:a8.tmps.size=72:=by obtain⟨_,_,_,_,_,_,_,_,h,_⟩:=M8;exact h
  have M8:=M8.weak fun M τ q=>q.1
  -- the end of a round
  have fin:∀(a9:Act),MS G F Li w (fun M τ=>M=Mh u o'/\τ=hE e s.length i) a9 w8->(∀dd∈a9.defers,dd=tM (cV e))->((b||decide (k>8))=true->a9.defers≠[])->((b||decide (k>8))=false->a9.defers=[]) ->
    k13.wp P (Exit.then (fun a' w'=>∃m,m<s.length-i/\∃(i:Nat) (b:Bool) (d:DM) (o:OM),m=s.length-i/\i<=s.length/\dV s n i=some (some (b,d,o))/\MS G F Li w (fun M τ=>M=Mh d o/\τ=hE e s.length i) a' w'/\(∀dd∈a'.defers,dd=tM (cV e))/\(b=true->a'.defers≠[])/\(b=false->a'.defers=[])) (Exit.inBlock 2 (rX P Try.f58 (cV e) RR))) a9 w8:=by
   intro a9 M9 bl ar ag;have cM:=VS (fun v=>r=none/\v=cV 1) (Mh u o') e s.length i (by omega);refine MS.piece VL rfl M9 (PS:=⟨fun v=>r=none/\v=cV 1,[],none⟩) (E:=fun _ _ _=>False) (N:=fun M τ=>HS (Mh u o') e s.length (i+1) M τ)
    (fun M τ q=>by rw[q.1,q.2];exact cM) (fun eg ee ae M10=>?_) (fun j a' w' _ h=>(by obtain⟨_,_,_,_,_,_,_,_,_,_,h⟩:=h;exact h.elim)) (fun v f a' w' l hd p c=>pan v f a' w' l p (hd▸bl) c)
   refine⟨s.length-(i+1),by omega,i+1,b||decide (k>8),u,o',rfl,az,bb.trans (vv some (cF k u o' rfl)),M10.weak fun M τ q=>q,ae▸bl,ae▸ar,ae▸ag⟩
  refine wp_cond_split (t:=decide (k>8)) cf (fun hk=>?_) (fun hk=>?_)
  ·refine Ze bj cw fun x y z=>?_;refine fin _ (((M8.wr (by omega) (by omega) (by omega) (by omega) (by omega)).wr (by omega) (by omega) (by omega) (by omega) (by omega)).wr (by omega) (by omega) (by omega) (by omega) (by omega)).defers ?_ (fun _ h=>by cases h) (fun h=>by rw[hk,Bool.or_true] at h;cases h);intro dd ab;rcases abd.1 ab with rfl | ab
   ·rfl
   ·rw[ac] at ab;exact aa dd ab
  ·refine wp_skip ?_;refine fin _ M8 (ac▸aa) (fun h=>?_) (fun h=>?_)
   ·rw[ac];exact ar (by rw[hk,Bool.or_false] at h;exact h)
   ·rw[ac];exact ag (by rw[hk,Bool.or_false] at h;exact h)
 ·exact done j a' w' (hd.trans ba) h
theorem Zh {s:List Ty}{F:aA}{L:Loc}(h:bV F L (cT (ql s))):s.length<=9223372036854775807:=by
 have q:=h 1001;have q:yL F L (some (.row 32 3 (s.map aD))) (L.get 1001):=q;cases e:L.get 1001 with
 | none=>rw[e] at q;exact q.elim
 | some o =>
  rw[e] at q;cases o with
  | box=>exact q.elim
  | row v t sz n xs =>
   obtain⟨_,_,b,⟨a,_⟩,_⟩:=q;rw[vz] at b;simp only[maxLen] at a;omega
theorem Zi {s:List Ty}{F:aA}{L:Loc}(h:bV F L (cT (vF s))):s.length<=9223372036854775807:=by
 have q:=h 1000;have q:yL F L (some (.box 93 [.sl (s.map aD),.any,.any])) (L.get 1000):=q;cases e:L.get 1000 with
 | none=>rw[e] at q;exact q.elim
 | some o =>
  rw[e] at q;cases o with
  | row=>exact q.elim
  | box g t cs =>
   have q:=q.2;simp only[aB,Rel] at q;obtain⟨v,_,_,⟨a,c,_,_,b,_⟩,_⟩:=q;rw[vz] at b;simp only[maxLen] at b;omega
theorem fvU (s:List Ty):FV s (ql s) (VN s) (J0 s) :=
 ⟨fun F L h=>Zh h,fun a e PS h=>VO s e PS h a,fun n PS e i d o b h c=>Zf s PS e s.length i d o b (H6 s n (vr i) d o b h) c,fun d o R h=>VT s d o R h⟩
theorem fvF (s:List Ty):FV s (vF s) (VP s) (J1 s) :=
 ⟨fun F L h=>Zi h,fun a e PS h=>VQ s e PS h a,fun n PS e i d o b h c=>Zg s PS e s.length i d o b (MX s n (vr i) d o b h) c,fun d o R h=>VU s d o R h⟩
theorem Zj (s:List Ty) (e:Int) {n:Nat}{r:Option (DM×OM)}(a:bM s n=some r):EM s e r:=zP (fvU s) e n r a
theorem Zk (s:List Ty) (e:Int) {n:Nat}{r:Option (DM×OM)}(a:bM s n=some r):ve s e r:=zP (fvF s) e n r a
theorem unify (n:Nat) (s:List Ty) (a b:Ty) (f:s.length<=2 ^ 30) (F:Fuel n s a b) (c:cg a<=2 ^ 40) (d:cg b<=2 ^ 40)
  (j:∀s',MY n s a b s'->s'.length<=2 ^ 30/\(∀x∈s',gN x)/\∃r,kh s' n=some r):CallsT P 23 [.sl (s.map aD),aK a,aK b] [] (RN n s a b) :=
 t23 n s a b f F (fun s e r h=>Zj s e h) c d j
theorem apply (s:List Ty) (n:Nat) (t r:Ty) (d:DM) (o:OM) (h:bM s n=some (some (d,o))) (a:∀x∈s,gN x) (hb:gN t) (b:TY s n t=some r):CallsT P 22 [.sl (s.map aD),aK t] [] (aQ [] (aK r)) :=
 t22 s n t r d o (Zk s 1 h) a hb b
mutual
def gs (u:List Ty):Ty->Ty
 | .mk k i l=>if k=9 then(u[i.toNat]?).getD (.mk 0 0 []) else .mk k i (Xb u l)
def Xb (u:List Ty):List Ty->List Ty
 | []=>[]
 | t::l=>gs u t::Xb u l
end
theorem Ie (u:List Ty):∀l:List Ty,Xb u l=l.map (gs u)
 | []=>rfl
 | t::l=>by rw[Xb,Ie u l];rfl
theorem Sq (u:List Ty) (t:Ty):gs u t=if t.kind=9 then(u[t.id.toNat]?).getD (.mk 0 0 []) else .mk t.kind t.id (t.args.map (gs u)):=by
 cases t;rw[gs,Ie];rfl
theorem kS {u:List Ty}{t:Ty}(h:t.kind=9):gs u t=(u[t.id.toNat]?).getD (.mk 0 0 []):=by rw[Sq,eu h]
theorem iR {u:List Ty}{t:Ty}(h:¬t.kind=9):gs u t=.mk t.kind t.id (t.args.map (gs u)):=by rw[Sq,fo h]
theorem mA {u:List Ty}{t r:Ty}(h:t.kind=9) (k:r.kind=9) (e:t.id=r.id):gs u t=gs u r:=by rw[kS h,kS k,e]
structure Sat (u s:List Ty):Prop where
 len:u.length=s.length
 eq:∀(i:Nat) (x:Ty),s[i]?=some x->¬x.kind=0->u[i]?=some (gs u x)
theorem Sat.elem {u s:List Ty}(h:Sat u s) {t x:Ty}(b:t.kind=9) (he:bS s t=some x) (a:¬x.kind=0):gs u x=gs u t:=by
 obtain⟨_,e,_⟩:=bD he;rw[kS b,h.eq _ x e a];rfl
theorem Sat.front {u s:List Ty}(h:Sat u s):∀{n:Nat}{t r:Ty},aP s n t=some r->gs u r=gs u t
 | 0,t,r,q=>by cases q
 | n+1,t,r,q=>by
  rw[aP] at q
  by_cases b:t.kind=9
  ·rw[eu b] at q;cases he:bS s t with
   | none=>rw[he] at q;cases q
   | some x =>
    rw[he] at q;simp only at q
    by_cases a:x.kind=0
    ·rw[eu a] at q;injection q with q;rw[q]
    ·rw[fo a] at q;rw[h.front q,h.elem b he a]
  ·rw[fo b] at q;injection q with q;rw[q]
theorem VW {u:List Ty}{t y:Ty}(b:¬t.kind=9) (a:y∈t.args):SizeOf.sizeOf (gs u y)<SizeOf.sizeOf (gs u t):=by
 rw[iR b];exact HV (x:=gs u y) (t:=.mk t.kind t.id (t.args.map (gs u))) (abx.2 ⟨y,a,rfl⟩)
theorem Sat.occ {u s:List Ty}(h:Sat u s) {v:Int}:∀{n:Nat}{t:Ty},jT s v n t=some true->SizeOf.sizeOf (gs u (.mk 9 v []))<=SizeOf.sizeOf (gs u t)/\(¬t.kind=9->SizeOf.sizeOf (gs u (.mk 9 v []))<SizeOf.sizeOf (gs u t))
 | 0,t,q=>by cases q
 | n+1,t,q=>by
  rw[jT] at q;cases hf:aP s n t with
  | none=>rw[hf] at q;cases q
  | some r =>
   rw[hf] at q;have e:=h.front hf;simp only at q
   by_cases a:r.kind=9
   ·rw[eu a] at q;injection q with q
    have q:=abJ q;refine⟨?_,fun f=>?_⟩
    ·rw[<-e,mA (u:=u) a (r:=.mk 9 v []) rfl q];exact abh _
    ·cases n with
     | zero=>cases hf
     | succ n=>rw[BV f n] at hf;injection hf with hf;exact o5 (hf▸a) f
   ·rw[fo a] at q;obtain⟨h1,h2⟩:=oQ q;obtain⟨y,d,c⟩:=ab0.1 h2;have b:jT s v n y=some true:=by rw[h1 y d,c]
    have:=(h.occ b).1;have j:=VW (u:=u) a d;rw[e] at j;exact⟨by omega,fun _=>by omega⟩
theorem Sat.set {u s:List Ty}(h:Sat u s) {v:Int}{b:Ty}(h0:0<=v) (hb:gs u (.mk 9 v [])=gs u b):Sat u (s.set v.toNat b):=by
 refine⟨by rw[abU];exact h.len,fun i x a d=>?_⟩
 by_cases e:v.toNat=i
 ·have c:i<s.length:=by have:=(aa6.1 a).1;rwa [abU] at this
  rw[e,ace c] at a;injection a with a
  subst a;rw[<-hb,kS rfl];show _=some ((u[v.toNat]?).getD _);rw[e,aa4 (by rw[h.len];exact c)];rfl
 ·rw[ab8 e] at a;exact h.eq i x a d
theorem Ig {u:List Ty}{f:List Ty->Ty->Ty->Option (Option (List Ty))}(hf:∀s x y r,Sat u s->gs u x=gs u y->f s x y=some r->∃s',r=some s'/\Sat u s'):∀{l a s:List Ty}{r:Option (List Ty)},Sat u s->l.map (gs u)=a.map (gs u)->jU f s l a=some r->∃s',r=some s'/\Sat u s'
 | [],a,s,r,h,_,q=>by rw[jU] at q;injection q with q;exact⟨s,q.symm,h⟩
 | x::l,[],s,r,h,e,q=>by simp at e
 | x::l,y::a,s,r,h,e,q=>by
  rw[abe,abe,List.cons.injEq] at e;rw[jU] at q;cases b:f s x y with
  | none=>rw[b] at q;cases q
  | some c =>
   rw[b] at q;obtain⟨s1,rfl,h1⟩:=hf s x y c h e.1 b;exact Ig hf h1 e.2 q
theorem Sat.eqs {u:List Ty}:∀{n:Nat}{s:List Ty}{a b:Ty}{r:Option (List Ty)},Sat u s->gs u a=gs u b->ld n s a b=some r->∃s',r=some s'/\Sat u s'
 | 0,s,a,b,r,h,_,q=>by cases q
 | n+1,s,a,b,r,h,v,q=>by
  cases fa:aP s n a with
  | none=>rw[ld,fa] at q;cases q
  | some a' =>
  cases fb:aP s n b with
  | none=>rw[ld,fa,fb] at q;cases q
  | some f =>
  rw[lO fa fb] at q;have c:gs u a'=gs u f:=by rw[h.front fa,h.front fb,v]
  by_cases j:a'.kind=9
  ·obtain⟨xa,l,ad⟩:=gj fa j;have m:=(bD l).1;have k:gs u (.mk 9 a'.id [])=gs u a':=mA rfl j rfl
   by_cases d:f.kind=9
   ·obtain⟨xb,w,ac⟩:=gj fb d;have ab:=(bD w).1;have e2:gs u (.mk 9 f.id [])=gs u f:=mA rfl d rfl;rw[eu ⟨j,d⟩] at q
    by_cases hi:a'.id=f.id
    ·rw[eu hi] at q;injection q with q;exact⟨s,q.symm,h⟩
    ·rw[fo hi] at q;injection q with q
     refine⟨_,q.symm,h.set (by omega) ?_⟩;rcases Int.le_total a'.id f.id with e | e
     ·rw[Int.max_eq_right e,Int.min_eq_left e,k,e2,c]
     ·rw[Int.max_eq_left e,Int.min_eq_right e,k,e2,c]
   ·rw[fo (fun p=>d p.2),eu j] at q;cases z:jT s a'.id n f with
    | none=>rw[z] at q;cases q
    | some o =>
     rw[z] at q;cases o with
     | true =>
      have:=(h.occ z).2 d;rw[k,c] at this;exact o5 this (Nat.lt_irrefl _)
     | false =>
      injection q with q
      exact⟨_,q.symm,h.set m (k.trans c)⟩
  ·rw[fo (fun p=>j p.1),fo j] at q
   by_cases d:f.kind=9
   ·rw[eu d] at q;exact Sat.eqs h c.symm q
   ·rw[fo d] at q;rw[iR j,iR d] at c;injection c with g1 g2 g3
    have g4:a'.args.length=f.args.length:=by have:=vv List.length g3;simpa using this
    rw[fo (by omega)] at q;exact Ig (fun s x y r hs t hq=>Sat.eqs hs t hq) h g3 q
theorem Sat.ap {u s:List Ty}(h:Sat u s):∀{n:Nat}{t r:Ty},nC s n t=some r->gs u r=gs u t
 | 0,t,r,q=>by cases q
 | n+1,t,r,q=>by
  rw[nC] at q;cases he:(if t.kind=9 then bS s t else some (.mk 0 0 [])) with
  | none=>simp only[he] at q;cases q
  | some x =>
   simp only[he] at q
   by_cases b:x.kind=0
   ·rw[fo (fun p=>p b)] at q;cases c:kx (nC s n) t.args with
    | none=>simp only[c] at q;cases q
    | some l =>
     simp only[c] at q;injection q with q
     obtain⟨h1,h2⟩:=gM c;subst q
     by_cases a:t.kind=9
     ·exact mA (by exact a) a rfl
     ·rw[iR a,iR (t:=.mk t.kind t.id l) a];show Ty.mk t.kind t.id (l.map (gs u))=_;rw[h2,ab4];exact vv _ (ab7 fun y d=>h.ap (h1 y d))
   ·rw[eu b] at q;have a:t.kind=9:=by
     by_cases a:t.kind=9
     ·exact a
     ·rw[fo a] at he;injection he with he
      exact o5 (by rw[<-he];rfl) b
    rw[eu a] at he;rw[h.ap q,h.elem a he b]
inductive VX (s:List Ty):Ty->Prop
 | var {t x:Ty}(h9:t.kind=9) (he:bS s t=some x) (hk:x.kind=0):VX s t
 | arg {t:Ty}(h9:¬t.kind=9) (h:∀y∈t.args,VX s y):VX s t
theorem GF {s:List Ty}(h:Av s):∀{n:Nat}{t r:Ty},nC s n t=some r->ins s.length t=true->VX s r/\ins s.length r=true
 | 0,t,r,q,_=>by cases q
 | n+1,t,r,q,d=>by
  rw[nC] at q;cases he:(if t.kind=9 then bS s t else some (.mk 0 0 [])) with
  | none=>simp only[he] at q;cases q
  | some x =>
   simp only[he] at q
   by_cases b:x.kind=0
   ·rw[fo (fun p=>p b)] at q;cases f:kx (nC s n) t.args with
    | none=>simp only[f] at q;cases q
    | some l =>
     simp only[f] at q;injection q with q
     obtain⟨h1,h2⟩:=gM f;subst q
     by_cases a:t.kind=9
     ·rw[eu a] at he;refine⟨.var (t:=.mk t.kind t.id l) a ((Dg rfl).trans he) b,?_⟩;have e:l=[]:=by rw[h2,(fM d a).2.2];rfl
      have k:(Ty.mk t.kind t.id l)=t:=uW rfl rfl (by rw[(fM d a).2.2];exact e);rw[k];exact d
     ·have key:∀y∈l,VX s y/\ins s.length y=true:=by
       rw[h2];intro y c;obtain⟨z,j,rfl⟩:=abx.1 c;exact GF h (h1 z j) (cR d z j)
      refine⟨.arg (t:=.mk t.kind t.id l) a fun y c=>(key y c).1,?_⟩;have b:=nj d;rw[qX];show(if t.kind<1\/9<t.kind then false else if t.kind=9 then _ else l.all (ins s.length))=true;rw[fo (by omega),fo a,abg];exact fun y c=>(key y c).2
   ·rw[eu b] at q;have a:t.kind=9:=by
     by_cases a:t.kind=9
     ·exact a
     ·rw[fo a] at he;injection he with he
      exact o5 (by rw[<-he];rfl) b
    rw[eu a] at he;exact GF h q (h.elem he b)
structure LOk (u s:List Ty) (m:DM):Prop where
 ok:∀j k,bw m j=some k->0<=k/\k<s.length/\gs u (.mk 9 k [])=gs u (.mk 9 j [])
theorem vg {ds:List Api.Data}{pa:Int}{t:Ty}(h:wT ds pa t=true) (h5:t.kind=5):0<=t.id/\t.id<pa/\t.args=[]:=by
 rw[m9,eu h5] at h;simp only[xo,abf] at h;exact⟨h.1.1,h.1.2,abO h.2⟩
theorem vh {ds:List Api.Data}{pa:Int}{t:Ty}(h:wT ds pa t=true) (h5:¬t.kind=5):∃n,DA ds t.kind t.id=some n/\¬((t.kind≠2/\t.id≠0)\/(t.args.length:Int)≠n)/\∀x∈t.args,(je x=true\/(t.kind=7/\x.kind=6))/\wT ds pa x=true:=by
 rw[m9,fo h5] at h;cases a:DA ds t.kind t.id with
 | none=>simp only[a] at h;cases h
 | some n =>
  simp only[a] at h;split at h
  ·cases h
  ·rename_i d;refine⟨n,rfl,d,fun x c=>?_⟩;rw[Bool.not_eq_true'] at h;have hb:=(acf.1 h) x c;simp only[Gr,abH,xo,Bool.not_eq_true',Bool.not_eq_false',Bool.and_eq_false_iff,abf,acg,not_or,not_and,acj] at hb;refine⟨?_,?_⟩
   ·cases b:je x with
    | true=>exact .inl rfl
    | false =>
     refine .inr ?_;have h1:=hb.1 b;simpa using h1
   ·cases hf:wT ds pa x with
    | true=>rfl
    | false=>exact o5 hf (by simpa using hb.2)
theorem EU (ds:List Api.Data) (one two:List Ty):∀t:Ty,wT ds one.length t=true->subst two (subst one t)=subst (one.map (subst two)) t:=cL fun t b h=>by
 rw[subst_eq one t,subst_eq (one.map (subst two)) t]
 by_cases h5:t.kind=5
 ·obtain⟨h1,h2,h3⟩:=vg h h5;rw[eu ⟨h5,h1,h2⟩,eu ⟨h5,h1,by rw[vz];exact h2⟩];obtain⟨x,a⟩:=fK (l:=one) (k:=t.id.toNat) (by omega);rw[a,abk,a];rfl
 ·rw[fo fun q=>h5 q.1,fo fun q=>h5 q.1];obtain⟨n,_,_,c⟩:=vh h h5;rw[subst_eq];rw[fo fun q=>h5 q.1];refine uW rfl rfl ?_;show(t.args.map (subst one)).map (subst two)=t.args.map _;rw[ab4];exact ab7 fun x a=>b x a (c x a).2
def jl (n:Int) (m:TM):Prop:=(∀p∈m,0<=p.1/\p.1<n)/\(m.map (·.1)).Nodup
theorem EV {a:Type}{m:List (Int×a)}{i:Int}{x:a}(h:bw m i=some x):(i,x)∈m:=by
 induction m with
 | nil=>cases h
 | cons p m b =>
  obtain⟨k,v⟩:=p;simp only[bw] at h
  by_cases e:i=k
  ·rw[eu e] at h;injection h with h;subst e h;simp
  ·rw[fo e] at h;exact abz _ (b h)
theorem JL {a:Type}(m:List (Int×a)) (i:Int) (x:a) (h:bw m i=none):eX m i x=m++[(i,x)]:=by
 induction m with
 | nil=>rfl
 | cons p m b =>
  obtain⟨k,v⟩:=p;simp only[bw] at h
  by_cases e:i=k
  ·rw[eu e] at h;cases h
  ·rw[fo e] at h;simp only[eX,fo e,b h,abj]
theorem JM {b:Type}{m:List (Int×b)}{i:Int}(h:bw m i=none):i∉m.map (·.1):=by
 induction m with
 | nil=>simp
 | cons p m a =>
  obtain⟨k,v⟩:=p;simp only[bw] at h
  by_cases e:i=k
  ·rw[eu e] at h;cases h
  ·rw[fo e] at h;simp only[abe,abd,not_or];exact⟨e,a h⟩
theorem QO {b:Type}{m:List (Int×b)}{i:Int}{x:b}(a:(m.map (·.1)).Nodup) (h:(i,x)∈m):bw m i=some x:=by
 induction m with
 | nil=>cases h
 | cons p m c =>
  obtain⟨k,v⟩:=p;simp only[abe,List.nodup_cons] at a;simp only[bw];rcases abd.1 h with e | h
  ·injection e with e1 e2;rw[eu e1,e2]
  ·have:i≠k:=fun e=>a.1 (by rw[<-e];exact abx.2 ⟨_,h,rfl⟩);rw[fo this];exact c a.2 h
theorem jl.set {n:Int}{m:TM}{i:Int}{x:Ty}(h:jl n m) (h0:0<=i) (h1:i<n) (d:bw m i=none):jl n (eX m i x):=by
 rw[JL m i x d];refine⟨fun p c=>?_,?_⟩
 ·rcases aa9.1 c with c | c
  ·exact h.1 p c
  ·rw[abR.1 c];exact⟨h0,h1⟩
 ·rw[abC];exact List.nodup_append.2 ⟨h.2,by simp,fun a f b hb=>by
   rw[abR.1 (by simpa using hb:b∈[i])];exact fun e=>JM d (e▸f)⟩
theorem fit_keys (n:Int):∀(p t:Ty) (m:TM),jl n m->jl n (j9 n p t m).1:=fun p=>cL (p:=fun p=>∀(t:Ty) (m:TM),jl n m->jl n (j9 n p t m).1) (fun p k t m h=>by
 have d:∀(l:List Ty),(∀x∈l,∀(t:Ty) (m:TM),jl n m->jl n (j9 n x t m).1)->∀(a:List Ty) (m:TM),jl n m->jl n (nG n l a m).1:=by
  intro l
  induction l with
  | nil=>intro _ a m h;rw[nG];exact h
  | cons x l c =>
   intro e a m h;rw[nG.eq_def];cases a with
   | nil=>exact h
   | cons y a =>
    have h1:=e x (by simp) y m h;simp only;cases hf:j9 n x y m with
    | mk j b =>
     rw[hf] at h1;cases b
     ·exact h1
     ·exact c (fun z d=>e z (by simp[d])) a j h1
 rw[u4,Jy];split
 ·split
  ·exact h
  ·rename_i o;split
   ·exact h
   ·rename_i f;exact h.set (by omega) (by omega) f
 ·split
  ·split
   ·exact d p.args k t.args m h
   ·exact h
  ·exact h) p
noncomputable def vk:Code:=Try.f24.body.getD .skip
noncomputable def m0:Code:=xD vk
noncomputable def m1:Code:=xD (gk vk)
noncomputable def m2:Code:=xD (gk (gk vk))
noncomputable def m3:Code:=xD (gk (gk (gk vk)))
noncomputable def m4:Code:=xD (gk (gk (gk (gk vk))))
noncomputable def m5:Code:=xD (gk (gk (gk (gk (gk vk)))))
noncomputable def m6:Code:=xD (gk (gk (gk (gk (gk (gk vk))))))
noncomputable def m7:Code:=xD (gk (gk (gk (gk (gk (gk (gk vk)))))))
noncomputable def m8:Code:=xD (gk (gk (gk (gk (gk (gk (gk (gk vk))))))))
theorem EW:Try.f24.body=some (m0.seq (m1.seq (m2.seq (m3.seq (m4.seq (m5.seq (m6.seq (m7.seq (m8.seq .ret))))))))):=by kernel_rfl
def y0:ax:=(.reg [.op (some 3) (.boxF 32 (.t 0)) none,
  .op (some 4) (.boxF 32 (.t 1)) none,
  .op (some 5) (.boxF 3 (.t 2)) none,
  .op (some 6) (.mov (.c (.slice none 0 0))) none,
  .op (some 7) (.mov (.c (.bool false))) none])
theorem VY:low Try.prog JZ m0=some y0:=by kernel_rfl
def y1:ax:=(.seq (.reg [.op (some 13) (.load false 1 (.t 5)) none,
  .op (some 14) (.bin .lss (.t 13) (.c (.int .i64 0))) none,
  .op (some 15) (.mov (.t 14)) none,
  .op (some 16) (.load false 1 (.t 5)) (some (15,false)),
  .op (some 17) (.bin .gtr (.t 16) (.c (.int .i64 4))) (some (15,false)),
  .op (some 18) (.pick (.t 15) (.c (.bool true)) (.t 17)) none])
 (.cond (.t 18)
 (.seq (.reg [.op (some 6) (.mov (.c (.slice none 0 0))) none,
   .op (some 7) (.mov (.c (.bool false))) none])
  .ret)
 .skip))
theorem VZ:low Try.prog JZ m1=some y1:=by kernel_rfl
def y2:ax:=(.reg [.op (some 19) (.mkmap) none,
  .op (some 8) (.alloc 101 [(.map none)]) none,
  .op none (.store 1 (.t 8) (.t 19)) none])
theorem V0:low Try.prog JZ m2=some y2:=by kernel_rfl
def y3:ax:=(.reg [.op (some 9) (.alloc 37 [.nilFunc]) none])
theorem V1:low Try.prog JZ m3=some y3:=by kernel_rfl
def y4:ax:=(.reg [.op (some 20) (.mkfn 66 [] [(.t 9),(.t 5),(.t 8)]) none,
  .op none (.store 1 (.t 9) (.t 20)) none])
theorem V2:low Try.prog JZ m4=some y4:=by kernel_rfl
def y5:ax:=(.seq (.reg [.op (some 21) (.load false 1 (.t 9)) none,
  .op (some 22) (.load true 3 (.t 3)) none,
  .op (some 23) (.load true 3 (.t 4)) none,
  .op (some 24) (.callV (.t 21) [(.t 22),(.t 23)]) none,
  .op (some 25) (.un .not (.t 24)) none])
 (.cond (.t 25)
 (.seq (.reg [.op (some 6) (.mov (.c (.slice none 0 0))) none,
   .op (some 7) (.mov (.c (.bool false))) none])
  .ret)
 .skip))
theorem V3:low Try.prog JZ m5=some y5:=by kernel_rfl
def y6:ax:=(.reg [.op (some 26) (.load false 1 (.t 5)) none,
  .op (some 27) (.makeS 32 3 40 [(.int .i64 0),(.int .i64 0),(.slice none 0 0)] (.t 26) (.t 26)) none,
  .op (some 10) (.mov (.t 27)) none])
theorem V4:low Try.prog JZ m6=some y6:=by kernel_rfl
def y7:ax:=(.seq (.reg [.op (some 28) (.load false 1 (.t 8)) none,
  .op (some 29) (.mrange (.t 28)) none])
 (.block 0
 (.loop [30,31,32,33,34,12,11,35,36,37,38]
  (.seq (.reg [.op (some 30) (.mnext (.t 29)) none,
    .op (some 31) (.extr (.t 30) 0) none])
   (.seq (.cond (.t 31)
   .skip
   (.exit 0))
   (.block 1
   (.seq (.reg [.op (some 32) (.mentry (.t 29)) none,
     .op (some 33) (.extr (.t 32) 0) none,
     .op (some 34) (.extr (.t 32) 1) none,
     .op (some 12) (.alloc 32 [(.int .i64 0),(.int .i64 0),(.slice none 0 0)]) none,
     .op (some 11) (.mov (.t 33)) none,
     .op none (.store 3 (.t 12) (.t 34)) none])
    (.reg [.op (some 35) (.mov (.t 10)) none,
     .op (some 36) (.mov (.t 11)) none,
     .op (some 37) (.load true 3 (.t 12)) none,
     .op (some 38) (.idxA 3 (.t 35) (.t 36)) none,
     .op none (.store 3 (.t 38) (.t 37)) none]))))))))
theorem V5:low Try.prog JZ m7=some y7:=by kernel_rfl
def y8:ax:=(.reg [.op (some 39) (.mov (.t 10)) none,
  .op (some 6) (.mov (.t 39)) none,
  .op (some 7) (.mov (.c (.bool true))) none])
abbrev ML (n:Nat) (m:TM) (out:List Ty):TL:=[(8,.box 101 [.mpr 19]),(9,.box 37 [.fn 66 [] [.own 9 0,.pt [IC n] 0,.own 8 0]]),(19,.map (jt aK m)),(27,.row 32 3 (out.map aD))]
theorem Zl (p t:Ty) (n:Nat) (d:n<=4) (m:TM) (b:j9 n p t []=(m,true)):evalTC P ⟨fun _=>False,[],none⟩ (.seq y0 (.seq y1 (.seq y2 (.seq y3 (.seq y4 (.seq y5 y6)))))) (fun _ _ _=>False) (fun _ _=>False)
  (fun M τ=>M=ML n m (List.replicate n (.mk 0 0 []))/\τ 8=.own 8 0/\τ 10=.rw 27) [] (ku 0 [aK p,aK t,IC n]):=by
 have a:=t66 n p t [];rw[b] at a;have c:List.replicate n ([C.int .i64 0,C.int .i64 0,C.sl []]:List C)=(List.replicate n (Ty.mk 0 0 [])).map aD:=by rw[ab9];rfl
 refine ah (fun h=>o5 h (by omega)) (fun _=>?_);refine callO [9,8,19] [9,8,19] a rfl rfl rfl rfl rfl fun _ _=>?_;refine pq.mk (by omega) (abn _) (by omega) (by simp only[maxLen];omega) ?_;exact⟨vv (fun q=>[(8,TO.box 101 [.mpr 19]),(9,.box 37 [.fn 66 [] [.own 9 0,.pt [IC n] 0,.own 8 0]]),(19,.map (jt aK m)),(27,.row 32 3 q)]) c,rfl,rfl⟩
def Ud:Ty:=.mk 0 0 []
def lH (n:Nat) (m:TM):List Ty:=(List.range n).map fun(i:Nat)=>(bw m (i:Int)).getD Ud
theorem Ih {F:aA}:∀{m:TM}{cs:List Value}{j:Nat}{e:Value},gh F (jt aK m) cs->cs[j]?=some e->∃k t v,m[j]?=some (k,t)/\e=.agg #[.int .i64 k,v]/\Rel F [] (aK t) v/\(Lit.int .i64 k).wf=true
 | [],cs,j,e,h,a=>by
  simp only[jt,abX,gh] at h;subst h;simp at a
 | (k,t)::m,cs,j,e,h,a=>by
  simp only[jt,abe,gh] at h;obtain⟨kv,v,c,rfl,h1,h2,h3⟩:=h;rw[Rel] at h1;obtain⟨rfl,b⟩:=h1;cases j with
  | zero =>
   rw[abm] at a;injection a with a
   exact⟨k,t,v,rfl,a.symm,h2,b⟩
  | succ j =>
   rw[abv] at a;exact Ih (m:=m) h3 a
theorem EX {F:aA}:∀{m:TM}{cs:List Value},gh F (jt aK m) cs->cs.length=m.length
 | [],cs,h=>by simp only[jt,abX,gh] at h;subst h;rfl
 | (k,t)::m,cs,h=>by
  simp only[jt,abe,gh] at h;obtain⟨kv,v,a,rfl,h1,h2,h3⟩:=h;rw[abo,abo,EX (m:=m) h3]
theorem zQ {F:aA}{m:TM}{cs:List Value}(h:gh F (jt aK m) cs):lS cs=true:=by
 cases m with
 | nil=>simp only[jt,abX,gh] at h;subst h;rfl
 | cons p m =>
  simp only[jt,abe,gh] at h;obtain⟨kv,v,a,rfl,_⟩:=h;rfl
abbrev RL (c a d:Nat) (cs:List Value) (v:Value) (n:Nat) (b:List Nat) (xs:List Value):Loc :=
 [(8,.box c 101 [.map (some a)]),(19,.box a 0 cs),(27,.row v 32 3 n xs),(29,.box d 0 (.tuple #[.map (some a),.int .i64 cs.length]::b.map fun(j:Nat)=>.int .i64 (j:Int)))]
def Di (n:Nat) (m:TM) (a:List Nat) (out:List Ty):Prop :=
 out.length=n/\a.Nodup/\(∀j∈a,j<m.length)/\∀i<n,out[i]?=some (if∃j∈a,(m[j]?).map (·.1)=some (i:Int) then(bw m i).getD Ud else Ud)
theorem zR:∀(N:Nat) (l:List Nat),l.Nodup->(∀x∈l,x<N)->l.length<=N
 | 0,l,_,h=>by
  cases l with
  | nil=>exact abh _
  | cons x l=>exact o5 (h x (by simp)) (abL _)
 | N+1,l,b,h=>by
  by_cases d:N∈l
  ·have h1:=zR N (l.erase N) (b.erase N) fun x a=>by
    have c:=(b.mem_erase_iff).1 a;have:=h x c.2;omega
   rw[List.length_erase_of_mem d] at h1;omega
  ·have:=zR N l b fun x a=>by
    have h1:=h x a;have:x≠N:=fun e=>d (e▸a);omega
   omega
theorem EY (a:List Nat):(a.map fun(j:Nat)=>Value.int .i64 (j:Int)).map iZ=a:=by
 rw[ab4];exact(ab7 fun j _=>(by show(j:Int).toNat=j;omega)).trans (List.map_id _)
theorem Di.all {n:Nat}{m:TM}{a:List Nat}{out:List Ty}(h:Di n m a out) (f:jl n m) (d:∀j<m.length,j∈a):out=lH n m:=by
 obtain⟨h1,h2,h3,h4⟩:=h;refine uV h1 (by simp[lH]) fun i hi=>?_;rw[h4 i hi,lH,abk,List.getElem?_range hi];simp only[abI,aa1];split
 ·rfl
 ·rename_i b;cases e:bw m (i:Int) with
  | none=>rfl
  | some x =>
   obtain⟨j,c,he⟩:=List.mem_iff_getElem.1 (EV e);exact o5 ⟨j,d j c,by rw[aa4 c,he];rfl⟩ b
theorem Di.next {n:Nat}{m:TM}{c:List Nat}{out:List Ty}{j:Nat}{k:Int}{t:Ty}(h:Di n m c out) (u:jl n m) (s:m[j]?=some (k,t)) (v:j∉c):Di n m (c++[j]) (out.set k.toNat t):=by
 obtain⟨h1,h2,h3,h4⟩:=h;have p:=aa8 s;have y:=u.1 _ p;have x:=QO u.2 p;refine⟨by rw[abU];exact h1,List.nodup_append.2 ⟨h2,by simp,fun a w b hb=>by rw[abR.1 hb];exact fun e=>v (e▸w)⟩,fun i hi=>?_,fun i hi=>?_⟩
 ·rcases aa9.1 hi with hi | hi
  ·exact h3 i hi
  ·rw[abR.1 hi];exact(aa6.1 s).1
 ·rw[List.getElem?_set]
  by_cases e:k.toNat=i
  ·have r:k=(i:Int):=by omega
   rw[eu e,eu (by omega),eu ⟨j,by simp,by rw[s,r];rfl⟩,<-r,x];rfl
  ·rw[fo e,h4 i hi];have o:(∃l∈c++[j],(m[l]?).map (·.1)=some (i:Int))↔∃l∈c,(m[l]?).map (·.1)=some (i:Int):=by
    refine⟨fun⟨l,d,f⟩=>?_,fun⟨l,d,f⟩=>⟨l,List.mem_append_left _ d,f⟩⟩;rcases aa9.1 d with d | d
    ·exact⟨l,d,f⟩
    ·rw[abR.1 d,s] at f;injection f with f
     exact o5 (by have:k=(i:Int):=f;omega) e
   by_cases f:∃l∈c,(m[l]?).map (·.1)=some (i:Int)
   ·rw[eu f,eu (o.2 f)]
   ·rw[fo f,fo (fun q=>f (o.1 q))]
theorem Ue (F:aA) (g8 f:Nat) (cs:List Value) (v:Value) (n:Nat) (m:TM) (xs:List Value) (jk:Nat->Value) (ad:Option Addr) (c:Nat) (hv:v=.slice ad n c) (hm:gh F (jt aK m) cs) (hk:jl n m) (hx:aR F 3 ((List.replicate n Ud).map aD) xs) (ae:0<n->ad≠none)
  (N:dQ) (hN:∀F' gi a al ρ',F.le F'->aR F' 3 ((lH n m).map aD) al->ρ' 10=.v v->N F' (RL g8 f gi cs v n a al) ρ') :
  jH P y7 (fun _ _ _ _=>False) (fun _ _ _=>False) N F [(8,.box g8 101 [.map (some f)]),(19,.box f 0 cs),(27,.row v 32 3 n xs)] (Fr.put (some 8) (.own 8 0) (Fr.put (some 10) (.v v) fun j=>.v (jk j))):=by
 refine DC.mk ⟨19,cs,rfl,zQ hm,?_⟩;intro gi;refine Ka.mk ⟨List Nat×List Value,([],xs),fun x F'=>F.le F'/\∃out,aR F' 3 (out.map aD) x.2/\Di n m x.1 out,[],fun _=>[],fun x=>RL g8 f gi cs v n x.1 x.2,fun x=>m.length-x.1.length,?_,trivial,?_,fun x=>?_,?_⟩
 ·refine⟨aA.le_refl F,List.replicate n Ud,hx,abD,List.nodup_nil,(fun j h=>by cases h),fun i hi=>?_⟩;rw[fo (fun⟨j,hj,_⟩=>by cases hj),aci,eu hi]
 ·exact⟨.inl rfl,.inl rfl,.inl rfl,.inl rfl,trivial⟩
 ·exact⟨⟨_,rfl⟩,⟨_,rfl⟩,⟨_,rfl⟩,trivial⟩
 rintro⟨a,xs⟩ F' bt bo ⟨b,out,hr,d,q,s,w⟩;refine J7.mk ⟨19,cs,rfl,zQ hm,rfl,fun j en hj z=>?_,fun ab=>?_⟩
 ·obtain⟨k,t,v',e1,rfl,e3,e4⟩:=Ih hm hj;have ao:=hk.1 _ (aa8 e1);simp only[aB,Rel] at e3;obtain⟨w3,rfl,w1,_,rfl,⟨rfl,bb⟩,w2,_,rfl,⟨rfl,bc⟩,w3,_,rfl,⟨a3,c3,rfl,bi,bj,ba,r⟩,rfl⟩:=e3;rw[EY] at z;refine GW.mk ⟨19,cs,j,_,rfl,zQ hm,rfl,List.getLast?_concat,hj,?_⟩;intro bm;subst hv;have ac:0<n:=by omega
  obtain⟨a0,ag⟩:=Option.ne_none_iff_exists'.1 (ae ac);have aE:xs.length=n*3:=by
   have:=iM hr
   rwa [vz,d] at this
  refine J6.mk (ae ac) ao.1 ao.2 ?_;refine rD.mk ⟨27,_,_,_,_,_,a0,c,rfl,ag,by rw[ag],?_,?_,?_⟩
  ·show k.toNat*3+0+3<=xs.length;rw[aE];omega
  ·intro u y;rcases abd.1 y with rfl | y
   ·rfl
   rcases abd.1 y with rfl | y
   ·rfl
   rcases abd.1 y with rfl | y
   ·rfl
   cases y
  ·refine⟨(a++[j],bY xs (k.toNat*3+0) [.int .i64 t.kind,.int .i64 t.id,.slice a3 (t.args.map aD).length c3]),⟨b,out.set k.toNat t,?_,Di.next ⟨d,q,s,w⟩ hk e1 z⟩,trivial,⟨.inl rfl,.inl rfl,.inl rfl,.inl ?_,trivial⟩,?_⟩
   ·obtain⟨o,ho⟩:=fK (l:=out) (k:=k.toNat) (by omega);have p:=hr.set (j:=k.toNat) (es:=aD o) (ds:=[IC t.kind,IC t.id,.sl (t.args.map aD)]) (us:=[.int .i64 t.kind,.int .i64 t.id,.slice a3 (t.args.map aD).length c3]) (off:=0) (by rw[abk,ho];rfl) (by simp) (by
     simp only[aB,Rel];refine⟨_,_,rfl,⟨rfl,bb⟩,_,_,rfl,⟨rfl,bc⟩,_,_,rfl,⟨a3,c3,rfl,bi,bj,ba,?_⟩,rfl⟩;obtain⟨sz,r⟩:=r;exact⟨sz,gU.mono b r⟩) rfl
    have e:jw (aD o) 0 [IC t.kind,IC t.id,.sl (t.args.map aD)]=aD t:=by
     rw[iP o,iP t];rfl
    rw[e,<-List.map_set] at p;exact p
   ·rw[abC];rfl
   ·show m.length-(a++[j]).length<m.length-a.length;have h1:=(aa6.1 e1).1;have an:=Di.next ⟨d,q,s,w⟩ hk e1 z;have h2:(a++[j]).length<=m.length:=zR _ _ an.2.1 an.2.2.1;rw[abP] at h2 ⊢;simp only[abo,ab1] at h2 ⊢;omega
 ·have ha:∀j<m.length,j∈a:=fun j hj=>by
   have:=ab j (by rw[EX hm];exact hj)
   rwa [EY] at this
  have e:=Di.all ⟨d,q,s,w⟩ hk ha;rw[e] at hr;exact hN F' gi a xs _ b hr rfl
def MQ (b:Nat) (G:Nat->Option (Nat×TypeId)) (F0:aA) (Li:List Own) (w0:World) (K:TK) (a:Act) (w:World):Prop :=
 ∃F L ρ M τ,St F L w/\aC L ρ a/\TS G F L ρ M τ/\a.tmps.size=b/\Step F0 (inp Li) w0 F L w/\K M τ
section
variable {G:Nat->Option (Nat×TypeId)}{F0:aA}{Li:List Own}{w0:World}
theorem MQ.seq {A:cJ}{c b:Code}{p sc2:ax}(z:low Try.prog A c=some p) (o:gA p=[]) {N K:TK}{a:Act}{w:World}(h:MQ A.n G F0 Li w0 K a w)
  (hK:∀M τ,K M τ->evalTC P ⟨fun _=>False,[],none⟩ (.seq p sc2) (fun _ _ _=>False) (fun _ _=>False) N M τ) {Q:Exit->Act->World->Prop}
  (hN:∀a' w',a'.defers=a.defers->MQ A.n G F0 Li w0 (fun M τ=>evalTC P ⟨fun _=>False,[],none⟩ sc2 (fun _ _ _=>False) (fun _ _=>False) N M τ) a' w'->b.wp P Q a' w'):(c.seq b).wp P Q a w:=by
 obtain⟨F,L,ρ,M,τ,g1,g2,x,u,g5,m⟩:=h;refine wp_seq (wp_mono (f7 c z (fun k m=>by rw[o] at m;cases m) g1 g2 x u (hK M τ m)) ?_);intro e a' w' f;cases e with
 | normal =>
  obtain⟨F',L',ρ',k1,q,t,s,r,k6,M',d,y,k8⟩:=f;exact hN a' w' s ⟨F',L',ρ',M',d,k1,q,y,t,g5.trans r,k8⟩
 | exit j=>obtain⟨F',L',ρ',_,_,_,_,_,_,M',d,_,h⟩:=f;exact h.elim
 | ret=>obtain⟨F',L',ρ',_,_,_,_,_,_,M',d,_,h⟩:=f;exact h.elim
 | goto l=>exact f.elim
 | panic ch=>obtain⟨v,al,F',L',k1,q,t,s,r,kp,hp,_⟩:=f;exact hp.elim
 | outgrown=>exact f.elim
theorem MQ.one {A:cJ}{c b:Code}{e:ax}(j:low Try.prog A c=some e) (d:gA e=[]) {N K:TK}{a:Act}{w:World}(h:MQ A.n G F0 Li w0 K a w)
  (k:∀M τ,K M τ->evalTC P ⟨fun _=>False,[],none⟩ e (fun _ _ _=>False) (fun _ _=>False) N M τ) {Q:Exit->Act->World->Prop}
  (l:∀a' w',a'.defers=a.defers->MQ A.n G F0 Li w0 N a' w'->b.wp P Q a' w'):(c.seq b).wp P Q a w :=
 MQ.seq (sc2:=.skip) j d h (fun M τ q=>k M τ q) fun a' w' hd f=>l a' w' hd f
theorem Step.cut {F F':aA}{L L' L2:Loc}{w w':World}(h:Step F L w F' L' w') (a:L'.part L2):Step F L w F' L2 w' :=
 ⟨h.le,h.os,h.tape,h.output,h.size,h.same,h.frz,fun b ⟨k,o,e,hb⟩=>h.own b ⟨k,o,a k o e,hb⟩⟩
theorem Ii {L L2:Loc}(h:∀p∈L2,L.get p.1=some p.2):L.part L2:=by
 intro k o e
 induction L2 with
 | nil=>cases e
 | cons p L2 a =>
  obtain⟨j,q⟩:=p;simp only[Loc.get] at e;cases hb:Nat.beq j k with
  | true =>
   rw[hb] at e;injection e with e
   have:=h (j,q) (by simp);rw[<-e,<-aa5 hb];exact this
  | false =>
   rw[hb] at e;exact a (fun p b=>h p (by simp[b])) e
theorem V6 (hG:∀k,G k=none) {n:Nat}{m:TM}{K:TK}{a:Act}{w:World}(hk:jl n m) (h:MQ 40 G F0 Li w0 K a w) (hK:∀M τ,K M τ->M=ML n m (List.replicate n (.mk 0 0 []))/\τ 8=.own 8 0/\τ 10=.rw 27) {Q:Exit->Act->World->Prop}
  (hN:∀a' w',a'.defers=a.defers->MQ 40 G F0 Li w0 (fun M τ=>M=[(27,.row 32 3 ((lH n m).map aD))]/\τ=bH (some 10) (.rw 27) fun _=>.any) a' w'->Q .normal a' w'):m7.wp P Q a w:=by
 obtain⟨F,L,ρ,M,τ,g1,g2,g3,g4,g5,bt⟩:=h;obtain⟨rfl,h8,am⟩:=hK M τ bt;have q8:=g3.tl 8;have r:=g3.tl 19;have o:=g3.tl 27;have q8:yL F L (some (.box 101 [.mpr 19])) (L.get 8):=q8;have r:yL F L (some (.map (jt aK m))) (L.get 19):=r;have o:yL F L (some (.row 32 3 ((List.replicate n (Ty.mk 0 0 [])).map aD))) (L.get 27):=o;have s8:=g3.env 8;have bc:=g3.env 10;rw[h8] at s8;rw[am] at bc;cases e8:L.get 8 with
 | none=>rw[e8] at q8;exact q8.elim
 | some o8 =>
 cases ac:L.get 19 with
 | none=>rw[ac] at r;exact r.elim
 | some bu =>
 cases ae:L.get 27 with
 | none=>rw[ae] at o;exact o.elim
 | some cb =>
 rw[e8] at q8;rw[ac] at r;rw[ae] at o;cases o8 with
 | row=>exact q8.elim
 | box g8 t8 c8 =>
 cases bu with
 | row=>exact r.elim
 | box s t19 cs =>
 cases cb with
 | box=>exact o.elim
 | row v t27 da c xs =>
 obtain⟨cc,az⟩:=q8;obtain⟨rfl,hE⟩:=r;obtain⟨rfl,rfl,aa,⟨cd,av,cv,hv,bb⟩,bd⟩:=o;have aa:c=n:=by rw[aa,vz,abD]
 subst aa;simp only[aB,Rel] at az;obtain⟨w0,_,rfl,⟨gm,cm,y,rfl⟩,rfl⟩:=az;rw[ac] at y;injection y with y
 injection y with i1 _ i2
 subst i1 i2;have bz:t8=101:=by
  rcases cc.2.1 with q | q
  ·exact q.symm
  ·have q':(101:Nat)=(g8+1)*1048576+(t8:Nat):=q;omega
 subst bz;have bi:ρ 8=.own 8 0:=s8.1;have ag:ρ 10=.v v:=by
  obtain⟨u,q1,q2⟩:=bc;rw[q1];rw[Rel] at q2;obtain⟨_,_,_,_,_,_,_,q3⟩:=q2;rw[ae] at q3;injection q3 with q3
  injection q3 with q3
  rw[q3]
 have ab:L.part [(8,.box g8 101 [.map (some s)]),(19,.box s 0 cs),(27,.row v 32 3 c xs)]:=Ii fun p z=>by
  rcases abd.1 z with rfl | z
  ·exact e8
  rcases abd.1 z with rfl | z
  ·exact ac
  rcases abd.1 z with rfl | z
  ·exact ae
  cases z
 have ca:=g1.part ab;have a8:a.tmps.getD 8 undef=.pointer (some ⟨g8,0,none⟩):=by rw[g2.eq 8,bi];simp only[conc,e8]
 have bv:a.tmps.getD 10 undef=v:=by rw[g2.eq 10,ag];rfl
 have bj:aC [(8,.box g8 101 [.map (some s)]),(19,.box s 0 cs),(27,.row v 32 3 c xs)] (Fr.put (some 8) (.own 8 0) (Fr.put (some 10) (.v v) fun j=>.v (a.tmps.getD j undef))) a:=by
  refine⟨fun t=>?_,fun t k off e=>?_,fun t ad j e=>?_⟩
  ·by_cases h1:t=8
   ·subst h1;exact a8
   by_cases h2:t=10
   ·subst h2;exact bv
   have b1:Nat.beq t 8=false:=mr h1;have b2:Nat.beq t 10=false:=mr h2;simp only[Fr.put,b1,b2,conc]
  ·by_cases h1:t=8
   ·subst h1;have e:SV.own 8 0=SV.own k off:=e;injection e with e1 e2
    subst e1;exact⟨_,_,_,rfl⟩
   ·have b1:Nat.beq t 8=false:=mr h1;simp only[Fr.put,b1] at e;split at e<;>cases e
  ·by_cases h1:t=8
   ·subst h1;cases e
   ·have b1:Nat.beq t 8=false:=mr h1;simp only[Fr.put,b1] at e;split at e<;>cases e
 refine wp_mono (qU m7 V5 ca bj g4 (Ue F g8 s cs v c m xs _ av cv hv hE hk bd (fun h0 e=>by have:=bb e;omega) (fun F' L' ρ'=>∃gi d f,L'=RL g8 s gi cs v c d f/\aR F' 3 ((lH c m).map aD) f/\ρ' 10=.v v) (fun F' gi d f ρ' _ hx am=>⟨gi,d,f,rfl,hx,am⟩))) ?_;intro e a' w' hq;cases e with
 | normal =>
  obtain⟨F',L',ρ',k1,k2,k3,k4,k5,k6,gi,d,f,rfl,hx,ba⟩:=hq;have x:(RL g8 s gi cs v c d f).part [(27,.row v 32 3 c f)]:=Ii fun p z=>by
   rcases abd.1 z with rfl | z
   ·rfl
   cases z
  have bk:c=((lH c m).map aD).length:=by simp[lH]
  have aE:a'.tmps.getD 10 undef=v:=by rw[k2.eq 10,ba];rfl
  refine hN a' w' k4 ⟨F',[(27,.row v 32 3 c f)],fun j=>.v (a'.tmps.getD j undef),_,_,k1.part x,⟨fun t=>rfl,(fun t k off e=>by cases e),(fun t ad j e=>by cases e)⟩,⟨fun k=>?_,fun j=>?_,(fun k g t e=>by rw[hG k] at e;cases e),k1.glob⟩,k3,?_,rfl,rfl⟩
  ·by_cases bl:k=27
   ·subst bl;exact⟨rfl,rfl,bk,⟨cd,av,cv,hv,bb⟩,hx⟩
   ·have b:Nat.beq 27 k=false:=mr fun e=>bl e.symm;simp only[TL.get,Loc.get,b];trivial
  ·by_cases hj:j=10
   ·subst hj;show aN F' _ (.rw 27) (.v (a'.tmps.getD 10 undef));rw[aE,hv];exact lW (by rw[<-hv];rfl)
   ·have b:Nat.beq j 10=false:=mr hj;simp only[bH,b];trivial
  ·exact Step.cut ((Step.cut g5 ab).trans k5) x
 | exit j=>obtain⟨F',L',ρ',_,_,_,_,_,_,h⟩:=hq;exact h.elim
 | ret=>obtain⟨F',L',ρ',_,_,_,_,_,_,h⟩:=hq;exact h.elim
 | goto l=>exact hq.elim
 | panic ch=>obtain⟨v,dd,F',L',_,_,_,_,_,z⟩:=hq;exact z.elim
 | outgrown=>exact hq.elim
end
theorem V7:low Try.prog JZ (m8.seq .ret)=some (.seq y8 .ret):=by kernel_rfl
theorem mend (n:Nat) (m:TM) (R:List TO->C->Prop) (h:R [] (.tup [.sl ((lH n m).map aD),.bool true])) :
  evalTC P ⟨fun _=>False,[],none⟩ (.seq y8 .ret) (fun _ _ _=>False) (fun L ρ=>hU L ρ [(6,none),(7,none)] fun d=>fe [] L (gZ d) R) (fun _ _=>False) [(27,.row 32 3 ((lH n m).map aD))] (bH (some 10) (.rw 27) fun _=>.any):=by
 have a:fe [] [(27,.row 32 3 ((lH n m).map aD))] (.tup [.rw 27,.bool true]) (aQ [] (.tup [.sl ((lH n m).map aD),.bool true])):=uL [27] [] ⟨_,[],rfl,rfl,rfl,rfl,rfl⟩;obtain⟨e,ko,a⟩:=a.out;refine fe.mk ⟨e,ko,En.frzK_imp a ?_⟩;rintro L ρ d ⟨L1,c,f,Mo,h1,h2,h3,h4,h5,h6⟩;exact⟨L1,c,f,Mo,h1,h2,h3,h4,h5,fun b=>by rw[(h6 b).1,(h6 b).2];exact h⟩
theorem V8 (p t:Ty) (n:Nat) (hn:n<=4) (m:TM) (hm:j9 n p t []=(m,true)):CallsT P 24 [aK p,aK t,IC n] [] (aQ [] (.tup [.sl ((lH n m).map aD),.bool true])):=by
 have hk:jl n m:=by
  have:=fit_keys n p t [] ⟨by simp,by simp⟩
  rwa [hm] at this
 refine CallsTX.noPan ⟨fun F Li c hl f ha=>⟨⟨Try.f24,Try.func24,by rw[EW];rfl,by kernel_rfl⟩,gV.aaC,fun w hs=>?_⟩⟩;have s:Li=[]:=List.length_eq_zero_iff.1 hl;subst s;have ab:Try.f24.ntmps=40:=by kernel_rfl
 have u:c.length=3:=by have:=ha.len;simpa using this
 obtain⟨G0,aa,he,ht,_⟩:=Ni (40-c.toArray.size) hl f ha hs
 let G:Nat->Option (Nat×TypeId):=fun _=>none
 refine calls_of_wp Try.func24 EW ?_;rw[ab];have M0:MQ JZ.n G F [] w (fun M τ=>M=[]/\τ=ku 0 [aK p,aK t,IC n]) {tmps:=c.toArray++Array.replicate (40-c.toArray.size) undef,defers:=[]} w :=
  ⟨F,inp [],aa,_,_,hs,he,⟨ht.tl,ht.env,(fun k g t e=>by cases e),ht.glob⟩,by simp[u,JZ],Step.refl _ _ _,rfl,rfl⟩
 generalize x:({tmps:=c.toArray++Array.replicate (40-c.toArray.size) undef,defers:=[]}:Act)=a0 at M0;have am:a0.defers=[]:=by rw[<-x]
 have o:=Zl p t n hn m hm;refine MQ.seq VY rfl M0 (sc2:=.seq y1 (.seq y2 (.seq y3 (.seq y4 (.seq y5 y6))))) (fun M τ q=>by rw[q.1,q.2];exact o) fun a1 w1 y M1=>?_;refine MQ.seq VZ rfl M1 (sc2:=.seq y2 (.seq y3 (.seq y4 (.seq y5 y6)))) (fun M τ q=>q) fun a2 w2 ag M2=>?_;refine MQ.seq V0 rfl M2 (sc2:=.seq y3 (.seq y4 (.seq y5 y6))) (fun M τ q=>q) fun a3 w3 an M3=>?_;refine MQ.seq V1 rfl M3 (sc2:=.seq y4 (.seq y5 y6)) (fun M τ q=>q) fun a4 w4 z M4=>?_;refine MQ.seq V2 rfl M4 (sc2:=.seq y5 y6) (fun M τ q=>q) fun a5 w5 ae M5=>?_;refine MQ.seq V3 rfl M5 (sc2:=y6) (fun M τ q=>q) fun a6 w6 ac M6=>?_;refine MQ.one V4 rfl M6 (fun M τ q=>q) fun a7 w7 a M7=>?_;have a:a7.defers=[]:=by rw[a,ac,ae,z,an,ag,y,am]
 refine wp_seq (V6 (fun _=>rfl) hk M7 (fun M τ q=>q) fun a8 w8 ad M8=>?_);obtain⟨F8,L8,bj,M,τ,g1,g2,g3,g4,g5,rfl,rfl⟩:=M8;show(m8.seq .ret).wp P _ a8 w8;refine wp_mono (f7 (m8.seq .ret) V7 (fun k _ r=>o5 rfl r) g1 g2 g3 g4 (mend n m (aQ [] (.tup [.sl ((lH n m).map aD),.bool true])) ⟨rfl,rfl⟩)) ?_;intro e a' w' d;cases e with
 | normal=>obtain⟨F',L',ρ',_,_,_,_,_,_,M',b,_,h⟩:=d;exact h.elim
 | exit j=>obtain⟨F',L',ρ',_,_,_,_,_,_,M',b,_,h⟩:=d;exact h.elim
 | ret =>
  obtain⟨F',L',ρ',k1,k2,k3,k4,k5,k6,M',b,k7,k8⟩:=d;have hf:=BH (P:=P) (fn:=Try.f24) (rs:=[(6,none),(7,none)]) (n:=40) (asg:=[]) (a0:=a') (a':=a') (w':=w') (Li:=[]) (Lin:=[]) (w:=w) (F:=F) (G:=G) (R:=aQ [] (.tup [.sl ((lH n m).map aD),.bool true])) (by kernel_rfl) rfl f (fun k g t cs e=>by cases e)
   ⟨F',L',ρ',k1,k2,k3,rfl,g5.trans k5,fun _ _=>rfl,M',b,k7,k8⟩
  obtain⟨_,v,q2,F2,Lo,q3,q4,q5⟩:=hf;exact⟨by rw[k4,ad,a],v,q2,.inl ⟨v,F2,Lo,rfl,q3,q4,q5⟩⟩
 | goto l=>exact d.elim
 | panic ch=>obtain⟨v,bv,F',L',k1,k2,k3,k4,k5,kp,hp,_⟩:=d;exact hp.elim
 | outgrown=>exact d.elim
end Go.Fr.Try
