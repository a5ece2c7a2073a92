/- Part of the proofs of the statements of this seat. -/
import Derived.Test.YthfdbepkalpplaaUnF3G
import Derived.Test.YthfdbepkalpplaaUnV1G
set_option maxRecDepth 10000
set_option linter.unusedVariables false
set_option linter.unusedSimpArgs false
namespace Go.Fr.Try
open Go Go.RowKit Go.Proofs Go.Fr Go.Fr.T Go.Fr.Api
theorem UF (PS:Value->Prop) (M0:TL) (e:Int) (len i:Nat):evalTC P ⟨PS,[],none⟩ (.seq z9 zc) (fun j M τ=>j=2/\¬i<len/\HS M0 e len i M τ) (fun _ _=>False) (fun M τ=>i<len/\HS M0 e len i M τ) M0 (hE e len i):=by
 refine ah (fun h=>?_) (fun h=>?_)
 ·exact⟨by omega,rfl,rfl,rfl,rfl,rfl⟩
 ·exact⟨rfl,by omega,rfl,rfl,rfl,rfl,rfl⟩
theorem UG (PS:Value->Prop) (M0:TL) (e:Int) (len i:Nat) (h:i+1<=9223372036854775807):evalTC P ⟨PS,[],none⟩ YP (fun _ _ _=>False) (fun _ _=>False) (fun M τ=>HS M0 e len (i+1) M τ) M0 (hE e len i):=by
 refine Fit.aaf (by omega) (by omega) ?_;exact⟨rfl,rfl,rfl,rfl,rfl⟩
theorem XB (s:List Ty) (PS:Value->Prop) (e:Int) (len i:Nat) (d:DM) (o:OM) (b:Option (Int×DM×OM)) (c:Pz s (vr i) d o (LV s b) (PD b)) (h:b=none->PS (cH 1)) :
  evalTC P ⟨PS,[],none⟩ (.seq VJ Uy) (fun _ _ _=>False) (fun _ _=>False) (fun M τ=>∃k a o',b=some (k,a,o')/\HS (UB s a o') e len i M τ/\τ 67=.bool (decide (k>8))) (UB s d o) (hE e len i):=by
 refine CQ [1000,1001,10,11] c rfl rfl rfl rfl rfl (fun v q=>q.2▸h q.1) fun k a o' f _=>?_;exact⟨k,a,o',f,⟨rfl,rfl,rfl,rfl,rfl⟩,rfl⟩
theorem UH (s:List Ty) (d:DM) (o:OM) (R:List TO->C->Prop) (h:R (Jw s d o) (.tup [])):gD (pL s) (UB s d o) (.tup []) R :=
 pU [1000,1001,10,11] rfl rfl rfl rfl h
theorem XC (s:List Ty) (PS:Value->Prop) (e:Int) (len i:Nat) (d:DM) (o:OM) (b:Option (Int×DM×OM)) (c:Q5 s (vr i) d o (MR s b) (PD b)) (h:b=none->PS (cH 1)) :
  evalTC P ⟨PS,[],none⟩ (.seq VJ Uy) (fun _ _ _=>False) (fun _ _=>False) (fun M τ=>∃k a o',b=some (k,a,o')/\HS (UD s a o') e len i M τ/\τ 67=.bool (decide (k>8))) (UD s d o) (hE e len i):=by
 refine FT [1000,10,11] c rfl rfl rfl rfl rfl (fun v q=>q.2▸h q.1) fun k a o' f _=>?_;exact⟨k,a,o',f,⟨rfl,rfl,rfl,rfl,rfl⟩,rfl⟩
theorem UI (s:List Ty) (d:DM) (o:OM) (R:List TO->C->Prop) (h:R (Jy s d o) (.tup [])):gD (uQ s) (UD s d o) (.tup []) R :=
 pU [1000,10,11] rfl rfl rfl rfl h
theorem Mg {Lin:List TO}{Li:List Own}{F:aA}{args:List C}{f:List Value}{w:World}(m:Nat) (x:Li.length=Lin.length) (n:bS F (inp Li) (cJ Lin)) (r:aB F (inp Li) args f) (u:St F (inp Li) w) :
  ∃(G:Nat->Option (Nat×TypeId)) (a:Env),aD (inp Li) a {tmps:=f.toArray++Array.replicate m undef,defers:=[]}/\TS G F (inp Li) a (cJ Lin) (j5 0 args)/\(∀k g t cs,(inp Li).get k=some (.box g t cs)->G k=some (g,t)):=by
 have l:=r.len;have key:∀j,∃sv,aN F (inp Li) (j5 0 args j) sv/\conc (inp Li) sv=(f.toArray++Array.replicate m undef).getD j undef/\(∀k off,sv=.own k off->∃g t cs,(inp Li).get k=some (.box g t cs))/\(∀d i,sv=.el d i->d≠none):=by
  intro j;rw[n8];simp only[aa8,abj,Nat.sub_zero,aa6];cases e:args[j]? with
  | some c =>
   have b:j<f.length:=by rw[l];exact(aaR.1 e).1
   obtain⟨s1,s2,s3,s⟩:=rB (r.at e (aaO b));refine⟨_,s1,?_,s3,fun d i e=>fL e (s d i)⟩;rw[s2,Array.getElem?_append_left (by simpa using b)];simp[b]
  | none =>
   have p:f.length<=j:=by rw[l];exact aby.1 e
   refine⟨.v undef,lf,?_,fun _ _ e=>(by cases e),fun _ _ e=>(by cases e)⟩;rw[Array.getElem?_append_right (by simpa using p)];simp only[Array.getElem?_replicate,conc];split<;>rfl
 let a:Env:=fun j=>(key j).choose
 have he:aD (inp Li) a {tmps:=f.toArray++Array.replicate m undef,defers:=[]} :=
  ⟨fun t=>(key t).choose_spec.2.1.symm,fun t k off e=>(key t).choose_spec.2.2.1 k off e,fun t d j e=>(key t).choose_spec.2.2.2 d j e⟩
 let G:Nat->Option (Nat×TypeId):=fun k=>match(inp Li).get k with | some (.box g t _)=>some (g,t) | _=>none
 have o:∀k g t cs,(inp Li).get k=some (.box g t cs)->G k=some (g,t):=fun k g t cs e=>by simp only[G,e]
 have q:Kp G (inp Li):=by
  intro k g t e;simp only[G] at e;split at e
  ·rename_i y z cs h;injection e with e
   injection e with e1 e2
   subst e1 e2;exact⟨cs,h⟩
  ·cases e
 exact⟨G,a,he,⟨n,fun j=>(key j).choose_spec.1,q,u.glob⟩,o⟩
structure FV (s:List Ty) (Lin:List TO) (Mh:DM->OM->TL) (Sd:DM->OM->List TO):Prop where
 len:∀(F:aA) (L:Loc),bS F L (cJ Lin)->s.length<=9223372036854775807
 pre:s.length<=9223372036854775807->∀(e:Int) (PS:Value->Prop),(s.all (eS s.length)=false->PS (cH 1)) ->
  evalTC P ⟨PS,[],none⟩ (.seq z0 (.seq z1 z8)) (fun _ _ _=>False) (fun _ _=>False) (fun M τ=>s.all (eS s.length)=true/\HS (Mh [] []) e s.length 0 M τ) (cJ Lin) (j5 0 [.own 1000 0,IC e])
 it:∀(n:Nat) (PS:Value->Prop) (e:Int) (i:Nat) (d:DM) (o:OM) (r1:Option (Int×DM×OM)),bI s n (vr i) d o=some r1->(r1=none->PS (cH 1)) ->
  evalTC P ⟨PS,[],none⟩ (.seq VJ Uy) (fun _ _ _=>False) (fun _ _=>False) (fun M τ=>∃k d' o',r1=some (k,d',o')/\HS (Mh d' o') e s.length i M τ/\τ 67=.bool (decide (k>8))) (Mh d o) (hE e s.length i)
 ret:∀(d:DM) (o:OM) (R:List TO->C->Prop),R (Sd d o) (.tup [])->gD Lin (Mh d o) (.tup []) R
theorem SJ {v:Value}{b:List PanicEntry}(h:rY v b):∀e∈b,e.goexit=false:=by
 obtain⟨a,rfl,h⟩:=h;intro e he;rcases aaT.1 he with rfl | he
 ·rfl
 ·exact h e he
theorem F4 {s:List Ty}{n:Nat}{r:Option (DM×OM)}(a:bJ s n=some r) (b:s.all (eS s.length)=true) :
  ∃y,dI s n s.length=some y/\(y=none->r=none)/\(∀d o,y=some (true,d,o)->r=none)/\∀d o,y=some (false,d,o)->r=some (d,o):=by
 unfold bJ at a;rw[eu b] at a;cases hf:dI s n s.length with
 | none=>simp only[hf] at a;cases a
 | some y =>
  refine⟨y,rfl,?_,?_,?_⟩
  ·rintro rfl;simp only[hf] at a;injection a with a;exact a.symm
  ·rintro d o rfl;simp only[hf,abj] at a;injection a with a;exact a.symm
  ·rintro d o rfl;simp only[hf] at a;rw[fo (by decide)] at a;injection a with a;exact a.symm
theorem Jh {s:List Ty}{n:Nat}{r:Option (DM×OM)}(a:bJ s n=some r) (b:s.all (eS s.length)=false):r=none:=by
 unfold bJ at a;rw[fo (by rw[b];exact aa7)] at a;injection a with a;exact a.symm
theorem zl {s:List Ty}{Lin:List TO}{Mh:DM->OM->TL}{Sd:DM->OM->List TO}(V:FV s Lin Mh Sd) (e:Int) (n:Nat) (r:Option (DM×OM)) (hr:bJ s n=some r) :
  CallsTX P 58 [.own 1000 0,IC e] Lin (fun Mo v=>∃d o,r=some (d,o)/\Mo=Sd d o/\v=.tup []) (PF e r):=by
 refine⟨fun F Li vs hl aE ha=>⟨⟨Try.f58,Try.func58,by rw[Et];rfl,by kernel_rfl⟩,gP.aao,fun w hs=>?_⟩⟩;have bm:=V.len F _ aE;have cn:Try.f58.ntmps=72:=by kernel_rfl
 have bz:vs.length=2:=by have:=ha.len;simpa using this
 obtain⟨G,co,he,ht,bt⟩:=Mg (72-vs.toArray.size) hl aE ha hs;refine wH (t:=98) (x:=.agg #[.int .i64 e]) Try.func58 Et ?_;rw[cn];generalize hR:(fun(en:Ending) (w':World)=>(∃v F' Lo,en=.returned v/\St F' (inp Lo) w'/\Step F (inp Li) w F' (inp Lo) w'/\gP Li (fun Mo v=>∃d o,r=some (d,o)/\Mo=Sd d o/\v=.tup []) F' Lo v) \/
  ∃v f F' Lo,en=.panicked f/\rY v f/\St F' (inp Lo) w'/\Step F (inp Li) w F' (inp Lo) w'/\Lo.length=Li.length/\(∀(i:Nat) g t cs,Li[i]?=some (.box g t cs)->∃cs',Lo[i]?=some (.box g t cs'))/\PF e r v)=RR
 have Rp:∀v f w',rY v f->PF e r v->(∃F' L',St F' L' w'/\Step F (inp Li) w F' L' w'/\Kp G L')->RR (.panicked f) w':=by
  rintro v f w' p u ⟨F',L',g1,g2,kp⟩;obtain⟨Lo,q1,q2,q3,q4⟩:=sK g1 g2 (fun i g t cs hi=>kp (1000+i) g t (bt _ g t cs (by rw[aH,eu (by omega),show 1000+i-1000=i by omega];exact hi)));rw[<-hR];exact .inr ⟨v,f,F',Lo,rfl,p,q1,q2,q3,q4,u⟩
 have cc:r=none->PF e r (cH 1):=fun h=>⟨h,1,.inl rfl,rfl⟩;have bi:r=none->PF e r (cH e):=fun h=>⟨h,e,.inr rfl,rfl⟩;have M0:MS G F Li w (fun M τ=>M=cJ Lin/\τ=j5 0 [.own 1000 0,IC e]) {tmps:=vs.toArray++Array.replicate (72-vs.toArray.size) undef,defers:=[]} w :=
  ⟨F,inp Li,co,_,_,hs,he,ht,by simp[bz],Step.refl _ _ _,rfl,rfl⟩
 generalize cr:({tmps:=vs.toArray++Array.replicate (72-vs.toArray.size) undef,defers:=[]}:Act)=a0 at M0;have bj:a0.defers=[]:=by rw[<-cr]
 -- what a panic of a piece means
 have pan:∀(v:Value) (f:List PanicEntry) (a':Act) (w':World),rY v f->(r=none/\v=cH 1)->(∀dd∈a'.defers,dd=sW (cH e))->(∃F' L',St F' L' w'/\Step F (inp Li) w F' L' w'/\Kp G L')->rH P Try.f58 (cH e) RR (.panic f) a' w':=by
  rintro v f a' w' p ⟨bp,rfl⟩ ad c;exact⟨ad,fun _=>Rp _ _ _ p (cc bp) c,fun _=>⟨SJ p,fun eg cM=>Rp _ _ _ cM (bi bp) c⟩⟩
 have al:∀{a':Act},a'.defers=[]->∀dd∈a'.defers,dd=sW (cH e):=fun h dd l=>by rw[h] at l;cases l
 have bs:=V.pre bm e (fun v=>r=none/\v=cH 1) fun h=>⟨Jh hr h,rfl⟩;refine wp_seq (MS.piece Xv rfl M0 (PS:=⟨fun v=>r=none/\v=cH 1,[],none⟩) (E:=fun _ _ _=>False) (N:=fun M τ=>evalTC P ⟨fun v=>r=none/\v=cH 1,[],none⟩ (.seq z1 z8) (fun _ _ _=>False) (fun _ _=>False) (fun M τ=>s.all (eS s.length)=true/\HS (Mh [] []) e s.length 0 M τ) M τ)
  (fun M τ q=>by rw[q.1,q.2];exact bs) (fun a1 w1 ao M1=>?_) (fun j a' w' _ h=>(by obtain⟨_,_,_,_,_,_,_,_,_,_,h⟩:=h;exact h.elim)) (fun v f a' w' p l u c=>pan v f a' w' p u (al (l.trans bj)) c))
 have ao:=ao.trans bj;refine wp_seq (MS.piece Xw rfl M1 (PS:=⟨fun v=>r=none/\v=cH 1,[],none⟩) (E:=fun _ _ _=>False) (N:=fun M τ=>evalTC P ⟨fun v=>r=none/\v=cH 1,[],none⟩ z8 (fun _ _ _=>False) (fun _ _=>False) (fun M τ=>s.all (eS s.length)=true/\HS (Mh [] []) e s.length 0 M τ) M τ)
  (fun M τ q=>q) (fun a2 w2 av M2=>?_) (fun j a' w' _ h=>(by obtain⟨_,_,_,_,_,_,_,_,_,_,h⟩:=h;exact h.elim)) (fun v f a' w' p l u c=>pan v f a' w' p u (al (l.trans ao)) c))
 have av:=av.trans ao;refine wp_seq (MS.piece Xx rfl M2 (PS:=⟨fun v=>r=none/\v=cH 1,[],none⟩) (E:=fun _ _ _=>False) (N:=fun M τ=>s.all (eS s.length)=true/\HS (Mh [] []) e s.length 0 M τ)
  (fun M τ q=>q) (fun a3 w3 ax M3=>?_) (fun j a' w' _ h=>(by obtain⟨_,_,_,_,_,_,_,_,_,_,h⟩:=h;exact h.elim)) (fun v f a' w' p l u c=>pan v f a' w' p u (al (l.trans av)) c))
 have ax:=ax.trans av;have be:s.all (eS s.length)=true:=by obtain⟨_,_,_,_,_,_,_,_,_,_,h⟩:=M3;exact h.1
 obtain⟨y,hy,yn,yb,yo⟩:=F4 hr be;have M3:=M3.weak fun M τ q=>q.2;refine wp_block (uR (fun m a1 w1=>∃(i:Nat) (b:Bool) (d:DM) (o:OM),m=s.length-i/\i<=s.length/\dI s n i=some (some (b,d,o))/\MS G F Li w (fun M τ=>M=Mh d o/\τ=hE e s.length i) a1 w1/\(∀dd∈a1.defers,dd=sW (cH e))/\(b=true->a1.defers≠[])/\(b=false->a1.defers=[])) ?_ ?_)
 ·exact⟨_,0,false,[],[],rfl,aa8 _,rfl,M3,al ax,(fun h=>by cases h),fun _=>ax⟩
 rintro m a4 w4 ⟨i,b,d,o,rfl,hi,hf,M4,ab,am,an⟩;have cm:=UF (fun v=>r=none/\v=cH 1) (Mh d o) e s.length i;have done:∀(j:Nat) (a':Act) (w':World),a'.defers=a4.defers->MS G F Li w (fun M τ=>j=2/\¬i<s.length/\HS (Mh d o) e s.length i M τ) a' w'->Exit.inBlock 2 (rH P Try.f58 (cH e) RR) (.exit j) a' w':=by
  rintro j a' w' l ⟨F',L',ρ',M',cp,g1,g2,g3,g4,g5,rfl,az,hM,_⟩;have cf:i=s.length:=by omega
  rw[cf,hy] at hf;injection hf with hf
  simp only[Exit.inBlock,abj];refine⟨l▸ab,fun bo=>?_,fun cz f p=>?_⟩
  ·have hb:b=false:=by
    cases b with
    | false=>rfl
    | true=>exact fL (l▸bo) (am rfl)
   subst hb;have ci:=yo d o hf;have hq:=Bd (P:=P) (fn:=Try.f58) (rs:=[]) (n:=72) (asg:=[]) (a0:=a') (a':=a') (w':=w') (R:=fun Mo v=>∃d o,r=some (d,o)/\Mo=Sd d o/\v=.tup []) (by kernel_rfl) hl aE bt
    ⟨F',L',ρ',g1,g2,g4,rfl,g5,fun _ _=>rfl,M',cp,g3,by rw[hM];exact V.ret d o _ ⟨d,o,ci,rfl,rfl⟩⟩
   obtain⟨_,v,k2,F2,Lo,k3,k4,k5⟩:=hq;exact⟨v,k2,by rw[<-hR];exact .inl ⟨v,F2,Lo,rfl,k3,k4,k5⟩⟩
  ·have hb:b=true:=by
    cases b with
    | true=>rfl
    | false=>exact fL (l.trans (an rfl)) cz
   subst hb;exact Rp _ _ _ p (bi (yb d o hf)) ⟨F',L',g1,g5,g3.kp⟩
 refine wp_seq (MS.piece Xy rfl M4 (PS:=⟨fun v=>r=none/\v=cH 1,[],none⟩) (E:=fun j M τ=>j=2/\¬i<s.length/\HS (Mh d o) e s.length i M τ) (N:=fun M τ=>evalTC P ⟨fun v=>r=none/\v=cH 1,[],none⟩ zc (fun j M τ=>j=2/\¬i<s.length/\HS (Mh d o) e s.length i M τ) (fun _ _=>False) (fun M τ=>i<s.length/\HS (Mh d o) e s.length i M τ) M τ)
  (fun M τ q=>by rw[q.1,q.2];exact cm) (fun a5 w5 ba M5=>?_) (fun j a' w' l h=>done j a' w' l h) (fun v f a' w' p l u c=>pan v f a' w' p u (l▸ab) c))
 refine wp_seq (MS.piece Xz rfl M5 (PS:=⟨fun v=>r=none/\v=cH 1,[],none⟩) (E:=fun j M τ=>j=2/\¬i<s.length/\HS (Mh d o) e s.length i M τ) (N:=fun M τ=>i<s.length/\HS (Mh d o) e s.length i M τ)
  (fun M τ q=>q) (fun a6 w6 ar M6=>?_) (fun j a' w' l h=>?_) (fun v f a' w' p l u c=>pan v f a' w' p u (l.trans ba▸ab) c))
 ·-- a variable more
  have ar:=ar.trans ba;have az:i<s.length:=by obtain⟨_,_,_,_,_,_,_,_,_,_,h⟩:=M6;exact h.1
  have M6:=M6.weak fun M τ q=>q.2;obtain⟨y1,ay⟩:=zj hy (i+1) az;obtain⟨r1,ca,cd,cb⟩:=FZ hf ay;have cy:=V.it n (fun v=>r=none/\v=cH 1) e i d o r1 ca (fun h=>by
   have h1:=zk (ay.trans (vv some (cd h))) (s.length-(i+1));rw[show i+1+(s.length-(i+1))=s.length by omega,hy] at h1;injection h1 with h1
   exact⟨yn h1,rfl⟩)
  refine wp_seq (wp_block (wp_seq (MS.piece Ux rfl M6 (PS:=⟨fun v=>r=none/\v=cH 1,[],none⟩) (E:=fun _ _ _=>False) (N:=fun M τ=>evalTC P ⟨fun v=>r=none/\v=cH 1,[],none⟩ Uy (fun _ _ _=>False) (fun _ _=>False) (fun M τ=>∃k d' o',r1=some (k,d',o')/\HS (Mh d' o') e s.length i M τ/\τ 67=.bool (decide (k>8))) M τ)
   (fun M τ q=>by rw[q.1,q.2];exact cy) (fun a7 w7 aw M7=>?_) (fun j a' w' _ h=>(by obtain⟨_,_,_,_,_,_,_,_,_,_,h⟩:=h;exact h.elim)) (fun v f a' w' p l u c=>pan v f a' w' p u (l.trans ar▸ab) c))))
  have aw:=aw.trans ar;refine wp_seq (MS.piece Uz rfl M7 (PS:=⟨fun v=>r=none/\v=cH 1,[],none⟩) (E:=fun _ _ _=>False) (N:=fun M τ=>∃k d' o',r1=some (k,d',o')/\HS (Mh d' o') e s.length i M τ/\τ 67=.bool (decide (k>8)))
   (fun M τ q=>q) (fun a8 w8 ac M8=>?_) (fun j a' w' _ h=>(by obtain⟨_,_,_,_,_,_,_,_,_,_,h⟩:=h;exact h.elim)) (fun v f a' w' p l u c=>pan v f a' w' p u (l.trans aw▸ab) c))
  have ac:=ac.trans aw;have hk:∃k d' o',r1=some (k,d',o'):=by
   obtain⟨_,_,_,_,_,_,_,_,_,_,k,d',o',h,_⟩:=M8;exact⟨k,d',o',h⟩
  obtain⟨k,d',o',rfl⟩:=hk;have M8:MS G F Li w (fun M τ=>HS (Mh d' o') e s.length i M τ/\τ 67=.bool (decide (k>8))) a8 w8:=M8.mono fun M τ ⟨k1,d1,o1,h,q⟩=>by
   injection h with h
   injection h with h1 h2
   injection h2 with h2 h3
   subst h1 h2 h3;exact q
  have cY:=M8.bool (j:=67) fun M τ q=>q.2;have cx:=M8.int (j:=1) fun M τ q=>q.1.2.2.1;have bk:a8.tmps.size=72:=by obtain⟨_,_,_,_,_,_,_,_,h,_⟩:=M8;exact h
  have M8:=M8.weak fun M τ q=>q.1
  -- the end of a round
  have fin:∀(a9:Act),MS G F Li w (fun M τ=>M=Mh d' o'/\τ=hE e s.length i) a9 w8->(∀dd∈a9.defers,dd=sW (cH e))->((b||decide (k>8))=true->a9.defers≠[])->((b||decide (k>8))=false->a9.defers=[]) ->
    k13.wp P (Exit.then (fun a' w'=>∃m,m<s.length-i/\∃(i:Nat) (b:Bool) (d:DM) (o:OM),m=s.length-i/\i<=s.length/\dI s n i=some (some (b,d,o))/\MS G F Li w (fun M τ=>M=Mh d o/\τ=hE e s.length i) a' w'/\(∀dd∈a'.defers,dd=sW (cH e))/\(b=true->a'.defers≠[])/\(b=false->a'.defers=[])) (Exit.inBlock 2 (rH P Try.f58 (cH e) RR))) a9 w8:=by
   intro a9 M9 bl am an;have ce:=UG (fun v=>r=none/\v=cH 1) (Mh d' o') e s.length i (by omega);refine MS.piece UA rfl M9 (PS:=⟨fun v=>r=none/\v=cH 1,[],none⟩) (E:=fun _ _ _=>False) (N:=fun M τ=>HS (Mh d' o') e s.length (i+1) M τ)
    (fun M τ q=>by rw[q.1,q.2];exact ce) (fun dz ei ag M10=>?_) (fun j a' w' _ h=>(by obtain⟨_,_,_,_,_,_,_,_,_,_,h⟩:=h;exact h.elim)) (fun v f a' w' p l u c=>pan v f a' w' p u (l▸bl) c)
   refine⟨s.length-(i+1),by omega,i+1,b||decide (k>8),d',o',rfl,az,ay.trans (vv some (cb k d' o' rfl)),M10.weak fun M τ q=>q,ag▸bl,ag▸am,ag▸an⟩
  refine wp_cond_split (t:=decide (k>8)) cY (fun hk=>?_) (fun hk=>?_)
  ·refine XA bk cx fun x y z=>?_;refine fin _ (((M8.wr (by omega) (by omega) (by omega) (by omega) (by omega)).wr (by omega) (by omega) (by omega) (by omega) (by omega)).wr (by omega) (by omega) (by omega) (by omega) (by omega)).defers ?_ (fun _ h=>by cases h) (fun h=>by rw[hk,Bool.or_true] at h;cases h);intro dd ad;rcases aaT.1 ad with rfl | ad
   ·rfl
   ·rw[ac] at ad;exact ab dd ad
  ·refine wp_skip ?_;refine fin _ M8 (ac▸ab) (fun h=>?_) (fun h=>?_)
   ·rw[ac];exact am (by rw[hk,Bool.or_false] at h;exact h)
   ·rw[ac];exact an (by rw[hk,Bool.or_false] at h;exact h)
 ·exact done j a' w' (l.trans ba) h
theorem XD {s:List Ty}{F:aA}{L:Loc}(h:bS F L (cJ (pL s))):s.length<=9223372036854775807:=by
 have q:=h 1001;have q:x7 F L (some (.row 32 3 (s.map aI))) (L.get 1001):=q;cases e:L.get 1001 with
 | none=>rw[e] at q;exact q.elim
 | some o =>
  rw[e] at q;cases o with
  | box=>exact q.elim
  | row v t sz n xs =>
   obtain⟨_,_,b,⟨a,_⟩,_⟩:=q;rw[vz] at b;simp only[maxLen] at a;omega
theorem XE {s:List Ty}{F:aA}{L:Loc}(h:bS F L (cJ (uQ s))):s.length<=9223372036854775807:=by
 have q:=h 1000;have q:x7 F L (some (.box 93 [.sl (s.map aI),.any,.any])) (L.get 1000):=q;cases e:L.get 1000 with
 | none=>rw[e] at q;exact q.elim
 | some o =>
  rw[e] at q;cases o with
  | row=>exact q.elim
  | box g t cs =>
   have q:=q.2;simp only[aB,Rel] at q;obtain⟨v,_,_,⟨a,c,_,_,b,_⟩,_⟩:=q;rw[vz] at b;simp only[maxLen] at b;omega
theorem fvU (s:List Ty):FV s (pL s) (UB s) (Jw s) :=
 ⟨fun F L h=>XD h,fun a e PS h=>UC s e PS h a,fun n PS e i d o b h c=>XB s PS e s.length i d o b (Hq s n (vr i) d o b h) c,fun d o R h=>UH s d o R h⟩
theorem fvF (s:List Ty):FV s (uQ s) (UD s) (Jy s) :=
 ⟨fun F L h=>XE h,fun a e PS h=>UE s e PS h a,fun n PS e i d o b h c=>XC s PS e s.length i d o b (LY s n (vr i) d o b h) c,fun d o R h=>UI s d o R h⟩
theorem XF (s:List Ty) (e:Int) {n:Nat}{r:Option (DM×OM)}(a:bJ s n=some r):Em s e r:=zl (fvU s) e n r a
theorem XG (s:List Ty) (e:Int) {n:Nat}{r:Option (DM×OM)}(a:bJ s n=some r):uy s e r:=zl (fvF s) e n r a
theorem unify (n:Nat) (s:List Ty) (a b:Ty) (f:s.length<=2 ^ 30) (F:Fuel n s a b) (d:cu a<=2 ^ 40) (c:cu b<=2 ^ 40)
  (j:∀s',L5 n s a b s'->s'.length<=2 ^ 30/\(∀x∈s',ji x)/\∃r,j3 s' n=some r):CallsT P 23 [.sl (s.map aI),aV a,aV b] [] (RN n s a b) :=
 t23 n s a b f F (fun s e r h=>XF s e h) d c j
theorem apply (s:List Ty) (n:Nat) (t r:Ty) (d:DM) (o:OM) (h:bJ s n=some (some (d,o))) (a:∀x∈s,ji x) (hb:ji t) (b:SE s n t=some r):CallsT P 22 [.sl (s.map aI),aV t] [] (aU [] (aV r)) :=
 t22 s n t r d o (XG s 1 h) a hb b
mutual
def gs (u:List Ty):Ty->Ty
 | .mk k i l=>if k=9 then(u[i.toNat]?).getD (.mk 0 0 []) else .mk k i (VK u l)
def VK (u:List Ty):List Ty->List Ty
 | []=>[]
 | t::l=>gs u t::VK u l
end
theorem Hz (u:List Ty):∀l:List Ty,VK u l=l.map (gs u)
 | []=>rfl
 | t::l=>by rw[VK,Hz u l];rfl
theorem Ra (u:List Ty) (t:Ty):gs u t=if t.kind=9 then(u[t.id.toNat]?).getD (.mk 0 0 []) else .mk t.kind t.id (t.args.map (gs u)):=by
 cases t;rw[gs,Hz];rfl
theorem mO {u:List Ty}{t:Ty}(h:t.kind=9):gs u t=(u[t.id.toNat]?).getD (.mk 0 0 []):=by rw[Ra,eu h]
theorem jx {u:List Ty}{t:Ty}(h:¬t.kind=9):gs u t=.mk t.kind t.id (t.args.map (gs u)):=by rw[Ra,fo h]
theorem lS {u:List Ty}{t r:Ty}(h:t.kind=9) (k:r.kind=9) (e:t.id=r.id):gs u t=gs u r:=by rw[mO h,mO k,e]
structure Sat (u s:List Ty):Prop where
 len:u.length=s.length
 eq:∀(i:Nat) (x:Ty),s[i]?=some x->¬x.kind=0->u[i]?=some (gs u x)
theorem Sat.elem {u s:List Ty}(h:Sat u s) {t x:Ty}(b:t.kind=9) (he:bW s t=some x) (a:¬x.kind=0):gs u x=gs u t:=by
 obtain⟨_,e,_⟩:=bP he;rw[mO b,h.eq _ x e a];rfl
theorem Sat.front {u s:List Ty}(h:Sat u s):∀{n:Nat}{t r:Ty},aQ s n t=some r->gs u r=gs u t
 | 0,t,r,q=>by cases q
 | n+1,t,r,q=>by
  rw[aQ] at q
  by_cases a:t.kind=9
  ·rw[eu a] at q;cases he:bW s t with
   | none=>rw[he] at q;cases q
   | some x =>
    rw[he] at q;simp only at q
    by_cases b:x.kind=0
    ·rw[eu b] at q;injection q with q;rw[q]
    ·rw[fo b] at q;rw[h.front q,h.elem a he b]
  ·rw[fo a] at q;injection q with q;rw[q]
theorem UJ {u:List Ty}{t y:Ty}(b:¬t.kind=9) (a:y∈t.args):SizeOf.sizeOf (gs u y)<SizeOf.sizeOf (gs u t):=by
 rw[jx b];exact Hf (x:=gs u y) (t:=.mk t.kind t.id (t.args.map (gs u))) (abq.2 ⟨y,a,rfl⟩)
theorem Sat.occ {u s:List Ty}(h:Sat u s) {v:Int}:∀{n:Nat}{t:Ty},lm s v n t=some true->SizeOf.sizeOf (gs u (.mk 9 v []))<=SizeOf.sizeOf (gs u t)/\(¬t.kind=9->SizeOf.sizeOf (gs u (.mk 9 v []))<SizeOf.sizeOf (gs u t))
 | 0,t,q=>by cases q
 | n+1,t,q=>by
  rw[lm] at q;cases hf:aQ s n t with
  | none=>rw[hf] at q;cases q
  | some r =>
   rw[hf] at q;have e:=h.front hf;simp only at q
   by_cases a:r.kind=9
   ·rw[eu a] at q;injection q with q
    have q:=abt q;refine⟨?_,fun d=>?_⟩
    ·rw[<-e,lS (u:=u) a (r:=.mk 9 v []) rfl q];exact aa0 _
    ·cases n with
     | zero=>cases hf
     | succ n=>rw[Bu d n] at hf;injection hf with hf;exact fL (hf▸a) d
   ·rw[fo a] at q;obtain⟨h1,k⟩:=rD q;obtain⟨y,f,c⟩:=abO.1 k;have b:lm s v n y=some true:=by rw[h1 y f,c]
    have:=(h.occ b).1;have j:=UJ (u:=u) a f;rw[e] at j;exact⟨by omega,fun _=>by omega⟩
theorem Sat.set {u s:List Ty}(h:Sat u s) {v:Int}{b:Ty}(h0:0<=v) (hb:gs u (.mk 9 v [])=gs u b):Sat u (s.set v.toNat b):=by
 refine⟨by rw[abw];exact h.len,fun i x a d=>?_⟩
 by_cases e:v.toNat=i
 ·have c:i<s.length:=by have:=(aaR.1 a).1;rwa [abw] at this
  rw[e,abS c] at a;injection a with a
  subst a;rw[<-hb,mO rfl];show _=some ((u[v.toNat]?).getD _);rw[e,aaO (by rw[h.len];exact c)];rfl
 ·rw[abN e] at a;exact h.eq i x a d
theorem HA {u:List Ty}{f:List Ty->Ty->Ty->Option (Option (List Ty))}(hf:∀s x y r,Sat u s->gs u x=gs u y->f s x y=some r->∃s',r=some s'/\Sat u s'):∀{l a s:List Ty}{r:Option (List Ty)},Sat u s->l.map (gs u)=a.map (gs u)->kH f s l a=some r->∃s',r=some s'/\Sat u s'
 | [],a,s,r,h,_,q=>by rw[kH] at q;injection q with q;exact⟨s,q.symm,h⟩
 | x::l,[],s,r,h,e,q=>by simp at e
 | x::l,y::a,s,r,h,e,q=>by
  rw[aaX,aaX,List.cons.injEq] at e;rw[kH] at q;cases b:f s x y with
  | none=>rw[b] at q;cases q
  | some c =>
   rw[b] at q;obtain⟨s1,rfl,h1⟩:=hf s x y c h e.1 b;exact HA hf h1 e.2 q
theorem Sat.eqs {u:List Ty}:∀{n:Nat}{s:List Ty}{a b:Ty}{r:Option (List Ty)},Sat u s->gs u a=gs u b->lQ n s a b=some r->∃s',r=some s'/\Sat u s'
 | 0,s,a,b,r,h,_,q=>by cases q
 | n+1,s,a,b,r,h,w,q=>by
  cases k:aQ s n a with
  | none=>rw[lQ,k] at q;cases q
  | some a' =>
  cases l:aQ s n b with
  | none=>rw[lQ,k,l] at q;cases q
  | some f =>
  rw[mN k l] at q;have c:gs u a'=gs u f:=by rw[h.front k,h.front l,w]
  by_cases j:a'.kind=9
  ·obtain⟨xa,ab,al⟩:=fQ k j;have t:=(bP ab).1;have m:gs u (.mk 9 a'.id [])=gs u a':=lS rfl j rfl
   by_cases d:f.kind=9
   ·obtain⟨xb,aa,ad⟩:=fQ l d;have ae:=(bP aa).1;have e2:gs u (.mk 9 f.id [])=gs u f:=lS rfl d rfl;rw[eu ⟨j,d⟩] at q
    by_cases hi:a'.id=f.id
    ·rw[eu hi] at q;injection q with q;exact⟨s,q.symm,h⟩
    ·rw[fo hi] at q;injection q with q
     refine⟨_,q.symm,h.set (by omega) ?_⟩;rcases Int.le_total a'.id f.id with e | e
     ·rw[Int.max_eq_right e,Int.min_eq_left e,m,e2,c]
     ·rw[Int.max_eq_left e,Int.min_eq_right e,m,e2,c]
   ·rw[fo (fun p=>d p.2),eu j] at q;cases z:lm s a'.id n f with
    | none=>rw[z] at q;cases q
    | some o =>
     rw[z] at q;cases o with
     | true =>
      have:=(h.occ z).2 d;rw[m,c] at this;exact fL this (Nat.lt_irrefl _)
     | false =>
      injection q with q
      exact⟨_,q.symm,h.set t (m.trans c)⟩
  ·rw[fo (fun p=>j p.1),fo j] at q
   by_cases d:f.kind=9
   ·rw[eu d] at q;exact Sat.eqs h c.symm q
   ·rw[fo d] at q;rw[jx j,jx d] at c;injection c with g1 g2 g3
    have g4:a'.args.length=f.args.length:=by have:=vv List.length g3;simpa using this
    rw[fo (by omega)] at q;exact HA (fun s x y r hs v hq=>Sat.eqs hs v hq) h g3 q
theorem Sat.ap {u s:List Ty}(h:Sat u s):∀{n:Nat}{t r:Ty},pA s n t=some r->gs u r=gs u t
 | 0,t,r,q=>by cases q
 | n+1,t,r,q=>by
  rw[pA] at q;cases he:(if t.kind=9 then bW s t else some (.mk 0 0 [])) with
  | none=>simp only[he] at q;cases q
  | some x =>
   simp only[he] at q
   by_cases b:x.kind=0
   ·rw[fo (fun p=>p b)] at q;cases c:lA (pA s n) t.args with
    | none=>simp only[c] at q;cases q
    | some l =>
     simp only[c] at q;injection q with q
     obtain⟨h1,e⟩:=jH c;subst q
     by_cases a:t.kind=9
     ·exact lS (by exact a) a rfl
     ·rw[jx a,jx (t:=.mk t.kind t.id l) a];show Ty.mk t.kind t.id (l.map (gs u))=_;rw[e,abR];exact vv _ (abV fun y d=>h.ap (h1 y d))
   ·rw[eu b] at q;have a:t.kind=9:=by
     by_cases a:t.kind=9
     ·exact a
     ·rw[fo a] at he;injection he with he
      exact fL (by rw[<-he];rfl) b
    rw[eu a] at he;rw[h.ap q,h.elem a he b]
inductive XH (s:List Ty):Ty->Prop
 | var {t x:Ty}(h9:t.kind=9) (he:bW s t=some x) (hk:x.kind=0):XH s t
 | arg {t:Ty}(h9:¬t.kind=9) (h:∀y∈t.args,XH s y):XH s t
structure LOk (u s:List Ty) (m:DM):Prop where
 ok:∀j k,br m j=some k->0<=k/\k<s.length/\gs u (.mk 9 k [])=gs u (.mk 9 j [])
theorem xg {ds:List Api.Data}{pa:Int}{t:Ty}(h:wD ds pa t=true) (a:t.kind=5):0<=t.id/\t.id<pa/\t.args=[]:=by
 rw[mK,eu a] at h;simp only[v5,aaZ] at h;exact⟨h.1.1,h.1.2,abu h.2⟩
theorem xh {ds:List Api.Data}{pa:Int}{t:Ty}(h:wD ds pa t=true) (e:¬t.kind=5):∃n,Db ds t.kind t.id=some n/\¬((t.kind≠2/\t.id≠0)\/(t.args.length:Int)≠n)/\∀x∈t.args,(iY x=true\/(t.kind=7/\x.kind=6))/\wD ds pa x=true:=by
 rw[mK,fo e] at h;cases a:Db ds t.kind t.id with
 | none=>simp only[a] at h;cases h
 | some n =>
  simp only[a] at h;split at h
  ·cases h
  ·rename_i d;refine⟨n,rfl,d,fun x b=>?_⟩;rw[Bool.not_eq_true'] at h;have hb:=(abX.1 h) x b;simp only[FO,abn,v5,Bool.not_eq_true',Bool.not_eq_false',Bool.and_eq_false_iff,aaZ,abY,not_or,not_and,ab1] at hb;refine⟨?_,?_⟩
   ·cases c:iY x with
    | true=>exact .inl rfl
    | false =>
     refine .inr ?_;have h1:=hb.1 c;simpa using h1
   ·cases hf:wD ds pa x with
    | true=>rfl
    | false=>exact fL hf (by simpa using hb.2)
def jc (n:Int) (m:TM):Prop:=(∀p∈m,0<=p.1/\p.1<n)/\(m.map (·.1)).Nodup
theorem Ev {a:Type}{m:List (Int×a)}{i:Int}{x:a}(h:br m i=some x):(i,x)∈m:=by
 induction m with
 | nil=>cases h
 | cons p m b =>
  obtain⟨k,v⟩:=p;simp only[br] at h
  by_cases e:i=k
  ·rw[eu e] at h;injection h with h;subst e h;simp
  ·rw[fo e] at h;exact abg _ (b h)
theorem Ji {a:Type}(m:List (Int×a)) (i:Int) (x:a) (h:br m i=none):eI m i x=m++[(i,x)]:=by
 induction m with
 | nil=>rfl
 | cons p m b =>
  obtain⟨k,v⟩:=p;simp only[br] at h
  by_cases e:i=k
  ·rw[eu e] at h;cases h
  ·rw[fo e] at h;simp only[eI,fo e,b h,aa1]
theorem Jj {b:Type}{m:List (Int×b)}{i:Int}(h:br m i=none):i∉m.map (·.1):=by
 induction m with
 | nil=>simp
 | cons p m a =>
  obtain⟨k,v⟩:=p;simp only[br] at h
  by_cases e:i=k
  ·rw[eu e] at h;cases h
  ·rw[fo e] at h;simp only[aaX,aaT,not_or];exact⟨e,a h⟩
theorem PY {b:Type}{m:List (Int×b)}{i:Int}{x:b}(a:(m.map (·.1)).Nodup) (h:(i,x)∈m):br m i=some x:=by
 induction m with
 | nil=>cases h
 | cons p m c =>
  obtain⟨k,v⟩:=p;simp only[aaX,List.nodup_cons] at a;simp only[br];rcases aaT.1 h with e | h
  ·injection e with e1 e2;rw[eu e1,e2]
  ·have:i≠k:=fun e=>a.1 (by rw[<-e];exact abq.2 ⟨_,h,rfl⟩);rw[fo this];exact c a.2 h
theorem jc.set {n:Int}{m:TM}{i:Int}{x:Ty}(h:jc n m) (h0:0<=i) (h1:i<n) (d:br m i=none):jc n (eI m i x):=by
 rw[Ji m i x d];refine⟨fun p c=>?_,?_⟩
 ·rcases aaU.1 c with c | c
  ·exact h.1 p c
  ·rw[abH.1 c];exact⟨h0,h1⟩
 ·rw[abB];exact List.nodup_append.2 ⟨h.2,by simp,fun a f b hb=>by
   rw[abH.1 (by simpa using hb:b∈[i])];exact fun e=>Jj d (e▸f)⟩
theorem fit_keys (n:Int):∀(p t:Ty) (m:TM),jc n m->jc n (jZ n p t m).1:=fun p=>dc (p:=fun p=>∀(t:Ty) (m:TM),jc n m->jc n (jZ n p t m).1) (fun p j t m h=>by
 have d:∀(l:List Ty),(∀x∈l,∀(t:Ty) (m:TM),jc n m->jc n (jZ n x t m).1)->∀(a:List Ty) (m:TM),jc n m->jc n (mS n l a m).1:=by
  intro l
  induction l with
  | nil=>intro _ a m h;rw[mS];exact h
  | cons x l c =>
   intro e a m h;rw[mS.eq_def];cases a with
   | nil=>exact h
   | cons y a =>
    have h1:=e x (by simp) y m h;simp only;cases hf:jZ n x y m with
    | mk f b =>
     rw[hf] at h1;cases b
     ·exact h1
     ·exact c (fun z d=>e z (by simp[d])) a f h1
 rw[ur,I5];split
 ·split
  ·exact h
  ·rename_i o;split
   ·exact h
   ·rename_i k;exact h.set (by omega) (by omega) k
 ·split
  ·split
   ·exact d p.args j t.args m h
   ·exact h
  ·exact h) p
noncomputable def uz:Code:=Try.f24.body.getD .skip
noncomputable def m0:Code:=wI uz
noncomputable def m1:Code:=wI (fR uz)
noncomputable def m2:Code:=wI (fR (fR uz))
noncomputable def m3:Code:=wI (fR (fR (fR uz)))
noncomputable def m4:Code:=wI (fR (fR (fR (fR uz))))
noncomputable def m5:Code:=wI (fR (fR (fR (fR (fR uz)))))
noncomputable def m6:Code:=wI (fR (fR (fR (fR (fR (fR uz))))))
noncomputable def m7:Code:=wI (fR (fR (fR (fR (fR (fR (fR uz)))))))
noncomputable def m8:Code:=wI (fR (fR (fR (fR (fR (fR (fR (fR uz))))))))
theorem Ew:Try.f24.body=some (m0.seq (m1.seq (m2.seq (m3.seq (m4.seq (m5.seq (m6.seq (m7.seq (m8.seq .ret))))))))):=by kernel_rfl
def y0:au:=(.reg [.op (some 3) (.boxF 32 (.t 0)) none,
  .op (some 4) (.boxF 32 (.t 1)) none,
  .op (some 5) (.boxF 3 (.t 2)) none,
  .op (some 6) (.mov (.c (.slice none 0 0))) none,
  .op (some 7) (.mov (.c (.bool false))) none])
theorem UK:low Try.prog Jv m0=some y0:=by kernel_rfl
def y1:au:=(.seq (.reg [.op (some 13) (.load false 1 (.t 5)) none,
  .op (some 14) (.bin .lss (.t 13) (.c (.int .i64 0))) none,
  .op (some 15) (.mov (.t 14)) none,
  .op (some 16) (.load false 1 (.t 5)) (some (15,false)),
  .op (some 17) (.bin .gtr (.t 16) (.c (.int .i64 4))) (some (15,false)),
  .op (some 18) (.pick (.t 15) (.c (.bool true)) (.t 17)) none])
 (.cond (.t 18)
 (.seq (.reg [.op (some 6) (.mov (.c (.slice none 0 0))) none,
   .op (some 7) (.mov (.c (.bool false))) none])
  .ret)
 .skip))
theorem UL:low Try.prog Jv m1=some y1:=by kernel_rfl
def y2:au:=(.reg [.op (some 19) (.mkmap) none,
  .op (some 8) (.alloc 101 [(.map none)]) none,
  .op none (.store 1 (.t 8) (.t 19)) none])
theorem UM:low Try.prog Jv m2=some y2:=by kernel_rfl
def y3:au:=(.reg [.op (some 9) (.alloc 37 [.nilFunc]) none])
theorem UN:low Try.prog Jv m3=some y3:=by kernel_rfl
def y4:au:=(.reg [.op (some 20) (.mkfn 66 [] [(.t 9),(.t 5),(.t 8)]) none,
  .op none (.store 1 (.t 9) (.t 20)) none])
theorem UO:low Try.prog Jv m4=some y4:=by kernel_rfl
def y5:au:=(.seq (.reg [.op (some 21) (.load false 1 (.t 9)) none,
  .op (some 22) (.load true 3 (.t 3)) none,
  .op (some 23) (.load true 3 (.t 4)) none,
  .op (some 24) (.callV (.t 21) [(.t 22),(.t 23)]) none,
  .op (some 25) (.un .not (.t 24)) none])
 (.cond (.t 25)
 (.seq (.reg [.op (some 6) (.mov (.c (.slice none 0 0))) none,
   .op (some 7) (.mov (.c (.bool false))) none])
  .ret)
 .skip))
theorem UQ:low Try.prog Jv m5=some y5:=by kernel_rfl
def y6:au:=(.reg [.op (some 26) (.load false 1 (.t 5)) none,
  .op (some 27) (.makeS 32 3 40 [(.int .i64 0),(.int .i64 0),(.slice none 0 0)] (.t 26) (.t 26)) none,
  .op (some 10) (.mov (.t 27)) none])
theorem UU:low Try.prog Jv m6=some y6:=by kernel_rfl
def y7:au:=(.seq (.reg [.op (some 28) (.load false 1 (.t 8)) none,
  .op (some 29) (.mrange (.t 28)) none])
 (.block 0
 (.loop [30,31,32,33,34,12,11,35,36,37,38]
  (.seq (.reg [.op (some 30) (.mnext (.t 29)) none,
    .op (some 31) (.extr (.t 30) 0) none])
   (.seq (.cond (.t 31)
   .skip
   (.exit 0))
   (.block 1
   (.seq (.reg [.op (some 32) (.mentry (.t 29)) none,
     .op (some 33) (.extr (.t 32) 0) none,
     .op (some 34) (.extr (.t 32) 1) none,
     .op (some 12) (.alloc 32 [(.int .i64 0),(.int .i64 0),(.slice none 0 0)]) none,
     .op (some 11) (.mov (.t 33)) none,
     .op none (.store 3 (.t 12) (.t 34)) none])
    (.reg [.op (some 35) (.mov (.t 10)) none,
     .op (some 36) (.mov (.t 11)) none,
     .op (some 37) (.load true 3 (.t 12)) none,
     .op (some 38) (.idxA 3 (.t 35) (.t 36)) none,
     .op none (.store 3 (.t 38) (.t 37)) none]))))))))
theorem UW:low Try.prog Jv m7=some y7:=by kernel_rfl
def y8:au:=(.reg [.op (some 39) (.mov (.t 10)) none,
  .op (some 6) (.mov (.t 39)) none,
  .op (some 7) (.mov (.c (.bool true))) none])
abbrev ML (n:Nat) (m:TM) (out:List Ty):TL:=[(8,.box 101 [.mpr 19]),(9,.box 37 [.fn 66 [] [.own 9 0,.pt [IC n] 0,.own 8 0]]),(19,.map (jl aV m)),(27,.row 32 3 (out.map aI))]
theorem XI (p t:Ty) (n:Nat) (d:n<=4) (m:TM) (b:jZ n p t []=(m,true)):evalTC P ⟨fun _=>False,[],none⟩ (.seq y0 (.seq y1 (.seq y2 (.seq y3 (.seq y4 (.seq y5 y6)))))) (fun _ _ _=>False) (fun _ _=>False)
  (fun M τ=>M=ML n m (List.replicate n (.mk 0 0 []))/\τ 8=.own 8 0/\τ 10=.rw 27) [] (j5 0 [aV p,aV t,IC n]):=by
 have a:=YM n p t [];rw[b] at a;have c:List.replicate n ([C.int .i64 0,C.int .i64 0,C.sl []]:List C)=(List.replicate n (Ty.mk 0 0 [])).map aI:=by rw[abW];rfl
 refine ah (fun h=>fL h (by omega)) (fun _=>?_);refine callO [9,8,19] [9,8,19] a rfl rfl rfl rfl rfl fun _ _=>?_;refine nk.mk (by omega) (abb _) (by omega) (by simp only[maxLen];omega) ?_;exact⟨vv (fun q=>[(8,TO.box 101 [.mpr 19]),(9,.box 37 [.fn 66 [] [.own 9 0,.pt [IC n] 0,.own 8 0]]),(19,.map (jl aV m)),(27,.row 32 3 q)]) c,rfl,rfl⟩
def SK:Ty:=.mk 0 0 []
def lp (n:Nat) (m:TM):List Ty:=(List.range n).map fun(i:Nat)=>(br m (i:Int)).getD SK
theorem HC {F:aA}:∀{m:TM}{cs:List Value}{j:Nat}{e:Value},fM F (jl aV m) cs->cs[j]?=some e->∃k t v,m[j]?=some (k,t)/\e=.agg #[.int .i64 k,v]/\Rel F [] (aV t) v/\(Lit.int .i64 k).wf=true
 | [],cs,j,e,h,a=>by
  simp only[jl,abC,fM] at h;subst h;simp at a
 | (k,t)::m,cs,j,e,h,a=>by
  simp only[jl,aaX,fM] at h;obtain⟨kv,v,c,rfl,h1,f,b⟩:=h;rw[Rel] at h1;obtain⟨rfl,d⟩:=h1;cases j with
  | zero =>
   rw[aa3] at a;injection a with a
   exact⟨k,t,v,rfl,a.symm,f,d⟩
  | succ j =>
   rw[abe] at a;exact HC (m:=m) b a
theorem Ey {F:aA}:∀{m:TM}{cs:List Value},fM F (jl aV m) cs->cs.length=m.length
 | [],cs,h=>by simp only[jl,abC,fM] at h;subst h;rfl
 | (k,t)::m,cs,h=>by
  simp only[jl,aaX,fM] at h;obtain⟨kv,v,a,rfl,h1,c,b⟩:=h;rw[aa5,aa5,Ey (m:=m) b]
theorem zm {F:aA}{m:TM}{cs:List Value}(h:fM F (jl aV m) cs):lC cs=true:=by
 cases m with
 | nil=>simp only[jl,abC,fM] at h;subst h;rfl
 | cons p m =>
  simp only[jl,aaX,fM] at h;obtain⟨kv,v,a,rfl,_⟩:=h;rfl
abbrev RL (d a c:Nat) (cs:List Value) (v:Value) (n:Nat) (b:List Nat) (xs:List Value):Loc :=
 [(8,.box d 101 [.map (some a)]),(19,.box a 0 cs),(27,.row v 32 3 n xs),(29,.box c 0 (.tuple #[.map (some a),.int .i64 cs.length]::b.map fun(j:Nat)=>.int .i64 (j:Int)))]
def CU (n:Nat) (m:TM) (a:List Nat) (out:List Ty):Prop :=
 out.length=n/\a.Nodup/\(∀j∈a,j<m.length)/\∀i<n,out[i]?=some (if∃j∈a,(m[j]?).map (·.1)=some (i:Int) then(br m i).getD SK else SK)
theorem zn:∀(N:Nat) (l:List Nat),l.Nodup->(∀x∈l,x<N)->l.length<=N
 | 0,l,_,h=>by
  cases l with
  | nil=>exact aa0 _
  | cons x l=>exact fL (h x (by simp)) (abz _)
 | N+1,l,c,h=>by
  by_cases d:N∈l
  ·have h1:=zn N (l.erase N) (c.erase N) fun x a=>by
    have b:=(c.mem_erase_iff).1 a;have:=h x b.2;omega
   rw[List.length_erase_of_mem d] at h1;omega
  ·have:=zn N l c fun x a=>by
    have h1:=h x a;have:x≠N:=fun e=>d (e▸a);omega
   omega
theorem Ez (a:List Nat):(a.map fun(j:Nat)=>Value.int .i64 (j:Int)).map iW=a:=by
 rw[abR];exact(abV fun j _=>(by show(j:Int).toNat=j;omega)).trans (List.map_id _)
theorem CU.all {n:Nat}{m:TM}{a:List Nat}{out:List Ty}(h:CU n m a out) (l:jc n m) (f:∀j<m.length,j∈a):out=lp n m:=by
 obtain⟨h1,o,k,d⟩:=h;refine um h1 (by simp[lp]) fun i hi=>?_;rw[d i hi,lp,aa4,List.getElem?_range hi];simp only[abo,xo];split
 ·rfl
 ·rename_i b;cases e:br m (i:Int) with
  | none=>rfl
  | some x =>
   obtain⟨j,c,he⟩:=List.mem_iff_getElem.1 (Ev e);exact fL ⟨j,f j c,by rw[aaO c,he];rfl⟩ b
theorem CU.next {n:Nat}{m:TM}{c:List Nat}{out:List Ty}{j:Nat}{k:Int}{t:Ty}(h:CU n m c out) (u:jc n m) (s:m[j]?=some (k,t)) (hn:j∉c):CU n m (c++[j]) (out.set k.toNat t):=by
 obtain⟨h1,z,x,v⟩:=h;have p:=aaW s;have w:=u.1 _ p;have y:=PY u.2 p;refine⟨by rw[abw];exact h1,List.nodup_append.2 ⟨z,by simp,fun a ha b hb=>by rw[abH.1 hb];exact fun e=>hn (e▸ha)⟩,fun i hi=>?_,fun i hi=>?_⟩
 ·rcases aaU.1 hi with hi | hi
  ·exact x i hi
  ·rw[abH.1 hi];exact(aaR.1 s).1
 ·rw[List.getElem?_set]
  by_cases e:k.toNat=i
  ·have r:k=(i:Int):=by omega
   rw[eu e,eu (by omega),eu ⟨j,by simp,by rw[s,r];rfl⟩,<-r,y];rfl
  ·rw[fo e,v i hi];have o:(∃l∈c++[j],(m[l]?).map (·.1)=some (i:Int))↔∃l∈c,(m[l]?).map (·.1)=some (i:Int):=by
    refine⟨fun⟨l,d,f⟩=>?_,fun⟨l,d,f⟩=>⟨l,List.mem_append_left _ d,f⟩⟩;rcases aaU.1 d with d | d
    ·exact⟨l,d,f⟩
    ·rw[abH.1 d,s] at f;injection f with f
     exact fL (by have:k=(i:Int):=f;omega) e
   by_cases f:∃l∈c,(m[l]?).map (·.1)=some (i:Int)
   ·rw[eu f,eu (o.2 f)]
   ·rw[fo f,fo (fun q=>f (o.1 q))]
theorem SL (F:aA) (g8 d:Nat) (cs:List Value) (v:Value) (n:Nat) (m:TM) (xs:List Value) (jk:Nat->Value) (ad:Option Addr) (c:Nat) (hv:v=.slice ad n c) (hm:fM F (jl aV m) cs) (hk:jc n m) (hx:aP F 3 ((List.replicate n SK).map aI) xs) (an:0<n->ad≠none)
  (N:dG) (hN:∀F' gi a ac ρ',F.le F'->aP F' 3 ((lp n m).map aI) ac->ρ' 10=.v v->N F' (RL g8 d gi cs v n a ac) ρ') :
  jz P y7 (fun _ _ _ _=>False) (fun _ _ _=>False) N F [(8,.box g8 101 [.map (some d)]),(19,.box d 0 cs),(27,.row v 32 3 n xs)] (Fr.put (some 8) (.own 8 0) (Fr.put (some 10) (.v v) fun j=>.v (jk j))):=by
 refine Df.mk ⟨19,cs,rfl,zm hm,?_⟩;intro gi;refine JG.mk ⟨List Nat×List Value,([],xs),fun x F'=>F.le F'/\∃out,aP F' 3 (out.map aI) x.2/\CU n m x.1 out,[],fun _=>[],fun x=>RL g8 d gi cs v n x.1 x.2,fun x=>m.length-x.1.length,?_,trivial,?_,fun x=>?_,?_⟩
 ·refine⟨aA.le_refl F,List.replicate n SK,hx,abk,List.nodup_nil,(fun j h=>by cases h),fun i hi=>?_⟩;rw[fo (fun⟨j,hj,_⟩=>by cases hj),ab0,eu hi]
 ·exact⟨.inl rfl,.inl rfl,.inl rfl,.inl rfl,trivial⟩
 ·exact⟨⟨_,rfl⟩,⟨_,rfl⟩,⟨_,rfl⟩,trivial⟩
 rintro⟨a,xs⟩ F' bv bs ⟨b,out,hr,f,s,q,w⟩;refine JD.mk ⟨19,cs,rfl,zm hm,rfl,fun j en hj y=>?_,fun ab=>?_⟩
 ·obtain⟨k,t,v',e1,rfl,e3,e4⟩:=HC hm hj;have al:=hk.1 _ (aaW e1);simp only[aB,Rel] at e3;obtain⟨w3,rfl,w1,_,rfl,⟨rfl,ay⟩,w2,_,rfl,⟨rfl,bd⟩,w3,_,rfl,⟨a3,c3,rfl,az,ba,be,r⟩,rfl⟩:=e3;rw[Ez] at y;refine Gn.mk ⟨19,cs,j,_,rfl,zm hm,rfl,List.getLast?_concat,hj,?_⟩;intro bo;subst hv;have am:0<n:=by omega
  obtain⟨a0,ag⟩:=Option.ne_none_iff_exists'.1 (an am);have bc:xs.length=n*3:=by
   have:=iE hr
   rwa [vz,f] at this
  refine JC.mk (an am) al.1 al.2 ?_;refine qU.mk ⟨27,_,_,_,_,_,a0,c,rfl,ag,by rw[ag],?_,?_,?_⟩
  ·show k.toNat*3+0+3<=xs.length;rw[bc];omega
  ·intro u z;rcases aaT.1 z with rfl | z
   ·rfl
   rcases aaT.1 z with rfl | z
   ·rfl
   rcases aaT.1 z with rfl | z
   ·rfl
   cases z
  ·refine⟨(a++[j],bU xs (k.toNat*3+0) [.int .i64 t.kind,.int .i64 t.id,.slice a3 (t.args.map aI).length c3]),⟨b,out.set k.toNat t,?_,CU.next ⟨f,s,q,w⟩ hk e1 y⟩,trivial,⟨.inl rfl,.inl rfl,.inl rfl,.inl ?_,trivial⟩,?_⟩
   ·obtain⟨o,ho⟩:=gO (l:=out) (k:=k.toNat) (by omega);have p:=hr.set (j:=k.toNat) (es:=aI o) (ds:=[IC t.kind,IC t.id,.sl (t.args.map aI)]) (us:=[.int .i64 t.kind,.int .i64 t.id,.slice a3 (t.args.map aI).length c3]) (off:=0) (by rw[aa4,ho];rfl) (by simp) (by
     simp only[aB,Rel];refine⟨_,_,rfl,⟨rfl,ay⟩,_,_,rfl,⟨rfl,bd⟩,_,_,rfl,⟨a3,c3,rfl,az,ba,be,?_⟩,rfl⟩;obtain⟨sz,r⟩:=r;exact⟨sz,gK.mono b r⟩) rfl
    have e:jo (aI o) 0 [IC t.kind,IC t.id,.sl (t.args.map aI)]=aI t:=by
     rw[iJ o,iJ t];rfl
    rw[e,<-List.map_set] at p;exact p
   ·rw[abB];rfl
   ·show m.length-(a++[j]).length<m.length-a.length;have h1:=(aaR.1 e1).1;have ae:=CU.next ⟨f,s,q,w⟩ hk e1 y;have h2:(a++[j]).length<=m.length:=zn _ _ ae.2.1 ae.2.2.1;rw[abI] at h2 ⊢;simp only[aa5,abL] at h2 ⊢;omega
 ·have ha:∀j<m.length,j∈a:=fun j hj=>by
   have:=ab j (by rw[Ey hm];exact hj)
   rwa [Ez] at this
  have e:=CU.all ⟨f,s,q,w⟩ hk ha;rw[e] at hr;exact hN F' gi a xs _ b hr rfl
def MQ (b:Nat) (G:Nat->Option (Nat×TypeId)) (F0:aA) (Li:List Own) (w0:World) (K:TK) (a:Act) (w:World):Prop :=
 ∃F L ρ M τ,St F L w/\aD L ρ a/\TS G F L ρ M τ/\a.tmps.size=b/\Step F0 (inp Li) w0 F L w/\K M τ
section
variable {G:Nat->Option (Nat×TypeId)}{F0:aA}{Li:List Own}{w0:World}
theorem MQ.seq {A:cW}{c b:Code}{o sc2:au}(u:low Try.prog A c=some o) (p:fZ o=[]) {N K:TK}{a:Act}{w:World}(h:MQ A.n G F0 Li w0 K a w)
  (y:∀M τ,K M τ->evalTC P ⟨fun _=>False,[],none⟩ (.seq o sc2) (fun _ _ _=>False) (fun _ _=>False) N M τ) {Q:Exit->Act->World->Prop}
  (x:∀a' w',a'.defers=a.defers->MQ A.n G F0 Li w0 (fun M τ=>evalTC P ⟨fun _=>False,[],none⟩ sc2 (fun _ _ _=>False) (fun _ _=>False) N M τ) a' w'->b.wp P Q a' w'):(c.seq b).wp P Q a w:=by
 obtain⟨F,L,ρ,M,τ,g1,g2,z,g4,g5,m⟩:=h;refine wp_seq (wp_mono (fH c u (fun k m=>by rw[p] at m;cases m) g1 g2 z g4 (y M τ m)) ?_);intro e a' w' f;cases e with
 | normal =>
  obtain⟨F',L',ρ',k1,r,q,s,t,k6,M',d,k7,k8⟩:=f;exact x a' w' s ⟨F',L',ρ',M',d,k1,r,k7,q,g5.trans t,k8⟩
 | exit j=>obtain⟨F',L',ρ',_,_,_,_,_,_,M',d,_,h⟩:=f;exact h.elim
 | ret=>obtain⟨F',L',ρ',_,_,_,_,_,_,M',d,_,h⟩:=f;exact h.elim
 | goto l=>exact f.elim
 | panic ch=>obtain⟨v,ab,F',L',k1,r,q,s,t,kp,hp,_⟩:=f;exact hp.elim
 | outgrown=>exact f.elim
theorem MQ.one {A:cW}{c b:Code}{d:au}(f:low Try.prog A c=some d) (e:fZ d=[]) {N K:TK}{a:Act}{w:World}(h:MQ A.n G F0 Li w0 K a w)
  (l:∀M τ,K M τ->evalTC P ⟨fun _=>False,[],none⟩ d (fun _ _ _=>False) (fun _ _=>False) N M τ) {Q:Exit->Act->World->Prop}
  (k:∀a' w',a'.defers=a.defers->MQ A.n G F0 Li w0 N a' w'->b.wp P Q a' w'):(c.seq b).wp P Q a w :=
 MQ.seq (sc2:=.skip) f e h (fun M τ q=>l M τ q) fun a' w' j m=>k a' w' j m
theorem Step.cut {F F':aA}{L L' L2:Loc}{w w':World}(h:Step F L w F' L' w') (a:L'.part L2):Step F L w F' L2 w' :=
 ⟨h.le,h.os,h.tape,h.output,h.size,h.same,h.frz,fun b ⟨k,o,e,hb⟩=>h.own b ⟨k,o,a k o e,hb⟩⟩
theorem HE {L L2:Loc}(h:∀p∈L2,L.get p.1=some p.2):L.part L2:=by
 intro k o e
 induction L2 with
 | nil=>cases e
 | cons p L2 a =>
  obtain⟨j,q⟩:=p;simp only[Loc.get] at e;cases hb:Nat.beq j k with
  | true =>
   rw[hb] at e;injection e with e
   have:=h (j,q) (by simp);rw[<-e,<-aaQ hb];exact this
  | false =>
   rw[hb] at e;exact a (fun p b=>h p (by simp[b])) e
theorem UX (hG:∀k,G k=none) {n:Nat}{m:TM}{K:TK}{a:Act}{w:World}(hk:jc n m) (h:MQ 40 G F0 Li w0 K a w) (hK:∀M τ,K M τ->M=ML n m (List.replicate n (.mk 0 0 []))/\τ 8=.own 8 0/\τ 10=.rw 27) {Q:Exit->Act->World->Prop}
  (hN:∀a' w',a'.defers=a.defers->MQ 40 G F0 Li w0 (fun M τ=>M=[(27,.row 32 3 ((lp n m).map aI))]/\τ=bA (some 10) (.rw 27) fun _=>.any) a' w'->Q .normal a' w'):m7.wp P Q a w:=by
 obtain⟨F,L,ρ,M,τ,g1,g2,g3,g4,g5,bv⟩:=h;obtain⟨rfl,h8,an⟩:=hK M τ bv;have q8:=g3.tl 8;have s:=g3.tl 19;have r:=g3.tl 27;have q8:x7 F L (some (.box 101 [.mpr 19])) (L.get 8):=q8;have s:x7 F L (some (.map (jl aV m))) (L.get 19):=s;have r:x7 F L (some (.row 32 3 ((List.replicate n (Ty.mk 0 0 [])).map aI))) (L.get 27):=r;have s8:=g3.env 8;have ay:=g3.env 10;rw[h8] at s8;rw[an] at ay;cases e8:L.get 8 with
 | none=>rw[e8] at q8;exact q8.elim
 | some o8 =>
 cases ae:L.get 19 with
 | none=>rw[ae] at s;exact s.elim
 | some bt =>
 cases ac:L.get 27 with
 | none=>rw[ac] at r;exact r.elim
 | some cb =>
 rw[e8] at q8;rw[ae] at s;rw[ac] at r;cases o8 with
 | row=>exact q8.elim
 | box g8 t8 c8 =>
 cases bt with
 | row=>exact s.elim
 | box o dd cs =>
 cases cb with
 | box=>exact r.elim
 | row v t27 cp c xs =>
 obtain⟨bs,bk⟩:=q8;obtain⟨rfl,hE⟩:=s;obtain⟨rfl,rfl,ab,⟨bo,av,cv,hv,ax⟩,bb⟩:=r;have ab:c=n:=by rw[ab,vz,abk]
 subst ab;simp only[aB,Rel] at bk;obtain⟨w0,_,rfl,⟨gm,cm,x,rfl⟩,rfl⟩:=bk;rw[ae] at x;injection x with x
 injection x with i1 _ i2
 subst i1 i2;have bz:t8=101:=by
  rcases bs.2.1 with q | q
  ·exact q.symm
  ·have q':(101:Nat)=(g8+1)*1048576+(t8:Nat):=q;omega
 subst bz;have az:ρ 8=.own 8 0:=s8.1;have al:ρ 10=.v v:=by
  obtain⟨u,q1,q2⟩:=ay;rw[q1];rw[Rel] at q2;obtain⟨_,_,_,_,_,_,_,q3⟩:=q2;rw[ac] at q3;injection q3 with q3
  injection q3 with q3
  rw[q3]
 have aa:L.part [(8,.box g8 101 [.map (some o)]),(19,.box o 0 cs),(27,.row v 32 3 c xs)]:=HE fun p z=>by
  rcases aaT.1 z with rfl | z
  ·exact e8
  rcases aaT.1 z with rfl | z
  ·exact ae
  rcases aaT.1 z with rfl | z
  ·exact ac
  cases z
 have ca:=g1.part aa;have a8:a.tmps.getD 8 undef=.pointer (some ⟨g8,0,none⟩):=by rw[g2.eq 8,az];simp only[conc,e8]
 have bp:a.tmps.getD 10 undef=v:=by rw[g2.eq 10,al];rfl
 have aw:aD [(8,.box g8 101 [.map (some o)]),(19,.box o 0 cs),(27,.row v 32 3 c xs)] (Fr.put (some 8) (.own 8 0) (Fr.put (some 10) (.v v) fun j=>.v (a.tmps.getD j undef))) a:=by
  refine⟨fun t=>?_,fun t k off e=>?_,fun t ad j e=>?_⟩
  ·by_cases h1:t=8
   ·subst h1;exact a8
   by_cases h2:t=10
   ·subst h2;exact bp
   have b1:Nat.beq t 8=false:=lR h1;have b2:Nat.beq t 10=false:=lR h2;simp only[Fr.put,b1,b2,conc]
  ·by_cases h1:t=8
   ·subst h1;have e:SV.own 8 0=SV.own k off:=e;injection e with e1 e2
    subst e1;exact⟨_,_,_,rfl⟩
   ·have b1:Nat.beq t 8=false:=lR h1;simp only[Fr.put,b1] at e;split at e<;>cases e
  ·by_cases h1:t=8
   ·subst h1;cases e
   ·have b1:Nat.beq t 8=false:=lR h1;simp only[Fr.put,b1] at e;split at e<;>cases e
 refine wp_mono (qA m7 UW ca aw g4 (SL F g8 o cs v c m xs _ av cv hv hE hk bb (fun h0 e=>by have:=ax e;omega) (fun F' L' ρ'=>∃gi f d,L'=RL g8 o gi cs v c f d/\aP F' 3 ((lp c m).map aI) d/\ρ' 10=.v v) (fun F' gi f d ρ' _ hx an=>⟨gi,f,d,rfl,hx,an⟩))) ?_;intro e a' w' hq;cases e with
 | normal =>
  obtain⟨F',L',ρ',k1,k2,k3,k4,k5,k6,gi,f,d,rfl,hx,bc⟩:=hq;have y:(RL g8 o gi cs v c f d).part [(27,.row v 32 3 c d)]:=HE fun p z=>by
   rcases aaT.1 z with rfl | z
   ·rfl
   cases z
  have ba:c=((lp c m).map aI).length:=by simp[lp]
  have bi:a'.tmps.getD 10 undef=v:=by rw[k2.eq 10,bc];rfl
  refine hN a' w' k4 ⟨F',[(27,.row v 32 3 c d)],fun j=>.v (a'.tmps.getD j undef),_,_,k1.part y,⟨fun t=>rfl,(fun t k off e=>by cases e),(fun t ad j e=>by cases e)⟩,⟨fun k=>?_,fun j=>?_,(fun k g t e=>by rw[hG k] at e;cases e),k1.glob⟩,k3,?_,rfl,rfl⟩
  ·by_cases bd:k=27
   ·subst bd;exact⟨rfl,rfl,ba,⟨bo,av,cv,hv,ax⟩,hx⟩
   ·have b:Nat.beq 27 k=false:=lR fun e=>bd e.symm;simp only[TL.get,Loc.get,b];trivial
  ·by_cases hj:j=10
   ·subst hj;show aN F' _ (.rw 27) (.v (a'.tmps.getD 10 undef));rw[bi,hv];exact lH (by rw[<-hv];rfl)
   ·have b:Nat.beq j 10=false:=lR hj;simp only[bA,b];trivial
  ·exact Step.cut ((Step.cut g5 aa).trans k5) y
 | exit j=>obtain⟨F',L',ρ',_,_,_,_,_,_,h⟩:=hq;exact h.elim
 | ret=>obtain⟨F',L',ρ',_,_,_,_,_,_,h⟩:=hq;exact h.elim
 | goto l=>exact hq.elim
 | panic ch=>obtain⟨v,dk,F',L',_,_,_,_,_,z⟩:=hq;exact z.elim
 | outgrown=>exact hq.elim
end
theorem UY:low Try.prog Jv (m8.seq .ret)=some (.seq y8 .ret):=by kernel_rfl
theorem mend (n:Nat) (m:TM) (R:List TO->C->Prop) (h:R [] (.tup [.sl ((lp n m).map aI),.bool true])) :
  evalTC P ⟨fun _=>False,[],none⟩ (.seq y8 .ret) (fun _ _ _=>False) (fun L ρ=>gR L ρ [(6,none),(7,none)] fun b=>gD [] L (gQ b) R) (fun _ _=>False) [(27,.row 32 3 ((lp n m).map aI))] (bA (some 10) (.rw 27) fun _=>.any):=by
 have a:gD [] [(27,.row 32 3 ((lp n m).map aI))] (.tup [.rw 27,.bool true]) (aU [] (.tup [.sl ((lp n m).map aI),.bool true])):=IG [27] [] ⟨_,[],rfl,rfl,rfl,rfl,rfl⟩;obtain⟨l,ko,a⟩:=a.out;refine gD.mk ⟨l,ko,GI.frzK_imp a ?_⟩;rintro L ρ b ⟨L1,c,f,Mo,h1,o,k,j,p,e⟩;exact⟨L1,c,f,Mo,h1,o,k,j,p,fun d=>by rw[(e d).1,(e d).2];exact h⟩
theorem UZ (p t:Ty) (n:Nat) (hn:n<=4) (m:TM) (hm:jZ n p t []=(m,true)):CallsT P 24 [aV p,aV t,IC n] [] (aU [] (.tup [.sl ((lp n m).map aI),.bool true])):=by
 have hk:jc n m:=by
  have:=fit_keys n p t [] ⟨by simp,by simp⟩
  rwa [hm] at this
 refine CallsTX.noPan ⟨fun F Li d hl f ha=>⟨⟨Try.f24,Try.func24,by rw[Ew];rfl,by kernel_rfl⟩,gP.aao,fun w hs=>?_⟩⟩;have ag:Li=[]:=List.length_eq_zero_iff.1 hl;subst ag;have aa:Try.f24.ntmps=40:=by kernel_rfl
 have r:d.length=3:=by have:=ha.len;simpa using this
 obtain⟨G0,ac,he,s,_⟩:=Mg (40-d.toArray.size) hl f ha hs
 let G:Nat->Option (Nat×TypeId):=fun _=>none
 refine calls_of_wp Try.func24 Ew ?_;rw[aa];have M0:MQ Jv.n G F [] w (fun M τ=>M=[]/\τ=j5 0 [aV p,aV t,IC n]) {tmps:=d.toArray++Array.replicate (40-d.toArray.size) undef,defers:=[]} w :=
  ⟨F,inp [],ac,_,_,hs,he,⟨s.tl,s.env,(fun k g t e=>by cases e),s.glob⟩,by simp[r,Jv],Step.refl _ _ _,rfl,rfl⟩
 generalize ad:({tmps:=d.toArray++Array.replicate (40-d.toArray.size) undef,defers:=[]}:Act)=a0 at M0;have x:a0.defers=[]:=by rw[<-ad]
 have o:=XI p t n hn m hm;refine MQ.seq UK rfl M0 (sc2:=.seq y1 (.seq y2 (.seq y3 (.seq y4 (.seq y5 y6))))) (fun M τ q=>by rw[q.1,q.2];exact o) fun a1 w1 y M1=>?_;refine MQ.seq UL rfl M1 (sc2:=.seq y2 (.seq y3 (.seq y4 (.seq y5 y6)))) (fun M τ q=>q) fun a2 w2 ae M2=>?_;refine MQ.seq UM rfl M2 (sc2:=.seq y3 (.seq y4 (.seq y5 y6))) (fun M τ q=>q) fun a3 w3 am M3=>?_;refine MQ.seq UN rfl M3 (sc2:=.seq y4 (.seq y5 y6)) (fun M τ q=>q) fun a4 w4 ab M4=>?_;refine MQ.seq UO rfl M4 (sc2:=.seq y5 y6) (fun M τ q=>q) fun a5 w5 an M5=>?_;refine MQ.seq UQ rfl M5 (sc2:=y6) (fun M τ q=>q) fun a6 w6 z M6=>?_;refine MQ.one UU rfl M6 (fun M τ q=>q) fun a7 w7 b M7=>?_;have b:a7.defers=[]:=by rw[b,z,an,ab,am,ae,y,x]
 refine wp_seq (UX (fun _=>rfl) hk M7 (fun M τ q=>q) fun a8 w8 u M8=>?_);obtain⟨F8,L8,bl,M,τ,g1,g2,g3,g4,g5,rfl,rfl⟩:=M8;show(m8.seq .ret).wp P _ a8 w8;refine wp_mono (fH (m8.seq .ret) UY (fun k _ al=>fL rfl al) g1 g2 g3 g4 (mend n m (aU [] (.tup [.sl ((lp n m).map aI),.bool true])) ⟨rfl,rfl⟩)) ?_;intro e a' w' c;cases e with
 | normal=>obtain⟨F',L',ρ',_,_,_,_,_,_,M',a,_,h⟩:=c;exact h.elim
 | exit j=>obtain⟨F',L',ρ',_,_,_,_,_,_,M',a,_,h⟩:=c;exact h.elim
 | ret =>
  obtain⟨F',L',ρ',k1,k2,k3,k4,k5,k6,M',a,k7,k8⟩:=c;have hf:=Bd (P:=P) (fn:=Try.f24) (rs:=[(6,none),(7,none)]) (n:=40) (asg:=[]) (a0:=a') (a':=a') (w':=w') (Li:=[]) (Lin:=[]) (w:=w) (F:=F) (G:=G) (R:=aU [] (.tup [.sl ((lp n m).map aI),.bool true])) (by kernel_rfl) rfl f (fun k g t cs e=>by cases e)
   ⟨F',L',ρ',k1,k2,k3,rfl,g5.trans k5,fun _ _=>rfl,M',a,k7,k8⟩
  obtain⟨_,v,q2,F2,Lo,q3,q4,q5⟩:=hf;exact⟨by rw[k4,u,b],v,q2,.inl ⟨v,F2,Lo,rfl,q3,q4,q5⟩⟩
 | goto l=>exact c.elim
 | panic ch=>obtain⟨v,bp,F',L',k1,k2,k3,k4,k5,kp,hp,_⟩:=c;exact hp.elim
 | outgrown=>exact c.elim
theorem CallsT.imp {P:Program}{f:Nat}{args:List C}{Lin:List TO}{R R':List TO->C->Prop}(h:CallsT P f args Lin R) (d:∀Mo c,R Mo c->R' Mo c):CallsT P f args Lin R' :=
 CallsTX.noPan (CallsTX.imp (Pp:=fun _=>False) h.toX d fun v q=>q)
mutual
def cnt:Ty->Nat
 | .mk _ _ l=>zo l+1
def zo:List Ty->Nat
 | []=>0
 | t::l=>cnt t+zo l
end
theorem F5 (t:Ty):cnt t=zo t.args+1:=by cases t;rfl
theorem HF:∀(l:List Ty) (m n:Int),0<=m->n<=mR l m n
 | [],m,n,_=>by rw[mR];exact abb _
 | x::l,m,n,h0=>by
  rw[mR];split
  ·rename_i h;have:=(FN x (m-n) (by omega)).1;have:=HF l m (n+few x (m-n)) h0;omega
  ·exact abb _
mutual
theorem HG:∀(t:Ty) (m:Int),0<=m->few t m<=m->(cnt t:Int)=few t m
 | .mk _ _ l,m,h0,h=>by
  rw[few] at h ⊢;rw[cnt,<-EA l m 1 h0 h];omega
theorem EA:∀(l:List Ty) (m n:Int),0<=m->mR l m n<=m->n+(zo l:Int)=mR l m n
 | [],m,n,_,_=>by rw[mR,zo];omega
 | x::l,m,n,h0,h=>by
  rw[mR] at h ⊢;split at h
  ·rename_i hn;rw[eu hn];have hge:=HF l m (n+few x (m-n)) h0;have h1:=HG x (m-n) (by omega) (by omega);have h2:=EA l m (n+few x (m-n)) h0 h;rw[zo];omega
  ·omega
end
theorem CV:∀{l:List Ty}{x:Ty},x∈l->cnt x<=zo l
 | t::l,x,h=>by
  rw[zo];rcases aaT.1 h with rfl | h
  ·omega
  ·have:=CV h;omega
theorem EB:∀l:List Ty,l.length<=zo l
 | []=>aa0 _
 | t::l=>by have:=EB l;have:=F5 t;rw[zo,aa5];omega
theorem HI:∀t:Ty,cnt t<=2 ^ 30->ji t:=dc fun t d h=>by
 rw[F5] at h;rw[gu];exact⟨by have:=EB t.args;omega,fun x c=>d x c (by have:=CV c;omega)⟩
theorem PZ:∀t:Ty,cu t<=cnt t:=dc fun t d=>by
 rw[F5,di];have:cG t.args<=zo t.args:=wZ fun x c=>abv (d x c) (CV c);omega
theorem BD {l:List Ty}(h:jw l=true):l.length<=8/\∀x∈l,ji x/\cu x<=30:=by
 unfold jw at h;rw[v5,aaY,aaZ] at h;refine⟨by omega,fun x c=>?_⟩;have h1:=abt (h.1 x c);have d:=HG x 30 (by omega) h1;exact⟨HI x (by omega),by have:=PZ x;omega⟩
theorem U0 (p t:Ty) (n:Nat) (f:n<=4) (m:TM) (d:jZ n p t []=(m,false)):CallsT P 24 [aV p,aV t,IC n] [] (aU [] (.tup [.sl [],.bool false])):=by
 have c:=YM n p t [];rw[d] at c;refine af Try.func24 GP rfl fun e _=>?_;refine ah (fun h=>fL h (by omega)) (fun _=>?_);refine callO [9,8,19] [9,8,19] c rfl rfl rfl rfl rfl fun _ _=>?_;exact aC rfl rfl
def zp (n:Nat) (p t:Ty):List Ty×Bool:=if(jZ n p t []).2 then(lp n (jZ n p t []).1,true) else([],false)
theorem t24 (p t:Ty) (n:Nat) (c:n<=4):CallsT P 24 [aV p,aV t,IC n] [] (aU [] (.tup [.sl ((zp n p t).1.map aI),.bool (zp n p t).2])):=by
 unfold zp;cases h:jZ n p t [] with
 | mk m b =>
  cases b with
  | true=>exact UZ p t n c m h
  | false=>exact U0 p t n c m h
theorem Q6.no {n:Nat}{s:List Ty}{a b:Ty}{e:Int}(h1:∃d o,bJ s n=some (some (d,o))) (f:nD s a b=true) (c:lQ n s a b=some none) (h:Q6 n s a b e):e=8:=by
 obtain⟨d,o,h1⟩:=h1;rcases h with⟨q,_⟩ | ⟨_,⟨q,_⟩ | ⟨_,⟨_,q⟩ | ⟨s',q,_⟩⟩⟩
 ·rw[h1] at q;cases q
 ·rw[f] at q;cases q
 ·exact q
 ·rw[c] at q;cases q
theorem P0:∀(n:Nat) (s:List Ty) (a b:Ty) (s':List Ty),(∀x∈s,ji x)->ji a->ji b->lQ n s a b=some (some s')->∀x∈s',ji x:=by
 intro n
 induction n with
 | zero=>intro s a b s' _ _ _ h;cases h
 | succ n ih =>
  intro s a b s' hs ha hb h;have k:∀{t r:Ty},aQ s n t=some r->ji t->ji r:=fun hf ht=>rG (p:=ji) (fun t x _ _ he _=>hs x (qH he)) hf ht;have c:∀{i:Nat}{b:Ty},ji b->∀x∈s.set i b,ji x:=fun hb x e=>by
   rcases ab4 e with e | rfl
   ·exact hs x e
   ·exact hb
  cases m:aQ s n a with
  | none=>rw[lQ,m] at h;cases h
  | some a' =>
  cases v:aQ s n b with
  | none=>rw[lQ,m,v] at h;cases h
  | some q =>
  rw[mN m v] at h;have j:=k m ha;have d:=k v hb;split at h
  ·split at h
   ·injection h with h;injection h with h;exact h▸hs
   ·injection h with h;injection h with h;rw[<-h]
    exact c ((gu _).2 ⟨aa8 _,fun x h=>by cases h⟩)
  ·split at h
   ·cases ho:lm s a'.id n q with
    | none=>rw[ho] at h;cases h
    | some o =>
     rw[ho] at h;cases o with
     | true=>cases h
     | false=>injection h with h;injection h with h;rw[<-h];exact c d
   ·split at h
    ·exact ih s q a' s' hs d j h
    ·split at h
     ·cases h
     ·have hL:∀(l f:List Ty) (s:List Ty),(∀x∈l,ji x)->(∀x∈f,ji x)->(∀x∈s,ji x)->kH (lQ n) s l f=some (some s')->∀x∈s',ji x:=by
       intro l
       induction l with
       | nil=>intro f s _ _ hs h;rw[kH] at h;injection h with h;injection h with h;exact h▸hs
       | cons x l u =>
        intro f s h1 h2 hs h;cases f with
        | nil=>cases h
        | cons y f =>
         rw[kH] at h;cases e:lQ n s x y with
         | none=>rw[e] at h;cases h
         | some r =>
          rw[e] at h;cases r with
          | none=>cases h
          | some s1=>exact u f s1 (fun z w=>h1 z (by simp[w])) (fun z w=>h2 z (by simp[w])) (ih s x y s1 hs (h1 x (by simp)) (h2 y (by simp)) e) h
      exact hL a'.args q.args s ((gu a').1 j).2 ((gu q).1 d).2 hs h
theorem F9 {s:List Ty}{a b:Ty}(hl:s.length<=2 ^ 30) (hs:∀x∈s,ji x) (ha:ji a) (hb:ji b) (hda:cu a<=2 ^ 40) (hdb:cu b<=2 ^ 40):∃n,CallsT P 23 [.sl (s.map aI),aV a,aV b] [] (RN n s a b)/\(∀s',L5 n s a b s'->EY s s')/\∃r,bJ s n=some r:=by
 obtain⟨n,F,d,c⟩:=Q8 s a b;refine⟨n,unify n s a b hl F hda hdb fun s' h=>⟨by rw[(c s' h).len];exact hl,?_,d s' h⟩,c,F.form⟩;exact P0 n s a b s' hs ha hb h.2.2.1
theorem iS {s:List Ty}{n m:Nat}{r q:Option (DM×OM)}(h:bJ s n=some r) (k:bJ s m=some q):r=q:=by
 have h1:=kI (Nat.le_max_left n m) h;have c:=kI (Nat.le_max_right n m) k;rw[h1] at c;exact abr c
theorem kP {s:List Ty}{a b:Ty}{n m:Nat}{r q:Option (List Ty)}(h:lQ n s a b=some r) (k:lQ m s a b=some q):r=q:=by
 have h1:=ic (Nat.le_max_left n m) h;have c:=ic (Nat.le_max_right n m) k;rw[h1] at c;exact abr c
theorem uD {s:List Ty}{t:Ty}{d:DM}{o:OM}{n m:Nat}{r q:Option (Int×DM×OM)}(h:bI s n t d o=some r) (k:bI s m t d o=some q):r=q:=by
 have h1:=gW (Nat.le_max_left n m) h;have c:=gW (Nat.le_max_right n m) k;rw[h1] at c;exact abr c
theorem Jk {s:List Ty}{n m:Nat}{r q:List Ty}(h:j3 s n=some r) (k:j3 s m=some q):r=q:=by
 have h1:=sU (Nat.le_max_left n m) h;have c:=sU (Nat.le_max_right n m) k;rw[h1] at c;exact abr c
section
variable {s:List Ty}{a b:Ty}(hl:s.length<=2 ^ 30) (hs:∀x∈s,ji x) (ha:ji a) (hb:ji b) (hda:cu a<=2 ^ 40) (hdb:cu b<=2 ^ 40)
include hl hs ha hb hda hdb
theorem Mi {m:Nat}(h1:∃d o,bJ s m=some (some (d,o))) (k:nD s a b=true) (f:lQ m s a b=some none):CallsT P 23 [.sl (s.map aI),aV a,aV b] [] (aU [] (.tup [.sl [],IC 8])):=by
 obtain⟨n,h,l,r,p⟩:=F9 hl hs ha hb hda hdb;obtain⟨d,o,h1⟩:=h1;refine CallsT.imp h ?_;rintro Mo c ⟨rfl,r,e,j,rfl⟩;rcases j with⟨s',g,_⟩ | ⟨g,rfl⟩
 ·have:=kP f g.2.2.1;cases this
 ·rcases g with⟨q,_⟩ | ⟨_,⟨q,_⟩ | ⟨_,⟨_,q⟩ | ⟨s',q,_⟩⟩⟩
  ·have:=iS h1 q;cases this
  ·rw[k] at q;cases q
  ·subst q;exact⟨rfl,rfl⟩
  ·have:=kP f q;cases this
theorem EC {m:Nat}(s' r:List Ty) (d:DM) (o:OM) (k:Int) (h1:∃d o,bJ s m=some (some (d,o))) (hp:nD s a b=true) (w:lQ m s a b=some (some s')) (y:bJ s' m=some (some (d,o))) (u:∃z o',bI s' m a d o=some (some (k,z,o'))) (hk:k<=8) (h5:j3 s' m=some r) :
  CallsT P 23 [.sl (s.map aI),aV a,aV b] [] (aU [] (.tup [.sl (r.map aI),IC 0])):=by
 obtain⟨n,h,hx,r',hr⟩:=F9 hl hs ha hb hda hdb;obtain⟨d1,o1,h1⟩:=h1;obtain⟨d2,o2,u⟩:=u;refine CallsT.imp h ?_;rintro Mo c ⟨rfl,ab,e,hu,rfl⟩;rcases hu with⟨v,g,hc,rfl⟩ | ⟨g,rfl⟩
 ·have f:=kP w g.2.2.1;injection f with f
  subst f;rw[Jk hc h5];exact⟨rfl,rfl⟩
 ·rcases g with⟨q,_⟩ | ⟨_,⟨q,_⟩ | ⟨_,⟨q,_⟩ | ⟨v,q,_,p⟩⟩⟩
  ·have:=iS h1 q;cases this
  ·rw[hp] at q;cases q
  ·have:=kP w q;cases this
  ·have f:=kP w q;injection f with f
   subst f;rcases p with p | ⟨z,o',p,j⟩
   ·have:=iS y p;cases this
   ·have l:=iS y p;injection l with l
    injection l with l e3
    subst l e3;rcases j with j | ⟨k',ae,ag,j,q4⟩
    ·have:=uD u j;cases this
    ·have t:=uD u j;injection t with t
     injection t with t
     omega
end
end Go.Fr.Try
