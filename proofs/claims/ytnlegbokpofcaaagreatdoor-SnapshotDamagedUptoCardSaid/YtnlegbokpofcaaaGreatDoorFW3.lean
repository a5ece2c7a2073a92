/- Part of the proofs of the statements of this seat. -/
import Derived.Test.YtnlegbokpofcaaaGreatDoorFW2
import Derived.Test.YtnlegbokpofcaaaGreatDoorFW1
import Derived.Tactics
import Derived.Tactics2
import Derived.Defers
import Derived.Recover
import Derived.OneCell
import Derived.ChangeArms
import Derived.DataReads
import Derived.Carry
import Derived.ChangeSame
import Derived.WalkKit
import Derived.ProofKit
import Derived.OpenShut
set_option maxRecDepth 10000
set_option linter.unusedVariables false
set_option linter.unusedSimpArgs false
namespace Go.Fr.T
open Go Go.RowKit Go.Fr
section
variable {P:Program}{PS:qw}{G:Nat->Option (Nat×TypeId)}{F:aD}{L:Loc}{ρ:Env}{M:TL}{τ:aV}{a:Act}{w:World}{Q:Exit->Act->World->Prop}{o:Oper}
theorem i9 {L2:Loc}(d:aH L ρ a) (b:aH L2 ρ a):∀xs:List X,bn L2 ρ xs=bn L ρ xs
 | []=>rfl
 | x::xs=>by
  have:val L2 ρ x=val L ρ x:=by
   cases x with
   | t n=>exact(b.eq n).symm.trans (d.eq n)
   | c v=>rfl
   | fn f=>rfl
   | mt nm n =>
    simp only[val,ev];cases ρ n<;>rfl
  simp only[bn,this,i9 d b xs]
theorem lM {f:Nat}{args:List C}{vs:List Value}{K:TL->aV->C->Prop}(j:St F L w) (t:aH L ρ a) (y:TS G F L ρ M τ) (r:aF F L args vs) (h:oZ P f args M τ K) :
  ∃F' L',St F' L' w/\aH L' ρ a/\Step F L w F' L' w/\dz P f vs F' L' (fun F' L' v=>∃M' b c,TS G F' L' ρ M' b/\aQ F' L' c (.v v)/\K M' b c):=by
 cases h with
 | inpl ks Lin R h1 h2 h3 h4=>exact⟨F,L,j,t,Step.refl _ _ _,vB y r h1 h2 h3 h4⟩
 | mk h =>
 obtain⟨fz,ks,ko,h⟩:=h;obtain⟨F1,L1,M1,ap,d,l,x,z,q,m,M2,Lin,R,e,s,p,k5,n,u,k,k9⟩:=qb j t y r h;rcases e with rfl | ⟨e,k2⟩
 ·exact⟨F1,_,l,x,z,rP q m s p k5 n u k k9⟩
 ·obtain⟨e1,e2,e3,e4,e5⟩:=qY l x q e k2;exact⟨F1,_,e1,e2,z.trans e3,rP e4 (m.ext (aD.le_refl F1) e5) s p k5 n u k k9⟩
theorem qd {f:Nat}{args:List C}{vs:List Value}{K:TL->aV->C->Prop}(m:St F L w) (y:aH L ρ a) (ht:TS G F L ρ M τ) (u:aF F L args vs) (h:pR P PS f args M τ K) (b:PS.st=none) :
  ∃F' L',St F' L' w/\aH L' ρ a/\Step F L w F' L' w/\fq P (zj G PS) f vs F' L' (fun F' L' v=>∃M' d c,TS G F' L' ρ M' d/\aQ F' L' c (.v v)/\K M' d c):=by
 cases h with
 | inpl ks Lin R Pp h1 h2 hh h3 hp h4=>exact⟨F,L,m,y,Step.refl _ _ _,ES ht u h1 h2 h3 hp b hh h4⟩
 | mk h =>
 obtain⟨fz,ks,ko,h⟩:=h;obtain⟨F1,L1,M1,ay,k,p,g2,g3,t,q,M2,Lin,R,Pp,l,x,s,k5,r,z,j,n,e,k9⟩:=qb m y ht u h;rcases l with rfl | ⟨l,k2⟩
 ·exact⟨F1,_,p,g2,g3,Av t q x s k5 r z j n e b k9⟩
 ·obtain⟨e1,e2,e3,e4,e5⟩:=qY p g2 t l k2;exact⟨F1,_,e1,e2,g3.trans e3,Av e4 (q.ext (aD.le_refl F1) e5) x s k5 r z j n e b k9⟩
theorem qe {f:Nat}{args:List C}{vs:List Value}{K:TL->aV->C->Prop}{st:TL->Value->Prop}(m:St F L w) (t:aH L ρ a) (x:TS G F L ρ M τ) (r:aF F L args vs) (h:Bx P PS.ps PS.hb st f args M τ K) (l:PS.st=some st) :
  ∃F' L',St F' L' w/\aH L' ρ a/\Step F L w F' L' w/\fq P (zj G PS) f vs F' L' (fun F' L' v=>∃M' b c,TS G F' L' ρ M' b/\aQ F' L' c (.v v)/\K M' b c):=by
 obtain⟨ks,ko,M2,Lin,R,Pp,k,s,q,y,p,u,j,n,d,z⟩:=h;have e:PS=⟨PS.ps,PS.hb,some st⟩:=by rw[<-l]
 rcases k with rfl | ⟨k,k2⟩
 ·exact⟨F,_,m,t,Step.refl _ _ _,Aw x r e s q y p u j n d z⟩
 ·obtain⟨e1,e2,e3,e4,e5⟩:=qY m t x k k2;exact⟨F,_,e1,e2,e3,Aw e4 (r.ext (aD.le_refl F) e5) e s q y p u j n d z⟩
theorem Ay:∀{cs:List C}{vs us:List Value},xZ cs=some us->aF F L cs vs->vs=us
 | [],vs,us,h,r=>by simp only[xZ,vz] at h;simp only[aF] at r;rw[r,<-h]
 | c::cs,vs,us,h,r=>by
  simp only[aF] at r;obtain⟨v,d,rfl,b,j⟩:=r;cases c<;>simp only[xZ,reduceCtorEq] at h
  all_goals
   split at h
   case h_2=>cases h
   rename_i e f;injection h with h
   subst h;rw[Ay f j];simp only[Rel] at b
   first
    | rw[b.1]
    | rw[b]
theorem Kb {c:C}{u v:Value}(h:C5 c=some u) (r:Rel F L c v):v=u/\∃t x,u=.iface t x:=by
 cases c<;>simp only[C5,reduceCtorEq] at h
 case ifc t c =>
  simp only[Rel] at r;obtain⟨x,rfl,r⟩:=r;cases c<;>simp only[C5,reduceCtorEq] at h
  case agg cs =>
   split at h
   case h_2=>cases h
   rename_i us b;injection h with h
   subst h;simp only[Rel] at r;obtain⟨vs,rfl,r⟩:=r;rw[Ay b r];exact⟨rfl,_,_,rfl⟩
  all_goals
   injection h with h
   subst h;simp only[Rel] at r
   first
    | (obtain⟨rfl,_⟩:=r;exact⟨rfl,_,_,rfl⟩)
    | (subst r;exact⟨rfl,_,_,rfl⟩)
theorem bg.from {F1:aD}{L1:Loc}{K:cQ}{c:Act}{w':World}(b:Step F L w F1 L1 w) (h:bg F1 L1 w a K c w'):bg F L w a K c w':=by
 obtain⟨F',L',ρ',e,j,k,f,l,d⟩:=h;exact⟨F',L',ρ',e,j,k,f,b.trans l,d⟩
theorem HT {own:Bool}{s:eH}{K:TK}(hs:St F L w) (l:aH L ρ a) (e:TS G F L ρ M τ) (hd:∀k,o.dst=some k->k<a.tmps.size) (hl:iD P own o.op=some s)
  (d:bN P s o.dst M τ K):o.wp P a w (bg F L w a (Both G K)) Q:=by
 by_cases hc:kT s=true
 ·cases s<;>simp only[kT,aaX] at hc
  ·rename_i f args;simp only[bN,fe,eL,dR] at d;obtain⟨F1,L1,p,h,y,r⟩:=lM hs l e (cW e.env args) d;refine Oper.wp_mono (fun a' w'=>bg.from y) (fo p h hd hl ?_);simp only[evalOp];rw[i9 l h];exact dz.imp r fun F' L' v ⟨M',z,c,m,j,q⟩=>m.aan j q
  ·rename_i fx args;simp only[bN,fe,eL,dR] at d;split at d
   ·rename_i f fi ca hx;obtain⟨bd,be,e1,m,j⟩:=tv e.env hx;obtain⟨F1,L1,p,h,y,r⟩:=lM hs l e (jF e.env m j args) d;refine Oper.wp_mono (fun a' w'=>bg.from y) (fo p h hd hl ?_);simp only[evalOp,e1,mq];rw[i9 l h];exact dz.imp r fun F' L' v ⟨M',z,c,m,j,q⟩=>m.aan j q
   ·rename_i nm c hx;split at d
    case h_2=>exact d.elim
    rename_i t c;obtain⟨u,e1,hr⟩:=yc e.env hx;simp only[Rel] at hr;obtain⟨u',rfl,hu⟩:=hr;obtain⟨f',hm,d⟩:=d;have b:aF F L (c::dZ τ args) ([u']++bn L ρ args++[]):=by
     rw[aaU];simp only[aaT,aa5,aF];exact⟨_,_,rfl,hu.lift,cW e.env args⟩
    obtain⟨F1,L1,p,h,y,r⟩:=lM hs l e b d;refine Oper.wp_mono (fun a' w'=>bg.from y) (fo p h hd hl ?_);have e2:mq P (ev ρ fx)=some (f',[u'],[]):=by rw[e1];simp only[mq,hm]
    simp only[evalOp,e2];rw[i9 l h];exact dz.imp r fun F' L' v ⟨M',z,c,m,j,q⟩=>m.aan j q
   ·rename_i nm t k off hx;obtain⟨g,t',cs,hg,e1⟩:=pT e.env hx;obtain⟨f',hm,d⟩:=d;have b:aF F L (.own k off::dZ τ args) ([.pointer (some ⟨g,off,none⟩)]++bn L ρ args++[]):=by
     rw[aaU];simp only[aaT,aa5,aF,Rel];exact⟨_,_,rfl,⟨g,t',cs,hg,rfl⟩,cW e.env args⟩
    obtain⟨F1,L1,p,h,y,r⟩:=lM hs l e b d;refine Oper.wp_mono (fun a' w'=>bg.from y) (fo p h hd hl ?_);have e2:mq P (ev ρ fx)=some (f',[.pointer (some ⟨g,off,none⟩)],[]):=by rw[e1];simp only[C4,mq,hm]
    simp only[evalOp,e2];rw[i9 l h];exact dz.imp r fun F' L' v ⟨M',z,c,m,j,q⟩=>m.aan j q
   ·rename_i t nm hx;split at d
    case h_2=>exact d.elim
    rename_i t' c ar ab x;have e1:=Ng e.env hx;obtain⟨f',hm,d⟩:=d;have ad:=cW e.env args;rw[x] at ad;simp only[aF,Rel] at ad;obtain⟨v0,n,ax,⟨u,rfl,hu⟩,ae⟩:=ad;have b:aF F L (c::ar) (u::n):=by
     simp only[aF];exact⟨_,_,rfl,hu.lift,ae⟩
    obtain⟨F1,L1,p,h,y,r⟩:=lM hs l e b d;refine Oper.wp_mono (fun a' w'=>bg.from y) (fo p h hd hl ?_);have hi:∃ms,P.underlying t=some (.interface ms):=by
     unfold PV at ab;split at ab
     ·exact⟨_,by assumption⟩
     ·cases ab
    obtain⟨ms,hi⟩:=hi;have e2:mq P (ev ρ fx)=none:=by rw[e1];rfl
    have e3:zW P (ev ρ fx) (bn L1 ρ args)=some (f',u::n):=by
     rw[i9 l h,ax,e1];simp only[zW,hi,hm]
    simp only[evalOp,e2,e3];exact dz.imp r fun F' L' v ⟨M',z,c,m,j,q⟩=>m.aan j q
   ·exact d.elim
 ·exact fo hs l hd hl (Ka (by simpa using hc) e d)
theorem HU {own:Bool}{s:eH}{K:TK}(hs:St F L w) (q:aH L ρ a) (j:TS G F L ρ M τ) (hd:∀k,o.dst=some k->k<a.tmps.size) (hl:iD P own o.op=some s)
  (d:vq P PS s o.dst M τ K) (hQ:∀v z w' F' L',Em v z->St F' L' w'->Step F L w F' L' w'->zj G PS F' L' v->Q (.panic z) a w'):o.wp P a w (bg F L w a (Both G K)) Q:=by
 cases s<;>simp only[vq] at d<;>try (exact d.elim)
 ·rename_i f args;simp only[fe,eL,dR] at d;have key:∃F' L',St F' L' w/\aH L' ρ a/\Step F L w F' L' w/\fq P (zj G PS) f (bn L ρ args) F' L' (fun F' L' v=>∃M' h c,TS G F' L' ρ M' h/\aQ F' L' c (.v v)/\K M' (bD o.dst c h)):=by
   split at d
   ·rename_i b;exact qd hs q j (cW j.env args) d b
   ·rename_i st b;exact qe hs q j (cW j.env args) d b
  obtain⟨F1,L1,g1,g2,g3,g4⟩:=key;refine Oper.wp_mono (fun a' w'=>bg.from g3) (vV (PX:=zj G PS) g1 g2 hd hl ?_ fun v z w' F' L' qc q1 q2 q3=>hQ v z w' F' L' qc q1 (g3.trans q2) q3);rw[i9 q g2];exact fq.imp g4 fun F' L' v ⟨M',h,c,l,m,r⟩=>l.aan m r
 ·rename_i fx args;split at d
  ·rename_i f fi ca hx;simp only[fe,eL,dR] at d;obtain⟨ad,al,e1,l,m⟩:=tv j.env hx;have key:∃F' L',St F' L' w/\aH L' ρ a/\Step F L w F' L' w/\fq P (zj G PS) f (ad++bn L ρ args++al) F' L' (fun F' L' v=>∃M' h c,TS G F' L' ρ M' h/\aQ F' L' c (.v v)/\K M' (bD o.dst c h)):=by
    split at d
    ·rename_i b;exact qd hs q j (jF j.env l m args) d b
    ·rename_i st b;exact qe hs q j (jF j.env l m args) d b
   obtain⟨F1,L1,g1,g2,g3,g4⟩:=key;refine Oper.wp_mono (fun a' w'=>bg.from g3) (pO (PX:=zj G PS) (f:=f) (fi:=ad) (ca:=al) g1 g2 hd hl (by rw[e1];simp only[mq]) ?_ fun v z w' F' L' qc q1 q2 q3=>hQ v z w' F' L' qc q1 (g3.trans q2) q3);rw[i9 q g2];exact fq.imp g4 fun F' L' v ⟨M',h,c,l,m,r⟩=>l.aan m r
  ·rename_i nm t k off hx;simp only[fe,eL,dR] at d;obtain⟨g,t',cs,hg,e1⟩:=pT j.env hx;obtain⟨f',hm,d⟩:=d;have n:aF F L (.own k off::dZ τ args) ([.pointer (some ⟨g,off,none⟩)]++bn L ρ args++[]):=by
    rw[aaU];simp only[aaT,aa5,aF,Rel];exact⟨_,_,rfl,⟨g,t',cs,hg,rfl⟩,cW j.env args⟩
   have key:∃F' L',St F' L' w/\aH L' ρ a/\Step F L w F' L' w/\fq P (zj G PS) f' ([.pointer (some ⟨g,off,none⟩)]++bn L ρ args++[]) F' L' (fun F' L' v=>∃M' h c,TS G F' L' ρ M' h/\aQ F' L' c (.v v)/\K M' (bD o.dst c h)):=by
    split at d
    ·rename_i b;exact qd hs q j n d b
    ·rename_i st b;exact qe hs q j n d b
   obtain⟨F1,L1,g1,g2,g3,g4⟩:=key;refine Oper.wp_mono (fun a' w'=>bg.from g3) (pO (PX:=zj G PS) (f:=f') (fi:=[.pointer (some ⟨g,off,none⟩)]) (ca:=[]) g1 g2 hd hl (by rw[e1];simp only[C4,mq,hm]) ?_ fun v z w' F' L' qc q1 q2 q3=>hQ v z w' F' L' qc q1 (g3.trans q2) q3);rw[i9 q g2];exact fq.imp g4 fun F' L' v ⟨M',h,c,l,m,r⟩=>l.aan m r
  ·exact d.elim
 ·rename_i x;have d:∃u,C5 (cm τ x)=some u/\lW M [] PS.hb=true/\PS.ps u/\∀s,PS.st=some s->s M u:=by
   split at d
   ·rename_i b;obtain⟨u,l,p,m⟩:=d;exact⟨u,l,p,m,fun s e=>by rw[b] at e;cases e⟩
   ·rename_i st b;obtain⟨u,l,p,m,r⟩:=d;exact⟨u,l,p,m,fun s e=>by rw[b] at e;injection e with e;subst e;exact r⟩
  obtain⟨u,l,p,m,r⟩:=d;have hr:=lJ (dD j.env x);have hc:(cm τ x).cel=cm τ x:=by
   cases e:cm τ x<;>rw[e] at l<;>first | rfl | (simp only[C5,reduceCtorEq] at l;done)
  rw[hc] at hr;obtain⟨e1,t,y,e2⟩:=Kb l hr;refine HA (PX:=zj G PS) hs q hl (t:=t) (u:=y) (e1.trans e2) ⟨j.kp,by rw[<-e2];exact m,J4 j.tl p fun k g t cs _ e=>e,fun s e=>⟨M,Au j.tl,by rw[<-e2];exact r s e⟩⟩ hQ
theorem EV (f:aH L ρ a) (b:TS G F L ρ M τ) (d:Option Nat):∃ρ',aH L ρ' a/\TS G F L ρ' M (sH d τ):=by
 cases d with
 | none=>exact⟨ρ,f,b⟩
 | some k =>
  have r:∀j,sH (some k) τ j=if j=k then(τ k).aaC else τ j:=by
   intro j;simp only[sH];cases h:Nat.beq j k with
   | true=>have:=vv h;simp[this]
   | false=>have:=fJ h;simp[this]
  by_cases c:∃q off,τ k=.ownv q off
  ·obtain⟨q,off,c⟩:=c;have m:=b.env k;rw[c] at m;simp only[aQ,Rel] at m;obtain⟨v,p,g,t,cs,l,rfl⟩:=m;have s:conc L (ρ k)=.pointer (some ⟨g,off,none⟩):=p.conc;refine⟨Fr.put (some k) (.own q off) ρ,⟨fun n=>?_,fun n j o e=>?_,fun n u j e=>?_⟩,b.tl,fun j=>?_,b.kp,b.glob⟩
   ·rw[f.eq n,put_eq];simp only[];split
    ·rename_i h;subst h;rw[s];simp only[conc,l]
    ·rfl
   ·rw[put_eq] at e;simp only[] at e;split at e
    ·injection e with q1 q2;subst q1;exact⟨g,t,cs,l⟩
    ·exact f.own _ _ _ e
   ·rw[put_eq] at e;simp only[] at e;split at e
    ·cases e
    ·exact f.el _ _ _ e
   ·rw[r,put_eq];simp only[];split
    ·rw[c];exact⟨rfl,g,t,cs,l⟩
    ·exact b.env j
  ·refine⟨ρ,f,b.tl,fun j=>?_,b.kp,b.glob⟩;rw[r];split
   ·rename_i h;subst h;have:(τ j).aaC=τ j:=by
     cases e:τ j<;>first | rfl | exact o4 ⟨_,_,e⟩ c
    rw[this];exact b.env j
   ·exact b.env j
def uD (G:Nat->Option (Nat×TypeId)) (PS:qw) (ks:List Nat):Prop:=∀k∈ks,G k≠none->1000<=k\/fW (PS.hb.map (·.1)) k=true
theorem uD.left {ks b:List Nat}(h:uD G PS (ks++b)):uD G PS ks:=fun k c=>h k (w8.2 (.inl c))
theorem uD.right {ks b:List Nat}(h:uD G PS (ks++b)):uD G PS b:=fun k c=>h k (w8.2 (.inr c))
theorem mH:∀(a b:List aA),dL (a++b)=dL a++dL b
 | [],b=>rfl
 | .frz k::a,b=>by simp only[aaT,dL,mH a b]
 | .op _ _ _::a,b=>by simp only[aaT,dL,mH a b]
 | .pc _ _ _::a,b=>by simp only[aaT,dL,mH a b]
theorem Dj {k:Nat}{K:TK}{q:TL->aV->TK->Prop}(p:St F L w) (r:aH L ρ a) (s:TS G F L ρ M τ) (y:G k≠none->1000<=k\/fW (PS.hb.map (·.1)) k=true) (h:stepT P PS false (.frz k) q M τ K) :
  ∃F' L' ρ' M' b,St F' L' w/\aH L' ρ' a/\Step F L w F' L' w/\TS G F' L' ρ' M' b/\q M' b K:=by
 simp only[stepT,fe] at h;split at h
 ·rename_i t sz els l;obtain⟨F1,L1,d,m,n,f,_⟩:=tE p r s l;exact⟨F1,L1,ρ,_,_,d,m,n,f,h⟩
 ·rename_i t cs l;split at h
  case h_2=>exact h.elim
  rename_i z u e3 v;have j:G k=none:=by
   cases e:G k with
   | none=>rfl
   | some x =>
    rcases y (by rw[e];simp) with h1 | h1
    ·rw[Nat.blt_eq] at e3;omega
    ·rw[v] at h1;cases h1
  obtain⟨F1,L1,c,d,m,n,f⟩:=ET p r s l z u j;exact⟨F1,L1,c,_,_,d,m,n,f,h⟩
 ·exact h.elim
theorem yA {A:cK}{r:Nat}{l:Array Oper}{K:TK}:∀(is:List Nat) {ss:List aA}{F:aD}{L:Loc}{ρ:Env}{M:TL}{τ:aV}{a:Act}{w:World},qF P A r l is=some ss->uD G PS (dL ss)->St F L w->aH L ρ a->TS G F L ρ M τ->a.tmps.size=A.n ->
  dK P PS false ss M τ K->(∀a' w',eS A.n F L w a (dstsOf l is) (Both G K) a' w'->Q .normal a' w') ->
  (∀v ch a' w',Em v ch->sF A.n F L w a (dstsOf l is) (zj G PS) v a' w'->Q (.panic ch) a' w')->wpOps P l Q is a w:=by
 intro is
 induction is with
 | nil =>
  intro ss F L ρ M τ a w hl bu hs he ht hn q hQ bj;simp only[qF,vz] at hl;subst hl;exact hQ a w ⟨F,L,ρ,hs,he,hn,rfl,Step.refl _ _ _,fun _ _=>rfl,M,τ,ht,q⟩
 | cons i is ih =>
  intro ss F L ρ M τ a w hl bu hs he ht hn q hQ bj;simp only[qF] at hl;split at hl
  case h_1=>cases hl
  rename_i o hi;split at hl
  case h_2=>cases hl
  rename_i g s z hg ci bl ax;injection hl with hl
  subst hl;have av:∀(ks:List Nat) {x:aA}{F:aD}{L:Loc}{ρ:Env}{M:TL}{τ:aV},uD G PS (dL (ks.map aA.frz++x::z))->St F L w->aH L ρ a->TS G F L ρ M τ->dK P PS false (ks.map aA.frz++x::z) M τ K ->
    ∃F' L' ρ' M' al,St F' L' w/\aH L' ρ' a/\Step F L w F' L' w/\TS G F' L' ρ' M' al/\dK P PS false (x::z) M' al K:=by
   intro ks
   induction ks with
   | nil=>intro x F L ρ M τ _ hs he ht h;exact⟨F,L,ρ,M,τ,hs,he,Step.refl _ _ _,ht,h⟩
   | cons k ks cY =>
    intro x F L ρ M τ hz hs he ht h;simp only[aaS,aaT,fF] at h;obtain⟨F1,L1,co,M1,u,g1,g2,g3,g4,h⟩:=Dj hs he ht (hz k (by simp[dL])) h;obtain⟨F2,L2,cf,M2,cy,k1,k2,k3,k4,k5⟩:=cY (fun j hj=>hz j (by simp only[aaS,aaT,dL];exact aa8 _ hj)) g1 g2 g4 h;exact⟨F2,L2,cf,M2,cy,k1,k2,g3.trans k3,k4,k5⟩
  have bp:uD G PS (dL z):=fun j hj=>bu j (by
   rw[mH];refine w8.2 (.inr ?_);cases hp:vR A.pan r i<;>simp only[oe,dL]<;>exact hj)
  obtain⟨F1,L1,co,M1,u,cb,am,an,m,q⟩:=av _ bu hs he ht q
  clear av he ht
  revert am m
  generalize co=ρ;intro am m;have hd:∀k,o.dst=some k->k<a.tmps.size:=by
   intro k hk;rw[hk] at bl;rw[hn];have h2:Nat.blt k A.n=true:=bl;simpa using h2
  have bz:dstsOf l (i::is)=match o.dst with | some d=>d::dstsOf l is | none=>dstsOf l is:=by
   simp only[dstsOf,hi,Option.bind_some];rfl
  have ad:∀j,j∉dstsOf l (i::is)->o.dst≠some j/\j∉dstsOf l is:=by
   intro j hj;rw[bz] at hj;cases ho:o.dst with
   | none=>rw[ho] at hj;exact⟨by simp,hj⟩
   | some d =>
    rw[ho] at hj;simp only[xC,not_or] at hj;exact⟨by simp;exact fun e=>hj.1 e.symm,hj.2⟩
  have after:∀{KK:Prop},o.wp P a w (fun a' w'=>bg F1 L1 w a (Both G fun M' al=>dK P PS false z M' (sH o.dst al) K) a' w') Q->o.wp P a w (wpOps P l Q is) Q:=by
   intro _ this;refine Oper.wp_mono ?_ (qG (asg:=[]) this);rintro a' w' ⟨⟨F',L',ρ',g1,g2,g3,g4,g5,M',al,g6,g7⟩,cp⟩;obtain⟨cf,n1,n2⟩:=EV g2 g6 o.dst;refine ih ax bp g1 n1 n2 (by rw[g3,hn]) g7 ?_ ?_
   ·rintro ao ap ⟨F'',L'',aw,k1,k2,k3,k4,k5,k6,k7⟩;refine hQ ao ap ⟨F'',L'',aw,k1,k2,k3,k4.trans g4,(an.trans g5).trans k5,fun j hj=>?_,k7⟩;obtain⟨n1,n2⟩:=ad j hj;rw[k6 j n2,cp j n1]
   ·rintro v ch ao ap kc ⟨F'',L'',k1,k2,k3,k4,k5,k6⟩;refine bj v ch ao ap kc ⟨F'',L'',k1,(an.trans g5).trans k2,k3,k4.trans g4,fun j hj=>?_,k6⟩;obtain⟨n1,n2⟩:=ad j hj;rw[k5 j n2,cp j n1]
  have ay:∀{u:aV},TS G F1 L1 ρ M1 u->bN P s o.dst M1 u (fun M' al=>dK P PS false z M' (sH o.dst al) K)->o.wp P a w (wpOps P l Q is) Q:=by
   intro u m q;exact after (KK:=True) (HT (Q:=Q) cb am m hd ci q)
  have ar:∀{u:aV},TS G F1 L1 ρ M1 u->vq P PS s o.dst M1 u (fun M' al=>dK P PS false z M' (sH o.dst al) K)->o.wp P a w (wpOps P l Q is) Q:=by
   intro u m q;exact after (KK:=True) (HU (Q:=Q) cb am m hd ci q fun v ch w' F' L' qc q1 q2 q3=>bj v ch a w' qc ⟨F',L',q1,an.trans q2,hn,rfl,fun _ _=>rfl,q3⟩)
  have skip:∀{u:aV},TS G F1 L1 ρ M1 u->dK P PS false z M1 (bD o.dst .und u) K->wpOps P l Q is (a.put o.dst undef) w:=by
   intro u m q;have da:=am.put hd (v:=undef) (x:=.v undef) rfl bS dG (rJ L1);refine ih ax bp cb da (m.put (c:=.und) (sv:=.v undef) ⟨_,rfl,by simp only[Rel]⟩ o.dst) (by rw[lg,hn]) q ?_ ?_
   ·rintro ao ap ⟨F'',L'',aw,k1,k2,k3,k4,k5,k6,k7⟩;refine hQ ao ap ⟨F'',L'',aw,k1,k2,k3,k4.trans (gY _ _ _),an.trans k5,fun j hj=>?_,k7⟩;obtain⟨n1,n2⟩:=ad j hj;rw[k6 j n2,kM n1]
   ·rintro v ch ao ap kc ⟨F'',L'',k1,k2,k3,k4,k5,k6⟩;refine bj v ch ao ap kc ⟨F'',L'',k1,an.trans k2,k3,k4.trans (gY _ _ _),fun j hj=>?_,k6⟩;obtain⟨n1,n2⟩:=ad j hj;rw[k5 j n2,kM n1]
  simp only[wpOps,hi];cases cl:vR A.pan r i with
  | false =>
   rw[cl] at q;cases aa:o.guard with
   | none =>
    rw[aa] at hg;simp only[iF,vz] at hg;subst hg;simp only[oe,fF,stepT] at q;rw[eu (by simp[Region.wanted,aa])];exact .inl (ay m q)
   | some p =>
    obtain⟨j,y⟩:=p;rw[aa] at hg;simp only[iF] at hg;split at hg
    case h_2=>cases hg
    rename_i d aE;injection hg with hg
    subst hg;simp only[oe,fF,stepT] at q;split at q
    ·rename_i b hb;have ae:ρ d=.v (.bool b):=iJ (x:=.t d) m.env hb;have f:=am.eq d;rw[ae] at f;have hy:yielded l a.tmps j=some b:=by
      simp only[yielded,aE,Option.bind_some,rK f]
     have hw:Region.wanted o (yielded l a.tmps)=(b == y):=by
      simp only[Region.wanted,aa,hy];cases b<;>cases y<;>rfl
     have ac:TS G F1 L1 ρ M1 (bD (some d) (.bool b) u):=by
      have:=m.put (c:=.bool b) (sv:=.v (.bool b)) ⟨_,rfl,by simp only[Rel]⟩ (some d)
      rwa [lm ae] at this
     rw[hw];cases b<;>simp only[xk] at q
     ·cases y
      ·exact .inl (ay ac q)
      ·exact skip ac q
     ·cases y
      ·exact skip ac q
      ·exact .inl (ay ac q)
    ·rename_i hb;have hr:=m.env d;rw[hb] at hr;simp only[aQ,Rel] at hr;obtain⟨v,ae,rfl⟩:=hr;have f:=am.eq d;rw[ae] at f;have hy:yielded l a.tmps j=none:=by
      simp only[yielded,aE,Option.bind_some];rw[abf] at f;cases e:a.tmps[d]? with
      | none=>rfl
      | some v=>rw[e] at f;simp only[Option.getD_some,conc] at f;rw[f];rfl
     have hw:Region.wanted o (yielded l a.tmps)=false:=by
      simp only[Region.wanted,aa,hy];rfl
     rw[hw];exact skip m q
    ·exact q.elim
  | true =>
   rw[cl] at q;cases aa:o.guard with
   | none =>
    rw[aa] at hg;simp only[iF,vz] at hg;subst hg;simp only[oe,fF,stepT] at q;rw[eu (by simp[Region.wanted,aa])];exact .inl (ar m q)
   | some p =>
    obtain⟨j,y⟩:=p;rw[aa] at hg;simp only[iF] at hg;split at hg
    case h_2=>cases hg
    rename_i d aE;injection hg with hg
    subst hg;simp only[oe,fF,stepT] at q;split at q
    ·rename_i b _ hb;have ae:ρ d=.v (.bool b):=iJ (x:=.t d) m.env hb;have f:=am.eq d;rw[ae] at f;have hy:yielded l a.tmps j=some b:=by
      simp only[yielded,aE,Option.bind_some,rK f]
     have hw:Region.wanted o (yielded l a.tmps)=(b == y):=by
      simp only[Region.wanted,aa,hy];cases b<;>cases y<;>rfl
     have ac:TS G F1 L1 ρ M1 (bD (some d) (.bool b) u):=by
      have:=m.put (c:=.bool b) (sv:=.v (.bool b)) ⟨_,rfl,by simp only[Rel]⟩ (some d)
      rwa [lm ae] at this
     rw[hw];cases b<;>simp only[xk] at q
     ·cases y
      ·exact .inl (ar ac q)
      ·exact skip ac q
     ·cases y
      ·exact skip ac q
      ·exact .inl (ar ac q)
    ·rename_i hb;have hr:=m.env d;rw[hb] at hr;simp only[aQ,Rel] at hr;obtain⟨v,ae,rfl⟩:=hr;have f:=am.eq d;rw[ae] at f;have hy:yielded l a.tmps j=none:=by
      simp only[yielded,aE,Option.bind_some];rw[abf] at f;cases e:a.tmps[d]? with
      | none=>rfl
      | some v=>rw[e] at f;simp only[Option.getD_some,conc] at f;rw[f];rfl
     have hw:Region.wanted o (yielded l a.tmps)=false:=by
      simp only[Region.wanted,aa,hy];rfl
     rw[hw];exact skip m q
    ·exact q.elim
theorem qZ:aQ F L .und (.v undef):=⟨_,rfl,by simp only[Rel]⟩
theorem yB {o:eH}{d:Option Nat}{F:aD}{L:Loc}{ρ:Env}{K K':cQ}(h:evalOp P o d F L ρ K) (p:∀F' L' ρ',K F' L' ρ'->K' F' L' ρ'):evalOp P o d F L ρ K':=by
 cases o
 case box t x =>
  simp only[evalOp] at h ⊢;cases d with
  | none=>exact h.elim
  | some k =>
   simp only[] at h ⊢;generalize L.get k=z at h ⊢;cases z with
   | none=>exact fun g=>p _ _ _ (h g)
   | some _=>exact h.elim
 case boxD t x =>
  simp only[evalOp] at h ⊢;cases d with
  | none=>exact h.elim
  | some k =>
   simp only[] at h ⊢;generalize L.get k=z at h ⊢;cases z with
   | none=>exact fun g r=>p _ _ _ (h g r)
   | some _=>exact h.elim
 case boxF t x=>exact fun g F' a b=>p _ _ _ (h g F' a b)
 case alloc t z =>
  simp only[evalOp] at h ⊢;cases d with
  | none=>exact h.elim
  | some k =>
   simp only[] at h ⊢;generalize L.get k=z at h ⊢;cases z with
   | none=>exact fun g=>p _ _ _ (h g)
   | some _=>exact h.elim
 case allocD t z =>
  simp only[evalOp] at h ⊢;cases d with
  | none=>exact h.elim
  | some k =>
   simp only[] at h ⊢;generalize L.get k=z at h ⊢;cases z with
   | none=>exact fun g r=>p _ _ _ (h g r)
   | some _=>exact h.elim
 case mkF e n sz xs =>
  simp only[evalOp] at h ⊢;generalize fI L ρ sz xs=z at h ⊢;cases z with
  | true=>exact fun g F' a b=>p _ _ _ (h g F' a b)
  | false=>exact h.elim
 case mkFD e n sz xs =>
  simp only[evalOp] at h ⊢;generalize fI L ρ sz xs=z at h ⊢;cases z with
  | true=>exact fun g F' a b c=>p _ _ _ (h g F' a b c)
  | false=>exact h.elim
 case mkR e n sz xs =>
  simp only[evalOp] at h ⊢;generalize fI L ρ sz xs=z at h ⊢;cases z with
  | false=>exact h.elim
  | true =>
   cases d with
   | none=>exact h.elim
   | some k =>
    simp only[] at h ⊢;generalize L.get k=z at h ⊢;cases z with
    | none=>exact fun g=>p _ _ _ (h g)
    | some _=>exact h.elim
 case s2b e x =>
  simp only[evalOp] at h ⊢;generalize ev ρ x=z at h ⊢;split at h
  ·exact fun g c F' a b e=>p _ _ _ (h g c F' a b e)
  ·exact h.elim
 case makeS e sz b zs l c =>
  simp only[evalOp] at h ⊢;generalize ev ρ l=z1 at h ⊢;generalize ev ρ c=z2 at h ⊢;split at h
  ·rename_i k;generalize L.get k=z at h ⊢;cases z with
   | none=>exact⟨h.lo,h.le,h.hi,h.max,fun g=>p _ _ _ (h.out g)⟩
   | some _=>exact h.elim
  ·exact h.elim
 case storeX n a x =>
  simp only[evalOp] at h ⊢;generalize fH (aK (val L ρ x)) n=z1 at h ⊢;generalize jz (aK (val L ρ x))=z2 at h ⊢;generalize ev ρ a=z3 at h ⊢;split at h
  ·rename_i k off;generalize L.get k=z at h ⊢;split at h
   ·rename_i t cs;generalize jg t ((cs.drop off).take n) n=b at h ⊢;cases b
    ·exact h.elim
    ·exact fun r=>p _ _ _ (h r)
   ·exact h.elim
  ·exact⟨let⟨k,v,t,sz,m,xs,ad,c,y,q,u,h4,h5,h6⟩:=h.out;⟨k,v,t,sz,m,xs,ad,c,y,q,u,h4,h5,fun r=>p _ _ _ (h6 r)⟩⟩
  ·exact⟨let⟨k,v,t,sz,m,xs,ad,c,y,q,u,h4,h5,h6⟩:=h.out;⟨k,v,t,sz,m,xs,ad,c,y,q,u,h4,h5,fun r=>p _ _ _ (h6 r)⟩⟩
  ·exact h.elim
 case store n a x =>
  simp only[evalOp] at h ⊢;generalize fH (aK (val L ρ x)) n=z1 at h ⊢;generalize jz (aK (val L ρ x))=z2 at h ⊢;generalize ev ρ a=z3 at h ⊢;split at h
  ·rename_i k off;generalize L.get k=z at h ⊢;split at h
   ·rename_i t cs;generalize jg t ((cs.drop off).take n) n=b at h ⊢;cases b
    ·exact h.elim
    ·exact p _ _ _ h
   ·exact h.elim
  ·exact⟨h.out.imp (fun h=>⟨let⟨k,v,t,sz,m,xs,ad,c,y,q,u,h4,h5,h6⟩:=h.out;⟨k,v,t,sz,m,xs,ad,c,y,q,u,h4,h5,p _ _ _ h6⟩⟩) fun⟨q1,q2,q3⟩=>⟨q1,q2,p _ _ _ q3⟩⟩
  ·exact⟨h.out.imp (fun h=>⟨let⟨k,v,t,sz,m,xs,ad,c,y,q,u,h4,h5,h6⟩:=h.out;⟨k,v,t,sz,m,xs,ad,c,y,q,u,h4,h5,p _ _ _ h6⟩⟩) fun⟨q1,q2,q3⟩=>⟨q1,q2,p _ _ _ q3⟩⟩
  ·exact h.elim
 case storeD n a x =>
  simp only[evalOp] at h ⊢;generalize fH (aK (val L ρ x)) n=z1 at h ⊢;generalize jz (aK (val L ρ x))=z2 at h ⊢;generalize ev ρ a=z3 at h ⊢;split at h
  ·rename_i k off;generalize L.get k=z at h ⊢;split at h
   ·rename_i t cs;generalize jg t ((cs.drop off).take n) n=b at h ⊢;cases b
    ·exact h.elim
    ·exact p _ _ _ h
   ·exact h.elim
  ·exact h.elim
 case storeK key n a x =>
  obtain⟨n',a',x',k,off,g,t,cs,ho,e1,e2,e3,e4,e5,h⟩:=iU rfl h;exact iG ho e1 e2 e3 e4 e5 (p _ _ _ h)
 case makeSD e sz n zs =>
  simp only[evalOp] at h ⊢;cases d with
  | none=>exact h.elim
  | some k =>
   simp only[] at h ⊢;split at h
   ·exact fun g r=>p _ _ _ (h g r)
   ·exact h.elim
 case makeSV e sz b zs x =>
  simp only[evalOp] at h ⊢;cases d with
  | none=>exact h.elim
  | some k =>
   simp only[] at h ⊢;split at h
   ·exact fun g r=>p _ _ _ (h g r)
   ·exact h.elim
 case call f args =>
  simp only[evalOp] at h ⊢;exact dz.imp h fun _ _ _ h=>p _ _ _ h
 case callV f args =>
  simp only[evalOp] at h ⊢;generalize mq P (ev ρ f)=z at h ⊢;split at h
  ·exact dz.imp h fun _ _ _ h=>p _ _ _ h
  ·generalize zW P (ev ρ f) (bn L ρ args)=z at h ⊢;split at h
   ·exact dz.imp h fun _ _ _ h=>p _ _ _ h
   ·exact h.elim
 case look x i =>
  simp only[evalOp] at h ⊢;generalize ev ρ x=z1 at h ⊢;generalize ev ρ i=z2 at h ⊢;split at h
  ·exact⟨let⟨k,r,b,y,q,u⟩:=h.out;⟨k,r,b,y,q,p _ _ _ u⟩⟩
  ·exact h.elim
 case callO f args =>
  simp only[evalOp] at h ⊢;exact dz.imp h fun _ _ _ h r=>p _ _ _ (h r)
 case callVO f args =>
  simp only[evalOp] at h ⊢;generalize mq P (ev ρ f)=z at h ⊢;split at h
  ·exact dz.imp h fun _ _ _ h r=>p _ _ _ (h r)
  ·exact h.elim
 case callD f args =>
  simp only[evalOp] at h ⊢;exact eB.imp' h fun _ _ _ h=>p _ _ _ h
 case callVD f args =>
  simp only[evalOp] at h ⊢;generalize mq P (ev ρ f)=z at h ⊢;split at h
  ·exact eB.imp' h fun _ _ _ h=>p _ _ _ h
  ·exact h.elim
 case app e sz b zs s x =>
  simp only[evalOp] at h ⊢;generalize ev ρ s=z1 at h ⊢;generalize ev ρ x=z2 at h ⊢;split at h
  ·exact⟨let⟨kd,n,xs,m,news,y,q,u,h4,h5,h6⟩:=h.out;⟨kd,n,xs,m,news,y,q,u,h4,h5,fun v hv=>p _ _ _ (h6 v hv)⟩⟩
  ·exact h.elim
 case appX e sz b zs s x =>
  simp only[evalOp] at h ⊢;generalize ev ρ s=z1 at h ⊢;generalize ev ρ x=z2 at h ⊢;split at h
  ·exact⟨let⟨kd,n,xs,m,news,y,q,u,h4,h5,h6⟩:=h.out;⟨kd,n,xs,m,news,y,q,u,h4,h5,fun v hv r=>p _ _ _ (h6 v hv r)⟩⟩
  ·exact h.elim
 case appD e sz b zs s x =>
  simp only[evalOp] at h ⊢;generalize ev ρ s=z1 at h ⊢;generalize ev ρ x=z2 at h ⊢;split at h
  ·exact⟨let⟨kd,n,xs,m,news,y,q,u,h4,h5,h6⟩:=h.out;⟨kd,n,xs,m,news,y,q,u,h4,h5,fun v hv r=>p _ _ _ (h6 v hv r)⟩⟩
  ·exact h.elim
 case appS e s x =>
  simp only[evalOp] at h ⊢;generalize ev ρ s=z1 at h ⊢;generalize ev ρ x=z2 at h ⊢;split at h
  ·exact⟨let⟨kd,n,xs,y,q,u,h4⟩:=h.out;⟨kd,n,xs,y,q,u,fun v hv=>p _ _ _ (h4 v hv)⟩⟩
  ·exact h.elim
 case appZ e b ki s x =>
  simp only[evalOp] at h ⊢;generalize ev ρ s=z1 at h ⊢;generalize ev ρ x=z2 at h ⊢;split at h
  ·split at h
   ·exact⟨let⟨kd,n,xs,y,q,u,h4⟩:=h.out;⟨kd,n,xs,y,q,u,fun v hv=>p _ _ _ (h4 v hv)⟩⟩
   ·exact h.elim
  ·exact h.elim
 case copy e sz dd x =>
  simp only[evalOp] at h ⊢;generalize ev ρ dd=z1 at h ⊢;generalize ev ρ x=z2 at h ⊢;split at h
  ·exact⟨let⟨k,n,v,nr,xs,ad,cr,cd,j,y,q,u,h4,h5⟩:=h.out;⟨k,n,v,nr,xs,ad,cr,cd,j,y,q,u,h4,p _ _ _ h5⟩⟩
  ·obtain⟨⟨k,n,v,nr,xs,ad,cr,cd,j,m,a,c,news,y,q,u,h4,h5,h6,h7,h8,h9⟩ | ⟨da,n,cd,a,m,c,y,q,u,h9⟩⟩:=h
   ·exact⟨.inl ⟨k,n,v,nr,xs,ad,cr,cd,j,m,a,c,news,y,q,u,h4,h5,h6,h7,h8,p _ _ _ h9⟩⟩
   ·exact⟨.inr ⟨da,n,cd,a,m,c,y,q,u,p _ _ _ h9⟩⟩
  ·exact h.elim
 case copyX e sz dd x =>
  simp only[evalOp] at h ⊢;generalize ev ρ dd=z1 at h ⊢;generalize ev ρ x=z2 at h ⊢;split at h
  ·obtain⟨⟨k,n,v,nr,xs,ad,cr,cd,j,m,a,c,news,y,q,u,h4,h5,h6,h7,h8,h9⟩ | ⟨da,n,cd,a,m,c,y,q,u,h9⟩⟩:=h
   ·exact⟨.inl ⟨k,n,v,nr,xs,ad,cr,cd,j,m,a,c,news,y,q,u,h4,h5,h6,h7,h8,fun r=>p _ _ _ (h9 r)⟩⟩
   ·exact⟨.inr ⟨da,n,cd,a,m,c,y,q,u,fun r=>p _ _ _ (h9 r)⟩⟩
  ·exact h.elim
 case pan x=>simp only[evalOp] at h
 case dead=>simp only[evalOp] at h
 case mkmap =>
  simp only[evalOp] at h ⊢;cases d with
  | none=>exact h.elim
  | some k =>
   simp only[] at h ⊢;generalize L.get k=z at h ⊢;cases z with
   | none=>exact fun g=>p _ _ _ (h g)
   | some _=>exact h.elim
 case mupd str x i v =>
  simp only[evalOp] at h ⊢;generalize ev ρ x=z1 at h ⊢;split at h
  ·obtain⟨k,cs,y,q,u,cs',h4,h5⟩:=h;exact⟨k,cs,y,q,u,cs',h4,p _ _ _ h5⟩
  ·exact h.elim
 case mrange x =>
  simp only[evalOp] at h ⊢;generalize ev ρ x=z1 at h ⊢;split at h
  ·rename_i g k;generalize L.get k=z at h ⊢;cases z with
   | none =>
    obtain⟨km,cs,y,q,u⟩:=h;exact⟨km,cs,y,q,fun gi=>p _ _ _ (u gi)⟩
   | some _=>exact h.elim
  ·exact h.elim
 case mnext x =>
  simp only[evalOp] at h ⊢;generalize ev ρ x=z1 at h ⊢;split at h
  ·split at h
   ·rename_i hL;obtain⟨km,cs,y,q,u,h4,h5⟩:=h.out;exact⟨km,cs,y,q,u,fun j e a b=>p _ _ _ (h4 j e a b),fun a=>p _ _ _ (h5 a)⟩
   ·exact h.elim
  ·exact h.elim
 case mentry x =>
  simp only[evalOp] at h ⊢;generalize ev ρ x=z1 at h ⊢;split at h
  ·split at h
   ·obtain⟨km,cs,j,e,y,q,u,h4,h5,h6⟩:=h.out;exact⟨km,cs,j,e,y,q,u,h4,h5,p _ _ _ h6⟩
   ·exact h.elim
  ·exact h.elim
 all_goals
  simp only[evalOp] at h ⊢;exact Di h fun v h=>p _ _ _ h
theorem EW {s s':eH}(h:drawn s=some s'):kT s'=false:=by
 cases s<;>simp only[drawn,vz,reduceCtorEq] at h<;>subst h<;>rfl
theorem Dk {bx:List Nat}{s s':eH}(h:og bx s=some s'):kT s'=false:=by
 unfold og at h;split at h
 ·split at h
  ·split at h
   ·injection h with h;subst h;rfl
   ·cases h
  ·split at h
   ·split at h
    ·injection h with h;subst h;rfl
    ·cases h
   ·cases h
 ·injection h with h;subst h;rfl
 ·split at h<;>(injection h with h;subst h;rfl)
 ·split at h<;>(injection h with h;subst h;rfl)
 ·exact EW h
theorem Dl {fl bx:List Nat}{bk:List (Nat×Nat)}{s s':eH}(h:u9 fl bk bx s=some s'):kT s'=false:=by
 rcases xP h with h | ⟨a,n,i,rfl,rfl⟩ | ⟨a,n,i,key,rfl,rfl⟩ | ⟨a,n,i,rfl,rfl⟩ | ⟨i,rfl,rfl⟩
 ·exact Dk h
 ·rfl
 ·rfl
 ·rfl
 ·rfl
theorem Dn {s s':eH}(h:xN s=some s'):kT s'=false:=by
 cases s<;>simp only[xN,vz,reduceCtorEq] at h<;>subst h<;>rfl
theorem vZ {A:cK}{f:Array Oper}:∀{is:List Nat}{ss:List aA},fp P A f is=some ss->∀s∈ss,(∃d o g,s=.op d o g/\kT o=false)\/∃d o,s=.pc d o none/\CY o=true:=by
 intro is
 induction is with
 | nil=>intro ss h s e;simp only[fp,vz] at h;subst h;cases e
 | cons i is l =>
  intro ss h s e;simp only[fp] at h;split at h
  case h_2=>cases h
  rename_i m k b j;injection h with h
  subst h;rcases xC.1 e with rfl | e
  ·unfold Bn at b;split at b
   case h_1=>cases b
   split at b
   case h_2=>cases b
   split at b
   ·split at b
    case h_3=>cases b
    ·injection b with b
     exact .inr ⟨_,_,b.symm,rfl⟩
    ·injection b with b
     exact .inr ⟨_,_,b.symm,rfl⟩
   ·split at b
    ·split at b
     case h_2=>cases b
     rename_i s' c;injection b with b
     exact .inl ⟨_,s',_,b.symm,Dn c⟩
    ·split at b
     case h_2=>cases b
     rename_i s' c;split at b
     case h_2=>cases b
     injection b with b
     exact .inl ⟨_,s',_,b.symm,Dl c⟩
  ·exact l j s e
theorem Dp:∀{ss:List aA},FP ss=true->∀d o g,aA.pc d o g∉ss
 | [],_,d,o,g,h=>by cases h
 | .op _ _ _::l,b,d,o,g,h=>by
  rcases xC.1 h with h | h
  ·cases h
  ·exact Dp (ss:=l) b d o g h
 | .frz _::l,b,d,o,g,h=>by cases b
 | .pc _ _ _::l,b,d,o,g,h=>by cases b
theorem HV {A:cK}{b:Array Oper}{is:List Nat}{ss:List aA}(e:fp P A b is=some ss) (f:FP ss=true):∀s∈ss,∃d o g,s=.op d o g/\kT o=false:=by
 intro s c;rcases vZ e s c with h | ⟨d,o,rfl,_⟩
 ·exact h
 ·exact o4 c (Dp f _ _ _)
theorem yC {K:TK}:∀(ss:List aA),(∀s∈ss,∃d o g,s=aA.op d o g/\kT o=false)->∀{F:aD}{L:Loc}{ρ:Env}{M:TL}{τ:aV},TS G F L ρ M τ->dK P PS true ss M τ K->aY P ss F L ρ (Both G K)
 | [],_,F,L,ρ,M,τ,c,h=>⟨M,τ,c,h⟩
 | s::ss,u,F,L,ρ,M,τ,c,h=>by
  obtain⟨d,o,g,rfl,ho⟩:=u s (by simp);have j:∀s∈ss,∃d o g,s=aA.op d o g/\kT o=false:=fun s y=>u s (by simp[y]);have e:∀{ρ:Env}{τ:aV},TS G F L ρ M τ->bN P o d M τ (fun M' m=>dK P PS true ss M' m K)->evalOp P o d F L ρ (fun F' L' ρ'=>aY P ss F' L' ρ' (Both G K)):=by
   intro ρ τ c h;have:=Ka ho c h;exact yB this fun F' L' ρ' ⟨M',m,h1,z⟩=>yC ss j h1 z
  cases g with
  | none =>
   simp only[fF,stepT] at h;simp only[aY];exact e c h
  | some p =>
   obtain⟨s,l⟩:=p;simp only[fF,stepT] at h;simp only[aY];split at h
   ·rename_i b hb;have k:ρ s=.v (.bool b):=iJ (x:=.t s) c.env hb;simp only[k];have f:∀n,b=n->TS G F L (Fr.put (some s) (.v (.bool n)) ρ) M (bD (some s) (.bool n) τ):=fun n _=>c.put cL (some s);have r:∀{ρ:Env}{τ:aV},TS G F L ρ M τ->TS G F L (Fr.put d (.v undef) ρ) M (bD d .und τ):=fun c=>c.put qZ d;cases b<;>simp only[xk] at h ⊢<;>cases l<;>simp only[] at h ⊢
    ·exact e (f _ rfl) h
    ·exact yC ss j (r (f _ rfl)) h
    ·exact yC ss j (r (f _ rfl)) h
    ·exact e (f _ rfl) h
   ·rename_i hb;have q:=c.env s;rw[hb] at q;simp only[aQ,Rel] at q;obtain⟨v,k,rfl⟩:=q;simp only[k,undef];exact yC ss j (c.put qZ d) h
   ·exact h.elim
theorem rS:∀{ss:List aA},Al ss M=true->∀s∈ss,∀k,uc s=some k->M.get k=none
 | [],_,s,b,_,_=>by cases b
 | x::l,h,s,b,k,e=>by
  unfold Al at h;rcases xC.1 b with rfl | b
  ·rw[e] at h;simp only[] at h;cases c:M.get k with
   | none=>rfl
   | some o=>rw[c] at h;cases h
  ·split at h
   ·exact rS h s b k e
   ·split at h
    ·exact rS h s b k e
    ·cases h
theorem mI {K:TK}{fb:List Nat}:∀(ss:List aA),(∀s∈ss,(∃d o g,s=aA.op d o g/\kT o=false)\/∃d o,s=aA.pc d o none/\CY o=true)->∀{F:aD}{L:Loc}{ρ:Env}{M:TL}{τ:aV},TS G F L ρ M τ->kP P PS fb ss M τ K->bq P (zj G PS) fb ss F L ρ (Both G K)
 | [],_,F,L,ρ,M,τ,e,h=>⟨M,τ,e,h⟩
 | s::ss,hc,F,L,ρ,M,τ,e,h=>by
  have m:∀s∈ss,(∃d o g,s=aA.op d o g/\kT o=false)\/∃d o,s=aA.pc d o none/\CY o=true:=fun s hs=>hc s (by simp[hs]);rcases hc s (by simp) with⟨d,o,g,rfl,ho⟩ | ⟨d,o,rfl,ho⟩
  case inr =>
   cases o<;>simp only[CY,aaX] at ho
   ·rename_i f l;simp only[jV,Am,EL,fe,eL,dR] at h;simp only[bq,rX];split at h
    case h_1 =>
     rename_i st j;refine(qW e (cW e.env l) (show PS=⟨PS.ps,PS.hb,some st⟩ by rw[<-j]) h).imp fun F' L' v _ _ _ _ _ h=>?_;obtain⟨M',n,c,r,q,y⟩:=h;exact mI ss m (r.put q d) y
    rename_i j;refine(qa e (cW e.env l) h j).imp fun F' L' v _ _ _ _ _ h=>?_;obtain⟨M',n,c,r,q,y⟩:=h;exact mI ss m (r.put q d) y
   ·rename_i fx l;simp only[jV,Am,EL] at h;split at h
    ·rename_i f fi ca hx;simp only[fe,eL,dR] at h;obtain⟨ar,av,e1,r,q⟩:=tv e.env hx;simp only[bq,rX,e1,mq];split at h
     case h_1 =>
      rename_i st j;refine(qW e (jF e.env r q l) (show PS=⟨PS.ps,PS.hb,some st⟩ by rw[<-j]) h).imp fun F' L' v _ _ _ _ _ h=>?_;obtain⟨M',n,c,r,q,y⟩:=h;exact mI ss m (r.put q d) y
     rename_i j;refine(qa e (jF e.env r q l) h j).imp fun F' L' v _ _ _ _ _ h=>?_;obtain⟨M',n,c,r,q,y⟩:=h;exact mI ss m (r.put q d) y
    ·rename_i nm t k off hx;simp only[fe,eL,dR] at h;obtain⟨g,t',cs,hg,e1⟩:=pT e.env hx;obtain⟨f',hm,h⟩:=h;have u:aF F L (.own k off::dZ τ l) ([.pointer (some ⟨g,off,none⟩)]++bn L ρ l++[]):=by
      rw[aaU];simp only[aaT,aa5,aF,Rel];exact⟨_,_,rfl,⟨g,t',cs,hg,rfl⟩,cW e.env l⟩
     simp only[bq,rX,e1,C4,mq,hm];split at h
     case h_1 =>
      rename_i st j;refine(qW e u (show PS=⟨PS.ps,PS.hb,some st⟩ by rw[<-j]) h).imp fun F' L' v _ _ _ _ _ h=>?_;obtain⟨M',n,c,r,q,y⟩:=h;exact mI ss m (r.put q d) y
     rename_i j;refine(qa e u h j).imp fun F' L' v _ _ _ _ _ h=>?_;obtain⟨M',n,c,r,q,y⟩:=h;exact mI ss m (r.put q d) y
    ·exact h.elim
  have z:∀{ρ:Env}{τ:aV},TS G F L ρ M τ->bN P o d M τ (fun M' n=>kP P PS fb ss M' n K)->evalOp P o d F L ρ (fun F' L' ρ'=>bq P (zj G PS) fb ss F' L' ρ' (Both G K)):=by
   intro ρ τ e h;have:=Ka ho e h;exact yB this fun F' L' ρ' ⟨M',n,r,q⟩=>mI ss m r q
  cases g with
  | none =>
   simp only[jV,Am,stepT] at h;exact⟨o,rfl,z e h⟩
  | some p =>
   obtain⟨s,ad⟩:=p;simp only[jV,Am,stepT] at h;simp only[bq,res];have hu:∀{ρ:Env}{τ:aV},TS G F L ρ M τ->TS G F L (Fr.put d (.v undef) ρ) M (bD d .und τ):=fun e=>e.put qZ d;have skip:∀{ρ:Env}{τ:aV},TS G F L ρ M τ->kP P PS fb ss M (bD d .und τ) K->evalOp P iH d F L ρ (fun F' L' ρ'=>bq P (zj G PS) fb ss F' L' ρ' (Both G K)):=by
    intro ρ τ e h;simp only[iH,evalOp,aL,ev];exact mI ss m (hu e) h
   split at h
   ·rename_i b hb;have ab:ρ s=.v (.bool b):=iJ (x:=.t s) e.env hb;have aa:TS G F L ρ M (bD (some s) (.bool b) τ):=by
     have:=e.put (cL (b:=b)) (some s)
     rwa [Fr.lm ab] at this
    simp only[ab];cases b<;>simp only[xk] at h ⊢<;>cases ad<;>simp only[reduceCtorEq,↓reduceIte,vz,exists_eq_left'] at h ⊢
    ·exact z aa h
    ·exact skip aa h
    ·exact skip aa h
    ·exact z aa h
   ·rename_i hb;have hr:=e.env s;rw[hb] at hr;simp only[aQ,Rel] at hr;obtain⟨v,ab,rfl⟩:=hr;simp only[ab,undef,vz,exists_eq_left'];exact skip e h
   ·exact h.elim
theorem Dq:∀(b:List Nat) (vs:List C) (τ:aV) (j:Nat),qO b vs τ j=τ j\/∃(i:Nat) (c:C),b[i]?=some j/\vs[i]?=some c/\qO b vs τ j=c
 | [],vs,τ,j=>.inl rfl
 | k::b,[],τ,j=>.inl rfl
 | k::b,v::vs,τ,j=>by
  simp only[qO,BK];split
  ·rename_i h;subst h;exact .inr ⟨0,v,by simp,by simp,rfl⟩
  ·rcases Dq b vs τ j with h | ⟨i,c,d,e,f⟩
   ·exact .inl h
   ·exact .inr ⟨i+1,c,by simpa using d,by simpa using e,f⟩
theorem Az {M1:TL}:∀{b:List Nat}{vs:List C}{τ:aV},oh M M1 b vs τ->∀{i j:Nat}{c:C},b[i]?=some j->vs[i]?=some c->Ml M M1 (τ j) c
 | [],vs,τ,h,i,j,c,e,_=>by simp at e
 | k::b,[],τ,h,i,j,c,_,e=>by simp at e
 | k::b,v::vs,τ,h,i,j,c,f,d=>by
  simp only[oh] at h;cases i with
  | zero=>simp at f d;subst f d;exact h.1
  | succ i=>exact Az h.2 (by simpa using f) (by simpa using d)
theorem AA {M1:TL}(l:TS G F L ρ M τ):∀{d:List Nat}{vs:List C},vs.length=d.length->oh M M1 d vs τ->gives M M1 M1->tL vs
 | [],[],_,_,_=>by simp only[tL]
 | [],v::vs,b,_,_=>by simp at b
 | k::d,[],b,_,_=>by simp at b
 | k::d,v::vs,b,h,m=>by
  simp only[oh] at h;simp only[tL];refine⟨?_,AA l (by simpa using b) h.2 m⟩;have f:=lJ (l.env k);rcases h.1 with e | ⟨e,_⟩ | ⟨j,c⟩ | ⟨j,n,t,sz,c,_⟩ | ⟨els,j,c⟩
  ·rw[e];simp only[Wf]
  ·rw[e] at f;have:=f.wf
   revert this
   cases v<;>simp[C.cel,Wf]
  ·rw[c];simp[Wf,uh]
  ·rw[c];simp only[Wf]
  ·rw[j] at f;have:=(vu f).wf;rw[c];exact this
theorem Ry {M:TL}(c:dc F L M):∀{l:TL},(∀k o,l.get k=some o->M.get k=some o)->∀k o,l.get k=some o->o.Wf:=by
 intro l h k o e;rcases eF (c k) with⟨b,_⟩ | ⟨q,p,b,f,d⟩
 ·rw[h k o e] at b;cases b
 ·rw[h k o e] at b;injection b with b
  subst b;exact d.wf
theorem HW {L':Loc}{F':aD}(l:F.le F') (u:∀k g t cs,L.get k=some (.box g t cs)->∃cs',L'.get k=some (.box g t cs')) :
  (∀c v,C.leaf c=true->Rel F L c v->Rel F' L' (qM c) v)/\(∀c sv,C.leaf c=true->aQ F L c sv->aQ F' L' (qM c) sv):=by
 have hb:∀{k:Nat},(∃g t cs,L.get k=some (.box g t cs))->∀o,L.get k=some o->∃o',L'.get k=some o'/\Own.like o o':=by
  intro k n o p;obtain⟨g,t,cs,n⟩:=n;rw[n] at p;injection p with p
  subst p;obtain⟨cs',h⟩:=u k g t cs n;exact⟨_,h,rfl,rfl⟩
 constructor
 ·intro c v q h;cases c<;>simp only[C.leaf,aaX] at q<;>simp only[qM]
  case rw=>simp only[Rel]
  case elr=>simp only[Rel]
  case own k off =>
   have d:=h;simp only[Rel] at d;obtain⟨g,t,cs,f,_⟩:=d;refine bB l (fun j e=>?_) rfl h;rcases e with⟨off,e⟩ | e | e | ⟨_,_,_,e⟩ | ⟨_,_,e⟩
   ·injection e with e e2;subst e;exact hb ⟨g,t,cs,f⟩
   ·cases e
   ·cases e
   ·cases e
   ·cases e
  case ifo m ti k off =>
   have d:=h;simp only[Rel] at d;obtain⟨g,t,cs,f,_⟩:=d;refine bB l (fun j e=>?_) rfl h;rcases e with⟨off,e⟩ | e | e | ⟨_,_,_,e⟩ | ⟨_,_,e⟩
   ·cases e
   ·cases e
   ·cases e
   ·injection e with _ _ e;subst e;exact hb ⟨g,t,cs,f⟩
   ·cases e
  case slo k a =>
   have d:=h;simp only[Rel] at d;obtain⟨g,t,cs,r,f,_⟩:=d;exact rN l (hb ⟨g,t,cs,f⟩) h
  case slp=>simp only[Rel]
  case mpr k =>
   have d:=h;simp only[Rel] at d;obtain⟨g,cs,f,_⟩:=d;refine bB l (fun j e=>?_) rfl h;rcases e with⟨off,e⟩ | e | e | ⟨_,_,_,e⟩ | ⟨_,_,e⟩
   ·cases e
   ·cases e
   ·injection e with e;subst e;exact hb ⟨g,0,cs,f⟩
   ·cases e
   ·cases e
  all_goals
   exact bB l (fun s e=>by rcases e with⟨off,e⟩ | e | e | ⟨_,_,_,e⟩ | ⟨_,_,e⟩<;>cases e) rfl h
 ·intro c sv q h;cases c<;>simp only[C.leaf,aaX] at q<;>simp only[qM]
  case rw=>trivial
  case elr=>trivial
  case own k off =>
   have d:=h;simp only[aQ] at d;refine cV l (fun j e=>?_) rfl h;rcases e with⟨off,e⟩ | ⟨off,e⟩ | e | ⟨a,b,e⟩ | e | ⟨_,_,_,e⟩<;>first | cases e;done | skip
   injection e with e e2
   subst e;exact hb d.2
  case ifo m ti k off =>
   have d:=h;simp only[aQ,Rel] at d;obtain⟨v,_,g,t,cs,f,_⟩:=d;refine cV l (fun j e=>?_) rfl h;rcases e with⟨off,e⟩ | ⟨off,e⟩ | e | ⟨a,b,e⟩ | e | ⟨_,_,_,e⟩<;>first | cases e;done | skip
   injection e with _ _ e
   subst e;exact hb ⟨g,t,cs,f⟩
  case ownv k off =>
   have d:=h;simp only[aQ,Rel] at d;obtain⟨v,_,g,t,cs,f,_⟩:=d;refine cV l (fun j e=>?_) rfl h;rcases e with⟨off,e⟩ | ⟨off,e⟩ | e | ⟨a,b,e⟩ | e | ⟨_,_,_,e⟩<;>first | cases e;done | skip
   injection e with e e2
   subst e;exact hb ⟨g,t,cs,f⟩
  case slo k a =>
   have d:=h;simp only[aQ,Rel] at d;obtain⟨v,_,g,t,cs,r,f,_⟩:=d;exact uj l (hb ⟨g,t,cs,f⟩) h
  case slp=>trivial
  case mpr k =>
   have d:=h;simp only[aQ,Rel] at d;obtain⟨v,_,g,cs,f,_⟩:=d;refine cV l (fun j e=>?_) rfl h;rcases e with⟨off,e⟩ | ⟨off,e⟩ | e | ⟨a,b,e⟩ | e | ⟨_,_,_,e⟩<;>first | cases e;done | skip
   injection e with e
   subst e;exact hb ⟨g,0,cs,f⟩
  all_goals
   exact cV l (fun s e=>by rcases e with⟨off,e⟩ | ⟨off,e⟩ | e | ⟨a,b,e⟩ | e | ⟨_,_,_,e⟩<;>cases e) rfl h
def HX (L:Loc) (c:C) (v:Value):SV:=match c with
 | .own k off=>.own k off
 | .elr k j off=>match L.get k with
  | some (.row (.slice a _ _) _ sz _ _)=>.el a (j*sz+off)
  | _=>.v v
 | _=>.v v
theorem BP {c:C}{v:Value}(h:Rel F L c v):aQ F L c (HX L c v)/\conc L (HX L c v)=v/\(∀k off,HX L c v=.own k off->∃g t cs,L.get k=some (.box g t cs))/\(∀f j,HX L c v=.el f j->f≠none):=by
 cases c
 case own k off =>
  simp only[Rel] at h;obtain⟨g,t,cs,h,rfl⟩:=h;refine⟨⟨rfl,g,t,cs,h⟩,by simp only[HX,conc,h],fun l d e=>?_,fun f j e=>(by cases e)⟩;injection e with e1 e2
  subst e1;exact⟨g,t,cs,h⟩
 case pt es off =>
  simp only[Rel] at h;obtain⟨b,o,vs,rfl,m,p⟩:=h;exact⟨⟨b,o,0,vs,.inl ⟨rfl,rfl⟩,m,p⟩,rfl,fun l d e=>(by cases e),fun f j e=>(by cases e)⟩
 case ownv=>exact h.elim
 case slp=>exact h.elim
 case elr k j off =>
  simp only[Rel] at h;obtain⟨f,t,sz,n,c,xs,rfl,h⟩:=h;simp only[HX,h];exact⟨⟨f,t,sz,n,c,xs,rfl,h⟩,rfl,fun l d e=>(by cases e),fun q r e=>by injection e with e _;subst e;simp⟩
 case any=>exact⟨trivial,rfl,fun l d e=>(by cases e),fun f j e=>(by cases e)⟩
 all_goals
  exact⟨⟨v,rfl,h⟩,rfl,fun l d e=>(by cases e),fun f j e=>(by cases e)⟩
theorem Kc {F0:aD}{L0:Loc}{f:Env}{b:aV}{y n:Act}{asg:List Nat}{p:List Nat}{vs:List C}{L1:Loc}{F1:aD}(d:aH L0 f y) (u:∀j,aQ F0 L0 (b j) (f j)) (hF:F0.le F1)
  (hb:∀k g t cs,L0.get k=some (.box g t cs)->∃cs',L1.get k=some (.box g t cs')) (s:∀j,j∉asg->n.tmps.getD j undef=y.tmps.getD j undef)
  (hv:∀(i j:Nat) c,p[i]?=some j->vs[i]?=some c->Rel F1 L1 c (n.tmps.getD j undef)) :
  ∃m,aH L1 m n/\∀j,aQ F1 L1 (qO p vs (ul asg b) j) (m j):=by
 have key:∀j,∃sv,aQ F1 L1 (qO p vs (ul asg b) j) sv/\conc L1 sv=n.tmps.getD j undef/\(∀k off,sv=.own k off->∃g t cs,L1.get k=some (.box g t cs))/\(∀q i,sv=.el q i->q≠none):=by
  intro j;rcases Dq p vs (ul asg b) j with h | ⟨i,c,h1,h2,h3⟩
  ·rw[h];simp only[ul];split
   ·exact⟨.v (n.tmps.getD j undef),trivial,rfl,fun _ _ e=>(by cases e),fun _ _ e=>(by cases e)⟩
   ·rename_i z;have hj:j∉asg:=fun h=>by rw[cS.2 h] at z;cases z
    obtain⟨u1,u2⟩:=HW hF hb;refine⟨f j,aQ.mp u1 u2 3 (u j),?_,?_,d.el j⟩
    ·rw[s j hj,d.eq j];cases e:f j with
     | v x=>rfl
     | el x i=>rfl
     | own k off =>
      obtain⟨g,t,cs,r⟩:=d.own j k off e;obtain⟨cs',l⟩:=hb _ _ _ _ r;simp only[conc,r,l]
    ·intro k off e;obtain⟨g,t,cs,r⟩:=d.own j k off e;obtain⟨cs',l⟩:=hb _ _ _ _ r;exact⟨g,t,cs',l⟩
  ·rw[h3];obtain⟨s1,s2,s3,s4⟩:=BP (hv i j c h1 h2);exact⟨_,s1,s2,s3,s4⟩
 refine⟨fun j=>(key j).choose,⟨fun t=>?_,fun t k off e=>?_,fun t q j e=>?_⟩,fun j=>(key j).choose_spec.1⟩
 ·exact(key t).choose_spec.2.1.symm
 ·exact(key t).choose_spec.2.2.1 k off e
 ·exact(key t).choose_spec.2.2.2 q j e
theorem AB {n:Nat}{F:aD}{L:Loc}{w:World}{a:Act}{asg:List Nat}{K K':cQ}{b:Act}{w':World}(h:eS n F L w a asg K b w') (k:∀{F' L' ρ'},K F' L' ρ'->K' F' L' ρ'):eS n F L w a asg K' b w':=by
 obtain⟨F',L',ρ',l,f,j,e,m,d,c⟩:=h;exact⟨F',L',ρ',l,f,j,e,m,d,k c⟩
theorem zy {P:Program}{PS:qw}{G:Nat->Option (Nat×TypeId)}{a:Act}{w:World}{b:List aA}{K:TK}:∀(ks:List Nat) {F:aD}{L:Loc}{ρ:Env}{M:TL}{τ:aV},uD G PS ks->St F L w->aH L ρ a->TS G F L ρ M τ->dK P PS false (ks.map aA.frz++b) M τ K ->
  ∃F' L' ρ' M' c,St F' L' w/\aH L' ρ' a/\Step F L w F' L' w/\TS G F' L' ρ' M' c/\dK P PS false b M' c K:=by
 intro ks
 induction ks with
 | nil=>intro F L ρ M τ _ d l m h;exact⟨F,L,ρ,M,τ,d,l,Step.refl _ _ _,m,h⟩
 | cons k ks f =>
  intro F L ρ M τ p d l m h;simp only[aaS,aaT,fF] at h;obtain⟨F1,L1,q,M1,x,r,z,g3,v,h⟩:=Dj d l m (p k (by simp)) h;obtain⟨F2,L2,e,M2,n,u,s,y,t,k5⟩:=f (fun j hj=>p j (by simp[hj])) r z v h;exact⟨F2,L2,e,M2,n,u,s,g3.trans y,t,k5⟩
theorem HY:∀{ks:List Nat}{ss:List aA},∀k∈ks,k∈iX (zx ks (.regD ss))
 | [],_,k,h=>by cases h
 | j::l,ss,k,h=>by
  have:∀(l:List Nat),∀k∈l,k∈dL (l.map aA.frz):=by
   intro l
   induction l with
   | nil=>intro k h;cases h
   | cons j l b =>
    intro k h;simp only[aaS,dL,xC] at h ⊢;exact h.imp id (b k)
  exact w8.2 (.inl (this (j::l) k h))
theorem Dr {P:Program}{PS:qw}{G:Nat->Option (Nat×TypeId)}{ρ:Env}{a:Act}{w:World}{ss:List aA}{E:Nat->TK}{R N:TK}{F:aD}{L:Loc}{M:TL}{τ:aV}:∀(ks:List Nat),uD G PS (iX (zx ks (.regD ss)))->St F L w->aH L ρ a->TS G F L ρ M τ->fA P PS (zx ks (.regD ss)) E R N M τ ->
  ∃F' L' ρ' M' b,St F' L' w/\aH L' ρ' a/\Step F L w F' L' w/\TS G F' L' ρ' M' b/\dK P PS true ss M' b N
 | [],_,c,f,m,h=>⟨F,L,ρ,M,τ,c,f,Step.refl _ _ _,m,h⟩
 | k::l,s,c,f,m,h=>by
  have q:dK P PS false ((k::l).map aA.frz++[]) M τ (fun M τ=>dK P PS true ss M τ N):=by rw[aaU];exact h
  obtain⟨F1,L1,d,M1,e,t,p,r,n,v⟩:=zy (k::l) (fun j u=>s j (HY j u)) c f m q;exact⟨F1,L1,d,M1,e,t,p,r,n,v⟩
theorem rT {M:TL}:∀{ks:List Nat},tq M ks=true->∀k∈ks,∀o,M.get k=some o->BN o=true
 | [],_,k,h,_,_=>by cases h
 | j::ks,b,k,h,o,e=>by
  simp only[tq] at b;split at b
  ·cases b
  ·cases b
  ·cases b
  ·rename_i f c d;rcases xC.1 h with rfl | h
   ·cases o with
    | box t cs=>exact o4 e (f _ _)
    | map es=>exact o4 e (c _)
    | win t p cs q=>exact o4 e (d _ _ _ _)
    | row=>rfl
   ·exact rT b k h o e
theorem HZ {M:TL}{ks:List Nat}(b:tq M ks=true) (k:Nat) (h:k∈ks) (t:TypeId) (cs:List C):M.get k≠some (.box t cs):=fun e=>by cases rT b k h _ e
theorem EX {M:TL}{ks:List Nat}(b:tq M ks=true) (k:Nat) (h:k∈ks) (es:List (C×C)):M.get k≠some (.map es):=fun e=>by cases rT b k h _ e
theorem qf {A:cK}:∀(c:Code) {sc:aJ},low P A c=some sc->∀{G:Nat->Option (Nat×TypeId)}{E:Nat->TK}{R N:TK}{F:aD}{L:Loc}{ρ:Env}{M:TL}{τ:aV}{a:Act}{w:World},uD G PS (iX sc)->St F L w->aH L ρ a->TS G F L ρ M τ->a.tmps.size=A.n ->
  fA P PS sc E R N M τ->c.wp P (QQ A.n F L w a (cP c) (zj G PS) (fun j=>Both G (E j)) (Both G R) (Both G N)) a w:=by
 intro c
 induction c with
 | skip =>
  intro sc b G E R N F L ρ M τ a w m hs he z hn d;simp only[low,vz] at b;subst b;exact wp_skip ⟨F,L,ρ,hs,he,hn,rfl,Step.refl _ _ _,fun _ _=>rfl,M,τ,z,d⟩
 | label l =>
  intro sc b G E R N F L ρ M τ a w m hs he z hn d;simp only[low,vz] at b;subst b;exact wp_label ⟨F,L,ρ,hs,he,hn,rfl,Step.refl _ _ _,fun _ _=>rfl,M,τ,z,d⟩
 | exit id =>
  intro sc b G E R N F L ρ M τ a w m hs he z hn d;simp only[low,vz] at b;subst b;exact wp_exit ⟨F,L,ρ,hs,he,hn,rfl,Step.refl _ _ _,fun _ _=>rfl,M,τ,z,d⟩
 | ret =>
  intro sc b G E R N F L ρ M τ a w m hs he z hn d;simp only[low,vz] at b;subst b;exact wp_ret ⟨F,L,ρ,hs,he,hn,rfl,Step.refl _ _ _,fun _ _=>rfl,M,τ,z,d⟩
 | region r eR da =>
  intro sc b G E R N F L ρ M τ a w m hs he z hn d;cases da with
  | false =>
   simp only[low] at b;split at b
   case h_2=>cases b
   rename_i ss dB;injection b with b;subst b
   simp only[lq,nj,lu,nk,lz,jW,lF,lH,nu] at d;exact wp_region (yA _ dB m hs he z hn d (fun a' w' h=>h) fun v ch a' w' hc h=>⟨v,hc,h⟩)
  | true =>
   simp only[low] at b;split at b
   case h_2=>cases b
   rename_i is cl ss h1 h2;have h4:tY A.ord r=is:=by simp only[tY,h1]
   rw[h4] at h2;split at b
   case h_2 =>
    split at b
    case h_2=>cases b
    rename_i h3;injection b with b;subst b
    rw[C6] at d;split at d
    case h_2=>exact d.elim
    rename_i bu;split at d
    ·exact qJ h2 h3 hs he hn (fun s hs k e=>cj z.tl (rS bu s hs k e)) (d.out G (zj G PS) (fun F L ρ M τ f args vs K h1 h2 h3=>qa h1 h2 h3 d.st) F L ρ ⟨w,hs⟩ z) (fun a' w' h=>h) fun v ch a' w' F' L' gc g1 g2 g3 g4 g5 g6=>⟨v,gc,F',L',g1,g2,g3,g4,g5,g6⟩
    exact qJ h2 h3 hs he hn (fun s hs k e=>cj z.tl (rS bu s hs k e)) (mI ss (vZ h2) z d) (fun a' w' h=>h) fun v ch a' w' F' L' gc g1 g2 g3 g4 g5 g6=>⟨v,gc,F',L',g1,g2,g3,g4,g5,g6⟩
   rename_i h0;split at b
   case h_2=>cases b
   rename_i h3;injection b with b;subst b
   obtain⟨F1,L1,ad,M1,ap,ax,az,ag,ac,d⟩:=Dr _ m hs he z d;exact s5 h2 h3 ax az hn (yC ss (HV h2 h0) ac d) fun a' w' h=>eS.after (asg1:=[]) ag rfl (fun _ _=>rfl) h (fun _ h=>o4 h List.not_mem_nil) (fun _ h=>h)
 | seq x y be bb =>
  intro sc b G E R N F L ρ M τ a w m hs he z hn d;simp only[low] at b;split at b
  case h_2=>cases b
  rename_i h1 h2;injection b with b;subst b
  simp only[lq,nj,lu,nk,lz,jW,lF,lH,nu] at d;refine wp_seq (wp_mono (be h1 m.left hs he z hn d) ?_);intro e a1 w1 u;cases e with
  | normal =>
   obtain⟨F1,L1,ad,g1,g2,g3,g4,g5,g6,M1,ap,g7,g8⟩:=u;refine wp_mono (bb h2 m.right g1 g2 g7 g3 g8) ?_;intro e2 a2 w2 ce;cases e2<;>first
    | exact eS.after g5 g4 g6 ce (fun j h=>w8.2 (.inl h)) (fun j h=>w8.2 (.inr h))
    | exact(let⟨v,e,h⟩:=ce;⟨v,e,sF.after g5 g4 g6 h (fun j h=>w8.2 (.inl h)) (fun j h=>w8.2 (.inr h)) fun _ _ h=>h⟩)
    | exact ce
  | exit id=>exact u.mono fun j h=>w8.2 (.inl h)
  | ret=>exact u.mono fun j h=>w8.2 (.inl h)
  | goto l=>exact u
  | panic c=>exact(let⟨v,e,h⟩:=u;⟨v,e,h.mono fun j h=>w8.2 (.inl h)⟩)
  | outgrown=>exact u
 | cond c x y be bb =>
  intro sc b G E R N F L ρ M τ a w m hs he z hn d;simp only[low] at b;split at b
  case h_2=>cases b
  rename_i h0 h1 h2;injection b with b;subst b
  simp only[lq,nj,lu,nk,lz,jW,lF,lH,nu] at d;split at d
  case h_2=>exact d.elim
  rename_i t df;have hc:a.eval c=.bool t:=by rw[aI h0 he,bH (iJ z.env df)]
  refine wp_cond hc ?_;cases t
  ·simp only[xk] at d;refine wp_mono (bb h2 m.right hs he z hn d) ?_;intro e a1 w1 u;cases e<;>first
    | exact u.mono fun j h=>w8.2 (.inr h)
    | exact(let⟨v,e,h⟩:=u;⟨v,e,h.mono fun j h=>w8.2 (.inr h)⟩)
    | exact u
  ·simp only[xk] at d;refine wp_mono (be h1 m.left hs he z hn d) ?_;intro e a1 w1 u;cases e<;>first
    | exact u.mono fun j h=>w8.2 (.inl h)
    | exact(let⟨v,e,h⟩:=u;⟨v,e,h.mono fun j h=>w8.2 (.inl h)⟩)
    | exact u
 | block id x ih =>
  intro sc b G E R N F L ρ M τ a w m hs he z hn d;simp only[low] at b;split at b
  case h_2=>cases b
  rename_i h1;injection b with b;subst b
  simp only[lq,nj,lu,nk,lz,jW,lF,lH,nu] at d;refine wp_block (wp_mono (ih h1 m hs he z hn d) ?_);intro e a1 w1 u;cases e with
  | exit j =>
   simp only[Exit.inBlock];simp only[QQ] at u
   by_cases hj:j=id
   ·subst hj;have hb:Nat.beq j j=true:=by simp
    rw[hb] at u;rw[eu rfl];exact u
   ·have hb:Nat.beq j id=false:=by
     cases h:Nat.beq j id with
     | true=>exact o4 (vv h) hj
     | false=>rfl
    rw[hb] at u;rw[o6 hj];exact u
  | normal=>exact u
  | ret=>exact u
  | goto l=>exact u
  | panic c=>exact u
  | outgrown=>exact u
 | loop x ih =>
  intro sc b G E R N F L ρ M τ a w m hs he z hn d;simp only[low] at b;split at b
  case h_2=>cases b
  rename_i sx h1;injection b with b;subst b
  simp only[lq,nj,lu,nk,lz,jW,lF,lH,nu] at d;split at d
  case h_2=>exact d.elim
  rename_i cc;obtain⟨σ,x0,Inv,ls,lv,Lf,μ,i0,i1,i2,i3,i4,i5⟩:=d
  -- the boxes that there are,with their addresses
  let G1:Nat->Option (Nat×TypeId):=fun k=>match L.get k with | some (.box g t _)=>some (g,t) | _=>none
  have cy:∀k g t cs,L.get k=some (.box g t cs)->G1 k=some (g,t):=fun k g t cs e=>by simp only[G1,e]
  have bv:Kp G1 L:=by
   intro k g t e;simp only[G1] at e;split at e
   ·rename_i g' t' cs h;injection e with e
    injection e with e1 e2
    subst e1 e2;exact⟨cs,h⟩
   ·cases e
  have cx:uD G1 PS (iX sx):=by
   intro k hk ca;exfalso;simp only[G1] at ca;split at ca
   ·rename_i g t cs e;have hr:=z.tl k;rw[e] at hr;cases e2:M.get k with
    | none=>rw[e2] at hr;exact hr
    | some o =>
     rw[e2] at hr;cases o with
     | row=>exact hr
     | box t' cs'=>exact HZ cc k hk t' cs' e2
     | map es=>exact EX cc k hk es e2
     | win t0 p0 c0 q0=>cases rT cc k hk _ e2
   ·exact ca rfl
  have hG:∀{L':Loc},Kp G1 L'->Kp G L':=fun hk k g t e=>let⟨cs,h⟩:=z.kp k g t e;hk k g t (cy k g t cs h);have cw:∀{L':Loc},Kp G1 L'->∀k g t cs,L.get k=some (.box g t cs)->∃cs',L'.get k=some (.box g t cs'):=fun hk k g t cs h=>hk k g t (cy k g t cs h);have bm:∀{K:TK}{F' L' ρ'},Both G1 K F' L' ρ'->Both G K F' L' ρ':=fun⟨M',du,h1,h2⟩=>⟨M',du,⟨h1.tl,h1.env,hG h1.kp,h1.glob⟩,h2⟩;have dx:∀{F':aD}{L':Loc}{M':TL},dc F' L' M'->(∀k o,M'.get k=some o->o.Wf):=fun h k o e=>Ry h (fun _ _ e=>e) k o e
  -- a round's end,or what is ahead of the first round,is a head
  have ay:∀(y:σ) (F1:aD) (L1:Loc) (ad:Env) (M1:TL) (ap:aV) (a1:Act) (w1:World),F.le F1->St F1 L1 w1->aH L1 ad a1->TS G1 F1 L1 ad M1 ap->(∀j,j∉cP x->a1.tmps.getD j undef=a.tmps.getD j undef) ->
    oh M1 (Lf y) ls (lv y) ap->gives M1 (Lf y) (Lf y)->∃L2,St F1 L2 w1/\Step F1 L1 w1 F1 L2 w1/\dc F1 L2 (Lf y)/\Kp G1 L2/\tL (lv y) /\
     ∃bd,aH L2 bd a1/\∀j,aQ F1 L2 (qO ls (lv y) (ul (cP x) τ) j) (bd j):=by
   intro y F1 L1 ad M1 ap a1 w1 bl ax az ac dC hh hg;obtain⟨g1,g2⟩:=uz ax ac.tl hg;have bk:Kp G1 (vY L1 (Lf y)):=by
    intro k g t e;obtain⟨cs,bz⟩:=ac.kp k g t e;obtain⟨eA,db⟩:=bv k g t e;refine⟨cs,?_⟩;rcases eF (z.tl k) with⟨c1,c2⟩ | ⟨q,p,c1,c2,hr⟩
    ·rw[db] at c2;cases c2
    ·rw[db] at c2;injection c2 with c2
     subst c2;cases q with
     | row=>exact hr.elim
     | box t' cs' =>
      obtain⟨o2,e2⟩:=jx (i3 y) c1 rfl;rw[j7,e2];simp only[bz]
     | map es =>
      obtain⟨o2,e2⟩:=jx (i3 y) c1 rfl;rw[j7,e2];simp only[bz]
     | win t0 p0 c0 q0 =>
      obtain⟨o2,e2⟩:=jx (i3 y) c1 rfl;rw[j7,e2];simp only[bz]
   refine⟨vY L1 (Lf y),g1,g2,uy ac.tl hg,bk,AA ac (i4 y) hh hg,Kc he z.env bl (cw bk) dC ?_⟩;intro i j c e1 e2;have hr:=lJ (ac.env j);have hv:a1.tmps.getD j undef=conc L1 (ad j):=az.eq j;rw[hv];have cY:=Az hh e1 e2;rcases cY with e | ⟨e,hk⟩ | ⟨e,e'⟩ | ⟨e,k',t',ea,e',q1,q2⟩ | ⟨els,e,e'⟩
   ·rw[e];simp only[Rel]
   ·have hc:(ap j).cel=ap j:=by
     rw[e];rw[e] at hr;cases c<;>first | rfl | (simp only[fN,mD,aaX] at hk;done)
    rw[hc] at hr;exact rR ac.tl (.inr (.inl ⟨e,hk⟩)) hr
   ·rw[e] at hr;exact rR ac.tl (.inr (.inr (.inl ⟨rfl,e'⟩))) hr
   ·rw[e] at hr;exact rR ac.tl (.inr (.inr (.inr (.inl ⟨rfl,k',t',ea,e',q1,q2⟩)))) hr
   ·rw[e] at hr;exact rR ac.tl (.inr (.inr (.inr (.inr ⟨els,rfl,e'⟩)))) hr
  refine u7 (fun n a1 w1=>∃(y:σ) (F1:aD) (L1:Loc),n=μ y/\F.le F1/\Inv y/\St F1 L1 w1/\a1.tmps.size=A.n/\a1.defers=a.defers/\Step F L w F1 L1 w1/\(∀j,j∉cP x->a1.tmps.getD j undef=a.tmps.getD j undef) /\
   dc F1 L1 (Lf y)/\Kp G1 L1/\tL (lv y)/\∃ad,aH L1 ad a1/\∀j,aQ F1 L1 (qO ls (lv y) (ul (cP x) τ) j) (ad j)) ?_ ?_
  ·obtain⟨L2,k1,k2,k3,k4,k5,k6⟩:=ay x0 F L ρ M τ a w (aD.le_refl F) hs he ⟨z.tl,z.env,bv,z.glob⟩ (fun _ _=>rfl) i1 i2;exact⟨_,x0,F,L2,rfl,aD.le_refl F,i0,k1,hn,rfl,k2,fun _ _=>rfl,k3,k4,k5,k6⟩
  ·rintro n a1 w1 ⟨y,F1,L1,rfl,bl,cz,ax,ds,bc,ag,ar,bs,bk,dE,ad,az,cd⟩;refine wp_mono (ih h1 cx ax az (⟨bs,cd,bk,ax.glob⟩:TS G1 F1 L1 ad (Lf y) (qO ls (lv y) (ul (cP x) τ))) ds (i5 y cz dE (dx bs))) ?_;intro e a2 w2 u;cases e with
   | normal =>
    obtain⟨F2,L2,bd,g1,g2,g3,g4,g5,g6,M2,dt,g7,y',k1,k2,k3,k4⟩:=u;have bp:∀j,j∉cP x->a2.tmps.getD j undef=a.tmps.getD j undef:=fun j hj=>by rw[g6 j hj,ar j hj]
    obtain⟨L3,q1,q2,q3,q4,q5,q6⟩:=ay y' F2 L2 bd M2 dt a2 w2 (aD.le_trans bl g5.le) g1 g2 g7 bp k2 k3;exact⟨μ y',k4,y',F2,L3,rfl,aD.le_trans bl g5.le,k1,q1,g3,g4.trans bc,(ag.trans g5).trans q2,bp,q3,q4,q5,q6⟩
   | exit j=>exact eS.after ag bc ar (AB u bm) (fun j h=>h) (fun j h=>h)
   | ret=>exact eS.after ag bc ar (AB u bm) (fun j h=>h) (fun j h=>h)
   | goto l=>exact u
   | panic c=>exact(let⟨v,e,h⟩:=u;⟨v,e,sF.after ag bc ar h (fun j h=>h) (fun j h=>h) fun F' L' h=>⟨hG h.1,h.2⟩⟩)
   | outgrown=>exact u
 | rangeFunc f ps x y be bb=>intro sc b;simp only[low] at b;cases b
 | scope x ih =>
  intro sc b G E R N F L ρ M τ a w m hs he z hn d;simp only[low] at b;refine wp_scope_straight (wp_mono (ih b m hs he z hn d) ?_);intro e a1 w1 u;cases e<;>exact u
 | goto l=>intro sc b;simp only[low] at b;cases b
 | refuse fa=>intro sc b;simp only[low] at b;cases b
end
section
variable {P:Program}{G:Nat->Option (Nat×TypeId)}{F:aD}{L:Loc}{ρ:Env}{M:TL}{τ:aV}{a:Act}{w:World}
theorem vE (e:TS G F L ρ M τ):∀{rs:List RV}{K:List C->Prop},qQ M τ rs K->lU L ρ rs (fun vs=>∃cs,aF F L cs vs/\K cs)
 | [],K,h=>⟨[],by simp only[aF],h⟩
 | (t,none)::l,K,h=>by
  simp only[qQ] at h;simp only[lU];refine retV_imp (vE e h) ?_;rintro vs ⟨cs,o,f⟩;exact⟨_,by simp only[aF];exact⟨_,_,rfl,lJ (e.env t),o⟩,f⟩
 | (t,some (agg,n))::l,K,h=>by
  simp only[qQ] at h;simp only[lU];split at h
  case h_2=>exact h.elim
  rename_i k off c;split at h
  case h_2=>exact h.elim
  rename_i ty cs r;split at h
  case h_2=>exact h.elim
  rename_i s;obtain⟨j,_⟩:=eX (x:=.t t) e.env c;have j:ρ t=.own k off:=j;obtain⟨g,ty,vs,p,q,m⟩:=kQ e.tl r;have d:=(q.drop off).take n;simp only[j,p,fU m.2.2 (dh (show((vs.drop off).take n).length=n by rw[d.len];exact bC s))];refine retV_imp (vE e h) ?_;rintro us ⟨ds,o,f⟩;refine⟨_,?_,f⟩;simp only[aF];have:=lJ (cE (agg:=agg) d);exact⟨_,_,rfl,this,o⟩
where
 retV_imp {L:Loc}{ρ:Env}:∀{rs:List RV}{K K':List Value->Prop},lU L ρ rs K->(∀vs,K vs->K' vs)->lU L ρ rs K'
 | [],K,K',h,c=>c _ h
 | (t,none)::l,K,K',h,c=>by
  simp only[lU] at h ⊢;exact retV_imp h fun vs=>c _
 | (t,some (agg,n))::l,K,K',h,c=>by
  simp only[lU] at h ⊢;generalize ρ t=z at h ⊢;split at h
  case h_2=>exact h.elim
  rename_i k off;generalize L.get k=y at h ⊢;split at h
  case h_2=>exact h.elim
  rename_i ty cs;generalize jg ty ((cs.drop off).take n) n=b at h ⊢;cases b
  ·exact h.elim
  ·exact retV_imp h fun vs=>c _
theorem Nt {cs:List C}{vs:List Value}(h:aF F L cs vs):Rel F L (tj cs) (gX vs):=by
 match cs,vs,h with
 | [],vs,h =>
  simp only[aF] at h;subst h;simp only[tj,gX,Rel];exact⟨[],rfl,by simp only[aF]⟩
 | [c],vs,h =>
  simp only[aF] at h;obtain⟨v,b,rfl,d,rfl⟩:=h;exact d
 | c1::k::cs,vs,h =>
  have e:=h;simp only[aF] at e;obtain⟨v,b,rfl,d,l,f,rfl,j⟩:=e;simp only[tj,gX,Rel];exact⟨_,rfl,h⟩
theorem yD:∀(l:List C) (k j:Nat),wq k l j=if k<=j then(l[j-k]?).getD .und else .und
 | [],k,j=>by simp[wq]
 | v::l,k,j=>by
  simp only[wq,BK]
  by_cases h:j=k
  ·subst h;simp
  ·rw[o6 h,yD l (k+1) j]
   by_cases b:k<=j
   ·rw[eu (by omega),eu b,show j-k=(j-(k+1))+1 by omega,abx]
   ·rw[o6 (by omega),o6 b]
theorem Ke {c:C}{v:Value}(h:Rel F L c v):Rel F L c.aar v:=by
 cases c<;>first
  | exact h
  | exact uq (c:=.nils) h
  | exact vu h
  | (simp only[Rel] at h
     obtain⟨vs,b,d⟩:=h;simp only[C.aar,Rel]
     first
      | exact⟨vs,b,j5 d⟩
      | exact⟨vs,b,d.map fun c _ v=>iK⟩)
theorem yE {F':aD}{L':Loc}{w':World}{Li:List Own}(j:St F' L' w') (c:Step F (inp Li) w F' L' w') (hb:∀(i:Nat) g t cs,Li[i]?=some (.box g t cs)->∃cs',L'.get (1000+i)=some (.box g t cs')) :
  ∃Lo,St F' (inp Lo) w'/\Step F (inp Li) w F' (inp Lo) w'/\Lo.length=Li.length/\∀(i:Nat) g t cs,Li[i]?=some (.box g t cs)->∃cs',Lo[i]?=some (.box g t cs'):=by
 let Lo:List Own:=Li.mapIdx fun i o=>match o with
  | .box _ _ _=>match L'.get (1000+i) with | some p=>p | none=>.row (.slice none 0 0) 0 0 0 []
  | .row _ t sz _ _=>.row (.slice none 0 0) t sz 0 []
 have get:∀k p,(inp Lo).get k=some p->L'.get k=some p\/∃t sz,p=.row (.slice none 0 0) t sz 0 []:=by
  intro k p e;rw[aX] at e;split at e
  case isFalse=>cases e
  rename_i y;simp only[Lo,List.getElem?_mapIdx] at e;cases h:Li[k-1000]? with
  | none=>rw[h] at e;cases e
  | some o =>
   rw[h] at e;simp only[abE,vz] at e;cases o with
   | box g t cs =>
    simp only at e;rw[show 1000+(k-1000)=k by omega] at e;cases l:L'.get k with
    | none=>rw[l] at e;exact .inr ⟨0,0,e.symm⟩
    | some q=>rw[l] at e;exact .inl (by rw[<-e])
   | row v t sz n xs=>exact .inr ⟨t,sz,e.symm⟩
 refine⟨Lo,⟨j.frz,fun k o e=>?_,fun k o g e d=>?_,fun k m o o' g e r d f=>?_,j.glob⟩,⟨c.le,c.os,c.tape,c.output,c.size,c.same,c.frz,fun b x=>c.own b ?_⟩,by simp[Lo],fun i g t cs hi=>?_⟩
 ·rcases get k o e with h | ⟨t,sz,rfl⟩
  ·exact j.own k o h
  ·exact World.ownsRow_nil w' 0 t sz
 ·rcases get k o e with h | ⟨t,sz,rfl⟩
  ·exact j.off k o g h d
  ·cases d
 ·rcases get k o e with h | ⟨t,sz,rfl⟩<;>rcases get m o' r with s | ⟨z,u,rfl⟩
  ·exact j.sep k m o o' g h s d f
  ·cases f
  ·cases d
  ·cases d
 ·obtain⟨k,o,e,d⟩:=x;rcases get k o e with h | ⟨t,sz,rfl⟩
  ·exact⟨k,o,h,d⟩
  ·cases d
 ·obtain⟨cs',h⟩:=hb i g t cs hi;exact⟨cs',by simp only[Lo,List.getElem?_mapIdx,hi,abE,h]⟩
theorem PW {n:Nat}{asg:List Nat}{fn:Func}{rs:List RV}{Lin:List TO}{Li:List Own}{R:List TO->C->Prop}{a0 a':Act}{w':World}(y:qm P fn.results.toList=some rs) (hl:Li.length=Lin.length) (ae:dc F (inp Li) (jm Lin))
  (am:∀k g t cs,(inp Li).get k=some (.box g t cs)->G k=some (g,t)) (hq:eS n F (inp Li) w a0 asg (Both G (fun L ρ=>qQ L ρ rs fun vs=>o7 Lin L (tj vs) R)) a' w') :
  a'.defers=a0.defers/\∃v,(results fn a'.tmps).run P w'=.ok v w'/\∃F' Lo,St F' (inp Lo) w'/\Step F (inp Li) w F' (inp Lo) w'/\gW Li R F' Lo v:=by
 obtain⟨F',L',ρ',g1,g2,g3,g4,g5,g6,M',cl,g7,m⟩:=hq;obtain⟨us,hm,cs,bb,⟨fz,ko,hK⟩⟩:=qK g1 g2 y (vE g7 m);have ap:TS G F' L' ρ' M' (fun _=>.any):=⟨g7.tl,fun _=>trivial,g7.kp,g7.glob⟩;obtain⟨F2,L2,M2,ci,an,k1,k2,k3,s,k5,M3,c2,c3,Mo,q1,ad,q4,q5,q6,q7⟩:=qb g1 g2 ap (by simp only[aF];exact⟨_,[],rfl,Nt bb,rfl⟩) hK;subst q1;simp only[aF] at k5;obtain⟨v,cx,ev,hv,rfl⟩:=k5;injection ev with ev _
 subst ev;have ac:∃L3,St F2 L3 w'/\Step F2 L2 w' F2 L3 w'/\dc F2 L3 M3/\Rel F2 L3 c3 (gX us)/\∀k g t cs,L2.get k=some (.box g t cs)->M3.get k≠none->L3.get k=some (.box g t cs):=by
  rcases ad with⟨rfl,rfl⟩ | ⟨q2,q3⟩
  ·exact⟨L2,k1,Step.refl _ _ _,s.tl,hv,fun k g t cs h _=>h⟩
  ·obtain⟨b1,b2⟩:=uz k1 s.tl q2;refine⟨_,b1,b2,uy s.tl q2,rR s.tl q3 hv,fun k g t cs h l=>?_⟩;rw[j7];cases e:M3.get k with
   | none=>exact o4 e l
   | some o=>simp only[h]
 obtain⟨L3,b1,b2,f,x,ao⟩:=ac;obtain⟨Lo,z,d2,d3⟩:=qV f q4;have aw:=cU q5;have ax:∀k g t,G k=some (g,t)->∃cs,(M3.get k≠none->L3.get k=some (.box g t cs)):=by
  intro k g t e;obtain⟨cs,h⟩:=s.kp k g t e;exact⟨cs,fun l=>ao _ _ _ _ h l⟩
 refine⟨g4,gX us,?_,F2,Lo,b1.handed z aw,?_,Mo.map (TO.aag (C.ren (bZ ko 1000))),c3.aar.ren (bZ ko 1000),by simp[d2],tC f d2 z d3,(Ke x).ren (nV z),?_,q7 (by simp only[tL];exact⟨x.wf,trivial⟩)⟩
 ·rw[s8];rw[Array.mapM_eq_mapM_toList];simp only[Sem.run_bind,Sem.run_map];rw[hm];simp only[Result.andThen_ok,Sem.run_pure];congr 1
  match us with
  | []=>rfl
  | [t]=>rfl
  | t::u::r =>
   simp only[gX];rw[dif_neg (by simp)]
 ·have c:=(g5.trans k3).trans b2;obtain⟨x1,x2⟩:=eM z;refine⟨c.le,c.os,c.tape,c.output,c.size,c.same,c.frz,fun b hb=>c.own b ?_⟩;obtain⟨j,p,e,hb⟩:=hb;rw[aX] at e;split at e
  case isFalse=>cases e
  have d:j-1000<Lo.length:=(w7.1 e).1;have hk:ko[j-1000]?=some (ko[j-1000]'(by omega)):=v7 (by omega);exact⟨_,p,by rw[x2 _ _ hk];exact e,hb⟩
 ·intro i g t cs hi;have d:i<Lin.length:=by rw[<-hl];exact(w7.1 hi).1
  have aa:(inp Li).get (1000+i)=some (.box g t cs):=by rw[aX,eu (by omega),show 1000+i-1000=i by omega];exact hi
  have hr:=ae (1000+i);rw[cB,eu (by omega),show 1000+i-1000=i by omega,aa,v7 d] at hr;have ay:BN Lin[i]=false:=by
   cases ba:Lin[i] with
   | row=>rw[ba] at hr;exact hr.elim
   | box t' cs'=>rfl
   | map es=>rfl
   | win t0 p0 c0 q0=>rfl
  ·obtain⟨k',y1,y2⟩:=eT q6 i _ (v7 d) ay;rw[List.getElem?_range' d] at y1;injection y1 with y1
   obtain⟨x1,x2⟩:=eM z;obtain⟨z1,z2⟩:=C9 q4;have q:i<Mo.length:=by rw[z1];exact(w7.1 y2).1
   have av:M3.get k'≠none:=by rw[z2 i k' y2,v7 q];simp
   have az:k'=1000+i:=by omega
   subst az;obtain⟨aE,h2⟩:=ax _ g t (am _ _ _ _ aa);exact⟨aE,by rw[<-x2 i _ y2];exact h2 av⟩
theorem ak {Pp:Value->Prop}{f:FuncId}{fn:Func}{sc:aJ}{A:cK}{rs:List RV}{args:List C}{Lin:List TO}{R:List TO->C->Prop}(hf:P.funcs[f]?=some fn) (b:aC P A fn=some (sc,A.n,rs,false)) (q:Nat.ble args.length A.n=true)
  (h:tL args->(∀o∈Lin,o.Wf)->fA P ⟨Pp,[],none⟩ sc (fun _ _ _=>False) (fun L ρ=>qQ L ρ rs fun vs=>o7 Lin L (tj vs) R) (fun L ρ=>qQ L ρ rs fun vs=>o7 Lin L (tj vs) R) (jm Lin) (wq 0 args)):CallsTX P f args Lin R Pp:=by
 unfold aC at b;split at b
 case h_2=>cases b
 rename_i c hb;split at b
 case h_2=>cases b
 rename_i bb ar aa y;injection b with b
 injection b with e1 e2
 injection e2 with e2 e3
 injection e3 with e3 hname
 subst e1 e3;refine⟨fun F Li vs hl r ha=>⟨⟨fn,hf,by rw[hb];rfl,hname⟩,gW.aao,fun w hs=>?_⟩⟩;refine calls_of_wp hf hb ?_;have al:∀o∈Lin,o.Wf:=by
  intro o ho;obtain⟨i,hi⟩:=abd.1 ho;have:=r (1000+i);rw[cB,aX,eu (by omega),eu (by omega),show 1000+i-1000=i by omega,hi] at this;cases e:Li[i]? with
  | none=>rw[e] at this;exact this.elim
  | some p=>rw[e] at this;exact cZ.wf this
 have h:=h ha.wf al;have ab:=ha.len;have q:=aa1 q
 -- the frame
 have key:∀j,∃sv,aQ F (inp Li) (wq 0 args j) sv/\conc (inp Li) sv=(vs.toArray++Array.replicate (fn.ntmps-vs.toArray.size) undef).getD j undef/\(∀k off,sv=.own k off->∃g t cs,(inp Li).get k=some (.box g t cs))/\(∀u i,sv=.el u i->u≠none):=by
  intro j;rw[yD];simp only[abk,aa9,Nat.sub_zero,abf];cases e:args[j]? with
  | some c =>
   have s:j<vs.length:=by rw[ab];exact(w7.1 e).1
   obtain⟨s1,s2,s3,s4⟩:=BP (ha.at e (v7 s));refine⟨_,s1,?_,s3,fun u i e=>s4 u i e⟩;rw[s2,Array.getElem?_append_left (by simpa using s)];simp[s]
  | none =>
   have av:vs.length<=j:=by rw[ab];exact abC.1 e
   refine⟨.v undef,qZ,?_,fun _ _ e=>(by cases e),fun _ _ e=>(by cases e)⟩;rw[Array.getElem?_append_right (by simpa using av)];simp only[Array.getElem?_replicate,conc];split<;>rfl
 let z:Env:=fun j=>(key j).choose
 have he:aH (inp Li) z {tmps:=vs.toArray++Array.replicate (fn.ntmps-vs.toArray.size) undef,defers:=[]} :=
  ⟨fun t=>(key t).choose_spec.2.1.symm,fun t k off e=>(key t).choose_spec.2.2.1 k off e,fun t u j e=>(key t).choose_spec.2.2.2 u j e⟩
 let G:Nat->Option (Nat×TypeId):=fun k=>match(inp Li).get k with | some (.box g t _)=>some (g,t) | _=>none
 have x:∀k g t cs,(inp Li).get k=some (.box g t cs)->G k=some (g,t):=fun k g t cs e=>by simp only[G,e]
 have an:Kp G (inp Li):=by
  intro k g t e;simp only[G] at e;split at e
  ·rename_i g' t' cs h;injection e with e
   injection e with e1 e2
   subst e1 e2;exact⟨cs,h⟩
  ·cases e
 have ae:∀k,G k≠none->1000<=k:=by
  intro k d;simp only[G] at d;split at d
  ·rename_i g t cs h;rw[aX] at h;split at h
   ·assumption
   ·cases h
  ·exact o4 rfl d
 have ht:TS G F (inp Li) z (jm Lin) (wq 0 args):=⟨r,fun j=>(key j).choose_spec.1,an,hs.glob⟩;refine wp_mono (qf c aa (fun k _ d=>.inl (ae k d)) hs he ht (by simp[e2];omega) h) ?_;intro e a' w' m;have fin:∀{a0:Act},a0.defers=[]->eS A.n F (inp Li) w a0 (cP c) (Both G (fun L ρ=>qQ L ρ ar fun vs=>o7 Lin L (tj vs) R)) a' w'->a'.defers=[]/\∃v,(results fn a'.tmps).run P w'=.ok v w' /\
   ∃v' F' Lo,Ending.returned v=.returned v'/\St F' (inp Lo) w'/\Step F (inp Li) w F' (inp Lo) w'/\gW Li R F' Lo v':=by
  intro a0 am m;obtain⟨k1,v,k2,F',Lo,k3,k4,k5⟩:=PW y hl r x m;exact⟨k1.trans am,v,k2,v,F',Lo,rfl,k3,k4,k5⟩
 cases e with
 | normal=>exact(let⟨h1,v,h2,h3⟩:=fin rfl m;⟨h1,v,h2,.inl h3⟩)
 | ret=>exact(let⟨h1,v,h2,h3⟩:=fin rfl m;⟨h1,v,h2,.inl h3⟩)
 | exit j=>obtain⟨F',L',ρ',_,_,_,_,_,_,M',bo,_,h⟩:=m;exact h.elim
 | goto l=>exact m.elim
 | panic c =>
  obtain⟨v,ao,F',L',g1,g2,g3,g4,g5,kp,hp,_⟩:=m;obtain⟨Lo,q1,q2,q3,q4⟩:=yE g1 g2 (fun i g t cs hi=>kp (1000+i) g t (x _ g t cs (by rw[aX,eu (by omega),show 1000+i-1000=i by omega];exact hi)));exact⟨g4,.inr ⟨v,_,F',Lo,rfl,ao,q1,q2,q3,q4,hp⟩⟩
 | outgrown=>exact m.elim
theorem CallsTX.noPan {f:Nat}{args:List C}{Lin:List TO}{R:List TO->C->Prop}(h:CallsTX P f args Lin R fun _=>False):CallsT P f args Lin R :=
 ⟨fun F Li vs c d j=>let k:=h.out F Li vs c d j;⟨k.ent,k.mono,fun w b=>(k.run w b).mono fun e w' q=>q.elim id fun⟨_,_,_,_,_,_,_,_,_,_,q⟩=>q.elim⟩⟩
theorem au {f:FuncId}{fn:Func}{sc:aJ}{A:cK}{rs:List RV}{args:List C}{Lin:List TO}{R:List TO->C->Prop}(d:P.funcs[f]?=some fn) (b:aC P A fn=some (sc,A.n,rs,false)) (c:Nat.ble args.length A.n=true)
  (h:tL args->(∀o∈Lin,o.Wf)->fA P ⟨fun _=>False,[],none⟩ sc (fun _ _ _=>False) (fun L ρ=>qQ L ρ rs fun vs=>o7 Lin L (tj vs) R) (fun L ρ=>qQ L ρ rs fun vs=>o7 Lin L (tj vs) R) (jm Lin) (wq 0 args)):CallsT P f args Lin R :=
 (ak d b c h).noPan
end
section
variable {P:Program}{L:TL}{ρ:aV}
def iQ (Lo:List TO) (x:C):List TO->C->Prop:=fun Mo v=>Mo=Lo/\v=x
theorem bY {f:Nat}{args a:List C}{K:TL->aV->C->Prop}{x:C}(h:CallsT P f a [] (iQ [] x)) (j:(args.map fun c=>c.aaj.ren (bZ [] 1000))=a) (k:Wf x->K L ρ (x.ren (aZ [])).slt):oZ P f args L ρ K:=by
 subst j;exact .mk ⟨[],[],[],L,[],_,.inl rfl,rfl,rfl,rfl,rfl,rfl,h,fun v Mo ⟨d,b⟩ e _=>by subst d b;exact⟨rfl,k e⟩⟩
theorem jy {f:Nat}{args a:List C}{K:TL->aV->C->Prop}{d:Option Nat}{x:C}(h:CallsT P f a [] (iQ [] x)) (l:(args.map fun c=>c.aaj.ren (bZ [] 1000))=a) (k:Wf x->K L ρ x.slt):s9 P f args L ρ d K:=by
 subst l;exact .frz _ h fun v Mo ⟨e,b⟩ j=>by subst e b;exact⟨rfl,k j⟩
theorem callO (ks ko:List Nat) {f:Nat}{args a:List C}{K:TL->aV->C->Prop}{x:C}{Lin Lin' Lo:List TO}(h:CallsT P f a Lin' (iQ Lo x)) (j:L.sub ks=some Lin)
  (d:(bJ ks&&bJ ko&&mE L ks ko&&aT Lin ks ko)=true) (r:(args.map fun c=>c.aaj.ren (bZ ks 1000))=a) (s:Lin.map (TO.aag (C.ren (bZ ks 1000)))=Lin') (n:ko.length=Lo.length)
  (k:Wf x->(∀o∈Lo,o.Wf)->K (((L.aaf ks).kills (rowsOf L ks)).puts ko (Lo.map (TO.aag (C.ren (aZ ko))))) (fw (rowsOf L ks) ρ) (x.ren (aZ ko)).slt):oZ P f args L ρ K:=by
 subst r s;simp only[xo] at d;obtain⟨⟨⟨e,p⟩,c3⟩,c4⟩:=d;exact .mk ⟨[],ks,ko,L,Lin,_,.inl rfl,j,e,p,c3,c4,h,fun v Mo ⟨q,l⟩ m b=>by subst q l;exact⟨n,k m b⟩⟩
theorem BQ (ks ko:List Nat) {f:Nat}{args a:List C}{K:TL->aV->C->Prop}{x:C}{Lin Lin' Lo:List TO}(h:CallsT P f a Lin' (iQ Lo x)) (j:L.sub ks=some Lin)
  (d:(bJ ks&&bJ ko&&mE L ks ko&&aT Lin ks ko)=true) (r:(args.map fun c=>c.aaj.ren (bZ ks 1000))=a) (s:Lin.map (TO.aag (C.ren (bZ ks 1000)))=Lin') (n:ko.length=Lo.length)
  (k:Wf x->(∀o∈Lo,o.Wf)->K (((L.aaf ks).kills (rowsOf L ks)).puts ko (Lo.map (TO.aag (C.ren (aZ ko))))) (fw (rowsOf L ks) ρ) (x.ren (aZ ko)).slt):Bz P f args L ρ K:=by
 subst r s;simp only[xo] at d;obtain⟨⟨⟨e,p⟩,c3⟩,c4⟩:=d;exact .mk ⟨ks,ko,Lin,_,j,e,p,c3,c4,h,fun v Mo ⟨q,l⟩ m b=>by subst q l;exact⟨n,k m b⟩⟩
theorem Tw (L1:TL) (ks ko:List Nat) {f:Nat}{args a:List C}{K:TL->aV->C->Prop}{x:C}{Lin Lin' Lo:List TO}(h:CallsT P f a Lin' (iQ Lo x)) (r:gives L L1 L1) (j:L1.sub ks=some Lin)
  (d:(covers L L1&&bJ ks&&bJ ko&&mE L1 ks ko&&aT Lin ks ko)=true) (s:(args.map fun c=>c.aaj.ren (bZ ks 1000))=a) (u:Lin.map (TO.aag (C.ren (bZ ks 1000)))=Lin') (n:ko.length=Lo.length)
  (k:Wf x->(∀o∈Lo,o.Wf)->K (((L1.aaf ks).kills (rowsOf L1 ks)).puts ko (Lo.map (TO.aag (C.ren (aZ ko))))) (fw (rowsOf L1 ks) ρ) (x.ren (aZ ko)).slt):oZ P f args L ρ K:=by
 subst s u;simp only[xo] at d;obtain⟨⟨⟨⟨t,e⟩,p⟩,c3⟩,c4⟩:=d;exact .mk ⟨[],ks,ko,L1,Lin,_,.inr ⟨r,t⟩,j,e,p,c3,c4,h,fun v Mo ⟨q,l⟩ m b=>by subst q l;exact⟨n,k m b⟩⟩
theorem uE (b ks ko:List Nat) {f:Nat}{args a:List C}{K:TL->aV->C->Prop}{x:C}{Lo Lin':List TO}(h:CallsT P f a Lin' (iQ Lo x))
  (t:xY b L ρ args fun L ρ args=>∃Lin,L.sub ks=some Lin/\(bJ ks&&bJ ko&&mE L ks ko&&aT Lin ks ko)=true/\(args.map fun c=>c.aaj.ren (bZ ks 1000))=a/\Lin.map (TO.aag (C.ren (bZ ks 1000)))=Lin'/\ko.length=Lo.length /\
   (Wf x->(∀o∈Lo,o.Wf)->K (((L.aaf ks).kills (rowsOf L ks)).puts ko (Lo.map (TO.aag (C.ren (aZ ko))))) (fw (rowsOf L ks) ρ) (x.ren (aZ ko)).slt)):oZ P f args L ρ K:=by
 refine .mk ⟨b,ks,ko,?_⟩;refine frzK_imp t ?_;rintro L ρ args ⟨Lin,m,j,rfl,rfl,q,k⟩;simp only[xo] at j;obtain⟨⟨⟨l,r⟩,c3⟩,c4⟩:=j;exact⟨L,Lin,_,.inl rfl,m,l,r,c3,c4,h,fun v Mo ⟨s,n⟩ p d=>by subst s n;exact⟨q,k p d⟩⟩
where
 frzK_imp:∀{b:List Nat}{L:TL}{ρ:aV}{args:List C}{K K':TL->aV->List C->Prop},xY b L ρ args K->(∀L ρ args,K L ρ args->K' L ρ args)->xY b L ρ args K'
  | [],L,ρ,args,K,K',h,e=>e _ _ _ h
  | k::b,L,ρ,args,K,K',h,e=>by
   simp only[xY] at h ⊢;generalize L.get k=z at h ⊢;split at h
   ·exact frzK_imp h e
   ·exact h.elim
theorem bK {Lin:List TO}{v x:C}(hb:aT Lin (List.range' 1000 Lin.length) []=true) (e:v.aar.ren (bZ [] 1000)=x):o7 Lin L v (iQ [] x) :=
 ⟨[],[],L,v,v,[],rfl,.inl ⟨rfl,rfl⟩,rfl,rfl,hb,fun _=>⟨rfl,e⟩⟩
theorem zA (ko:List Nat) {Lin Mo Lo:List TO}{v x:C}(c:L.sub ko=some Mo) (a:(bJ ko&&aT Lin (List.range' 1000 Lin.length) ko)=true) (b:Mo.map (TO.aag (C.ren (bZ ko 1000)))=Lo) (e:v.aar.ren (bZ ko 1000)=x):o7 Lin L v (iQ Lo x):=by
 simp only[xo] at a;exact⟨[],ko,L,v,v,Mo,rfl,.inl ⟨rfl,rfl⟩,c,a.1,a.2,fun _=>⟨b,e⟩⟩
theorem VB (k t sz:Nat) {Lin:List TO}(b:L=[]) (hb:aT Lin (List.range' 1000 Lin.length) [k]=true):o7 Lin L .nils (iQ [.row t sz []] (.rw 1000)):=by
 subst b;have a:Nat.beq k k=true:=by simp
 refine⟨[],[k],[(k,.row t sz [])],.nils,.rw k,[.row t sz []],rfl,.inr ⟨⟨.inr ⟨rfl,t,sz,rfl⟩,trivial⟩,.inr (.inr (.inr (.inl ⟨rfl,k,t,sz,rfl,rfl,?_⟩)))⟩,?_,rfl,hb,fun _=>⟨rfl,?_⟩⟩
 ·simp only[TL.get,a]
 ·simp only[TL.sub,TL.get,a]
 ·simp only[C.aar,C.ren,C.mp,ug,bZ,a]
theorem bw {d:Type}{b:TL->aV->TK->Prop}{asg:List Nat}(n:Nat) (l:Nat) (f:List Nat) (c:d) (e:d->List C) (Lf:d->TL) (Inv:Nat->d->Prop) (t:Inv 0 c) (v:Ml L (Lf c) (ρ l) (.int .i64 0)) (r:oh L (Lf c) f (e c) ρ)
  (u:gives L (Lf c) (Lf c)) (hb:∀s,m9 L (Lf s)=true) (w:∀s,(e s).length=f.length)
  (h:∀(k:Nat) s,k<=n->Inv k s->tL (e s)->(∀j o,(Lf s).get j=some o->o.Wf)->(k:Int)<=9223372036854775807->b (Lf s) (qO (l::f) (.int .i64 k::e s) (ul asg ρ)) fun L' ρ' =>
   ∃a:Nat×d,(a.1<=n/\Inv a.1 a.2)/\oh L' (Lf a.2) (l::f) (.int .i64 a.1::e a.2) ρ'/\gives L' (Lf a.2) (Lf a.2)/\n-a.1<n-k):x7 b asg L ρ:=by
 refine⟨Nat×d,(0,c),fun x=>x.1<=n/\Inv x.1 x.2,l::f,fun x=>.int .i64 x.1::e x.2,fun x=>Lf x.2,fun x=>n-x.1,⟨abk _,t⟩,⟨v,r⟩,u,fun x=>hb x.2,fun x=>by simp[w],?_⟩;rintro⟨k,s⟩ ⟨q,hi⟩ m p;simp only[tL,Wf] at m;exact h k s q hi m.2 p (wf_i64 m.1).2
theorem bE {L1:TL}{k:Nat}:Ml L L1 (.int .i64 ((k:Int)+1)) (.int .i64 ((k+1:Nat):Int)):=.inr (.inl ⟨rfl,rfl⟩)
theorem bF {n k:Nat}(h:k<n):n-(k+1)<n-k:=by omega
theorem nE {els:List (List C)}(h:Wf (.sl els)):els.length<=9223372036854775807:=by simp only[Wf,maxLen] at h;omega
theorem cJ {a:Type}{f:a->List C}{l:List a}(h:Wf (.sl (l.map f))):l.length<=9223372036854775807:=by have:=nE h;simpa using this
theorem wR {bs:List UInt8}(h:Wf (.sl (af bs))):bs.length<=9223372036854775807:=cJ h
theorem cD {a:Type}{f:a->List C}{l:List a}{k sz:Nat}{x:a}{es:List C}{K:List C->Prop}(c:l[k]?=some x) (d:f x=es) (b:cR es sz=true) (h:K es):Bv (l.map f) (k:Int) sz K :=
 ⟨es,by omega,by simp[c,d],b,h⟩
theorem Rz {bs:List UInt8}{k:Nat}{x:UInt8}{K:List C->Prop}(a:bs[k]?=some x) (h:K [gR x]):Bv (af bs) (k:Int) 1 K :=
 ⟨[gR x],by omega,by simp[af,a],rfl,h⟩
theorem Dt:∀{l:List (List C)},uh l↔∀es∈l,tL es
 | []=>by simp[uh]
 | es::l=>by simp[uh,Dt]
theorem ah {L1:TL}{c:C}(h:fN L1 3 c=true):Ml L L1 c c:=.inr (.inl ⟨rfl,h⟩)
theorem drop_cons {a:Type}{l:List a}{k:Nat}(h:k<l.length):∃x,l[k]?=some x/\l.drop k=x::l.drop (k+1):=⟨l[k],by simp[h],abD h⟩
theorem gF {a:Type}{l:List a}{k:Nat}(h:¬k<l.length):l.drop k=[]:=List.drop_eq_nil_iff.2 (by omega)
theorem Tx {PS:qw}{c:C}{v:Value}(a:C5 c=some v) (h:PS.ps v) (b:lW L [] PS.hb=true:=by rfl):Tq PS L c:=⟨v,a,b,h⟩
end
def nL:Own->Value
 | .box g _ _=>.pointer (some ⟨g,0,none⟩)
 | .row _ _ _ _ _=>undef
def qu:Own->List Value->Own
 | .box g t _,cs=>.box g t cs
 | .row v t sz n xs,_=>.row v t sz n xs
def RA:Own->Nat->Prop
 | .box _ 0 _,_=>False
 | .box _ (_+1) cs,n=>cs.length=n
 | .row _ _ _ _ _,_=>False
theorem F8 {g:Nat}{t:TypeId}{cs:List Value}{n:Nat}(h:t≠0) (a:cs.length=n):RA (.box g t cs) n:=by
 cases t with
 | zero=>exact o4 rfl h
 | succ t=>exact a
theorem Nu {g:Nat}{t:TypeId}{cs:List Value}{n:Nat}(h:RA (.box g t cs) n):t≠0:=by
 cases t with
 | zero=>exact h.elim
 | succ t=>exact Nat.succ_ne_zero t
def Eo:List Own->List Nat->Prop
 | [],[]=>True
 | o::bs,n::ns=>RA o n/\Eo bs ns
 | _,_=>False
structure qo (P:Program) (H:Nat) (PS:Value->Prop) (ns:List Nat) (out:Value->List (List Value)):Prop where
 inv:∀cap w,(invoke (.fn (.func H) cap) #[]).run P w=.ok (.enter H cap) w
 idle:∀(bs:List Own) (w:World),Eo bs ns->CallsD P H (bs.map nL).toArray .returning w fun e u' w'=>e=.returned (.tuple #[])/\u'=.returning/\w'=w
 caught:∀(F:aD) (bs:List Own) (v:Value) (older:List PanicEntry) (w:World),PS v->Eo bs ns->St F (inp bs) w ->
  CallsD P H (bs.map nL).toArray (.panicking ({v,recovered:=false}::older)) w fun e u' w'=>e=.returned (.tuple #[])/\u'=.panicking ({v,recovered:=true}::older) /\
   ∃F',St F' (inp (List.zipWith qu bs (out v))) w'/\Step F (inp bs) w F' (inp (List.zipWith qu bs (out v))) w'
theorem v9 {P:Program}{F:aD}{L:Loc}{ρ:Env}{a:Act}{w:World}{fn:Func}{rs:List RV}{K:List Value->Prop}(c:St F L w) (e:aH L ρ a) (b:qm P fn.results.toList=some rs) (h:lU L ρ rs K) :
  ∃vs,(results fn a.tmps).run P w=.ok (gX vs) w/\K vs:=by
 obtain⟨vs,d,f⟩:=qK c e b h;refine⟨vs,?_,f⟩;rw[s8,Array.mapM_eq_mapM_toList];simp only[Sem.run_bind,Sem.run_map];rw[d];simp only[Result.andThen_ok,Sem.run_pure];congr 1
 match vs with
 | []=>rfl
 | [t]=>rfl
 | t::u::r =>
  simp only[gX];rw[dif_neg (by simp)]
def sI:List TO->List TO->Prop
 | [],Mo=>Mo=[]
 | .box t _::l,Mo=>∃(n:Nat) (Mo':List TO),Mo=.box t (List.replicate n .any)::Mo'/\sI l Mo'
 | .row t sz _::l,Mo=>∃Mo',Mo=.row t sz []::Mo'/\sI l Mo'
 | .map _::_,_=>False
 | .win _ _ _ _::_,_=>False
def AE:List TO->Bool
 | []=>true
 | .map _::_=>false
 | .win _ _ _ _::_=>false
 | .box _ _::l=>AE l
 | .row _ _ _::l=>AE l
theorem Du {F:aD}{L:Loc}:∀vs:List Value,aF F L (List.replicate vs.length .any) vs
 | []=>by simp only[abb,List.replicate_zero,aF]
 | v::vs=>by
  simp only[aaV,abB,aF];exact⟨v,vs,rfl,trivial,Du vs⟩
theorem F9 {F:aD}:∀(Lin:List TO) (Li Lo:List Own),AE Lin=true->Li.length=Lin.length->Lo.length=Lin.length->(∀(i:Nat) o p,Lin[i]?=some o->Li[i]?=some p->∃L,cZ F L o p) ->
  (∀(i:Nat) g t cs,Li[i]?=some (.box g t cs)->∃cs',Lo[i]?=some (.box g t cs')) ->
  ∃(Mo:List TO) (Lo':List Own),sI Lin Mo/\Mo.length=Lin.length/\Lo'.length=Lin.length/\(∀(i:Nat) o,Lo'[i]?=some o->Lo[i]?=some o\/∃t sz,o=.row (.slice none 0 0) t sz 0 []) /\
   (∀(i:Nat) g t cs,Li[i]?=some (.box g t cs)->∃cs',Lo'[i]?=some (.box g t cs'))/\∀(i:Nat) o p L G,Mo[i]?=some o->Lo'[i]?=some p->cZ G L o p
 | [],Li,Lo,c,d,h,j,f=>by
  have:Li=[]:=List.length_eq_zero_iff.1 d;subst this;exact⟨[],[],rfl,rfl,rfl,fun i o e=>by simp at e,fun i g t cs e=>by simp at e,fun i o p L G e=>by simp at e⟩
 | o::Lin,[],Lo,c,d,h,j,f=>by simp at d
 | o::Lin,p::Li,[],c,d,h,j,f=>by simp at h
 | o::Lin,p::Li,q::Lo,c,d,h,j,f=>by
  obtain⟨Mo,Lo',x,m,r,u,s,w⟩:=F9 Lin Li Lo (by cases o<;>first | exact c | cases c) (by simpa using d) (by simpa using h) (fun i o p b a=>j (i+1) o p (by simpa using b) (by simpa using a)) (fun i g t cs e=>by simpa using f (i+1) g t cs (by simpa using e));obtain⟨L,k⟩:=j 0 o p rfl rfl;cases o with
  | map es=>cases c
  | win t0 p0 z q0=>cases c
  | box t cs =>
   cases p with
   | row=>exact k.elim
   | box g l us =>
    obtain⟨cs',e⟩:=f 0 g l us rfl;simp only[aa0,vz] at e;subst e;refine⟨.box t (List.replicate cs'.length .any)::Mo,.box g l cs'::Lo',⟨_,_,rfl,x⟩,by simp[m],by simp[r],fun i o e=>?_,fun i g t cs e=>?_,fun i o p L G b a=>?_⟩
    ·cases i with
     | zero=>exact .inl e
     | succ i=>simpa using u i o (by simpa using e)
    ·cases i with
     | zero=>simp only[aa0,vz] at e;injection e with q1 q2 q3;subst q1 q2;exact⟨_,rfl⟩
     | succ i=>simpa using s i g t cs (by simpa using e)
    ·cases i with
     | zero =>
      simp only[aa0,vz] at b a;subst b a;exact⟨k.1,Du _⟩
     | succ i=>exact w i o p L G (by simpa using b) (by simpa using a)
  | row t sz els =>
   cases p with
   | box=>exact k.elim
   | row v l y n xs =>
    refine⟨.row t sz []::Mo,.row (.slice none 0 0) t sz 0 []::Lo',⟨_,rfl,x⟩,by simp[m],by simp[r],fun i o e=>?_,fun i g t cs e=>?_,fun i o p L G b a=>?_⟩
    ·cases i with
     | zero=>simp only[aa0,vz] at e;subst e;exact .inr ⟨_,_,rfl⟩
     | succ i=>simpa using u i o (by simpa using e)
    ·cases i with
     | zero=>simp only[aa0,vz] at e;cases e
     | succ i=>simpa using s i g t cs (by simpa using e)
    ·cases i with
     | zero =>
      simp only[aa0,vz] at b a;subst b a;exact⟨rfl,rfl,rfl,⟨abk _,none,0,rfl,fun _=>rfl⟩,by simp only[aN]⟩
     | succ i=>exact w i o p L G (by simpa using b) (by simpa using a)
theorem RD {F F':aD}{Lin:List TO}{Li Lo:List Own}{w w':World}(s:AE Lin=true) (hl:Li.length=Lin.length) (u:dc F (inp Li) (jm Lin)) (f:St F' (inp Lo) w') (c:Step F (inp Li) w F' (inp Lo) w') (v:Lo.length=Li.length)
  (x:∀(i:Nat) g t cs,Li[i]?=some (.box g t cs)->∃cs',Lo[i]?=some (.box g t cs')) :
  ∃Mo Lo',St F' (inp Lo') w'/\Step F (inp Li) w F' (inp Lo') w'/\sI Lin Mo/\Mo.length=Lo'.length/\dc F' (inp Lo') (jm Mo)/\∀(i:Nat) g t cs,Li[i]?=some (.box g t cs)->∃cs',Lo'[i]?=some (.box g t cs'):=by
 have h:∀(i:Nat) o p,Lin[i]?=some o->Li[i]?=some p->∃L,cZ F L o p:=by
  intro i o p d n;have z:=u (1000+i);rw[cB,aX,eu (by omega),eu (by omega),show 1000+i-1000=i by omega,d,n] at z;exact⟨_,z⟩
 obtain⟨Mo,Lo',a1,q,r,a4,a5,a6⟩:=F9 Lin Li Lo s hl (by rw[v,hl]) h x;have a:∀j o,(inp Lo').get j=some o->(inp Lo).get j=some o\/∃t sz,o=.row (.slice none 0 0) t sz 0 []:=by
  intro j o e;rw[aX] at e ⊢;split at e
  case isFalse=>cases e
  rename_i hj;rw[eu hj];exact a4 _ o e
 refine⟨Mo,Lo',⟨f.frz,fun j o e=>?_,fun j o g e hb=>?_,fun j y o o' g e e' hb l=>?_,f.glob⟩,?_,a1,by rw[q,r],fun k=>?_,a5⟩
 ·rcases a j o e with d | ⟨t,sz,rfl⟩
  ·exact f.own j o d
  ·exact World.ownsRow_nil w' 0 t sz
 ·rcases a j o e with d | ⟨t,sz,rfl⟩
  ·exact f.off j o g d hb
  ·cases hb
 ·rcases a j o e with d | ⟨t,sz,rfl⟩
  ·rcases a y o' e' with n | ⟨t,sz,rfl⟩
   ·exact f.sep j y o o' g d n hb l
   ·cases l
  ·cases hb
 ·refine⟨c.le,c.os,c.tape,c.output,c.size,c.same,c.frz,fun b hb=>?_⟩;obtain⟨j,o,e,hb⟩:=hb;rcases a j o e with d | ⟨t,sz,rfl⟩
  ·exact c.own b ⟨j,o,d,hb⟩
  ·cases hb
 ·rw[cB,aX];split
  ·cases d:Mo[k-1000]? with
   | none =>
    have:Lo'[k-1000]?=none:=aaY (by rw[r,<-q];exact abC.1 d);rw[this];trivial
   | some o =>
    have m:k-1000<Lo'.length:=by rw[r,<-q];exact(w7.1 d).1
    rw[v7 m];exact a6 _ o _ _ _ d (v7 m)
  ·trivial
def yF (M:TL) (τ:aV):List Nat->List Nat->Bool
 | [],[]=>true
 | k::ks,n::ns=>match τ k,M.get k with
  | .own j 0,some (.box _ cs)=>match Nat.beq j k,cR cs n with | true,true=>yF M τ ks ns | _,_=>false
  | _,_=>false
 | _,_=>false
section
variable {G:Nat->Option (Nat×TypeId)}{F:aD}{L:Loc}{ρ:Env}{M:TL}{τ:aV}
theorem Dv:∀{ks ns:List Nat},yF M τ ks ns=true->TS G F L ρ M τ->∃bs:List Own,L.sub ks=some bs/\Eo bs ns/\ks.map (fun k=>conc L (ρ k))=bs.map nL/\(∀k∈ks,ρ k=.own k 0)
 | [],[],_,_=>⟨[],rfl,trivial,rfl,fun k h=>by cases h⟩
 | [],n::ns,h,_=>by cases h
 | k::ks,[],h,_=>by cases h
 | k::ks,n::ns,h,d=>by
  simp only[yF] at h;split at h
  case h_2=>cases h
  rename_i j t cs r m;split at h
  case h_2=>cases h
  rename_i a l;have a:=vv a;subst a;obtain⟨bs,s,u,o,q⟩:=Dv h d;obtain⟨g,ty,vs,e,p,c⟩:=kQ d.tl m;have f:ρ j=.own j 0:=(eX (x:=.t j) d.env r).1;refine⟨.box g ty vs::bs,by simp only[Loc.sub,e,s],⟨F8 c.2.2 (by rw[p.len];exact bC l),u⟩,?_,?_⟩
  ·rw[aaS,aaS,o];simp only[f,conc,e,nL]
  ·intro k b;rcases xC.1 b with rfl | b
   ·exact f
   ·exact q k b
end
theorem wS:∀{bs:List Own}{ns:List Nat},Eo bs ns->bs.length=ns.length
 | [],[],_=>rfl
 | [],_::_,h=>h.elim
 | _::_,[],h=>h.elim
 | o::bs,n::ns,h=>by simp[wS h.2]
theorem Dw {hb:List (Nat×Nat)}{L L':Loc}:∀{ks ns:List Nat}{bs:List Own},L.sub ks=some bs->Eo bs ns->(∀k g t cs,k∈ks->L.get k=some (.box g t cs)->∃cs',L'.get k=some (.box g t cs'))->Vz hb L'->(∀x∈ks.zip ns,x∈hb) ->
  ∃a,L'.sub ks=some a/\Eo a ns/\a.map nL=bs.map nL
 | [],ns,bs,b,c,m,f,p=>by
  simp only[Loc.sub,vz] at b;subst b;exact⟨[],rfl,c,rfl⟩
 | k::ks,ns,bs,b,c,m,f,p=>by
  simp only[Loc.sub] at b;split at b
  case h_2=>cases b
  rename_i o l v r;injection b with b
  subst b;cases ns with
  | nil=>exact c.elim
  | cons n ns =>
   obtain⟨c,h⟩:=c;cases o with
   | row=>exact c.elim
   | box g t cs =>
    obtain⟨a,q1,q2,u⟩:=Dw r h (fun j g t cs z e=>m j g t cs (by simp[z]) e) f (fun x w=>p x (by simp[w]));obtain⟨cs',q⟩:=m k g t cs (by simp) v;obtain⟨g',t',y,d,s⟩:=f k n (p _ (by simp));rw[q] at d;injection d with d
    injection d with x1 x2 x3
    subst x1 x2 x3;exact⟨.box g t cs'::a,by simp only[Loc.sub,q,q1],⟨F8 (Nu c) s,q2⟩,by simp[u,nL]⟩
theorem Ga:∀{bs:List Own}{ns:List Nat}{l:List (List Value)},Eo bs ns->l.length=ns.length->(List.zipWith qu bs l).length=bs.length/\(∀(i:Nat) g t cs,bs[i]?=some (.box g t cs)->∃cs',(List.zipWith qu bs l)[i]?=some (.box g t cs')) /\
  ∀(i:Nat) cs,l[i]?=some cs->∃g t,(List.zipWith qu bs l)[i]?=some (.box g (t+1) cs)
 | [],[],l,_,h=>by
  have:l=[]:=List.length_eq_zero_iff.1 h;subst this;exact⟨rfl,fun i g t cs e=>by simp at e,fun i cs e=>by simp at e⟩
 | [],n::ns,l,h,_=>h.elim
 | o::bs,[],l,h,_=>h.elim
 | o::bs,n::ns,[],_,h=>by simp at h
 | o::bs,n::ns,c::l,⟨a,d⟩,h=>by
  obtain⟨k,m,f⟩:=Ga (l:=l) d (by simpa using h);cases o with
  | row=>exact a.elim
  | box g t cs =>
   refine⟨by simp[k],fun i b j cs' e=>?_,fun i cs' e=>?_⟩
   ·cases i with
    | zero =>
     simp only[aa0,vz] at e;injection e with x1 x2 x3
     subst x1 x2;exact⟨c,rfl⟩
    | succ i=>simpa using m i b j cs' (by simpa using e)
   ·cases i with
    | zero =>
     simp only[aa0,vz] at e;subst e;cases t with
     | zero=>exact a.elim
     | succ t=>exact⟨g,t,rfl⟩
    | succ i=>simpa using f i cs' (by simpa using e)
theorem vF {a:Act}{ρ:Env}{L:Loc}(b:aH L ρ a):∀ks:List Nat,(ks.map Operand.tmp).map a.eval=ks.map fun k=>conc L (ρ k)
 | []=>rfl
 | k::ks=>by
  simp only[aaS,vF b ks];exact j3 (·::_) (b.eq k)
theorem PY:∀(l:List PanicEntry),(∀e∈l,e.goexit=false)->l.dropWhile (!·.goexit)=[]
 | [],_=>rfl
 | e::l,h=>by
  rw[List.dropWhile_cons,eu (by simp[h e (by simp)])];exact PY l fun x a=>h x (by simp[a])
theorem BR {P:Program}{f H d r1:Nat}{fn:Func}{c0 rest:Code}{o1 o2:Oper}{A:cK}{sc0 sc:aJ}{rs:List RV}{ks ns:List Nat}{args:List C}{Lin:List TO}{R:List TO->C->Prop}{PS:Value->Prop}{out:Value->List (List Value)}
  (hf:P.funcs[f]?=some fn) (hb:fn.body=some (.seq c0 (.seq (.region r1 #[o1,o2] false) rest))) (hname:(fn.name == "runtime.NumGoroutine")=false) (hnt:fn.ntmps=A.n)
  (ho1:o1.op=.makeFunc (.func H) #[] (ks.map Operand.tmp).toArray) (hd1:o1.dst=some d) (hg1:o1.guard=none) (ho2:o2.op=.defer {callee:=.value (.tmp d),args:=#[],argTypes:=#[]}) (hd2:o2.dst=none) (hg2:o2.guard=none)
  (hl0:low P A c0=some sc0) (hl:low P A rest=some sc) (hres:qm P fn.results.toList=some rs) (hH:qo P H PS ns out) (hd:d<A.n) (hks:bJ ks=true) (hkd:(ks.all fun k=>!(fW (cP rest) k)&&!(Nat.beq k d)&&Nat.blt k 1000)=true)
  (hout:∀v,PS v->(out v).length=ns.length) (hlen:Nat.ble args.length A.n=true) (hnm:AE Lin=true)
  (hcat:∀v,PS v->∃c x,(∀(L:Loc) (ρ:Env),(∀(i:Nat) k cs,ks[i]?=some k->(out v)[i]?=some cs->ρ k=.own k 0/\∃g t,L.get k=some (.box g (t+1) cs))->lU L ρ rs (fun vs=>gX vs=x))/\(∀F L,Rel F L c x)/\∀Mo,sI Lin Mo->R Mo c)
  (h:tL args->(∀o∈Lin,o.Wf)->fA P ⟨fun _=>False,[],none⟩ sc0 (fun _ _ _=>False) (fun _ _=>False) (fun M τ=>yF M τ ks ns=true /\
   fA P ⟨PS,ks.zip ns,none⟩ sc (fun _ _ _=>False) (fun L ρ=>qQ L ρ rs fun vs=>o7 Lin L (tj vs) R) (fun L ρ=>qQ L ρ rs fun vs=>o7 Lin L (tj vs) R) M (bD (some d) .any τ)) (jm Lin) (wq 0 args)) :
  CallsT P f args Lin R:=by
 refine⟨fun F Li vs hlL htl ha=>⟨⟨fn,hf,by rw[hb];rfl,hname⟩,gW.aao,fun w hs=>?_⟩⟩
 suffices hall:∀RR:Ending->World->Prop,(∀v F' Lo w',St F' (inp Lo) w'->Step F (inp Li) w F' (inp Lo) w'->gW Li R F' Lo v->RR (.returned v) w')->Calls P f vs.toArray w RR from
  hall _ fun v F' Lo w' h1 h2 h3=>⟨v,F',Lo,rfl,h1,h2,h3⟩
 intro RR hRR;refine calls_of_wp_defers hf hb ?_;have hwo:∀o∈Lin,o.Wf:=by
  intro o ho;obtain⟨i,hi⟩:=abd.1 ho;have:=htl (1000+i);rw[cB,aX,eu (by omega),eu (by omega),show 1000+i-1000=i by omega,hi] at this;cases e:Li[i]? with
  | none=>rw[e] at this;exact this.elim
  | some p=>rw[e] at this;exact cZ.wf this
 have h:=h ha.wf hwo;have hla:=ha.len;have hlen:=aa1 hlen;have key:∀j,∃sv,aQ F (inp Li) (wq 0 args j) sv/\conc (inp Li) sv=(vs.toArray++Array.replicate (fn.ntmps-vs.toArray.size) undef).getD j undef/\(∀k off,sv=.own k off->∃g t cs,(inp Li).get k=some (.box g t cs))/\(∀ad i,sv=.el ad i->ad≠none):=by
  intro j;rw[yD];simp only[abk,aa9,Nat.sub_zero,abf];cases e:args[j]? with
  | some c =>
   have hlt:j<vs.length:=by rw[hla];exact(w7.1 e).1
   obtain⟨s1,s2,s3,s4⟩:=BP (ha.at e (v7 hlt));refine⟨_,s1,?_,s3,fun ad i e=>s4 ad i e⟩;rw[s2,Array.getElem?_append_left (by simpa using hlt)];simp[hlt]
  | none =>
   have hge:vs.length<=j:=by rw[hla];exact abC.1 e
   refine⟨.v undef,qZ,?_,fun _ _ e=>(by cases e),fun _ _ e=>(by cases e)⟩;rw[Array.getElem?_append_right (by simpa using hge)];simp only[Array.getElem?_replicate,conc];split<;>rfl
 let ρ0:Env:=fun j=>(key j).choose
 have he:aH (inp Li) ρ0 {tmps:=vs.toArray++Array.replicate (fn.ntmps-vs.toArray.size) undef,defers:=[]} :=
  ⟨fun t=>(key t).choose_spec.2.1.symm,fun t k off e=>(key t).choose_spec.2.2.1 k off e,fun t ad j e=>(key t).choose_spec.2.2.2 ad j e⟩
 let G:Nat->Option (Nat×TypeId):=fun k=>match(inp Li).get k with | some (.box g t _)=>some (g,t) | _=>none
 have hG1:∀k g t cs,(inp Li).get k=some (.box g t cs)->G k=some (g,t):=fun k g t cs e=>by simp only[G,e]
 have hkp:Kp G (inp Li):=by
  intro k g t e;simp only[G] at e;split at e
  ·rename_i g' t' cs h;injection e with e
   injection e with e1 e2
   subst e1 e2;exact⟨cs,h⟩
  ·cases e
 have ht:TS G F (inp Li) ρ0 (jm Lin) (wq 0 args):=⟨htl,fun j=>(key j).choose_spec.1,hkp,hs.glob⟩;have hGd:∀k,G k≠none->1000<=k:=by
  intro k hne;simp only[G] at hne;split at hne
  ·rename_i g t cs h;rw[aX] at h;split at h
   ·assumption
   ·cases h
  ·exact o4 rfl hne
 refine wp_seq (wp_mono (qf c0 hl0 (fun k _ hne=>.inl (hGd k hne)) hs he ht (by simp[hnt];omega) h) ?_);intro e a1 w1 hq;cases e with
 | exit j=>obtain⟨F',L',ρ',_,_,_,_,_,_,M',τ',_,h⟩:=hq;exact h.elim
 | goto l=>exact hq.elim
 | outgrown=>exact hq.elim
 | ret=>obtain⟨F',L',ρ',_,_,_,_,_,_,M',τ',_,h⟩:=hq;exact h.elim
 | panic c=>obtain⟨v,hch,F',L',_,_,_,_,_,_,hp,_⟩:=hq;exact hp.elim
 | normal =>
 obtain⟨F1,L1,ρ1,hs1,he1,hn1,hd1',hst1,_,M1,τ1,ht1,hcaps,hrest⟩:=hq;obtain⟨bs,hsub,hbx,hptr,hown⟩:=Dv hcaps ht1;simp only[Exit.then]
 -- the deferred function is named
 generalize hfv:Value.func (.func H) #[] (bs.map nL).toArray=fv;have hev:(ks.map Operand.tmp).toArray.map a1.eval=(bs.map nL).toArray:=by
  rw[List.map_toArray,vF he1,hptr]
 have he2:=he1.put (L':=L1) (d:=some d) (v:=fv) (x:=.v fv) (fun k e=>by injection e with e;subst e;omega) rfl bS dG (fun k g ty cs e=>⟨cs,e⟩);have ht2:TS G F1 L1 (put (some d) (.v fv) ρ1) M1 (bD (some d) .any τ1):=ht1.put (c:=.any) (sv:=.v fv) trivial (some d);obtain⟨tm,df⟩:=a1;simp only at hd1';subst hd1';have hdt:(tm.setIfInBounds d fv).getD d undef=fv:=by
  have:d<tm.size:=by simpa[hn1] using hd
  simp[abf,this]
 refine wp_seq (wp_region ?_);generalize hd0:({target:=.fn (.func H) (bs.map nL).toArray,args:=#[]}:Deferred)=d0;have hsz:d<tm.size:=by simpa[hn1] using hd
 simp[wpOps,go_sem,ho1,hd1,hg1,ho2,hd2,hg2,Exit.then,Region.wanted,hsz,Instr.makeFunc];have hml:List.map (Act.eval {tmps:=tm,defers:=[]}∘Operand.tmp) ks=bs.map nL:=by
  rw[<-hptr,<-vF he1,abF]
 rw[hml,hfv,hd0];refine .inl (.inl ?_)
 let G1:Nat->Option (Nat×TypeId):=fun k=>match Nat.ble 1000 k||fW ks k with | true=>(match L1.get k with | some (.box g t _)=>some (g,t) | _=>none) | false=>none
 have hGL:∀k g t cs,(1000<=k\/k∈ks)->L1.get k=some (.box g t cs)->G1 k=some (g,t):=fun k g t cs hk e=>by
  have:(Nat.ble 1000 k||fW ks k)=true:=by
   rw[abl];exact hk.imp (fun h=>by rw[Nat.ble_eq];exact h) cS.2
  simp only[G1,this,e]
 have hfz1:uD G1 ⟨PS,ks.zip ns,none⟩ (iX sc):=by
  intro k _ hne;simp only[G1] at hne;split at hne
  ·rename_i hb;rw[abl] at hb;rcases hb with hb | hb
   ·rw[Nat.ble_eq] at hb;exact .inl hb
   ·refine .inr ?_;have hl2:ks.length=ns.length:=by rw[(eM hsub).1.symm];exact wS hbx
    show fW ((ks.zip ns).map (·.1)) k=true;rw[List.map_fst_zip (by omega)];exact hb
  ·exact o4 rfl hne
 have hkp1:Kp G1 L1:=by
  intro k g t e;simp only[G1] at e;split at e
  case h_2=>cases e
  split at e
  ·rename_i g' t' cs h;injection e with e
   injection e with e1 e2
   subst e1 e2;exact⟨cs,h⟩
  ·cases e
 have hGG:∀k g t,G k=some (g,t)->G1 k=some (g,t):=fun k g t e=>let⟨cs,h⟩:=ht1.kp k g t e;hGL k g t cs (.inl (hGd k (by rw[e];simp))) h;have ht3:TS G1 F1 L1 (put (some d) (.v fv) ρ1) M1 (bD (some d) .any τ1):=⟨ht2.tl,ht2.env,hkp1,ht2.glob⟩;have he3:aH L1 (put (some d) (.v fv) ρ1) {tmps:=tm.setIfInBounds d fv,defers:=[d0]}:=⟨he2.eq,he2.own,he2.el⟩;refine wp_mono (qf rest hl hfz1 hs1 he3 ht3 (by simpa using hn1) hrest) ?_;intro e a' w' hq;have hnd:=cU hks;have hGI:∀k g t cs,(inp Li).get k=some (.box g t cs)->G1 k=some (g,t):=fun k g t cs e=>hGG k g t (hG1 k g t cs e);have back:∀(u:FrameMode) (w:World),u=.returning->Leaves P fn a'.tmps RR [] .returning w->Leaves P fn a'.tmps RR [d0] u w:=by
  rintro u w rfl hlv;rw[<-hd0];refine leaves_cons (f:=H) (args:=(bs.map nL).toArray) (by simp) (hH.inv _ w) ?_;refine(hH.idle bs w hbx).mono ?_;rintro e u' w6 ⟨rfl,rfl,rfl⟩;exact hlv
 have fin:eS A.n F1 L1 w1 {tmps:=tm.setIfInBounds d fv,defers:=[d0]} (cP rest) (Both G1 (fun L ρ=>qQ L ρ rs fun vs=>o7 Lin L (tj vs) R)) a' w'->Leaves P fn a'.tmps RR a'.defers .returning w':=by
  intro hq;have hq':eS A.n F (inp Li) w {tmps:=tm.setIfInBounds d fv,defers:=[d0]} (cP rest) (Both G1 (fun L ρ=>qQ L ρ rs fun vs=>o7 Lin L (tj vs) R)) a' w':=by
   obtain⟨F',L',ρ',g1,g2,g3,g4,g5,g6,g7⟩:=hq;exact⟨F',L',ρ',g1,g2,g3,g4,hst1.trans g5,g6,g7⟩
  obtain⟨k1,v,k2,F',Lo,k3,k4,k5⟩:=PW hres hlL htl hGI hq';rw[k1];exact back _ _ rfl ⟨v,k2,hRR v F' Lo w' k3 k4 k5⟩
 cases e with
 | normal=>exact fin hq
 | ret=>exact fin hq
 | exit j=>obtain⟨F',L',ρ',_,_,_,_,_,_,M',τ',_,h⟩:=hq;exact h.elim
 | goto l=>exact hq.elim
 | outgrown=>exact hq.elim
 | panic ch =>
  obtain⟨v,⟨older,rfl,hold⟩,F',L',g1,g2,g3,g4,g5,kp,hp,hbL,_⟩:=hq;show Leaves P fn a'.tmps RR a'.defers _ w';rw[g4,<-hd0];obtain⟨bs',q1,q2,q3⟩:=Dw hsub hbx (fun k g t cs hk e=>kp k g t (hGL k g t cs (.inr hk) e)) hbL (fun x hx=>hx);refine leaves_cons (f:=H) (args:=(bs.map nL).toArray) (by simp) (hH.inv _ w') ?_;rw[<-q3];refine(hH.caught F' bs' v older w' hp q2 (g1.handed q1 hnd)).mono ?_;rintro e u' w6 ⟨rfl,rfl,F6,hs6,hst6⟩;show Leaves P fn a'.tmps RR [] (settle _) w6;have hset:settle (.panicking ({v,recovered:=true}::older))=.returning:=by
   have:older.dropWhile (!·.goexit)=[]:=by
    exact PY older hold
   simp only[settle,this]
  rw[hset];obtain⟨z1,z2,z3⟩:=Ga (l:=out v) q2 (hout v hp);obtain⟨sl,sg⟩:=eM q1;have hkl:ks.length=(List.zipWith qu bs' (out v)).length:=by rw[z1,sl]
  obtain⟨c1,c2⟩:=jA g1 q1 hnd hnd (fun k hk=>.inl hk) hs6 hst6 hkl;generalize hL6:(L'.aaf ks).puts ks (List.zipWith qu bs' (out v))=L6 at c1 c2;have hget:∀(i:Nat) k cs,ks[i]?=some k->(out v)[i]?=some cs->∃g t,L6.get k=some (.box g (t+1) cs)/\(∃cs',L'.get k=some (.box g (t+1) cs')):=by
   intro i k cs e1 e2;obtain⟨g,t,e3⟩:=z3 i cs e2;refine⟨g,t,by rw[<-hL6];exact cN hnd hkl e1 e3,?_⟩;have e4:=sg i k e1;have hlt:i<bs'.length:=by rw[<-z1];exact(w7.1 e3).1
   rw[v7 hlt] at e4;have e5:(List.zipWith qu bs' (out v))[i]?=some (qu bs'[i] cs):=by
    rw[List.getElem?_zipWith,v7 hlt,e2]
   rw[e3] at e5;injection e5 with e5
   cases hb:bs'[i] with
   | row=>rw[hb] at e5;cases e5
   | box g' t' cs' =>
    rw[hb] at e5 e4;injection e5 with x1 x2
    subst x1 x2;exact⟨cs',e4⟩
  -- the slots that name the boxes
  let ρ6:Env:=fun j=>match fW ks j with | true=>.own j 0 | false=>.v (a'.tmps.getD j undef)
  have hkd':∀k∈ks,k∉cP rest/\k≠d:=by
   intro k hk;have:=aaZ.1 hkd k hk;simp only[xo,Bool.not_eq_true'] at this;refine⟨fun hm=>?_,fun e=>?_⟩
   ·rw[cS.2 hm] at this;exact o4 this.1.1 (by simp)
   ·subst e;simp at this
  have hslot:∀k∈ks,∃g t cs,L6.get k=some (.box g t cs)/\a'.tmps.getD k undef=.pointer (some ⟨g,0,none⟩):=by
   intro k hk;obtain⟨i,hi⟩:=abd.1 hk;have hlt:i<(out v).length:=by
    have:=(w7.1 hi).1;have hl2:ks.length=ns.length:=by rw[<-sl];exact wS q2
    rw[hout v hp];omega
   obtain⟨g,t,e1,cs',e2⟩:=hget i k _ hi (v7 hlt);refine⟨g,t+1,_,e1,?_⟩;obtain⟨y1,y2⟩:=hkd' k hk;rw[g5 k y1];have:=he3.eq k;rw[this,put_eq];simp only[];rw[o6 y2,hown k hk];simp only[conc];obtain⟨g0,t0,cs0,e0⟩:=he1.own k k 0 (hown k hk);obtain⟨cs1,e3⟩:=kp k g0 t0 (hGL k g0 t0 cs0 (.inr hk) e0);rw[e2] at e3;injection e3 with e3
   injection e3 with x1 x2 _
   subst x1;rw[e0]
  have he6:aH L6 ρ6 a':=by
   refine⟨fun j=>?_,fun j k off e=>?_,fun j ad i e=>?_⟩
   ·simp only[ρ6];cases hm:fW ks j with
    | false=>rfl
    | true =>
     obtain⟨g,t,cs,e1,e2⟩:=hslot j (cS.1 hm);rw[e2];simp only[conc,e1]
   ·simp only[ρ6] at e;cases hm:fW ks j with
    | false=>rw[hm] at e;cases e
    | true =>
     rw[hm] at e;injection e with x1 x2
     subst x1;obtain⟨g,t,cs,e1,_⟩:=hslot j (cS.1 hm);exact⟨g,t,cs,e1⟩
   ·simp only[ρ6] at e;cases hm:fW ks j<;>rw[hm] at e<;>cases e
  obtain⟨c,x,hrv,hrel,hlost⟩:=hcat v hp;obtain⟨us,h5,h6⟩:=v9 (K:=fun vs=>gX vs=x) c1 he6 hres (hrv L6 ρ6 fun i k cs e1 e2=>by
   obtain⟨g,t,e3,_⟩:=hget i k cs e1 e2;refine⟨?_,g,t,e3⟩;simp only[ρ6,cS.2 (aaQ e1)])
  have hst:Step F (inp Li) w F6 L6 w6:=(hst1.trans g2).trans c2;obtain⟨Lo,p1,p2,p3,p4⟩:=yE c1 hst (fun i g t cs e=>by
   have e0:(inp Li).get (1000+i)=some (.box g t cs):=by rw[aX,eu (by omega),show 1000+i-1000=i by omega];exact e
   obtain⟨cs1,e1⟩:=kp (1000+i) g t (hGI _ g t cs e0);refine⟨cs1,?_⟩;rw[<-hL6];have hni:1000+i∉ks:=by
    intro hm;have:=aaZ.1 hkd _ hm;simp only[xo] at this;have:=this.2;rw[Nat.blt_eq] at this;omega
   rcases dA ks (List.zipWith qu bs' (out v)) (L'.aaf ks) (1000+i) hnd hkl with⟨q1,q2⟩ | ⟨i',q1,q2,q3⟩
   ·rw[q1,fL,o6 hni];exact e1
   ·exact o4 (aaQ q1) hni)
  obtain⟨Mo,Lo',l1,l2,l3,l4,l5,l6⟩:=RD hnm hlL htl p1 p2 p3 p4;refine⟨_,h5,hRR _ F6 Lo' w6 l1 l2 ⟨Mo,c,l4,l5,?_,l6,hlost Mo l3⟩⟩;rw[h6];exact hrel _ _
def tmpsOf:List Operand->Option (List Nat)
 | []=>some []
 | .tmp k::l=>match tmpsOf l with | some ks=>some (k::ks) | none=>none
 | _::_=>none
theorem AF:∀{l:List Operand}{ks:List Nat},tmpsOf l=some ks->l=ks.map Operand.tmp
 | [],ks,h=>by simp only[tmpsOf,vz] at h;subst h;rfl
 | o::l,ks,h=>by
  cases o<;>simp only[tmpsOf,reduceCtorEq] at h;split at h
  case h_2=>cases h
  rename_i a e;injection h with h
  subst h;rw[AF e];rfl
def BS (op:Op) (d:Nat):Bool :=
 match op with
 | .defer c=>match c.callee,c.args.toList,c.argTypes.toList with
  | .value (.tmp a),[],[]=>Nat.beq d a
  | _,_,_=>false
 | _=>false
theorem EY {op:Op}{d:Nat}(h:BS op d=true):op=.defer {callee:=.value (.tmp d),args:=#[],argTypes:=#[]}:=by
 unfold BS at h;split at h
 case h_2=>cases h
 rename_i c;split at h
 case h_2=>cases h
 rename_i m b e f;have:=vv h;subst this;obtain⟨ca,j,a⟩:=c;simp only at b e f;subst b;have k:j=#[]:=by apply Array.ext';exact e
 have l:a=#[]:=by apply Array.ext';exact f
 rw[k,l]
def EZ (P:Program) (A:cK) (fn:Func):Option (aJ×aJ×Nat×List Nat×Nat×List RV) :=
 match fn.body with
 | some (.seq c0 (.seq (.region _ ⟨[o1,o2]⟩ false) rest))=>match o1.op,o1.dst,o1.guard with
  | .makeFunc (.func H) ⟨[]⟩ ca,some d,none=>match BS o2.op d,o2.dst,o2.guard,tmpsOf ca.toList with
   | true,none,none,some ks=>match low P A c0,low P A rest,qm P fn.results.toList with
    | some sc0,some sc,some rs=>match fn.name == "runtime.NumGoroutine",Nat.beq fn.ntmps A.n&&Nat.blt d A.n&&bJ ks,ks.all fun k=>!(fW (cP rest) k)&&!(Nat.beq k d)&&Nat.blt k 1000 with
     | false,true,true=>some (sc0,sc,H,ks,d,rs)
     | _,_,_=>none
    | _,_,_=>none
   | _,_,_,_=>none
  | _,_,_=>none
 | _=>none
theorem gZ {P:Program}{f H d:Nat}{fn:Func}{A:cK}{e sc:aJ}{rs:List RV}{ks ns:List Nat}{args:List C}{Lin:List TO}{R:List TO->C->Prop}{PS:Value->Prop}{out:Value->List (List Value)}
  (hf:P.funcs[f]?=some fn) (a:EZ P A fn=some (e,sc,H,ks,d,rs)) (hH:qo P H PS ns out)
  (m:∀v,PS v->(out v).length=ns.length) (p:Nat.ble args.length A.n=true) (w:AE Lin=true)
  (j:∀v,PS v->∃c x,(∀(L:Loc) (ρ:Env),(∀(i:Nat) k cs,ks[i]?=some k->(out v)[i]?=some cs->ρ k=.own k 0/\∃g t,L.get k=some (.box g (t+1) cs))->lU L ρ rs (fun vs=>gX vs=x))/\(∀F L,Rel F L c x)/\∀Mo,sI Lin Mo->R Mo c)
  (h:tL args->(∀o∈Lin,o.Wf)->fA P ⟨fun _=>False,[],none⟩ e (fun _ _ _=>False) (fun _ _=>False) (fun M τ=>yF M τ ks ns=true /\
   fA P ⟨PS,ks.zip ns,none⟩ sc (fun _ _ _=>False) (fun L ρ=>qQ L ρ rs fun vs=>o7 Lin L (tj vs) R) (fun L ρ=>qQ L ρ rs fun vs=>o7 Lin L (tj vs) R) M (bD (some d) .any τ)) (jm Lin) (wq 0 args)) :
  CallsT P f args Lin R:=by
 unfold EZ at a;split at a
 case h_2=>cases a
 rename_i c0 r o1 o2 ad hb;split at a
 case h_2=>cases a
 rename_i H' ca d' e1 e2 e3;split at a
 case h_2=>cases a
 rename_i aa e4 e5 e6 e7;split at a
 case h_2=>cases a
 rename_i ac ao ar e8 e9 y;split at a
 case h_2=>cases a
 rename_i z b s;simp only[vz,Prod.mk.injEq] at a;obtain⟨rfl,rfl,rfl,rfl,rfl,rfl⟩:=a;simp only[xo] at b;obtain⟨⟨b,l⟩,q⟩:=b;have u:ca=(aa.map Operand.tmp).toArray:=by
  have:=AF e7;rw[<-this]
 rw[u] at e1;rw[Nat.blt_eq] at l;exact BR hf hb z (vv b) e1 e2 e3 (EY e4) e5 e6 e8 e9 y hH l q s m p w j h
end Go.Fr.T
namespace Go.Fr
open Go Go.RowKit
section
variable {P:Program}{Q:Exit->Act->World->Prop}{K:cQ}
theorem noPan {n:Nat}{F:aD}{L:Loc}{w:World}{a:Act}{asg:List Nat}{E:Nat->cQ}{R N:cQ}{c} {b:Act}{w':World}(h:QQ n F L w a asg (fun _ _ _=>False) E R N (.panic c) b w'):False:=by
 obtain⟨v,_,F',L',_,_,_,_,_,h⟩:=h;exact h
theorem ol {A:cK}{r:Nat}{c:Array Oper}:∀(is:List Nat) {ss:List aA}{F:aD}{L:Loc}{ρ:Env}{a:Act}{w:World},qF P A r c is=some ss->St F L w->aH L ρ a->a.tmps.size=A.n ->
  aY P ss F L ρ K->(∀a' w',eS A.n F L w a (dstsOf c is) K a' w'->Q .normal a' w')->wpOps P c Q is a w:=by
 intro is
 induction is with
 | nil =>
  intro ss F L ρ a w hl hs he hn l hQ;simp only[qF,vz] at hl;subst hl;exact hQ a w ⟨F,L,ρ,hs,he,hn,rfl,Step.refl _ _ _,fun _ _=>rfl,l⟩
 | cons i is ih =>
  intro ss F L ρ a w hl hs he hn l hQ;simp only[qF] at hl;split at hl
  case h_1=>cases hl
  rename_i o hi;split at hl
  case h_2=>cases hl
  rename_i g s y hg bu ap ad;injection hl with hl
  subst hl
  -- the q
  have q:∀(ks:List Nat) {F:aD}{L:Loc}{ρ:Env},St F L w->aH L ρ a->aY P (ks.map aA.frz++oe (vR A.pan r i) o.dst s g::y) F L ρ K ->
    ∃F' L' ρ',St F' L' w/\aH L' ρ' a/\Step F L w F' L' w/\aY P (oe (vR A.pan r i) o.dst s g::y) F' L' ρ' K:=by
   intro ks
   induction ks with
   | nil=>intro F L ρ hs he h;exact⟨F,L,ρ,hs,he,Step.refl _ _ _,h⟩
   | cons k ks bd =>
    intro F L ρ hs he h;simp only[aaS,aaT,aY] at h;split at h
    ·rename_i g' t' cs' hk;obtain⟨F1,ca,bv,z,t,m⟩:=sS hs he hk;obtain⟨F2,L2,av,ax,aE,ag,h2⟩:=bd z t (h F1 ca bv);exact⟨F2,L2,av,ax,aE,m.trans ag,h2⟩
    ·obtain⟨F1,L1,z,t,m,h1⟩:=oO hs he h;obtain⟨F2,L2,av,ax,aE,ag,h2⟩:=bd z t h1;exact⟨F2,L2,av,ax,aE,m.trans ag,h2⟩
  obtain⟨F1,L1,bb,z,t,m,l⟩:=q _ hs he l
  clear q
  have cb:vR A.pan r i=false:=by
   cases hb:vR A.pan r i with
   | false=>rfl
   | true=>rw[hb] at l;simp only[oe,aY] at l
  rw[cb] at l;simp only[oe] at l
  clear he
  have he:=t;have hd:∀k,o.dst=some k->k<a.tmps.size:=by
   intro k hk;rw[hk] at ap;rw[hn];have h2:Nat.blt k A.n=true:=ap;simpa using h2
  have ay:dstsOf c (i::is)=match o.dst with | some d=>d::dstsOf c is | none=>dstsOf c is:=by
   simp only[dstsOf,hi,Option.bind_some];cases o.dst<;>rfl
  have aa:∀j,j∉dstsOf c (i::is)->o.dst≠some j/\j∉dstsOf c is:=by
   intro j hj;rw[ay] at hj;cases ho:o.dst with
   | none=>rw[ho] at hj;exact⟨by simp,hj⟩
   | some d =>
    rw[ho] at hj;simp only[xC,not_or] at hj;exact⟨by simp;exact fun e=>hj.1 e.symm,hj.2⟩
  have ae:evalOp P s o.dst F1 L1 bb (fun F' L' ρ'=>aY P y F' L' ρ' K)->o.wp P a w (wpOps P c Q is) Q:=by
   intro l;have:=fo (Q:=Q) z t hd bu l;refine Oper.wp_mono ?_ (qG (asg:=[]) this);rintro a' w' ⟨⟨F',L',ρ',g1,g2,g3,g4,g5,g6⟩,cc⟩;refine ih ad g1 g2 (by rw[g3,hn]) g6 ?_;rintro aw az ⟨F'',L'',ab,k1,k2,k3,k4,k5,k6,k7⟩;refine hQ aw az ⟨F'',L'',ab,k1,k2,k3,k4.trans g4,(m.trans g5).trans k5,fun j hj=>?_,k7⟩;obtain⟨n1,n2⟩:=aa j hj;rw[k6 j n2,cc j n1]
  have skip:aY P y F1 L1 (put o.dst (.v undef) bb) K->wpOps P c Q is (a.put o.dst undef) w:=by
   intro l;refine ih ad z (t.put hd (v:=undef) (x:=.v undef) rfl bS dG (rJ L1)) (by rw[lg,hn]) l ?_;rintro aw az ⟨F'',L'',ab,k1,k2,k3,k4,k5,k6,k7⟩;refine hQ aw az ⟨F'',L'',ab,k1,k2,k3,k4.trans (gY _ _ _),m.trans k5,fun j hj=>?_,k7⟩;obtain⟨n1,n2⟩:=aa j hj;rw[k6 j n2,kM n1]
  simp only[wpOps,hi];cases al:o.guard with
  | none =>
   rw[al] at hg;simp only[iF,vz] at hg;subst hg;simp only[aY] at l;rw[eu (by simp[Region.wanted,al])];exact .inl (ae l)
  | some p =>
   obtain⟨j,u⟩:=p;rw[al] at hg;simp only[iF] at hg;split at hg
   case h_2=>cases hg
   rename_i d be;injection hg with hg
   subst hg;simp only[aY] at l;split at l
   ·rename_i b hb;have f:=t.eq d;rw[hb] at f;have hy:yielded c a.tmps j=some b:=by
     simp only[yielded,be,Option.bind_some,rK f]
    have hw:Region.wanted o (yielded c a.tmps)=(b == u):=by
     simp only[Region.wanted,al,hy];cases b<;>cases u<;>rfl
    rw[hw];cases b<;>simp only[xk] at l
    ·rw[lm hb] at l;cases u
     ·exact .inl (ae l)
     ·exact skip l
    ·rw[lm hb] at l;cases u
     ·exact skip l
     ·exact .inl (ae l)
   ·rename_i vs hb;have f:=t.eq d;rw[hb] at f;have hy:yielded c a.tmps j=none:=by
     simp only[yielded,be,Option.bind_some];rw[abf] at f;cases e:a.tmps[d]? with
     | none=>rfl
     | some v=>rw[e] at f;simp only[Option.getD_some,conc] at f;rw[f]
    have hw:Region.wanted o (yielded c a.tmps)=false:=by
     simp only[Region.wanted,al,hy];rfl
    rw[hw];exact skip l
   ·exact l.elim
theorem uF {a:Act}{w:World}{d:List aA}{K:cQ}:∀(ks:List Nat) {F:aD}{L:Loc}{ρ:Env},St F L w->aH L ρ a->aY P (ks.map aA.frz++d) F L ρ K ->
  ∃F' L' ρ',St F' L' w/\aH L' ρ' a/\Step F L w F' L' w/\aY P d F' L' ρ' K:=by
 intro ks
 induction ks with
 | nil=>intro F L ρ o p h;exact⟨F,L,ρ,o,p,Step.refl _ _ _,h⟩
 | cons k ks n =>
  intro F L ρ o p h;simp only[aaS,aaT,aY] at h;split at h
  ·rename_i v x cs' t;obtain⟨F1,s,r,e,j,c⟩:=sS o p t;obtain⟨F2,L2,f,l,m,b,q⟩:=n e j (h F1 s r);exact⟨F2,L2,f,l,m,c.trans b,q⟩
  ·obtain⟨F1,L1,e,j,c,u⟩:=oO o p h;obtain⟨F2,L2,f,l,m,b,q⟩:=n e j u;exact⟨F2,L2,f,l,m,c.trans b,q⟩
theorem E0 {ss:List aA}{E:Nat->cQ}{R N:cQ}{F:aD}{L:Loc}{ρ:Env}{a:Act}{w:World}:∀(ks:List Nat),St F L w->aH L ρ a->kJ P (zx ks (.regD ss)) E R N F L ρ ->
  ∃F' L' ρ',St F' L' w/\aH L' ρ' a/\Step F L w F' L' w/\aY P ss F' L' ρ' N
 | [],b,d,h=>⟨F,L,ρ,b,d,Step.refl _ _ _,by simpa only[zx,kJ] using h⟩
 | k::l,b,d,h=>by
  simp only[zx,kJ] at h;have j:aY P ((k::l).map aA.frz++[]) F L ρ (fun F L ρ=>aY P ss F L ρ N):=by simpa only[aaS,aaU] using h
  obtain⟨F1,L1,c,n,f,m,e⟩:=uF (k::l) b d j;simp only[aY] at e;exact⟨F1,L1,c,n,f,m,e⟩
theorem Dx {A:cK}:∀(c:Code) {sc:aJ},low P A c=some sc->∀{E:Nat->cQ}{R N:cQ}{F:aD}{L:Loc}{ρ:Env}{a:Act}{w:World},St F L w->aH L ρ a->a.tmps.size=A.n ->
  kJ P sc E R N F L ρ->c.wp P (QQ A.n F L w a (cP c) (fun _ _ _=>False) E R N) a w:=by
 intro c
 induction c with
 | skip =>
  intro sc b E R N F L ρ a w q o s m;simp only[low,vz] at b;subst b;exact wp_skip ⟨F,L,ρ,q,o,s,rfl,Step.refl _ _ _,fun _ _=>rfl,m⟩
 | label l =>
  intro sc b E R N F L ρ a w q o s m;simp only[low,vz] at b;subst b;exact wp_label ⟨F,L,ρ,q,o,s,rfl,Step.refl _ _ _,fun _ _=>rfl,m⟩
 | exit id =>
  intro sc b E R N F L ρ a w q o s m;simp only[low,vz] at b;subst b;exact wp_exit ⟨F,L,ρ,q,o,s,rfl,Step.refl _ _ _,fun _ _=>rfl,m⟩
 | ret =>
  intro sc b E R N F L ρ a w q o s m;simp only[low,vz] at b;subst b;exact wp_ret ⟨F,L,ρ,q,o,s,rfl,Step.refl _ _ _,fun _ _=>rfl,m⟩
 | region r df bj =>
  intro sc b E R N F L ρ a w q o s m;cases bj with
  | false =>
   simp only[low] at b;split at b
   case h_2=>cases b
   rename_i ss cb;injection b with b;subst b
   simp only[kJ] at m;exact wp_region (ol _ cb q o s m fun a' w' h=>h)
  | true =>
   simp only[low] at b;split at b
   case h_2=>cases b
   rename_i is cl ss h1 z;split at b
   case h_2 =>
    split at b
    case h_2=>cases b
    injection b with b;subst b
    simp only[kJ] at m
   rename_i h0;split at b
   case h_2=>cases b
   rename_i h3;injection b with b;subst b
   obtain⟨F1,L1,ab,aw,ax,aa,m⟩:=E0 _ q o m;have h4:tY A.ord r=is:=by simp only[tY,h1]
   rw[h4] at z;exact s5 z h3 aw ax s m fun a' w' h=>eS.after (asg1:=[]) aa rfl (fun _ _=>rfl) h (fun _ h=>o4 h List.not_mem_nil) (fun _ h=>h)
 | seq x y am al =>
  intro sc b E R N F L ρ a w q o s m;simp only[low] at b;split at b
  case h_2=>cases b
  rename_i h1 z;injection b with b;subst b
  simp only[kJ] at m;refine wp_seq (wp_mono (am h1 q o s m) ?_);intro e p w1 d;cases e with
  | normal =>
   obtain⟨F1,L1,ab,g1,g2,g3,g4,g5,g6,g7⟩:=d;refine wp_mono (al z g1 g2 g3 g7) ?_;intro e2 a2 w2 ay;cases e2<;>first
    | exact eS.after g5 g4 g6 ay (fun j h=>w8.2 (.inl h)) (fun j h=>w8.2 (.inr h))
    | exact ay
    | exact(noPan ay).elim
  | exit id=>exact d.mono fun j h=>w8.2 (.inl h)
  | ret=>exact d.mono fun j h=>w8.2 (.inl h)
  | goto l=>exact d
  | panic c=>exact(noPan d).elim
  | outgrown=>exact d
 | cond c x y am al =>
  intro sc b E R N F L ρ a w q o s m;simp only[low] at b;split at b
  case h_2=>cases b
  rename_i h0 h1 z;injection b with b;subst b
  simp only[kJ] at m;split at m
  case h_2=>exact m.elim
  rename_i t ht;have hc:a.eval c=.bool t:=by rw[aI h0 o,bH ht]
  refine wp_cond hc ?_;cases t
  ·simp only[xk] at m;refine wp_mono (al z q o s m) ?_;intro e p w1 d;cases e<;>first
    | exact d.mono fun j h=>w8.2 (.inr h)
    | exact(noPan d).elim
    | exact d
  ·simp only[xk] at m;refine wp_mono (am h1 q o s m) ?_;intro e p w1 d;cases e<;>first
    | exact d.mono fun j h=>w8.2 (.inl h)
    | exact(noPan d).elim
    | exact d
 | block id x ih =>
  intro sc b E R N F L ρ a w q o s m;simp only[low] at b;split at b
  case h_2=>cases b
  rename_i h1;injection b with b;subst b
  simp only[kJ] at m;refine wp_block (wp_mono (ih h1 q o s m) ?_);intro e p w1 d;cases e with
  | exit j =>
   simp only[Exit.inBlock];simp only[QQ] at d
   by_cases hj:j=id
   ·subst hj;have hb:Nat.beq j j=true:=by simp
    rw[hb] at d;rw[eu rfl];exact d
   ·have hb:Nat.beq j id=false:=by
     cases h:Nat.beq j id with
     | true=>exact o4 (vv h) hj
     | false=>rfl
    rw[hb] at d;rw[o6 hj];exact d
  | normal=>exact d
  | ret=>exact d
  | goto l=>exact d
  | panic c=>exact(noPan d).elim
  | outgrown=>exact d
 | loop x ih =>
  intro sc b E R N F L ρ a w q o s m;simp only[low] at b;split at b
  case h_2=>cases b
  rename_i sx h1;injection b with b;subst b
  simp only[kJ] at m;obtain⟨σ,x0,Inv,ls,lv,Lf,μ,i0,i1,i2,i3,i4⟩:=m
  -- the frame at a loop's ac
  have ac:∀(y:σ) (F1:aD) (L1:Loc) (ab:Env) (p:Act) (w1:World),(∀t,p.tmps.getD t undef=conc L1 (ab t))->(∀j,j∉cP x->p.tmps.getD j undef=a.tmps.getD j undef)->holds ls ((lv y).map .v) ab ->
    aH (Lf y) (puts ls ((lv y).map .v) (ig (cP x) (fun j=>p.tmps.getD j undef) ρ)) p:=by
   intro y F1 L1 ab p w1 bm cc hh;have bi:∀j k off,ig (cP x) (fun j=>p.tmps.getD j undef) ρ j=.own k off->j∉cP x/\ρ j=.own k off:=by
    intro j k off e;simp only[ig] at e;split at e
    ·cases e
    ·rename_i hm;exact⟨fun h=>(by rw[cS.2 h] at hm;cases hm),e⟩
   have bx:∀j ad i,ig (cP x) (fun j=>p.tmps.getD j undef) ρ j=.el ad i->ρ j=.el ad i:=by
    intro j ad i e;simp only[ig] at e;split at e
    ·cases e
    ·exact e
   refine⟨fun j=>?_,fun j k off e=>?_,fun j ad i e=>?_⟩
   ·rcases sV ls (lv y) ab (ig (cP x) (fun j=>p.tmps.getD j undef) ρ) bm hh j with⟨v,z,h3⟩ | z
    ·rw[z,h3];rfl
    ·rw[z];simp only[ig];split
     ·rfl
     ·rename_i hm;have hj:j∉cP x:=fun h=>by rw[cS.2 h] at hm;cases hm
      rw[cc j hj,o.eq j];cases e:ρ j with
      | v u=>rfl
      | el u i=>rfl
      | own k off =>
       obtain⟨g,ty,cs,hg⟩:=o.own j k off e;obtain⟨cs',av⟩:=mO (i3 y) hg;simp only[conc,hg,av]
   ·rcases jQ ls (lv y) (ig (cP x) (fun j=>p.tmps.getD j undef) ρ) j with z | ⟨v,z⟩
    ·rw[z] at e;obtain⟨_,e'⟩:=bi j k off e;obtain⟨g,ty,cs,hg⟩:=o.own j k off e';obtain⟨cs',av⟩:=mO (i3 y) hg;exact⟨g,ty,cs',av⟩
    ·rw[z] at e;cases e
   ·rcases jQ ls (lv y) (ig (cP x) (fun j=>p.tmps.getD j undef) ρ) j with z | ⟨v,z⟩
    ·rw[z] at e;exact o.el j ad i (bx j ad i e)
    ·rw[z] at e;cases e
  refine u7 (fun n p w1=>∃(y:σ) (F1:aD),n=μ y/\F.le F1/\Inv y F1/\St F1 (Lf y) w1/\p.tmps.size=A.n/\p.defers=a.defers/\Step F L w F1 (Lf y) w1/\(∀j,j∉cP x->p.tmps.getD j undef=a.tmps.getD j undef) /\
   aH (Lf y) (puts ls ((lv y).map .v) (ig (cP x) (fun j=>p.tmps.getD j undef) ρ)) p) ?_ ?_
  ·exact⟨_,x0,F,rfl,aD.le_refl F,i0,q.gives i2,s,rfl,sU i2,fun _ _=>rfl,ac x0 F L ρ a w o.eq (fun _ _=>rfl) i1⟩
  ·rintro n p w1 ⟨y,F1,rfl,be,bd,aw,bs,ar,aa,ae,ax⟩;refine wp_mono (ih h1 aw ax bs (i4 y F1 _ be bd)) ?_;intro e a2 w2 d;cases e with
   | normal =>
    obtain⟨F2,L2,bo,g1,g2,g3,g4,g5,g6,⟨y',k1,k2,k3,k4⟩⟩:=d;have ap:∀j,j∉cP x->a2.tmps.getD j undef=a.tmps.getD j undef:=fun j hj=>by rw[g6 j hj,ae j hj]
    exact⟨μ y',k4,y',F2,rfl,aD.le_trans be g5.le,k1,g1.gives k3,g3,g4.trans ar,(aa.trans g5).trans (sU k3),ap,ac y' F2 L2 bo a2 w2 g2.eq ap k2⟩
   | exit j=>exact eS.after aa ar ae d (fun j h=>h) (fun j h=>h)
   | ret=>exact eS.after aa ar ae d (fun j h=>h) (fun j h=>h)
   | goto l=>exact d
   | panic c=>exact(noPan d).elim
   | outgrown=>exact d
 | rangeFunc f ps x y am al=>intro sc b;simp only[low] at b;cases b
 | scope x ih =>
  intro sc b E R N F L ρ a w q o s m;simp only[low] at b;refine wp_scope_straight (wp_mono (ih b q o s m) ?_);intro e p w1 d;cases e<;>exact d
 | goto l=>intro sc b;simp only[low] at b;cases b
 | refuse dg=>intro sc b;simp only[low] at b;cases b
end
end Go.Fr
namespace Go.Fr.T
open Go Go.RowKit Go.Fr
theorem Kf:∀{bs:List Own}{ns:List Nat}{i:Nat}{o:Own},Eo bs ns->bs[i]?=some o->∃g t cs,o=.box g t cs
 | [],ns,i,o,h,e=>by simp at e
 | b::bs,[],i,o,h,e=>h.elim
 | b::bs,n::ns,i,o,h,e=>by
  cases i with
  | zero =>
   simp only[aa0,vz] at e;subst e;cases b with
   | row=>exact h.1.elim
   | box g t cs=>exact⟨g,t,cs,rfl⟩
  | succ i=>exact Kf h.2 (by simpa using e)
def H6 (n:Nat):Env:=fun j=>match Nat.blt j n with | true=>.own (1000+j) 0 | false=>.v undef
theorem Nv {bs:List Own}{ns:List Nat}{m:Nat}(h:Eo bs ns):aH (inp bs) (H6 bs.length) {tmps:=(bs.map nL).toArray++Array.replicate m undef,defers:=[]}:=by
 have c:∀j,j<bs.length->∃g t cs,bs[j]?=some (.box g t cs):=fun j d=>by
  obtain⟨g,t,cs,e⟩:=Kf h (v7 d);exact⟨g,t,cs,by rw[v7 d,e]⟩
 have hi:∀j,(inp bs).get (1000+j)=bs[j]?:=fun j=>by rw[aX,eu (by omega),show 1000+j-1000=j by omega]
 refine⟨fun j=>?_,fun j k off e=>?_,fun j f i e=>?_⟩
 ·simp only[H6,abf];cases hb:Nat.blt j bs.length with
  | true =>
   have a:j<bs.length:=by simpa using hb
   obtain⟨g,t,cs,e⟩:=c j a;rw[Array.getElem?_append_left (by simpa using a)];simp only[conc,hi,e,List.getElem?_toArray,abr,abE,Option.getD_some,nL]
  | false =>
   have b:¬j<bs.length:=fun h=>by rw[(Nat.blt_eq ..).mpr h] at hb;cases hb
   rw[Array.getElem?_append_right (by simpa using b)];simp only[Array.getElem?_replicate,conc];split<;>rfl
 ·simp only[H6] at e;split at e
  ·rename_i hb;have a:j<bs.length:=by simpa using hb
   injection e with e1 e2
   subst e1;obtain⟨g,t,cs,e⟩:=c j a;exact⟨g,t,cs,by rw[hi,e]⟩
  ·cases e
 ·simp only[H6] at e;split at e<;>cases e
def P0:Op->Bool
 | .call {callee:=.builtin .recover,args:=⟨[]⟩,argTypes:=⟨[]⟩}=>true
 | _=>false
theorem H7 {P:Program}{H d d2 r0:Nat}{fn:Func}{o o2:Oper}{rest:Code}{A:cK}{sc:aJ}{PS:Value->Prop}{ns:List Nat}{out:Value->List (List Value)}
  (hf:P.funcs[H]?=some fn) (hb:fn.body=some (.seq (.region r0 #[o,o2] false) rest)) (hname:(fn.name == "runtime.NumGoroutine")=false) (ho:o.op=.call {callee:=.builtin .recover,args:=#[],argTypes:=#[]}) (hd:o.dst=some d) (hg:o.guard=none) (ho2:o2.op=.assign (.tmp d)) (hd2:o2.dst=some d2) (hg2:o2.guard=none) (hdn2:d2<A.n)
  (hnt:fn.ntmps=A.n) (hres:fn.results=#[]) (hl:low P A rest=some sc) (hdn:d<A.n) (hns:ns.length<=A.n)
  (hidle:∀(bs:List Own) (w:World),Eo bs ns->CallsD P H (bs.map nL).toArray .returning w fun e u' w'=>e=.returned (.tuple #[])/\u'=.returning/\w'=w)
  (hcat:∀(F:aD) (bs:List Own) (v:Value),PS v->Eo bs ns->kJ P sc (fun _ _ _ _=>False) (fun _ L' _=>L'.sub (List.range' 1000 bs.length)=some (List.zipWith qu bs (out v))) (fun _ L' _=>L'.sub (List.range' 1000 bs.length)=some (List.zipWith qu bs (out v))) F (inp bs) (put (some d2) (.v v) (put (some d) (.v v) (H6 bs.length)))) :
  qo P H PS ns out:=by
 refine⟨fun cap w=>?_,hidle,fun F bs v older w hv hbx hs=>?_⟩
 ·simp[invoke];rw[jO ⟨fn,hf,by rw[hb];rfl,hname⟩]
 refine callsD_of_wpS hf hb fun c₀ cs hu=>?_;have hlen:=wS hbx;have he0:=Nv (m:=fn.ntmps-(bs.map nL).toArray.size) hbx;generalize htm:(bs.map nL).toArray++Array.replicate (fn.ntmps-(bs.map nL).toArray.size) undef=tm at he0 ⊢;have hsz:tm.size=A.n:=by
  rw[<-htm,<-hnt];simp;omega
 refine wpS_seq (wpS_region ?_);simp[wpOpsS,go_sem,recoverD,hu,ho,hd,hg,ho2,hd2,hg2,Region.wanted,Exit.thenS,hsz,hdn,Act.eval];have he1:=he0.put (L':=inp bs) (d:=some d) (v:=v) (x:=.v v) (fun k e=>by injection e with e;subst e;simpa[hsz] using hdn) rfl bS dG (fun k g ty cs e=>⟨cs,e⟩);have he2:=he1.put (L':=inp bs) (d:=some d2) (v:=v) (x:=.v v) (fun k e=>by injection e with e;subst e;simp[Act.put,hsz];exact hdn2) rfl bS dG (fun k g ty cs e=>⟨cs,e⟩);refine wpS_of_wp (wp_mono (Dx rest hl hs ⟨he2.eq,he2.own,he2.el⟩ (by simpa using hsz) (hcat F bs v hv hbx)) ?_);have fin:∀(a':Act) (w':World),eS A.n F (inp bs) w {tmps:=(tm.setIfInBounds d v).setIfInBounds d2 v,defers:=[]} (cP rest) (fun _ L' _=>L'.sub (List.range' 1000 bs.length)=some (List.zipWith qu bs (out v))) a' w' ->
   a'.defers=[]/\∃u',({c₀ with mode:=FrameMode.panicking ({v,recovered:=true}::older)}::cs:List Frame)={c₀ with mode:=u'}::cs/\∃x,(results fn a'.tmps).run P w'=.ok x w' /\
    ((Ending.returned x=.returned (.tuple #[])/\u'=.panicking ({v,recovered:=true}::older))/\∃F',St F' (inp (List.zipWith qu bs (out v))) w'/\Step F (inp bs) w F' (inp (List.zipWith qu bs (out v))) w'):=by
  rintro a' w' ⟨F',L',ρ',g1,g2,g3,g4,g5,g6,k1⟩;obtain⟨e1,e2⟩:=eM k1;refine⟨g4,_,rfl,.tuple #[],by simp[results,hres],⟨rfl,rfl⟩,F',g1.handed k1 List.nodup_range',?_⟩;refine⟨g5.le,g5.os,g5.tape,g5.output,g5.size,g5.same,g5.frz,fun b hb=>g5.own b ?_⟩;obtain⟨j,p,e,hb⟩:=hb;rw[aX] at e;split at e
  case isFalse=>cases e
  have hlt:j-1000<(List.zipWith qu bs (out v)).length:=(w7.1 e).1;have hk:(List.range' 1000 bs.length)[j-1000]?=some ((List.range' 1000 bs.length)[j-1000]'(by omega)):=v7 (by omega);exact⟨_,p,by rw[e2 _ _ hk];exact e,hb⟩
 intro e a' w' hq;cases e with
 | normal =>
  obtain⟨k1,u',k2,x,k3,⟨k4,k5⟩,k6⟩:=fin a' w' hq;exact⟨k1,u',k2,x,k3,k4,k5,k6⟩
 | ret =>
  obtain⟨k1,u',k2,x,k3,⟨k4,k5⟩,k6⟩:=fin a' w' hq;exact⟨k1,u',k2,x,k3,k4,k5,k6⟩
 | exit j=>obtain⟨F',L',ρ',_,_,_,_,_,_,h⟩:=hq;exact h.elim
 | goto l=>exact hq.elim
 | outgrown=>exact hq.elim
 | panic ch=>obtain⟨v,hch,hp⟩:=hq;obtain⟨F',L',_,_,_,_,_,hp⟩:=hp;exact hp.elim
def BU (P:Program) (A:cK) (fn:Func):Option (aJ×Nat×Nat) :=
 match fn.body with
 | some (.seq (.region _ ⟨[o,o2]⟩ false) rest)=>match P0 o.op,o.dst,o.guard,low P A rest,fn.results with
  | true,some d,none,some sc,⟨[]⟩=>match o2.op,o2.dst,o2.guard with
   | .assign (.tmp d'),some d2,none=>match fn.name == "runtime.NumGoroutine",Nat.beq fn.ntmps A.n&&Nat.blt d A.n&&Nat.beq d d'&&Nat.blt d2 A.n with
    | false,true=>some (sc,d,d2)
    | _,_=>none
   | _,_,_=>none
  | _,_,_,_,_=>none
 | _=>none
theorem BV {P:Program}{H d l:Nat}{fn:Func}{A:cK}{sc:aJ}{PS:Value->Prop}{ns:List Nat}{out:Value->List (List Value)}(hf:P.funcs[H]?=some fn) (a:BU P A fn=some (sc,d,l)) (h:Nat.ble ns.length A.n=true)
  (b:∀(bs:List Own) (w:World),Eo bs ns->CallsD P H (bs.map nL).toArray .returning w fun e u' w'=>e=.returned (.tuple #[])/\u'=.returning/\w'=w)
  (c:∀(F:aD) (bs:List Own) (v:Value),PS v->Eo bs ns->kJ P sc (fun _ _ _ _=>False) (fun _ L' _=>L'.sub (List.range' 1000 bs.length)=some (List.zipWith qu bs (out v))) (fun _ L' _=>L'.sub (List.range' 1000 bs.length)=some (List.zipWith qu bs (out v))) F (inp bs) (put (some l) (.v v) (put (some d) (.v v) (H6 bs.length)))) :
  qo P H PS ns out:=by
 unfold BU at a;split at a
 case h_2=>cases a
 rename_i r o o2 m hb;split at a
 case h_2=>cases a
 rename_i d' ad j s h3 q h5;split at a
 case h_2=>cases a
 rename_i x y z dd al k1 u k3;split at a
 case h_2=>cases a
 rename_i p f;simp only[vz,Prod.mk.injEq] at a;obtain⟨rfl,rfl,rfl⟩:=a;simp only[xo] at f;obtain⟨⟨⟨f,h8⟩,t⟩,k⟩:=f;obtain rfl:=vv t;have ho:o.op=.call {callee:=.builtin .recover,args:=#[],argTypes:=#[]}:=by
  unfold P0 at j;split at j
  ·assumption
  ·cases j
 exact H7 hf hb p ho s h3 k1 u k3 (by simpa using k) (vv f) h5 q (by simpa using h8) (aa1 h) b c
end Go.Fr.T
namespace Go.Fr
open Go Go.RowKit
mutual
def G.bulk:G->Nat
 | .int _ _=>1
 | .bool _=>1
 | .str s=>s.size+1
 | .sl _ l=>G.aad l+1
 | .st l=>G.aad l+1
def G.aad:List G->Nat
 | []=>0
 | x::l=>G.bulk x+G.aad l
end
mutual
def iN {H:Type}:DataW H->Nat
 | .lit (.string bytes)=>bytes.length+1
 | .lit _=>1
 | .nil=>1
 | .ptr d=>iN d+1
 | .slice elems spare=>fj elems+fj spare+1
 | .agg parts=>fj parts+1
 | .iface _ d=>iN d+1
 | .map entries=>mJ entries+1
 | .held _=>1
def fj {H:Type}:List (DataW H)->Nat
 | []=>0
 | d::r=>iN d+fj r
def mJ {H:Type}:List (Lit×DataW H)->Nat
 | []=>0
 | x::r=>tG x+mJ r
def tG {H:Type}:Lit×DataW H->Nat
 | (.string bytes,d)=>bytes.length+iN d+1
 | (_,d)=>iN d+1
end
def Ok (P:Program):Nat->TypeId->G->Prop
 | 0,_,_=>False
 | n+1,t,g=>match P.underlying t with
  | some .bool=>∃b,g=.bool b
  | some (.int k)=>∃x,g=.int k x/\(Lit.int k x).wf=true
  | some .string=>∃s,g=.str s
  | some (.slice e)=>∃l,g=.sl (P.cellsOf e) l/\∀x∈l,Ok P n e x
  | some (.struct fs)=>∃l,g=.st l/\l.length=fs.size/\∀(i:Nat) (f:Field) (x:G),fs[i]?=some f->l[i]?=some x->Ok P n f.type x
  | _=>False
def yH (P:Program):Nat->List Field->Nat->Bool
 | o,[],n=>Nat.beq o n
 | o,f::fs,n=>Nat.beq f.offset o&&yH P (o+P.cellsOf f.type) fs n
def KU (P:Program) (S:List TypeId) (t:TypeId):Bool :=
 match P.underlying t with
 | some .bool=>true
 | some (.int _)=>true
 | some .string=>true
 | some (.slice e)=>fW S e&&Nat.blt 0 (P.cellsOf e)
 | some (.struct fs)=>yH P 0 fs.toList (P.cellsOf t)&&fs.toList.all fun f=>fW S f.type
 | _=>false
def flat (P:Program) (S:List TypeId):Bool:=S.all (KU P S)
theorem wg {Q:Nat->G->Prop}:∀(n:Nat),(∀i,i<n->∃g,Q i g)->∃l:List G,l.length=n/\∀i g,l[i]?=some g->Q i g
 | 0,_=>⟨[],rfl,fun i g h=>by simp at h⟩
 | n+1,h=>by
  obtain⟨l,b,c⟩:=wg n (fun i hi=>h i (by omega));obtain⟨g,d⟩:=h n (by omega);refine⟨l++[g],by simp[b],fun i x a=>?_⟩
  by_cases hi:i<l.length
  ·rw[aaW hi] at a;exact c i x a
  ·rw[aa2 (by omega)] at a;have:i-l.length=0:=by
    cases e:i-l.length with
    | zero=>rfl
    | succ k=>rw[e] at a;simp at a
   rw[this] at a;simp only[aa0,vz] at a;subst a;have:i=n:=by omega
   subst this;exact d
theorem yI {H:Type}:∀{l:List G}{ds:List (DataW H)},l.length=ds.length->(∀(i:Nat) g d,l[i]?=some g->ds[i]?=some d->g.bulk<=iN d)->G.aad l<=fj ds
 | [],_,_,_=>by simp[G.aad]
 | x::l,[],h,_=>by simp at h
 | x::l,d::ds,h,hb=>by
  simp only[G.aad,fj];have e:=hb 0 x d (by simp) (by simp);have f:=yI (l:=l) (ds:=ds) (by simpa using h) (fun i g a c b=>hb (i+1) g a (by simpa using c) (by simpa using b));omega
section
variable {H:Type}{enc:TypeId×Value->H}{P:Program}{w:World}{base:Nat}{spare:Nat->Bool}{held:Bool}
def qp (w:World):aD:=fun b=>w.heap[b]?
theorem Ij {a:Addr}{n:Nat}{cs:List Value}(h:w.cells? base a n=some cs) (r:0<n) (u:a.spot=none->∀i,i<n->w.frozen? ⟨a.block,a.off+i,none⟩=false):cs.length=n/\bU (qp w) (some a) 0 cs:=by
 obtain⟨_,f,q⟩:=World.cells?_some h;refine⟨f,?_⟩;have m:=q 0 r;rw[v7 (by omega)] at m;have d:a.spot=none:=by simpa[Addr.add] using World.cell?_spot m
 have l:∃j t k,w.heap[a.block]?=some (.cells j t k):=by
  simp only[World.cell?,Addr.add] at m;split at m
  ·rename_i c t k e;exact⟨c,t,k,e⟩
  ·cases m
 obtain⟨j,t,k,hb⟩:=l;refine⟨a,j,t,k,rfl,hb,d,fun i v p=>?_⟩;have hi:i<n:=by rw[<-f];exact(w7.1 p).1
 have:=q i hi;obtain⟨b,o,z⟩:=a;simp only at d;subst d;rw[p,ck] at this;simp only[World.cell?] at this;simp only at hb;rw[hb] at this;refine⟨by simpa using this,fun y=>?_⟩;have x:=u rfl i hi;obtain⟨lo,s⟩:=k;simp only[World.frozen?,hb,Bool.and_eq_false_iff,decide_eq_false_iff_not] at x;simp only[Nat.add_zero] at y;omega
theorem Ca {F:aD}{a:Addr}{n:Nat}{cs:List Value}(d:a.spot=none) (h:bU F (some (a.add n)) 0 cs):bU F (some a) n cs:=by
 obtain⟨b,o,p⟩:=a;simp only at d;subst d;rw[ck] at h;obtain⟨m,c,t,f,e,hb,j,l⟩:=h;injection e with e
 subst e;exact⟨_,c,t,f,rfl,hb,rfl,fun i v k=>by have:=l i v k;simpa[Nat.add_assoc] using this⟩
theorem OC {S:List TypeId}(hS:flat P S=true):∀(fuel:Nat) (t:TypeId) (cs:List Value) (x:DataW H×List MemPlace),t∈S->DataW.trod enc P w base spare held fuel t cs=some x->w.noneFrozen x.2 ->
  ∃g,Ok P fuel t g/\Rd (qp w) g cs/\g.bulk<=iN x.1:=by
 intro fuel
 induction fuel with
 | zero=>intro t cs x _ h;simp[DataW.trod] at h
 | succ n ih =>
  intro t cs x ht h hz;have u:=aaZ.1 hS t ht;simp only[KU] at u;split at u
  ·rename_i c;obtain⟨b,rfl,rfl⟩:=DataW.trod_bool c h;exact⟨.bool b,by simp[Ok,c],by simp[Rd],by simp[G.bulk,iN]⟩
  ·rename_i k c;obtain⟨m,rfl,rfl,hw⟩:=DataW.trod_int c h;exact⟨.int k m,by simp[Ok,c,hw],by simp[Rd,hw],by simp[G.bulk,iN]⟩
  ·rename_i c;obtain⟨s,rfl,rfl,hw⟩:=DataW.trod_string c h;exact⟨.str s,by simp[Ok,c],by simp[Rd],by simp[G.bulk,iN]⟩
  ·rename_i e c;simp only[xo] at u;have he:e∈S:=cS.1 u.1;have z:0<P.cellsOf e:=by simpa using u.2
   rcases DataW.trod_slice c h with⟨rfl,rfl⟩ | ⟨a,len,cap,elems,aw,m,e1,rfl,rfl,hb,hl,hm,ab,ay,_,_⟩
   ·refine⟨.sl (P.cellsOf e) [],by simp[Ok,c],?_,by simp[G.bulk,G.aad,iN]⟩;rw[PU];exact⟨none,0,rfl,by simp,by simp,fun _=>⟨rfl,rfl⟩,fun j x hx=>by simp at hx⟩
   ·obtain rfl:m=n:=by omega
    have r:0<len->a.spot=none:=by
     intro h0;have h1:=ay 0 h0;rw[v7 (by omega)] at h1;obtain⟨es,h2,h3⟩:=Option.bind_eq_some_iff.1 h1;have h0:=(World.cells?_some h2).2.2 0 z;rw[v7 (by rw[(World.cells?_some h2).2.1];omega)] at h0;simpa[Addr.add] using World.cell?_spot h0
    obtain⟨l,ax,ag⟩:=wg (Q:=fun i g=>Ok P m e g/\(∃es,es.length=P.cellsOf e/\bU (qp w) (some a) (i*P.cellsOf e) es/\Rd (qp w) g es)/\∀y,elems[i]?=some y->g.bulk<=iN y.1) len (by
     intro i hi;have h1:=ay i hi;rw[v7 (by omega)] at h1;obtain⟨es,h2,h3⟩:=Option.bind_eq_some_iff.1 h1;obtain⟨g,g1,g2,g3⟩:=ih e es _ he h3 (fun b off hm=>hz b off (List.mem_append_right _ (List.mem_flatMap.2 ⟨_,List.mem_append_left _ (List.getElem_mem (show i<elems.length by omega)),hm⟩)));obtain⟨g4,g5⟩:=Ij h2 z (fun hs k hk=>by
      have ar:a.spot=none:=r (by omega);obtain⟨b,o,sp⟩:=a;simp only at ar;subst ar;rw[ck];refine hz b _ (List.mem_append_left _ (abh.2 ⟨i*P.cellsOf e+k,List.mem_range.2 ?_,by simp[Nat.add_assoc]⟩));have h5:(i+1)*P.cellsOf e<=(elems.length+aw.length)*P.cellsOf e:=Nat.mul_le_mul_right _ (by omega);rw[Nat.add_mul] at h5;omega)
     refine⟨g,g1,⟨es,g4,Ca (r (by omega)) g5,g2⟩,fun y q=>?_⟩;rw[v7 (by omega)] at q;injection q with q
     subst q;exact g3)
    refine⟨.sl (P.cellsOf e) l,?_,?_,?_⟩
    ·simp only[Ok,c];refine⟨l,rfl,fun x hx=>?_⟩;obtain⟨i,hi⟩:=abd.1 hx;exact(ag i x hi).1
    ·rw[PU];exact⟨some a,cap,by rw[ax],by omega,hm,fun e=>(by cases e),fun j x hx=>(ag j x hx).2.1⟩
    ·simp only[G.bulk,iN];have:=yI (l:=l) (ds:=elems.map (·.1)) (by simp[ax,ab]) (fun i g d hg hd=>by
      simp only[abr,Option.map_eq_some_iff] at hd;obtain⟨y,q,rfl⟩:=hd;exact(ag i g hg).2.2 y q)
     omega
  ·rename_i fs c;simp only[xo] at u;obtain⟨ad,ap⟩:=u;obtain⟨xs,m,e1,rfl,ab,bl,v⟩:=DataW.trod_struct c h;obtain rfl:m=n:=by omega
   have key:∀(fl:List Field) (ys:List (DataW H×List MemPlace)) (o:Nat),yH P o fl (P.cellsOf t)=true->ys.length=fl.length->(∀f∈fl,f.type∈S) ->
     (∀(i:Nat) f,fl[i]?=some f->DataW.trod enc P w base spare held m f.type ((cs.drop f.offset).take (P.cellsOf f.type))=ys[i]?) ->
     (∀y∈ys,w.noneFrozen y.2) ->
     ∃l,l.length=fl.length/\(∀(i:Nat) f g,fl[i]?=some f->l[i]?=some g->Ok P m f.type g)/\m5 (qp w) l (cs.drop o)/\G.aad l<=fj (ys.map (·.1)):=by
    intro fl
    induction fl with
    | nil =>
     intro ys o hc _ _ _ _;simp only[yH] at hc;have:=vv hc;refine⟨[],rfl,fun i f g h=>by simp at h,?_,by simp[G.aad]⟩;simp only[m5];rw[List.drop_eq_nil_iff];omega
    | cons f fl bj =>
     intro ys o hc q aa v az;simp only[yH,xo] at hc;have ao:=vv hc.1
     match ys,q with
     | y::ys,q =>
      have h0:=v 0 f (by simp);simp only[aa0] at h0;obtain⟨g,g1,g2,g3⟩:=ih f.type _ _ (aa f (by simp)) h0 (az y (by simp));obtain⟨l,l1,l2,l3,l4⟩:=bj ys (o+P.cellsOf f.type) hc.2 (by simpa using q) (fun f' p=>aa f' (by simp[p])) (fun i f' p=>by
       have:=v (i+1) f' (by simpa using p);simpa using this) (fun y' bm=>az y' (by simp[bm]))
      refine⟨g::l,by simp[l1],fun i f' g' p ac=>?_,?_,?_⟩
      ·cases i with
       | zero=>simp only[aa0,vz] at p ac;subst p;subst ac;exact g1
       | succ i=>exact l2 i f' g' (by simpa using p) (by simpa using ac)
      ·simp only[m5];refine⟨(cs.drop o).take (P.cellsOf f.type),cs.drop (o+P.cellsOf f.type),?_,by rw[<-ao];exact g2,l3⟩;rw[<-List.drop_drop,List.take_append_drop]
      ·simp only[G.aad,aaS,fj];omega
   obtain⟨l,l1,l2,l3,l4⟩:=key fs.toList xs 0 ad (by simp[bl]) (fun f u=>cS.1 (aaZ.1 ap f u)) (fun i f hi=>v i f (by simpa using hi)) (fun y q b off hm=>hz b off (List.mem_flatMap.2 ⟨y,q,hm⟩));refine⟨.st l,?_,?_,?_⟩
   ·simp only[Ok,c];exact⟨l,rfl,by simpa using l1,fun i f x hi hx=>l2 i f x (by simpa using hi) hx⟩
   ·simp only[Rd];simpa using l3
   ·simp only[G.bulk,iN];omega
  ·cases u
end
namespace Api
abbrev I (n:Int):G:=.int .i64 n
inductive Ty where
 | mk (kind id:Int) (args:List Ty)
 deriving Inhabited
def Ty.kind:Ty->Int | .mk k _ _=>k
def Ty.id:Ty->Int | .mk _ i _=>i
def Ty.args:Ty->List Ty | .mk _ _ l=>l
mutual
def Ty.g:Ty->G
 | .mk k i l=>.st [I k,I i,.sl 3 (Ty.gs l)]
def Ty.gs:List Ty->List G
 | []=>[]
 | t::l=>t.g::Ty.gs l
end
theorem Ty.aaD:∀l:List Ty,Ty.gs l=l.map Ty.g
 | []=>rfl
 | t::l=>by simp[Ty.gs,Ty.aaD l]
structure sJ where
 param:Int
 trait:Int
def sJ.g (b:sJ):G:=.st [I b.param,I b.trait]
structure Term where
 kind:Int
 a:Int
 targets:List Int
def Term.g (x:Term):G:=.st [I x.kind,I x.a,.sl 1 (x.targets.map I)]
structure E9 where
 op:Int
 dst:Int
 a:Int
 b:Int
 n:Int
 args:List Int
 types:List Ty
def E9.g (x:E9):G:=.st [I x.op,I x.dst,I x.a,I x.b,I x.n,.sl 1 (x.args.map I),.sl 3 (x.types.map Ty.g)]
structure Block where
 code:List E9
 fin:Term
def Block.g (x:Block):G:=.st [.sl 7 (x.code.map E9.g),x.fin.g]
structure R2 where
 name:ByteArray
 module:Int
 params:Int
 bounds:List sJ
 arity:Int
 result:Ty
 locals:List Ty
 blocks:List Block
 ties:List Int
def R2.g (f:R2):G:=.st [.str f.name,I f.module,I f.params,.sl 2 (f.bounds.map sJ.g),I f.arity,f.result.g,.sl 3 (f.locals.map Ty.g),.sl 4 (f.blocks.map Block.g),.sl 1 (f.ties.map I)]
structure Variant where
 name:ByteArray
 fields:List Ty
def Variant.g (x:Variant):G:=.st [.str x.name,.sl 3 (x.fields.map Ty.g)]
structure Data where
 name:ByteArray
 module:Int
 params:Int
 variants:List Variant
 drop:Int
def Data.g (d:Data):G:=.st [.str d.name,I d.module,I d.params,.sl 2 (d.variants.map Variant.g),I d.drop]
structure Impl where
 trait:Int
 module:Int
 params:Int
 bounds:List sJ
 type:Ty
 func:Int
def Impl.g (x:Impl):G:=.st [I x.trait,I x.module,I x.params,.sl 2 (x.bounds.map sJ.g),x.type.g,I x.func]
structure Prog where
 modules:List ByteArray
 uses:List (List Int)
 datas:List Data
 traits:List ByteArray
 homes:List Int
 impls:List Impl
 funcs:List R2
 main:Int
def Prog.g (p:Prog):G:=.st [.sl 1 (p.modules.map .str),.sl 1 (p.uses.map fun l=>.sl 1 (l.map I)),.sl 5 (p.datas.map Data.g),.sl 1 (p.traits.map .str),.sl 1 (p.homes.map I),.sl 8 (p.impls.map Impl.g),.sl 11 (p.funcs.map R2.g),I p.main]
section
variable {F:aD}{cs:List Value}
end
end Api
end Go.Fr
namespace Go.Fr
open Go Go.RowKit
namespace Api
section
variable {P:Program}
def R3 (P:Program) (n:Nat):List TypeId->List G->Prop
 | [],[]=>True
 | t::ts,x::l=>Ok P n t x/\R3 P n ts l
 | _,_=>False
theorem KV {n:Nat}:∀{fl:List Field}{l:List G},l.length=fl.length->(∀(i:Nat) (f:Field) (x:G),fl[i]?=some f->l[i]?=some x->Ok P n f.type x)->R3 P n (fl.map (·.type)) l
 | [],[],_,_=>trivial
 | [],x::l,h,_=>by simp at h
 | f::fl,[],h,_=>by simp at h
 | f::fl,x::l,h,a=>⟨a 0 f x (by simp) (by simp),KV (by simpa using h) fun i b e d c=>a (i+1) b e (by simpa using d) (by simpa using c)⟩
theorem ok_int {n:Nat}{t:TypeId}{g:G}{k:IntKind}(h:P.underlying t=some (.int k)) (a:Ok P n t g):∃x,g=.int k x:=by
 cases n with
 | zero=>exact a.elim
 | succ n=>simp only[Ok,h] at a;obtain⟨x,b,_⟩:=a;exact⟨x,b⟩
theorem OD {n:Nat}{t:TypeId}{g:G}(h:P.underlying t=some .bool) (a:Ok P n t g):∃x,g=.bool x:=by
 cases n with
 | zero=>exact a.elim
 | succ n=>simp only[Ok,h] at a;exact a
theorem R4 {n:Nat}{t:TypeId}{g:G}(h:P.underlying t=some .string) (a:Ok P n t g):∃x,g=.str x:=by
 cases n with
 | zero=>exact a.elim
 | succ n=>simp only[Ok,h] at a;exact a
theorem Gr {b:Type}{f:b->G}:∀{l:List G},(∀x∈l,∃y,x=f y)->∃a:List b,l=a.map f
 | [],_=>⟨[],rfl⟩
 | x::l,h=>by
  obtain⟨y,rfl⟩:=h x (by simp);obtain⟨a,rfl⟩:=Gr (l:=l) (fun z c=>h z (by simp[c]));exact⟨y::a,rfl⟩
theorem R5 {n:Nat}{t e:TypeId}{g:G}{sz:Nat}{c:Type}{f:c->G}(h:P.underlying t=some (.slice e)) (b:P.cellsOf e=sz) (a:Ok P n t g) (k:∀m x,m<n->Ok P m e x->∃y,x=f y):∃l:List c,g=.sl sz (l.map f):=by
 cases n with
 | zero=>exact a.elim
 | succ n =>
  simp only[Ok,h] at a;obtain⟨l,rfl,o⟩:=a;obtain⟨d,rfl⟩:=Gr (f:=f) (fun x j=>k n x (by omega) (o x j));exact⟨d,by rw[b]⟩
theorem TF {n:Nat}{t:TypeId}{g:G}{fs:Array Field}{ts:List TypeId}(h:P.underlying t=some (.struct fs)) (b:fs.toList.map (·.type)=ts) (a:Ok P n t g):∃m l,m<n/\g=.st l/\R3 P m ts l:=by
 cases n with
 | zero=>exact a.elim
 | succ n =>
  simp only[Ok,h] at a;obtain⟨l,rfl,j,e⟩:=a;subst b;exact⟨n,l,by omega,rfl,KV (by simpa using j) fun i f x d c=>e i f x (by simpa using d) c⟩
def vI (P:Program) (t:TypeId) (ts:List TypeId):Bool:=match P.underlying t with | some (.struct fs)=>decide (fs.toList.map (·.type)=ts) | _=>false
def uK (P:Program) (t e sz:Nat):Bool:=match P.underlying t with | some (.slice e')=>Nat.beq e' e&&Nat.beq (P.cellsOf e) sz | _=>false
def Vg (P:Program) (t:TypeId):Bool:=match P.underlying t with | some (.int .i64)=>true | _=>false
def Xd (P:Program) (t:TypeId):Bool:=match P.underlying t with | some .string=>true | _=>false
theorem dN {t:TypeId}{ts:List TypeId}(h:vI P t ts=true) {n:Nat}{g:G}(a:Ok P n t g):∃m l,m<n/\g=.st l/\R3 P m ts l:=by
 simp only[vI] at h;split at h
 ·rename_i fs b;exact TF b (by simpa using h) a
 ·cases h
theorem cO {t e sz:Nat}(h:uK P t e sz=true) {n:Nat}{g:G}{a:Type}{f:a->G}(j:Ok P n t g) (d:∀m x,m<n->Ok P m e x->∃y,x=f y):∃l:List a,g=.sl sz (l.map f):=by
 simp only[uK] at h;split at h
 ·rename_i o k;simp only[xo] at h;have b:=vv h.1;have c:=vv h.2;subst b;exact R5 k c j d
 ·cases h
theorem cn {t:TypeId}(h:Vg P t=true) {n:Nat}{g:G}(a:Ok P n t g):∃x,g=I x:=by
 simp only[Vg] at h;split at h
 ·rename_i b;exact ok_int b a
 ·cases h
theorem Cb {t:TypeId}(h:Xd P t=true) {n:Nat}{g:G}(a:Ok P n t g):∃x,g=.str x:=by
 simp only[Xd] at h;split at h
 ·rename_i b;exact R4 b a
 ·cases h
theorem mK {n:Nat}{b:TypeId}{l:List G}(h:R3 P n [b] l):∃a,l=[a]/\Ok P n b a:=by
 match l,h with
 | [a],h=>exact⟨a,rfl,h.1⟩
theorem aG {n:Nat}{b:TypeId}{ts:List TypeId}{l:List G}(h:R3 P n (b::ts) l):∃a r,l=a::r/\Ok P n b a/\R3 P n ts r:=by
 match l,h with
 | a::r,h=>exact⟨a,r,rfl,h.1,h.2⟩
theorem P7 {t ti ts:TypeId}(hi:Vg P ti=true) (u:vI P t [ti,ti,ts]=true) (e:uK P ts t 3=true):∀(n:Nat) (g:G),Ok P n t g->∃x:Ty,g=x.g:=by
 intro n
 induction n using Nat.strongRecOn with
 | _ n h =>
  intro g o;obtain⟨m,l,v,rfl,d⟩:=dN u o;obtain⟨a,l,rfl,j,d⟩:=aG d;obtain⟨b,l,rfl,hb,d⟩:=aG d;obtain⟨c,rfl,r⟩:=mK d;obtain⟨k,rfl⟩:=cn hi j;obtain⟨i,rfl⟩:=cn hi hb;obtain⟨xs,rfl⟩:=cO e r (f:=Ty.g) (fun s x p q=>h s (by omega) x q);exact⟨.mk k i xs,by simp[Ty.g,Ty.aaD]⟩
structure iw where
 int:TypeId
 str:TypeId
 ints:TypeId
 strs:TypeId
 intss:TypeId
 ty:TypeId
 tys:TypeId
 bound:TypeId
 bounds:TypeId
 term:TypeId
 ins:TypeId
 inss:TypeId
 block:TypeId
 blocks:TypeId
 func:TypeId
 funcs:TypeId
 variant:TypeId
 variants:TypeId
 data:TypeId
 datas:TypeId
 impl:TypeId
 impls:TypeId
 prog:TypeId
def iw.tyOk (P:Program) (d:iw):Bool:=Vg P d.int&&vI P d.ty [d.int,d.int,d.tys]&&uK P d.tys d.ty 3
def iw.aam (P:Program) (d:iw):Bool:=d.tyOk P&&Xd P d.str&&uK P d.ints d.int 1&&vI P d.bound [d.int,d.int]&&uK P d.bounds d.bound 2&&vI P d.term [d.int,d.int,d.ints] &&
 vI P d.ins [d.int,d.int,d.int,d.int,d.int,d.ints,d.tys]&&uK P d.inss d.ins 7&&vI P d.block [d.inss,d.term]&&uK P d.blocks d.block 4 &&
 vI P d.func [d.str,d.int,d.int,d.bounds,d.int,d.ty,d.tys,d.blocks,d.ints]
def iw.aay (P:Program) (d:iw):Bool:=d.aam P&&uK P d.strs d.str 1&&uK P d.intss d.ints 1&&vI P d.variant [d.str,d.tys]&&uK P d.variants d.variant 2&&vI P d.data [d.str,d.int,d.int,d.variants,d.int] &&
 uK P d.datas d.data 5&&vI P d.impl [d.int,d.int,d.int,d.bounds,d.ty,d.int]&&uK P d.impls d.impl 8&&uK P d.funcs d.func 11&&vI P d.prog [d.strs,d.intss,d.datas,d.strs,d.ints,d.impls,d.funcs,d.int]
theorem iw.aaF {d:iw}(h:d.aay P=true):d.aam P=true:=by
 simp only[iw.aay,xo] at h;exact h.1.1.1.1.1.1.1.1.1.1
theorem iw.aau {d:iw}(h:d.aam P=true):d.tyOk P=true:=by
 simp only[iw.aam,xo] at h;exact h.1.1.1.1.1.1.1.1.1.1
theorem iw.ty' {d:iw}(h:d.tyOk P=true) {n:Nat}{g:G}(a:Ok P n d.ty g):∃x:Ty,g=x.g:=by
 simp only[iw.tyOk,xo] at h;exact P7 h.1.1 h.1.2 h.2 n g a
theorem iw.i {d:iw}(h:d.tyOk P=true) {n:Nat}{g:G}(a:Ok P n d.int g):∃x:Int,g=I x:=by
 simp only[iw.tyOk,xo] at h;exact cn h.1.1 a
theorem iw.aaI {d:iw}(h:d.tyOk P=true) {n:Nat}{g:G}(c:Ok P n d.tys g):∃x:List Ty,g=.sl 3 (x.map Ty.g):=by
 have a:=h;simp only[iw.tyOk,xo] at a;exact cO a.2 c fun m x _ b=>iw.ty' h b
theorem iw.bnd {d:iw}(h:d.aam P=true) {n:Nat}{g:G}(o:Ok P n d.bound g):∃x:sJ,g=x.g:=by
 have e:=h;have f:=iw.aau e;have a:=e;simp only[iw.aam,xo] at a;obtain⟨⟨⟨⟨⟨⟨⟨⟨⟨⟨_,z⟩,v⟩,p⟩,y⟩,k5⟩,w⟩,k7⟩,s⟩,k9⟩,q⟩:=a;obtain⟨m,l0,r,rfl,c⟩:=dN p o;obtain⟨g0,u,rfl,k,b⟩:=aG c;obtain⟨j,rfl⟩:=iw.i f k;obtain⟨t,rfl,l⟩:=mK b;obtain⟨v1,rfl⟩:=iw.i f l;exact⟨⟨j,v1⟩,rfl⟩
theorem iw.trm {d:iw}(h:d.aam P=true) {n:Nat}{g:G}(t:Ok P n d.term g):∃x:Term,g=x.g:=by
 have k:=h;have c:=iw.aau k;have a:=k;simp only[iw.aam,xo] at a;obtain⟨⟨⟨⟨⟨⟨⟨⟨⟨⟨_,k1⟩,r⟩,k3⟩,k4⟩,w⟩,k6⟩,k7⟩,z⟩,k9⟩,v⟩:=a;obtain⟨m,l0,y,rfl,e⟩:=dN w t;obtain⟨g0,l1,rfl,l,b⟩:=aG e;obtain⟨o,rfl⟩:=iw.i c l;obtain⟨g1,l2,rfl,s,j⟩:=aG b;obtain⟨v1,rfl⟩:=iw.i c s;obtain⟨g2,rfl,p⟩:=mK j;obtain⟨q,rfl⟩:=cO r p (f:=I) fun m x _ u=>iw.i c u;exact⟨⟨o,v1,q⟩,rfl⟩
theorem iw.ins' {d:iw}(h:d.aam P=true) {n:Nat}{g:G}(hg:Ok P n d.ins g):∃x:E9,g=x.g:=by
 have q:=h;have a:=iw.aau q;have b:=q;simp only[iw.aam,xo] at b;obtain⟨⟨⟨⟨⟨⟨⟨⟨⟨⟨_,k1⟩,z⟩,k3⟩,k4⟩,k5⟩,k6⟩,k7⟩,k8⟩,k9⟩,ae⟩:=b;obtain⟨m,l0,hm,rfl,l⟩:=dN k6 hg;obtain⟨g0,l1,rfl,r,e⟩:=aG l;obtain⟨s,rfl⟩:=iw.i a r;obtain⟨g1,l2,rfl,e1,p⟩:=aG e;obtain⟨v1,rfl⟩:=iw.i a e1;obtain⟨g2,l3,rfl,t,k⟩:=aG p;obtain⟨u,rfl⟩:=iw.i a t;obtain⟨g3,l4,rfl,e3,o⟩:=aG k;obtain⟨v3,rfl⟩:=iw.i a e3;obtain⟨g4,l5,rfl,y,c⟩:=aG o;obtain⟨v4,rfl⟩:=iw.i a y;obtain⟨g5,l6,rfl,v,j⟩:=aG c;obtain⟨v5,rfl⟩:=cO z v (f:=I) fun m x _ hx=>iw.i a hx;obtain⟨g6,rfl,e6⟩:=mK j;obtain⟨w,rfl⟩:=iw.aaI a e6;exact⟨⟨s,v1,u,v3,v4,v5,w⟩,rfl⟩
theorem iw.blk {d:iw}(h:d.aam P=true) {n:Nat}{g:G}(p:Ok P n d.block g):∃x:Block,g=x.g:=by
 have b:=h;have ht:=iw.aau b;have a:=b;simp only[iw.aam,xo] at a;obtain⟨⟨⟨⟨⟨⟨⟨⟨⟨⟨_,k1⟩,w⟩,k3⟩,z⟩,k5⟩,y⟩,s⟩,l⟩,k9⟩,r⟩:=a;obtain⟨m,l0,t,rfl,e⟩:=dN l p;obtain⟨g0,v,rfl,j,c⟩:=aG e;obtain⟨k,rfl⟩:=cO s j (f:=E9.g) fun m x _ q=>iw.ins' b q;obtain⟨u,rfl,o⟩:=mK c;obtain⟨v1,rfl⟩:=iw.trm b o;exact⟨⟨k,v1⟩,rfl⟩
theorem iw.fn {d:iw}(h:d.aam P=true) {n:Nat}{g:G}(hg:Ok P n d.func g):∃x:R2,g=x.g:=by
 have e:=h;have a:=iw.aau e;have b:=e;simp only[iw.aam,xo] at b;obtain⟨⟨⟨⟨⟨⟨⟨⟨⟨⟨_,k1⟩,k2⟩,k3⟩,k4⟩,k5⟩,k6⟩,k7⟩,k8⟩,k9⟩,p⟩:=b;obtain⟨m,l0,hm,rfl,r⟩:=dN p hg;obtain⟨g0,l1,rfl,w,k⟩:=aG r;obtain⟨y,rfl⟩:=Cb k1 w;obtain⟨g1,l2,rfl,e1,u⟩:=aG k;obtain⟨v1,rfl⟩:=iw.i a e1;obtain⟨g2,l3,rfl,z,o⟩:=aG u;obtain⟨v2,rfl⟩:=iw.i a z;obtain⟨g3,l4,rfl,e3,t⟩:=aG o;obtain⟨v3,rfl⟩:=cO k4 e3 (f:=sJ.g) fun m x _ c=>iw.bnd e c;obtain⟨g4,l5,rfl,e4,j⟩:=aG t;obtain⟨v4,rfl⟩:=iw.i a e4;obtain⟨g5,l6,rfl,e5,l⟩:=aG j;obtain⟨v5,rfl⟩:=iw.ty' a e5;obtain⟨g6,l7,rfl,e6,s⟩:=aG l;obtain⟨v6,rfl⟩:=iw.aaI a e6;obtain⟨g7,l8,rfl,e7,q⟩:=aG s;obtain⟨v,rfl⟩:=cO k9 e7 (f:=Block.g) fun m x _ c=>iw.blk e c;obtain⟨g8,rfl,e8⟩:=mK q;obtain⟨v8,rfl⟩:=cO k2 e8 (f:=I) fun m x _ c=>iw.i a c;exact⟨⟨y,v1,v2,v3,v4,v5,v6,v,v8⟩,rfl⟩
theorem iw.imp {d:iw}(h:d.aay P=true) {n:Nat}{g:G}(z:Ok P n d.impl g):∃x:Impl,g=x.g:=by
 have h0:=h;have j:=iw.aaF h;have b:=iw.aau j;have a:=j;simp only[iw.aam,xo] at a;obtain⟨⟨⟨⟨⟨⟨⟨⟨⟨⟨_,k1⟩,k2⟩,k3⟩,w⟩,k5⟩,k6⟩,k7⟩,k8⟩,k9⟩,ac⟩:=a;simp only[iw.aay,xo] at h;obtain⟨⟨⟨⟨⟨⟨⟨⟨⟨⟨h,p1⟩,p2⟩,p3⟩,p4⟩,p5⟩,p6⟩,p7⟩,p8⟩,p9⟩,aa⟩:=h;obtain⟨m,l0,hm,rfl,l⟩:=dN p7 z;obtain⟨g0,l1,rfl,q,c⟩:=aG l;obtain⟨r,rfl⟩:=iw.i b q;obtain⟨g1,l2,rfl,y,p⟩:=aG c;obtain⟨v1,rfl⟩:=iw.i b y;obtain⟨g2,l3,rfl,s,e⟩:=aG p;obtain⟨t,rfl⟩:=iw.i b s;obtain⟨g3,l4,rfl,e3,o⟩:=aG e;obtain⟨v3,rfl⟩:=cO w e3 (f:=sJ.g) fun m x _ hx=>iw.bnd j hx;obtain⟨g4,l5,rfl,v,k⟩:=aG o;obtain⟨v4,rfl⟩:=iw.ty' b v;obtain⟨g5,rfl,u⟩:=mK k;obtain⟨v5,rfl⟩:=iw.i b u;exact⟨⟨r,v1,t,v3,v4,v5⟩,rfl⟩
end
end Api
end Go.Fr
namespace Go.Fr.T
open Go Go.RowKit Go.Fr
mutual
def nF:G->List C
 | .int k n=>[.int k n]
 | .bool b=>[.bool b]
 | .str s=>[.str s]
 | .sl _ l=>[.sl (si l)]
 | .st l=>jG l
def si:List G->List (List C)
 | []=>[]
 | x::l=>nF x::si l
def jG:List G->List C
 | []=>[]
 | x::l=>nF x++jG l
end
theorem yJ:∀l:List G,si l=l.map nF
 | []=>rfl
 | x::l=>by simp only[si,aaS,yJ l]
theorem Cc {a b:List C}(h:dJ a=true) (k:dJ b=true):dJ (a++b)=true:=by
 rw[iW] at *;intro c d;rcases w8.1 d with d | d
 ·exact h c d
 ·exact k c d
mutual
theorem Cd {F:aD}:∀{g:G}{cs:List Value},Rd F g cs->g.bulk<=maxLen->aF F [] (nF g) cs/\dJ (nF g)=true
 | .int k n,cs,h,hb=>by
  simp only[Rd] at h;obtain⟨rfl,h⟩:=h;simp only[nF,aF,Rel];exact⟨⟨_,_,rfl,⟨rfl,h⟩,rfl⟩,rfl⟩
 | .bool b,cs,h,hb=>by
  simp only[Rd] at h;subst h;simp only[nF,aF,Rel];exact⟨⟨_,_,rfl,rfl,rfl⟩,rfl⟩
 | .str s,cs,h,hb=>by
  simp only[Rd] at h;subst h;simp only[G.bulk] at hb;simp only[nF,aF,Rel];exact⟨⟨_,_,rfl,⟨rfl,by omega⟩,rfl⟩,rfl⟩
 | .sl sz l,cs,h,hb=>by
  simp only[Rd] at h;obtain⟨a,c,rfl,h1,h2,h3,h4⟩:=h;simp only[G.bulk] at hb;have hl:(si l).length=l.length:=by simp[yJ]
  simp only[nF,aF,Rel];refine⟨⟨_,_,rfl,⟨a,c,by rw[hl],by rw[hl];exact h1,by rw[hl];omega,fun e=>?_,sz,AG h4 (by omega)⟩,rfl⟩,rfl⟩;obtain⟨e1,e2⟩:=h3 e;subst e1;exact⟨rfl,e2⟩
 | .st l,cs,h,hb=>by
  simp only[Rd] at h;simp only[G.bulk] at hb;simp only[nF];exact yK h (by omega)
theorem AG {F:aD}{a:Option Addr}{sz:Nat}:∀{i:Nat}{l:List G},uf F a sz i l->G.aad l<=maxLen->gC F a sz i (si l)
 | _,[],_,_=>by simp only[si,gC]
 | i,x::l,h,hb=>by
  simp only[uf] at h;obtain⟨⟨es,h1,h2,h3⟩,h4⟩:=h;simp only[G.aad] at hb;obtain⟨r1,r2⟩:=Cd h3 (by omega);simp only[si,gC];exact⟨⟨es,h1,h2,r2,r1⟩,AG h4 (by omega)⟩
theorem yK {F:aD}:∀{l:List G}{cs:List Value},m5 F l cs->G.aad l<=maxLen->aF F [] (jG l) cs/\dJ (jG l)=true
 | [],cs,h,_=>by simp only[m5] at h;subst h;simp only[jG,aF];exact⟨trivial,rfl⟩
 | x::l,cs,h,hb=>by
  simp only[m5] at h;obtain⟨c1,c2,rfl,h1,h2⟩:=h;simp only[G.aad] at hb;obtain⟨r1,r2⟩:=Cd h1 (by omega);obtain⟨q1,q2⟩:=yK h2 (by omega);simp only[jG];exact⟨r1.append q1,Cc r2 q2⟩
end
open Api
abbrev IC (n:Int):C:=.int .i64 n
def tM (l:List Int):List (List C):=l.map fun n=>[IC n]
def Vh (l:List ByteArray):List (List C):=l.map fun s=>[C.str s]
mutual
def uL:Ty->List C
 | .mk k i l=>[IC k,IC i,.sl (Ik l)]
def Ik:List Ty->List (List C)
 | []=>[]
 | t::l=>uL t::Ik l
end
theorem DR:∀l:List Ty,Ik l=l.map uL
 | []=>rfl
 | t::l=>by simp only[Ik,aaS,DR l]
theorem Fb (t:Ty):uL t=[IC t.kind,IC t.id,.sl (t.args.map uL)]:=by
 cases t;simp only[uL,DR,Ty.kind,Ty.id,Ty.args]
def KW (b:sJ):List C:=[IC b.param,IC b.trait]
def KX (x:Term):List C:=[IC x.kind,IC x.a,.sl (tM x.targets)]
def sj (x:E9):List C:=[IC x.op,IC x.dst,IC x.a,IC x.b,IC x.n,.sl (tM x.args),.sl (x.types.map uL)]
def iO (x:Block):List C:=[.sl (x.code.map sj),IC x.fin.kind,IC x.fin.a,.sl (tM x.fin.targets)]
def Xe (f:R2):List C:=[.str f.name,IC f.module,IC f.params,.sl (f.bounds.map KW),IC f.arity,IC f.result.kind,IC f.result.id,.sl (f.result.args.map uL),.sl (f.locals.map uL),.sl (f.blocks.map iO),.sl (tM f.ties)]
def fk (x:Variant):List C:=[.str x.name,.sl (x.fields.map uL)]
def jc (d:Api.Data):List C:=[.str d.name,IC d.module,IC d.params,.sl (d.variants.map fk),IC d.drop]
def TG (x:Impl):List C:=[IC x.trait,IC x.module,IC x.params,.sl (x.bounds.map KW),IC x.type.kind,IC x.type.id,.sl (x.type.args.map uL),IC x.func]
def TH (p:Prog):List C:=[.sl (Vh p.modules),.sl (p.uses.map fun l=>[.sl (tM l)]),.sl (p.datas.map jc),.sl (Vh p.traits),.sl (tM p.homes),.sl (p.impls.map TG),.sl (p.funcs.map Xe),IC p.main]
theorem fB {a:Type}{f:a->G}{h:a->List C}(b:∀x,nF (f x)=h x) (l:List a):si (l.map f)=l.map h:=by
 rw[yJ,abF];exact abH fun x _=>b x
theorem vJ (l:List Int):si (l.map I)=tM l:=fB (fun _=>rfl) l
mutual
theorem Cf:∀t:Ty,nF t.g=uL t
 | .mk k i l=>by simp only[Ty.g,nF,jG,uL,Gs l,aaU,aaT,aa5]
theorem Gs:∀l:List Ty,si (Ty.gs l)=Ik l
 | []=>rfl
 | t::l=>by simp only[Ty.gs,si,Ik,Cf t,Gs l]
end
theorem Cg (l:List Ty):si (l.map Ty.g)=l.map uL:=fB Cf l
theorem KY (x:Term):nF x.g=KX x:=by simp only[Term.g,nF,jG,KX,vJ,aaU,aaT,aa5]
theorem OE (x:E9):nF x.g=sj x:=by simp only[E9.g,nF,jG,sj,vJ,Cg,aaU,aaT,aa5]
theorem Il (x:Block):nF x.g=iO x:=by simp only[Block.g,nF,jG,iO,KY,KX,fB OE,aaU,aaT,aa5]
theorem DS (x:Variant):nF x.g=fk x:=by simp only[Variant.g,nF,jG,fk,Cg,aaU,aaT,aa5]
theorem KZ (x:Api.Data):nF x.g=jc x:=by simp only[Data.g,nF,jG,jc,fB DS,aaU,aaT,aa5]
theorem K0 {l:List Int}{k:Nat}{x:Int}{K:List C->Prop}(a:l[k]?=some x) (h:K [IC x]):Bv (tM l) (k:Int) 1 K:=⟨[IC x],by omega,by simp[tM,a],rfl,h⟩
theorem idxS {l:List ByteArray}{k:Nat}{x:ByteArray}{K:List C->Prop}(a:l[k]?=some x) (h:K [.str x]):Bv (Vh l) (k:Int) 1 K:=⟨[.str x],by omega,by simp[Vh,a],rfl,h⟩
theorem Gt {l:List Ty}{k:Nat}{x:Ty}{K:List C->Prop}(a:l[k]?=some x) (h:K [IC x.kind,IC x.id,.sl (x.args.map uL)]):Bv (l.map uL) (k:Int) 3 K:=cD a (Fb x) rfl h
end Go.Fr.T
namespace Go.Fr.T
open Go Go.RowKit Go.Fr Go.ChangeShapes Go.WideShapes Go.ChangeAt
def zF:G->C
 | .int k n=>.int k n
 | .bool b=>.bool b
 | .str s=>.str s
 | .sl _ l=>.sl (si l)
 | .st l=>.agg (jG l)
def P8 (P:Program):List TypeId->List G->Prop
 | [],[]=>True
 | t::ts,g::gs=>(∃n,Ok P n t g)/\P8 P ts gs
 | _,_=>False
section
variable {H:Type}{enc:TypeId×Value->H}{P:Program}{W:World}
theorem uM {F:aD}{L:Loc}{c:C}{v:Value}(h:aF F L [c] [v]):Rel F L c v:=by
 simp only[aF] at h;obtain⟨x,y,e,a,b⟩:=h;injection e with e1 e2
 subst e1;exact a
theorem OG {S:List TypeId}(u:flat P S=true) {t:TypeId}(x:t∈S) {r:Reach}{z:Nat}{sp:Nat->Bool}{hd:Bool}{v:Value}{d:DataW H}{ps:List MemPlace}(f:Value.okWide P W r z t v)
  (h:DataW.Trod enc P W 0 sp hd t v d ps) (hz:W.noneFrozen ps) (hb:iN d<=maxLen):∃n g,Ok P n t g/\Rel (qp W) [] (zF g) v/\g.bulk<=iN d:=by
 obtain⟨fuel,h⟩:=h;obtain⟨g,o,y,w⟩:=OC u fuel t _ _ x h hz;refine⟨fuel,g,o,?_,w⟩;have p:=(Cd y (abz w hb)).1;have q:=aaZ.1 u t x;cases fuel with
 | zero=>exact o.elim
 | succ n =>
 simp only[KU] at q;simp only[Ok] at o;split at q
 ·rename_i j;obtain⟨b,rfl⟩:=okWide_bool j f;simp only[j] at o;obtain⟨s,rfl⟩:=o;exact uM p
 ·rename_i k j;obtain⟨m,rfl⟩:=okWide_int j f;simp only[j] at o;obtain⟨s,rfl,_⟩:=o;exact uM p
 ·rename_i j;obtain⟨m,rfl⟩:=okWide_string j f;simp only[j] at o;obtain⟨s,rfl⟩:=o;exact uM p
 ·rename_i e j;obtain⟨a,l,c,rfl⟩:=okWide_slice j f;simp only[j] at o;obtain⟨s,rfl,_⟩:=o;exact uM p
 ·rename_i fs j;simp only[Value.okWide,j] at f;obtain⟨cs,rfl,_,_⟩:=f;simp only[j] at o;obtain⟨l,rfl,_⟩:=o;simp only[zF,Rel];exact⟨cs.toList,by simp,p⟩
 ·cases q
theorem AH {S:List TypeId}(k:flat P S=true) {r:Reach}{w:Nat}{z:Nat->Bool}{hd:Bool}:∀{ts:List TypeId}{vs:List Value}{ds:List (DataW H)}{ps:List MemPlace},(∀t∈ts,t∈S) ->
  (∀(j:Nat) t v,ts[j]?=some t->vs[j]?=some v->Value.okWide P W r w t v)->DataW.TrodAll enc P W 0 z hd ts vs ds ps->W.noneFrozen ps->fj ds<=maxLen ->
  ∃gs,P8 P ts gs/\aF (qp W) [] (gs.map zF) vs/\G.aad gs<=fj ds
 | [],[],[],_,_,_,_,_,_=>⟨[],trivial,by simp only[abI,aF],by simp[G.aad]⟩
 | t::ts,v::vs,d::ds,ps,a,m,⟨p,q,h1,u,c⟩,l,hb=>by
  subst c;simp only[fj] at hb ⊢;obtain⟨n,g,s,g2,g3⟩:=OG k (a t (by simp)) (m 0 t v rfl rfl) h1 (fun b o a=>l b o (List.mem_append_left _ a)) (by omega);obtain⟨gs,y,x,k3⟩:=AH k (fun t f=>a t (by simp[f])) (fun j t v f e=>m (j+1) t v (by simpa using f) (by simpa using e)) u (fun b o a=>l b o (List.mem_append_right _ a)) (by omega);refine⟨g::gs,⟨⟨n,s⟩,y⟩,?_,by simp only[G.aad];omega⟩;simp only[aaS,aF];exact⟨v,vs,rfl,g2,x⟩
 | [],_::_,_,_,_,_,h,_,_=>h.elim
 | [],[],_::_,_,_,_,h,_,_=>h.elim
 | _::_,[],_,_,_,_,h,_,_=>h.elim
 | _::_,_::_,[],_,_,_,h,_,_=>h.elim
theorem zG {ts:List TypeId}(n:laidOutB P=true) (b:ts.all (fun t=>P.readableRec t&&decide (t<P.types.size))=true) {W':World}(hb:Below W.heap.size W W') {f:Nat->Bool} :
  ∀{vs:List Value}{ds:List (DataW H)}{ps:List MemPlace},DataW.TrodAll enc P W 0 (fun _=>true) true ts vs ds ps->(∀x∈ps,x.block<W.heap.size)->(∀x∈ps,f x.block=true)->DataW.TrodAll enc P W' 0 f true ts vs ds ps:=by
 induction ts with
 | nil =>
  intro vs ds ps h _ _
  match vs,ds,h with
  | [],[],h=>exact h
 | cons t ts k =>
  intro vs ds ps h j c
  match vs,ds,h with
  | v::vs,d::ds,⟨p,q,m,l,e⟩ =>
   subst e;simp only[List.all_cons,xo,abo] at b;refine⟨p,q,WideElems.Trod_stays n b.1.1 b.1.2 m (fun x a=>hb.same (j x (by simp[a]))) (fun x a=>c x (by simp[a])),k (by simpa using b.2) l (fun x a=>j x (by simp[a])) (fun x a=>c x (by simp[a])),rfl⟩
theorem zH {f:Func}{s:ChangeSpec}{W W':World}{args:Array Value}{v:Value}{ds gs:List (DataW H)}{a pa pv:List MemPlace}
  (o:DataW.Whole enc P f.params.toList s.vars false W args.toList ds gs a)
  (k:∀(b:Nat) (m:Nat->Bool) (y:Bool),DataW.TrodAll enc P W' b m y f.resultTypes.toList (v.resultList f.resultTypes.size) (s.fn H (ds++gs)).results [])
  (e:∀m:Nat->Bool,(∀p∈a,m p.block=true)->DataW.TrodAll enc P W' 0 m true f.params.toList args.toList (s.fn H (ds++gs)).args pa)
  (d:∀m:Nat->Bool,(∀p∈a,m p.block=true)->DataW.TrodVars enc P W' m s.vars (s.fn H (ds++gs)).vars pv)
  (l:a=pa++pv) (hb:Below W.heap.size W W')
  (u:∀(j:Nat) (t:TypeId) (r:Value),f.resultTypes[j]?=some t->(v.resultList f.resultTypes.size)[j]?=some r->Value.okWide P W' .any 0 t r) :
  s.post enc P f false true false false W args v W':=by
 have h:∀p∈a,(fun b=>decide (b<W.heap.size)) p.block=true:=fun p c=>by simpa using o.lt p c
 have q:∀p∈a,p.block<W.heap.size:=fun p c=>o.lt p c;refine⟨ds,gs,a,[],pa,pv,o,k _ _ _,e _ h,d _ h,World.keptBut_mono (fun p c=>⟨c,?_⟩) (hb.frame (·∈a)),fun _=>?_⟩
 ·rw[l,w8] at c;exact Or.inr c
 ·obtain⟨_,_,_,_,_,w,z⟩:=o;refine⟨u,_,_,([]++pa)++pv,⟨[]++pa,pv,trodAll_append (e _ (fun _ _=>rfl)) (k _ _ _),d _ (fun _ _=>rfl),rfl,?_,?_⟩,?_⟩
  ·intro b off c;have n:MemPlace.cell b off∈a:=by rw[l];simpa using c
   rw[hb.frozen (p:=⟨b,off,none⟩) (q _ n)];exact w b off n
  ·intro x;cases x
  ·intro p c _;rw[l];simpa using c
theorem entry {f:FuncId}{ts:List TypeId}{S:List TypeId}(w:flat P S=true) (q:∀t∈ts,t∈S) {r:Reach}{s:Nat}{args:Array Value}{ds:List (DataW H)}{ps:List MemPlace}
  (d:∀(j:Nat) t v,ts[j]?=some t->args.toList[j]?=some v->Value.okWide P W r s t v) (h:DataW.TrodAll enc P W 0 (fun _=>true) true ts args.toList ds ps) (z:W.noneFrozen ps) (n:fj ds<=1048576)
  (x:sM (qp W)) (law:∀gs,P8 P ts gs->G.aad gs<=1048576->CallsT P f (gs.map zF) [] (iQ [] (.bool true))) :
  Calls P f args W fun e W'=>e=.returned (.bool true)/\Below W.heap.size W W':=by
 obtain⟨gs,y,u,k3⟩:=AH w q d h z (abz n (by decide));have hc:=(law gs y (by omega)).out (qp W) [] args.toList rfl (fun k=>by rw[show(inp []).get k=none from rfl,show(jm []).get k=none from rfl];trivial) u;have m:∀k,(inp []).get k=none:=fun _=>rfl;have l:St (qp W) (inp []) W:=⟨fun b o h=>h,fun k o h=>(by rw[m] at h;cases h),fun k o g h=>(by rw[m] at h;cases h),fun k k' o o' g h=>(by rw[m] at h;cases h),x⟩;refine Calls.mono (hc.run W l) ?_;rintro e W' ⟨v,F',Lo,rfl,hs,a,Mo,c,q1,q2,p,q4,rfl,rfl⟩;simp only[Rel] at p;subst p;exact⟨rfl,a.os,a.tape,a.output,a.size,fun k n=>a.same k n (by rintro⟨_,_,h,_⟩;cases h)⟩
theorem zI {f:FuncId}{fn:Func}{s:ChangeSpec}{S:List TypeId}{tb:TypeId}(hl:laidOutB P=true) (hS:flat P S=true) (w:fn.params.toList.all (fun t=>S.contains t&&(P.readableRec t&&decide (t<P.types.size)))=true)
  (d:fn.resultTypes=#[tb]) (k:P.underlying tb=some .bool) (a:s.vars=[])
  (law:∀gs,P8 P fn.params.toList gs->G.aad gs<=1048576->CallsT P f (gs.map zF) [] (iQ [] (.bool true)))
  {r:Reach}{b0:Nat}{args:Array Value}{ds gs:List (DataW H)}{c:List MemPlace}(h:s.fn H ds={results:=[.lit (.bool true)],args:=ds})
  (m:∀(j:Nat) t v,fn.params[j]?=some t->args[j]?=some v->Value.okWide P W r b0 t v)
  (y:DataW.Whole enc P fn.params.toList s.vars false W args.toList ds gs c) (hk:fj ds<=1048576) (hG:sM (qp W):=by exact trivial) :
  Calls P f args W fun e W'=>∃v,e=.returned v/\s.post enc P fn false true false false W args v W':=by
 have l:=y;rw[a] at y;obtain⟨p,q,hA,hV,rfl,aa,ao⟩:=y;obtain⟨rfl,rfl⟩:=trodVars_none hV;have u:=aaZ.1 w;refine(entry hS (fun t ht=>by have:=u t ht;simp only[xo,List.contains_iff_mem] at this;exact this.1) (fun j t v h1 h2=>m j t v (by simpa using h1) (by simpa using h2)) hA (fun b o w=>aa b o (List.mem_append_left _ w)) hk hG law).mono ?_;rintro e W' ⟨rfl,hb⟩;refine⟨_,rfl,zH (pa:=p) (pv:=[]) l ?_ ?_ ?_ rfl hb (ok_one d rfl (okWide_bool_mk k _))⟩
 ·intro b sp hd;simp only[aaU,h,d];exact trodAll_cons_mk (shut_bool k _) trodAll_mk0
 ·intro sp n;simp only[aaU,h];exact zG hl (aaZ.2 fun t ht=>by have:=u t ht;simp only[xo] at this ⊢;exact this.2) hb hA (fun x z=>l.lt x (by simp[z])) (fun x z=>n x (by simp[z]))
 ·intro sp n;rw[a];simp only[aaU,h];exact rfl
end
end Go.Fr.T
namespace Go.Fr.T
open Go Go.RowKit Go.Fr Go.Fr.Api
def bG (b:UInt8):G:=.int .u8 b.toNat
def Vi (P:Program) (t:TypeId) (k:IntKind):Bool:=match P.underlying t with | some (.int k')=>decide (k'=k) | _=>false
def YP (P:Program) (t:TypeId):Bool:=match P.underlying t with | some .bool=>true | _=>false
theorem K1 {P:Program}{t:TypeId}{k:IntKind}(h:Vi P t k=true) {n:Nat}{g:G}(a:Ok P n t g):∃x,g=.int k x/\(Lit.int k x).wf=true:=by
 simp only[Vi] at h;split at h
 ·rename_i c b;have e:=aa4 h;subst e;cases n with
  | zero=>exact a.elim
  | succ n=>simp only[Ok,b] at a;exact a
 ·cases h
theorem rf {P:Program}{t:TypeId}(h:YP P t=true) {n:Nat}{g:G}(a:Ok P n t g):∃x,g=.bool x:=by
 simp only[YP] at h;split at h
 ·rename_i b;exact OD b a
 ·cases h
theorem TI {P:Program}{t:TypeId}(h:Vi P t .u8=true) {n:Nat}{g:G}(c:Ok P n t g):∃b:UInt8,g=bG b:=by
 obtain⟨x,rfl,a⟩:=K1 h c;simp only[Lit.wf,xo,abo] at a;have d:0<=x:=a.1;have e:x<=255:=a.2;refine⟨UInt8.ofNat x.toNat,?_⟩;simp only[bG,UInt8.toNat_ofNat'];congr 1;omega
theorem K2 {P:Program}{t:TypeId}(h:Vi P t .u16=true) {n:Nat}{g:G}(b:Ok P n t g):∃x:Int,g=.int .u16 x/\0<=x/\x<=65535:=by
 obtain⟨x,rfl,a⟩:=K1 h b;simp only[Lit.wf,xo,abo] at a;exact⟨x,rfl,a.1,a.2⟩
theorem OH (b:UInt8):zF (bG b)=gR b:=rfl
theorem uN {P:Program}{t:TypeId}{ts:List TypeId}{gs:List G}(h:P8 P (t::ts) gs):∃g r n,gs=g::r/\Ok P n t g/\P8 P ts r:=by
 cases gs with
 | nil=>exact h.elim
 | cons g r=>obtain⟨⟨n,a⟩,b⟩:=h;exact⟨g,r,n,rfl,a,b⟩
theorem OI {P:Program}{gs:List G}(h:P8 P [] gs):gs=[]:=by
 cases gs with
 | nil=>rfl
 | cons g r=>exact h.elim
end Go.Fr.T
namespace Go.Fr.T
open Go Go.RowKit Go.Fr
def vK:List TO->List TO->Bool
 | [],[]=>true
 | .row _ sz _::l,.row _ b _::m=>match Nat.beq sz b with | true=>vK l m | false=>false
 | .box _ _::l,.box _ _::m=>vK l m
 | .map _::l,.map _::m=>vK l m
 | .win _ _ _ _::l,.win _ _ _ _::m=>vK l m
 | _,_=>false
structure Xf (j:Nat) (c0:C) (Lin:List TO) (L:TL) (ρ:aV) (v:C) (R:List TO->C->Prop):Prop where
 out:∃Mo,L.sub (List.range' 1000 Lin.length)=some Mo/\ρ j=c0/\vK Lin Mo=true/\(tL [v]->R (Mo.map (TO.aag (C.ren (bZ (List.range' 1000 Lin.length) 1000)))) (v.aar.ren (bZ (List.range' 1000 Lin.length) 1000)))
section
variable {P:Program}{G:Nat->Option (Nat×TypeId)}{F:aD}{L:Loc}{ρ:Env}{M:TL}{τ:aV}{a:Act}{w:World}
end
section
variable {P:Program}{L:TL}{ρ:aV}
theorem tH (ks:List Nat) {f:Nat}{args b:List C}{K:TL->aV->C->Prop}{x:C}{Lin Lin' Lo:List TO}(h:wM P f b Lin' (iQ Lo x)) (e:L.sub ks=some Lin) (l:bJ ks=true)
  (n:(args.map fun c=>c.aaj.ren (bZ ks 1000))=b) (o:Lin.map (TO.aag (C.ren (bZ ks 1000)))=Lin') (d:ks.length=Lo.length)
  (k:K ((L.aaf ks).puts ks (Lo.map (TO.aag (C.ren (aZ ks))))) ρ (x.ren (aZ ks)).slt):Bz P f args L ρ K:=by
 subst n o;exact .inpl ks Lin _ e l h fun v Mo ⟨m,j⟩ _ _=>by subst m j;exact⟨d,k⟩
theorem yL {j:Nat}{b:C}{Lin Mo Lo:List TO}{v x:C}(d:L.sub (List.range' 1000 Lin.length)=some Mo) (f:ρ j=b) (h:vK Lin Mo=true) (c:Mo.map (TO.aag (C.ren (bZ (List.range' 1000 Lin.length) 1000)))=Lo) (e:v.aar.ren (bZ (List.range' 1000 Lin.length) 1000)=x) :
  Xf j b Lin L ρ v (iQ Lo x):=⟨Mo,d,f,h,fun _=>⟨c,e⟩⟩
end
theorem wU {Li Li':List Own}(hb:Li.map Own.blk=Li'.map Own.blk) {k:Nat}{o:Own}(h:(inp Li').get k=some o):∃o',(inp Li).get k=some o'/\o'.blk=o.blk:=by
 rw[aX] at h ⊢;split at h
 ·rename_i b;rw[eu b];have a:(Li'.map Own.blk)[k-1000]?=some o.blk:=by rw[abr,h];rfl
  rw[<-hb,abr] at a;cases e:Li[k-1000]? with
  | none=>rw[e] at a;cases a
  | some o'=>rw[e] at a;injection a with a;exact⟨o',rfl,a⟩
 ·cases h
theorem St.swap {F:aD}{w:World}{Li Li':List Own}(hb:Li.map Own.blk=Li'.map Own.blk) (p:∀o∈Li',o.ok w) (a:St F (inp Li) w):St F (inp Li') w:=by
 refine⟨a.frz,fun k o h=>?_,fun k o g h e=>?_,fun k q o o' g h m e j=>?_,a.glob⟩
 ·rw[aX] at h;split at h
  ·exact p o (aaQ h)
  ·cases h
 ·obtain⟨c,d,b⟩:=wU hb h;exact a.off k c g d (b.trans e)
 ·obtain⟨c,d,b⟩:=wU hb h;obtain⟨l,n,f⟩:=wU hb m;exact a.sep k q c l g d n (b.trans e) (f.trans j)
theorem rU {Li Li':List Own}(hb:Li.map Own.blk=Li'.map Own.blk) {b:Nat}(h:(inp Li').owns b):(inp Li).owns b:=by
 obtain⟨k,o,a,d⟩:=h;obtain⟨o',e,c⟩:=wU hb a;exact⟨k,o',e,c.trans d⟩
theorem Step.swap {F F':aD}{w w':World}{Li Li' Lo Lo':List Own}(hb:Li.map Own.blk=Li'.map Own.blk) (d:Lo.map Own.blk=Lo'.map Own.blk) (h:Step F (inp Li) w F' (inp Lo) w'):Step F (inp Li') w F' (inp Lo') w' :=
 ⟨h.le,h.os,h.tape,h.output,h.size,fun b a c=>h.same b a fun q=>c (rU hb.symm q),fun b c=>(h.frz b c).imp id (Or.imp (rU hb.symm) id),fun b q=>(h.own b (rU d q)).imp (rU hb.symm) id⟩
theorem OJ {w:World}{g m cap t sz:Nat}{xs:List Value}(n:t≠0) (h:Own.ok w (.row (.slice (some ⟨g,0,none⟩) m cap) t sz m xs)):∃a,Own.ok w (.box g t (xs++a))/\xs.length+a.length=cap*sz/\m<=cap/\cap<=maxLen:=by
 obtain⟨r,l | ⟨p,c,b,e,q,k,o,j,f,d⟩⟩:=h
 ·cases l.1
 ·injection e with e1 e2 e3
  injection e1 with e1
  injection e1 with e1
  subst e1 e3;refine⟨b.toList.drop (m*sz),?_,?_,o,j⟩
  ·show w.heap[g]?=some (lT t _);rw[ij n,k,<-d,List.take_append_drop]
  ·rw[<-d,<-yo,List.take_append_drop,Array.length_toList,f]
theorem OL {w:World}{g m cap t sz:Nat}{b a:List Value}(e:t≠0) (c:b.length=m*sz) (j:m<=cap) (f:cap<=maxLen) (d:b.length+a.length=cap*sz) (h:Own.ok w (.box g t (b++a))):Own.ok w (.row (.slice (some ⟨g,0,none⟩) m cap) t sz m b):=by
 have h:w.heap[g]?=some (lT t (b++a)):=h;rw[ij e] at h;refine⟨c,.inr ⟨g,cap,_,rfl,abk _,h,j,f,by simpa using d,?_⟩⟩;simp[<-c]
theorem aF.split {F:aD}{L:Loc}:∀{cs ds:List C}{vs:List Value},aF F L (cs++ds) vs->∃us a,vs=us++a/\aF F L cs us/\aF F L ds a
 | [],ds,vs,h=>⟨[],vs,rfl,by simp only[aF],h⟩
 | c::cs,ds,vs,h=>by
  simp only[aaT,aF] at h;obtain⟨v,b,rfl,d,f⟩:=h;obtain⟨us,a,rfl,j,e⟩:=aF.split f;exact⟨v::us,a,rfl,by simp only[aF];exact⟨_,_,rfl,d,j⟩,e⟩
theorem aN.flat {F:aD}{L:Loc}{sz:Nat}:∀{els:List (List C)}{xs:List Value},aN F sz els xs->aF F L els.flatten xs/\xs.length=els.length*sz
 | [],xs,h=>by
  simp only[aN] at h;subst h;exact⟨by simp only[List.flatten_nil,aF],by simp⟩
 | es::l,xs,h=>by
  simp only[aN] at h;obtain⟨vs,f,rfl,a,j,c,b⟩:=h;obtain⟨e,d⟩:=aN.flat (L:=L) b;refine⟨by rw[List.flatten_cons];exact c.lift.append e,?_⟩;rw[yo,a,d,aaV,Nat.add_mul];omega
theorem aN.of_flat {F:aD}{L:Loc}{sz:Nat}:∀{els:List (List C)}{xs:List Value},(∀es∈els,es.length=sz/\dJ es=true/\dP es=true)->aF F L els.flatten xs->aN F sz els xs
 | [],xs,a,h=>by
  simp only[List.flatten_nil,aF] at h;simp only[aN];exact h
 | es::l,xs,a,h=>by
  rw[List.flatten_cons] at h;obtain⟨us,j,rfl,b,d⟩:=aF.split h;obtain⟨k,f,c⟩:=a es (by simp);simp only[aN];exact⟨us,j,rfl,by rw[b.len,k],f,eI c b,aN.of_flat (fun e m=>a e (by simp[m])) d⟩
theorem AJ {F:aD}{L:Loc}:∀(vs:List Value),aF F L (List.replicate vs.length .any) vs
 | []=>by simp only[abb,List.replicate_zero,aF]
 | v::vs=>by
  simp only[aaV,abB,aF,Rel];exact⟨v,vs,rfl,trivial,AJ vs⟩
def sK (k sz:Nat):C->C
 | .elr a j off=>match Nat.beq a k with | true=>.own a (j*sz+off) | false=>.elr a j off
 | c=>c
def yM:TO->Bool
 | .box _ cs=>dP cs
 | .win _ _ _ _=>false
 | _=>true
theorem Im {F:aD}{L L':Loc}:∀{o:TO}{p:Own},yM o=true->cZ F L o p->cZ F L' o p
 | .box t cs,.box g b vs,a,r=>⟨r.1,eI a r.2⟩
 | .row t sz els,.row v b c n xs,_,r=>r
 | .box _ _,.row ..,_,r=>r.elim
 | .row ..,.box ..,_,r=>r.elim
 | .map _,.row ..,_,r=>r.elim
 | .map es,.box g b vs,_,r=>r
 | .win ..,.row ..,_,r=>r.elim
 | .win ..,.box ..,a,r=>by simp[yM] at a
theorem yN {F:aD}{LA:List Own}{A:List TO}{o c:Own}{x d:TO}(e:LA.length=A.length) (j:∀y∈A,yM y=true) (h:dc F (inp (LA++[o])) (jm (A++[x]))) (l:cZ F (inp (LA++[c])) d c) :
  dc F (inp (LA++[c])) (jm (A++[d])):=by
 intro k;have b:=h k;rw[cB,aX] at b ⊢;split
 ·rename_i f;rw[eu f,eu f] at b
  by_cases a:k-1000<A.length
  ·rw[aaW a,aaW (by omega)] at b ⊢;rw[v7 a,v7 (by omega:k-1000<LA.length)] at b ⊢;exact Im (j _ (List.getElem_mem _)) b
  ·by_cases m:k-1000=A.length
   ·rw[aa2 (by omega),aa2 (by omega),m,e];simp only[e,Nat.sub_self,aa0];exact l
   ·rw[aaY (by simp;omega),aaY (by simp;omega)];trivial
 ·trivial
theorem ri {LB:List Own}{o b p:Own}{k:Nat}(h:(inp (LB++[b])).get k=some p):(inp (LB++[o])).get k=some p\/p=b:=by
 rw[aX] at h ⊢;split at h
 ·rename_i c;rw[eu c]
  by_cases a:k-1000<LB.length
  ·rw[aaW a] at h ⊢;exact .inl h
  ·by_cases d:k-1000=LB.length
   ·rw[aa2 (by omega),d] at h;simp only[Nat.sub_self,aa0,vz] at h;exact .inr h.symm
   ·rw[aaY (by simp;omega)] at h;cases h
 ·cases h
theorem St.aaz {F:aD}{w:World}{LB:List Own}{o:Own}{t sz:Nat}(a:St F (inp (LB++[o])) w):St F (inp (LB++[.row (.slice none 0 0) t sz 0 []])) w:=by
 refine⟨a.frz,fun k p h=>?_,fun k p g h e=>?_,fun k f p d g h b e c=>?_,a.glob⟩
 ·rcases ri (o:=o) h with h | rfl
  ·exact a.own k p h
  ·exact World.ownsRow_nil w 0 t sz
 ·rcases ri (o:=o) h with h | rfl
  ·exact a.off k p g h e
  ·cases e
 ·rcases ri (o:=o) h with h | rfl
  ·rcases ri (o:=o) b with b | rfl
   ·exact a.sep k f p d g h b e c
   ·cases c
  ·cases e
theorem Step.aaz {F F':aD}{w w':World}{L:Loc}{LB:List Own}{o:Own}{t sz:Nat}(h:Step F L w F' (inp (LB++[o])) w'):Step F L w F' (inp (LB++[.row (.slice none 0 0) t sz 0 []])) w' :=
 ⟨h.le,h.os,h.tape,h.output,h.size,h.same,h.frz,fun b ⟨k,p,a,c⟩=>by
  rcases ri (o:=o) a with a | rfl
  ·exact h.own b ⟨k,p,a,c⟩
  ·cases c⟩
theorem CallsTX.elem {P:Program}{f:Nat}{args:List C}{A:List TO}{t sz:Nat}{els:List (List C)}{R:Nat->List TO->C->Prop}{R':List TO->C->Prop}{Pp:Value->Prop}(he:ni P f) (ae:Mn t=true) (hA:∀o∈A,yM o=true) (cY:∀o∈A,∃t cs,o=.box t cs)
  (aw:∀c∈args,(∃j off,c=.elr (1000+A.length) j off)\/(c.kill (1000+A.length)=c/\sK (1000+A.length) sz c=c)) (cd:∃j off,.elr (1000+A.length) j off∈args)
  (h:∀m,CallsTX P f (args.map (sK (1000+A.length) sz)) (A++[.box t (els.flatten++List.replicate m .any)]) (R m) Pp)
  (hR:∀m Mo c,R m Mo c->∃A' b,Mo=A'++[.box t (b.flatten++List.replicate m .any)]/\A'.length=A.length/\b.length=els.length/\(∀es∈b,es.length=sz/\dJ es=true/\dP es=true)/\(∀o∈A',yM o=true) /\
   (∀(F:aD) (L L':Loc) v,Rel F L c v->Rel F L' c v)/\R' (A'++[.row t sz b]) c):lp P f args (A++[.row t sz els]) R' Pp:=by
 have ht:t≠0:=by
  intro e;subst e;cases ae
 have co:t<1048576:=by
  simp only[Mn] at ae;split at ae
  ·cases ae
  ·have:=aa1 ae;omega
 refine⟨fun F Li vs hl av hr=>?_⟩;obtain⟨LA,o,rfl⟩:∃LA o,Li=LA++[o]:=by
  have hn:Li≠[]:=by intro e;rw[e] at hl;simp at hl
  exact⟨Li.dropLast,Li.getLast hn,(List.dropLast_concat_getLast hn).symm⟩
 have u:LA.length=A.length:=by simpa using hl
 have x:∀o,(inp (LA++[o])).get (1000+A.length)=some o:=fun o=>by
  rw[aX,eu (by omega),show 1000+A.length-1000=A.length by omega,aa2 (by omega),u];simp
 have l:=av (1000+A.length);rw[x,cB,eu (by omega),show 1000+A.length-1000=A.length by omega,aa2 (by omega)] at l;simp only[Nat.sub_self,aa0] at l;cases o with
 | box g t' cs=>exact l.elim
 | row v0 t' em n xs =>
  obtain⟨rfl,rfl,hn,bu,ar⟩:=l;obtain⟨j,off,hm⟩:=cd;obtain⟨i,hi⟩:=List.getElem?_of_mem hm;obtain⟨bs,cb⟩:=jU.1 hr;have bl:i<vs.length:=by rw[bs];exact(w7.1 hi).1
  have y:=cb i _ _ hi (v7 bl);simp only[Rel] at y;obtain⟨ad,t2,cl,n2,c2,cw,dt,q⟩:=y;rw[x] at q;injection q with q
  injection q with e1 e2 e3 e4 e5
  subst e1 e2 e3 e4 e5;refine⟨he,fun F G L v cX r=>⟨gW.aao _ _ _ _ cX r.1,r.2⟩,fun w hs=>?_⟩;have bb:Own.ok w (.row (.slice (some ad) n c2) t sz n xs):=hs.own _ _ (x _);have cr:∃g,ad=⟨g,0,none⟩:=by
   obtain⟨h1,h2 | ⟨g,cap,du,e,_⟩⟩:=id bb
   ·cases h2.1
   ·injection e with e1 e2 e3
    injection e1 with e1
    exact⟨g,e1⟩
  obtain⟨g,rfl⟩:=cr;obtain⟨a,az,bx,db,da⟩:=OJ ht bb;obtain⟨q1,q2⟩:=aN.flat (L:=inp (LA++[.box g t (xs++a)])) ar;have z:(LA++[Own.row (.slice (some ⟨g,0,none⟩) n c2) t sz n xs]).map Own.blk=(LA++[Own.box g t (xs++a)]).map Own.blk:=by simp[Own.blk,Value.ownBlock]
  have bv:St F (inp (LA++[.box g t (xs++a)])) w:=St.swap z (fun o l=>by
   rcases w8.1 l with l | l
   ·obtain⟨i,hi⟩:=List.getElem?_of_mem l;have p:=(w7.1 hi).1;exact hs.own (1000+i) o (by rw[aX,eu (by omega),show 1000+i-1000=i by omega,aaW p];exact hi)
   ·rw[abu.1 l];exact az) hs
  have ba:dc F (inp (LA++[.box g t (xs++a)])) (jm (A++[.box t (els.flatten++List.replicate a.length .any)])):=yN u hA av ⟨⟨co,.inl rfl,ht⟩,q1.append (AJ a)⟩;have dd:aF F (inp (LA++[.box g t (xs++a)])) (args.map (sK (1000+A.length) sz)) vs:=by
   refine aF.map (fun c hc v hv=>?_) hr;rcases aw c hc with⟨j,off,rfl⟩ | ⟨k1,k2⟩
   ·simp only[Rel] at hv;obtain⟨ad,t2,cl,n2,el,cw,rfl,al⟩:=hv;rw[x] at al;injection al with al
    injection al with e1 e2 e3 e4 e5
    injection e1 with e1 e6 e7
    injection e1 with e1
    subst e1 e3;have:Nat.beq (1000+A.length) (1000+A.length)=true:=Nat.beq_refl _;simp only[sK,this,Rel];exact⟨g,t,_,x _,by rw[ck,Nat.zero_add]⟩
   ·rw[k2,<-k1];refine Rel.mp (kS (k:=1000+A.length) (fun g t cs e=>by rw[x] at e;cases e) (fun j hj o l=>?_) (aD.le_refl F)) 3 hv;refine⟨o,?_,Own.aah o⟩;rw[aX] at l ⊢;split at l
    ·rename_i h1;rw[eu h1]
     by_cases p:j-1000<LA.length
     ·rw[aaW p] at l ⊢;exact l
     ·rw[aaY (by simp;omega)] at l;cases l
    ·cases l
  refine Calls.mono (((h a.length).out F _ vs (by simp[u]) ba dd).run w bv) ?_;rintro e w' (⟨v,F',Lo,rfl,g1,g2,Mo,c',q1,q2,q3,q4,q5⟩ | ⟨v,ch,F',Lo,rfl,hc,g1,g2,g3,g4,g5⟩)
  ·obtain⟨A',b,rfl,l1,l2,p1,p2,p3,p4⟩:=hR _ _ _ q5;obtain⟨LB,o',rfl⟩:∃LB o,Lo=LB++[o]:=by
    have hn:Lo≠[]:=by intro e;rw[e] at q1;simp at q1
    exact⟨Lo.dropLast,Lo.getLast hn,(List.dropLast_concat_getLast hn).symm⟩
   have s:LB.length=A'.length:=by simp at q1;omega
   have be:∀o,(inp (LB++[o])).get (1000+A.length)=some o:=fun o=>by
    rw[aX,eu (by omega),show 1000+A.length-1000=A.length by omega,aa2 (by omega),s,l1];simp
   obtain⟨cs',ax⟩:=q4 A.length g t (xs++a) (by rw[aa2 (by omega),u];simp);rw[aa2 (by omega),s,l1] at ax;simp only[Nat.sub_self,aa0,vz] at ax;subst ax;have hk:=q2 (1000+A.length);rw[be,cB,eu (by omega),show 1000+A.length-1000=A.length by omega,aa2 (by omega),l1] at hk;simp only[Nat.sub_self,aa0] at hk;obtain⟨_,hk⟩:=hk;obtain⟨us,ws,rfl,r1,r2⟩:=aF.split hk;have ac:=aN.of_flat p1 r1;have bc:=(aN.flat (L:=inp []) ac).2;have ct:ws.length=a.length:=by rw[r2.len,abw]
   have cx:=(aN.flat (L:=inp []) ar).2;have bj:n=b.length:=by omega
   have bi:us.length+ws.length=c2*sz:=by rw[bc,ct,l2,<-cx];exact bx
   have aE:Own.ok w' (.row (.slice (some ⟨g,0,none⟩) n c2) t sz n us):=OL ht (by rw[bc,bj]) db da bi (g1.own _ _ (be _));have ab:(LB++[Own.box g t (us++ws)]).map Own.blk=(LB++[Own.row (.slice (some ⟨g,0,none⟩) n c2) t sz n us]).map Own.blk:=by simp[Own.blk,Value.ownBlock]
   have ay:cZ F' (inp (LB++[.row (.slice (some ⟨g,0,none⟩) n c2) t sz n us])) (.row t sz b) (.row (.slice (some ⟨g,0,none⟩) n c2) t sz n us):=⟨rfl,rfl,bj,⟨bu.1,_,_,rfl,fun e=>by cases e⟩,ac⟩;refine .inl ⟨v,F',LB++[.row (.slice (some ⟨g,0,none⟩) n c2) t sz n us],rfl,St.swap ab (fun o l=>?_) g1,Step.swap z.symm ab g2,⟨A'++[.row t sz b],c',by simp[s],yN s p2 q2 ay,p3 _ _ _ _ q3,fun i g0 t0 aa d=>?_,p4⟩,by simp[s,l1,u],fun i o0 d=>?_⟩
   ·rcases w8.1 l with l | l
    ·obtain⟨i,hi⟩:=List.getElem?_of_mem l;have p:=(w7.1 hi).1;exact g1.own (1000+i) o (by rw[aX,eu (by omega),show 1000+i-1000=i by omega,aaW p];exact hi)
    ·rw[abu.1 l];exact aE
   ·by_cases p:i<A.length
    ·rw[aaW (by omega)] at d;obtain⟨an,h1⟩:=q4 i g0 t0 aa (by rw[aaW (by omega)];exact d);rw[aaW (by omega)] at h1 ⊢;exact⟨an,h1⟩
    ·exfalso;rw[aa2 (by omega)] at d
     by_cases he:i=A.length
     ·rw[he,u] at d;simp at d
     ·rw[aaY (by simp;omega)] at d;cases d
   ·by_cases p:i<A.length
    ·rw[aaW (by omega)] at d;obtain⟨tb,ds,cf⟩:=cY A[i] (List.getElem_mem _);have y:=av (1000+i);rw[aX,cB,eu (by omega),eu (by omega),show 1000+i-1000=i by omega,aaW (by omega),aaW (by omega),d,v7 p,cf] at y;cases o0 with
     | row=>exact y.elim
     | box g0 t0 aa =>
      obtain⟨an,h1⟩:=q4 i g0 t0 aa (by rw[aaW (by omega)];exact d);rw[aaW (by omega)] at h1 ⊢;exact⟨_,h1,rfl,rfl⟩
    ·rw[aa2 (by omega)] at d
     by_cases he:i=A.length
     ·rw[he,u] at d;simp at d;subst d;exact⟨.row (.slice (some ⟨g,0,none⟩) n c2) t sz n us,by rw[he,aa2 (by omega),s,l1];simp,rfl,rfl,rfl⟩
     ·rw[aaY (by simp;omega)] at d;cases d
  ·obtain⟨LB,o',rfl⟩:∃LB o,Lo=LB++[o]:=by
    have hn:Lo≠[]:=by intro e;rw[e] at g3;simp at g3
    exact⟨Lo.dropLast,Lo.getLast hn,(List.dropLast_concat_getLast hn).symm⟩
   have s:LB.length=LA.length:=by simpa using g3
   refine .inr ⟨v,ch,F',LB++[.row (.slice none 0 0) t sz 0 []],rfl,hc,St.aaz g1,Step.aaz (Step.swap z.symm rfl g2),by simp[s],fun i g0 t0 aa d=>?_,g5⟩
   by_cases p:i<A.length
   ·rw[aaW (by omega)] at d;obtain⟨an,h1⟩:=g4 i g0 t0 aa (by rw[aaW (by omega)];exact d);rw[aaW (by omega)] at h1 ⊢;exact⟨an,h1⟩
   ·exfalso;rw[aa2 (by omega)] at d
    by_cases he:i=A.length
    ·rw[he,u] at d;simp at d
    ·rw[aaY (by simp;omega)] at d;cases d
theorem lp.toX {P:Program}{f:Nat}{args:List C}{Lin:List TO}{R:List TO->C->Prop}{Pp:Value->Prop}(h:lp P f args Lin R Pp):CallsTX P f args Lin R Pp :=
 ⟨fun F Li vs m d l=>let q:=h.out F Li vs m d l
  ⟨q.ent,fun F G L v a r=>gW.aao _ _ _ _ a r,fun w b=>(q.run w b).mono fun _ _ k=>k.imp (fun⟨v,F',Lo,j,c,n,e⟩=>⟨v,F',Lo,j,c,n,e.1⟩) id⟩⟩
theorem ow {P:Program}{L:TL}{ρ:aV}(ks:List Nat) {PS:qw}{Pp:Value->Prop}{f:Nat}{args a:List C}{K:TL->aV->C->Prop}{R:List TO->C->Prop}{Lin Lin':List TO}(h:lp P f a Lin' R Pp) (b:L.sub ks=some Lin) (e:bJ ks=true)
  (l:(args.map fun c=>c.aaj.ren (bZ ks 1000))=a) (m:Lin.map (TO.aag (C.ren (bZ ks 1000)))=Lin') (j:∀v,Pp v->PS.ps v)
  (k:∀v Mo,R Mo v->Wf v->(∀o∈Mo,o.Wf)->ks.length=Mo.length/\K ((L.aaf ks).puts ks (Mo.map (TO.aag (C.ren (aZ ks))))) ρ (v.ren (aZ ks)).slt) (d:lW L ks PS.hb=true:=by rfl):pR P PS f args L ρ K:=by
 subst l m;exact .inpl ks Lin R Pp b e d h j k
def vw (l a:List TO):Prop:=l.length=a.length/\∀(i:Nat) (o o':TO),l[i]?=some o->a[i]?=some o'->∀(F:aD) (L:Loc) (p:Own),cZ F L o p->cZ F L o' p
theorem vw.refl (l:List TO):vw l l:=⟨rfl,fun i o o' b a F L p r=>by rw[b] at a;injection a with a;subst a;exact r⟩
theorem vw.cons {o o':TO}{l e:List TO}(h:∀(F:aD) (L:Loc) (p:Own),cZ F L o p->cZ F L o' p) (k:vw l e):vw (o::l) (o'::e) :=
 ⟨by simp[k.1],fun i a b c d=>by
  cases i with
  | zero=>simp only[aa0,vz] at c d;subst c d;exact h
  | succ i=>exact k.2 i a b (by simpa using c) (by simpa using d)⟩
theorem vw.same {o:TO}{l a:List TO}(k:vw l a):vw (o::l) (o::a):=.cons (fun _ _ _ r=>r) k
theorem vw.tl {F:aD}{Li:List Own}{l d:List TO}(h:vw l d) (r:dc F (inp Li) (jm l)):dc F (inp Li) (jm d):=by
 intro k;have b:=r k;rw[cB,aX] at b ⊢;split
 ·rename_i f;rw[eu f,eu f] at b
  by_cases c:k-1000<l.length
  ·have a:k-1000<d.length:=by rw[<-h.1];exact c
   rw[v7 c] at b;rw[v7 a];cases e:Li[k-1000]? with
   | none=>rw[e] at b;exact b.elim
   | some p =>
    rw[e] at b;exact h.2 _ _ _ (v7 c) (v7 a) _ _ _ b
  ·have a:¬k-1000<d.length:=by rw[<-h.1];exact c
   rw[aaY (by omega)] at b;rw[aaY (by omega)];cases e:Li[k-1000]? with
   | none=>trivial
   | some p=>rw[e] at b;exact b.elim
 ·trivial
theorem gW.view {Li:List Own}{R R':List TO->C->Prop}(a:∀Mo c,R Mo c->∃Mo',vw Mo Mo'/\R' Mo' c) {F:aD}{Lo:List Own}{v:Value}(h:gW Li R F Lo v):gW Li R' F Lo v:=by
 obtain⟨Mo,c,k,l,d,f,j⟩:=h;obtain⟨Mo',b,e⟩:=a Mo c j;exact⟨Mo',c,by rw[<-b.1,k],b.tl l,d,f,e⟩
theorem CallsTX.view {P:Program}{f:Nat}{args:List C}{Lin Lin':List TO}{R R':List TO->C->Prop}{Pp Pp':Value->Prop}(h:CallsTX P f args Lin R Pp) (a:vw Lin' Lin) (b:∀Mo c,R Mo c->∃Mo',vw Mo Mo'/\R' Mo' c) (s:∀v,Pp v->Pp' v) :
  CallsTX P f args Lin' R' Pp' :=
 ⟨fun F Li vs y p u=>let q:=h.out F Li vs (by rw[y,a.1]) (a.tl p) u
  ⟨q.ent,fun F G L v l r=>gW.aao _ _ _ _ l r,fun w n=>(q.run w n).mono fun _ _ k=>k.imp (fun⟨v,F',Lo,j,d,m,e⟩=>⟨v,F',Lo,j,d,m,gW.view b e⟩) fun⟨v,t,F',Lo,j,d,m,e,o,z,x⟩=>⟨v,t,F',Lo,j,d,m,e,o,z,s v x⟩⟩⟩
theorem CallsTX.imp {P:Program}{f:Nat}{args:List C}{Lin:List TO}{R R':List TO->C->Prop}{Pp Pp':Value->Prop}(h:CallsTX P f args Lin R Pp) (a:∀Mo c,R Mo c->R' Mo c) (b:∀v,Pp v->Pp' v):CallsTX P f args Lin R' Pp' :=
 h.view (vw.refl _) (fun Mo c r=>⟨Mo,vw.refl _,a Mo c r⟩) b
def cq (l:List C):Prop:=∀c∈l,c.pure=true\/c=.any
theorem cq.rel {F:aD}{L L':Loc}:∀{l:List C}{vs:List Value},cq l->aF F L l vs->aF F L' l vs
 | [],vs,_,h=>by simp only[aF] at h ⊢;exact h
 | c::l,vs,hi,h=>by
  simp only[aF] at h ⊢;obtain⟨v,a,rfl,k,b⟩:=h;refine⟨v,a,rfl,?_,cq.rel (fun c j=>hi c (by simp[j])) b⟩;rcases hi c (by simp) with d | rfl
  ·have:=eI (L':=L') (cs:=[c]) (vs:=[v]) (by simp only[dP,d]) (by simp only[aF];exact⟨v,[],rfl,k,rfl⟩);simp only[aF] at this;obtain⟨u,us,e,f,_⟩:=this;injection e with e
   rw[e];exact f
  ·simp only[Rel]
theorem cq.append {l m:List C}(h:cq l) (k:cq m):cq (l++m):=fun c a=>by
 rcases w8.1 a with a | a
 ·exact h c a
 ·exact k c a
theorem cq.set {l:List C}{o:Nat}{c:C}(h:cq l) (b:c.pure=true):cq (l.set o c):=fun d a=>by
 rcases List.mem_or_eq_of_mem_set a with a | rfl
 ·exact h d a
 ·exact .inl b
theorem cq.take {l:List C}(h:cq l) (n:Nat):cq (l.take n):=fun c a=>h c (List.mem_of_mem_take a)
theorem cq.drop {l:List C}(h:cq l) (n:Nat):cq (l.drop n):=fun c a=>h c (List.mem_of_mem_drop a)
theorem aR {l:List C}(h:dP l=true):cq l:=fun c a=>.inl (pQ.1 h c a)
theorem AK (n:Nat):cq (List.replicate n .any):=fun c a=>.inr (List.eq_of_mem_replicate a)
theorem nW {t:TypeId}{pre cs post pre' cs' post':List C}(h:pre++(cs++post)=pre'++(cs'++post')) (u:cq pre') (d:cq post') (F:aD) (L:Loc) (p:Own) (r:cZ F L (.win t pre cs post) p):cZ F L (.win t pre' cs' post') p:=by
 cases p with
 | row=>exact r.elim
 | box g w vs =>
  obtain⟨s,v1,c,v3,rfl,l,j,o⟩:=r;have b:aF F L (pre++(cs++post)) (v1++(c++v3)):=l.lift.append (j.append o.lift);rw[h] at b;obtain⟨n,m,e,v,a⟩:=aF.split b;obtain⟨k,q,rfl,a,f⟩:=aF.split a;exact⟨s,n,k,q,e,u.rel v,a,d.rel f⟩
theorem wV {t:TypeId}{cs pre' cs' post':List C}(h:cs=pre'++(cs'++post')) (m:cq pre') (c:cq post') (F:aD) (L:Loc) (p:Own) (r:cZ F L (.box t cs) p):cZ F L (.win t pre' cs' post') p:=by
 cases p with
 | row=>exact r.elim
 | box g o vs =>
  obtain⟨l,b⟩:=r;rw[h] at b;obtain⟨j,f,rfl,n,a⟩:=aF.split b;obtain⟨e,k,rfl,a,d⟩:=aF.split a;exact⟨l,j,e,k,rfl,m.rel n,a,c.rel d⟩
theorem Ch {t:TypeId}{cs pre' cs' post':List C}(h:cs=pre'++(cs'++post')) (F:aD) (L:Loc) (p:Own) (r:cZ F L (.win t pre' cs' post') p):cZ F L (.box t cs) p:=by
 cases p with
 | row=>exact r.elim
 | box g f vs =>
  obtain⟨d,v1,e,v3,rfl,b,a,c⟩:=r;subst h;exact⟨d,b.lift.append (a.append c.lift)⟩
theorem wh {sz:Nat}:∀{l:List (List C)},(∀es∈l,es.length=sz)->l.flatten.length=l.length*sz
 | [],_=>by simp
 | es::l,h=>by
  rw[List.flatten_cons,yo,h es (by simp),wh (fun e a=>h e (by simp[a])),aaV,Nat.add_mul];omega
theorem yO {l:List (List C)}{j:Nat}{es:List C}(h:l[j]?=some es):l.flatten=(l.take j).flatten++(es++(l.drop (j+1)).flatten):=by
 have a:=(w7.1 h).1;have b:=(w7.1 h).2
 conv=>lhs;rw[<-List.take_append_drop j l,List.flatten_append,abD a,List.flatten_cons,b]
theorem DT {l:List (List C)}{j:Nat}{es es':List C}(h:l[j]?=some es):(l.set j es').flatten=(l.take j).flatten++(es'++(l.drop (j+1)).flatten):=by
 have a:=(w7.1 h).1;have b:(l.set j es')[j]?=some es':=by simp[a]
 rw[yO b,List.take_set_of_le (aa7 j),List.drop_set_of_lt (by omega)]
theorem CallsTX.aaK {P:Program}{f:Nat}{fi ca:List C}{n:C}{A:TO}{t sz j:Nat}{els:List (List C)}{es:List C}{R:TO->List C->C->Prop}{Pp:Value->Prop}(b:ni P f) (ab:Mn t=true) (hA:yM A=true) (z:∃t cs,A=.box t cs)
  (d:∀c∈fi++n::ca,c.kill 1001=c/\sK 1001 sz c=c) (hj:els[j]?=some es) (k:∀e∈els,e.length=sz/\dJ e=true/\dP e=true)
  (h:∀pre post,cq pre->cq post->CallsTX P f (fi++n::.own 1001 pre.length::ca) [A,.win t pre es post] (fun Mo c=>∃A' es',Mo=[A',.win t pre es' post]/\R A' es' c) Pp)
  (hR:∀A' es' c,R A' es' c->es'.length=sz/\dJ es'=true/\dP es'=true/\yM A'=true/\∀(F:aD) (L L':Loc) v,Rel F L c v->Rel F L' c v) :
  lp P f (fi++n::.elr 1001 j 0::ca) [A,.row t sz els] (fun Mo c=>∃A' es',Mo=[A',.row t sz (els.set j es')]/\R A' es' c) Pp:=by
 have an:=(w7.1 hj).1;have x:(els.take j).flatten.length=j*sz:=by
  rw[wh (sz:=sz) (fun e b=>(k e (List.mem_of_mem_take b)).1),aa6,Nat.min_eq_left (by omega)]
 have p:∀l:List (List C),(∀e∈l,e∈els)->cq l.flatten:=fun l hl c a=>by
  obtain⟨e,b,a⟩:=List.mem_flatten.1 a;exact .inl (pQ.1 (k e (hl e b)).2.2 c a)
 have r:=p (els.take j) fun e b=>List.mem_of_mem_take b;have u:∀m,cq ((els.drop (j+1)).flatten++List.replicate m .any):=fun m=>(p _ fun e b=>List.mem_of_mem_drop b).append (AK m);have s:(fi++n::C.elr 1001 j 0::ca).map (sK 1001 sz)=fi++n::.own 1001 (els.take j).flatten.length::ca:=by
  have q:∀l:List C,(∀c∈l,sK 1001 sz c=c)->l.map (sK 1001 sz)=l:=fun l hl=>by
   conv=>rhs;rw[<-List.map_id l]
   exact abH fun c a=>hl c a
  rw[List.map_append,aaS,aaS,q fi (fun c a=>(d c (by simp[a])).2),q ca (fun c a=>(d c (by simp[a])).2),(d n (by simp)).2,x];rfl
 refine CallsTX.elem (A:=[A]) (R:=fun m Mo c=>∃A' es',Mo=[A',.box t ((els.set j es').flatten++List.replicate m .any)]/\R A' es' c) b ab (fun o w=>by rw[abu.1 w];exact hA) (fun o w=>by rw[abu.1 w];exact z) ?_ ⟨j,0,by simp⟩ (fun m=>?_) ?_
 ·intro c a;rcases w8.1 a with a | a
  ·exact .inr (d c (by simp[a]))
  ·rcases xC.1 a with rfl | a
   ·exact .inr (d c (by simp))
   ·rcases xC.1 a with rfl | a
    ·exact .inl ⟨j,0,rfl⟩
    ·exact .inr (d c (by simp[a]))
 ·show CallsTX P f ((fi++n::C.elr 1001 j 0::ca).map (sK 1001 sz)) _ _ Pp;rw[s];refine(h _ _ r (u m)).view (vw.same (vw.cons (wV (by rw[yO hj];simp) r (u m)) (vw.refl []))) ?_ (fun _ h=>h);rintro Mo c ⟨A',es',rfl,y⟩;exact⟨_,vw.same (vw.cons (Ch rfl) (vw.refl [])),A',es',by rw[DT hj];simp,y⟩
 ·rintro m Mo c ⟨A',es',rfl,y⟩;obtain⟨r1,r2,r3,r4,r5⟩:=hR A' es' c y;refine⟨[A'],els.set j es',rfl,rfl,by simp,fun e b=>?_,fun o w=>by rw[abu.1 w];exact r4,r5,A',es',rfl,y⟩;rcases List.mem_or_eq_of_mem_set b with b | rfl
  ·exact k e b
  ·exact⟨r1,r2,r3⟩
end Go.Fr.T
namespace Go.Fr.T
open Go Go.RowKit Go.Fr Go.Fr.Api
theorem OM {l:List G}:zF (.st l)=.agg (nF (.st l)):=by simp only[zF,nF]
theorem rj {a:Sort _}{p:a->Prop}{K:Prop}(h:∃x,p x) (H:∀x,p x->K):K:=h.elim H
theorem eU {a:Type}{l:List a}{k:Nat}{K:Prop}(h:k<l.length) (H:∀x,l[k]?=some x->x∈l->l.drop k=x::l.drop (k+1)->K):K:=H l[k] (v7 h) (List.getElem_mem h) (abD h)
section
variable {P:Program}{L:TL}{ρ:aV}
def Such (p:Prop):List TO->C->Prop:=fun Mo v=>Mo=[]/\∃b,v=.bool b/\(b=true->p)
theorem rm {f:Nat}{args a:List C}{K:TL->aV->C->Prop}{p:Prop}(h:CallsT P f a [] (Such p)) (j:(args.map fun c=>c.aaj.ren (bZ [] 1000))=a) (k:∀b:Bool,(b=true->p)->K L ρ (.bool b)):oZ P f args L ρ K:=by
 subst j;exact .mk ⟨[],[],[],L,[],_,.inl rfl,rfl,rfl,rfl,rfl,rfl,h,fun v Mo ⟨e,b,d,l⟩ m _=>by subst e d;exact⟨rfl,k b l⟩⟩
theorem R6 {f:Nat}{args a:List C}{K:TL->aV->C->Prop}{d:Option Nat}{p:Prop}(h:CallsT P f a [] (Such p)) (l:(args.map fun c=>c.aaj.ren (bZ [] 1000))=a) (k:∀b:Bool,(b=true->p)->K L ρ (.bool b)):s9 P f args L ρ d K:=by
 subst l;exact .frz _ h fun v Mo ⟨j,b,e,m⟩ n=>by subst j e;exact⟨rfl,k b m⟩
theorem hU {Lin:List TO}{v:C}{p:Prop}(b:Bool) (hb:aT Lin (List.range' 1000 Lin.length) []=true) (e:v.aar.ren (bZ [] 1000)=.bool b) (a:b=true->p):o7 Lin L v (Such p) :=
 ⟨[],[],L,v,v,[],rfl,.inl ⟨rfl,rfl⟩,rfl,rfl,hb,fun _=>⟨rfl,b,e,a⟩⟩
end
end Go.Fr.T
namespace Go.Fr.T
open Go Go.RowKit Go.Fr
theorem CallsT.give {P:Program}{f:Nat}{args:List C}{t sz:Nat}{els:List (List C)}(h:CallsT P f args [] (iQ [.row t sz els] (.rw 1000))):CallsT P f args [] (iQ [] (.sl els)):=by
 refine⟨fun F Li vs z p y=>?_⟩;obtain rfl:Li=[]:=List.length_eq_zero_iff.1 z;have q:=h.out F [] vs rfl p y;refine⟨q.ent,gW.aao,fun w r=>Calls.mono (q.run w r) ?_⟩;rintro e w' ⟨v,F',Lo,rfl,l,n,Mo,c,q1,q2,u,q4,rfl,rfl⟩;have m:aH (inp Lo) (fun _=>.v undef) (⟨#[],[]⟩:Act):=by
  refine⟨fun j=>?_,fun j k off e=>(by cases e),fun j a i e=>(by cases e)⟩;simp[conc]
 obtain⟨F2,L2,s,g2,g3,g4,x⟩:=tE (G:=fun _=>none) (k:=1000) l m (τ:=fun _=>.any) ⟨q2,fun j=>trivial,fun k g t e=>(by cases e),l.glob⟩ (show(jm [TO.row t sz els]).get 1000=some (.row t sz els) from rfl);refine⟨v,F2,[],rfl,s.part (fun k o e=>by cases e),?_,[],.sl els,rfl,fun k=>trivial,?_,fun i g t cs e=>(by cases e),rfl,rfl⟩
 ·have d:=n.trans g3;exact⟨d.le,d.os,d.tape,d.output,d.size,d.same,d.frz,fun b ⟨k,o,e,_⟩=>(by cases e)⟩
 ·have:=x u;have e:(C.rw 1000).frz 1000 els=.sl els:=rfl;rw[e] at this;simp only[Rel] at this ⊢;exact this
end Go.Fr.T
namespace Go.Fr
open Go Go.RowKit
def Loc.aap (L L':Loc):Prop:=∃r:Nat->Nat,(∀k o,L'.get k=some o->L.get (r k)=some o\/∃t sz,o=.row (.slice none 0 0) t sz 0 [])/\∀k a,(L'.get k).isSome=true->(L'.get a).isSome=true->r k=r a->k=a
section
variable {F:aD}{L:Loc}{w:World}
theorem St.aap {L':Loc}(a:St F L w) (h:L.aap L'):St F L' w:=by
 obtain⟨r,h,hi⟩:=h;refine⟨a.frz,fun k o e=>?_,fun k o g e hb=>?_,fun k j o o' g e f hb b=>?_,a.glob⟩
 ·rcases h k o e with c | ⟨t,sz,rfl⟩
  ·exact a.own _ o c
  ·exact World.ownsRow_nil w 0 t sz
 ·rcases h k o e with c | ⟨t,sz,rfl⟩
  ·exact a.off _ o g c hb
  ·cases hb
 ·rcases h k o e with c | ⟨t,sz,rfl⟩
  ·rcases h j o' f with d | ⟨m,l,rfl⟩
   ·exact hi k j (by rw[e];rfl) (by rw[f];rfl) (a.sep _ _ o o' g c d hb b)
   ·cases b
  ·cases hb
theorem wj {L':Loc}(h:L.aap L'):Step F L w F L' w:=by
 obtain⟨r,h,hi⟩:=h;exact⟨aD.le_refl F,rfl,rfl,rfl,aa7 _,fun _ _ _=>rfl,fun b h=>.inl h,fun b ⟨k,o,e,hb⟩=>by
  rcases h k o e with a | ⟨t,sz,rfl⟩
  ·exact .inl ⟨_,o,a,hb⟩
  ·cases hb⟩
end
structure OW (body:aD->Loc->Env->cQ->Prop) (asg:List Nat) (F:aD) (L:Loc) (ρ:Env):Prop where
 out:∃(σ:Type) (x0:σ) (Inv:σ->aD->Prop) (ls:List Nat) (lv:σ->List Value) (Lf:σ->Loc) (μ:σ->Nat),
  Inv x0 F/\holds ls ((lv x0).map .v) ρ/\L.aap (Lf x0)/\(∀x,L.keeps (Lf x)) /\
  ∀x F' jk,F.le F'->Inv x F'->Real F' (Lf x)->body F' (Lf x) (puts ls ((lv x).map .v) (ig asg jk ρ)) fun F'' L'' ρ'' =>
   ∃x',Inv x' F''/\holds ls ((lv x').map .v) ρ''/\L''.aap (Lf x')/\μ x'<μ x
def ia (P:Program):aJ->(Nat->cQ)->cQ->cQ->cQ
 | .skip,_,_,N,F,L,ρ=>N F L ρ
 | .reg d,_,_,N,F,L,ρ=>aY P d F L ρ N
 | .regD d,_,_,N,F,L,ρ=>aY P d F L ρ N
 | .regX ss,_,_,N,F,L,ρ=>(∀s∈ss,∀k,uc s=some k->L.get k=none)/\bq P (fun _ _ _=>False) (Bs ss) ss F L ρ N
 | .seq a b,E,R,N,F,L,ρ=>ia P a E R (fun F L ρ=>ia P b E R N F L ρ) F L ρ
 | .cond c a b,E,R,N,F,L,ρ=>match ev ρ c with
  | .v (.bool t)=>xk t (ia P a E R N F L ρ) (ia P b E R N F L ρ)
  | _=>False
 | .block id c,E,R,N,F,L,ρ=>ia P c (fun j=>match Nat.beq j id with | true=>N | false=>E j) R N F L ρ
 | .loop asg c,E,R,_,F,L,ρ=>OW (fun F L ρ K=>ia P c E R K F L ρ) asg F L ρ
 | .exit id,E,_,_,F,L,ρ=>E id F L ρ
 | .ret,_,R,_,F,L,ρ=>R F L ρ
section
variable {P:Program}{Q:Exit->Act->World->Prop}{K:cQ}
theorem DW {ss:List aA}{E:Nat->cQ}{R N:cQ}{F:aD}{L:Loc}{ρ:Env}{a:Act}{w:World}:∀(ks:List Nat),St F L w->aH L ρ a->ia P (zx ks (.regD ss)) E R N F L ρ ->
  ∃F' L' ρ',St F' L' w/\aH L' ρ' a/\Step F L w F' L' w/\aY P ss F' L' ρ' N
 | [],b,d,h=>⟨F,L,ρ,b,d,Step.refl _ _ _,by simpa only[zx,ia] using h⟩
 | k::l,b,d,h=>by
  simp only[zx,ia] at h;have j:aY P ((k::l).map aA.frz++[]) F L ρ (fun F L ρ=>aY P ss F L ρ N):=by simpa only[aaS,aaU] using h
  obtain⟨F1,L1,c,n,f,m,e⟩:=uF (k::l) b d j;simp only[aY] at e;exact⟨F1,L1,c,n,f,m,e⟩
theorem qh {A:cK}:∀(c:Code) {sc:aJ},low P A c=some sc->∀{E:Nat->cQ}{R N:cQ}{F:aD}{L:Loc}{ρ:Env}{a:Act}{w:World},St F L w->aH L ρ a->a.tmps.size=A.n ->
  ia P sc E R N F L ρ->c.wp P (QQ A.n F L w a (cP c) (fun _ _ _=>False) E R N) a w:=by
 intro c
 induction c with
 | skip =>
  intro sc b E R N F L ρ a w q o s d;simp only[low,vz] at b;subst b;exact wp_skip ⟨F,L,ρ,q,o,s,rfl,Step.refl _ _ _,fun _ _=>rfl,d⟩
 | label l =>
  intro sc b E R N F L ρ a w q o s d;simp only[low,vz] at b;subst b;exact wp_label ⟨F,L,ρ,q,o,s,rfl,Step.refl _ _ _,fun _ _=>rfl,d⟩
 | exit id =>
  intro sc b E R N F L ρ a w q o s d;simp only[low,vz] at b;subst b;exact wp_exit ⟨F,L,ρ,q,o,s,rfl,Step.refl _ _ _,fun _ _=>rfl,d⟩
 | ret =>
  intro sc b E R N F L ρ a w q o s d;simp only[low,vz] at b;subst b;exact wp_ret ⟨F,L,ρ,q,o,s,rfl,Step.refl _ _ _,fun _ _=>rfl,d⟩
 | region r dj bj =>
  intro sc b E R N F L ρ a w q o s d;cases bj with
  | false =>
   simp only[low] at b;split at b
   case h_2=>cases b
   rename_i ss cd;injection b with b;subst b
   simp only[ia] at d;exact wp_region (ol _ cd q o s d fun a' w' h=>h)
  | true =>
   simp only[low] at b;split at b
   case h_2=>cases b
   rename_i is cl ss h1 z;split at b
   case h_2 =>
    split at b
    case h_2=>cases b
    rename_i h3;injection b with b;subst b
    simp only[ia] at d;have h4:tY A.ord r=is:=by simp only[tY,h1]
    rw[h4] at z;exact qJ z h3 q o s d.1 d.2 (fun a' w' h=>h) fun v ch a' w' F' L' _ _ _ _ _ _ h=>h.elim
   rename_i h0;split at b
   case h_2=>cases b
   rename_i h3;injection b with b;subst b
   obtain⟨F1,L1,ab,ao,ax,aa,d⟩:=DW _ q o d;have h4:tY A.ord r=is:=by simp only[tY,h1]
   rw[h4] at z;exact s5 z h3 ao ax s d fun a' w' h=>eS.after (asg1:=[]) aa rfl (fun _ _=>rfl) h (fun _ h=>o4 h List.not_mem_nil) (fun _ h=>h)
 | seq x y an am =>
  intro sc b E R N F L ρ a w q o s d;simp only[low] at b;split at b
  case h_2=>cases b
  rename_i h1 z;injection b with b;subst b
  simp only[ia] at d;refine wp_seq (wp_mono (an h1 q o s d) ?_);intro e p w1 m;cases e with
  | normal =>
   obtain⟨F1,L1,ab,g1,g2,g3,g4,g5,g6,g7⟩:=m;refine wp_mono (am z g1 g2 g3 g7) ?_;intro e2 a2 w2 ay;cases e2<;>first
    | exact eS.after g5 g4 g6 ay (fun j h=>w8.2 (.inl h)) (fun j h=>w8.2 (.inr h))
    | exact ay
    | exact(noPan ay).elim
  | exit id=>exact m.mono fun j h=>w8.2 (.inl h)
  | ret=>exact m.mono fun j h=>w8.2 (.inl h)
  | goto l=>exact m
  | panic c=>exact(noPan m).elim
  | outgrown=>exact m
 | cond c x y an am =>
  intro sc b E R N F L ρ a w q o s d;simp only[low] at b;split at b
  case h_2=>cases b
  rename_i h0 h1 z;injection b with b;subst b
  simp only[ia] at d;split at d
  case h_2=>exact d.elim
  rename_i t ht;have hc:a.eval c=.bool t:=by rw[aI h0 o,bH ht]
  refine wp_cond hc ?_;cases t
  ·simp only[xk] at d;refine wp_mono (am z q o s d) ?_;intro e p w1 m;cases e<;>first
    | exact m.mono fun j h=>w8.2 (.inr h)
    | exact(noPan m).elim
    | exact m
  ·simp only[xk] at d;refine wp_mono (an h1 q o s d) ?_;intro e p w1 m;cases e<;>first
    | exact m.mono fun j h=>w8.2 (.inl h)
    | exact(noPan m).elim
    | exact m
 | block id x ih =>
  intro sc b E R N F L ρ a w q o s d;simp only[low] at b;split at b
  case h_2=>cases b
  rename_i h1;injection b with b;subst b
  simp only[ia] at d;refine wp_block (wp_mono (ih h1 q o s d) ?_);intro e p w1 m;cases e with
  | exit j =>
   simp only[Exit.inBlock];simp only[QQ] at m
   by_cases hj:j=id
   ·subst hj;have hb:Nat.beq j j=true:=by simp
    rw[hb] at m;rw[eu rfl];exact m
   ·have hb:Nat.beq j id=false:=by
     cases h:Nat.beq j id with
     | true=>exact o4 (vv h) hj
     | false=>rfl
    rw[hb] at m;rw[o6 hj];exact m
  | normal=>exact m
  | ret=>exact m
  | goto l=>exact m
  | panic c=>exact(noPan m).elim
  | outgrown=>exact m
 | loop x ih =>
  intro sc b E R N F L ρ a w q o s d;simp only[low] at b;split at b
  case h_2=>cases b
  rename_i sx h1;injection b with b;subst b
  simp only[ia] at d;obtain⟨σ,x0,Inv,ls,lv,Lf,μ,i0,i1,i2,i3,i4⟩:=d
  -- the frame at a loop's ac
  have ac:∀(y:σ) (F1:aD) (L1:Loc) (ab:Env) (p:Act) (w1:World),(∀t,p.tmps.getD t undef=conc L1 (ab t))->(∀j,j∉cP x->p.tmps.getD j undef=a.tmps.getD j undef)->holds ls ((lv y).map .v) ab ->
    aH (Lf y) (puts ls ((lv y).map .v) (ig (cP x) (fun j=>p.tmps.getD j undef) ρ)) p:=by
   intro y F1 L1 ab p w1 bo ce hh;have bi:∀j k off,ig (cP x) (fun j=>p.tmps.getD j undef) ρ j=.own k off->j∉cP x/\ρ j=.own k off:=by
    intro j k off e;simp only[ig] at e;split at e
    ·cases e
    ·rename_i hm;exact⟨fun h=>(by rw[cS.2 h] at hm;cases hm),e⟩
   have ca:∀j ad i,ig (cP x) (fun j=>p.tmps.getD j undef) ρ j=.el ad i->ρ j=.el ad i:=by
    intro j ad i e;simp only[ig] at e;split at e
    ·cases e
    ·exact e
   refine⟨fun j=>?_,fun j k off e=>?_,fun j ad i e=>?_⟩
   ·rcases sV ls (lv y) ab (ig (cP x) (fun j=>p.tmps.getD j undef) ρ) bo hh j with⟨v,z,h3⟩ | z
    ·rw[z,h3];rfl
    ·rw[z];simp only[ig];split
     ·rfl
     ·rename_i hm;have hj:j∉cP x:=fun h=>by rw[cS.2 h] at hm;cases hm
      rw[ce j hj,o.eq j];cases e:ρ j with
      | v u=>rfl
      | el u i=>rfl
      | own k off =>
       obtain⟨g,ty,cs,hg⟩:=o.own j k off e;obtain⟨cs',aw⟩:=mO (i3 y) hg;simp only[conc,hg,aw]
   ·rcases jQ ls (lv y) (ig (cP x) (fun j=>p.tmps.getD j undef) ρ) j with z | ⟨v,z⟩
    ·rw[z] at e;obtain⟨_,e'⟩:=bi j k off e;obtain⟨g,ty,cs,hg⟩:=o.own j k off e';obtain⟨cs',aw⟩:=mO (i3 y) hg;exact⟨g,ty,cs',aw⟩
    ·rw[z] at e;cases e
   ·rcases jQ ls (lv y) (ig (cP x) (fun j=>p.tmps.getD j undef) ρ) j with z | ⟨v,z⟩
    ·rw[z] at e;exact o.el j ad i (ca j ad i e)
    ·rw[z] at e;cases e
  refine u7 (fun n p w1=>∃(y:σ) (F1:aD),n=μ y/\F.le F1/\Inv y F1/\St F1 (Lf y) w1/\p.tmps.size=A.n/\p.defers=a.defers/\Step F L w F1 (Lf y) w1/\(∀j,j∉cP x->p.tmps.getD j undef=a.tmps.getD j undef) /\
   aH (Lf y) (puts ls ((lv y).map .v) (ig (cP x) (fun j=>p.tmps.getD j undef) ρ)) p) ?_ ?_
  ·exact⟨_,x0,F,rfl,aD.le_refl F,i0,q.aap i2,s,rfl,wj i2,fun _ _=>rfl,ac x0 F L ρ a w o.eq (fun _ _=>rfl) i1⟩
  ·rintro n p w1 ⟨y,F1,rfl,be,bd,ao,bu,av,aa,ae,ax⟩;refine wp_mono (ih h1 ao ax bu (i4 y F1 _ be bd ⟨w1,ao⟩)) ?_;intro e a2 w2 m;cases e with
   | normal =>
    obtain⟨F2,L2,bp,g1,g2,g3,g4,g5,g6,⟨y',k1,k2,k3,k4⟩⟩:=m;have ar:∀j,j∉cP x->a2.tmps.getD j undef=a.tmps.getD j undef:=fun j hj=>by rw[g6 j hj,ae j hj]
    exact⟨μ y',k4,y',F2,rfl,aD.le_trans be g5.le,k1,g1.aap k3,g3,g4.trans av,(aa.trans g5).trans (wj k3),ar,ac y' F2 L2 bp a2 w2 g2.eq ar k2⟩
   | exit j=>exact eS.after aa av ae m (fun j h=>h) (fun j h=>h)
   | ret=>exact eS.after aa av ae m (fun j h=>h) (fun j h=>h)
   | goto l=>exact m
   | panic c=>exact(noPan m).elim
   | outgrown=>exact m
 | rangeFunc f ps x y an am=>intro sc b;simp only[low] at b;cases b
 | scope x ih =>
  intro sc b E R N F L ρ a w q o s d;simp only[low] at b;refine wp_scope_straight (wp_mono (ih b q o s d) ?_);intro e p w1 m;cases e<;>exact m
 | goto l=>intro sc b;simp only[low] at b;cases b
 | refuse dk=>intro sc b;simp only[low] at b;cases b
theorem Fg {f:FuncId}{fn:Func}{c:Code}{sc:aJ}{A:cK}{rs:List RV}{F:aD}{Lin:List Own}{R:aD->List Own->Value->Prop}(svs:List SV)
  (hf:P.funcs[f]?=some fn) (hb:fn.body=some c) (hname:(fn.name == "runtime.NumGoroutine")=false) (hl:low P A c=some sc) (hn:fn.ntmps=A.n) (hres:qm P fn.results.toList=some rs) (hlen:svs.length<=A.n)
  (hown:∀v∈svs,(∀k off,v=.own k off->∃g ty cs,(inp Lin).get k=some (.box g ty cs))/\(∀ad j,v=.el ad j->ad≠none))
  (hmono:∀F G L v,F.le G->R F L v->R G L v)
  (h:ia P sc (fun _ _ _ _=>False) (fun F' L' ρ'=>lU L' ρ' rs fun vs=>CH F' L' (gX vs) R) (fun F' L' ρ'=>lU L' ρ' rs fun vs=>CH F' L' (gX vs) R) F (inp Lin) (tT 0 svs)) :
  CallsA P f (svs.map (conc (inp Lin))).toArray F Lin R:=by
 refine⟨⟨fn,hf,by rw[hb];rfl,hname⟩,hmono,fun w hs=>?_⟩;refine calls_of_wp hf hb ?_;have he:aH (inp Lin) (tT 0 svs) {tmps:=(svs.map (conc (inp Lin))).toArray++Array.replicate (fn.ntmps-(svs.map (conc (inp Lin))).toArray.size) undef,defers:=[]}:=by
  have hin:∀t,tT 0 svs t=.v undef\/tT 0 svs t∈svs:=by
   intro t;rw[qL];simp only[abk,aa9,Nat.sub_zero];cases e:svs[t]? with
   | none=>exact .inl rfl
   | some v=>exact .inr (aaQ e)
  refine⟨fun t=>?_,fun t k off e=>?_,fun t ad j e=>?_⟩
  ·rw[qL];simp only[abk,aa9,Nat.sub_zero,abf];cases e:svs[t]? with
   | some v =>
    have hlt:t<svs.length:=(w7.1 e).1;rw[Array.getElem?_append_left (by simpa using hlt)];simp[e]
   | none =>
    have hge:svs.length<=t:=abC.1 e;rw[Array.getElem?_append_right (by simpa using hge)];simp only[Array.getElem?_replicate,Option.getD_none,conc];split<;>rfl
  ·rcases hin t with h1 | h1
   ·rw[h1] at e;cases e
   ·exact(hown _ h1).1 k off e
  ·rcases hin t with h1 | h1
   ·rw[h1] at e;cases e
   ·exact(hown _ h1).2 ad j e
 refine wp_mono (qh c hl hs he (by simp[hn];omega) h) ?_;intro e a' w' hq;have fin:∀{a0:Act},eS A.n F (inp Lin) w a0 (cP c) (fun F' L' ρ'=>lU L' ρ' rs fun vs=>CH F' L' (gX vs) R) a' w'->a'.defers=a0.defers/\∃v,(results fn a'.tmps).run P w'=.ok v w' /\
   ∃v' F' Lo,Ending.returned v=.returned v'/\St F' (inp Lo) w'/\Step F (inp Lin) w F' (inp Lo) w'/\R F' Lo v':=by
  rintro a0 ⟨F',L',ρ',g1,g2,g3,g4,g5,g6,hret⟩;obtain⟨vs,hm,⟨ko,Lo,k1,k2,k3⟩⟩:=qK g1 g2 hres hret;refine⟨g4,gX vs,?_,gX vs,F',Lo,rfl,g1.handed k1 k2,?_,k3⟩
  ·rw[s8];rw[Array.mapM_eq_mapM_toList];simp only[Sem.run_bind,Sem.run_map];rw[hm];simp only[Result.andThen_ok,Sem.run_pure];congr 1
   match vs with
   | []=>rfl
   | [t]=>rfl
   | t::u::r =>
    simp only[gX];rw[dif_neg (by simp)]
  ·obtain⟨e1,e2⟩:=eM k1;refine⟨g5.le,g5.os,g5.tape,g5.output,g5.size,g5.same,g5.frz,fun b hb=>g5.own b ?_⟩;obtain⟨j,p,e,hb⟩:=hb;rw[aX] at e;split at e
   case isFalse=>cases e
   have hlt:j-1000<Lo.length:=(w7.1 e).1;have hk:ko[j-1000]?=some (ko[j-1000]'(by omega)):=v7 (by omega);exact⟨_,p,by rw[e2 _ _ hk];exact e,hb⟩
 cases e with
 | normal=>exact fin hq
 | ret=>exact fin hq
 | exit j=>obtain⟨F',L',ρ',_,_,_,_,_,_,h⟩:=hq;exact h.elim
 | goto l=>exact hq.elim
 | panic c=>exact(noPan hq).elim
 | outgrown=>exact hq.elim
theorem gK {f:FuncId}{fn:Func}{sc:aJ}{A:cK}{rs:List RV}{F:aD}{Lin:List Own}{R:aD->List Own->Value->Prop}{args:Array Value}(svs:List SV)
  (q:P.funcs[f]?=some fn) (a:aC P A fn=some (sc,A.n,rs,false)) (l:Nat.ble svs.length A.n=true) (b:args=(svs.map (conc (inp Lin))).toArray)
  (e:∀v∈svs,(∀k off,v=.own k off->∃g ty cs,(inp Lin).get k=some (.box g ty cs))/\(∀m j,v=.el m j->m≠none))
  (d:∀F G L v,F.le G->R F L v->R G L v)
  (h:ia P sc (fun _ _ _ _=>False) (fun F' L' ρ'=>lU L' ρ' rs fun vs=>CH F' L' (gX vs) R) (fun F' L' ρ'=>lU L' ρ' rs fun vs=>CH F' L' (gX vs) R) F (inp Lin) (tT 0 svs)) :
  CallsA P f args F Lin R:=by
 subst b;unfold aC at a;split at a
 case h_2=>cases a
 rename_i c hb;split at a
 case h_2=>cases a
 rename_i p r s o;injection a with a
 injection a with e1 e2
 injection e2 with e2 e3
 injection e3 with e3 e4
 subst e1 e3;exact Fg svs q hb e4 s e2 o (aa1 l) e d h
end
end Go.Fr
namespace Go.Fr.T
open Go Go.RowKit Go.Fr
def dM (p:List UInt8):List Value:=p.map fun b=>Value.int .u8 b.toNat
theorem pu (p:List UInt8):(dM p).length=p.length:=by simp[dM]
theorem Iq (p q:List UInt8):dM (p++q)=dM p++dM q:=by simp[dM]
theorem nG (p:List UInt8):∀u∈dM p,u.oneCell'=true:=by
 intro u h;simp only[dM,abh] at h;obtain⟨b,_,rfl⟩:=h;rfl
section
variable {F:aD}{L:Loc}
theorem mL:∀{p:List UInt8}{xs:List Value},aN F 1 (af p) xs->xs=dM p
 | [],xs,h=>by simpa[af,aN,dM] using h
 | b::p,xs,h=>by
  simp only[af,aaS,aN] at h;obtain⟨vs,e,rfl,j,k,a,d⟩:=h;simp only[aF,Rel] at a;obtain⟨v,c,rfl,⟨rfl,_⟩,rfl⟩:=a;rw[mL (p:=p) d];rfl
theorem qq (p:List UInt8):aN F 1 (af p) (dM p):=mF p
theorem yQ {p:List UInt8}{v:Value}(h:Rel F L (.sl (af p)) v):∃a c,v=.slice a p.length c/\p.length<=c/\p.length<=maxLen/\(bU F a 0 (dM p)\/(p.length=0/\dM p=[])):=by
 have o:(af p).length=p.length:=by simp[af]
 have j:=h;simp only[Rel] at j;obtain⟨a,c,m,e,k,s,sz,r⟩:=j;obtain⟨xs,t,d,q⟩:=iY (sz:=1) r (fun es l=>by simp only[af,abh] at l;obtain⟨b,_,rfl⟩:=l;rfl);have n:=mL q;subst n;rw[o] at m e k d;exact⟨a,c,m,e,k,d⟩
theorem vN:Rel F L (.sl []) (.slice none 0 0):=by
 simp only[Rel];exact⟨none,0,rfl,aa7 _,abk _,fun _=>by simp,0,by simp[gC]⟩
theorem DX {a:Option Addr}{xs:List Value}{m:Nat}(h:bU F a 0 xs):bU F a 0 (xs.take m):=by
 obtain⟨k,d,t,j,e,hb,c,l⟩:=h;refine⟨k,d,t,j,e,hb,c,fun i v b=>l i v ?_⟩;rw[abm] at b;split at b
 ·exact b
 ·cases b
theorem mQ {asg:List Nat}{c:Nat->Value}{ρ:Env}:∀{us:List Nat}{b:List SV},holds us b ρ->(us.all fun j=>!fW asg j)=true->puts us b (ig asg c ρ)=ig asg c ρ
 | [],_,_,_=>rfl
 | _::_,[],_,_=>rfl
 | k::ks,v::vs,h,a=>by
  simp only[List.all_cons,xo] at a;simp only[puts];rw[mQ h.2 a.2];have d:fW asg k=false:=by simpa using a.1
  funext j
  simp only[put];cases hb:Nat.beq j k with
  | false=>rfl
  | true =>
   have:=vv hb;subst this;simp only[ig,d];exact h.1.symm
variable {P:Program}{f:Nat}{vs:List Value}{K:aD->Loc->Value->Prop}
end
end Go.Fr.T
namespace Go.Fr.Dm
open Go Go.RowKit Go.Fr Go.Fr.T Go.Fr.Api
def pA (h x:Int):Int:=(h*1000003+x+1).tmod 2147483647
def Qn (l:List Int):Int:=l.foldl pA 7
theorem yV {h x:Int}(b:0<=h) (a:0<=x):0<=pA h x/\pA h x<2147483647:=by
 have:0<=h*1000003+x+1:=by omega
 rw[pA,Int.tmod_eq_emod_of_nonneg this];exact⟨Int.emod_nonneg _ (by omega),Int.emod_lt_of_pos _ (by omega)⟩
def ru (bs:List UInt8):List Int:=bs.map fun b=>(b.toNat:Int)
theorem Fit.to {k:IntKind}{n m:Int}{K:Int->Prop}(h:k.wrap n=m) (a:K m):Fit k n K:=⟨by rw[h];exact a⟩
def UC (n:Nat):List UInt8:=if h:n<128 then[UInt8.ofNat n] else UInt8.ofNat (128+n % 128)::UC (n / 128)
def zig (n:Int):Nat:=if n<0 then(-2*n-1).toNat else(2*n).toNat
def XV (n:Int):List UInt8:=UC (zig n)
def Ss (s:ByteArray):List UInt8:=XV s.size++s.data.toList
def Qo (l:List ByteArray):List UInt8:=l.flatMap Ss
inductive YS:Option Prog->C->Prop
 | nil:YS none .nilp
 | prog (q:Prog):YS (some q) (.pt (TH q) 0)
theorem aO (a:List UInt8):(af a).length=a.length:=by simp[af]
theorem eJ {a:List UInt8}:∀es∈af a,es.length=1:=by
 intro es h;simp only[af,abh] at h;obtain⟨b,_,rfl⟩:=h;rfl
def elem {a:Type}(l:List a) (i:Int):Option a:=if i<0 then none else l[i.toNat]?
def nm (l:List ByteArray) (i:Int):ByteArray:=(elem l i).getD ⟨#[]⟩
def GK (a:Option Prog) (k i:Int):Option (List UInt8) :=
 match a with
 | none=>none
 | some q=>if k=2 then(elem q.datas i).map fun d=>Qo [nm q.modules d.module,d.name] else none
def yX:R2:=⟨⟨#[]⟩,0,0,[],0,.mk 0 0 [],[],[],[]⟩
theorem sn {a b:List UInt8}{K:Prop}(h:a.length+b.length<=140737488355328) (k:K):rY (af a) (af b) 1 1 K :=
 ⟨eJ,by rw[aO,aO];simp[maxLen];omega,by rw[aO,aO];simp;omega,k⟩
theorem Uv {a b:List UInt8}{n:Nat}(h:(a++b).length<=n):a.length<=n/\b.length<=n:=by
 simp only[yo] at h;omega
theorem zR {a b:List (List C)}{m n:Nat}(h:a.length=m) (k:b.length=n):(a++b).length=m+n:=by rw[yo,h,k]
theorem Fm {q:Prog}{k i:Int}{d:Api.Data}(a:k=2) (h:elem q.datas i=some d):GK (some q) k i=some (Ss (nm q.modules d.module)++Ss d.name):=by
 unfold GK;simp only[a,aa9,h,abE,Qo,List.flatMap_cons,List.flatMap_nil,aaU]
theorem Ll {els:List (List C)}{j off n:Nat}{es0:List C}{K:List C->Prop}(h:els[j]?=some es0) (b:cR ((es0.drop off).take n) n=true) (k:K es0):HJ els j off n fun _=>∀es,els[j]?=some es->K es :=
 ⟨es0,h,b,fun es a=>by rw[h] at a;injection a with a;rw[<-a];exact k⟩
theorem gT {a:Type}{g:a->G}{x:a}:∀{l:List a},x∈l->(g x).bulk<=G.aad (l.map g)
 | y::l,h=>by
  simp only[aaS,G.aad];rcases xC.1 h with rfl | h
  ·omega
  ·have:=gT (g:=g) h;omega
end Go.Fr.Dm
namespace Go.Fr.T
open Go Go.RowKit Go.Fr
section
variable {F:aD}{w:World}
end
theorem GL (L:Loc):∀(l:List TO) (n:Nat),∃Lo:List Own,vY L (jl n l)=kV n Lo/\Lo.length=l.length/\∀i p,i<l.length->L.get (n+i)=some p->Lo[i]?=some p
 | [],n=>⟨[],rfl,rfl,fun i p h _=>o4 h (by simp)⟩
 | o::l,n=>by
  obtain⟨Lo,d,b,c⟩:=GL L l (n+1);cases o with
  | row t sz els =>
   cases e:L.get n with
   | none=>exact⟨.row (.slice none 0 0) t sz 0 []::Lo,by simp only[jl,vY,kV,d,e],by simp[b],fun i p hi a=>by
     cases i with
     | zero=>rw[Nat.add_zero,e] at a;cases a
     | succ i=>exact c i p (by simpa using hi) (by rw[<-a];congr 1;omega)⟩
   | some q=>exact⟨q::Lo,by simp only[jl,vY,kV,d,e],by simp[b],fun i p hi a=>by
     cases i with
     | zero=>rw[Nat.add_zero,e] at a;exact a
     | succ i=>exact c i p (by simpa using hi) (by rw[<-a];congr 1;omega)⟩
  | _ =>
   cases e:L.get n with
   | none=>exact⟨.row (.slice none 0 0) 0 0 0 []::Lo,by simp only[jl,vY,kV,d,e],by simp[b],fun i p hi a=>by
     cases i with
     | zero=>rw[Nat.add_zero,e] at a;cases a
     | succ i=>exact c i p (by simpa using hi) (by rw[<-a];congr 1;omega)⟩
   | some q=>exact⟨q::Lo,by simp only[jl,vY,kV,d,e],by simp[b],fun i p hi a=>by
     cases i with
     | zero=>rw[Nat.add_zero,e] at a;exact a
     | succ i=>exact c i p (by simpa using hi) (by rw[<-a];congr 1;omega)⟩
theorem CallsT.gives {P:Program}{f:Nat}{args:List C}{Lin Lin1:List TO}{R:List TO->C->Prop}(h:CallsT P f args Lin1 R) (m:gives (jm Lin) (jm Lin1) (jm Lin1)) (hl:Lin.length<=Lin1.length):CallsT P f args Lin R:=by
 refine⟨fun F Li vs h1 l z=>?_⟩;obtain⟨Li1,d,y,k3⟩:=GL (inp Li) Lin1 1000;have d:vY (inp Li) (jm Lin1)=inp Li1:=d;have a:∀(i:Nat) p,Li[i]?=some p->Li1[i]?=some p:=by
  intro i p e;have hi:=(w7.1 e).1;exact k3 i p (by omega) (by rw[aX,eu (by omega),show 1000+i-1000=i by omega];exact e)
 have b:Ext (inp Li) (inp Li1):=by
  intro k o e;rw[aX] at e;split at e
  case isFalse=>cases e
  rename_i hk;exact⟨o,by rw[aX,eu hk];exact a _ _ e,Own.aah o⟩
 have q:=uy l m;rw[d] at q;have n:=h.out F Li1 vs y q (z.ext (aD.le_refl F) b);refine⟨n.ent,gW.aao,fun w u=>?_⟩;obtain⟨j,r⟩:=uz u l m;rw[d] at j r;refine Calls.mono (n.run w j) ?_;rintro e w' ⟨v,F',Lo,rfl,q1,q2,Mo,c,r1,r2,x,s,r5⟩;exact⟨v,F',Lo,rfl,q1,r.trans q2,Mo,c,r1,r2,x,fun i g t cs e=>s i g t cs (a _ _ e),r5⟩
theorem UE {L:TL}(k t sz:Nat) {Lin:List TO}{Lo:List TO}(b:L.get k=none) (hb:aT Lin (List.range' 1000 Lin.length) [k]=true) (c:Lo=[.row t sz []]):o7 Lin L .nils (iQ Lo (.rw 1000)):=by
 subst c;have a:Nat.beq k k=true:=by simp
 refine⟨[],[k],[(k,.row t sz [])],.nils,.rw k,[.row t sz []],rfl,.inr ⟨⟨.inr ⟨b,t,sz,rfl⟩,trivial⟩,.inr (.inr (.inr (.inl ⟨rfl,k,t,sz,rfl,b,?_⟩)))⟩,?_,rfl,hb,fun _=>⟨rfl,?_⟩⟩
 ·simp only[TL.get,a]
 ·simp only[TL.sub,TL.get,a]
 ·simp only[C.aar,C.ren,C.mp,ug,bZ,a]
end Go.Fr.T
