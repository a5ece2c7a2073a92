/- Part of the proofs of the statements of this seat. -/
import Derived.Test.YtnlegbokpofcaaaDoorFW2
import Derived.Test.YtnlegbokpofcaaaDoorFW1
import Derived.Tactics
import Derived.Tactics2
import Derived.Defers
import Derived.Recover
import Derived.OneCell
import Derived.ChangeArms
import Derived.DataReads
import Derived.Carry
import Derived.ChangeSame
import Derived.WalkKit
import Derived.ProofKit
import Derived.OpenShut
set_option maxRecDepth 10000
set_option linter.unusedVariables false
set_option linter.unusedSimpArgs false
namespace Go.Fr.T
open Go Go.RowKit Go.Fr
section
variable {P:Program}{PS:oV}{G:Nat->Option (Nat×TypeId)}{F:aA}{L:Loc}{ρ:Env}{M:TL}{τ:aT}{a:Act}{w:World}{Q:Exit->Act->World->Prop}{o:Oper}
theorem iw {L2:Loc}(d:aC L ρ a) (b:aC L2 ρ a):∀xs:List X,bf L2 ρ xs=bf L ρ xs
 | []=>rfl
 | x::xs=>by
  have:val L2 ρ x=val L ρ x:=by
   cases x with
   | t n=>exact(b.eq n).symm.trans (d.eq n)
   | c v=>rfl
   | fn f=>rfl
   | mt nm n =>
    simp only[val,ev];cases ρ n<;>rfl
  simp only[bf,this,iw d b xs]
theorem kJ {f:Nat}{args:List C}{vs:List Value}{K:TL->aT->C->Prop}(hs:St F L w) (x:aC L ρ a) (m:TS G F L ρ M τ) (p:aB F L args vs) (h:pL P f args M τ K) :
  ∃F' L',St F' L' w/\aC L' ρ a/\Step F L w F' L' w/\cV P f vs F' L' (fun F' L' v=>∃M' b c,TS G F' L' ρ M' b/\aN F' L' c (.v v)/\K M' b c):=by
 cases h with
 | inpl ks Lin R h1 h2 h3 h4=>exact⟨F,L,hs,x,Step.refl _ _ _,tC m p h1 h2 h3 h4⟩
 | mk h =>
 obtain⟨fz,ks,ko,h⟩:=h;obtain⟨F1,L1,M1,ad,e,l,s,t,z,n,M2,Lin,R,d,y,q,j,u,r,k,k9⟩:=ow hs x m p h;rcases d with rfl | ⟨d,k2⟩
 ·exact⟨F1,_,l,s,t,qp z n y q j u r k k9⟩
 ·obtain⟨e1,e2,e3,e4,e5⟩:=pV l s z d k2;exact⟨F1,_,e1,e2,t.trans e3,qp e4 (n.ext (aA.le_refl F1) e5) y q j u r k k9⟩
theorem oz {f:Nat}{args:List C}{vs:List Value}{K:TL->aT->C->Prop}(hs:St F L w) (he:aC L ρ a) (q:TS G F L ρ M τ) (s:aB F L args vs) (h:n9 P PS f args M τ K) (b:PS.st=none) :
  ∃F' L',St F' L' w/\aC L' ρ a/\Step F L w F' L' w/\eG P (xu G PS) f vs F' L' (fun F' L' v=>∃M' e c,TS G F' L' ρ M' e/\aN F' L' c (.v v)/\K M' e c):=by
 cases h with
 | inpl ks Lin R Pp h1 h2 hh h3 hp h4=>exact⟨F,L,hs,he,Step.refl _ _ _,CD q s h1 h2 h3 hp b hh h4⟩
 | mk h =>
 obtain⟨fz,ks,ko,h⟩:=h;obtain⟨F1,L1,M1,al,l,p,x,y,g4,r,M2,Lin,R,Pp,k,k3,t,m,z,u,j,n,d,k9⟩:=ow hs he q s h;rcases k with rfl | ⟨k,k2⟩
 ·exact⟨F1,_,p,x,y,yH g4 r k3 t m z u j n d b k9⟩
 ·obtain⟨e1,e2,e3,e4,e5⟩:=pV p x g4 k k2;exact⟨F1,_,e1,e2,y.trans e3,yH e4 (r.ext (aA.le_refl F1) e5) k3 t m z u j n d b k9⟩
theorem oC {f:Nat}{args:List C}{vs:List Value}{K:TL->aT->C->Prop}{st:TL->Value->Prop}(z:St F L w) (u:aC L ρ a) (p:TS G F L ρ M τ) (q:aB F L args vs) (h:zA P PS.ps PS.hb st f args M τ K) (l:PS.st=some st) :
  ∃F' L',St F' L' w/\aC L' ρ a/\Step F L w F' L' w/\eG P (xu G PS) f vs F' L' (fun F' L' v=>∃M' e c,TS G F' L' ρ M' e/\aN F' L' c (.v v)/\K M' e c):=by
 obtain⟨ks,ko,M2,Lin,R,Pp,k,x,r,m,t,s,j,n,d,y⟩:=h;have b:PS=⟨PS.ps,PS.hb,some st⟩:=by rw[<-l]
 rcases k with rfl | ⟨k,k2⟩
 ·exact⟨F,_,z,u,Step.refl _ _ _,yI p q b x r m t s j n d y⟩
 ·obtain⟨e1,e2,e3,e4,e5⟩:=pV z u p k k2;exact⟨F,_,e1,e2,e3,yI e4 (q.ext (aA.le_refl F) e5) b x r m t s j n d y⟩
theorem yJ:∀{cs:List C}{vs us:List Value},vQ cs=some us->aB F L cs vs->vs=us
 | [],vs,us,h,r=>by simp only[vQ,WY] at h;simp only[aB] at r;rw[r,<-h]
 | c::cs,vs,us,h,r=>by
  simp only[aB] at r;obtain⟨v,e,rfl,b,d⟩:=r;cases c<;>simp only[vQ,reduceCtorEq] at h
  all_goals
   split at h
   case h_2=>cases h
   rename_i j f;injection h with h
   subst h;rw[yJ f d];simp only[Rel] at b
   first
    | rw[b.1]
    | rw[b]
theorem Hl {c:C}{u v:Value}(h:Bb c=some u) (r:Rel F L c v):v=u/\∃t x,u=.iface t x:=by
 cases c<;>simp only[Bb,reduceCtorEq] at h
 case ifc t c =>
  simp only[Rel] at r;obtain⟨x,rfl,r⟩:=r;cases c<;>simp only[Bb,reduceCtorEq] at h
  case agg cs =>
   split at h
   case h_2=>cases h
   rename_i us b;injection h with h
   subst h;simp only[Rel] at r;obtain⟨vs,rfl,r⟩:=r;rw[yJ b r];exact⟨rfl,_,_,rfl⟩
  all_goals
   injection h with h
   subst h;simp only[Rel] at r
   first
    | (obtain⟨rfl,_⟩:=r;exact⟨rfl,_,_,rfl⟩)
    | (subst r;exact⟨rfl,_,_,rfl⟩)
theorem aZ.from {F1:aA}{L1:Loc}{K:cE}{c:Act}{w':World}(b:Step F L w F1 L1 w) (h:aZ F1 L1 w a K c w'):aZ F L w a K c w':=by
 obtain⟨F',L',ρ',f,d,j,l,k,e⟩:=h;exact⟨F',L',ρ',f,d,j,l,b.trans k,e⟩
theorem EY {own:Bool}{s:dS}{K:TK}(hs:St F L w) (n:aC L ρ a) (e:TS G F L ρ M τ) (hd:∀k,o.dst=some k->k<a.tmps.size) (hl:gM P own o.op=some s)
  (d:bH P s o.dst M τ K):o.wp P a w (aZ F L w a (Both G K)) Q:=by
 by_cases hc:jW s=true
 ·cases s<;>simp only[jW,Xd] at hc
  ·rename_i f args;simp only[bH,eB,dV,dG] at d;obtain⟨F1,L1,p,h,q,z⟩:=kJ hs n e (cL e.env args) d;refine Oper.wp_mono (fun a' w'=>aZ.from q) (eD p h hd hl ?_);simp only[evalOp];rw[iw n h];exact cV.imp z fun F' L' v ⟨M',y,c,j,m,r⟩=>j.Ws m r
  ·rename_i fx args;simp only[bH,eB,dV,dG] at d;split at d
   ·rename_i f fi ca hx;obtain⟨be,bd,e1,j,m⟩:=ru e.env hx;obtain⟨F1,L1,p,h,q,z⟩:=kJ hs n e (iV e.env j m args) d;refine Oper.wp_mono (fun a' w'=>aZ.from q) (eD p h hd hl ?_);simp only[evalOp,e1,kY];rw[iw n h];exact cV.imp z fun F' L' v ⟨M',y,c,j,m,r⟩=>j.Ws m r
   ·rename_i nm c hx;split at d
    case h_2=>exact d.elim
    rename_i t c;obtain⟨u,e1,hr⟩:=vV e.env hx;simp only[Rel] at hr;obtain⟨u',rfl,hu⟩:=hr;obtain⟨f',hm,d⟩:=d;have b:aB F L (c::dM τ args) ([u']++bf L ρ args++[]):=by
     rw[Xp];simp only[Xk,XD,aB];exact⟨_,_,rfl,hu.lift,cL e.env args⟩
    obtain⟨F1,L1,p,h,q,z⟩:=kJ hs n e b d;refine Oper.wp_mono (fun a' w'=>aZ.from q) (eD p h hd hl ?_);have e2:kY P (ev ρ fx)=some (f',[u'],[]):=by rw[e1];simp only[kY,hm]
    simp only[evalOp,e2];rw[iw n h];exact cV.imp z fun F' L' v ⟨M',y,c,j,m,r⟩=>j.Ws m r
   ·rename_i nm t k off hx;obtain⟨g,t',cs,hg,e1⟩:=oe e.env hx;obtain⟨f',hm,d⟩:=d;have b:aB F L (.own k off::dM τ args) ([.pointer (some ⟨g,off,none⟩)]++bf L ρ args++[]):=by
     rw[Xp];simp only[Xk,XD,aB,Rel];exact⟨_,_,rfl,⟨g,t',cs,hg,rfl⟩,cL e.env args⟩
    obtain⟨F1,L1,p,h,q,z⟩:=kJ hs n e b d;refine Oper.wp_mono (fun a' w'=>aZ.from q) (eD p h hd hl ?_);have e2:kY P (ev ρ fx)=some (f',[.pointer (some ⟨g,off,none⟩)],[]):=by rw[e1];simp only[Ba,kY,hm]
    simp only[evalOp,e2];rw[iw n h];exact cV.imp z fun F' L' v ⟨M',y,c,j,m,r⟩=>j.Ws m r
   ·rename_i t nm hx;split at d
    case h_2=>exact d.elim
    rename_i t' c an ae x;have e1:=Jt e.env hx;obtain⟨f',hm,d⟩:=d;have ad:=cL e.env args;rw[x] at ad;simp only[aB,Rel] at ad;obtain⟨v0,l,ay,⟨u,rfl,hu⟩,ac⟩:=ad;have b:aB F L (c::an) (u::l):=by
     simp only[aB];exact⟨_,_,rfl,hu.lift,ac⟩
    obtain⟨F1,L1,p,h,q,z⟩:=kJ hs n e b d;refine Oper.wp_mono (fun a' w'=>aZ.from q) (eD p h hd hl ?_);have hi:∃ms,P.underlying t=some (.interface ms):=by
     unfold LQ at ae;split at ae
     ·exact⟨_,by assumption⟩
     ·cases ae
    obtain⟨ms,hi⟩:=hi;have e2:kY P (ev ρ fx)=none:=by rw[e1];rfl
    have e3:xW P (ev ρ fx) (bf L1 ρ args)=some (f',u::l):=by
     rw[iw n h,ay,e1];simp only[xW,hi,hm]
    simp only[evalOp,e2,e3];exact cV.imp z fun F' L' v ⟨M',y,c,j,m,r⟩=>j.Ws m r
   ·exact d.elim
 ·exact eD hs n hd hl (Hj (by simpa using hc) e d)
theorem EZ {own:Bool}{s:dS}{K:TK}(hs:St F L w) (q:aC L ρ a) (j:TS G F L ρ M τ) (hd:∀k,o.dst=some k->k<a.tmps.size) (hl:gM P own o.op=some s)
  (d:tu P PS s o.dst M τ K) (hQ:∀v z w' F' L',Ca v z->St F' L' w'->Step F L w F' L' w'->xu G PS F' L' v->Q (.panic z) a w'):o.wp P a w (aZ F L w a (Both G K)) Q:=by
 cases s<;>simp only[tu] at d<;>try (exact d.elim)
 ·rename_i f args;simp only[eB,dV,dG] at d;have key:∃F' L',St F' L' w/\aC L' ρ a/\Step F L w F' L' w/\eG P (xu G PS) f (bf L ρ args) F' L' (fun F' L' v=>∃M' h c,TS G F' L' ρ M' h/\aN F' L' c (.v v)/\K M' (bw o.dst c h)):=by
   split at d
   ·rename_i b;exact oz hs q j (cL j.env args) d b
   ·rename_i st b;exact oC hs q j (cL j.env args) d b
  obtain⟨F1,L1,g1,g2,g3,g4⟩:=key;refine Oper.wp_mono (fun a' w'=>aZ.from g3) (tZ (PX:=xu G PS) g1 g2 hd hl ?_ fun v z w' F' L' qc q1 q2 q3=>hQ v z w' F' L' qc q1 (g3.trans q2) q3);rw[iw q g2];exact eG.imp g4 fun F' L' v ⟨M',h,c,l,m,r⟩=>l.Ws m r
 ·rename_i fx args;split at d
  ·rename_i f fi ca hx;simp only[eB,dV,dG] at d;obtain⟨ao,am,e1,l,m⟩:=ru j.env hx;have key:∃F' L',St F' L' w/\aC L' ρ a/\Step F L w F' L' w/\eG P (xu G PS) f (ao++bf L ρ args++am) F' L' (fun F' L' v=>∃M' h c,TS G F' L' ρ M' h/\aN F' L' c (.v v)/\K M' (bw o.dst c h)):=by
    split at d
    ·rename_i b;exact oz hs q j (iV j.env l m args) d b
    ·rename_i st b;exact oC hs q j (iV j.env l m args) d b
   obtain⟨F1,L1,g1,g2,g3,g4⟩:=key;refine Oper.wp_mono (fun a' w'=>aZ.from g3) (nZ (PX:=xu G PS) (f:=f) (fi:=ao) (ca:=am) g1 g2 hd hl (by rw[e1];simp only[kY]) ?_ fun v z w' F' L' qc q1 q2 q3=>hQ v z w' F' L' qc q1 (g3.trans q2) q3);rw[iw q g2];exact eG.imp g4 fun F' L' v ⟨M',h,c,l,m,r⟩=>l.Ws m r
  ·rename_i nm t k off hx;simp only[eB,dV,dG] at d;obtain⟨g,t',cs,hg,e1⟩:=oe j.env hx;obtain⟨f',hm,d⟩:=d;have p:aB F L (.own k off::dM τ args) ([.pointer (some ⟨g,off,none⟩)]++bf L ρ args++[]):=by
    rw[Xp];simp only[Xk,XD,aB,Rel];exact⟨_,_,rfl,⟨g,t',cs,hg,rfl⟩,cL j.env args⟩
   have key:∃F' L',St F' L' w/\aC L' ρ a/\Step F L w F' L' w/\eG P (xu G PS) f' ([.pointer (some ⟨g,off,none⟩)]++bf L ρ args++[]) F' L' (fun F' L' v=>∃M' h c,TS G F' L' ρ M' h/\aN F' L' c (.v v)/\K M' (bw o.dst c h)):=by
    split at d
    ·rename_i b;exact oz hs q j p d b
    ·rename_i st b;exact oC hs q j p d b
   obtain⟨F1,L1,g1,g2,g3,g4⟩:=key;refine Oper.wp_mono (fun a' w'=>aZ.from g3) (nZ (PX:=xu G PS) (f:=f') (fi:=[.pointer (some ⟨g,off,none⟩)]) (ca:=[]) g1 g2 hd hl (by rw[e1];simp only[Ba,kY,hm]) ?_ fun v z w' F' L' qc q1 q2 q3=>hQ v z w' F' L' qc q1 (g3.trans q2) q3);rw[iw q g2];exact eG.imp g4 fun F' L' v ⟨M',h,c,l,m,r⟩=>l.Ws m r
  ·exact d.elim
 ·rename_i x;have d:∃u,Bb (bV τ x)=some u/\kR M [] PS.hb=true/\PS.ps u/\∀s,PS.st=some s->s M u:=by
   split at d
   ·rename_i b;obtain⟨u,l,n,m⟩:=d;exact⟨u,l,n,m,fun s e=>by rw[b] at e;cases e⟩
   ·rename_i st b;obtain⟨u,l,n,m,r⟩:=d;exact⟨u,l,n,m,fun s e=>by rw[b] at e;injection e with e;subst e;exact r⟩
  obtain⟨u,l,n,m,r⟩:=d;have hr:=kH (cZ j.env x);have hc:(bV τ x).cel=bV τ x:=by
   cases e:bV τ x<;>rw[e] at l<;>first | rfl | (simp only[Bb,reduceCtorEq] at l;done)
  rw[hc] at hr;obtain⟨e1,t,y,e2⟩:=Hl l hr;refine EL (PX:=xu G PS) hs q hl (t:=t) (u:=y) (e1.trans e2) ⟨j.kp,by rw[<-e2];exact m,G8 j.tl n fun k g t cs _ e=>e,fun s e=>⟨M,yG j.tl,by rw[<-e2];exact r s e⟩⟩ hQ
theorem CH (c:aC L ρ a) (b:TS G F L ρ M τ) (d:Option Nat):∃ρ',aC L ρ' a/\TS G F L ρ' M (qJ d τ):=by
 cases d with
 | none=>exact⟨ρ,c,b⟩
 | some k =>
  have r:∀j,qJ (some k) τ j=if j=k then(τ k).WJ else τ j:=by
   intro j;simp only[qJ];cases h:Nat.beq j k with
   | true=>have:=yo h;simp[this]
   | false=>have:=eV h;simp[this]
  by_cases f:∃n off,τ k=.ownv n off
  ·obtain⟨n,off,f⟩:=f;have l:=b.env k;rw[f] at l;simp only[aN,Rel] at l;obtain⟨v,m,g,t,cs,q,rfl⟩:=l;have s:conc L (ρ k)=.pointer (some ⟨g,off,none⟩):=m.conc;refine⟨Fr.put (some k) (.own n off) ρ,⟨fun p=>?_,fun p j o e=>?_,fun p u j e=>?_⟩,b.tl,fun j=>?_,b.kp,b.glob⟩
   ·rw[c.eq p,put_eq];simp only[];split
    ·rename_i h;subst h;rw[s];simp only[conc,q]
    ·rfl
   ·rw[put_eq] at e;simp only[] at e;split at e
    ·injection e with q1 q2;subst q1;exact⟨g,t,cs,q⟩
    ·exact c.own _ _ _ e
   ·rw[put_eq] at e;simp only[] at e;split at e
    ·cases e
    ·exact c.el _ _ _ e
   ·rw[r,put_eq];simp only[];split
    ·rw[f];exact⟨rfl,g,t,cs,q⟩
    ·exact b.env j
  ·refine⟨ρ,c,b.tl,fun j=>?_,b.kp,b.glob⟩;rw[r];split
   ·rename_i h;subst h;have:(τ j).WJ=τ j:=by
     cases e:τ j<;>first | rfl | exact xo ⟨_,_,e⟩ f
    rw[this];exact b.env j
   ·exact b.env j
def sD (G:Nat->Option (Nat×TypeId)) (PS:oV) (ks:List Nat):Prop:=∀k∈ks,G k≠none->1000<=k\/fo (PS.hb.map (·.1)) k=true
theorem sD.left {ks b:List Nat}(h:sD G PS (ks++b)):sD G PS ks:=fun k c=>h k (W4.2 (.inl c))
theorem sD.right {ks b:List Nat}(h:sD G PS (ks++b)):sD G PS b:=fun k c=>h k (W4.2 (.inr c))
theorem lu:∀(a b:List ak),dw (a++b)=dw a++dw b
 | [],b=>rfl
 | .frz k::a,b=>by simp only[Xk,dw,lu a b]
 | .op _ _ _::a,b=>by simp only[Xk,dw,lu a b]
 | .pc _ _ _::a,b=>by simp only[Xk,dw,lu a b]
theorem Bn {k:Nat}{K:TK}{q:TL->aT->TK->Prop}(s:St F L w) (r:aC L ρ a) (p:TS G F L ρ M τ) (u:G k≠none->1000<=k\/fo (PS.hb.map (·.1)) k=true) (h:stepT P PS false (.frz k) q M τ K) :
  ∃F' L' ρ' M' b,St F' L' w/\aC L' ρ' a/\Step F L w F' L' w/\TS G F' L' ρ' M' b/\q M' b K:=by
 simp only[stepT,eB] at h;split at h
 ·rename_i t sz els f;obtain⟨F1,L1,d,j,l,n,_⟩:=wm s r p f;exact⟨F1,L1,ρ,_,_,d,j,l,n,h⟩
 ·rename_i t cs f;split at h
  case h_2=>exact h.elim
  rename_i v z e3 y;have c:G k=none:=by
   cases e:G k with
   | none=>rfl
   | some x =>
    rcases u (by rw[e];simp) with h1 | h1
    ·rw[Nat.blt_eq] at e3;omega
    ·rw[y] at h1;cases h1
  obtain⟨F1,L1,m,d,j,l,n⟩:=CF s r p f v z c;exact⟨F1,L1,m,_,_,d,j,l,n,h⟩
 ·exact h.elim
theorem wu {A:cP}{r:Nat}{l:Array Oper}{K:TK}:∀(is:List Nat) {ss:List ak}{F:aA}{L:Loc}{ρ:Env}{M:TL}{τ:aT}{a:Act}{w:World},pz P A r l is=some ss->sD G PS (dw ss)->St F L w->aC L ρ a->TS G F L ρ M τ->a.tmps.size=A.n ->
  dn P PS false ss M τ K->(∀a' w',dY A.n F L w a (dstsOf l is) (Both G K) a' w'->Q .normal a' w') ->
  (∀v ch a' w',Ca v ch->qH A.n F L w a (dstsOf l is) (xu G PS) v a' w'->Q (.panic ch) a' w')->wpOps P l Q is a w:=by
 intro is
 induction is with
 | nil =>
  intro ss F L ρ M τ a w hl cc hs he ht hn q hQ ba;simp only[pz,WY] at hl;subst hl;exact hQ a w ⟨F,L,ρ,hs,he,hn,rfl,Step.refl _ _ _,fun _ _=>rfl,M,τ,ht,q⟩
 | cons i is ih =>
  intro ss F L ρ M τ a w hl cc hs he ht hn q hQ ba;simp only[pz] at hl;split at hl
  case h_1=>cases hl
  rename_i o hi;split at hl
  case h_2=>cases hl
  rename_i g s z hg co bt ax;injection hl with hl
  subst hl;have av:∀(ks:List Nat) {x:ak}{F:aA}{L:Loc}{ρ:Env}{M:TL}{τ:aT},sD G PS (dw (ks.map ak.frz++x::z))->St F L w->aC L ρ a->TS G F L ρ M τ->dn P PS false (ks.map ak.frz++x::z) M τ K ->
    ∃F' L' ρ' M' ad,St F' L' w/\aC L' ρ' a/\Step F L w F' L' w/\TS G F' L' ρ' M' ad/\dn P PS false (x::z) M' ad K:=by
   intro ks
   induction ks with
   | nil=>intro x F L ρ M τ _ hs he ht h;exact⟨F,L,ρ,M,τ,hs,he,Step.refl _ _ _,ht,h⟩
   | cons k ks cy =>
    intro x F L ρ M τ hz hs he ht h;simp only[Xa,Xk,eP] at h;obtain⟨F1,L1,ci,M1,u,g1,g2,g3,g4,h⟩:=Bn hs he ht (hz k (by simp[dw])) h;obtain⟨F2,L2,cf,M2,da,k1,k2,k3,k4,k5⟩:=cy (fun j hj=>hz j (by simp only[Xa,Xk,dw];exact Xv _ hj)) g1 g2 g4 h;exact⟨F2,L2,cf,M2,da,k1,k2,g3.trans k3,k4,k5⟩
  have bl:sD G PS (dw z):=fun j hj=>cc j (by
   rw[lu];refine W4.2 (.inr ?_);cases hp:tV A.pan r i<;>simp only[mV,dw]<;>exact hj)
  obtain⟨F1,L1,ci,M1,u,bu,ac,an,m,q⟩:=av _ cc hs he ht q
  clear av he ht
  revert ac m
  generalize ci=ρ;intro ac m;have hd:∀k,o.dst=some k->k<a.tmps.size:=by
   intro k hk;rw[hk] at bt;rw[hn];have h2:Nat.blt k A.n=true:=bt;simpa using h2
  have bz:dstsOf l (i::is)=match o.dst with | some d=>d::dstsOf l is | none=>dstsOf l is:=by
   simp only[dstsOf,hi,Option.bind_some];rfl
  have al:∀j,j∉dstsOf l (i::is)->o.dst≠some j/\j∉dstsOf l is:=by
   intro j hj;rw[bz] at hj;cases ho:o.dst with
   | none=>rw[ho] at hj;exact⟨by simp,hj⟩
   | some d =>
    rw[ho] at hj;simp only[W7,not_or] at hj;exact⟨by simp;exact fun e=>hj.1 e.symm,hj.2⟩
  have after:∀{KK:Prop},o.wp P a w (fun a' w'=>aZ F1 L1 w a (Both G fun M' ad=>dn P PS false z M' (qJ o.dst ad) K) a' w') Q->o.wp P a w (wpOps P l Q is) Q:=by
   intro _ this;refine Oper.wp_mono ?_ (pA (asg:=[]) this);rintro a' w' ⟨⟨F',L',ρ',g1,g2,g3,g4,g5,M',ad,g6,g7⟩,cp⟩;obtain⟨cf,n1,n2⟩:=CH g2 g6 o.dst;refine ih ax bl g1 n1 n2 (by rw[g3,hn]) g7 ?_ ?_
   ·rintro ar ao ⟨F'',L'',az,k1,k2,k3,k4,k5,k6,k7⟩;refine hQ ar ao ⟨F'',L'',az,k1,k2,k3,k4.trans g4,(an.trans g5).trans k5,fun j hj=>?_,k7⟩;obtain⟨n1,n2⟩:=al j hj;rw[k6 j n2,cp j n1]
   ·rintro v ch ar ao kc ⟨F'',L'',k1,k2,k3,k4,k5,k6⟩;refine ba v ch ar ao kc ⟨F'',L'',k1,(an.trans g5).trans k2,k3,k4.trans g4,fun j hj=>?_,k6⟩;obtain⟨n1,n2⟩:=al j hj;rw[k5 j n2,cp j n1]
  have ay:∀{u:aT},TS G F1 L1 ρ M1 u->bH P s o.dst M1 u (fun M' ad=>dn P PS false z M' (qJ o.dst ad) K)->o.wp P a w (wpOps P l Q is) Q:=by
   intro u m q;exact after (KK:=True) (EY (Q:=Q) bu ac m hd co q)
  have ap:∀{u:aT},TS G F1 L1 ρ M1 u->tu P PS s o.dst M1 u (fun M' ad=>dn P PS false z M' (qJ o.dst ad) K)->o.wp P a w (wpOps P l Q is) Q:=by
   intro u m q;exact after (KK:=True) (EZ (Q:=Q) bu ac m hd co q fun v ch w' F' L' qc q1 q2 q3=>ba v ch a w' qc ⟨F',L',q1,an.trans q2,hn,rfl,fun _ _=>rfl,q3⟩)
  have skip:∀{u:aT},TS G F1 L1 ρ M1 u->dn P PS false z M1 (bw o.dst .und u) K->wpOps P l Q is (a.put o.dst undef) w:=by
   intro u m q;have db:=ac.put hd (v:=undef) (x:=.v undef) rfl bL dc (qi L1);refine ih ax bl bu db (m.put (c:=.und) (sv:=.v undef) ⟨_,rfl,by simp only[Rel]⟩ o.dst) (by rw[j9,hn]) q ?_ ?_
   ·rintro ar ao ⟨F'',L'',az,k1,k2,k3,k4,k5,k6,k7⟩;refine hQ ar ao ⟨F'',L'',az,k1,k2,k3,k4.trans (gj _ _ _),an.trans k5,fun j hj=>?_,k7⟩;obtain⟨n1,n2⟩:=al j hj;rw[k6 j n2,jN n1]
   ·rintro v ch ar ao kc ⟨F'',L'',k1,k2,k3,k4,k5,k6⟩;refine ba v ch ar ao kc ⟨F'',L'',k1,an.trans k2,k3,k4.trans (gj _ _ _),fun j hj=>?_,k6⟩;obtain⟨n1,n2⟩:=al j hj;rw[k5 j n2,jN n1]
  simp only[wpOps,hi];cases cl:tV A.pan r i with
  | false =>
   rw[cl] at q;cases aa:o.guard with
   | none =>
    rw[aa] at hg;simp only[gO,WY] at hg;subst hg;simp only[mV,eP,stepT] at q;rw[j3 (by simp[Region.wanted,aa])];exact .inl (ay m q)
   | some p =>
    obtain⟨j,y⟩:=p;rw[aa] at hg;simp only[gO] at hg;split at hg
    case h_2=>cases hg
    rename_i d aE;injection hg with hg
    subst hg;simp only[mV,eP,stepT] at q;split at q
    ·rename_i b hb;have ae:ρ d=.v (.bool b):=gT (x:=.t d) m.env hb;have f:=ac.eq d;rw[ae] at f;have hy:yielded l a.tmps j=some b:=by
      simp only[yielded,aE,Option.bind_some,qj f]
     have hw:Region.wanted o (yielded l a.tmps)=(b == y):=by
      simp only[Region.wanted,aa,hy];cases b<;>cases y<;>rfl
     have ag:TS G F1 L1 ρ M1 (bw (some d) (.bool b) u):=by
      have:=m.put (c:=.bool b) (sv:=.v (.bool b)) ⟨_,rfl,by simp only[Rel]⟩ (some d)
      rwa [kg ae] at this
     rw[hw];cases b<;>simp only[vh] at q
     ·cases y
      ·exact .inl (ay ag q)
      ·exact skip ag q
     ·cases y
      ·exact skip ag q
      ·exact .inl (ay ag q)
    ·rename_i hb;have hr:=m.env d;rw[hb] at hr;simp only[aN,Rel] at hr;obtain⟨v,ae,rfl⟩:=hr;have f:=ac.eq d;rw[ae] at f;have hy:yielded l a.tmps j=none:=by
      simp only[yielded,aE,Option.bind_some];rw[Xt] at f;cases e:a.tmps[d]? with
      | none=>rfl
      | some v=>rw[e] at f;simp only[Option.getD_some,conc] at f;rw[f];rfl
     have hw:Region.wanted o (yielded l a.tmps)=false:=by
      simp only[Region.wanted,aa,hy];rfl
     rw[hw];exact skip m q
    ·exact q.elim
  | true =>
   rw[cl] at q;cases aa:o.guard with
   | none =>
    rw[aa] at hg;simp only[gO,WY] at hg;subst hg;simp only[mV,eP,stepT] at q;rw[j3 (by simp[Region.wanted,aa])];exact .inl (ap m q)
   | some p =>
    obtain⟨j,y⟩:=p;rw[aa] at hg;simp only[gO] at hg;split at hg
    case h_2=>cases hg
    rename_i d aE;injection hg with hg
    subst hg;simp only[mV,eP,stepT] at q;split at q
    ·rename_i b _ hb;have ae:ρ d=.v (.bool b):=gT (x:=.t d) m.env hb;have f:=ac.eq d;rw[ae] at f;have hy:yielded l a.tmps j=some b:=by
      simp only[yielded,aE,Option.bind_some,qj f]
     have hw:Region.wanted o (yielded l a.tmps)=(b == y):=by
      simp only[Region.wanted,aa,hy];cases b<;>cases y<;>rfl
     have ag:TS G F1 L1 ρ M1 (bw (some d) (.bool b) u):=by
      have:=m.put (c:=.bool b) (sv:=.v (.bool b)) ⟨_,rfl,by simp only[Rel]⟩ (some d)
      rwa [kg ae] at this
     rw[hw];cases b<;>simp only[vh] at q
     ·cases y
      ·exact .inl (ap ag q)
      ·exact skip ag q
     ·cases y
      ·exact skip ag q
      ·exact .inl (ap ag q)
    ·rename_i hb;have hr:=m.env d;rw[hb] at hr;simp only[aN,Rel] at hr;obtain⟨v,ae,rfl⟩:=hr;have f:=ac.eq d;rw[ae] at f;have hy:yielded l a.tmps j=none:=by
      simp only[yielded,aE,Option.bind_some];rw[Xt] at f;cases e:a.tmps[d]? with
      | none=>rfl
      | some v=>rw[e] at f;simp only[Option.getD_some,conc] at f;rw[f];rfl
     have hw:Region.wanted o (yielded l a.tmps)=false:=by
      simp only[Region.wanted,aa,hy];rfl
     rw[hw];exact skip m q
    ·exact q.elim
theorem pW:aN F L .und (.v undef):=⟨_,rfl,by simp only[Rel]⟩
theorem wz {o:dS}{d:Option Nat}{F:aA}{L:Loc}{ρ:Env}{K K':cE}(h:evalOp P o d F L ρ K) (p:∀F' L' ρ',K F' L' ρ'->K' F' L' ρ'):evalOp P o d F L ρ K':=by
 cases o
 case box t x =>
  simp only[evalOp] at h ⊢;cases d with
  | none=>exact h.elim
  | some k =>
   simp only[] at h ⊢;generalize L.get k=z at h ⊢;cases z with
   | none=>exact fun g=>p _ _ _ (h g)
   | some _=>exact h.elim
 case boxD t x =>
  simp only[evalOp] at h ⊢;cases d with
  | none=>exact h.elim
  | some k =>
   simp only[] at h ⊢;generalize L.get k=z at h ⊢;cases z with
   | none=>exact fun g r=>p _ _ _ (h g r)
   | some _=>exact h.elim
 case boxF t x=>exact fun g F' a b=>p _ _ _ (h g F' a b)
 case alloc t z =>
  simp only[evalOp] at h ⊢;cases d with
  | none=>exact h.elim
  | some k =>
   simp only[] at h ⊢;generalize L.get k=z at h ⊢;cases z with
   | none=>exact fun g=>p _ _ _ (h g)
   | some _=>exact h.elim
 case allocD t z =>
  simp only[evalOp] at h ⊢;cases d with
  | none=>exact h.elim
  | some k =>
   simp only[] at h ⊢;generalize L.get k=z at h ⊢;cases z with
   | none=>exact fun g r=>p _ _ _ (h g r)
   | some _=>exact h.elim
 case mkF e n sz xs =>
  simp only[evalOp] at h ⊢;generalize eU L ρ sz xs=z at h ⊢;cases z with
  | true=>exact fun g F' a b=>p _ _ _ (h g F' a b)
  | false=>exact h.elim
 case mkFD e n sz xs =>
  simp only[evalOp] at h ⊢;generalize eU L ρ sz xs=z at h ⊢;cases z with
  | true=>exact fun g F' a b c=>p _ _ _ (h g F' a b c)
  | false=>exact h.elim
 case mkR e n sz xs =>
  simp only[evalOp] at h ⊢;generalize eU L ρ sz xs=z at h ⊢;cases z with
  | false=>exact h.elim
  | true =>
   cases d with
   | none=>exact h.elim
   | some k =>
    simp only[] at h ⊢;generalize L.get k=z at h ⊢;cases z with
    | none=>exact fun g=>p _ _ _ (h g)
    | some _=>exact h.elim
 case s2b e x =>
  simp only[evalOp] at h ⊢;generalize ev ρ x=z at h ⊢;split at h
  ·exact fun g c F' a b e=>p _ _ _ (h g c F' a b e)
  ·exact h.elim
 case makeS e sz b zs l c =>
  simp only[evalOp] at h ⊢;generalize ev ρ l=z1 at h ⊢;generalize ev ρ c=z2 at h ⊢;split at h
  ·rename_i k;generalize L.get k=z at h ⊢;cases z with
   | none=>exact⟨h.lo,h.le,h.hi,h.max,fun g=>p _ _ _ (h.out g)⟩
   | some _=>exact h.elim
  ·exact h.elim
 case storeX n a x =>
  simp only[evalOp] at h ⊢;generalize eT (aH (val L ρ x)) n=z1 at h ⊢;generalize iS (aH (val L ρ x))=z2 at h ⊢;generalize ev ρ a=z3 at h ⊢;split at h
  ·rename_i k off;generalize L.get k=z at h ⊢;split at h
   ·rename_i t cs;generalize iB t ((cs.drop off).take n) n=b at h ⊢;cases b
    ·exact h.elim
    ·exact fun r=>p _ _ _ (h r)
   ·exact h.elim
  ·exact⟨let⟨k,v,t,sz,m,xs,ad,c,q,y,u,h4,h5,h6⟩:=h.out;⟨k,v,t,sz,m,xs,ad,c,q,y,u,h4,h5,fun r=>p _ _ _ (h6 r)⟩⟩
  ·exact⟨let⟨k,v,t,sz,m,xs,ad,c,q,y,u,h4,h5,h6⟩:=h.out;⟨k,v,t,sz,m,xs,ad,c,q,y,u,h4,h5,fun r=>p _ _ _ (h6 r)⟩⟩
  ·exact h.elim
 case store n a x =>
  simp only[evalOp] at h ⊢;generalize eT (aH (val L ρ x)) n=z1 at h ⊢;generalize iS (aH (val L ρ x))=z2 at h ⊢;generalize ev ρ a=z3 at h ⊢;split at h
  ·rename_i k off;generalize L.get k=z at h ⊢;split at h
   ·rename_i t cs;generalize iB t ((cs.drop off).take n) n=b at h ⊢;cases b
    ·exact h.elim
    ·exact p _ _ _ h
   ·exact h.elim
  ·exact⟨h.out.imp (fun h=>⟨let⟨k,v,t,sz,m,xs,ad,c,q,y,u,h4,h5,h6⟩:=h.out;⟨k,v,t,sz,m,xs,ad,c,q,y,u,h4,h5,p _ _ _ h6⟩⟩) fun⟨q1,q2,q3⟩=>⟨q1,q2,p _ _ _ q3⟩⟩
  ·exact⟨h.out.imp (fun h=>⟨let⟨k,v,t,sz,m,xs,ad,c,q,y,u,h4,h5,h6⟩:=h.out;⟨k,v,t,sz,m,xs,ad,c,q,y,u,h4,h5,p _ _ _ h6⟩⟩) fun⟨q1,q2,q3⟩=>⟨q1,q2,p _ _ _ q3⟩⟩
  ·exact h.elim
 case storeD n a x =>
  simp only[evalOp] at h ⊢;generalize eT (aH (val L ρ x)) n=z1 at h ⊢;generalize iS (aH (val L ρ x))=z2 at h ⊢;generalize ev ρ a=z3 at h ⊢;split at h
  ·rename_i k off;generalize L.get k=z at h ⊢;split at h
   ·rename_i t cs;generalize iB t ((cs.drop off).take n) n=b at h ⊢;cases b
    ·exact h.elim
    ·exact p _ _ _ h
   ·exact h.elim
  ·exact h.elim
 case storeK key n a x =>
  obtain⟨n',a',x',k,off,g,t,cs,ho,e1,e2,e3,e4,e5,h⟩:=hU rfl h;exact gP ho e1 e2 e3 e4 e5 (p _ _ _ h)
 case makeSD e sz n zs =>
  simp only[evalOp] at h ⊢;cases d with
  | none=>exact h.elim
  | some k =>
   simp only[] at h ⊢;split at h
   ·exact fun g r=>p _ _ _ (h g r)
   ·exact h.elim
 case makeSV e sz b zs x =>
  simp only[evalOp] at h ⊢;cases d with
  | none=>exact h.elim
  | some k =>
   simp only[] at h ⊢;split at h
   ·exact fun g r=>p _ _ _ (h g r)
   ·exact h.elim
 case call f args =>
  simp only[evalOp] at h ⊢;exact cV.imp h fun _ _ _ h=>p _ _ _ h
 case callV f args =>
  simp only[evalOp] at h ⊢;generalize kY P (ev ρ f)=z at h ⊢;split at h
  ·exact cV.imp h fun _ _ _ h=>p _ _ _ h
  ·generalize xW P (ev ρ f) (bf L ρ args)=z at h ⊢;split at h
   ·exact cV.imp h fun _ _ _ h=>p _ _ _ h
   ·exact h.elim
 case look x i =>
  simp only[evalOp] at h ⊢;generalize ev ρ x=z1 at h ⊢;generalize ev ρ i=z2 at h ⊢;split at h
  ·exact⟨let⟨k,r,b,q,y,u⟩:=h.out;⟨k,r,b,q,y,p _ _ _ u⟩⟩
  ·exact h.elim
 case callO f args =>
  simp only[evalOp] at h ⊢;exact cV.imp h fun _ _ _ h r=>p _ _ _ (h r)
 case callVO f args =>
  simp only[evalOp] at h ⊢;generalize kY P (ev ρ f)=z at h ⊢;split at h
  ·exact cV.imp h fun _ _ _ h r=>p _ _ _ (h r)
  ·exact h.elim
 case callD f args =>
  simp only[evalOp] at h ⊢;exact dP.imp' h fun _ _ _ h=>p _ _ _ h
 case callVD f args =>
  simp only[evalOp] at h ⊢;generalize kY P (ev ρ f)=z at h ⊢;split at h
  ·exact dP.imp' h fun _ _ _ h=>p _ _ _ h
  ·exact h.elim
 case app e sz b zs s x =>
  simp only[evalOp] at h ⊢;generalize ev ρ s=z1 at h ⊢;generalize ev ρ x=z2 at h ⊢;split at h
  ·exact⟨let⟨kd,n,xs,m,news,q,y,u,h4,h5,h6⟩:=h.out;⟨kd,n,xs,m,news,q,y,u,h4,h5,fun v hv=>p _ _ _ (h6 v hv)⟩⟩
  ·exact h.elim
 case appX e sz b zs s x =>
  simp only[evalOp] at h ⊢;generalize ev ρ s=z1 at h ⊢;generalize ev ρ x=z2 at h ⊢;split at h
  ·exact⟨let⟨kd,n,xs,m,news,q,y,u,h4,h5,h6⟩:=h.out;⟨kd,n,xs,m,news,q,y,u,h4,h5,fun v hv r=>p _ _ _ (h6 v hv r)⟩⟩
  ·exact h.elim
 case appD e sz b zs s x =>
  simp only[evalOp] at h ⊢;generalize ev ρ s=z1 at h ⊢;generalize ev ρ x=z2 at h ⊢;split at h
  ·exact⟨let⟨kd,n,xs,m,news,q,y,u,h4,h5,h6⟩:=h.out;⟨kd,n,xs,m,news,q,y,u,h4,h5,fun v hv r=>p _ _ _ (h6 v hv r)⟩⟩
  ·exact h.elim
 case appS e s x =>
  simp only[evalOp] at h ⊢;generalize ev ρ s=z1 at h ⊢;generalize ev ρ x=z2 at h ⊢;split at h
  ·exact⟨let⟨kd,n,xs,q,y,u,h4⟩:=h.out;⟨kd,n,xs,q,y,u,fun v hv=>p _ _ _ (h4 v hv)⟩⟩
  ·exact h.elim
 case appZ e b ki s x =>
  simp only[evalOp] at h ⊢;generalize ev ρ s=z1 at h ⊢;generalize ev ρ x=z2 at h ⊢;split at h
  ·split at h
   ·exact⟨let⟨kd,n,xs,q,y,u,h4⟩:=h.out;⟨kd,n,xs,q,y,u,fun v hv=>p _ _ _ (h4 v hv)⟩⟩
   ·exact h.elim
  ·exact h.elim
 case copy e sz dd x =>
  simp only[evalOp] at h ⊢;generalize ev ρ dd=z1 at h ⊢;generalize ev ρ x=z2 at h ⊢;split at h
  ·exact⟨let⟨k,n,v,nr,xs,ad,cr,cd,j,q,y,u,h4,h5⟩:=h.out;⟨k,n,v,nr,xs,ad,cr,cd,j,q,y,u,h4,p _ _ _ h5⟩⟩
  ·obtain⟨⟨k,n,v,nr,xs,ad,cr,cd,j,m,a,c,news,q,y,u,h4,h5,h6,h7,h8,h9⟩ | ⟨da,n,cd,a,m,c,q,y,u,h9⟩⟩:=h
   ·exact⟨.inl ⟨k,n,v,nr,xs,ad,cr,cd,j,m,a,c,news,q,y,u,h4,h5,h6,h7,h8,p _ _ _ h9⟩⟩
   ·exact⟨.inr ⟨da,n,cd,a,m,c,q,y,u,p _ _ _ h9⟩⟩
  ·exact h.elim
 case copyX e sz dd x =>
  simp only[evalOp] at h ⊢;generalize ev ρ dd=z1 at h ⊢;generalize ev ρ x=z2 at h ⊢;split at h
  ·obtain⟨⟨k,n,v,nr,xs,ad,cr,cd,j,m,a,c,news,q,y,u,h4,h5,h6,h7,h8,h9⟩ | ⟨da,n,cd,a,m,c,q,y,u,h9⟩⟩:=h
   ·exact⟨.inl ⟨k,n,v,nr,xs,ad,cr,cd,j,m,a,c,news,q,y,u,h4,h5,h6,h7,h8,fun r=>p _ _ _ (h9 r)⟩⟩
   ·exact⟨.inr ⟨da,n,cd,a,m,c,q,y,u,fun r=>p _ _ _ (h9 r)⟩⟩
  ·exact h.elim
 case pan x=>simp only[evalOp] at h
 case dead=>simp only[evalOp] at h
 case mkmap =>
  simp only[evalOp] at h ⊢;cases d with
  | none=>exact h.elim
  | some k =>
   simp only[] at h ⊢;generalize L.get k=z at h ⊢;cases z with
   | none=>exact fun g=>p _ _ _ (h g)
   | some _=>exact h.elim
 case mupd str x i v =>
  simp only[evalOp] at h ⊢;generalize ev ρ x=z1 at h ⊢;split at h
  ·obtain⟨k,cs,q,y,u,cs',h4,h5⟩:=h;exact⟨k,cs,q,y,u,cs',h4,p _ _ _ h5⟩
  ·exact h.elim
 case mrange x =>
  simp only[evalOp] at h ⊢;generalize ev ρ x=z1 at h ⊢;split at h
  ·rename_i g k;generalize L.get k=z at h ⊢;cases z with
   | none =>
    obtain⟨km,cs,q,y,u⟩:=h;exact⟨km,cs,q,y,fun gi=>p _ _ _ (u gi)⟩
   | some _=>exact h.elim
  ·exact h.elim
 case mnext x =>
  simp only[evalOp] at h ⊢;generalize ev ρ x=z1 at h ⊢;split at h
  ·split at h
   ·rename_i hL;obtain⟨km,cs,q,y,u,h4,h5⟩:=h.out;exact⟨km,cs,q,y,u,fun j e a b=>p _ _ _ (h4 j e a b),fun a=>p _ _ _ (h5 a)⟩
   ·exact h.elim
  ·exact h.elim
 case mentry x =>
  simp only[evalOp] at h ⊢;generalize ev ρ x=z1 at h ⊢;split at h
  ·split at h
   ·obtain⟨km,cs,j,e,q,y,u,h4,h5,h6⟩:=h.out;exact⟨km,cs,j,e,q,y,u,h4,h5,p _ _ _ h6⟩
   ·exact h.elim
  ·exact h.elim
 all_goals
  simp only[evalOp] at h ⊢;exact Bm h fun v h=>p _ _ _ h
theorem CI {s s':dS}(h:drawn s=some s'):jW s'=false:=by
 cases s<;>simp only[drawn,WY,reduceCtorEq] at h<;>subst h<;>rfl
theorem Bo {bx:List Nat}{s s':dS}(h:mW bx s=some s'):jW s'=false:=by
 unfold mW at h;split at h
 ·split at h
  ·split at h
   ·injection h with h;subst h;rfl
   ·cases h
  ·split at h
   ·split at h
    ·injection h with h;subst h;rfl
    ·cases h
   ·cases h
 ·injection h with h;subst h;rfl
 ·split at h<;>(injection h with h;subst h;rfl)
 ·split at h<;>(injection h with h;subst h;rfl)
 ·exact CI h
theorem Bp {fl bx:List Nat}{bk:List (Nat×Nat)}{s s':dS}(h:sV fl bk bx s=some s'):jW s'=false:=by
 rcases vF h with h | ⟨a,n,i,rfl,rfl⟩ | ⟨a,n,i,key,rfl,rfl⟩ | ⟨a,n,i,rfl,rfl⟩ | ⟨i,rfl,rfl⟩
 ·exact Bo h
 ·rfl
 ·rfl
 ·rfl
 ·rfl
theorem Bq {s s':dS}(h:vD s=some s'):jW s'=false:=by
 cases s<;>simp only[vD,WY,reduceCtorEq] at h<;>subst h<;>rfl
theorem ug {A:cP}{f:Array Oper}:∀{is:List Nat}{ss:List ak},eF P A f is=some ss->∀s∈ss,(∃d o g,s=.op d o g/\jW o=false)\/∃d o,s=.pc d o none/\AU o=true:=by
 intro is
 induction is with
 | nil=>intro ss h s e;simp only[eF,WY] at h;subst h;cases e
 | cons i is l =>
  intro ss h s e;simp only[eF] at h;split at h
  case h_2=>cases h
  rename_i m j b k;injection h with h
  subst h;rcases W7.1 e with rfl | e
  ·unfold zm at b;split at b
   case h_1=>cases b
   split at b
   case h_2=>cases b
   split at b
   ·split at b
    case h_3=>cases b
    ·injection b with b
     exact .inr ⟨_,_,b.symm,rfl⟩
    ·injection b with b
     exact .inr ⟨_,_,b.symm,rfl⟩
   ·split at b
    ·split at b
     case h_2=>cases b
     rename_i s' c;injection b with b
     exact .inl ⟨_,s',_,b.symm,Bq c⟩
    ·split at b
     case h_2=>cases b
     rename_i s' c;split at b
     case h_2=>cases b
     injection b with b
     exact .inl ⟨_,s',_,b.symm,Bp c⟩
  ·exact l k s e
theorem Br:∀{ss:List ak},Dl ss=true->∀d o g,ak.pc d o g∉ss
 | [],_,d,o,g,h=>by cases h
 | .op _ _ _::l,b,d,o,g,h=>by
  rcases W7.1 h with h | h
  ·cases h
  ·exact Br (ss:=l) b d o g h
 | .frz _::l,b,d,o,g,h=>by cases b
 | .pc _ _ _::l,b,d,o,g,h=>by cases b
theorem E0 {A:cP}{b:Array Oper}{is:List Nat}{ss:List ak}(f:eF P A b is=some ss) (e:Dl ss=true):∀s∈ss,∃d o g,s=.op d o g/\jW o=false:=by
 intro s c;rcases ug f s c with h | ⟨d,o,rfl,_⟩
 ·exact h
 ·exact xo c (Br e _ _ _)
theorem wA {K:TK}:∀(ss:List ak),(∀s∈ss,∃d o g,s=ak.op d o g/\jW o=false)->∀{F:aA}{L:Loc}{ρ:Env}{M:TL}{τ:aT},TS G F L ρ M τ->dn P PS true ss M τ K->aU P ss F L ρ (Both G K)
 | [],_,F,L,ρ,M,τ,c,h=>⟨M,τ,c,h⟩
 | s::ss,u,F,L,ρ,M,τ,c,h=>by
  obtain⟨d,o,g,rfl,z⟩:=u s (by simp);have f:∀s∈ss,∃d o g,s=ak.op d o g/\jW o=false:=fun s hs=>u s (by simp[hs]);have e:∀{ρ:Env}{τ:aT},TS G F L ρ M τ->bH P o d M τ (fun M' m=>dn P PS true ss M' m K)->evalOp P o d F L ρ (fun F' L' ρ'=>aU P ss F' L' ρ' (Both G K)):=by
   intro ρ τ c h;have:=Hj z c h;exact wz this fun F' L' ρ' ⟨M',m,y,h2⟩=>wA ss f y h2
  cases g with
  | none =>
   simp only[eP,stepT] at h;simp only[aU];exact e c h
  | some p =>
   obtain⟨s,l⟩:=p;simp only[eP,stepT] at h;simp only[aU];split at h
   ·rename_i b hb;have k:ρ s=.v (.bool b):=gT (x:=.t s) c.env hb;simp only[k];have j:∀n,b=n->TS G F L (Fr.put (some s) (.v (.bool n)) ρ) M (bw (some s) (.bool n) τ):=fun n _=>c.put cB (some s);have r:∀{ρ:Env}{τ:aT},TS G F L ρ M τ->TS G F L (Fr.put d (.v undef) ρ) M (bw d .und τ):=fun c=>c.put pW d;cases b<;>simp only[vh] at h ⊢<;>cases l<;>simp only[] at h ⊢
    ·exact e (j _ rfl) h
    ·exact wA ss f (r (j _ rfl)) h
    ·exact wA ss f (r (j _ rfl)) h
    ·exact e (j _ rfl) h
   ·rename_i hb;have q:=c.env s;rw[hb] at q;simp only[aN,Rel] at q;obtain⟨v,k,rfl⟩:=q;simp only[k,undef];exact wA ss f (c.put pW d) h
   ·exact h.elim
theorem qu:∀{ss:List ak},yA ss M=true->∀s∈ss,∀k,rV s=some k->M.get k=none
 | [],_,s,b,_,_=>by cases b
 | x::l,h,s,b,k,e=>by
  unfold yA at h;rcases W7.1 b with rfl | b
  ·rw[e] at h;simp only[] at h;cases c:M.get k with
   | none=>rfl
   | some o=>rw[c] at h;cases h
  ·split at h
   ·exact qu h s b k e
   ·split at h
    ·exact qu h s b k e
    ·cases h
theorem lz {K:TK}{fb:List Nat}:∀(ss:List ak),(∀s∈ss,(∃d o g,s=ak.op d o g/\jW o=false)\/∃d o,s=ak.pc d o none/\AU o=true)->∀{F:aA}{L:Loc}{ρ:Env}{M:TL}{τ:aT},TS G F L ρ M τ->jQ P PS fb ss M τ K->bg P (xu G PS) fb ss F L ρ (Both G K)
 | [],_,F,L,ρ,M,τ,e,h=>⟨M,τ,e,h⟩
 | s::ss,hc,F,L,ρ,M,τ,e,h=>by
  have m:∀s∈ss,(∃d o g,s=ak.op d o g/\jW o=false)\/∃d o,s=ak.pc d o none/\AU o=true:=fun s hs=>hc s (by simp[hs]);rcases hc s (by simp) with⟨d,o,g,rfl,ho⟩ | ⟨d,o,rfl,ho⟩
  case inr =>
   cases o<;>simp only[AU,Xd] at ho
   ·rename_i f l;simp only[jh,yB,Cw,eB,dV,dG] at h;simp only[bg,qz];split at h
    case h_1 =>
     rename_i st j;refine(pT e (cL e.env l) (show PS=⟨PS.ps,PS.hb,some st⟩ by rw[<-j]) h).imp fun F' L' v _ _ _ _ _ h=>?_;obtain⟨M',n,c,q,r,y⟩:=h;exact lz ss m (q.put r d) y
    rename_i j;refine(ou e (cL e.env l) h j).imp fun F' L' v _ _ _ _ _ h=>?_;obtain⟨M',n,c,q,r,y⟩:=h;exact lz ss m (q.put r d) y
   ·rename_i fx l;simp only[jh,yB,Cw] at h;split at h
    ·rename_i f fi ca hx;simp only[eB,dV,dG] at h;obtain⟨ar,ap,e1,q,r⟩:=ru e.env hx;simp only[bg,qz,e1,kY];split at h
     case h_1 =>
      rename_i st j;refine(pT e (iV e.env q r l) (show PS=⟨PS.ps,PS.hb,some st⟩ by rw[<-j]) h).imp fun F' L' v _ _ _ _ _ h=>?_;obtain⟨M',n,c,q,r,y⟩:=h;exact lz ss m (q.put r d) y
     rename_i j;refine(ou e (iV e.env q r l) h j).imp fun F' L' v _ _ _ _ _ h=>?_;obtain⟨M',n,c,q,r,y⟩:=h;exact lz ss m (q.put r d) y
    ·rename_i nm t k off hx;simp only[eB,dV,dG] at h;obtain⟨g,t',cs,hg,e1⟩:=oe e.env hx;obtain⟨f',hm,h⟩:=h;have z:aB F L (.own k off::dM τ l) ([.pointer (some ⟨g,off,none⟩)]++bf L ρ l++[]):=by
      rw[Xp];simp only[Xk,XD,aB,Rel];exact⟨_,_,rfl,⟨g,t',cs,hg,rfl⟩,cL e.env l⟩
     simp only[bg,qz,e1,Ba,kY,hm];split at h
     case h_1 =>
      rename_i st j;refine(pT e z (show PS=⟨PS.ps,PS.hb,some st⟩ by rw[<-j]) h).imp fun F' L' v _ _ _ _ _ h=>?_;obtain⟨M',n,c,q,r,y⟩:=h;exact lz ss m (q.put r d) y
     rename_i j;refine(ou e z h j).imp fun F' L' v _ _ _ _ _ h=>?_;obtain⟨M',n,c,q,r,y⟩:=h;exact lz ss m (q.put r d) y
    ·exact h.elim
  have u:∀{ρ:Env}{τ:aT},TS G F L ρ M τ->bH P o d M τ (fun M' n=>jQ P PS fb ss M' n K)->evalOp P o d F L ρ (fun F' L' ρ'=>bg P (xu G PS) fb ss F' L' ρ' (Both G K)):=by
   intro ρ τ e h;have:=Hj ho e h;exact wz this fun F' L' ρ' ⟨M',n,q,r⟩=>lz ss m q r
  cases g with
  | none =>
   simp only[jh,yB,stepT] at h;exact⟨o,rfl,u e h⟩
  | some p =>
   obtain⟨s,ad⟩:=p;simp only[jh,yB,stepT] at h;simp only[bg,res];have hu:∀{ρ:Env}{τ:aT},TS G F L ρ M τ->TS G F L (Fr.put d (.v undef) ρ) M (bw d .und τ):=fun e=>e.put pW d;have skip:∀{ρ:Env}{τ:aT},TS G F L ρ M τ->jQ P PS fb ss M (bw d .und τ) K->evalOp P gQ d F L ρ (fun F' L' ρ'=>bg P (xu G PS) fb ss F' L' ρ' (Both G K)):=by
    intro ρ τ e h;simp only[gQ,evalOp,aI,ev];exact lz ss m (hu e) h
   split at h
   ·rename_i b hb;have aa:ρ s=.v (.bool b):=gT (x:=.t s) e.env hb;have ab:TS G F L ρ M (bw (some s) (.bool b) τ):=by
     have:=e.put (cB (b:=b)) (some s)
     rwa [Fr.kg aa] at this
    simp only[aa];cases b<;>simp only[vh] at h ⊢<;>cases ad<;>simp only[reduceCtorEq,↓reduceIte,WY,exists_eq_left'] at h ⊢
    ·exact u ab h
    ·exact skip ab h
    ·exact skip ab h
    ·exact u ab h
   ·rename_i hb;have hr:=e.env s;rw[hb] at hr;simp only[aN,Rel] at hr;obtain⟨v,aa,rfl⟩:=hr;simp only[aa,undef,WY,exists_eq_left'];exact skip e h
   ·exact h.elim
theorem Bs:∀(b:List Nat) (vs:List C) (τ:aT) (j:Nat),pJ b vs τ j=τ j\/∃(i:Nat) (c:C),b[i]?=some j/\vs[i]?=some c/\pJ b vs τ j=c
 | [],vs,τ,j=>.inl rfl
 | k::b,[],τ,j=>.inl rfl
 | k::b,v::vs,τ,j=>by
  simp only[pJ,zJ];split
  ·rename_i h;subst h;exact .inr ⟨0,v,by simp,by simp,rfl⟩
  ·rcases Bs b vs τ j with h | ⟨i,c,e,d,f⟩
   ·exact .inl h
   ·exact .inr ⟨i+1,c,by simpa using e,by simpa using d,f⟩
theorem yK {M1:TL}:∀{b:List Nat}{vs:List C}{τ:aT},mX M M1 b vs τ->∀{i j:Nat}{c:C},b[i]?=some j->vs[i]?=some c->Iq M M1 (τ j) c
 | [],vs,τ,h,i,j,c,e,_=>by simp at e
 | k::b,[],τ,h,i,j,c,_,e=>by simp at e
 | k::b,v::vs,τ,h,i,j,c,f,d=>by
  simp only[mX] at h;cases i with
  | zero=>simp at f d;subst f d;exact h.1
  | succ i=>exact yK h.2 (by simpa using f) (by simpa using d)
theorem yL {M1:TL}(l:TS G F L ρ M τ):∀{f:List Nat}{vs:List C},vs.length=f.length->mX M M1 f vs τ->gives M M1 M1->s9 vs
 | [],[],_,_,_=>by simp only[s9]
 | [],v::vs,c,_,_=>by simp at c
 | k::f,[],c,_,_=>by simp at c
 | k::f,v::vs,c,h,m=>by
  simp only[mX] at h;simp only[s9];refine⟨?_,yL l (by simpa using c) h.2 m⟩;have d:=kH (l.env k);rcases h.1 with e | ⟨e,_⟩ | ⟨j,b⟩ | ⟨j,n,t,sz,b,_⟩ | ⟨els,j,b⟩
  ·rw[e];simp only[Wf]
  ·rw[e] at d;have:=d.wf
   revert this
   cases v<;>simp[C.cel,Wf]
  ·rw[b];simp[Wf,vO]
  ·rw[b];simp only[Wf]
  ·rw[j] at d;have:=(tv d).wf;rw[b];exact this
theorem MZ {M:TL}(d:cO F L M):∀{l:TL},(∀k o,l.get k=some o->M.get k=some o)->∀k o,l.get k=some o->o.Wf:=by
 intro l h k o e;rcases dR (d k) with⟨b,_⟩ | ⟨q,p,b,f,c⟩
 ·rw[h k o e] at b;cases b
 ·rw[h k o e] at b;injection b with b
  subst b;exact c.wf
theorem E4 {L':Loc}{F':aA}(l:F.le F') (r:∀k g t cs,L.get k=some (.box g t cs)->∃cs',L'.get k=some (.box g t cs')) :
  (∀c v,C.leaf c=true->Rel F L c v->Rel F' L' (pH c) v)/\(∀c sv,C.leaf c=true->aN F L c sv->aN F' L' (pH c) sv):=by
 have hb:∀{k:Nat},(∃g t cs,L.get k=some (.box g t cs))->∀o,L.get k=some o->∃o',L'.get k=some o'/\Own.like o o':=by
  intro k p o n;obtain⟨g,t,cs,p⟩:=p;rw[p] at n;injection n with n
  subst n;obtain⟨cs',h⟩:=r k g t cs p;exact⟨_,h,rfl,rfl⟩
 constructor
 ·intro c v q h;cases c<;>simp only[C.leaf,Xd] at q<;>simp only[pH]
  case rw=>simp only[Rel]
  case elr=>simp only[Rel]
  case own k off =>
   have d:=h;simp only[Rel] at d;obtain⟨g,t,cs,f,_⟩:=d;refine bq l (fun j e=>?_) rfl h;rcases e with⟨off,e⟩ | e | e | ⟨_,_,_,e⟩ | ⟨_,_,e⟩
   ·injection e with e e2;subst e;exact hb ⟨g,t,cs,f⟩
   ·cases e
   ·cases e
   ·cases e
   ·cases e
  case ifo m ti k off =>
   have d:=h;simp only[Rel] at d;obtain⟨g,t,cs,f,_⟩:=d;refine bq l (fun j e=>?_) rfl h;rcases e with⟨off,e⟩ | e | e | ⟨_,_,_,e⟩ | ⟨_,_,e⟩
   ·cases e
   ·cases e
   ·cases e
   ·injection e with _ _ e;subst e;exact hb ⟨g,t,cs,f⟩
   ·cases e
  case slo k a =>
   have d:=h;simp only[Rel] at d;obtain⟨g,t,cs,u,f,_⟩:=d;exact qm l (hb ⟨g,t,cs,f⟩) h
  case slp=>simp only[Rel]
  case mpr k =>
   have d:=h;simp only[Rel] at d;obtain⟨g,cs,f,_⟩:=d;refine bq l (fun j e=>?_) rfl h;rcases e with⟨off,e⟩ | e | e | ⟨_,_,_,e⟩ | ⟨_,_,e⟩
   ·cases e
   ·cases e
   ·injection e with e;subst e;exact hb ⟨g,0,cs,f⟩
   ·cases e
   ·cases e
  all_goals
   exact bq l (fun s e=>by rcases e with⟨off,e⟩ | e | e | ⟨_,_,_,e⟩ | ⟨_,_,e⟩<;>cases e) rfl h
 ·intro c sv q h;cases c<;>simp only[C.leaf,Xd] at q<;>simp only[pH]
  case rw=>trivial
  case elr=>trivial
  case own k off =>
   have d:=h;simp only[aN] at d;refine cK l (fun j e=>?_) rfl h;rcases e with⟨off,e⟩ | ⟨off,e⟩ | e | ⟨a,b,e⟩ | e | ⟨_,_,_,e⟩<;>first | cases e;done | skip
   injection e with e e2
   subst e;exact hb d.2
  case ifo m ti k off =>
   have d:=h;simp only[aN,Rel] at d;obtain⟨v,_,g,t,cs,f,_⟩:=d;refine cK l (fun j e=>?_) rfl h;rcases e with⟨off,e⟩ | ⟨off,e⟩ | e | ⟨a,b,e⟩ | e | ⟨_,_,_,e⟩<;>first | cases e;done | skip
   injection e with _ _ e
   subst e;exact hb ⟨g,t,cs,f⟩
  case ownv k off =>
   have d:=h;simp only[aN,Rel] at d;obtain⟨v,_,g,t,cs,f,_⟩:=d;refine cK l (fun j e=>?_) rfl h;rcases e with⟨off,e⟩ | ⟨off,e⟩ | e | ⟨a,b,e⟩ | e | ⟨_,_,_,e⟩<;>first | cases e;done | skip
   injection e with e e2
   subst e;exact hb ⟨g,t,cs,f⟩
  case slo k a =>
   have d:=h;simp only[aN,Rel] at d;obtain⟨v,_,g,t,cs,u,f,_⟩:=d;exact rZ l (hb ⟨g,t,cs,f⟩) h
  case slp=>trivial
  case mpr k =>
   have d:=h;simp only[aN,Rel] at d;obtain⟨v,_,g,cs,f,_⟩:=d;refine cK l (fun j e=>?_) rfl h;rcases e with⟨off,e⟩ | ⟨off,e⟩ | e | ⟨a,b,e⟩ | e | ⟨_,_,_,e⟩<;>first | cases e;done | skip
   injection e with e
   subst e;exact hb ⟨g,0,cs,f⟩
  all_goals
   exact cK l (fun s e=>by rcases e with⟨off,e⟩ | ⟨off,e⟩ | e | ⟨a,b,e⟩ | e | ⟨_,_,_,e⟩<;>cases e) rfl h
def E5 (L:Loc) (c:C) (v:Value):SV:=match c with
 | .own k off=>.own k off
 | .elr k j off=>match L.get k with
  | some (.row (.slice a _ _) _ sz _ _)=>.el a (j*sz+off)
  | _=>.v v
 | _=>.v v
theorem zN {c:C}{v:Value}(h:Rel F L c v):aN F L c (E5 L c v)/\conc L (E5 L c v)=v/\(∀k off,E5 L c v=.own k off->∃g t cs,L.get k=some (.box g t cs))/\(∀f j,E5 L c v=.el f j->f≠none):=by
 cases c
 case own k off =>
  simp only[Rel] at h;obtain⟨g,t,cs,h,rfl⟩:=h;refine⟨⟨rfl,g,t,cs,h⟩,by simp only[E5,conc,h],fun l d e=>?_,fun f j e=>(by cases e)⟩;injection e with e1 e2
  subst e1;exact⟨g,t,cs,h⟩
 case pt es off =>
  simp only[Rel] at h;obtain⟨b,o,vs,rfl,q,p⟩:=h;exact⟨⟨b,o,0,vs,.inl ⟨rfl,rfl⟩,q,p⟩,rfl,fun l d e=>(by cases e),fun f j e=>(by cases e)⟩
 case ownv=>exact h.elim
 case slp=>exact h.elim
 case elr k j off =>
  simp only[Rel] at h;obtain⟨f,t,sz,n,c,xs,rfl,h⟩:=h;simp only[E5,h];exact⟨⟨f,t,sz,n,c,xs,rfl,h⟩,rfl,fun l d e=>(by cases e),fun m r e=>by injection e with e _;subst e;simp⟩
 case any=>exact⟨trivial,rfl,fun l d e=>(by cases e),fun f j e=>(by cases e)⟩
 all_goals
  exact⟨⟨v,rfl,h⟩,rfl,fun l d e=>(by cases e),fun f j e=>(by cases e)⟩
theorem Ho {F0:aA}{L0:Loc}{b:Env}{d:aT}{y m:Act}{asg:List Nat}{r:List Nat}{vs:List C}{L1:Loc}{F1:aA}(f:aC L0 b y) (u:∀j,aN F0 L0 (d j) (b j)) (hF:F0.le F1)
  (hb:∀k g t cs,L0.get k=some (.box g t cs)->∃cs',L1.get k=some (.box g t cs')) (s:∀j,j∉asg->m.tmps.getD j undef=y.tmps.getD j undef)
  (hv:∀(i j:Nat) c,r[i]?=some j->vs[i]?=some c->Rel F1 L1 c (m.tmps.getD j undef)) :
  ∃n,aC L1 n m/\∀j,aN F1 L1 (pJ r vs (r9 asg d) j) (n j):=by
 have key:∀j,∃sv,aN F1 L1 (pJ r vs (r9 asg d) j) sv/\conc L1 sv=m.tmps.getD j undef/\(∀k off,sv=.own k off->∃g t cs,L1.get k=some (.box g t cs))/\(∀p i,sv=.el p i->p≠none):=by
  intro j;rcases Bs r vs (r9 asg d) j with h | ⟨i,c,h1,h2,h3⟩
  ·rw[h];simp only[r9];split
   ·exact⟨.v (m.tmps.getD j undef),trivial,rfl,fun _ _ e=>(by cases e),fun _ _ e=>(by cases e)⟩
   ·rename_i z;have hj:j∉asg:=fun h=>by rw[cH.2 h] at z;cases z
    obtain⟨u1,u2⟩:=E4 hF hb;refine⟨b j,aN.mp u1 u2 3 (u j),?_,?_,f.el j⟩
    ·rw[s j hj,f.eq j];cases e:b j with
     | v x=>rfl
     | el x i=>rfl
     | own k off =>
      obtain⟨g,t,cs,q⟩:=f.own j k off e;obtain⟨cs',l⟩:=hb _ _ _ _ q;simp only[conc,q,l]
    ·intro k off e;obtain⟨g,t,cs,q⟩:=f.own j k off e;obtain⟨cs',l⟩:=hb _ _ _ _ q;exact⟨g,t,cs',l⟩
  ·rw[h3];obtain⟨s1,s2,s3,s4⟩:=zN (hv i j c h1 h2);exact⟨_,s1,s2,s3,s4⟩
 refine⟨fun j=>(key j).choose,⟨fun t=>?_,fun t k off e=>?_,fun t p j e=>?_⟩,fun j=>(key j).choose_spec.1⟩
 ·exact(key t).choose_spec.2.1.symm
 ·exact(key t).choose_spec.2.2.1 k off e
 ·exact(key t).choose_spec.2.2.2 p j e
theorem yM {n:Nat}{F:aA}{L:Loc}{w:World}{a:Act}{asg:List Nat}{K K':cE}{b:Act}{w':World}(h:dY n F L w a asg K b w') (c:∀{F' L' ρ'},K F' L' ρ'->K' F' L' ρ'):dY n F L w a asg K' b w':=by
 obtain⟨F',L',ρ',f,l,k,j,m,e,d⟩:=h;exact⟨F',L',ρ',f,l,k,j,m,e,c d⟩
theorem xI {P:Program}{PS:oV}{G:Nat->Option (Nat×TypeId)}{a:Act}{w:World}{b:List ak}{K:TK}:∀(ks:List Nat) {F:aA}{L:Loc}{ρ:Env}{M:TL}{τ:aT},sD G PS ks->St F L w->aC L ρ a->TS G F L ρ M τ->dn P PS false (ks.map ak.frz++b) M τ K ->
  ∃F' L' ρ' M' c,St F' L' w/\aC L' ρ' a/\Step F L w F' L' w/\TS G F' L' ρ' M' c/\dn P PS false b M' c K:=by
 intro ks
 induction ks with
 | nil=>intro F L ρ M τ _ n l d h;exact⟨F,L,ρ,M,τ,n,l,Step.refl _ _ _,d,h⟩
 | cons k ks f =>
  intro F L ρ M τ p n l d h;simp only[Xa,Xk,eP] at h;obtain⟨F1,L1,aa,M1,t,r,v,y,g4,h⟩:=Bn n l d (p k (by simp)) h;obtain⟨F2,L2,e,M2,m,s,x,k3,u,q⟩:=f (fun j z=>p j (by simp[z])) r v g4 h;exact⟨F2,L2,e,M2,m,s,x,y.trans k3,u,q⟩
theorem E6:∀{ks:List Nat}{ss:List ak},∀k∈ks,k∈ig (xH ks (.regD ss))
 | [],_,k,h=>by cases h
 | j::l,ss,k,h=>by
  have:∀(l:List Nat),∀k∈l,k∈dw (l.map ak.frz):=by
   intro l
   induction l with
   | nil=>intro k h;cases h
   | cons j l b =>
    intro k h;simp only[Xa,dw,W7] at h ⊢;exact h.imp id (b k)
  exact W4.2 (.inl (this (j::l) k h))
theorem Bt {P:Program}{PS:oV}{G:Nat->Option (Nat×TypeId)}{ρ:Env}{a:Act}{w:World}{ss:List ak}{E:Nat->TK}{R N:TK}{F:aA}{L:Loc}{M:TL}{τ:aT}:∀(ks:List Nat),sD G PS (ig (xH ks (.regD ss)))->St F L w->aC L ρ a->TS G F L ρ M τ->eJ P PS (xH ks (.regD ss)) E R N M τ ->
  ∃F' L' ρ' M' b,St F' L' w/\aC L' ρ' a/\Step F L w F' L' w/\TS G F' L' ρ' M' b/\dn P PS true ss M' b N
 | [],_,m,f,c,h=>⟨F,L,ρ,M,τ,m,f,Step.refl _ _ _,c,h⟩
 | k::l,n,m,f,c,h=>by
  have v:dn P PS false ((k::l).map ak.frz++[]) M τ (fun M τ=>dn P PS true ss M τ N):=by rw[Xp];exact h
  obtain⟨F1,L1,e,M1,d,p,t,r,q,u⟩:=xI (k::l) (fun j s=>n j (E6 j s)) m f c v;exact⟨F1,L1,e,M1,d,p,t,r,q,u⟩
theorem qw {M:TL}:∀{ks:List Nat},rp M ks=true->∀k∈ks,∀o,M.get k=some o->zM o=true
 | [],_,k,h,_,_=>by cases h
 | j::ks,b,k,h,o,e=>by
  simp only[rp] at b;split at b
  ·cases b
  ·cases b
  ·cases b
  ·rename_i f c d;rcases W7.1 h with rfl | h
   ·cases o with
    | box t cs=>exact xo e (f _ _)
    | map es=>exact xo e (c _)
    | win t p cs q=>exact xo e (d _ _ _ _)
    | row=>rfl
   ·exact qw b k h o e
theorem E7 {M:TL}{ks:List Nat}(b:rp M ks=true) (k:Nat) (h:k∈ks) (t:TypeId) (cs:List C):M.get k≠some (.box t cs):=fun e=>by cases qw b k h _ e
theorem CJ {M:TL}{ks:List Nat}(b:rp M ks=true) (k:Nat) (h:k∈ks) (es:List (C×C)):M.get k≠some (.map es):=fun e=>by cases qw b k h _ e
theorem oD {A:cP}:∀(c:Code) {sc:aJ},low P A c=some sc->∀{G:Nat->Option (Nat×TypeId)}{E:Nat->TK}{R N:TK}{F:aA}{L:Loc}{ρ:Env}{M:TL}{τ:aT}{a:Act}{w:World},sD G PS (ig sc)->St F L w->aC L ρ a->TS G F L ρ M τ->a.tmps.size=A.n ->
  eJ P PS sc E R N M τ->c.wp P (QQ A.n F L w a (cD c) (xu G PS) (fun j=>Both G (E j)) (Both G R) (Both G N)) a w:=by
 intro c
 induction c with
 | skip =>
  intro sc b G E R N F L ρ M τ a w m hs he z hn d;simp only[low,WY] at b;subst b;exact wp_skip ⟨F,L,ρ,hs,he,hn,rfl,Step.refl _ _ _,fun _ _=>rfl,M,τ,z,d⟩
 | label l =>
  intro sc b G E R N F L ρ M τ a w m hs he z hn d;simp only[low,WY] at b;subst b;exact wp_label ⟨F,L,ρ,hs,he,hn,rfl,Step.refl _ _ _,fun _ _=>rfl,M,τ,z,d⟩
 | exit id =>
  intro sc b G E R N F L ρ M τ a w m hs he z hn d;simp only[low,WY] at b;subst b;exact wp_exit ⟨F,L,ρ,hs,he,hn,rfl,Step.refl _ _ _,fun _ _=>rfl,M,τ,z,d⟩
 | ret =>
  intro sc b G E R N F L ρ M τ a w m hs he z hn d;simp only[low,WY] at b;subst b;exact wp_ret ⟨F,L,ρ,hs,he,hn,rfl,Step.refl _ _ _,fun _ _=>rfl,M,τ,z,d⟩
 | region r ff cY =>
  intro sc b G E R N F L ρ M τ a w m hs he z hn d;cases cY with
  | false =>
   simp only[low] at b;split at b
   case h_2=>cases b
   rename_i ss dl;injection b with b;subst b
   simp only[ku,lZ,kC,l9,kD,ji,kE,kF,mg] at d;exact wp_region (wu _ dl m hs he z hn d (fun a' w' h=>h) fun v ch a' w' hc h=>⟨v,hc,h⟩)
  | true =>
   simp only[low] at b;split at b
   case h_2=>cases b
   rename_i is cl ss h1 h2;have h4:rT A.ord r=is:=by simp only[rT,h1]
   rw[h4] at h2;split at b
   case h_2 =>
    split at b
    case h_2=>cases b
    rename_i h3;injection b with b;subst b
    rw[Bc] at d;split at d
    case h_2=>exact d.elim
    rename_i bv;split at d
    ·exact pE h2 h3 hs he hn (fun s hs k e=>bT z.tl (qu bv s hs k e)) (d.out G (xu G PS) (fun F L ρ M τ f args vs K h1 h2 h3=>ou h1 h2 h3 d.st) F L ρ ⟨w,hs⟩ z) (fun a' w' h=>h) fun v ch a' w' F' L' gc g1 g2 g3 g4 g5 g6=>⟨v,gc,F',L',g1,g2,g3,g4,g5,g6⟩
    exact pE h2 h3 hs he hn (fun s hs k e=>bT z.tl (qu bv s hs k e)) (lz ss (ug h2) z d) (fun a' w' h=>h) fun v ch a' w' F' L' gc g1 g2 g3 g4 g5 g6=>⟨v,gc,F',L',g1,g2,g3,g4,g5,g6⟩
   rename_i h0;split at b
   case h_2=>cases b
   rename_i h3;injection b with b;subst b
   obtain⟨F1,L1,ac,M1,ap,ax,az,ag,ad,d⟩:=Bt _ m hs he z d;exact q9 h2 h3 ax az hn (wA ss (E0 h2 h0) ad d) fun a' w' h=>dY.after (asg1:=[]) ag rfl (fun _ _=>rfl) h (fun _ h=>xo h List.not_mem_nil) (fun _ h=>h)
 | seq x y bk bj =>
  intro sc b G E R N F L ρ M τ a w m hs he z hn d;simp only[low] at b;split at b
  case h_2=>cases b
  rename_i h1 h2;injection b with b;subst b
  simp only[ku,lZ,kC,l9,kD,ji,kE,kF,mg] at d;refine wp_seq (wp_mono (bk h1 m.left hs he z hn d) ?_);intro e a1 w1 u;cases e with
  | normal =>
   obtain⟨F1,L1,ac,g1,g2,g3,g4,g5,g6,M1,ap,g7,g8⟩:=u;refine wp_mono (bj h2 m.right g1 g2 g7 g3 g8) ?_;intro e2 a2 w2 bz;cases e2<;>first
    | exact dY.after g5 g4 g6 bz (fun j h=>W4.2 (.inl h)) (fun j h=>W4.2 (.inr h))
    | exact(let⟨v,e,h⟩:=bz;⟨v,e,qH.after g5 g4 g6 h (fun j h=>W4.2 (.inl h)) (fun j h=>W4.2 (.inr h)) fun _ _ h=>h⟩)
    | exact bz
  | exit id=>exact u.mono fun j h=>W4.2 (.inl h)
  | ret=>exact u.mono fun j h=>W4.2 (.inl h)
  | goto l=>exact u
  | panic c=>exact(let⟨v,e,h⟩:=u;⟨v,e,h.mono fun j h=>W4.2 (.inl h)⟩)
  | outgrown=>exact u
 | cond c x y bk bj =>
  intro sc b G E R N F L ρ M τ a w m hs he z hn d;simp only[low] at b;split at b
  case h_2=>cases b
  rename_i h0 h1 h2;injection b with b;subst b
  simp only[ku,lZ,kC,l9,kD,ji,kE,kF,mg] at d;split at d
  case h_2=>exact d.elim
  rename_i t dT;have hc:a.eval c=.bool t:=by rw[aG h0 he,bB (gT z.env dT)]
  refine wp_cond hc ?_;cases t
  ·simp only[vh] at d;refine wp_mono (bj h2 m.right hs he z hn d) ?_;intro e a1 w1 u;cases e<;>first
    | exact u.mono fun j h=>W4.2 (.inr h)
    | exact(let⟨v,e,h⟩:=u;⟨v,e,h.mono fun j h=>W4.2 (.inr h)⟩)
    | exact u
  ·simp only[vh] at d;refine wp_mono (bk h1 m.left hs he z hn d) ?_;intro e a1 w1 u;cases e<;>first
    | exact u.mono fun j h=>W4.2 (.inl h)
    | exact(let⟨v,e,h⟩:=u;⟨v,e,h.mono fun j h=>W4.2 (.inl h)⟩)
    | exact u
 | block id x ih =>
  intro sc b G E R N F L ρ M τ a w m hs he z hn d;simp only[low] at b;split at b
  case h_2=>cases b
  rename_i h1;injection b with b;subst b
  simp only[ku,lZ,kC,l9,kD,ji,kE,kF,mg] at d;refine wp_block (wp_mono (ih h1 m hs he z hn d) ?_);intro e a1 w1 u;cases e with
  | exit j =>
   simp only[Exit.inBlock];simp only[QQ] at u
   by_cases hj:j=id
   ·subst hj;have hb:Nat.beq j j=true:=by simp
    rw[hb] at u;rw[j3 rfl];exact u
   ·have hb:Nat.beq j id=false:=by
     cases h:Nat.beq j id with
     | true=>exact xo (yo h) hj
     | false=>rfl
    rw[hb] at u;rw[vv hj];exact u
  | normal=>exact u
  | ret=>exact u
  | goto l=>exact u
  | panic c=>exact u
  | outgrown=>exact u
 | loop x ih =>
  intro sc b G E R N F L ρ M τ a w m hs he z hn d;simp only[low] at b;split at b
  case h_2=>cases b
  rename_i sx h1;injection b with b;subst b
  simp only[ku,lZ,kC,l9,kD,ji,kE,kF,mg] at d;split at d
  case h_2=>exact d.elim
  rename_i cd;obtain⟨σ,x0,Inv,ls,lv,Lf,μ,i0,i1,i2,i3,i4,i5⟩:=d
  -- the boxes that there are,with their addresses
  let G1:Nat->Option (Nat×TypeId):=fun k=>match L.get k with | some (.box g t _)=>some (g,t) | _=>none
  have da:∀k g t cs,L.get k=some (.box g t cs)->G1 k=some (g,t):=fun k g t cs e=>by simp only[G1,e]
  have bo:Kp G1 L:=by
   intro k g t e;simp only[G1] at e;split at e
   ·rename_i g' t' cs h;injection e with e
    injection e with e1 e2
    subst e1 e2;exact⟨cs,h⟩
   ·cases e
  have cM:sD G1 PS (ig sx):=by
   intro k hk ce;exfalso;simp only[G1] at ce;split at ce
   ·rename_i g t cs e;have hr:=z.tl k;rw[e] at hr;cases e2:M.get k with
    | none=>rw[e2] at hr;exact hr
    | some o =>
     rw[e2] at hr;cases o with
     | row=>exact hr
     | box t' cs'=>exact E7 cd k hk t' cs' e2
     | map es=>exact CJ cd k hk es e2
     | win t0 p0 c0 q0=>cases qw cd k hk _ e2
   ·exact ce rfl
  have hG:∀{L':Loc},Kp G1 L'->Kp G L':=fun hk k g t e=>let⟨cs,h⟩:=z.kp k g t e;hk k g t (da k g t cs h);have cy:∀{L':Loc},Kp G1 L'->∀k g t cs,L.get k=some (.box g t cs)->∃cs',L'.get k=some (.box g t cs'):=fun hk k g t cs h=>hk k g t (da k g t cs h);have bs:∀{K:TK}{F' L' ρ'},Both G1 K F' L' ρ'->Both G K F' L' ρ':=fun⟨M',dt,h1,h2⟩=>⟨M',dt,⟨h1.tl,h1.env,hG h1.kp,h1.glob⟩,h2⟩;have dC:∀{F':aA}{L':Loc}{M':TL},cO F' L' M'->(∀k o,M'.get k=some o->o.Wf):=fun h k o e=>MZ h (fun _ _ e=>e) k o e
  -- a round's end,or what is ahead of the first round,is a head
  have ay:∀(y:σ) (F1:aA) (L1:Loc) (ac:Env) (M1:TL) (ap:aT) (a1:Act) (w1:World),F.le F1->St F1 L1 w1->aC L1 ac a1->TS G1 F1 L1 ac M1 ap->(∀j,j∉cD x->a1.tmps.getD j undef=a.tmps.getD j undef) ->
    mX M1 (Lf y) ls (lv y) ap->gives M1 (Lf y) (Lf y)->∃L2,St F1 L2 w1/\Step F1 L1 w1 F1 L2 w1/\cO F1 L2 (Lf y)/\Kp G1 L2/\s9 (lv y) /\
     ∃bc,aC L2 bc a1/\∀j,aN F1 L2 (pJ ls (lv y) (r9 (cD x) τ) j) (bc j):=by
   intro y F1 L1 ac M1 ap a1 w1 bi ax az ad du hh hg;obtain⟨g1,g2⟩:=sB ax ad.tl hg;have bd:Kp G1 (uf L1 (Lf y)):=by
    intro k g t e;obtain⟨cs,ca⟩:=ad.kp k g t e;obtain⟨fr,cr⟩:=bo k g t e;refine⟨cs,?_⟩;rcases dR (z.tl k) with⟨c1,c2⟩ | ⟨q,p,c1,c2,hr⟩
    ·rw[cr] at c2;cases c2
    ·rw[cr] at c2;injection c2 with c2
     subst c2;cases q with
     | row=>exact hr.elim
     | box t' cs' =>
      obtain⟨o2,e2⟩:=iR (i3 y) c1 rfl;rw[jr,e2];simp only[ca]
     | map es =>
      obtain⟨o2,e2⟩:=iR (i3 y) c1 rfl;rw[jr,e2];simp only[ca]
     | win t0 p0 c0 q0 =>
      obtain⟨o2,e2⟩:=iR (i3 y) c1 rfl;rw[jr,e2];simp only[ca]
   refine⟨uf L1 (Lf y),g1,g2,sA ad.tl hg,bd,yL ad (i4 y) hh hg,Ho he z.env bi (cy bd) du ?_⟩;intro i j c e1 e2;have hr:=kH (ad.env j);have hv:a1.tmps.getD j undef=conc L1 (ac j):=az.eq j;rw[hv];have dd:=yK hh e1 e2;rcases dd with e | ⟨e,hk⟩ | ⟨e,e'⟩ | ⟨e,k',t',dy,e',q1,q2⟩ | ⟨els,e,e'⟩
   ·rw[e];simp only[Rel]
   ·have hc:(ap j).cel=ap j:=by
     rw[e];rw[e] at hr;cases c<;>first | rfl | (simp only[eZ,lg,Xd] at hk;done)
    rw[hc] at hr;exact qt ad.tl (.inr (.inl ⟨e,hk⟩)) hr
   ·rw[e] at hr;exact qt ad.tl (.inr (.inr (.inl ⟨rfl,e'⟩))) hr
   ·rw[e] at hr;exact qt ad.tl (.inr (.inr (.inr (.inl ⟨rfl,k',t',dy,e',q1,q2⟩)))) hr
   ·rw[e] at hr;exact qt ad.tl (.inr (.inr (.inr (.inr ⟨els,rfl,e'⟩)))) hr
  refine sU (fun n a1 w1=>∃(y:σ) (F1:aA) (L1:Loc),n=μ y/\F.le F1/\Inv y/\St F1 L1 w1/\a1.tmps.size=A.n/\a1.defers=a.defers/\Step F L w F1 L1 w1/\(∀j,j∉cD x->a1.tmps.getD j undef=a.tmps.getD j undef) /\
   cO F1 L1 (Lf y)/\Kp G1 L1/\s9 (lv y)/\∃ac,aC L1 ac a1/\∀j,aN F1 L1 (pJ ls (lv y) (r9 (cD x) τ) j) (ac j)) ?_ ?_
  ·obtain⟨L2,k1,k2,k3,k4,k5,k6⟩:=ay x0 F L ρ M τ a w (aA.le_refl F) hs he ⟨z.tl,z.env,bo,z.glob⟩ (fun _ _=>rfl) i1 i2;exact⟨_,x0,F,L2,rfl,aA.le_refl F,i0,k1,hn,rfl,k2,fun _ _=>rfl,k3,k4,k5,k6⟩
  ·rintro n a1 w1 ⟨y,F1,L1,rfl,bi,cX,ax,dk,bl,ag,av,bm,bd,ds,ac,az,bx⟩;refine wp_mono (ih h1 cM ax az (⟨bm,bx,bd,ax.glob⟩:TS G1 F1 L1 ac (Lf y) (pJ ls (lv y) (r9 (cD x) τ))) dk (i5 y cX ds (dC bm))) ?_;intro e a2 w2 u;cases e with
   | normal =>
    obtain⟨F2,L2,bc,g1,g2,g3,g4,g5,g6,M2,ee,g7,y',k1,k2,k3,k4⟩:=u;have bt:∀j,j∉cD x->a2.tmps.getD j undef=a.tmps.getD j undef:=fun j hj=>by rw[g6 j hj,av j hj]
    obtain⟨L3,q1,q2,q3,q4,q5,q6⟩:=ay y' F2 L2 bc M2 ee a2 w2 (aA.le_trans bi g5.le) g1 g2 g7 bt k2 k3;exact⟨μ y',k4,y',F2,L3,rfl,aA.le_trans bi g5.le,k1,q1,g3,g4.trans bl,(ag.trans g5).trans q2,bt,q3,q4,q5,q6⟩
   | exit j=>exact dY.after ag bl av (yM u bs) (fun j h=>h) (fun j h=>h)
   | ret=>exact dY.after ag bl av (yM u bs) (fun j h=>h) (fun j h=>h)
   | goto l=>exact u
   | panic c=>exact(let⟨v,e,h⟩:=u;⟨v,e,qH.after ag bl av h (fun j h=>h) (fun j h=>h) fun F' L' h=>⟨hG h.1,h.2⟩⟩)
   | outgrown=>exact u
 | rangeFunc f ps x y bk bj=>intro sc b;simp only[low] at b;cases b
 | scope x ih =>
  intro sc b G E R N F L ρ M τ a w m hs he z hn d;simp only[low] at b;refine wp_scope_straight (wp_mono (ih b m hs he z hn d) ?_);intro e a1 w1 u;cases e<;>exact u
 | goto l=>intro sc b;simp only[low] at b;cases b
 | refuse eA=>intro sc b;simp only[low] at b;cases b
end
section
variable {P:Program}{G:Nat->Option (Nat×TypeId)}{F:aA}{L:Loc}{ρ:Env}{M:TL}{τ:aT}{a:Act}{w:World}
theorem tF (d:TS G F L ρ M τ):∀{rs:List RV}{K:List C->Prop},pM M τ rs K->kP L ρ rs (fun vs=>∃cs,aB F L cs vs/\K cs)
 | [],K,h=>⟨[],by simp only[aB],h⟩
 | (t,none)::l,K,h=>by
  simp only[pM] at h;simp only[kP];refine retV_imp (tF d h) ?_;rintro vs ⟨cs,f,o⟩;exact⟨_,by simp only[aB];exact⟨_,_,rfl,kH (d.env t),f⟩,o⟩
 | (t,some (agg,n))::l,K,h=>by
  simp only[pM] at h;simp only[kP];split at h
  case h_2=>exact h.elim
  rename_i k off c;split at h
  case h_2=>exact h.elim
  rename_i ty cs s;split at h
  case h_2=>exact h.elim
  rename_i q;obtain⟨m,_⟩:=ep (x:=.t t) d.env c;have m:ρ t=.own k off:=m;obtain⟨g,ty,vs,r,p,j⟩:=jT d.tl s;have e:=(p.drop off).take n;simp only[m,r,fk j.2.2 (cQ (show((vs.drop off).take n).length=n by rw[e.len];exact br q))];refine retV_imp (tF d h) ?_;rintro us ⟨ds,f,o⟩;refine⟨_,?_,o⟩;simp only[aB];have:=kH (cm (agg:=agg) e);exact⟨_,_,rfl,this,f⟩
where
 retV_imp {L:Loc}{ρ:Env}:∀{rs:List RV}{K K':List Value->Prop},kP L ρ rs K->(∀vs,K vs->K' vs)->kP L ρ rs K'
 | [],K,K',h,c=>c _ h
 | (t,none)::l,K,K',h,c=>by
  simp only[kP] at h ⊢;exact retV_imp h fun vs=>c _
 | (t,some (agg,n))::l,K,K',h,c=>by
  simp only[kP] at h ⊢;generalize ρ t=z at h ⊢;split at h
  case h_2=>exact h.elim
  rename_i k off;generalize L.get k=y at h ⊢;split at h
  case h_2=>exact h.elim
  rename_i ty cs;generalize iB ty ((cs.drop off).take n) n=b at h ⊢;cases b
  ·exact h.elim
  ·exact retV_imp h fun vs=>c _
theorem JG {cs:List C}{vs:List Value}(h:aB F L cs vs):Rel F L (rm cs) (gh vs):=by
 match cs,vs,h with
 | [],vs,h =>
  simp only[aB] at h;subst h;simp only[rm,gh,Rel];exact⟨[],rfl,by simp only[aB]⟩
 | [c],vs,h =>
  simp only[aB] at h;obtain⟨v,b,rfl,d,rfl⟩:=h;exact d
 | c1::k::cs,vs,h =>
  have e:=h;simp only[aB] at e;obtain⟨v,b,rfl,d,l,f,rfl,j⟩:=e;simp only[rm,gh,Rel];exact⟨_,rfl,h⟩
theorem wB:∀(l:List C) (k j:Nat),uD k l j=if k<=j then(l[j-k]?).getD .und else .und
 | [],k,j=>by simp[uD]
 | v::l,k,j=>by
  simp only[uD,zJ]
  by_cases h:j=k
  ·subst h;simp
  ·rw[vv h,wB l (k+1) j]
   by_cases b:k<=j
   ·rw[j3 (by omega),j3 b,show j-k=(j-(k+1))+1 by omega,XM]
   ·rw[vv (by omega),vv b]
theorem Hp {c:C}{v:Value}(h:Rel F L c v):Rel F L c.Wy v:=by
 cases c<;>first
  | exact h
  | exact sn (c:=.nils) h
  | exact tv h
  | (simp only[Rel] at h
     obtain⟨vs,d,b⟩:=h;simp only[C.Wy,Rel]
     first
      | exact⟨vs,d,jo b⟩
      | exact⟨vs,d,b.map fun c _ v=>gU⟩)
theorem wC {F':aA}{L':Loc}{w':World}{Li:List Own}(f:St F' L' w') (c:Step F (inp Li) w F' L' w') (hb:∀(i:Nat) g t cs,Li[i]?=some (.box g t cs)->∃cs',L'.get (1000+i)=some (.box g t cs')) :
  ∃Lo,St F' (inp Lo) w'/\Step F (inp Li) w F' (inp Lo) w'/\Lo.length=Li.length/\∀(i:Nat) g t cs,Li[i]?=some (.box g t cs)->∃cs',Lo[i]?=some (.box g t cs'):=by
 let Lo:List Own:=Li.mapIdx fun i o=>match o with
  | .box _ _ _=>match L'.get (1000+i) with | some p=>p | none=>.row (.slice none 0 0) 0 0 0 []
  | .row _ t sz _ _=>.row (.slice none 0 0) t sz 0 []
 have get:∀k p,(inp Lo).get k=some p->L'.get k=some p\/∃t sz,p=.row (.slice none 0 0) t sz 0 []:=by
  intro k p e;rw[aS] at e;split at e
  case isFalse=>cases e
  rename_i y;simp only[Lo,List.getElem?_mapIdx] at e;cases h:Li[k-1000]? with
  | none=>rw[h] at e;cases e
  | some o =>
   rw[h] at e;simp only[XU,WY] at e;cases o with
   | box g t cs =>
    simp only at e;rw[show 1000+(k-1000)=k by omega] at e;cases m:L'.get k with
    | none=>rw[m] at e;exact .inr ⟨0,0,e.symm⟩
    | some q=>rw[m] at e;exact .inl (by rw[<-e])
   | row v t sz n xs=>exact .inr ⟨t,sz,e.symm⟩
 refine⟨Lo,⟨f.frz,fun k o e=>?_,fun k o g e d=>?_,fun k l o o' g e s d j=>?_,f.glob⟩,⟨c.le,c.os,c.tape,c.output,c.size,c.same,c.frz,fun b u=>c.own b ?_⟩,by simp[Lo],fun i g t cs hi=>?_⟩
 ·rcases get k o e with h | ⟨t,sz,rfl⟩
  ·exact f.own k o h
  ·exact World.ownsRow_nil w' 0 t sz
 ·rcases get k o e with h | ⟨t,sz,rfl⟩
  ·exact f.off k o g h d
  ·cases d
 ·rcases get k o e with h | ⟨t,sz,rfl⟩<;>rcases get l o' s with x | ⟨z,r,rfl⟩
  ·exact f.sep k l o o' g h x d j
  ·cases j
  ·cases d
  ·cases d
 ·obtain⟨k,o,e,d⟩:=u;rcases get k o e with h | ⟨t,sz,rfl⟩
  ·exact⟨k,o,h,d⟩
  ·cases d
 ·obtain⟨cs',h⟩:=hb i g t cs hi;exact⟨cs',by simp only[Lo,List.getElem?_mapIdx,hi,XU,h]⟩
theorem LR {n:Nat}{asg:List Nat}{fn:Func}{rs:List RV}{Lin:List TO}{Li:List Own}{R:List TO->C->Prop}{a0 a':Act}{w':World}(y:oK P fn.results.toList=some rs) (hl:Li.length=Lin.length) (al:cO F (inp Li) (iO Lin))
  (aE:∀k g t cs,(inp Li).get k=some (.box g t cs)->G k=some (g,t)) (hq:dY n F (inp Li) w a0 asg (Both G (fun L ρ=>pM L ρ rs fun vs=>oP Lin L (rm vs) R)) a' w') :
  a'.defers=a0.defers/\∃v,(results fn a'.tmps).run P w'=.ok v w'/\∃F' Lo,St F' (inp Lo) w'/\Step F (inp Li) w F' (inp Lo) w'/\gk Li R F' Lo v:=by
 obtain⟨F',L',ρ',g1,g2,g3,g4,g5,g6,M',co,g7,z⟩:=hq;obtain⟨us,hm,cs,be,⟨fz,ko,hK⟩⟩:=pF g1 g2 y (tF g7 z);have ao:TS G F' L' ρ' M' (fun _=>.any):=⟨g7.tl,fun _=>trivial,g7.kp,g7.glob⟩;obtain⟨F2,L2,M2,cX,ar,k1,k2,k3,x,k5,M3,c2,c3,Mo,q1,bd,q4,q5,q6,q7⟩:=ow g1 g2 ao (by simp only[aB];exact⟨_,[],rfl,JG be,rfl⟩) hK;subst q1;simp only[aB] at k5;obtain⟨v,cY,ev,hv,rfl⟩:=k5;injection ev with ev _
 subst ev;have bb:∃L3,St F2 L3 w'/\Step F2 L2 w' F2 L3 w'/\cO F2 L3 M3/\Rel F2 L3 c3 (gh us)/\∀k g t cs,L2.get k=some (.box g t cs)->M3.get k≠none->L3.get k=some (.box g t cs):=by
  rcases bd with⟨rfl,rfl⟩ | ⟨q2,q3⟩
  ·exact⟨L2,k1,Step.refl _ _ _,x.tl,hv,fun k g t cs h _=>h⟩
  ·obtain⟨b1,b2⟩:=sB k1 x.tl q2;refine⟨_,b1,b2,sA x.tl q2,qt x.tl q3 hv,fun k g t cs h l=>?_⟩;rw[jr];cases e:M3.get k with
   | none=>exact xo e l
   | some o=>simp only[h]
 obtain⟨L3,b1,b2,f,q,ad⟩:=bb;obtain⟨Lo,d1,d2,d3⟩:=pR f q4;have ay:=cJ q5;have bi:∀k g t,G k=some (g,t)->∃cs,(M3.get k≠none->L3.get k=some (.box g t cs)):=by
  intro k g t e;obtain⟨cs,h⟩:=x.kp k g t e;exact⟨cs,fun l=>ad _ _ _ _ h l⟩
 refine⟨g4,gh us,?_,F2,Lo,b1.handed d1 ay,?_,Mo.map (TO.Wj (C.ren (cj ko 1000))),c3.Wy.ren (cj ko 1000),by simp[d2],rA f d2 d1 d3,(Hp q).ren (mP d1),?_,q7 (by simp only[s9];exact⟨q.wf,trivial⟩)⟩
 ·rw[ri];rw[Array.mapM_eq_mapM_toList];simp only[Sem.run_bind,Sem.run_map];rw[hm];simp only[Result.andThen_ok,Sem.run_pure];congr 1
  match us with
  | []=>rfl
  | [t]=>rfl
  | t::u::r =>
   simp only[gh];rw[dif_neg (by simp)]
 ·have c:=(g5.trans k3).trans b2;obtain⟨x1,x2⟩:=dW d1;refine⟨c.le,c.os,c.tape,c.output,c.size,c.same,c.frz,fun b hb=>c.own b ?_⟩;obtain⟨j,p,e,hb⟩:=hb;rw[aS] at e;split at e
  case isFalse=>cases e
  have d:j-1000<Lo.length:=(W5.1 e).1;have hk:ko[j-1000]?=some (ko[j-1000]'(by omega)):=WZ (by omega);exact⟨_,p,by rw[x2 _ _ hk];exact e,hb⟩
 ·intro i g t cs hi;have d:i<Lin.length:=by rw[<-hl];exact(W5.1 hi).1
  have s:(inp Li).get (1000+i)=some (.box g t cs):=by rw[aS,j3 (by omega),show 1000+i-1000=i by omega];exact hi
  have hr:=al (1000+i);rw[bZ,j3 (by omega),show 1000+i-1000=i by omega,s,WZ d] at hr;have ac:zM Lin[i]=false:=by
   cases ax:Lin[i] with
   | row=>rw[ax] at hr;exact hr.elim
   | box t' cs'=>rfl
   | map es=>rfl
   | win t0 p0 c0 q0=>rfl
  ·obtain⟨k',y1,y2⟩:=dZ q6 i _ (WZ d) ac;rw[List.getElem?_range' d] at y1;injection y1 with y1
   obtain⟨x1,x2⟩:=dW d1;obtain⟨z1,z2⟩:=Be q4;have m:i<Mo.length:=by rw[z1];exact(W5.1 y2).1
   have aw:M3.get k'≠none:=by rw[z2 i k' y2,WZ m];simp
   have ag:k'=1000+i:=by omega
   subst ag;obtain⟨av,h2⟩:=bi _ g t (aE _ _ _ _ s);exact⟨av,by rw[<-x2 i _ y2];exact h2 aw⟩
theorem ai {Pp:Value->Prop}{f:FuncId}{fn:Func}{sc:aJ}{A:cP}{rs:List RV}{args:List C}{Lin:List TO}{R:List TO->C->Prop}(hf:P.funcs[f]?=some fn) (b:aD P A fn=some (sc,A.n,rs,false)) (q:Nat.ble args.length A.n=true)
  (h:s9 args->(∀o∈Lin,o.Wf)->eJ P ⟨Pp,[],none⟩ sc (fun _ _ _=>False) (fun L ρ=>pM L ρ rs fun vs=>oP Lin L (rm vs) R) (fun L ρ=>pM L ρ rs fun vs=>oP Lin L (rm vs) R) (iO Lin) (uD 0 args)):CallsTX P f args Lin R Pp:=by
 unfold aD at b;split at b
 case h_2=>cases b
 rename_i c hb;split at b
 case h_2=>cases b
 rename_i bb ap x aa;injection b with b
 injection b with e1 e2
 injection e2 with e2 e3
 injection e3 with e3 hname
 subst e1 e3;refine⟨fun F Li vs hl r ha=>⟨⟨fn,hf,by rw[hb];rfl,hname⟩,gk.Wt,fun w hs=>?_⟩⟩;refine calls_of_wp hf hb ?_;have an:∀o∈Lin,o.Wf:=by
  intro o ho;obtain⟨i,hi⟩:=Xr.1 ho;have:=r (1000+i);rw[bZ,aS,j3 (by omega),j3 (by omega),show 1000+i-1000=i by omega,hi] at this;cases e:Li[i]? with
  | none=>rw[e] at this;exact this.elim
  | some p=>rw[e] at this;exact cN.wf this
 have h:=h ha.wf an;have y:=ha.len;have q:=Xh q
 -- the frame
 have key:∀j,∃sv,aN F (inp Li) (uD 0 args j) sv/\conc (inp Li) sv=(vs.toArray++Array.replicate (fn.ntmps-vs.toArray.size) undef).getD j undef/\(∀k off,sv=.own k off->∃g t cs,(inp Li).get k=some (.box g t cs))/\(∀u i,sv=.el u i->u≠none):=by
  intro j;rw[wB];simp only[Xx,Xq,Nat.sub_zero,Xt];cases e:args[j]? with
  | some c =>
   have s:j<vs.length:=by rw[y];exact(W5.1 e).1
   obtain⟨s1,s2,s3,s4⟩:=zN (ha.at e (WZ s));refine⟨_,s1,?_,s3,fun u i e=>s4 u i e⟩;rw[s2,Array.getElem?_append_left (by simpa using s)];simp[s]
  | none =>
   have ao:vs.length<=j:=by rw[y];exact XT.1 e
   refine⟨.v undef,pW,?_,fun _ _ e=>(by cases e),fun _ _ e=>(by cases e)⟩;rw[Array.getElem?_append_right (by simpa using ao)];simp only[Array.getElem?_replicate,conc];split<;>rfl
 let z:Env:=fun j=>(key j).choose
 have he:aC (inp Li) z {tmps:=vs.toArray++Array.replicate (fn.ntmps-vs.toArray.size) undef,defers:=[]} :=
  ⟨fun t=>(key t).choose_spec.2.1.symm,fun t k off e=>(key t).choose_spec.2.2.1 k off e,fun t u j e=>(key t).choose_spec.2.2.2 u j e⟩
 let G:Nat->Option (Nat×TypeId):=fun k=>match(inp Li).get k with | some (.box g t _)=>some (g,t) | _=>none
 have ab:∀k g t cs,(inp Li).get k=some (.box g t cs)->G k=some (g,t):=fun k g t cs e=>by simp only[G,e]
 have ae:Kp G (inp Li):=by
  intro k g t e;simp only[G] at e;split at e
  ·rename_i g' t' cs h;injection e with e
   injection e with e1 e2
   subst e1 e2;exact⟨cs,h⟩
  ·cases e
 have al:∀k,G k≠none->1000<=k:=by
  intro k d;simp only[G] at d;split at d
  ·rename_i g t cs h;rw[aS] at h;split at h
   ·assumption
   ·cases h
  ·exact xo rfl d
 have ht:TS G F (inp Li) z (iO Lin) (uD 0 args):=⟨r,fun j=>(key j).choose_spec.1,ae,hs.glob⟩;refine wp_mono (oD c x (fun k _ d=>.inl (al k d)) hs he ht (by simp[e2];omega) h) ?_;intro e a' w' m;have fin:∀{a0:Act},a0.defers=[]->dY A.n F (inp Li) w a0 (cD c) (Both G (fun L ρ=>pM L ρ ap fun vs=>oP Lin L (rm vs) R)) a' w'->a'.defers=[]/\∃v,(results fn a'.tmps).run P w'=.ok v w' /\
   ∃v' F' Lo,Ending.returned v=.returned v'/\St F' (inp Lo) w'/\Step F (inp Li) w F' (inp Lo) w'/\gk Li R F' Lo v':=by
  intro a0 av m;obtain⟨k1,v,k2,F',Lo,k3,k4,k5⟩:=LR aa hl r ab m;exact⟨k1.trans av,v,k2,v,F',Lo,rfl,k3,k4,k5⟩
 cases e with
 | normal=>exact(let⟨h1,v,h2,h3⟩:=fin rfl m;⟨h1,v,h2,.inl h3⟩)
 | ret=>exact(let⟨h1,v,h2,h3⟩:=fin rfl m;⟨h1,v,h2,.inl h3⟩)
 | exit j=>obtain⟨F',L',ρ',_,_,_,_,_,_,M',bs,_,h⟩:=m;exact h.elim
 | goto l=>exact m.elim
 | panic c =>
  obtain⟨v,ar,F',L',g1,g2,g3,g4,g5,kp,hp,_⟩:=m;obtain⟨Lo,q1,q2,q3,q4⟩:=wC g1 g2 (fun i g t cs hi=>kp (1000+i) g t (ab _ g t cs (by rw[aS,j3 (by omega),show 1000+i-1000=i by omega];exact hi)));exact⟨g4,.inr ⟨v,_,F',Lo,rfl,ar,q1,q2,q3,q4,hp⟩⟩
 | outgrown=>exact m.elim
theorem CallsTX.noPan {f:Nat}{args:List C}{Lin:List TO}{R:List TO->C->Prop}(h:CallsTX P f args Lin R fun _=>False):CallsT P f args Lin R :=
 ⟨fun F Li vs c b d=>let k:=h.out F Li vs c b d;⟨k.ent,k.mono,fun w j=>(k.run w j).mono fun e w' q=>q.elim id fun⟨_,_,_,_,_,_,_,_,_,_,q⟩=>q.elim⟩⟩
theorem au {f:FuncId}{fn:Func}{sc:aJ}{A:cP}{rs:List RV}{args:List C}{Lin:List TO}{R:List TO->C->Prop}(d:P.funcs[f]?=some fn) (b:aD P A fn=some (sc,A.n,rs,false)) (c:Nat.ble args.length A.n=true)
  (h:s9 args->(∀o∈Lin,o.Wf)->eJ P ⟨fun _=>False,[],none⟩ sc (fun _ _ _=>False) (fun L ρ=>pM L ρ rs fun vs=>oP Lin L (rm vs) R) (fun L ρ=>pM L ρ rs fun vs=>oP Lin L (rm vs) R) (iO Lin) (uD 0 args)):CallsT P f args Lin R :=
 (ai d b c h).noPan
end
section
variable {P:Program}{L:TL}{ρ:aT}
def iK (Lo:List TO) (x:C):List TO->C->Prop:=fun Mo v=>Mo=Lo/\v=x
theorem bK {f:Nat}{args a:List C}{K:TL->aT->C->Prop}{x:C}(h:CallsT P f a [] (iK [] x)) (b:(args.map fun c=>c.Wo.ren (cj [] 1000))=a) (k:Wf x->K L ρ (x.ren (aW [])).slt):pL P f args L ρ K:=by
 subst b;exact .mk ⟨[],[],[],L,[],_,.inl rfl,rfl,rfl,rfl,rfl,rfl,h,fun v Mo ⟨e,d⟩ j _=>by subst e d;exact⟨rfl,k j⟩⟩
theorem gW {f:Nat}{args a:List C}{K:TL->aT->C->Prop}{d:Option Nat}{x:C}(h:CallsT P f a [] (iK [] x)) (b:(args.map fun c=>c.Wo.ren (cj [] 1000))=a) (k:Wf x->K L ρ x.slt):vS P f args L ρ d K:=by
 subst b;exact .frz _ h fun v Mo ⟨j,e⟩ l=>by subst j e;exact⟨rfl,k l⟩
theorem callO (ks ko:List Nat) {f:Nat}{args a:List C}{K:TL->aT->C->Prop}{x:C}{Lin Lin' Lo:List TO}(h:CallsT P f a Lin' (iK Lo x)) (s:L.sub ks=some Lin)
  (d:(bE ks&&bE ko&&lm L ks ko&&aQ Lin ks ko)=true) (j:(args.map fun c=>c.Wo.ren (cj ks 1000))=a) (l:Lin.map (TO.Wj (C.ren (cj ks 1000)))=Lin') (n:ko.length=Lo.length)
  (k:Wf x->(∀o∈Lo,o.Wf)->K (((L.Wi ks).kills (rowsOf L ks)).puts ko (Lo.map (TO.Wj (C.ren (aW ko))))) (eI (rowsOf L ks) ρ) (x.ren (aW ko)).slt):pL P f args L ρ K:=by
 subst j l;simp only[W6] at d;obtain⟨⟨⟨m,p⟩,c3⟩,c4⟩:=d;exact .mk ⟨[],ks,ko,L,Lin,_,.inl rfl,s,m,p,c3,c4,h,fun v Mo ⟨q,r⟩ e b=>by subst q r;exact⟨n,k e b⟩⟩
theorem zO (ks ko:List Nat) {f:Nat}{args a:List C}{K:TL->aT->C->Prop}{x:C}{Lin Lin' Lo:List TO}(h:CallsT P f a Lin' (iK Lo x)) (s:L.sub ks=some Lin)
  (d:(bE ks&&bE ko&&lm L ks ko&&aQ Lin ks ko)=true) (j:(args.map fun c=>c.Wo.ren (cj ks 1000))=a) (l:Lin.map (TO.Wj (C.ren (cj ks 1000)))=Lin') (n:ko.length=Lo.length)
  (k:Wf x->(∀o∈Lo,o.Wf)->K (((L.Wi ks).kills (rowsOf L ks)).puts ko (Lo.map (TO.Wj (C.ren (aW ko))))) (eI (rowsOf L ks) ρ) (x.ren (aW ko)).slt):Cs P f args L ρ K:=by
 subst j l;simp only[W6] at d;obtain⟨⟨⟨m,p⟩,c3⟩,c4⟩:=d;exact .mk ⟨ks,ko,Lin,_,s,m,p,c3,c4,h,fun v Mo ⟨q,r⟩ e b=>by subst q r;exact⟨n,k e b⟩⟩
theorem Oy (L1:TL) (ks ko:List Nat) {f:Nat}{args a:List C}{K:TL->aT->C->Prop}{x:C}{Lin Lin' Lo:List TO}(h:CallsT P f a Lin' (iK Lo x)) (r:gives L L1 L1) (t:L1.sub ks=some Lin)
  (d:(covers L L1&&bE ks&&bE ko&&lm L1 ks ko&&aQ Lin ks ko)=true) (j:(args.map fun c=>c.Wo.ren (cj ks 1000))=a) (l:Lin.map (TO.Wj (C.ren (cj ks 1000)))=Lin') (n:ko.length=Lo.length)
  (k:Wf x->(∀o∈Lo,o.Wf)->K (((L1.Wi ks).kills (rowsOf L1 ks)).puts ko (Lo.map (TO.Wj (C.ren (aW ko))))) (eI (rowsOf L1 ks) ρ) (x.ren (aW ko)).slt):pL P f args L ρ K:=by
 subst j l;simp only[W6] at d;obtain⟨⟨⟨⟨u,m⟩,p⟩,c3⟩,c4⟩:=d;exact .mk ⟨[],ks,ko,L1,Lin,_,.inr ⟨r,u⟩,t,m,p,c3,c4,h,fun v Mo ⟨q,s⟩ e b=>by subst q s;exact⟨n,k e b⟩⟩
theorem uh (b ks ko:List Nat) {f:Nat}{args a:List C}{K:TL->aT->C->Prop}{x:C}{Lo Lin':List TO}(h:CallsT P f a Lin' (iK Lo x))
  (r:vP b L ρ args fun L ρ args=>∃Lin,L.sub ks=some Lin/\(bE ks&&bE ko&&lm L ks ko&&aQ Lin ks ko)=true/\(args.map fun c=>c.Wo.ren (cj ks 1000))=a/\Lin.map (TO.Wj (C.ren (cj ks 1000)))=Lin'/\ko.length=Lo.length /\
   (Wf x->(∀o∈Lo,o.Wf)->K (((L.Wi ks).kills (rowsOf L ks)).puts ko (Lo.map (TO.Wj (C.ren (aW ko))))) (eI (rowsOf L ks) ρ) (x.ren (aW ko)).slt)):pL P f args L ρ K:=by
 refine .mk ⟨b,ks,ko,?_⟩;refine frzK_imp r ?_;rintro L ρ args ⟨Lin,t,j,rfl,rfl,n,k⟩;simp only[W6] at j;obtain⟨⟨⟨m,p⟩,c3⟩,c4⟩:=j;exact⟨L,Lin,_,.inl rfl,t,m,p,c3,c4,h,fun v Mo ⟨q,s⟩ l e=>by subst q s;exact⟨n,k l e⟩⟩
where
 frzK_imp:∀{b:List Nat}{L:TL}{ρ:aT}{args:List C}{K K':TL->aT->List C->Prop},vP b L ρ args K->(∀L ρ args,K L ρ args->K' L ρ args)->vP b L ρ args K'
  | [],L,ρ,args,K,K',h,d=>d _ _ _ h
  | k::b,L,ρ,args,K,K',h,d=>by
   simp only[vP] at h ⊢;generalize L.get k=z at h ⊢;split at h
   ·exact frzK_imp h d
   ·exact h.elim
theorem bC {Lin:List TO}{v x:C}(hb:aQ Lin (List.range' 1000 Lin.length) []=true) (e:v.Wy.ren (cj [] 1000)=x):oP Lin L v (iK [] x) :=
 ⟨[],[],L,v,v,[],rfl,.inl ⟨rfl,rfl⟩,rfl,rfl,hb,fun _=>⟨rfl,e⟩⟩
theorem xJ (ko:List Nat) {Lin Mo Lo:List TO}{v x:C}(c:L.sub ko=some Mo) (a:(bE ko&&aQ Lin (List.range' 1000 Lin.length) ko)=true) (b:Mo.map (TO.Wj (C.ren (cj ko 1000)))=Lo) (e:v.Wy.ren (cj ko 1000)=x):oP Lin L v (iK Lo x):=by
 simp only[W6] at a;exact⟨[],ko,L,v,v,Mo,rfl,.inl ⟨rfl,rfl⟩,c,a.1,a.2,fun _=>⟨b,e⟩⟩
theorem Qa (k t sz:Nat) {Lin:List TO}(b:L=[]) (hb:aQ Lin (List.range' 1000 Lin.length) [k]=true):oP Lin L .nils (iK [.row t sz []] (.rw 1000)):=by
 subst b;have a:Nat.beq k k=true:=by simp
 refine⟨[],[k],[(k,.row t sz [])],.nils,.rw k,[.row t sz []],rfl,.inr ⟨⟨.inr ⟨rfl,t,sz,rfl⟩,trivial⟩,.inr (.inr (.inr (.inl ⟨rfl,k,t,sz,rfl,rfl,?_⟩)))⟩,?_,rfl,hb,fun _=>⟨rfl,?_⟩⟩
 ·simp only[TL.get,a]
 ·simp only[TL.sub,TL.get,a]
 ·simp only[C.Wy,C.ren,C.mp,rY,cj,a]
theorem bW {d:Type}{b:TL->aT->TK->Prop}{asg:List Nat}(n:Nat) (l:Nat) (f:List Nat) (c:d) (e:d->List C) (Lf:d->TL) (Inv:Nat->d->Prop) (t:Inv 0 c) (r:Iq L (Lf c) (ρ l) (.int .i64 0)) (w:mX L (Lf c) f (e c) ρ)
  (v:gives L (Lf c) (Lf c)) (hb:∀s,lX L (Lf s)=true) (u:∀s,(e s).length=f.length)
  (h:∀(k:Nat) s,k<=n->Inv k s->s9 (e s)->(∀j o,(Lf s).get j=some o->o.Wf)->(k:Int)<=9223372036854775807->b (Lf s) (pJ (l::f) (.int .i64 k::e s) (r9 asg ρ)) fun L' ρ' =>
   ∃a:Nat×d,(a.1<=n/\Inv a.1 a.2)/\mX L' (Lf a.2) (l::f) (.int .i64 a.1::e a.2) ρ'/\gives L' (Lf a.2) (Lf a.2)/\n-a.1<n-k):vT b asg L ρ:=by
 refine⟨Nat×d,(0,c),fun x=>x.1<=n/\Inv x.1 x.2,l::f,fun x=>.int .i64 x.1::e x.2,fun x=>Lf x.2,fun x=>n-x.1,⟨Xx _,t⟩,⟨r,w⟩,v,fun x=>hb x.2,fun x=>by simp[u],?_⟩;rintro⟨k,s⟩ ⟨p,hi⟩ m q;simp only[s9,Wf] at m;exact h k s p hi m.2 q (wf_i64 m.1).2
theorem cF {L1:TL}{k:Nat}:Iq L L1 (.int .i64 ((k:Int)+1)) (.int .i64 ((k+1:Nat):Int)):=.inr (.inl ⟨rfl,rfl⟩)
theorem cG {n k:Nat}(h:k<n):n-(k+1)<n-k:=by omega
theorem mA {els:List (List C)}(h:Wf (.sl els)):els.length<=9223372036854775807:=by simp only[Wf,maxLen] at h;omega
theorem zP {a:Type}{f:a->List C}{l:List a}(h:Wf (.sl (l.map f))):l.length<=9223372036854775807:=by have:=mA h;simpa using this
theorem uT {bs:List UInt8}(h:Wf (.sl (af bs))):bs.length<=9223372036854775807:=zP h
theorem js {a:Type}{f:a->List C}{l:List a}{k sz:Nat}{x:a}{es:List C}{K:List C->Prop}(b:l[k]?=some x) (c:f x=es) (d:cT es sz=true) (h:K es):Cr (l.map f) (k:Int) sz K :=
 ⟨es,by omega,by simp[b,c],d,h⟩
theorem M0 {bs:List UInt8}{k:Nat}{x:UInt8}{K:List C->Prop}(a:bs[k]?=some x) (h:K [iF x]):Cr (af bs) (k:Int) 1 K :=
 ⟨[iF x],by omega,by simp[af,a],rfl,h⟩
theorem aq {L1:TL}{c:C}(h:eZ L1 3 c=true):Iq L L1 c c:=.inr (.inl ⟨rfl,h⟩)
theorem drop_cons {a:Type}{l:List a}{k:Nat}(h:k<l.length):∃x,l[k]?=some x/\l.drop k=x::l.drop (k+1):=⟨l[k],by simp[h],XW h⟩
theorem fG {a:Type}{l:List a}{k:Nat}(h:¬k<l.length):l.drop k=[]:=List.drop_eq_nil_iff.2 (by omega)
theorem Oz {PS:oV}{c:C}{v:Value}(b:Bb c=some v) (h:PS.ps v) (a:kR L [] PS.hb=true:=by rfl):Ot PS L c:=⟨v,b,a,h⟩
end
def mG:Own->Value
 | .box g _ _=>.pointer (some ⟨g,0,none⟩)
 | .row _ _ _ _ _=>undef
def oQ:Own->List Value->Own
 | .box g t _,cs=>.box g t cs
 | .row v t sz n xs,_=>.row v t sz n xs
def M5:Own->Nat->Prop
 | .box _ 0 _,_=>False
 | .box _ (_+1) cs,n=>cs.length=n
 | .row _ _ _ _ _,_=>False
theorem DA {g:Nat}{t:TypeId}{cs:List Value}{n:Nat}(h:t≠0) (a:cs.length=n):M5 (.box g t cs) n:=by
 cases t with
 | zero=>exact xo rfl h
 | succ t=>exact a
theorem JH {g:Nat}{t:TypeId}{cs:List Value}{n:Nat}(h:M5 (.box g t cs) n):t≠0:=by
 cases t with
 | zero=>exact h.elim
 | succ t=>exact Nat.succ_ne_zero t
def Cc:List Own->List Nat->Prop
 | [],[]=>True
 | o::bs,n::ns=>M5 o n/\Cc bs ns
 | _,_=>False
structure oL (P:Program) (H:Nat) (PS:Value->Prop) (ns:List Nat) (out:Value->List (List Value)):Prop where
 inv:∀cap w,(invoke (.fn (.func H) cap) #[]).run P w=.ok (.enter H cap) w
 idle:∀(bs:List Own) (w:World),Cc bs ns->CallsD P H (bs.map mG).toArray .returning w fun e u' w'=>e=.returned (.tuple #[])/\u'=.returning/\w'=w
 caught:∀(F:aA) (bs:List Own) (v:Value) (older:List PanicEntry) (w:World),PS v->Cc bs ns->St F (inp bs) w ->
  CallsD P H (bs.map mG).toArray (.panicking ({v,recovered:=false}::older)) w fun e u' w'=>e=.returned (.tuple #[])/\u'=.panicking ({v,recovered:=true}::older) /\
   ∃F',St F' (inp (List.zipWith oQ bs (out v))) w'/\Step F (inp bs) w F' (inp (List.zipWith oQ bs (out v))) w'
theorem uj {P:Program}{F:aA}{L:Loc}{ρ:Env}{a:Act}{w:World}{fn:Func}{rs:List RV}{K:List Value->Prop}(f:St F L w) (e:aC L ρ a) (b:oK P fn.results.toList=some rs) (h:kP L ρ rs K) :
  ∃vs,(results fn a.tmps).run P w=.ok (gh vs) w/\K vs:=by
 obtain⟨vs,d,c⟩:=pF f e b h;refine⟨vs,?_,c⟩;rw[ri,Array.mapM_eq_mapM_toList];simp only[Sem.run_bind,Sem.run_map];rw[d];simp only[Result.andThen_ok,Sem.run_pure];congr 1
 match vs with
 | []=>rfl
 | [t]=>rfl
 | t::u::r =>
  simp only[gh];rw[dif_neg (by simp)]
def qK:List TO->List TO->Prop
 | [],Mo=>Mo=[]
 | .box t _::l,Mo=>∃(n:Nat) (Mo':List TO),Mo=.box t (List.replicate n .any)::Mo'/\qK l Mo'
 | .row t sz _::l,Mo=>∃Mo',Mo=.row t sz []::Mo'/\qK l Mo'
 | .map _::_,_=>False
 | .win _ _ _ _::_,_=>False
def yN:List TO->Bool
 | []=>true
 | .map _::_=>false
 | .win _ _ _ _::_=>false
 | .box _ _::l=>yN l
 | .row _ _ _::l=>yN l
theorem Bu {F:aA}{L:Loc}:∀vs:List Value,aB F L (List.replicate vs.length .any) vs
 | []=>by simp only[XE,List.replicate_zero,aB]
 | v::vs=>by
  simp only[Xl,XS,aB];exact⟨v,vs,rfl,trivial,Bu vs⟩
theorem DC {F:aA}:∀(Lin:List TO) (Li Lo:List Own),yN Lin=true->Li.length=Lin.length->Lo.length=Lin.length->(∀(i:Nat) o p,Lin[i]?=some o->Li[i]?=some p->∃L,cN F L o p) ->
  (∀(i:Nat) g t cs,Li[i]?=some (.box g t cs)->∃cs',Lo[i]?=some (.box g t cs')) ->
  ∃(Mo:List TO) (Lo':List Own),qK Lin Mo/\Mo.length=Lin.length/\Lo'.length=Lin.length/\(∀(i:Nat) o,Lo'[i]?=some o->Lo[i]?=some o\/∃t sz,o=.row (.slice none 0 0) t sz 0 []) /\
   (∀(i:Nat) g t cs,Li[i]?=some (.box g t cs)->∃cs',Lo'[i]?=some (.box g t cs'))/\∀(i:Nat) o p L G,Mo[i]?=some o->Lo'[i]?=some p->cN G L o p
 | [],Li,Lo,c,d,j,h,f=>by
  have:Li=[]:=List.length_eq_zero_iff.1 d;subst this;exact⟨[],[],rfl,rfl,rfl,fun i o e=>by simp at e,fun i g t cs e=>by simp at e,fun i o p L G e=>by simp at e⟩
 | o::Lin,[],Lo,c,d,j,h,f=>by simp at d
 | o::Lin,p::Li,[],c,d,j,h,f=>by simp at j
 | o::Lin,p::Li,q::Lo,c,d,j,h,f=>by
  obtain⟨Mo,Lo',w,m,s,x,r,u⟩:=DC Lin Li Lo (by cases o<;>first | exact c | cases c) (by simpa using d) (by simpa using j) (fun i o p a b=>h (i+1) o p (by simpa using a) (by simpa using b)) (fun i g t cs e=>by simpa using f (i+1) g t cs (by simpa using e));obtain⟨L,k⟩:=h 0 o p rfl rfl;cases o with
  | map es=>cases c
  | win t0 z c0 q0=>cases c
  | box t cs =>
   cases p with
   | row=>exact k.elim
   | box g l us =>
    obtain⟨cs',e⟩:=f 0 g l us rfl;simp only[Xg,WY] at e;subst e;refine⟨.box t (List.replicate cs'.length .any)::Mo,.box g l cs'::Lo',⟨_,_,rfl,w⟩,by simp[m],by simp[s],fun i o e=>?_,fun i g t cs e=>?_,fun i o p L G a b=>?_⟩
    ·cases i with
     | zero=>exact .inl e
     | succ i=>simpa using x i o (by simpa using e)
    ·cases i with
     | zero=>simp only[Xg,WY] at e;injection e with q1 q2 q3;subst q1 q2;exact⟨_,rfl⟩
     | succ i=>simpa using r i g t cs (by simpa using e)
    ·cases i with
     | zero =>
      simp only[Xg,WY] at a b;subst a b;exact⟨k.1,Bu _⟩
     | succ i=>exact u i o p L G (by simpa using a) (by simpa using b)
  | row t sz els =>
   cases p with
   | box=>exact k.elim
   | row v l y n xs =>
    refine⟨.row t sz []::Mo,.row (.slice none 0 0) t sz 0 []::Lo',⟨_,rfl,w⟩,by simp[m],by simp[s],fun i o e=>?_,fun i g t cs e=>?_,fun i o p L G a b=>?_⟩
    ·cases i with
     | zero=>simp only[Xg,WY] at e;subst e;exact .inr ⟨_,_,rfl⟩
     | succ i=>simpa using x i o (by simpa using e)
    ·cases i with
     | zero=>simp only[Xg,WY] at e;cases e
     | succ i=>simpa using r i g t cs (by simpa using e)
    ·cases i with
     | zero =>
      simp only[Xg,WY] at a b;subst a b;exact⟨rfl,rfl,rfl,⟨Xx _,none,0,rfl,fun _=>rfl⟩,by simp only[aL]⟩
     | succ i=>exact u i o p L G (by simpa using a) (by simpa using b)
theorem M6 {F F':aA}{Lin:List TO}{Li Lo:List Own}{w w':World}(u:yN Lin=true) (z:Li.length=Lin.length) (x:cO F (inp Li) (iO Lin)) (l:St F' (inp Lo) w') (a:Step F (inp Li) w F' (inp Lo) w') (q:Lo.length=Li.length)
  (s:∀(i:Nat) g t cs,Li[i]?=some (.box g t cs)->∃cs',Lo[i]?=some (.box g t cs')) :
  ∃Mo Lo',St F' (inp Lo') w'/\Step F (inp Li) w F' (inp Lo') w'/\qK Lin Mo/\Mo.length=Lo'.length/\cO F' (inp Lo') (iO Mo)/\∀(i:Nat) g t cs,Li[i]?=some (.box g t cs)->∃cs',Lo'[i]?=some (.box g t cs'):=by
 have f:∀(i:Nat) o p,Lin[i]?=some o->Li[i]?=some p->∃L,cN F L o p:=by
  intro i o p d v;have y:=x (1000+i);rw[bZ,aS,j3 (by omega),j3 (by omega),show 1000+i-1000=i by omega,d,v] at y;exact⟨_,y⟩
 obtain⟨Mo,Lo',a1,n,r,a4,a5,a6⟩:=DC Lin Li Lo u z (by rw[q,z]) f s;have c:∀j o,(inp Lo').get j=some o->(inp Lo).get j=some o\/∃t sz,o=.row (.slice none 0 0) t sz 0 []:=by
  intro j o e;rw[aS] at e ⊢;split at e
  case isFalse=>cases e
  rename_i hj;rw[j3 hj];exact a4 _ o e
 refine⟨Mo,Lo',⟨l.frz,fun j o e=>?_,fun j o g e hb=>?_,fun j j' o o' g e e' hb m=>?_,l.glob⟩,?_,a1,by rw[n,r],fun k=>?_,a5⟩
 ·rcases c j o e with d | ⟨t,sz,rfl⟩
  ·exact l.own j o d
  ·exact World.ownsRow_nil w' 0 t sz
 ·rcases c j o e with d | ⟨t,sz,rfl⟩
  ·exact l.off j o g d hb
  ·cases hb
 ·rcases c j o e with d | ⟨t,sz,rfl⟩
  ·rcases c j' o' e' with v | ⟨t,sz,rfl⟩
   ·exact l.sep j j' o o' g d v hb m
   ·cases m
  ·cases hb
 ·refine⟨a.le,a.os,a.tape,a.output,a.size,a.same,a.frz,fun b hb=>?_⟩;obtain⟨j,o,e,hb⟩:=hb;rcases c j o e with d | ⟨t,sz,rfl⟩
  ·exact a.own b ⟨j,o,d,hb⟩
  ·cases hb
 ·rw[bZ,aS];split
  ·cases d:Mo[k-1000]? with
   | none =>
    have:Lo'[k-1000]?=none:=Xe (by rw[r,<-n];exact XT.1 d);rw[this];trivial
   | some o =>
    have h:k-1000<Lo'.length:=by rw[r,<-n];exact(W5.1 d).1
    rw[WZ h];exact a6 _ o _ _ _ d (WZ h)
  ·trivial
def wD (M:TL) (τ:aT):List Nat->List Nat->Bool
 | [],[]=>true
 | k::ks,n::ns=>match τ k,M.get k with
  | .own j 0,some (.box _ cs)=>match Nat.beq j k,cT cs n with | true,true=>wD M τ ks ns | _,_=>false
  | _,_=>false
 | _,_=>false
section
variable {G:Nat->Option (Nat×TypeId)}{F:aA}{L:Loc}{ρ:Env}{M:TL}{τ:aT}
theorem Bv:∀{ks ns:List Nat},wD M τ ks ns=true->TS G F L ρ M τ->∃bs:List Own,L.sub ks=some bs/\Cc bs ns/\ks.map (fun k=>conc L (ρ k))=bs.map mG/\(∀k∈ks,ρ k=.own k 0)
 | [],[],_,_=>⟨[],rfl,trivial,rfl,fun k h=>by cases h⟩
 | [],n::ns,h,_=>by cases h
 | k::ks,[],h,_=>by cases h
 | k::ks,n::ns,h,a=>by
  simp only[wD] at h;split at h
  case h_2=>cases h
  rename_i j t cs p u;split at h
  case h_2=>cases h
  rename_i d r;have d:=yo d;subst d;obtain⟨bs,o,s,m,q⟩:=Bv h a;obtain⟨g,ty,vs,f,l,c⟩:=jT a.tl u;have e:ρ j=.own j 0:=(ep (x:=.t j) a.env p).1;refine⟨.box g ty vs::bs,by simp only[Loc.sub,f,o],⟨DA c.2.2 (by rw[l.len];exact br r),s⟩,?_,?_⟩
  ·rw[Xa,Xa,m];simp only[e,conc,f,mG]
  ·intro k b;rcases W7.1 b with rfl | b
   ·exact e
   ·exact q k b
end
theorem uU:∀{bs:List Own}{ns:List Nat},Cc bs ns->bs.length=ns.length
 | [],[],_=>rfl
 | [],_::_,h=>h.elim
 | _::_,[],h=>h.elim
 | o::bs,n::ns,h=>by simp[uU h.2]
theorem Bw {hb:List (Nat×Nat)}{L L':Loc}:∀{ks ns:List Nat}{bs:List Own},L.sub ks=some bs->Cc bs ns->(∀k g t cs,k∈ks->L.get k=some (.box g t cs)->∃cs',L'.get k=some (.box g t cs'))->P8 hb L'->(∀x∈ks.zip ns,x∈hb) ->
  ∃a,L'.sub ks=some a/\Cc a ns/\a.map mG=bs.map mG
 | [],ns,bs,b,c,m,f,p=>by
  simp only[Loc.sub,WY] at b;subst b;exact⟨[],rfl,c,rfl⟩
 | k::ks,ns,bs,b,c,m,f,p=>by
  simp only[Loc.sub] at b;split at b
  case h_2=>cases b
  rename_i o l z e2;injection b with b
  subst b;cases ns with
  | nil=>exact c.elim
  | cons n ns =>
   obtain⟨c,h⟩:=c;cases o with
   | row=>exact c.elim
   | box g t cs =>
    obtain⟨a,v,w,u⟩:=Bw e2 h (fun j g t cs y e=>m j g t cs (by simp[y]) e) f (fun x r=>p x (by simp[r]));obtain⟨cs',q⟩:=m k g t cs (by simp) z;obtain⟨g',t',aa,d,s⟩:=f k n (p _ (by simp));rw[q] at d;injection d with d
    injection d with x1 x2 x3
    subst x1 x2 x3;exact⟨.box g t cs'::a,by simp only[Loc.sub,q,v],⟨DA (JH c) s,w⟩,by simp[u,mG]⟩
theorem DE:∀{bs:List Own}{ns:List Nat}{l:List (List Value)},Cc bs ns->l.length=ns.length->(List.zipWith oQ bs l).length=bs.length/\(∀(i:Nat) g t cs,bs[i]?=some (.box g t cs)->∃cs',(List.zipWith oQ bs l)[i]?=some (.box g t cs')) /\
  ∀(i:Nat) cs,l[i]?=some cs->∃g t,(List.zipWith oQ bs l)[i]?=some (.box g (t+1) cs)
 | [],[],l,_,h=>by
  have:l=[]:=List.length_eq_zero_iff.1 h;subst this;exact⟨rfl,fun i g t cs e=>by simp at e,fun i cs e=>by simp at e⟩
 | [],n::ns,l,h,_=>h.elim
 | o::bs,[],l,h,_=>h.elim
 | o::bs,n::ns,[],_,h=>by simp at h
 | o::bs,n::ns,c::l,⟨a,k⟩,h=>by
  obtain⟨f,j,d⟩:=DE (l:=l) k (by simpa using h);cases o with
  | row=>exact a.elim
  | box g t cs =>
   refine⟨by simp[f],fun i b m cs' e=>?_,fun i cs' e=>?_⟩
   ·cases i with
    | zero =>
     simp only[Xg,WY] at e;injection e with x1 x2 x3
     subst x1 x2;exact⟨c,rfl⟩
    | succ i=>simpa using j i b m cs' (by simpa using e)
   ·cases i with
    | zero =>
     simp only[Xg,WY] at e;subst e;cases t with
     | zero=>exact a.elim
     | succ t=>exact⟨g,t,rfl⟩
    | succ i=>simpa using d i cs' (by simpa using e)
theorem tG {a:Act}{ρ:Env}{L:Loc}(b:aC L ρ a):∀ks:List Nat,(ks.map Operand.tmp).map a.eval=ks.map fun k=>conc L (ρ k)
 | []=>rfl
 | k::ks=>by
  simp only[Xa,tG b ks];exact p7 (·::_) (b.eq k)
theorem LS:∀(l:List PanicEntry),(∀e∈l,e.goexit=false)->l.dropWhile (!·.goexit)=[]
 | [],_=>rfl
 | e::l,h=>by
  rw[List.dropWhile_cons,j3 (by simp[h e (by simp)])];exact LS l fun x a=>h x (by simp[a])
theorem zQ {P:Program}{f H d r1:Nat}{fn:Func}{c0 rest:Code}{o1 o2:Oper}{A:cP}{sc0 sc:aJ}{rs:List RV}{ks ns:List Nat}{args:List C}{Lin:List TO}{R:List TO->C->Prop}{PS:Value->Prop}{out:Value->List (List Value)}
  (hf:P.funcs[f]?=some fn) (hb:fn.body=some (.seq c0 (.seq (.region r1 #[o1,o2] false) rest))) (hname:(fn.name == "runtime.NumGoroutine")=false) (hnt:fn.ntmps=A.n)
  (ho1:o1.op=.makeFunc (.func H) #[] (ks.map Operand.tmp).toArray) (hd1:o1.dst=some d) (hg1:o1.guard=none) (ho2:o2.op=.defer {callee:=.value (.tmp d),args:=#[],argTypes:=#[]}) (hd2:o2.dst=none) (hg2:o2.guard=none)
  (hl0:low P A c0=some sc0) (hl:low P A rest=some sc) (hres:oK P fn.results.toList=some rs) (hH:oL P H PS ns out) (hd:d<A.n) (hks:bE ks=true) (hkd:(ks.all fun k=>!(fo (cD rest) k)&&!(Nat.beq k d)&&Nat.blt k 1000)=true)
  (hout:∀v,PS v->(out v).length=ns.length) (hlen:Nat.ble args.length A.n=true) (hnm:yN Lin=true)
  (hcat:∀v,PS v->∃c x,(∀(L:Loc) (ρ:Env),(∀(i:Nat) k cs,ks[i]?=some k->(out v)[i]?=some cs->ρ k=.own k 0/\∃g t,L.get k=some (.box g (t+1) cs))->kP L ρ rs (fun vs=>gh vs=x))/\(∀F L,Rel F L c x)/\∀Mo,qK Lin Mo->R Mo c)
  (h:s9 args->(∀o∈Lin,o.Wf)->eJ P ⟨fun _=>False,[],none⟩ sc0 (fun _ _ _=>False) (fun _ _=>False) (fun M τ=>wD M τ ks ns=true /\
   eJ P ⟨PS,ks.zip ns,none⟩ sc (fun _ _ _=>False) (fun L ρ=>pM L ρ rs fun vs=>oP Lin L (rm vs) R) (fun L ρ=>pM L ρ rs fun vs=>oP Lin L (rm vs) R) M (bw (some d) .any τ)) (iO Lin) (uD 0 args)) :
  CallsT P f args Lin R:=by
 refine⟨fun F Li vs hlL htl ha=>⟨⟨fn,hf,by rw[hb];rfl,hname⟩,gk.Wt,fun w hs=>?_⟩⟩
 suffices hall:∀RR:Ending->World->Prop,(∀v F' Lo w',St F' (inp Lo) w'->Step F (inp Li) w F' (inp Lo) w'->gk Li R F' Lo v->RR (.returned v) w')->Calls P f vs.toArray w RR from
  hall _ fun v F' Lo w' h1 h2 h3=>⟨v,F',Lo,rfl,h1,h2,h3⟩
 intro RR hRR;refine calls_of_wp_defers hf hb ?_;have hwo:∀o∈Lin,o.Wf:=by
  intro o ho;obtain⟨i,hi⟩:=Xr.1 ho;have:=htl (1000+i);rw[bZ,aS,j3 (by omega),j3 (by omega),show 1000+i-1000=i by omega,hi] at this;cases e:Li[i]? with
  | none=>rw[e] at this;exact this.elim
  | some p=>rw[e] at this;exact cN.wf this
 have h:=h ha.wf hwo;have hla:=ha.len;have hlen:=Xh hlen;have key:∀j,∃sv,aN F (inp Li) (uD 0 args j) sv/\conc (inp Li) sv=(vs.toArray++Array.replicate (fn.ntmps-vs.toArray.size) undef).getD j undef/\(∀k off,sv=.own k off->∃g t cs,(inp Li).get k=some (.box g t cs))/\(∀ad i,sv=.el ad i->ad≠none):=by
  intro j;rw[wB];simp only[Xx,Xq,Nat.sub_zero,Xt];cases e:args[j]? with
  | some c =>
   have hlt:j<vs.length:=by rw[hla];exact(W5.1 e).1
   obtain⟨s1,s2,s3,s4⟩:=zN (ha.at e (WZ hlt));refine⟨_,s1,?_,s3,fun ad i e=>s4 ad i e⟩;rw[s2,Array.getElem?_append_left (by simpa using hlt)];simp[hlt]
  | none =>
   have hge:vs.length<=j:=by rw[hla];exact XT.1 e
   refine⟨.v undef,pW,?_,fun _ _ e=>(by cases e),fun _ _ e=>(by cases e)⟩;rw[Array.getElem?_append_right (by simpa using hge)];simp only[Array.getElem?_replicate,conc];split<;>rfl
 let ρ0:Env:=fun j=>(key j).choose
 have he:aC (inp Li) ρ0 {tmps:=vs.toArray++Array.replicate (fn.ntmps-vs.toArray.size) undef,defers:=[]} :=
  ⟨fun t=>(key t).choose_spec.2.1.symm,fun t k off e=>(key t).choose_spec.2.2.1 k off e,fun t ad j e=>(key t).choose_spec.2.2.2 ad j e⟩
 let G:Nat->Option (Nat×TypeId):=fun k=>match(inp Li).get k with | some (.box g t _)=>some (g,t) | _=>none
 have hG1:∀k g t cs,(inp Li).get k=some (.box g t cs)->G k=some (g,t):=fun k g t cs e=>by simp only[G,e]
 have hkp:Kp G (inp Li):=by
  intro k g t e;simp only[G] at e;split at e
  ·rename_i g' t' cs h;injection e with e
   injection e with e1 e2
   subst e1 e2;exact⟨cs,h⟩
  ·cases e
 have ht:TS G F (inp Li) ρ0 (iO Lin) (uD 0 args):=⟨htl,fun j=>(key j).choose_spec.1,hkp,hs.glob⟩;have hGd:∀k,G k≠none->1000<=k:=by
  intro k hne;simp only[G] at hne;split at hne
  ·rename_i g t cs h;rw[aS] at h;split at h
   ·assumption
   ·cases h
  ·exact xo rfl hne
 refine wp_seq (wp_mono (oD c0 hl0 (fun k _ hne=>.inl (hGd k hne)) hs he ht (by simp[hnt];omega) h) ?_);intro e a1 w1 hq;cases e with
 | exit j=>obtain⟨F',L',ρ',_,_,_,_,_,_,M',τ',_,h⟩:=hq;exact h.elim
 | goto l=>exact hq.elim
 | outgrown=>exact hq.elim
 | ret=>obtain⟨F',L',ρ',_,_,_,_,_,_,M',τ',_,h⟩:=hq;exact h.elim
 | panic c=>obtain⟨v,hch,F',L',_,_,_,_,_,_,hp,_⟩:=hq;exact hp.elim
 | normal =>
 obtain⟨F1,L1,ρ1,hs1,he1,hn1,hd1',hst1,_,M1,τ1,ht1,hcaps,hrest⟩:=hq;obtain⟨bs,hsub,hbx,hptr,hown⟩:=Bv hcaps ht1;simp only[Exit.then]
 -- the deferred function is named
 generalize hfv:Value.func (.func H) #[] (bs.map mG).toArray=fv;have hev:(ks.map Operand.tmp).toArray.map a1.eval=(bs.map mG).toArray:=by
  rw[List.map_toArray,tG he1,hptr]
 have he2:=he1.put (L':=L1) (d:=some d) (v:=fv) (x:=.v fv) (fun k e=>by injection e with e;subst e;omega) rfl bL dc (fun k g ty cs e=>⟨cs,e⟩);have ht2:TS G F1 L1 (put (some d) (.v fv) ρ1) M1 (bw (some d) .any τ1):=ht1.put (c:=.any) (sv:=.v fv) trivial (some d);obtain⟨tm,df⟩:=a1;simp only at hd1';subst hd1';have hdt:(tm.setIfInBounds d fv).getD d undef=fv:=by
  have:d<tm.size:=by simpa[hn1] using hd
  simp[Xt,this]
 refine wp_seq (wp_region ?_);generalize hd0:({target:=.fn (.func H) (bs.map mG).toArray,args:=#[]}:Deferred)=d0;have hsz:d<tm.size:=by simpa[hn1] using hd
 simp[wpOps,go_sem,ho1,hd1,hg1,ho2,hd2,hg2,Exit.then,Region.wanted,hsz,Instr.makeFunc];have hml:List.map (Act.eval {tmps:=tm,defers:=[]}∘Operand.tmp) ks=bs.map mG:=by
  rw[<-hptr,<-tG he1,XV]
 rw[hml,hfv,hd0];refine .inl (.inl ?_)
 let G1:Nat->Option (Nat×TypeId):=fun k=>match Nat.ble 1000 k||fo ks k with | true=>(match L1.get k with | some (.box g t _)=>some (g,t) | _=>none) | false=>none
 have hGL:∀k g t cs,(1000<=k\/k∈ks)->L1.get k=some (.box g t cs)->G1 k=some (g,t):=fun k g t cs hk e=>by
  have:(Nat.ble 1000 k||fo ks k)=true:=by
   rw[XA];exact hk.imp (fun h=>by rw[Nat.ble_eq];exact h) cH.2
  simp only[G1,this,e]
 have hfz1:sD G1 ⟨PS,ks.zip ns,none⟩ (ig sc):=by
  intro k _ hne;simp only[G1] at hne;split at hne
  ·rename_i hb;rw[XA] at hb;rcases hb with hb | hb
   ·rw[Nat.ble_eq] at hb;exact .inl hb
   ·refine .inr ?_;have hl2:ks.length=ns.length:=by rw[(dW hsub).1.symm];exact uU hbx
    show fo ((ks.zip ns).map (·.1)) k=true;rw[List.map_fst_zip (by omega)];exact hb
  ·exact xo rfl hne
 have hkp1:Kp G1 L1:=by
  intro k g t e;simp only[G1] at e;split at e
  case h_2=>cases e
  split at e
  ·rename_i g' t' cs h;injection e with e
   injection e with e1 e2
   subst e1 e2;exact⟨cs,h⟩
  ·cases e
 have hGG:∀k g t,G k=some (g,t)->G1 k=some (g,t):=fun k g t e=>let⟨cs,h⟩:=ht1.kp k g t e;hGL k g t cs (.inl (hGd k (by rw[e];simp))) h;have ht3:TS G1 F1 L1 (put (some d) (.v fv) ρ1) M1 (bw (some d) .any τ1):=⟨ht2.tl,ht2.env,hkp1,ht2.glob⟩;have he3:aC L1 (put (some d) (.v fv) ρ1) {tmps:=tm.setIfInBounds d fv,defers:=[d0]}:=⟨he2.eq,he2.own,he2.el⟩;refine wp_mono (oD rest hl hfz1 hs1 he3 ht3 (by simpa using hn1) hrest) ?_;intro e a' w' hq;have hnd:=cJ hks;have hGI:∀k g t cs,(inp Li).get k=some (.box g t cs)->G1 k=some (g,t):=fun k g t cs e=>hGG k g t (hG1 k g t cs e);have back:∀(u:FrameMode) (w:World),u=.returning->Leaves P fn a'.tmps RR [] .returning w->Leaves P fn a'.tmps RR [d0] u w:=by
  rintro u w rfl hlv;rw[<-hd0];refine leaves_cons (f:=H) (args:=(bs.map mG).toArray) (by simp) (hH.inv _ w) ?_;refine(hH.idle bs w hbx).mono ?_;rintro e u' w6 ⟨rfl,rfl,rfl⟩;exact hlv
 have fin:dY A.n F1 L1 w1 {tmps:=tm.setIfInBounds d fv,defers:=[d0]} (cD rest) (Both G1 (fun L ρ=>pM L ρ rs fun vs=>oP Lin L (rm vs) R)) a' w'->Leaves P fn a'.tmps RR a'.defers .returning w':=by
  intro hq;have hq':dY A.n F (inp Li) w {tmps:=tm.setIfInBounds d fv,defers:=[d0]} (cD rest) (Both G1 (fun L ρ=>pM L ρ rs fun vs=>oP Lin L (rm vs) R)) a' w':=by
   obtain⟨F',L',ρ',g1,g2,g3,g4,g5,g6,g7⟩:=hq;exact⟨F',L',ρ',g1,g2,g3,g4,hst1.trans g5,g6,g7⟩
  obtain⟨k1,v,k2,F',Lo,k3,k4,k5⟩:=LR hres hlL htl hGI hq';rw[k1];exact back _ _ rfl ⟨v,k2,hRR v F' Lo w' k3 k4 k5⟩
 cases e with
 | normal=>exact fin hq
 | ret=>exact fin hq
 | exit j=>obtain⟨F',L',ρ',_,_,_,_,_,_,M',τ',_,h⟩:=hq;exact h.elim
 | goto l=>exact hq.elim
 | outgrown=>exact hq.elim
 | panic ch =>
  obtain⟨v,⟨older,rfl,hold⟩,F',L',g1,g2,g3,g4,g5,kp,hp,hbL,_⟩:=hq;show Leaves P fn a'.tmps RR a'.defers _ w';rw[g4,<-hd0];obtain⟨bs',q1,q2,q3⟩:=Bw hsub hbx (fun k g t cs hk e=>kp k g t (hGL k g t cs (.inr hk) e)) hbL (fun x hx=>hx);refine leaves_cons (f:=H) (args:=(bs.map mG).toArray) (by simp) (hH.inv _ w') ?_;rw[<-q3];refine(hH.caught F' bs' v older w' hp q2 (g1.handed q1 hnd)).mono ?_;rintro e u' w6 ⟨rfl,rfl,F6,hs6,hst6⟩;show Leaves P fn a'.tmps RR [] (settle _) w6;have hset:settle (.panicking ({v,recovered:=true}::older))=.returning:=by
   have:older.dropWhile (!·.goexit)=[]:=by
    exact LS older hold
   simp only[settle,this]
  rw[hset];obtain⟨z1,z2,z3⟩:=DE (l:=out v) q2 (hout v hp);obtain⟨sl,sg⟩:=dW q1;have hkl:ks.length=(List.zipWith oQ bs' (out v)).length:=by rw[z1,sl]
  obtain⟨c1,c2⟩:=iT g1 q1 hnd hnd (fun k hk=>.inl hk) hs6 hst6 hkl;generalize hL6:(L'.Wi ks).puts ks (List.zipWith oQ bs' (out v))=L6 at c1 c2;have hget:∀(i:Nat) k cs,ks[i]?=some k->(out v)[i]?=some cs->∃g t,L6.get k=some (.box g (t+1) cs)/\(∃cs',L'.get k=some (.box g (t+1) cs')):=by
   intro i k cs e1 e2;obtain⟨g,t,e3⟩:=z3 i cs e2;refine⟨g,t,by rw[<-hL6];exact cC hnd hkl e1 e3,?_⟩;have e4:=sg i k e1;have hlt:i<bs'.length:=by rw[<-z1];exact(W5.1 e3).1
   rw[WZ hlt] at e4;have e5:(List.zipWith oQ bs' (out v))[i]?=some (oQ bs'[i] cs):=by
    rw[List.getElem?_zipWith,WZ hlt,e2]
   rw[e3] at e5;injection e5 with e5
   cases hb:bs'[i] with
   | row=>rw[hb] at e5;cases e5
   | box g' t' cs' =>
    rw[hb] at e5 e4;injection e5 with x1 x2
    subst x1 x2;exact⟨cs',e4⟩
  -- the slots that name the boxes
  let ρ6:Env:=fun j=>match fo ks j with | true=>.own j 0 | false=>.v (a'.tmps.getD j undef)
  have hkd':∀k∈ks,k∉cD rest/\k≠d:=by
   intro k hk;have:=Xf.1 hkd k hk;simp only[W6,Bool.not_eq_true'] at this;refine⟨fun hm=>?_,fun e=>?_⟩
   ·rw[cH.2 hm] at this;exact xo this.1.1 (by simp)
   ·subst e;simp at this
  have hslot:∀k∈ks,∃g t cs,L6.get k=some (.box g t cs)/\a'.tmps.getD k undef=.pointer (some ⟨g,0,none⟩):=by
   intro k hk;obtain⟨i,hi⟩:=Xr.1 hk;have hlt:i<(out v).length:=by
    have:=(W5.1 hi).1;have hl2:ks.length=ns.length:=by rw[<-sl];exact uU q2
    rw[hout v hp];omega
   obtain⟨g,t,e1,cs',e2⟩:=hget i k _ hi (WZ hlt);refine⟨g,t+1,_,e1,?_⟩;obtain⟨y1,y2⟩:=hkd' k hk;rw[g5 k y1];have:=he3.eq k;rw[this,put_eq];simp only[];rw[vv y2,hown k hk];simp only[conc];obtain⟨g0,t0,cs0,e0⟩:=he1.own k k 0 (hown k hk);obtain⟨cs1,e3⟩:=kp k g0 t0 (hGL k g0 t0 cs0 (.inr hk) e0);rw[e2] at e3;injection e3 with e3
   injection e3 with x1 x2 _
   subst x1;rw[e0]
  have he6:aC L6 ρ6 a':=by
   refine⟨fun j=>?_,fun j k off e=>?_,fun j ad i e=>?_⟩
   ·simp only[ρ6];cases hm:fo ks j with
    | false=>rfl
    | true =>
     obtain⟨g,t,cs,e1,e2⟩:=hslot j (cH.1 hm);rw[e2];simp only[conc,e1]
   ·simp only[ρ6] at e;cases hm:fo ks j with
    | false=>rw[hm] at e;cases e
    | true =>
     rw[hm] at e;injection e with x1 x2
     subst x1;obtain⟨g,t,cs,e1,_⟩:=hslot j (cH.1 hm);exact⟨g,t,cs,e1⟩
   ·simp only[ρ6] at e;cases hm:fo ks j<;>rw[hm] at e<;>cases e
  obtain⟨c,x,hrv,hrel,hlost⟩:=hcat v hp;obtain⟨us,h5,h6⟩:=uj (K:=fun vs=>gh vs=x) c1 he6 hres (hrv L6 ρ6 fun i k cs e1 e2=>by
   obtain⟨g,t,e3,_⟩:=hget i k cs e1 e2;refine⟨?_,g,t,e3⟩;simp only[ρ6,cH.2 (W9 e1)])
  have hst:Step F (inp Li) w F6 L6 w6:=(hst1.trans g2).trans c2;obtain⟨Lo,p1,p2,p3,p4⟩:=wC c1 hst (fun i g t cs e=>by
   have e0:(inp Li).get (1000+i)=some (.box g t cs):=by rw[aS,j3 (by omega),show 1000+i-1000=i by omega];exact e
   obtain⟨cs1,e1⟩:=kp (1000+i) g t (hGI _ g t cs e0);refine⟨cs1,?_⟩;rw[<-hL6];have hni:1000+i∉ks:=by
    intro hm;have:=Xf.1 hkd _ hm;simp only[W6] at this;have:=this.2;rw[Nat.blt_eq] at this;omega
   rcases cW ks (List.zipWith oQ bs' (out v)) (L'.Wi ks) (1000+i) hnd hkl with⟨q1,q2⟩ | ⟨i',q1,q2,q3⟩
   ·rw[q1,eX,vv hni];exact e1
   ·exact xo (W9 q1) hni)
  obtain⟨Mo,Lo',l1,l2,l3,l4,l5,l6⟩:=M6 hnm hlL htl p1 p2 p3 p4;refine⟨_,h5,hRR _ F6 Lo' w6 l1 l2 ⟨Mo,c,l4,l5,?_,l6,hlost Mo l3⟩⟩;rw[h6];exact hrel _ _
def tmpsOf:List Operand->Option (List Nat)
 | []=>some []
 | .tmp k::l=>match tmpsOf l with | some ks=>some (k::ks) | none=>none
 | _::_=>none
theorem yO:∀{l:List Operand}{ks:List Nat},tmpsOf l=some ks->l=ks.map Operand.tmp
 | [],ks,h=>by simp only[tmpsOf,WY] at h;subst h;rfl
 | o::l,ks,h=>by
  cases o<;>simp only[tmpsOf,reduceCtorEq] at h;split at h
  case h_2=>cases h
  rename_i a e;injection h with h
  subst h;rw[yO e];rfl
def zR (op:Op) (d:Nat):Bool :=
 match op with
 | .defer c=>match c.callee,c.args.toList,c.argTypes.toList with
  | .value (.tmp a),[],[]=>Nat.beq d a
  | _,_,_=>false
 | _=>false
theorem CK {op:Op}{d:Nat}(h:zR op d=true):op=.defer {callee:=.value (.tmp d),args:=#[],argTypes:=#[]}:=by
 unfold zR at h;split at h
 case h_2=>cases h
 rename_i c;split at h
 case h_2=>cases h
 rename_i m e b f;have:=yo h;subst this;obtain⟨ca,l,a⟩:=c;simp only at e b f;subst e;have j:l=#[]:=by apply Array.ext';exact b
 have k:a=#[]:=by apply Array.ext';exact f
 rw[j,k]
def CM (P:Program) (A:cP) (fn:Func):Option (aJ×aJ×Nat×List Nat×Nat×List RV) :=
 match fn.body with
 | some (.seq c0 (.seq (.region _ ⟨[o1,o2]⟩ false) rest))=>match o1.op,o1.dst,o1.guard with
  | .makeFunc (.func H) ⟨[]⟩ ca,some d,none=>match zR o2.op d,o2.dst,o2.guard,tmpsOf ca.toList with
   | true,none,none,some ks=>match low P A c0,low P A rest,oK P fn.results.toList with
    | some sc0,some sc,some rs=>match fn.name == "runtime.NumGoroutine",Nat.beq fn.ntmps A.n&&Nat.blt d A.n&&bE ks,ks.all fun k=>!(fo (cD rest) k)&&!(Nat.beq k d)&&Nat.blt k 1000 with
     | false,true,true=>some (sc0,sc,H,ks,d,rs)
     | _,_,_=>none
    | _,_,_=>none
   | _,_,_,_=>none
  | _,_,_=>none
 | _=>none
theorem gm {P:Program}{f H d:Nat}{fn:Func}{A:cP}{p sc:aJ}{rs:List RV}{ks ns:List Nat}{args:List C}{Lin:List TO}{R:List TO->C->Prop}{PS:Value->Prop}{out:Value->List (List Value)}
  (hf:P.funcs[f]?=some fn) (a:CM P A fn=some (p,sc,H,ks,d,rs)) (hH:oL P H PS ns out)
  (e:∀v,PS v->(out v).length=ns.length) (l:Nat.ble args.length A.n=true) (aa:yN Lin=true)
  (j:∀v,PS v->∃c x,(∀(L:Loc) (ρ:Env),(∀(i:Nat) k cs,ks[i]?=some k->(out v)[i]?=some cs->ρ k=.own k 0/\∃g t,L.get k=some (.box g (t+1) cs))->kP L ρ rs (fun vs=>gh vs=x))/\(∀F L,Rel F L c x)/\∀Mo,qK Lin Mo->R Mo c)
  (h:s9 args->(∀o∈Lin,o.Wf)->eJ P ⟨fun _=>False,[],none⟩ p (fun _ _ _=>False) (fun _ _=>False) (fun M τ=>wD M τ ks ns=true /\
   eJ P ⟨PS,ks.zip ns,none⟩ sc (fun _ _ _=>False) (fun L ρ=>pM L ρ rs fun vs=>oP Lin L (rm vs) R) (fun L ρ=>pM L ρ rs fun vs=>oP Lin L (rm vs) R) M (bw (some d) .any τ)) (iO Lin) (uD 0 args)) :
  CallsT P f args Lin R:=by
 unfold CM at a;split at a
 case h_2=>cases a
 rename_i c0 r o1 o2 ab hb;split at a
 case h_2=>cases a
 rename_i H' ca d' e1 e2 e3;split at a
 case h_2=>cases a
 rename_i w e4 e5 e6 e7;split at a
 case h_2=>cases a
 rename_i ac an av e8 e9 y;split at a
 case h_2=>cases a
 rename_i q b z;simp only[WY,Prod.mk.injEq] at a;obtain⟨rfl,rfl,rfl,rfl,rfl,rfl⟩:=a;simp only[W6] at b;obtain⟨⟨b,m⟩,u⟩:=b;have s:ca=(w.map Operand.tmp).toArray:=by
  have:=yO e7;rw[<-this]
 rw[s] at e1;rw[Nat.blt_eq] at m;exact zQ hf hb q (yo b) e1 e2 e3 (CK e4) e5 e6 e8 e9 y hH m u z e l aa j h
end Go.Fr.T
namespace Go.Fr
open Go Go.RowKit
section
variable {P:Program}{Q:Exit->Act->World->Prop}{K:cE}
theorem noPan {n:Nat}{F:aA}{L:Loc}{w:World}{a:Act}{asg:List Nat}{E:Nat->cE}{R N:cE}{c} {b:Act}{w':World}(h:QQ n F L w a asg (fun _ _ _=>False) E R N (.panic c) b w'):False:=by
 obtain⟨v,_,F',L',_,_,_,_,_,h⟩:=h;exact h
theorem mY {A:cP}{r:Nat}{c:Array Oper}:∀(is:List Nat) {ss:List ak}{F:aA}{L:Loc}{ρ:Env}{a:Act}{w:World},pz P A r c is=some ss->St F L w->aC L ρ a->a.tmps.size=A.n ->
  aU P ss F L ρ K->(∀a' w',dY A.n F L w a (dstsOf c is) K a' w'->Q .normal a' w')->wpOps P c Q is a w:=by
 intro is
 induction is with
 | nil =>
  intro ss F L ρ a w hl hs he hn l hQ;simp only[pz,WY] at hl;subst hl;exact hQ a w ⟨F,L,ρ,hs,he,hn,rfl,Step.refl _ _ _,fun _ _=>rfl,l⟩
 | cons i is ih =>
  intro ss F L ρ a w hl hs he hn l hQ;simp only[pz] at hl;split at hl
  case h_1=>cases hl
  rename_i o hi;split at hl
  case h_2=>cases hl
  rename_i g s u hg bu ar ab;injection hl with hl
  subst hl
  -- the t
  have t:∀(ks:List Nat) {F:aA}{L:Loc}{ρ:Env},St F L w->aC L ρ a->aU P (ks.map ak.frz++mV (tV A.pan r i) o.dst s g::u) F L ρ K ->
    ∃F' L' ρ',St F' L' w/\aC L' ρ' a/\Step F L w F' L' w/\aU P (mV (tV A.pan r i) o.dst s g::u) F' L' ρ' K:=by
   intro ks
   induction ks with
   | nil=>intro F L ρ hs he h;exact⟨F,L,ρ,hs,he,Step.refl _ _ _,h⟩
   | cons k ks ba =>
    intro F L ρ hs he h;simp only[Xa,Xk,aU] at h;split at h
    ·rename_i g' t' cs' hk;obtain⟨F1,bo,bj,z,q,m⟩:=qV hs he hk;obtain⟨F2,L2,aw,av,aE,ae,h2⟩:=ba z q (h F1 bo bj);exact⟨F2,L2,aw,av,aE,m.trans ae,h2⟩
    ·obtain⟨F1,L1,z,q,m,h1⟩:=nB hs he h;obtain⟨F2,L2,aw,av,aE,ae,h2⟩:=ba z q h1;exact⟨F2,L2,aw,av,aE,m.trans ae,h2⟩
  obtain⟨F1,L1,bb,z,q,m,l⟩:=t _ hs he l
  clear t
  have ce:tV A.pan r i=false:=by
   cases hb:tV A.pan r i with
   | false=>rfl
   | true=>rw[hb] at l;simp only[mV,aU] at l
  rw[ce] at l;simp only[mV] at l
  clear he
  have he:=q;have hd:∀k,o.dst=some k->k<a.tmps.size:=by
   intro k hk;rw[hk] at ar;rw[hn];have h2:Nat.blt k A.n=true:=ar;simpa using h2
  have ay:dstsOf c (i::is)=match o.dst with | some d=>d::dstsOf c is | none=>dstsOf c is:=by
   simp only[dstsOf,hi,Option.bind_some];cases o.dst<;>rfl
  have al:∀j,j∉dstsOf c (i::is)->o.dst≠some j/\j∉dstsOf c is:=by
   intro j hj;rw[ay] at hj;cases ho:o.dst with
   | none=>rw[ho] at hj;exact⟨by simp,hj⟩
   | some d =>
    rw[ho] at hj;simp only[W7,not_or] at hj;exact⟨by simp;exact fun e=>hj.1 e.symm,hj.2⟩
  have ac:evalOp P s o.dst F1 L1 bb (fun F' L' ρ'=>aU P u F' L' ρ' K)->o.wp P a w (wpOps P c Q is) Q:=by
   intro l;have:=eD (Q:=Q) z q hd bu l;refine Oper.wp_mono ?_ (pA (asg:=[]) this);rintro a' w' ⟨⟨F',L',ρ',g1,g2,g3,g4,g5,g6⟩,bx⟩;refine ih ab g1 g2 (by rw[g3,hn]) g6 ?_;rintro az ax ⟨F'',L'',ag,k1,k2,k3,k4,k5,k6,k7⟩;refine hQ az ax ⟨F'',L'',ag,k1,k2,k3,k4.trans g4,(m.trans g5).trans k5,fun j hj=>?_,k7⟩;obtain⟨n1,n2⟩:=al j hj;rw[k6 j n2,bx j n1]
  have skip:aU P u F1 L1 (put o.dst (.v undef) bb) K->wpOps P c Q is (a.put o.dst undef) w:=by
   intro l;refine ih ab z (q.put hd (v:=undef) (x:=.v undef) rfl bL dc (qi L1)) (by rw[j9,hn]) l ?_;rintro az ax ⟨F'',L'',ag,k1,k2,k3,k4,k5,k6,k7⟩;refine hQ az ax ⟨F'',L'',ag,k1,k2,k3,k4.trans (gj _ _ _),m.trans k5,fun j hj=>?_,k7⟩;obtain⟨n1,n2⟩:=al j hj;rw[k6 j n2,jN n1]
  simp only[wpOps,hi];cases ad:o.guard with
  | none =>
   rw[ad] at hg;simp only[gO,WY] at hg;subst hg;simp only[aU] at l;rw[j3 (by simp[Region.wanted,ad])];exact .inl (ac l)
  | some p =>
   obtain⟨j,y⟩:=p;rw[ad] at hg;simp only[gO] at hg;split at hg
   case h_2=>cases hg
   rename_i d be;injection hg with hg
   subst hg;simp only[aU] at l;split at l
   ·rename_i b hb;have f:=q.eq d;rw[hb] at f;have hy:yielded c a.tmps j=some b:=by
     simp only[yielded,be,Option.bind_some,qj f]
    have hw:Region.wanted o (yielded c a.tmps)=(b == y):=by
     simp only[Region.wanted,ad,hy];cases b<;>cases y<;>rfl
    rw[hw];cases b<;>simp only[vh] at l
    ·rw[kg hb] at l;cases y
     ·exact .inl (ac l)
     ·exact skip l
    ·rw[kg hb] at l;cases y
     ·exact skip l
     ·exact .inl (ac l)
   ·rename_i vs hb;have f:=q.eq d;rw[hb] at f;have hy:yielded c a.tmps j=none:=by
     simp only[yielded,be,Option.bind_some];rw[Xt] at f;cases e:a.tmps[d]? with
     | none=>rfl
     | some v=>rw[e] at f;simp only[Option.getD_some,conc] at f;rw[f]
    have hw:Region.wanted o (yielded c a.tmps)=false:=by
     simp only[Region.wanted,ad,hy];rfl
    rw[hw];exact skip l
   ·exact l.elim
theorem sF {a:Act}{w:World}{d:List ak}{K:cE}:∀(ks:List Nat) {F:aA}{L:Loc}{ρ:Env},St F L w->aC L ρ a->aU P (ks.map ak.frz++d) F L ρ K ->
  ∃F' L' ρ',St F' L' w/\aC L' ρ' a/\Step F L w F' L' w/\aU P d F' L' ρ' K:=by
 intro ks
 induction ks with
 | nil=>intro F L ρ p o h;exact⟨F,L,ρ,p,o,Step.refl _ _ _,h⟩
 | cons k ks n =>
  intro F L ρ p o h;simp only[Xa,Xk,aU] at h;split at h
  ·rename_i v x cs' t;obtain⟨F1,q,r,e,l,b⟩:=qV p o t;obtain⟨F2,L2,j,f,m,c,s⟩:=n e l (h F1 q r);exact⟨F2,L2,j,f,m,b.trans c,s⟩
  ·obtain⟨F1,L1,e,l,b,u⟩:=nB p o h;obtain⟨F2,L2,j,f,m,c,s⟩:=n e l u;exact⟨F2,L2,j,f,m,b.trans c,s⟩
theorem CN {ss:List ak}{E:Nat->cE}{R N:cE}{F:aA}{L:Loc}{ρ:Env}{a:Act}{w:World}:∀(ks:List Nat),St F L w->aC L ρ a->jJ P (xH ks (.regD ss)) E R N F L ρ ->
  ∃F' L' ρ',St F' L' w/\aC L' ρ' a/\Step F L w F' L' w/\aU P ss F' L' ρ' N
 | [],d,c,h=>⟨F,L,ρ,d,c,Step.refl _ _ _,by simpa only[xH,jJ] using h⟩
 | k::l,d,c,h=>by
  simp only[xH,jJ] at h;have n:aU P ((k::l).map ak.frz++[]) F L ρ (fun F L ρ=>aU P ss F L ρ N):=by simpa only[Xa,Xp] using h
  obtain⟨F1,L1,b,f,m,j,e⟩:=sF (k::l) d c n;simp only[aU] at e;exact⟨F1,L1,b,f,m,j,e⟩
theorem Bx {A:cP}:∀(c:Code) {sc:aJ},low P A c=some sc->∀{E:Nat->cE}{R N:cE}{F:aA}{L:Loc}{ρ:Env}{a:Act}{w:World},St F L w->aC L ρ a->a.tmps.size=A.n ->
  jJ P sc E R N F L ρ->c.wp P (QQ A.n F L w a (cD c) (fun _ _ _=>False) E R N) a w:=by
 intro c
 induction c with
 | skip =>
  intro sc b E R N F L ρ a w q o s m;simp only[low,WY] at b;subst b;exact wp_skip ⟨F,L,ρ,q,o,s,rfl,Step.refl _ _ _,fun _ _=>rfl,m⟩
 | label l =>
  intro sc b E R N F L ρ a w q o s m;simp only[low,WY] at b;subst b;exact wp_label ⟨F,L,ρ,q,o,s,rfl,Step.refl _ _ _,fun _ _=>rfl,m⟩
 | exit id =>
  intro sc b E R N F L ρ a w q o s m;simp only[low,WY] at b;subst b;exact wp_exit ⟨F,L,ρ,q,o,s,rfl,Step.refl _ _ _,fun _ _=>rfl,m⟩
 | ret =>
  intro sc b E R N F L ρ a w q o s m;simp only[low,WY] at b;subst b;exact wp_ret ⟨F,L,ρ,q,o,s,rfl,Step.refl _ _ _,fun _ _=>rfl,m⟩
 | region r dj bi =>
  intro sc b E R N F L ρ a w q o s m;cases bi with
  | false =>
   simp only[low] at b;split at b
   case h_2=>cases b
   rename_i ss bt;injection b with b;subst b
   simp only[jJ] at m;exact wp_region (mY _ bt q o s m fun a' w' h=>h)
  | true =>
   simp only[low] at b;split at b
   case h_2=>cases b
   rename_i is cl ss h1 z;split at b
   case h_2 =>
    split at b
    case h_2=>cases b
    injection b with b;subst b
    simp only[jJ] at m
   rename_i h0;split at b
   case h_2=>cases b
   rename_i h3;injection b with b;subst b
   obtain⟨F1,L1,ab,ar,av,aa,m⟩:=CN _ q o m;have h4:rT A.ord r=is:=by simp only[rT,h1]
   rw[h4] at z;exact q9 z h3 ar av s m fun a' w' h=>dY.after (asg1:=[]) aa rfl (fun _ _=>rfl) h (fun _ h=>xo h List.not_mem_nil) (fun _ h=>h)
 | seq x y an am =>
  intro sc b E R N F L ρ a w q o s m;simp only[low] at b;split at b
  case h_2=>cases b
  rename_i h1 z;injection b with b;subst b
  simp only[jJ] at m;refine wp_seq (wp_mono (an h1 q o s m) ?_);intro e p w1 d;cases e with
  | normal =>
   obtain⟨F1,L1,ab,g1,g2,g3,g4,g5,g6,g7⟩:=d;refine wp_mono (am z g1 g2 g3 g7) ?_;intro e2 a2 w2 aw;cases e2<;>first
    | exact dY.after g5 g4 g6 aw (fun j h=>W4.2 (.inl h)) (fun j h=>W4.2 (.inr h))
    | exact aw
    | exact(noPan aw).elim
  | exit id=>exact d.mono fun j h=>W4.2 (.inl h)
  | ret=>exact d.mono fun j h=>W4.2 (.inl h)
  | goto l=>exact d
  | panic c=>exact(noPan d).elim
  | outgrown=>exact d
 | cond c x y an am =>
  intro sc b E R N F L ρ a w q o s m;simp only[low] at b;split at b
  case h_2=>cases b
  rename_i h0 h1 z;injection b with b;subst b
  simp only[jJ] at m;split at m
  case h_2=>exact m.elim
  rename_i t ht;have hc:a.eval c=.bool t:=by rw[aG h0 o,bB ht]
  refine wp_cond hc ?_;cases t
  ·simp only[vh] at m;refine wp_mono (am z q o s m) ?_;intro e p w1 d;cases e<;>first
    | exact d.mono fun j h=>W4.2 (.inr h)
    | exact(noPan d).elim
    | exact d
  ·simp only[vh] at m;refine wp_mono (an h1 q o s m) ?_;intro e p w1 d;cases e<;>first
    | exact d.mono fun j h=>W4.2 (.inl h)
    | exact(noPan d).elim
    | exact d
 | block id x ih =>
  intro sc b E R N F L ρ a w q o s m;simp only[low] at b;split at b
  case h_2=>cases b
  rename_i h1;injection b with b;subst b
  simp only[jJ] at m;refine wp_block (wp_mono (ih h1 q o s m) ?_);intro e p w1 d;cases e with
  | exit j =>
   simp only[Exit.inBlock];simp only[QQ] at d
   by_cases hj:j=id
   ·subst hj;have hb:Nat.beq j j=true:=by simp
    rw[hb] at d;rw[j3 rfl];exact d
   ·have hb:Nat.beq j id=false:=by
     cases h:Nat.beq j id with
     | true=>exact xo (yo h) hj
     | false=>rfl
    rw[hb] at d;rw[vv hj];exact d
  | normal=>exact d
  | ret=>exact d
  | goto l=>exact d
  | panic c=>exact(noPan d).elim
  | outgrown=>exact d
 | loop x ih =>
  intro sc b E R N F L ρ a w q o s m;simp only[low] at b;split at b
  case h_2=>cases b
  rename_i sx h1;injection b with b;subst b
  simp only[jJ] at m;obtain⟨σ,x0,Inv,ls,lv,Lf,μ,i0,i1,i2,i3,i4⟩:=m
  -- the frame at a loop's ac
  have ac:∀(y:σ) (F1:aA) (L1:Loc) (ab:Env) (p:Act) (w1:World),(∀t,p.tmps.getD t undef=conc L1 (ab t))->(∀j,j∉cD x->p.tmps.getD j undef=a.tmps.getD j undef)->holds ls ((lv y).map .v) ab ->
    aC (Lf y) (puts ls ((lv y).map .v) (gB (cD x) (fun j=>p.tmps.getD j undef) ρ)) p:=by
   intro y F1 L1 ab p w1 bu ca hh;have bb:∀j k off,gB (cD x) (fun j=>p.tmps.getD j undef) ρ j=.own k off->j∉cD x/\ρ j=.own k off:=by
    intro j k off e;simp only[gB] at e;split at e
    ·cases e
    ·rename_i hm;exact⟨fun h=>(by rw[cH.2 h] at hm;cases hm),e⟩
   have cd:∀j ad i,gB (cD x) (fun j=>p.tmps.getD j undef) ρ j=.el ad i->ρ j=.el ad i:=by
    intro j ad i e;simp only[gB] at e;split at e
    ·cases e
    ·exact e
   refine⟨fun j=>?_,fun j k off e=>?_,fun j ad i e=>?_⟩
   ·rcases qX ls (lv y) ab (gB (cD x) (fun j=>p.tmps.getD j undef) ρ) bu hh j with⟨v,z,h3⟩ | z
    ·rw[z,h3];rfl
    ·rw[z];simp only[gB];split
     ·rfl
     ·rename_i hm;have hj:j∉cD x:=fun h=>by rw[cH.2 h] at hm;cases hm
      rw[ca j hj,o.eq j];cases e:ρ j with
      | v u=>rfl
      | el u i=>rfl
      | own k off =>
       obtain⟨g,ty,cs,hg⟩:=o.own j k off e;obtain⟨cs',ay⟩:=lG (i3 y) hg;simp only[conc,hg,ay]
   ·rcases je ls (lv y) (gB (cD x) (fun j=>p.tmps.getD j undef) ρ) j with z | ⟨v,z⟩
    ·rw[z] at e;obtain⟨_,e'⟩:=bb j k off e;obtain⟨g,ty,cs,hg⟩:=o.own j k off e';obtain⟨cs',ay⟩:=lG (i3 y) hg;exact⟨g,ty,cs',ay⟩
    ·rw[z] at e;cases e
   ·rcases je ls (lv y) (gB (cD x) (fun j=>p.tmps.getD j undef) ρ) j with z | ⟨v,z⟩
    ·rw[z] at e;exact o.el j ad i (cd j ad i e)
    ·rw[z] at e;cases e
  refine sU (fun n p w1=>∃(y:σ) (F1:aA),n=μ y/\F.le F1/\Inv y F1/\St F1 (Lf y) w1/\p.tmps.size=A.n/\p.defers=a.defers/\Step F L w F1 (Lf y) w1/\(∀j,j∉cD x->p.tmps.getD j undef=a.tmps.getD j undef) /\
   aC (Lf y) (puts ls ((lv y).map .v) (gB (cD x) (fun j=>p.tmps.getD j undef) ρ)) p) ?_ ?_
  ·exact⟨_,x0,F,rfl,aA.le_refl F,i0,q.gives i2,s,rfl,qW i2,fun _ _=>rfl,ac x0 F L ρ a w o.eq (fun _ _=>rfl) i1⟩
  ·rintro n p w1 ⟨y,F1,rfl,bc,be,ar,bs,ax,aa,ae,av⟩;refine wp_mono (ih h1 ar av bs (i4 y F1 _ bc be)) ?_;intro e a2 w2 d;cases e with
   | normal =>
    obtain⟨F2,L2,bo,g1,g2,g3,g4,g5,g6,⟨y',k1,k2,k3,k4⟩⟩:=d;have ao:∀j,j∉cD x->a2.tmps.getD j undef=a.tmps.getD j undef:=fun j hj=>by rw[g6 j hj,ae j hj]
    exact⟨μ y',k4,y',F2,rfl,aA.le_trans bc g5.le,k1,g1.gives k3,g3,g4.trans ax,(aa.trans g5).trans (qW k3),ao,ac y' F2 L2 bo a2 w2 g2.eq ao k2⟩
   | exit j=>exact dY.after aa ax ae d (fun j h=>h) (fun j h=>h)
   | ret=>exact dY.after aa ax ae d (fun j h=>h) (fun j h=>h)
   | goto l=>exact d
   | panic c=>exact(noPan d).elim
   | outgrown=>exact d
 | rangeFunc f ps x y an am=>intro sc b;simp only[low] at b;cases b
 | scope x ih =>
  intro sc b E R N F L ρ a w q o s m;simp only[low] at b;refine wp_scope_straight (wp_mono (ih b q o s m) ?_);intro e p w1 d;cases e<;>exact d
 | goto l=>intro sc b;simp only[low] at b;cases b
 | refuse dd=>intro sc b;simp only[low] at b;cases b
end
end Go.Fr
namespace Go.Fr.T
open Go Go.RowKit Go.Fr
theorem Hq:∀{bs:List Own}{ns:List Nat}{i:Nat}{o:Own},Cc bs ns->bs[i]?=some o->∃g t cs,o=.box g t cs
 | [],ns,i,o,h,e=>by simp at e
 | b::bs,[],i,o,h,e=>h.elim
 | b::bs,n::ns,i,o,h,e=>by
  cases i with
  | zero =>
   simp only[Xg,WY] at e;subst e;cases b with
   | row=>exact h.1.elim
   | box g t cs=>exact⟨g,t,cs,rfl⟩
  | succ i=>exact Hq h.2 (by simpa using e)
def E8 (n:Nat):Env:=fun j=>match Nat.blt j n with | true=>.own (1000+j) 0 | false=>.v undef
theorem JI {bs:List Own}{ns:List Nat}{m:Nat}(h:Cc bs ns):aC (inp bs) (E8 bs.length) {tmps:=(bs.map mG).toArray++Array.replicate m undef,defers:=[]}:=by
 have d:∀j,j<bs.length->∃g t cs,bs[j]?=some (.box g t cs):=fun j c=>by
  obtain⟨g,t,cs,e⟩:=Hq h (WZ c);exact⟨g,t,cs,by rw[WZ c,e]⟩
 have hi:∀j,(inp bs).get (1000+j)=bs[j]?:=fun j=>by rw[aS,j3 (by omega),show 1000+j-1000=j by omega]
 refine⟨fun j=>?_,fun j k off e=>?_,fun j f i e=>?_⟩
 ·simp only[E8,Xt];cases hb:Nat.blt j bs.length with
  | true =>
   have a:j<bs.length:=by simpa using hb
   obtain⟨g,t,cs,e⟩:=d j a;rw[Array.getElem?_append_left (by simpa using a)];simp only[conc,hi,e,List.getElem?_toArray,XH,XU,Option.getD_some,mG]
  | false =>
   have b:¬j<bs.length:=fun h=>by rw[(Nat.blt_eq ..).mpr h] at hb;cases hb
   rw[Array.getElem?_append_right (by simpa using b)];simp only[Array.getElem?_replicate,conc];split<;>rfl
 ·simp only[E8] at e;split at e
  ·rename_i hb;have a:j<bs.length:=by simpa using hb
   injection e with e1 e2
   subst e1;obtain⟨g,t,cs,e⟩:=d j a;exact⟨g,t,cs,by rw[hi,e]⟩
  ·cases e
 ·simp only[E8] at e;split at e<;>cases e
def LU:Op->Bool
 | .call {callee:=.builtin .recover,args:=⟨[]⟩,argTypes:=⟨[]⟩}=>true
 | _=>false
theorem E9 {P:Program}{H d d2 r0:Nat}{fn:Func}{o o2:Oper}{rest:Code}{A:cP}{sc:aJ}{PS:Value->Prop}{ns:List Nat}{out:Value->List (List Value)}
  (hf:P.funcs[H]?=some fn) (hb:fn.body=some (.seq (.region r0 #[o,o2] false) rest)) (hname:(fn.name == "runtime.NumGoroutine")=false) (ho:o.op=.call {callee:=.builtin .recover,args:=#[],argTypes:=#[]}) (hd:o.dst=some d) (hg:o.guard=none) (ho2:o2.op=.assign (.tmp d)) (hd2:o2.dst=some d2) (hg2:o2.guard=none) (hdn2:d2<A.n)
  (hnt:fn.ntmps=A.n) (hres:fn.results=#[]) (hl:low P A rest=some sc) (hdn:d<A.n) (hns:ns.length<=A.n)
  (hidle:∀(bs:List Own) (w:World),Cc bs ns->CallsD P H (bs.map mG).toArray .returning w fun e u' w'=>e=.returned (.tuple #[])/\u'=.returning/\w'=w)
  (hcat:∀(F:aA) (bs:List Own) (v:Value),PS v->Cc bs ns->jJ P sc (fun _ _ _ _=>False) (fun _ L' _=>L'.sub (List.range' 1000 bs.length)=some (List.zipWith oQ bs (out v))) (fun _ L' _=>L'.sub (List.range' 1000 bs.length)=some (List.zipWith oQ bs (out v))) F (inp bs) (put (some d2) (.v v) (put (some d) (.v v) (E8 bs.length)))) :
  oL P H PS ns out:=by
 refine⟨fun cap w=>?_,hidle,fun F bs v older w hv hbx hs=>?_⟩
 ·simp[invoke];rw[jc ⟨fn,hf,by rw[hb];rfl,hname⟩]
 refine callsD_of_wpS hf hb fun c₀ cs hu=>?_;have hlen:=uU hbx;have he0:=JI (m:=fn.ntmps-(bs.map mG).toArray.size) hbx;generalize htm:(bs.map mG).toArray++Array.replicate (fn.ntmps-(bs.map mG).toArray.size) undef=tm at he0 ⊢;have hsz:tm.size=A.n:=by
  rw[<-htm,<-hnt];simp;omega
 refine wpS_seq (wpS_region ?_);simp[wpOpsS,go_sem,recoverD,hu,ho,hd,hg,ho2,hd2,hg2,Region.wanted,Exit.thenS,hsz,hdn,Act.eval];have he1:=he0.put (L':=inp bs) (d:=some d) (v:=v) (x:=.v v) (fun k e=>by injection e with e;subst e;simpa[hsz] using hdn) rfl bL dc (fun k g ty cs e=>⟨cs,e⟩);have he2:=he1.put (L':=inp bs) (d:=some d2) (v:=v) (x:=.v v) (fun k e=>by injection e with e;subst e;simp[Act.put,hsz];exact hdn2) rfl bL dc (fun k g ty cs e=>⟨cs,e⟩);refine wpS_of_wp (wp_mono (Bx rest hl hs ⟨he2.eq,he2.own,he2.el⟩ (by simpa using hsz) (hcat F bs v hv hbx)) ?_);have fin:∀(a':Act) (w':World),dY A.n F (inp bs) w {tmps:=(tm.setIfInBounds d v).setIfInBounds d2 v,defers:=[]} (cD rest) (fun _ L' _=>L'.sub (List.range' 1000 bs.length)=some (List.zipWith oQ bs (out v))) a' w' ->
   a'.defers=[]/\∃u',({c₀ with mode:=FrameMode.panicking ({v,recovered:=true}::older)}::cs:List Frame)={c₀ with mode:=u'}::cs/\∃x,(results fn a'.tmps).run P w'=.ok x w' /\
    ((Ending.returned x=.returned (.tuple #[])/\u'=.panicking ({v,recovered:=true}::older))/\∃F',St F' (inp (List.zipWith oQ bs (out v))) w'/\Step F (inp bs) w F' (inp (List.zipWith oQ bs (out v))) w'):=by
  rintro a' w' ⟨F',L',ρ',g1,g2,g3,g4,g5,g6,k1⟩;obtain⟨e1,e2⟩:=dW k1;refine⟨g4,_,rfl,.tuple #[],by simp[results,hres],⟨rfl,rfl⟩,F',g1.handed k1 List.nodup_range',?_⟩;refine⟨g5.le,g5.os,g5.tape,g5.output,g5.size,g5.same,g5.frz,fun b hb=>g5.own b ?_⟩;obtain⟨j,p,e,hb⟩:=hb;rw[aS] at e;split at e
  case isFalse=>cases e
  have hlt:j-1000<(List.zipWith oQ bs (out v)).length:=(W5.1 e).1;have hk:(List.range' 1000 bs.length)[j-1000]?=some ((List.range' 1000 bs.length)[j-1000]'(by omega)):=WZ (by omega);exact⟨_,p,by rw[e2 _ _ hk];exact e,hb⟩
 intro e a' w' hq;cases e with
 | normal =>
  obtain⟨k1,u',k2,x,k3,⟨k4,k5⟩,k6⟩:=fin a' w' hq;exact⟨k1,u',k2,x,k3,k4,k5,k6⟩
 | ret =>
  obtain⟨k1,u',k2,x,k3,⟨k4,k5⟩,k6⟩:=fin a' w' hq;exact⟨k1,u',k2,x,k3,k4,k5,k6⟩
 | exit j=>obtain⟨F',L',ρ',_,_,_,_,_,_,h⟩:=hq;exact h.elim
 | goto l=>exact hq.elim
 | outgrown=>exact hq.elim
 | panic ch=>obtain⟨v,hch,hp⟩:=hq;obtain⟨F',L',_,_,_,_,_,hp⟩:=hp;exact hp.elim
def zS (P:Program) (A:cP) (fn:Func):Option (aJ×Nat×Nat) :=
 match fn.body with
 | some (.seq (.region _ ⟨[o,o2]⟩ false) rest)=>match LU o.op,o.dst,o.guard,low P A rest,fn.results with
  | true,some d,none,some sc,⟨[]⟩=>match o2.op,o2.dst,o2.guard with
   | .assign (.tmp d'),some d2,none=>match fn.name == "runtime.NumGoroutine",Nat.beq fn.ntmps A.n&&Nat.blt d A.n&&Nat.beq d d'&&Nat.blt d2 A.n with
    | false,true=>some (sc,d,d2)
    | _,_=>none
   | _,_,_=>none
  | _,_,_,_,_=>none
 | _=>none
theorem zT {P:Program}{H d m:Nat}{fn:Func}{A:cP}{sc:aJ}{PS:Value->Prop}{ns:List Nat}{out:Value->List (List Value)}(hf:P.funcs[H]?=some fn) (a:zS P A fn=some (sc,d,m)) (j:Nat.ble ns.length A.n=true)
  (b:∀(bs:List Own) (w:World),Cc bs ns->CallsD P H (bs.map mG).toArray .returning w fun e u' w'=>e=.returned (.tuple #[])/\u'=.returning/\w'=w)
  (c:∀(F:aA) (bs:List Own) (v:Value),PS v->Cc bs ns->jJ P sc (fun _ _ _ _=>False) (fun _ L' _=>L'.sub (List.range' 1000 bs.length)=some (List.zipWith oQ bs (out v))) (fun _ L' _=>L'.sub (List.range' 1000 bs.length)=some (List.zipWith oQ bs (out v))) F (inp bs) (put (some m) (.v v) (put (some d) (.v v) (E8 bs.length)))) :
  oL P H PS ns out:=by
 unfold zS at a;split at a
 case h_2=>cases a
 rename_i r o o2 l hb;split at a
 case h_2=>cases a
 rename_i d' ae h h2 h3 t h5;split at a
 case h_2=>cases a
 rename_i x y z dd ac q k2 k3;split at a
 case h_2=>cases a
 rename_i s f;simp only[WY,Prod.mk.injEq] at a;obtain⟨rfl,rfl,rfl⟩:=a;simp only[W6] at f;obtain⟨⟨⟨f,p⟩,u⟩,k⟩:=f;obtain rfl:=yo u;have ho:o.op=.call {callee:=.builtin .recover,args:=#[],argTypes:=#[]}:=by
  unfold LU at h;split at h
  ·assumption
  ·cases h
 exact E9 hf hb s ho h2 h3 q k2 k3 (by simpa using k) (yo f) h5 t (by simpa using p) (Xh j) b c
end Go.Fr.T
namespace Go.Fr
open Go Go.RowKit
mutual
def G.bulk:G->Nat
 | .int _ _=>1
 | .bool _=>1
 | .str s=>s.size+1
 | .sl _ l=>G.Wn l+1
 | .st l=>G.Wn l+1
def G.Wn:List G->Nat
 | []=>0
 | x::l=>G.bulk x+G.Wn l
end
mutual
def gX {H:Type}:DataW H->Nat
 | .lit (.string bytes)=>bytes.length+1
 | .lit _=>1
 | .nil=>1
 | .ptr d=>gX d+1
 | .slice elems spare=>eC elems+eC spare+1
 | .agg parts=>eC parts+1
 | .iface _ d=>gX d+1
 | .map entries=>lB entries+1
 | .held _=>1
def eC {H:Type}:List (DataW H)->Nat
 | []=>0
 | d::r=>gX d+eC r
def lB {H:Type}:List (Lit×DataW H)->Nat
 | []=>0
 | x::r=>rC x+lB r
def rC {H:Type}:Lit×DataW H->Nat
 | (.string bytes,d)=>bytes.length+gX d+1
 | (_,d)=>gX d+1
end
def Ok (P:Program):Nat->TypeId->G->Prop
 | 0,_,_=>False
 | n+1,t,g=>match P.underlying t with
  | some .bool=>∃b,g=.bool b
  | some (.int k)=>∃x,g=.int k x/\(Lit.int k x).wf=true
  | some .string=>∃s,g=.str s
  | some (.slice e)=>∃l,g=.sl (P.cellsOf e) l/\∀x∈l,Ok P n e x
  | some (.struct a)=>∃l,g=.st l/\l.length=a.size/\∀(i:Nat) (f:Field) (x:G),a[i]?=some f->l[i]?=some x->Ok P n f.type x
  | _=>False
def wG (P:Program):Nat->List Field->Nat->Bool
 | o,[],n=>Nat.beq o n
 | o,f::a,n=>Nat.beq f.offset o&&wG P (o+P.cellsOf f.type) a n
def HE (P:Program) (S:List TypeId) (t:TypeId):Bool :=
 match P.underlying t with
 | some .bool=>true
 | some (.int _)=>true
 | some .string=>true
 | some (.slice e)=>fo S e&&Nat.blt 0 (P.cellsOf e)
 | some (.struct a)=>wG P 0 a.toList (P.cellsOf t)&&a.toList.all fun f=>fo S f.type
 | _=>false
def flat (P:Program) (S:List TypeId):Bool:=S.all (HE P S)
theorem ul {Q:Nat->G->Prop}:∀(n:Nat),(∀i,i<n->∃g,Q i g)->∃l:List G,l.length=n/\∀i g,l[i]?=some g->Q i g
 | 0,_=>⟨[],rfl,fun i g h=>by simp at h⟩
 | n+1,h=>by
  obtain⟨l,c,b⟩:=ul n (fun i hi=>h i (by omega));obtain⟨g,d⟩:=h n (by omega);refine⟨l++[g],by simp[c],fun i x a=>?_⟩
  by_cases hi:i<l.length
  ·rw[Xc hi] at a;exact b i x a
  ·rw[Xi (by omega)] at a;have:i-l.length=0:=by
    cases e:i-l.length with
    | zero=>rfl
    | succ k=>rw[e] at a;simp at a
   rw[this] at a;simp only[Xg,WY] at a;subst a;have:i=n:=by omega
   subst this;exact d
theorem wH {H:Type}:∀{l:List G}{ds:List (DataW H)},l.length=ds.length->(∀(i:Nat) g d,l[i]?=some g->ds[i]?=some d->g.bulk<=gX d)->G.Wn l<=eC ds
 | [],_,_,_=>by simp[G.Wn]
 | x::l,[],h,_=>by simp at h
 | x::l,d::ds,h,hb=>by
  simp only[G.Wn,eC];have f:=hb 0 x d (by simp) (by simp);have e:=wH (l:=l) (ds:=ds) (by simpa using h) (fun i g a c b=>hb (i+1) g a (by simpa using c) (by simpa using b));omega
section
variable {H:Type}{enc:TypeId×Value->H}{P:Program}{w:World}{base:Nat}{spare:Nat->Bool}{held:Bool}
def oM (w:World):aA:=fun b=>w.heap[b]?
theorem Fm {a:Addr}{n:Nat}{cs:List Value}(h:w.cells? base a n=some cs) (x:0<n) (r:a.spot=none->∀i,i<n->w.frozen? ⟨a.block,a.off+i,none⟩=false):cs.length=n/\bN (oM w) (some a) 0 cs:=by
 obtain⟨_,f,p⟩:=World.cells?_some h;refine⟨f,?_⟩;have m:=p 0 x;rw[WZ (by omega)] at m;have d:a.spot=none:=by simpa[Addr.add] using World.cell?_spot m
 have l:∃j t k,w.heap[a.block]?=some (.cells j t k):=by
  simp only[World.cell?,Addr.add] at m;split at m
  ·rename_i c t k e;exact⟨c,t,k,e⟩
  ·cases m
 obtain⟨j,t,k,hb⟩:=l;refine⟨a,j,t,k,rfl,hb,d,fun i v q=>?_⟩;have hi:i<n:=by rw[<-f];exact(W5.1 q).1
 have:=p i hi;obtain⟨b,o,z⟩:=a;simp only at d;subst d;rw[q,bU] at this;simp only[World.cell?] at this;simp only at hb;rw[hb] at this;refine⟨by simpa using this,fun s=>?_⟩;have y:=r rfl i hi;obtain⟨lo,u⟩:=k;simp only[World.frozen?,hb,Bool.and_eq_false_iff,decide_eq_false_iff_not] at y;simp only[Nat.add_zero] at s;omega
theorem zY {F:aA}{a:Addr}{n:Nat}{cs:List Value}(d:a.spot=none) (h:bN F (some (a.add n)) 0 cs):bN F (some a) n cs:=by
 obtain⟨b,o,m⟩:=a;simp only at d;subst d;rw[bU] at h;obtain⟨p,c,t,j,e,hb,f,k⟩:=h;injection e with e
 subst e;exact⟨_,c,t,j,rfl,hb,rfl,fun i v l=>by have:=k i v l;simpa[Nat.add_assoc] using this⟩
theorem KY {S:List TypeId}(hS:flat P S=true):∀(fuel:Nat) (t:TypeId) (cs:List Value) (x:DataW H×List MemPlace),t∈S->DataW.trod enc P w base spare held fuel t cs=some x->w.noneFrozen x.2 ->
  ∃g,Ok P fuel t g/\Rd (oM w) g cs/\g.bulk<=gX x.1:=by
 intro fuel
 induction fuel with
 | zero=>intro t cs x _ h;simp[DataW.trod] at h
 | succ n ih =>
  intro t cs x ht h hz;have u:=Xf.1 hS t ht;simp only[HE] at u;split at u
  ·rename_i p;obtain⟨b,rfl,rfl⟩:=DataW.trod_bool p h;exact⟨.bool b,by simp[Ok,p],by simp[Rd],by simp[G.bulk,gX]⟩
  ·rename_i k p;obtain⟨m,rfl,rfl,hw⟩:=DataW.trod_int p h;exact⟨.int k m,by simp[Ok,p,hw],by simp[Rd,hw],by simp[G.bulk,gX]⟩
  ·rename_i p;obtain⟨s,rfl,rfl,hw⟩:=DataW.trod_string p h;exact⟨.str s,by simp[Ok,p],by simp[Rd],by simp[G.bulk,gX]⟩
  ·rename_i e p;simp only[W6] at u;have he:e∈S:=cH.1 u.1;have ab:0<P.cellsOf e:=by simpa using u.2
   rcases DataW.trod_slice p h with⟨rfl,rfl⟩ | ⟨a,len,cap,elems,ay,m,e1,rfl,rfl,hb,hl,hm,aa,aw,_,_⟩
   ·refine⟨.sl (P.cellsOf e) [],by simp[Ok,p],?_,by simp[G.bulk,G.Wn,gX]⟩;rw[LP];exact⟨none,0,rfl,by simp,by simp,fun _=>⟨rfl,rfl⟩,fun j x hx=>by simp at hx⟩
   ·obtain rfl:m=n:=by omega
    have r:0<len->a.spot=none:=by
     intro h0;have h1:=aw 0 h0;rw[WZ (by omega)] at h1;obtain⟨es,h2,h3⟩:=Option.bind_eq_some_iff.1 h1;have h0:=(World.cells?_some h2).2.2 0 ab;rw[WZ (by rw[(World.cells?_some h2).2.1];omega)] at h0;simpa[Addr.add] using World.cell?_spot h0
    obtain⟨l,ap,ag⟩:=ul (Q:=fun i g=>Ok P m e g/\(∃es,es.length=P.cellsOf e/\bN (oM w) (some a) (i*P.cellsOf e) es/\Rd (oM w) g es)/\∀y,elems[i]?=some y->g.bulk<=gX y.1) len (by
     intro i hi;have h1:=aw i hi;rw[WZ (by omega)] at h1;obtain⟨es,h2,h3⟩:=Option.bind_eq_some_iff.1 h1;obtain⟨g,g1,g2,g3⟩:=ih e es _ he h3 (fun b off hm=>hz b off (List.mem_append_right _ (List.mem_flatMap.2 ⟨_,List.mem_append_left _ (List.getElem_mem (show i<elems.length by omega)),hm⟩)));obtain⟨g4,g5⟩:=Fm h2 ab (fun hs k hk=>by
      have an:a.spot=none:=r (by omega);obtain⟨b,o,sp⟩:=a;simp only at an;subst an;rw[bU];refine hz b _ (List.mem_append_left _ (Xz.2 ⟨i*P.cellsOf e+k,List.mem_range.2 ?_,by simp[Nat.add_assoc]⟩));have h5:(i+1)*P.cellsOf e<=(elems.length+ay.length)*P.cellsOf e:=Nat.mul_le_mul_right _ (by omega);rw[Nat.add_mul] at h5;omega)
     refine⟨g,g1,⟨es,g4,zY (r (by omega)) g5,g2⟩,fun y q=>?_⟩;rw[WZ (by omega)] at q;injection q with q
     subst q;exact g3)
    refine⟨.sl (P.cellsOf e) l,?_,?_,?_⟩
    ·simp only[Ok,p];refine⟨l,rfl,fun x hx=>?_⟩;obtain⟨i,hi⟩:=Xr.1 hx;exact(ag i x hi).1
    ·rw[LP];exact⟨some a,cap,by rw[ap],by omega,hm,fun e=>(by cases e),fun j x hx=>(ag j x hx).2.1⟩
    ·simp only[G.bulk,gX];have:=wH (l:=l) (ds:=elems.map (·.1)) (by simp[ap,aa]) (fun i g d hg hd=>by
      simp only[XH,Option.map_eq_some_iff] at hd;obtain⟨y,q,rfl⟩:=hd;exact(ag i g hg).2.2 y q)
     omega
  ·rename_i fs p;simp only[W6] at u;obtain⟨ae,ao⟩:=u;obtain⟨xs,m,e1,rfl,aa,bj,v⟩:=DataW.trod_struct p h;obtain rfl:m=n:=by omega
   have key:∀(fl:List Field) (ys:List (DataW H×List MemPlace)) (o:Nat),wG P o fl (P.cellsOf t)=true->ys.length=fl.length->(∀f∈fl,f.type∈S) ->
     (∀(i:Nat) f,fl[i]?=some f->DataW.trod enc P w base spare held m f.type ((cs.drop f.offset).take (P.cellsOf f.type))=ys[i]?) ->
     (∀y∈ys,w.noneFrozen y.2) ->
     ∃l,l.length=fl.length/\(∀(i:Nat) f g,fl[i]?=some f->l[i]?=some g->Ok P m f.type g)/\lU (oM w) l (cs.drop o)/\G.Wn l<=eC (ys.map (·.1)):=by
    intro fl
    induction fl with
    | nil =>
     intro ys o hc _ _ _ _;simp only[wG] at hc;have:=yo hc;refine⟨[],rfl,fun i f g h=>by simp at h,?_,by simp[G.Wn]⟩;simp only[lU];rw[List.drop_eq_nil_iff];omega
    | cons f fl bc =>
     intro ys o hc q z v ar;simp only[wG,W6] at hc;have ax:=yo hc.1
     match ys,q with
     | y::ys,q =>
      have h0:=v 0 f (by simp);simp only[Xg] at h0;obtain⟨g,g1,g2,g3⟩:=ih f.type _ _ (z f (by simp)) h0 (ar y (by simp));obtain⟨l,l1,l2,l3,l4⟩:=bc ys (o+P.cellsOf f.type) hc.2 (by simpa using q) (fun f' c=>z f' (by simp[c])) (fun i f' c=>by
       have:=v (i+1) f' (by simpa using c);simpa using this) (fun y' be=>ar y' (by simp[be]))
      refine⟨g::l,by simp[l1],fun i f' g' c al=>?_,?_,?_⟩
      ·cases i with
       | zero=>simp only[Xg,WY] at c al;subst c;subst al;exact g1
       | succ i=>exact l2 i f' g' (by simpa using c) (by simpa using al)
      ·simp only[lU];refine⟨(cs.drop o).take (P.cellsOf f.type),cs.drop (o+P.cellsOf f.type),?_,by rw[<-ax];exact g2,l3⟩;rw[<-List.drop_drop,List.take_append_drop]
      ·simp only[G.Wn,Xa,eC];omega
   obtain⟨l,l1,l2,l3,l4⟩:=key fs.toList xs 0 ae (by simp[bj]) (fun f u=>cH.1 (Xf.1 ao f u)) (fun i f hi=>v i f (by simpa using hi)) (fun y q b off hm=>hz b off (List.mem_flatMap.2 ⟨y,q,hm⟩));refine⟨.st l,?_,?_,?_⟩
   ·simp only[Ok,p];exact⟨l,rfl,by simpa using l1,fun i f x hi hx=>l2 i f x (by simpa using hi) hx⟩
   ·simp only[Rd];simpa using l3
   ·simp only[G.bulk,gX];omega
  ·cases u
end
namespace Api
abbrev I (n:Int):G:=.int .i64 n
inductive Ty where
 | mk (kind id:Int) (args:List Ty)
 deriving Inhabited
def Ty.kind:Ty->Int | .mk k _ _=>k
def Ty.id:Ty->Int | .mk _ i _=>i
def Ty.args:Ty->List Ty | .mk _ _ l=>l
mutual
def Ty.g:Ty->G
 | .mk k i l=>.st [I k,I i,.sl 3 (Ty.gs l)]
def Ty.gs:List Ty->List G
 | []=>[]
 | t::l=>t.g::Ty.gs l
end
theorem Ty.WK:∀l:List Ty,Ty.gs l=l.map Ty.g
 | []=>rfl
 | t::l=>by simp[Ty.gs,Ty.WK l]
structure qL where
 param:Int
 trait:Int
def qL.g (b:qL):G:=.st [I b.param,I b.trait]
structure Term where
 kind:Int
 a:Int
 targets:List Int
def Term.g (x:Term):G:=.st [I x.kind,I x.a,.sl 1 (x.targets.map I)]
structure HF where
 op:Int
 dst:Int
 a:Int
 b:Int
 n:Int
 args:List Int
 types:List Ty
def HF.g (x:HF):G:=.st [I x.op,I x.dst,I x.a,I x.b,I x.n,.sl 1 (x.args.map I),.sl 3 (x.types.map Ty.g)]
structure Block where
 code:List HF
 fin:Term
def Block.g (x:Block):G:=.st [.sl 7 (x.code.map HF.g),x.fin.g]
structure Nq where
 name:ByteArray
 module:Int
 params:Int
 bounds:List qL
 arity:Int
 result:Ty
 locals:List Ty
 blocks:List Block
 ties:List Int
def Nq.g (f:Nq):G:=.st [.str f.name,I f.module,I f.params,.sl 2 (f.bounds.map qL.g),I f.arity,f.result.g,.sl 3 (f.locals.map Ty.g),.sl 4 (f.blocks.map Block.g),.sl 1 (f.ties.map I)]
structure Variant where
 name:ByteArray
 fields:List Ty
def Variant.g (x:Variant):G:=.st [.str x.name,.sl 3 (x.fields.map Ty.g)]
structure Data where
 name:ByteArray
 module:Int
 params:Int
 variants:List Variant
 drop:Int
def Data.g (d:Data):G:=.st [.str d.name,I d.module,I d.params,.sl 2 (d.variants.map Variant.g),I d.drop]
structure Impl where
 trait:Int
 module:Int
 params:Int
 bounds:List qL
 type:Ty
 func:Int
def Impl.g (x:Impl):G:=.st [I x.trait,I x.module,I x.params,.sl 2 (x.bounds.map qL.g),x.type.g,I x.func]
structure Prog where
 modules:List ByteArray
 uses:List (List Int)
 datas:List Data
 traits:List ByteArray
 homes:List Int
 impls:List Impl
 funcs:List Nq
 main:Int
def Prog.g (p:Prog):G:=.st [.sl 1 (p.modules.map .str),.sl 1 (p.uses.map fun l=>.sl 1 (l.map I)),.sl 5 (p.datas.map Data.g),.sl 1 (p.traits.map .str),.sl 1 (p.homes.map I),.sl 8 (p.impls.map Impl.g),.sl 11 (p.funcs.map Nq.g),I p.main]
section
variable {F:aA}{cs:List Value}
end
end Api
end Go.Fr
namespace Go.Fr
open Go Go.RowKit
namespace Api
section
variable {P:Program}
def Nr (P:Program) (n:Nat):List TypeId->List G->Prop
 | [],[]=>True
 | t::a,x::l=>Ok P n t x/\Nr P n a l
 | _,_=>False
theorem HG {n:Nat}:∀{fl:List Field}{l:List G},l.length=fl.length->(∀(i:Nat) (f:Field) (x:G),fl[i]?=some f->l[i]?=some x->Ok P n f.type x)->Nr P n (fl.map (·.type)) l
 | [],[],_,_=>trivial
 | [],x::l,h,_=>by simp at h
 | f::fl,[],h,_=>by simp at h
 | f::fl,x::l,h,a=>⟨a 0 f x (by simp) (by simp),HG (by simpa using h) fun i c d e b=>a (i+1) c d (by simpa using e) (by simpa using b)⟩
theorem ok_int {n:Nat}{t:TypeId}{g:G}{k:IntKind}(h:P.underlying t=some (.int k)) (a:Ok P n t g):∃x,g=.int k x:=by
 cases n with
 | zero=>exact a.elim
 | succ n=>simp only[Ok,h] at a;obtain⟨x,b,_⟩:=a;exact⟨x,b⟩
theorem Ns {n:Nat}{t:TypeId}{g:G}(h:P.underlying t=some .string) (a:Ok P n t g):∃x,g=.str x:=by
 cases n with
 | zero=>exact a.elim
 | succ n=>simp only[Ok,h] at a;exact a
theorem D6 {b:Type}{f:b->G}:∀{l:List G},(∀x∈l,∃y,x=f y)->∃a:List b,l=a.map f
 | [],_=>⟨[],rfl⟩
 | x::l,h=>by
  obtain⟨y,rfl⟩:=h x (by simp);obtain⟨a,rfl⟩:=D6 (l:=l) (fun z c=>h z (by simp[c]));exact⟨y::a,rfl⟩
theorem Nt {n:Nat}{t e:TypeId}{g:G}{sz:Nat}{c:Type}{f:c->G}(h:P.underlying t=some (.slice e)) (b:P.cellsOf e=sz) (a:Ok P n t g) (k:∀m x,m<n->Ok P m e x->∃y,x=f y):∃l:List c,g=.sl sz (l.map f):=by
 cases n with
 | zero=>exact a.elim
 | succ n =>
  simp only[Ok,h] at a;obtain⟨l,rfl,j⟩:=a;obtain⟨o,rfl⟩:=D6 (f:=f) (fun x d=>k n x (by omega) (j x d));exact⟨o,by rw[b]⟩
theorem OO {n:Nat}{t:TypeId}{g:G}{d:Array Field}{c:List TypeId}(h:P.underlying t=some (.struct d)) (a:d.toList.map (·.type)=c) (b:Ok P n t g):∃m l,m<n/\g=.st l/\Nr P m c l:=by
 cases n with
 | zero=>exact b.elim
 | succ n =>
  simp only[Ok,h] at b;obtain⟨l,rfl,k,j⟩:=b;subst a;exact⟨n,l,by omega,rfl,HG (by simpa using k) fun i f x o e=>j i f x (by simpa using o) e⟩
def tK (P:Program) (t:TypeId) (a:List TypeId):Bool:=match P.underlying t with | some (.struct fs)=>decide (fs.toList.map (·.type)=a) | _=>false
def rD (P:Program) (t e sz:Nat):Bool:=match P.underlying t with | some (.slice e')=>Nat.beq e' e&&Nat.beq (P.cellsOf e) sz | _=>false
def PL (P:Program) (t:TypeId):Bool:=match P.underlying t with | some (.int .i64)=>true | _=>false
def Qn (P:Program) (t:TypeId):Bool:=match P.underlying t with | some .string=>true | _=>false
theorem oF {t:TypeId}{a:List TypeId}(h:tK P t a=true) {n:Nat}{g:G}(c:Ok P n t g):∃m l,m<n/\g=.st l/\Nr P m a l:=by
 simp only[tK] at h;split at h
 ·rename_i d b;exact OO b (by simpa using h) c
 ·cases h
theorem j6 {t e sz:Nat}(h:rD P t e sz=true) {n:Nat}{g:G}{a:Type}{f:a->G}(k:Ok P n t g) (c:∀m x,m<n->Ok P m e x->∃y,x=f y):∃l:List a,g=.sl sz (l.map f):=by
 simp only[rD] at h;split at h
 ·rename_i o j;simp only[W6] at h;have d:=yo h.1;have b:=yo h.2;subst d;exact Nt j b k c
 ·cases h
theorem CQ {t:TypeId}(h:PL P t=true) {n:Nat}{g:G}(b:Ok P n t g):∃x,g=I x:=by
 simp only[PL] at h;split at h
 ·rename_i a;exact ok_int a b
 ·cases h
theorem Nu {t:TypeId}(h:Qn P t=true) {n:Nat}{g:G}(b:Ok P n t g):∃x,g=.str x:=by
 simp only[Qn] at h;split at h
 ·rename_i a;exact Ns a b
 ·cases h
theorem CR {n:Nat}{b:TypeId}{l:List G}(h:Nr P n [b] l):∃a,l=[a]/\Ok P n b a:=by
 match l,h with
 | [a],h=>exact⟨a,rfl,h.1⟩
theorem ck {n:Nat}{b:TypeId}{c:List TypeId}{l:List G}(h:Nr P n (b::c) l):∃a r,l=a::r/\Ok P n b a/\Nr P n c r:=by
 match l,h with
 | a::r,h=>exact⟨a,r,rfl,h.1,h.2⟩
theorem OP {t e h:TypeId}(hi:PL P e=true) (o:tK P t [e,e,h]=true) (w:rD P h t 3=true):∀(n:Nat) (g:G),Ok P n t g->∃x:Ty,g=x.g:=by
 intro n
 induction n using Nat.strongRecOn with
 | _ n v =>
  intro g s;obtain⟨m,l,y,rfl,d⟩:=oF o s;obtain⟨a,l,rfl,q,d⟩:=ck d;obtain⟨b,l,rfl,hb,d⟩:=ck d;obtain⟨c,rfl,u⟩:=CR d;obtain⟨k,rfl⟩:=CQ hi q;obtain⟨i,rfl⟩:=CQ hi hb;obtain⟨xs,rfl⟩:=j6 w u (f:=Ty.g) (fun p x r j=>v p (by omega) x j);exact⟨.mk k i xs,by simp[Ty.g,Ty.WK]⟩
structure gF where
 int:TypeId
 str:TypeId
 ints:TypeId
 strs:TypeId
 intss:TypeId
 ty:TypeId
 tys:TypeId
 bound:TypeId
 bounds:TypeId
 term:TypeId
 ins:TypeId
 inss:TypeId
 block:TypeId
 blocks:TypeId
 func:TypeId
 funcs:TypeId
 variant:TypeId
 variants:TypeId
 data:TypeId
 datas:TypeId
 impl:TypeId
 impls:TypeId
 prog:TypeId
def gF.tyOk (P:Program) (d:gF):Bool:=PL P d.int&&tK P d.ty [d.int,d.int,d.tys]&&rD P d.tys d.ty 3
def gF.Wr (P:Program) (d:gF):Bool:=d.tyOk P&&Qn P d.str&&rD P d.ints d.int 1&&tK P d.bound [d.int,d.int]&&rD P d.bounds d.bound 2&&tK P d.term [d.int,d.int,d.ints] &&
 tK P d.ins [d.int,d.int,d.int,d.int,d.int,d.ints,d.tys]&&rD P d.inss d.ins 7&&tK P d.block [d.inss,d.term]&&rD P d.blocks d.block 4 &&
 tK P d.func [d.str,d.int,d.int,d.bounds,d.int,d.ty,d.tys,d.blocks,d.ints]
def gF.WE (P:Program) (d:gF):Bool:=d.Wr P&&rD P d.strs d.str 1&&rD P d.intss d.ints 1&&tK P d.variant [d.str,d.tys]&&rD P d.variants d.variant 2&&tK P d.data [d.str,d.int,d.int,d.variants,d.int] &&
 rD P d.datas d.data 5&&tK P d.impl [d.int,d.int,d.int,d.bounds,d.ty,d.int]&&rD P d.impls d.impl 8&&rD P d.funcs d.func 11&&tK P d.prog [d.strs,d.intss,d.datas,d.strs,d.ints,d.impls,d.funcs,d.int]
theorem gF.WM {d:gF}(h:d.WE P=true):d.Wr P=true:=by
 simp only[gF.WE,W6] at h;exact h.1.1.1.1.1.1.1.1.1.1
theorem gF.Wz {d:gF}(h:d.Wr P=true):d.tyOk P=true:=by
 simp only[gF.Wr,W6] at h;exact h.1.1.1.1.1.1.1.1.1.1
theorem gF.ty' {d:gF}(h:d.tyOk P=true) {n:Nat}{g:G}(a:Ok P n d.ty g):∃x:Ty,g=x.g:=by
 simp only[gF.tyOk,W6] at h;exact OP h.1.1 h.1.2 h.2 n g a
theorem gF.i {d:gF}(h:d.tyOk P=true) {n:Nat}{g:G}(a:Ok P n d.int g):∃x:Int,g=I x:=by
 simp only[gF.tyOk,W6] at h;exact CQ h.1.1 a
theorem gF.WQ {d:gF}(h:d.tyOk P=true) {n:Nat}{g:G}(c:Ok P n d.tys g):∃x:List Ty,g=.sl 3 (x.map Ty.g):=by
 have a:=h;simp only[gF.tyOk,W6] at a;exact j6 a.2 c fun m x _ b=>gF.ty' h b
theorem gF.bnd {d:gF}(h:d.Wr P=true) {n:Nat}{g:G}(p:Ok P n d.bound g):∃x:qL,g=x.g:=by
 have f:=h;have e:=gF.Wz f;have a:=f;simp only[gF.Wr,W6] at a;obtain⟨⟨⟨⟨⟨⟨⟨⟨⟨⟨_,u⟩,k2⟩,q⟩,v⟩,r⟩,k6⟩,w⟩,s⟩,k9⟩,l⟩:=a;obtain⟨m,l0,hm,rfl,b⟩:=oF q p;obtain⟨z,y,rfl,j,c⟩:=ck b;obtain⟨k,rfl⟩:=gF.i e j;obtain⟨t,rfl,o⟩:=CR c;obtain⟨v1,rfl⟩:=gF.i e o;exact⟨⟨k,v1⟩,rfl⟩
theorem gF.trm {d:gF}(h:d.Wr P=true) {n:Nat}{g:G}(u:Ok P n d.term g):∃x:Term,g=x.g:=by
 have k:=h;have c:=gF.Wz k;have a:=k;simp only[gF.Wr,W6] at a;obtain⟨⟨⟨⟨⟨⟨⟨⟨⟨⟨_,k1⟩,r⟩,k3⟩,k4⟩,l⟩,k6⟩,k7⟩,y⟩,k9⟩,s⟩:=a;obtain⟨m,l0,hm,rfl,e⟩:=oF l u;obtain⟨g0,l1,rfl,p,j⟩:=ck e;obtain⟨q,rfl⟩:=gF.i c p;obtain⟨z,l2,rfl,t,b⟩:=ck j;obtain⟨v1,rfl⟩:=gF.i c t;obtain⟨g2,rfl,v⟩:=CR b;obtain⟨w,rfl⟩:=j6 r v (f:=I) fun m x _ o=>gF.i c o;exact⟨⟨q,v1,w⟩,rfl⟩
theorem gF.ins' {d:gF}(h:d.Wr P=true) {n:Nat}{g:G}(hg:Ok P n d.ins g):∃x:HF,g=x.g:=by
 have q:=h;have a:=gF.Wz q;have b:=q;simp only[gF.Wr,W6] at b;obtain⟨⟨⟨⟨⟨⟨⟨⟨⟨⟨_,k1⟩,z⟩,k3⟩,k4⟩,k5⟩,k6⟩,k7⟩,k8⟩,k9⟩,aa⟩:=b;obtain⟨m,l0,hm,rfl,j⟩:=oF k6 hg;obtain⟨g0,l1,rfl,t,l⟩:=ck j;obtain⟨y,rfl⟩:=gF.i a t;obtain⟨g1,l2,rfl,e1,c⟩:=ck l;obtain⟨v1,rfl⟩:=gF.i a e1;obtain⟨g2,l3,rfl,e2,k⟩:=ck c;obtain⟨v2,rfl⟩:=gF.i a e2;obtain⟨g3,l4,rfl,e3,o⟩:=ck k;obtain⟨v3,rfl⟩:=gF.i a e3;obtain⟨g4,l5,rfl,e4,p⟩:=ck o;obtain⟨v4,rfl⟩:=gF.i a e4;obtain⟨g5,l6,rfl,s,e⟩:=ck p;obtain⟨w,rfl⟩:=j6 z s (f:=I) fun m x _ r=>gF.i a r;obtain⟨g6,rfl,u⟩:=CR e;obtain⟨v,rfl⟩:=gF.WQ a u;exact⟨⟨y,v1,v2,v3,v4,w,v⟩,rfl⟩
theorem gF.blk {d:gF}(h:d.Wr P=true) {n:Nat}{g:G}(s:Ok P n d.block g):∃x:Block,g=x.g:=by
 have b:=h;have w:=gF.Wz b;have a:=b;simp only[gF.Wr,W6] at a;obtain⟨⟨⟨⟨⟨⟨⟨⟨⟨⟨_,v⟩,k2⟩,k3⟩,y⟩,t⟩,k6⟩,o⟩,j⟩,k9⟩,q⟩:=a;obtain⟨m,l0,hm,rfl,c⟩:=oF j s;obtain⟨g0,z,rfl,l,e⟩:=ck c;obtain⟨p,rfl⟩:=j6 o l (f:=HF.g) fun m x _ k=>gF.ins' b k;obtain⟨u,rfl,r⟩:=CR e;obtain⟨v1,rfl⟩:=gF.trm b r;exact⟨⟨p,v1⟩,rfl⟩
theorem gF.fn {d:gF}(h:d.Wr P=true) {n:Nat}{g:G}(hg:Ok P n d.func g):∃x:Nq,g=x.g:=by
 have e:=h;have a:=gF.Wz e;have c:=e;simp only[gF.Wr,W6] at c;obtain⟨⟨⟨⟨⟨⟨⟨⟨⟨⟨_,w⟩,k2⟩,k3⟩,k4⟩,k5⟩,k6⟩,k7⟩,k8⟩,k9⟩,p⟩:=c;obtain⟨m,l0,hm,rfl,l⟩:=oF p hg;obtain⟨g0,l1,rfl,z,q⟩:=ck l;obtain⟨v0,rfl⟩:=Nu w z;obtain⟨g1,l2,rfl,e1,j⟩:=ck q;obtain⟨v1,rfl⟩:=gF.i a e1;obtain⟨g2,l3,rfl,e2,o⟩:=ck j;obtain⟨v2,rfl⟩:=gF.i a e2;obtain⟨g3,l4,rfl,e3,r⟩:=ck o;obtain⟨v3,rfl⟩:=j6 k4 e3 (f:=qL.g) fun m x _ b=>gF.bnd e b;obtain⟨g4,l5,rfl,e4,t⟩:=ck r;obtain⟨v4,rfl⟩:=gF.i a e4;obtain⟨g5,l6,rfl,v,k⟩:=ck t;obtain⟨v5,rfl⟩:=gF.ty' a v;obtain⟨g6,l7,rfl,e6,u⟩:=ck k;obtain⟨v6,rfl⟩:=gF.WQ a e6;obtain⟨g7,l8,rfl,y,s⟩:=ck u;obtain⟨v7,rfl⟩:=j6 k9 y (f:=Block.g) fun m x _ b=>gF.blk e b;obtain⟨g8,rfl,e8⟩:=CR s;obtain⟨v8,rfl⟩:=j6 k2 e8 (f:=I) fun m x _ b=>gF.i a b;exact⟨⟨v0,v1,v2,v3,v4,v5,v6,v7,v8⟩,rfl⟩
theorem gF.imp {d:gF}(h:d.WE P=true) {n:Nat}{g:G}(hg:Ok P n d.impl g):∃x:Impl,g=x.g:=by
 have h0:=h;have k:=gF.WM h;have b:=gF.Wz k;have a:=k;simp only[gF.Wr,W6] at a;obtain⟨⟨⟨⟨⟨⟨⟨⟨⟨⟨_,k1⟩,k2⟩,k3⟩,v⟩,k5⟩,k6⟩,k7⟩,k8⟩,k9⟩,y⟩:=a;simp only[gF.WE,W6] at h;obtain⟨⟨⟨⟨⟨⟨⟨⟨⟨⟨h,p1⟩,p2⟩,p3⟩,p4⟩,p5⟩,p6⟩,u⟩,p8⟩,p9⟩,ad⟩:=h;obtain⟨m,l0,hm,rfl,e⟩:=oF u hg;obtain⟨g0,l1,rfl,s,l⟩:=ck e;obtain⟨w,rfl⟩:=gF.i b s;obtain⟨g1,l2,rfl,z,c⟩:=ck l;obtain⟨v1,rfl⟩:=gF.i b z;obtain⟨g2,l3,rfl,e2,j⟩:=ck c;obtain⟨v2,rfl⟩:=gF.i b e2;obtain⟨g3,l4,rfl,e3,o⟩:=ck j;obtain⟨v3,rfl⟩:=j6 v e3 (f:=qL.g) fun m x _ q=>gF.bnd k q;obtain⟨g4,l5,rfl,e4,p⟩:=ck o;obtain⟨v4,rfl⟩:=gF.ty' b e4;obtain⟨g5,rfl,r⟩:=CR p;obtain⟨t,rfl⟩:=gF.i b r;exact⟨⟨w,v1,v2,v3,v4,t⟩,rfl⟩
end
end Api
end Go.Fr
namespace Go.Fr.T
open Go Go.RowKit Go.Fr
mutual
def HI:G->List C
 | .int k n=>[.int k n]
 | .bool b=>[.bool b]
 | .str s=>[.str s]
 | .sl _ l=>[.sl (xN l)]
 | .st l=>wI l
def xN:List G->List (List C)
 | []=>[]
 | x::l=>HI x::xN l
def wI:List G->List C
 | []=>[]
 | x::l=>HI x++wI l
end
theorem wJ:∀l:List G,xN l=l.map HI
 | []=>rfl
 | x::l=>by simp only[xN,Xa,wJ l]
theorem zZ {a b:List C}(h:dm a=true) (k:dm b=true):dm (a++b)=true:=by
 rw[ic] at *;intro c d;rcases W4.1 d with d | d
 ·exact h c d
 ·exact k c d
mutual
theorem z5 {F:aA}:∀{g:G}{cs:List Value},Rd F g cs->g.bulk<=maxLen->aB F [] (HI g) cs/\dm (HI g)=true
 | .int k n,cs,h,hb=>by
  simp only[Rd] at h;obtain⟨rfl,h⟩:=h;simp only[HI,aB,Rel];exact⟨⟨_,_,rfl,⟨rfl,h⟩,rfl⟩,rfl⟩
 | .bool b,cs,h,hb=>by
  simp only[Rd] at h;subst h;simp only[HI,aB,Rel];exact⟨⟨_,_,rfl,rfl,rfl⟩,rfl⟩
 | .str s,cs,h,hb=>by
  simp only[Rd] at h;subst h;simp only[G.bulk] at hb;simp only[HI,aB,Rel];exact⟨⟨_,_,rfl,⟨rfl,by omega⟩,rfl⟩,rfl⟩
 | .sl sz l,cs,h,hb=>by
  simp only[Rd] at h;obtain⟨a,c,rfl,h1,h2,h3,h4⟩:=h;simp only[G.bulk] at hb;have hl:(xN l).length=l.length:=by simp[wJ]
  simp only[HI,aB,Rel];refine⟨⟨_,_,rfl,⟨a,c,by rw[hl],by rw[hl];exact h1,by rw[hl];omega,fun e=>?_,sz,yP h4 (by omega)⟩,rfl⟩,rfl⟩;obtain⟨e1,e2⟩:=h3 e;subst e1;exact⟨rfl,e2⟩
 | .st l,cs,h,hb=>by
  simp only[Rd] at h;simp only[G.bulk] at hb;simp only[HI];exact wK h (by omega)
theorem yP {F:aA}{a:Option Addr}{sz:Nat}:∀{i:Nat}{l:List G},rX F a sz i l->G.Wn l<=maxLen->fE F a sz i (xN l)
 | _,[],_,_=>by simp only[xN,fE]
 | i,x::l,h,hb=>by
  simp only[rX] at h;obtain⟨⟨es,h1,h2,h3⟩,h4⟩:=h;simp only[G.Wn] at hb;obtain⟨r1,r2⟩:=z5 h3 (by omega);simp only[xN,fE];exact⟨⟨es,h1,h2,r2,r1⟩,yP h4 (by omega)⟩
theorem wK {F:aA}:∀{l:List G}{cs:List Value},lU F l cs->G.Wn l<=maxLen->aB F [] (wI l) cs/\dm (wI l)=true
 | [],cs,h,_=>by simp only[lU] at h;subst h;simp only[wI,aB];exact⟨trivial,rfl⟩
 | x::l,cs,h,hb=>by
  simp only[lU] at h;obtain⟨c1,c2,rfl,h1,h2⟩:=h;simp only[G.Wn] at hb;obtain⟨r1,r2⟩:=z5 h1 (by omega);obtain⟨q1,q2⟩:=wK h2 (by omega);simp only[wI];exact⟨r1.append q1,zZ r2 q2⟩
end
open Api
abbrev IC (n:Int):C:=.int .i64 n
def wL (l:List Int):List (List C):=l.map fun n=>[IC n]
def PN (l:List ByteArray):List (List C):=l.map fun s=>[C.str s]
mutual
def uY:Ty->List C
 | .mk k i l=>[IC k,IC i,.sl (KZ l)]
def KZ:List Ty->List (List C)
 | []=>[]
 | t::l=>uY t::KZ l
end
theorem BG:∀l:List Ty,KZ l=l.map uY
 | []=>rfl
 | t::l=>by simp only[KZ,Xa,BG l]
theorem Nv (t:Ty):uY t=[IC t.kind,IC t.id,.sl (t.args.map uY)]:=by
 cases t;simp only[uY,BG,Ty.kind,Ty.id,Ty.args]
def HJ (b:qL):List C:=[IC b.param,IC b.trait]
def tL (x:HF):List C:=[IC x.op,IC x.dst,IC x.a,IC x.b,IC x.n,.sl (wL x.args),.sl (x.types.map uY)]
def ju (x:Block):List C:=[.sl (x.code.map tL),IC x.fin.kind,IC x.fin.a,.sl (wL x.fin.targets)]
def Qo (f:Nq):List C:=[.str f.name,IC f.module,IC f.params,.sl (f.bounds.map HJ),IC f.arity,IC f.result.kind,IC f.result.id,.sl (f.result.args.map uY),.sl (f.locals.map uY),.sl (f.blocks.map ju),.sl (wL f.ties)]
def fU (x:Variant):List C:=[.str x.name,.sl (x.fields.map uY)]
def kK (d:Api.Data):List C:=[.str d.name,IC d.module,IC d.params,.sl (d.variants.map fU),IC d.drop]
def OQ (x:Impl):List C:=[IC x.trait,IC x.module,IC x.params,.sl (x.bounds.map HJ),IC x.type.kind,IC x.type.id,.sl (x.type.args.map uY),IC x.func]
def OT (p:Prog):List C:=[.sl (PN p.modules),.sl (p.uses.map fun l=>[.sl (wL l)]),.sl (p.datas.map kK),.sl (PN p.traits),.sl (wL p.homes),.sl (p.impls.map OQ),.sl (p.funcs.map Qo),IC p.main]
theorem K0 {a:Type}{f:a->G}{h:a->List C}(b:∀x,HI (f x)=h x) (l:List a):xN (l.map f)=l.map h:=by
 rw[wJ,XV];exact XZ fun x _=>b x
theorem Nw {l:List Int}{k:Nat}{x:Int}{K:List C->Prop}(a:l[k]?=some x) (h:K [IC x]):Cr (wL l) (k:Int) 1 K:=⟨[IC x],by omega,by simp[wL,a],rfl,h⟩
theorem idxS {l:List ByteArray}{k:Nat}{x:ByteArray}{K:List C->Prop}(a:l[k]?=some x) (h:K [.str x]):Cr (PN l) (k:Int) 1 K:=⟨[.str x],by omega,by simp[PN,a],rfl,h⟩
theorem LV {l:List Ty}{k:Nat}{x:Ty}{K:List C->Prop}(a:l[k]?=some x) (h:K [IC x.kind,IC x.id,.sl (x.args.map uY)]):Cr (l.map uY) (k:Int) 3 K:=js a (Nv x) rfl h
end Go.Fr.T
namespace Go.Fr.T
open Go Go.RowKit Go.Fr Go.ChangeShapes Go.WideShapes Go.ChangeAt
def BH:G->C
 | .int k n=>.int k n
 | .bool b=>.bool b
 | .str s=>.str s
 | .sl _ l=>.sl (xN l)
 | .st l=>.agg (wI l)
def LW (P:Program):List TypeId->List G->Prop
 | [],[]=>True
 | t::a,g::gs=>(∃n,Ok P n t g)/\LW P a gs
 | _,_=>False
section
variable {H:Type}{enc:TypeId×Value->H}{P:Program}{W:World}
theorem sG {F:aA}{L:Loc}{c:C}{v:Value}(h:aB F L [c] [v]):Rel F L c v:=by
 simp only[aB] at h;obtain⟨x,y,e,a,b⟩:=h;injection e with e1 e2
 subst e1;exact a
theorem K1 {S:List TypeId}(w:flat P S=true) {t:TypeId}(u:t∈S) {r:Reach}{b0:Nat}{z:Nat->Bool}{y:Bool}{v:Value}{d:DataW H}{ps:List MemPlace}(f:Value.okWide P W r b0 t v)
  (h:DataW.Trod enc P W 0 z y t v d ps) (hz:W.noneFrozen ps) (hb:gX d<=maxLen):∃n g,Ok P n t g/\Rel (oM W) [] (BH g) v/\g.bulk<=gX d:=by
 obtain⟨fuel,h⟩:=h;obtain⟨g,o,h2,x⟩:=KY w fuel t _ _ u h hz;refine⟨fuel,g,o,?_,x⟩;have p:=(z5 h2 (XK x hb)).1;have q:=Xf.1 w t u;cases fuel with
 | zero=>exact o.elim
 | succ n =>
 simp only[HE] at q;simp only[Ok] at o;split at q
 ·rename_i j;obtain⟨b,rfl⟩:=okWide_bool j f;simp only[j] at o;obtain⟨s,rfl⟩:=o;exact sG p
 ·rename_i k j;obtain⟨m,rfl⟩:=okWide_int j f;simp only[j] at o;obtain⟨s,rfl,_⟩:=o;exact sG p
 ·rename_i j;obtain⟨m,rfl⟩:=okWide_string j f;simp only[j] at o;obtain⟨s,rfl⟩:=o;exact sG p
 ·rename_i e j;obtain⟨a,l,c,rfl⟩:=okWide_slice j f;simp only[j] at o;obtain⟨s,rfl,_⟩:=o;exact sG p
 ·rename_i fs j;simp only[Value.okWide,j] at f;obtain⟨cs,rfl,_,_⟩:=f;simp only[j] at o;obtain⟨l,rfl,_⟩:=o;simp only[BH,Rel];exact⟨cs.toList,by simp,p⟩
 ·cases q
theorem yQ {S:List TypeId}(m:flat P S=true) {r:Reach}{b0:Nat}{y:Nat->Bool}{x:Bool}:∀{c:List TypeId}{vs:List Value}{ds:List (DataW H)}{ps:List MemPlace},(∀t∈c,t∈S) ->
  (∀(j:Nat) t v,c[j]?=some t->vs[j]?=some v->Value.okWide P W r b0 t v)->DataW.TrodAll enc P W 0 y x c vs ds ps->W.noneFrozen ps->eC ds<=maxLen ->
  ∃gs,LW P c gs/\aB (oM W) [] (gs.map BH) vs/\G.Wn gs<=eC ds
 | [],[],[],_,_,_,_,_,_=>⟨[],trivial,by simp only[X0,aB],by simp[G.Wn]⟩
 | t::c,v::vs,d::ds,ps,a,s,⟨p,q,z,h2,f⟩,l,hb=>by
  subst f;simp only[eC] at hb ⊢;obtain⟨n,g,u,g2,g3⟩:=K1 m (a t (by simp)) (s 0 t v rfl rfl) z (fun b o a=>l b o (List.mem_append_left _ a)) (by omega);obtain⟨gs,w,k2,k3⟩:=yQ m (fun t e=>a t (by simp[e])) (fun j t v e k=>s (j+1) t v (by simpa using e) (by simpa using k)) h2 (fun b o a=>l b o (List.mem_append_right _ a)) (by omega);refine⟨g::gs,⟨⟨n,u⟩,w⟩,?_,by simp only[G.Wn];omega⟩;simp only[Xa,aB];exact⟨v,vs,rfl,g2,k2⟩
 | [],_::_,_,_,_,_,h,_,_=>h.elim
 | [],[],_::_,_,_,_,h,_,_=>h.elim
 | _::_,[],_,_,_,_,h,_,_=>h.elim
 | _::_,_::_,[],_,_,_,h,_,_=>h.elim
theorem xO {b:List TypeId}(m:laidOutB P=true) (c:b.all (fun t=>P.readableRec t&&decide (t<P.types.size))=true) {W':World}(hb:Below W.heap.size W W') {f:Nat->Bool} :
  ∀{vs:List Value}{ds:List (DataW H)}{ps:List MemPlace},DataW.TrodAll enc P W 0 (fun _=>true) true b vs ds ps->(∀x∈ps,x.block<W.heap.size)->(∀x∈ps,f x.block=true)->DataW.TrodAll enc P W' 0 f true b vs ds ps:=by
 induction b with
 | nil =>
  intro vs ds ps h _ _
  match vs,ds,h with
  | [],[],h=>exact h
 | cons t b o =>
  intro vs ds ps h j k
  match vs,ds,h with
  | v::vs,d::ds,⟨p,q,l,n,e⟩ =>
   subst e;simp only[List.all_cons,W6,XQ] at c;refine⟨p,q,WideElems.Trod_stays m c.1.1 c.1.2 l (fun x a=>hb.same (j x (by simp[a]))) (fun x a=>k x (by simp[a])),o (by simpa using c.2) n (fun x a=>j x (by simp[a])) (fun x a=>k x (by simp[a])),rfl⟩
theorem xP {f:Func}{s:ChangeSpec}{W W':World}{args:Array Value}{v:Value}{ds gs:List (DataW H)}{a pa pv:List MemPlace}
  (o:DataW.Whole enc P f.params.toList s.vars false W args.toList ds gs a)
  (h:∀(b:Nat) (l:Nat->Bool) (w:Bool),DataW.TrodAll enc P W' b l w f.resultTypes.toList (v.resultList f.resultTypes.size) (s.fn H (ds++gs)).results [])
  (c:∀l:Nat->Bool,(∀p∈a,l p.block=true)->DataW.TrodAll enc P W' 0 l true f.params.toList args.toList (s.fn H (ds++gs)).args pa)
  (e:∀l:Nat->Bool,(∀p∈a,l p.block=true)->DataW.TrodVars enc P W' l s.vars (s.fn H (ds++gs)).vars pv)
  (m:a=pa++pv) (hb:Below W.heap.size W W')
  (q:∀(j:Nat) (t:TypeId) (r:Value),f.resultTypes[j]?=some t->(v.resultList f.resultTypes.size)[j]?=some r->Value.okWide P W' .any 0 t r) :
  s.post enc P f false true false false W args v W':=by
 have k:∀p∈a,(fun b=>decide (b<W.heap.size)) p.block=true:=fun p d=>by simpa using o.lt p d
 have u:∀p∈a,p.block<W.heap.size:=fun p d=>o.lt p d;refine⟨ds,gs,a,[],pa,pv,o,h _ _ _,c _ k,e _ k,World.keptBut_mono (fun p d=>⟨d,?_⟩) (hb.frame (·∈a)),fun _=>?_⟩
 ·rw[m,W4] at d;exact Or.inr d
 ·obtain⟨_,_,_,_,_,x,z⟩:=o;refine⟨q,_,_,([]++pa)++pv,⟨[]++pa,pv,trodAll_append (c _ (fun _ _=>rfl)) (h _ _ _),e _ (fun _ _=>rfl),rfl,?_,?_⟩,?_⟩
  ·intro b off d;have n:MemPlace.cell b off∈a:=by rw[m];simpa using d
   rw[hb.frozen (p:=⟨b,off,none⟩) (u _ n)];exact x b off n
  ·intro y;cases y
  ·intro p d _;rw[m];simpa using d
theorem entry {f:FuncId}{l:List TypeId}{S:List TypeId}(y:flat P S=true) (hm:∀t∈l,t∈S) {r:Reach}{w:Nat}{args:Array Value}{ds:List (DataW H)}{ps:List MemPlace}
  (d:∀(j:Nat) t v,l[j]?=some t->args.toList[j]?=some v->Value.okWide P W r w t v) (h:DataW.TrodAll enc P W 0 (fun _=>true) true l args.toList ds ps) (u:W.noneFrozen ps) (n:eC ds<=1048576)
  (x:qO (oM W)) (law:∀gs,LW P l gs->G.Wn gs<=1048576->CallsT P f (gs.map BH) [] (iK [] (.bool true))) :
  Calls P f args W fun e W'=>e=.returned (.bool true)/\Below W.heap.size W W':=by
 obtain⟨gs,s,z,k3⟩:=yQ y hm d h u (XK n (by decide));have hc:=(law gs s (by omega)).out (oM W) [] args.toList rfl (fun k=>by rw[show(inp []).get k=none from rfl,show(iO []).get k=none from rfl];trivial) z;have p:∀k,(inp []).get k=none:=fun _=>rfl;have m:St (oM W) (inp []) W:=⟨fun b o h=>h,fun k o h=>(by rw[p] at h;cases h),fun k o g h=>(by rw[p] at h;cases h),fun k k' o o' g h=>(by rw[p] at h;cases h),x⟩;refine Calls.mono (hc.run W m) ?_;rintro e W' ⟨v,F',Lo,rfl,hs,a,Mo,c,q1,q2,q,q4,rfl,rfl⟩;simp only[Rel] at q;subst q;exact⟨rfl,a.os,a.tape,a.output,a.size,fun k n=>a.same k n (by rintro⟨_,_,h,_⟩;cases h)⟩
theorem xQ {f:FuncId}{fn:Func}{s:ChangeSpec}{S:List TypeId}{tb:TypeId}(hl:laidOutB P=true) (hS:flat P S=true) (z:fn.params.toList.all (fun t=>S.contains t&&(P.readableRec t&&decide (t<P.types.size)))=true)
  (d:fn.resultTypes=#[tb]) (u:P.underlying tb=some .bool) (a:s.vars=[])
  (law:∀gs,LW P fn.params.toList gs->G.Wn gs<=1048576->CallsT P f (gs.map BH) [] (iK [] (.bool true)))
  {r:Reach}{b0:Nat}{args:Array Value}{ds gs:List (DataW H)}{c:List MemPlace}(h:s.fn H ds={results:=[.lit (.bool true)],args:=ds})
  (n:∀(j:Nat) t v,fn.params[j]?=some t->args[j]?=some v->Value.okWide P W r b0 t v)
  (hW:DataW.Whole enc P fn.params.toList s.vars false W args.toList ds gs c) (hk:eC ds<=1048576) (hG:qO (oM W):=by exact trivial) :
  Calls P f args W fun e W'=>∃v,e=.returned v/\s.post enc P fn false true false false W args v W':=by
 have k:=hW;rw[a] at hW;obtain⟨p,q,hA,hV,rfl,aa,an⟩:=hW;obtain⟨rfl,rfl⟩:=trodVars_none hV;have l:=Xf.1 z;refine(entry hS (fun t y=>by have:=l t y;simp only[W6,List.contains_iff_mem] at this;exact this.1) (fun j t v h1 h2=>n j t v (by simpa using h1) (by simpa using h2)) hA (fun b o z=>aa b o (List.mem_append_left _ z)) hk hG law).mono ?_;rintro e W' ⟨rfl,hb⟩;refine⟨_,rfl,xP (pa:=p) (pv:=[]) k ?_ ?_ ?_ rfl hb (ok_one d rfl (okWide_bool_mk u _))⟩
 ·intro b sp hd;simp only[Xp,h,d];exact trodAll_cons_mk (shut_bool u _) trodAll_mk0
 ·intro sp m;simp only[Xp,h];exact xO hl (Xf.2 fun t y=>by have:=l t y;simp only[W6] at this ⊢;exact this.2) hb hA (fun x w=>k.lt x (by simp[w])) (fun x w=>m x (by simp[w]))
 ·intro sp m;rw[a];simp only[Xp,h];exact rfl
end
end Go.Fr.T
namespace Go.Fr.T
open Go Go.RowKit Go.Fr Go.Fr.Api
def bG (b:UInt8):G:=.int .u8 b.toNat
def PO (P:Program) (t:TypeId) (k:IntKind):Bool:=match P.underlying t with | some (.int k')=>decide (k'=k) | _=>false
theorem Nx {P:Program}{t:TypeId}{k:IntKind}(h:PO P t k=true) {n:Nat}{g:G}(a:Ok P n t g):∃x,g=.int k x/\(Lit.int k x).wf=true:=by
 simp only[PO] at h;split at h
 ·rename_i c b;have e:=Xm h;subst e;cases n with
  | zero=>exact a.elim
  | succ n=>simp only[Ok,b] at a;exact a
 ·cases h
theorem OU {P:Program}{t:TypeId}(h:PO P t .u8=true) {n:Nat}{g:G}(c:Ok P n t g):∃b:UInt8,g=bG b:=by
 obtain⟨x,rfl,a⟩:=Nx h c;simp only[Lit.wf,W6,XQ] at a;have e:0<=x:=a.1;have d:x<=255:=a.2;refine⟨UInt8.ofNat x.toNat,?_⟩;simp only[bG,UInt8.toNat_ofNat'];congr 1;omega
theorem HK {P:Program}{t e:TypeId}(b:rD P t e 1=true) (h:PO P e .u8=true) {n:Nat}{g:G}(c:Ok P n t g):∃bs:List UInt8,g=.sl 1 (bs.map bG) :=
 j6 b c fun _ _ _ a=>OU h a
theorem CS (bs:List UInt8):BH (.sl 1 (bs.map bG))=.sl (af bs):=by
 simp only[BH,K0 (f:=bG) (h:=fun b=>[iF b]) (fun _=>rfl),af]
theorem wM {P:Program}{t:TypeId}{a:List TypeId}{gs:List G}(h:LW P (t::a) gs):∃g r n,gs=g::r/\Ok P n t g/\LW P a r:=by
 cases gs with
 | nil=>exact h.elim
 | cons g r=>obtain⟨⟨n,c⟩,b⟩:=h;exact⟨g,r,n,rfl,c,b⟩
theorem K2 {P:Program}{gs:List G}(h:LW P [] gs):gs=[]:=by
 cases gs with
 | nil=>rfl
 | cons g r=>exact h.elim
end Go.Fr.T
namespace Go.Fr.T
open Go Go.RowKit Go.Fr
def wN:List TO->List TO->Bool
 | [],[]=>true
 | .row _ sz _::l,.row _ b _::m=>match Nat.beq sz b with | true=>wN l m | false=>false
 | .box _ _::l,.box _ _::m=>wN l m
 | .map _::l,.map _::m=>wN l m
 | .win _ _ _ _::l,.win _ _ _ _::m=>wN l m
 | _,_=>false
structure VG (j:Nat) (c0:C) (Lin:List TO) (L:TL) (ρ:aT) (v:C) (R:List TO->C->Prop):Prop where
 out:∃Mo,L.sub (List.range' 1000 Lin.length)=some Mo/\ρ j=c0/\wN Lin Mo=true/\(s9 [v]->R (Mo.map (TO.Wj (C.ren (cj (List.range' 1000 Lin.length) 1000)))) (v.Wy.ren (cj (List.range' 1000 Lin.length) 1000)))
section
variable {P:Program}{G:Nat->Option (Nat×TypeId)}{F:aA}{L:Loc}{ρ:Env}{M:TL}{τ:aT}{a:Act}{w:World}
end
section
variable {P:Program}{L:TL}{ρ:aT}
end
theorem uZ {Li Li':List Own}(hb:Li.map Own.blk=Li'.map Own.blk) {k:Nat}{o:Own}(h:(inp Li').get k=some o):∃o',(inp Li).get k=some o'/\o'.blk=o.blk:=by
 rw[aS] at h ⊢;split at h
 ·rename_i b;rw[j3 b];have a:(Li'.map Own.blk)[k-1000]?=some o.blk:=by rw[XH,h];rfl
  rw[<-hb,XH] at a;cases e:Li[k-1000]? with
  | none=>rw[e] at a;cases a
  | some o'=>rw[e] at a;injection a with a;exact⟨o',rfl,a⟩
 ·cases h
theorem St.swap {F:aA}{w:World}{Li Li':List Own}(hb:Li.map Own.blk=Li'.map Own.blk) (m:∀o∈Li',o.ok w) (a:St F (inp Li) w):St F (inp Li') w:=by
 refine⟨a.frz,fun k o h=>?_,fun k o g h e=>?_,fun k p o o' g h q e f=>?_,a.glob⟩
 ·rw[aS] at h;split at h
  ·exact m o (W9 h)
  ·cases h
 ·obtain⟨c,b,d⟩:=uZ hb h;exact a.off k c g b (d.trans e)
 ·obtain⟨c,b,d⟩:=uZ hb h;obtain⟨j,n,l⟩:=uZ hb q;exact a.sep k p c j g b n (d.trans e) (l.trans f)
theorem qx {Li Li':List Own}(hb:Li.map Own.blk=Li'.map Own.blk) {b:Nat}(h:(inp Li').owns b):(inp Li).owns b:=by
 obtain⟨k,o,c,a⟩:=h;obtain⟨o',d,e⟩:=uZ hb c;exact⟨k,o',d,e.trans a⟩
theorem Step.swap {F F':aA}{w w':World}{Li Li' Lo Lo':List Own}(hb:Li.map Own.blk=Li'.map Own.blk) (d:Lo.map Own.blk=Lo'.map Own.blk) (h:Step F (inp Li) w F' (inp Lo) w'):Step F (inp Li') w F' (inp Lo') w' :=
 ⟨h.le,h.os,h.tape,h.output,h.size,fun b a c=>h.same b a fun q=>c (qx hb.symm q),fun b c=>(h.frz b c).imp id (Or.imp (qx hb.symm) id),fun b q=>(h.own b (qx d q)).imp (qx hb.symm) id⟩
theorem K3 {w:World}{g m cap t sz:Nat}{xs:List Value}(f:t≠0) (h:Own.ok w (.row (.slice (some ⟨g,0,none⟩) m cap) t sz m xs)):∃a,Own.ok w (.box g t (xs++a))/\xs.length+a.length=cap*sz/\m<=cap/\cap<=maxLen:=by
 obtain⟨q,n | ⟨p,d,b,e,r,l,o,k,j,c⟩⟩:=h
 ·cases n.1
 ·injection e with e1 e2 e3
  injection e1 with e1
  injection e1 with e1
  subst e1 e3;refine⟨b.toList.drop (m*sz),?_,?_,o,k⟩
  ·show w.heap[g]?=some (kO t _);rw[gD f,l,<-c,List.take_append_drop]
  ·rw[<-c,<-W8,List.take_append_drop,Array.length_toList,j]
theorem K4 {w:World}{g m cap t sz:Nat}{b a:List Value}(j:t≠0) (c:b.length=m*sz) (e:m<=cap) (f:cap<=maxLen) (d:b.length+a.length=cap*sz) (h:Own.ok w (.box g t (b++a))):Own.ok w (.row (.slice (some ⟨g,0,none⟩) m cap) t sz m b):=by
 have h:w.heap[g]?=some (kO t (b++a)):=h;rw[gD j] at h;refine⟨c,.inr ⟨g,cap,_,rfl,Xx _,h,e,f,by simpa using d,?_⟩⟩;simp[<-c]
theorem aB.split {F:aA}{L:Loc}:∀{cs ds:List C}{vs:List Value},aB F L (cs++ds) vs->∃us a,vs=us++a/\aB F L cs us/\aB F L ds a
 | [],ds,vs,h=>⟨[],vs,rfl,by simp only[aB],h⟩
 | c::cs,ds,vs,h=>by
  simp only[Xk,aB] at h;obtain⟨v,f,rfl,d,b⟩:=h;obtain⟨us,a,rfl,e,j⟩:=aB.split b;exact⟨v::us,a,rfl,by simp only[aB];exact⟨_,_,rfl,d,e⟩,j⟩
theorem aL.flat {F:aA}{L:Loc}{sz:Nat}:∀{els:List (List C)}{xs:List Value},aL F sz els xs->aB F L els.flatten xs/\xs.length=els.length*sz
 | [],xs,h=>by
  simp only[aL] at h;subst h;exact⟨by simp only[List.flatten_nil,aB],by simp⟩
 | es::l,xs,h=>by
  simp only[aL] at h;obtain⟨vs,e,rfl,c,j,d,f⟩:=h;obtain⟨a,b⟩:=aL.flat (L:=L) f;refine⟨by rw[List.flatten_cons];exact d.lift.append a,?_⟩;rw[W8,c,b,Xl,Nat.add_mul];omega
theorem aL.of_flat {F:aA}{L:Loc}{sz:Nat}:∀{els:List (List C)}{xs:List Value},(∀es∈els,es.length=sz/\dm es=true/\dF es=true)->aB F L els.flatten xs->aL F sz els xs
 | [],xs,a,h=>by
  simp only[List.flatten_nil,aB] at h;simp only[aL];exact h
 | es::l,xs,a,h=>by
  rw[List.flatten_cons] at h;obtain⟨us,f,rfl,b,k⟩:=aB.split h;obtain⟨d,j,c⟩:=a es (by simp);simp only[aL];exact⟨us,f,rfl,by rw[b.len,d],j,dU c b,aL.of_flat (fun e m=>a e (by simp[m])) k⟩
theorem yR {F:aA}{L:Loc}:∀(vs:List Value),aB F L (List.replicate vs.length .any) vs
 | []=>by simp only[XE,List.replicate_zero,aB]
 | v::vs=>by
  simp only[Xl,XS,aB,Rel];exact⟨v,vs,rfl,trivial,yR vs⟩
def qM (k sz:Nat):C->C
 | .elr a j off=>match Nat.beq a k with | true=>.own a (j*sz+off) | false=>.elr a j off
 | c=>c
def wO:TO->Bool
 | .box _ cs=>dF cs
 | .win _ _ _ _=>false
 | _=>true
theorem Fp {F:aA}{L L':Loc}:∀{o:TO}{p:Own},wO o=true->cN F L o p->cN F L' o p
 | .box t cs,.box g b vs,a,r=>⟨r.1,dU a r.2⟩
 | .row t sz els,.row v b c n xs,_,r=>r
 | .box _ _,.row ..,_,r=>r.elim
 | .row ..,.box ..,_,r=>r.elim
 | .map _,.row ..,_,r=>r.elim
 | .map es,.box g b vs,_,r=>r
 | .win ..,.row ..,_,r=>r.elim
 | .win ..,.box ..,a,r=>by simp[wO] at a
theorem wP {F:aA}{LA:List Own}{A:List TO}{o c:Own}{x f:TO}(d:LA.length=A.length) (m:∀y∈A,wO y=true) (h:cO F (inp (LA++[o])) (iO (A++[x]))) (j:cN F (inp (LA++[c])) f c) :
  cO F (inp (LA++[c])) (iO (A++[f])):=by
 intro k;have a:=h k;rw[bZ,aS] at a ⊢;split
 ·rename_i e;rw[j3 e,j3 e] at a
  by_cases b:k-1000<A.length
  ·rw[Xc b,Xc (by omega)] at a ⊢;rw[WZ b,WZ (by omega:k-1000<LA.length)] at a ⊢;exact Fp (m _ (List.getElem_mem _)) a
  ·by_cases l:k-1000=A.length
   ·rw[Xi (by omega),Xi (by omega),l,d];simp only[d,Nat.sub_self,Xg];exact j
   ·rw[Xe (by simp;omega),Xe (by simp;omega)];trivial
 ·trivial
theorem pY {LB:List Own}{o b p:Own}{k:Nat}(h:(inp (LB++[b])).get k=some p):(inp (LB++[o])).get k=some p\/p=b:=by
 rw[aS] at h ⊢;split at h
 ·rename_i d;rw[j3 d]
  by_cases a:k-1000<LB.length
  ·rw[Xc a] at h ⊢;exact .inl h
  ·by_cases c:k-1000=LB.length
   ·rw[Xi (by omega),c] at h;simp only[Nat.sub_self,Xg,WY] at h;exact .inr h.symm
   ·rw[Xe (by simp;omega)] at h;cases h
 ·cases h
theorem St.WG {F:aA}{w:World}{LB:List Own}{o:Own}{t sz:Nat}(a:St F (inp (LB++[o])) w):St F (inp (LB++[.row (.slice none 0 0) t sz 0 []])) w:=by
 refine⟨a.frz,fun k p h=>?_,fun k p g h e=>?_,fun k d p f g h b e c=>?_,a.glob⟩
 ·rcases pY (o:=o) h with h | rfl
  ·exact a.own k p h
  ·exact World.ownsRow_nil w 0 t sz
 ·rcases pY (o:=o) h with h | rfl
  ·exact a.off k p g h e
  ·cases e
 ·rcases pY (o:=o) h with h | rfl
  ·rcases pY (o:=o) b with b | rfl
   ·exact a.sep k d p f g h b e c
   ·cases c
  ·cases e
theorem Step.WG {F F':aA}{w w':World}{L:Loc}{LB:List Own}{o:Own}{t sz:Nat}(h:Step F L w F' (inp (LB++[o])) w'):Step F L w F' (inp (LB++[.row (.slice none 0 0) t sz 0 []])) w' :=
 ⟨h.le,h.os,h.tape,h.output,h.size,h.same,h.frz,fun b ⟨k,p,a,c⟩=>by
  rcases pY (o:=o) a with a | rfl
  ·exact h.own b ⟨k,p,a,c⟩
  ·cases c⟩
theorem CallsTX.elem {P:Program}{f:Nat}{args:List C}{A:List TO}{t sz:Nat}{els:List (List C)}{R:Nat->List TO->C->Prop}{R':List TO->C->Prop}{Pp:Value->Prop}(he:lY P f) (ac:Ir t=true) (hA:∀o∈A,wO o=true) (cy:∀o∈A,∃t cs,o=.box t cs)
  (ax:∀c∈args,(∃j off,c=.elr (1000+A.length) j off)\/(c.kill (1000+A.length)=c/\qM (1000+A.length) sz c=c)) (df:∃j off,.elr (1000+A.length) j off∈args)
  (h:∀m,CallsTX P f (args.map (qM (1000+A.length) sz)) (A++[.box t (els.flatten++List.replicate m .any)]) (R m) Pp)
  (hR:∀m Mo c,R m Mo c->∃A' b,Mo=A'++[.box t (b.flatten++List.replicate m .any)]/\A'.length=A.length/\b.length=els.length/\(∀es∈b,es.length=sz/\dm es=true/\dF es=true)/\(∀o∈A',wO o=true) /\
   (∀(F:aA) (L L':Loc) v,Rel F L c v->Rel F L' c v)/\R' (A'++[.row t sz b]) c):kh P f args (A++[.row t sz els]) R' Pp:=by
 have ht:t≠0:=by
  intro e;subst e;cases ac
 have cp:t<1048576:=by
  simp only[Ir] at ac;split at ac
  ·cases ac
  ·have:=Xh ac;omega
 refine⟨fun F Li vs hl av hr=>?_⟩;obtain⟨LA,o,rfl⟩:∃LA o,Li=LA++[o]:=by
  have hn:Li≠[]:=by intro e;rw[e] at hl;simp at hl
  exact⟨Li.dropLast,Li.getLast hn,(List.dropLast_concat_getLast hn).symm⟩
 have u:LA.length=A.length:=by simpa using hl
 have x:∀o,(inp (LA++[o])).get (1000+A.length)=some o:=fun o=>by
  rw[aS,j3 (by omega),show 1000+A.length-1000=A.length by omega,Xi (by omega),u];simp
 have l:=av (1000+A.length);rw[x,bZ,j3 (by omega),show 1000+A.length-1000=A.length by omega,Xi (by omega)] at l;simp only[Nat.sub_self,Xg] at l;cases o with
 | box g t' cs=>exact l.elim
 | row v0 t' eb n xs =>
  obtain⟨rfl,rfl,hn,da,ap⟩:=l;obtain⟨j,off,hm⟩:=df;obtain⟨i,hi⟩:=List.getElem?_of_mem hm;obtain⟨bm,bu⟩:=jg.1 hr;have aE:i<vs.length:=by rw[bm];exact(W5.1 hi).1
  have y:=bu i _ _ hi (WZ aE);simp only[Rel] at y;obtain⟨ad,t2,co,n2,c2,cz,dy,q⟩:=y;rw[x] at q;injection q with q
  injection q with e1 e2 e3 e4 e5
  subst e1 e2 e3 e4 e5;refine⟨he,fun F G L v ci r=>⟨gk.Wt _ _ _ _ ci r.1,r.2⟩,fun w hs=>?_⟩;have bs:Own.ok w (.row (.slice (some ad) n c2) t sz n xs):=hs.own _ _ (x _);have cf:∃g,ad=⟨g,0,none⟩:=by
   obtain⟨h1,h2 | ⟨g,cap,ej,e,_⟩⟩:=id bs
   ·cases h2.1
   ·injection e with e1 e2 e3
    injection e1 with e1
    exact⟨g,e1⟩
  obtain⟨g,rfl⟩:=cf;obtain⟨a,bj,bz,cd,cM⟩:=K3 ht bs;obtain⟨q1,q2⟩:=aL.flat (L:=inp (LA++[.box g t (xs++a)])) ap;have aa:(LA++[Own.row (.slice (some ⟨g,0,none⟩) n c2) t sz n xs]).map Own.blk=(LA++[Own.box g t (xs++a)]).map Own.blk:=by simp[Own.blk,Value.ownBlock]
  have bv:St F (inp (LA++[.box g t (xs++a)])) w:=St.swap aa (fun o l=>by
   rcases W4.1 l with l | l
   ·obtain⟨i,hi⟩:=List.getElem?_of_mem l;have p:=(W5.1 hi).1;exact hs.own (1000+i) o (by rw[aS,j3 (by omega),show 1000+i-1000=i by omega,Xc p];exact hi)
   ·rw[XJ.1 l];exact bj) hs
  have bl:cO F (inp (LA++[.box g t (xs++a)])) (iO (A++[.box t (els.flatten++List.replicate a.length .any)])):=wP u hA av ⟨⟨cp,.inl rfl,ht⟩,q1.append (yR a)⟩;have db:aB F (inp (LA++[.box g t (xs++a)])) (args.map (qM (1000+A.length) sz)) vs:=by
   refine aB.map (fun c hc v hv=>?_) hr;rcases ax c hc with⟨j,off,rfl⟩ | ⟨k1,k2⟩
   ·simp only[Rel] at hv;obtain⟨ad,t2,co,n2,ek,cz,rfl,al⟩:=hv;rw[x] at al;injection al with al
    injection al with e1 e2 e3 e4 e5
    injection e1 with e1 e6 e7
    injection e1 with e1
    subst e1 e3;have:Nat.beq (1000+A.length) (1000+A.length)=true:=Nat.beq_refl _;simp only[qM,this,Rel];exact⟨g,t,_,x _,by rw[bU,Nat.zero_add]⟩
   ·rw[k2,<-k1];refine Rel.mp (jV (k:=1000+A.length) (fun g t cs e=>by rw[x] at e;cases e) (fun j hj o l=>?_) (aA.le_refl F)) 3 hv;refine⟨o,?_,Own.Wl o⟩;rw[aS] at l ⊢;split at l
    ·rename_i h1;rw[j3 h1]
     by_cases p:j-1000<LA.length
     ·rw[Xc p] at l ⊢;exact l
     ·rw[Xe (by simp;omega)] at l;cases l
    ·cases l
  refine Calls.mono (((h a.length).out F _ vs (by simp[u]) bl db).run w bv) ?_;rintro e w' (⟨v,F',Lo,rfl,g1,g2,Mo,c',q1,q2,q3,q4,q5⟩ | ⟨v,ch,F',Lo,rfl,hc,g1,g2,g3,g4,g5⟩)
  ·obtain⟨A',b,rfl,l1,l2,p1,p2,p3,p4⟩:=hR _ _ _ q5;obtain⟨LB,o',rfl⟩:∃LB o,Lo=LB++[o]:=by
    have hn:Lo≠[]:=by intro e;rw[e] at q1;simp at q1
    exact⟨Lo.dropLast,Lo.getLast hn,(List.dropLast_concat_getLast hn).symm⟩
   have s:LB.length=A'.length:=by simp at q1;omega
   have bk:∀o,(inp (LB++[o])).get (1000+A.length)=some o:=fun o=>by
    rw[aS,j3 (by omega),show 1000+A.length-1000=A.length by omega,Xi (by omega),s,l1];simp
   obtain⟨cs',aw⟩:=q4 A.length g t (xs++a) (by rw[Xi (by omega),u];simp);rw[Xi (by omega),s,l1] at aw;simp only[Nat.sub_self,Xg,WY] at aw;subst aw;have hk:=q2 (1000+A.length);rw[bk,bZ,j3 (by omega),show 1000+A.length-1000=A.length by omega,Xi (by omega),l1] at hk;simp only[Nat.sub_self,Xg] at hk;obtain⟨_,hk⟩:=hk;obtain⟨us,ws,rfl,r1,r2⟩:=aB.split hk;have ae:=aL.of_flat p1 r1;have az:=(aL.flat (L:=inp []) ae).2;have ca:ws.length=a.length:=by rw[r2.len,XL]
   have cX:=(aL.flat (L:=inp []) ap).2;have bd:n=b.length:=by omega
   have bc:us.length+ws.length=c2*sz:=by rw[az,ca,l2,<-cX];exact bz
   have be:Own.ok w' (.row (.slice (some ⟨g,0,none⟩) n c2) t sz n us):=K4 ht (by rw[az,bd]) cd cM bc (g1.own _ _ (bk _));have z:(LB++[Own.box g t (us++ws)]).map Own.blk=(LB++[Own.row (.slice (some ⟨g,0,none⟩) n c2) t sz n us]).map Own.blk:=by simp[Own.blk,Value.ownBlock]
   have bb:cN F' (inp (LB++[.row (.slice (some ⟨g,0,none⟩) n c2) t sz n us])) (.row t sz b) (.row (.slice (some ⟨g,0,none⟩) n c2) t sz n us):=⟨rfl,rfl,bd,⟨da.1,_,_,rfl,fun e=>by cases e⟩,ae⟩;refine .inl ⟨v,F',LB++[.row (.slice (some ⟨g,0,none⟩) n c2) t sz n us],rfl,St.swap z (fun o l=>?_) g1,Step.swap aa.symm z g2,⟨A'++[.row t sz b],c',by simp[s],wP s p2 q2 bb,p3 _ _ _ _ q3,fun i g0 t0 ag d=>?_,p4⟩,by simp[s,l1,u],fun i o0 d=>?_⟩
   ·rcases W4.1 l with l | l
    ·obtain⟨i,hi⟩:=List.getElem?_of_mem l;have p:=(W5.1 hi).1;exact g1.own (1000+i) o (by rw[aS,j3 (by omega),show 1000+i-1000=i by omega,Xc p];exact hi)
    ·rw[XJ.1 l];exact be
   ·by_cases p:i<A.length
    ·rw[Xc (by omega)] at d;obtain⟨an,h1⟩:=q4 i g0 t0 ag (by rw[Xc (by omega)];exact d);rw[Xc (by omega)] at h1 ⊢;exact⟨an,h1⟩
    ·exfalso;rw[Xi (by omega)] at d
     by_cases he:i=A.length
     ·rw[he,u] at d;simp at d
     ·rw[Xe (by simp;omega)] at d;cases d
   ·by_cases p:i<A.length
    ·rw[Xc (by omega)] at d;obtain⟨tb,dr,cc⟩:=cy A[i] (List.getElem_mem _);have y:=av (1000+i);rw[aS,bZ,j3 (by omega),j3 (by omega),show 1000+i-1000=i by omega,Xc (by omega),Xc (by omega),d,WZ p,cc] at y;cases o0 with
     | row=>exact y.elim
     | box g0 t0 ag =>
      obtain⟨an,h1⟩:=q4 i g0 t0 ag (by rw[Xc (by omega)];exact d);rw[Xc (by omega)] at h1 ⊢;exact⟨_,h1,rfl,rfl⟩
    ·rw[Xi (by omega)] at d
     by_cases he:i=A.length
     ·rw[he,u] at d;simp at d;subst d;exact⟨.row (.slice (some ⟨g,0,none⟩) n c2) t sz n us,by rw[he,Xi (by omega),s,l1];simp,rfl,rfl,rfl⟩
     ·rw[Xe (by simp;omega)] at d;cases d
  ·obtain⟨LB,o',rfl⟩:∃LB o,Lo=LB++[o]:=by
    have hn:Lo≠[]:=by intro e;rw[e] at g3;simp at g3
    exact⟨Lo.dropLast,Lo.getLast hn,(List.dropLast_concat_getLast hn).symm⟩
   have s:LB.length=LA.length:=by simpa using g3
   refine .inr ⟨v,ch,F',LB++[.row (.slice none 0 0) t sz 0 []],rfl,hc,St.WG g1,Step.WG (Step.swap aa.symm rfl g2),by simp[s],fun i g0 t0 ag d=>?_,g5⟩
   by_cases p:i<A.length
   ·rw[Xc (by omega)] at d;obtain⟨an,h1⟩:=g4 i g0 t0 ag (by rw[Xc (by omega)];exact d);rw[Xc (by omega)] at h1 ⊢;exact⟨an,h1⟩
   ·exfalso;rw[Xi (by omega)] at d
    by_cases he:i=A.length
    ·rw[he,u] at d;simp at d
    ·rw[Xe (by simp;omega)] at d;cases d
theorem kh.toX {P:Program}{f:Nat}{args:List C}{Lin:List TO}{R:List TO->C->Prop}{Pp:Value->Prop}(h:kh P f args Lin R Pp):CallsTX P f args Lin R Pp :=
 ⟨fun F Li vs b j c=>let q:=h.out F Li vs b j c
  ⟨q.ent,fun F G L v a r=>gk.Wt _ _ _ _ a r,fun w m=>(q.run w m).mono fun _ _ k=>k.imp (fun⟨v,F',Lo,d,l,n,e⟩=>⟨v,F',Lo,d,l,n,e.1⟩) id⟩⟩
theorem m5 {P:Program}{L:TL}{ρ:aT}(ks:List Nat) {PS:oV}{Pp:Value->Prop}{f:Nat}{args a:List C}{K:TL->aT->C->Prop}{R:List TO->C->Prop}{Lin Lin':List TO}(h:kh P f a Lin' R Pp) (j:L.sub ks=some Lin) (e:bE ks=true)
  (b:(args.map fun c=>c.Wo.ren (cj ks 1000))=a) (d:Lin.map (TO.Wj (C.ren (cj ks 1000)))=Lin') (m:∀v,Pp v->PS.ps v)
  (k:∀v Mo,R Mo v->Wf v->(∀o∈Mo,o.Wf)->ks.length=Mo.length/\K ((L.Wi ks).puts ks (Mo.map (TO.Wj (C.ren (aW ks))))) ρ (v.ren (aW ks)).slt) (l:kR L ks PS.hb=true:=by rfl):n9 P PS f args L ρ K:=by
 subst b d;exact .inpl ks Lin R Pp j e l h m k
def vw (l a:List TO):Prop:=l.length=a.length/\∀(i:Nat) (o o':TO),l[i]?=some o->a[i]?=some o'->∀(F:aA) (L:Loc) (p:Own),cN F L o p->cN F L o' p
theorem vw.refl (l:List TO):vw l l:=⟨rfl,fun i o o' b a F L p r=>by rw[b] at a;injection a with a;subst a;exact r⟩
theorem vw.cons {o o':TO}{l e:List TO}(h:∀(F:aA) (L:Loc) (p:Own),cN F L o p->cN F L o' p) (k:vw l e):vw (o::l) (o'::e) :=
 ⟨by simp[k.1],fun i a b d c=>by
  cases i with
  | zero=>simp only[Xg,WY] at d c;subst d c;exact h
  | succ i=>exact k.2 i a b (by simpa using d) (by simpa using c)⟩
theorem vw.same {o:TO}{l a:List TO}(k:vw l a):vw (o::l) (o::a):=.cons (fun _ _ _ r=>r) k
theorem vw.tl {F:aA}{Li:List Own}{l e:List TO}(h:vw l e) (r:cO F (inp Li) (iO l)):cO F (inp Li) (iO e):=by
 intro k;have b:=r k;rw[bZ,aS] at b ⊢;split
 ·rename_i f;rw[j3 f,j3 f] at b
  by_cases c:k-1000<l.length
  ·have a:k-1000<e.length:=by rw[<-h.1];exact c
   rw[WZ c] at b;rw[WZ a];cases d:Li[k-1000]? with
   | none=>rw[d] at b;exact b.elim
   | some p =>
    rw[d] at b;exact h.2 _ _ _ (WZ c) (WZ a) _ _ _ b
  ·have a:¬k-1000<e.length:=by rw[<-h.1];exact c
   rw[Xe (by omega)] at b;rw[Xe (by omega)];cases d:Li[k-1000]? with
   | none=>trivial
   | some p=>rw[d] at b;exact b.elim
 ·trivial
theorem gk.view {Li:List Own}{R R':List TO->C->Prop}(a:∀Mo c,R Mo c->∃Mo',vw Mo Mo'/\R' Mo' c) {F:aA}{Lo:List Own}{v:Value}(h:gk Li R F Lo v):gk Li R' F Lo v:=by
 obtain⟨Mo,c,f,e,d,l,j⟩:=h;obtain⟨Mo',b,k⟩:=a Mo c j;exact⟨Mo',c,by rw[<-b.1,f],b.tl e,d,l,k⟩
theorem CallsTX.view {P:Program}{f:Nat}{args:List C}{Lin Lin':List TO}{R R':List TO->C->Prop}{Pp Pp':Value->Prop}(h:CallsTX P f args Lin R Pp) (b:vw Lin' Lin) (a:∀Mo c,R Mo c->∃Mo',vw Mo Mo'/\R' Mo' c) (z:∀v,Pp v->Pp' v) :
  CallsTX P f args Lin' R' Pp' :=
 ⟨fun F Li vs t x u=>let q:=h.out F Li vs (by rw[t,b.1]) (b.tl x) u
  ⟨q.ent,fun F G L v d r=>gk.Wt _ _ _ _ d r,fun w y=>(q.run w y).mono fun _ _ k=>k.imp (fun⟨v,F',Lo,e,l,m,j⟩=>⟨v,F',Lo,e,l,m,gk.view a j⟩) fun⟨v,n,F',Lo,e,l,m,j,o,s,p⟩=>⟨v,n,F',Lo,e,l,m,j,o,s,z v p⟩⟩⟩
theorem CallsTX.imp {P:Program}{f:Nat}{args:List C}{Lin:List TO}{R R':List TO->C->Prop}{Pp Pp':Value->Prop}(h:CallsTX P f args Lin R Pp) (a:∀Mo c,R Mo c->R' Mo c) (b:∀v,Pp v->Pp' v):CallsTX P f args Lin R' Pp' :=
 h.view (vw.refl _) (fun Mo c r=>⟨Mo,vw.refl _,a Mo c r⟩) b
def bX (l:List C):Prop:=∀c∈l,c.pure=true\/c=.any
theorem bX.rel {F:aA}{L L':Loc}:∀{l:List C}{vs:List Value},bX l->aB F L l vs->aB F L' l vs
 | [],vs,_,h=>by simp only[aB] at h ⊢;exact h
 | c::l,vs,hi,h=>by
  simp only[aB] at h ⊢;obtain⟨v,a,rfl,b,j⟩:=h;refine⟨v,a,rfl,?_,bX.rel (fun c f=>hi c (by simp[f])) j⟩;rcases hi c (by simp) with k | rfl
  ·have:=dU (L':=L') (cs:=[c]) (vs:=[v]) (by simp only[dF,k]) (by simp only[aB];exact⟨v,[],rfl,b,rfl⟩);simp only[aB] at this;obtain⟨u,us,e,d,_⟩:=this;injection e with e
   rw[e];exact d
  ·simp only[Rel]
theorem bX.append {l m:List C}(h:bX l) (k:bX m):bX (l++m):=fun c a=>by
 rcases W4.1 a with a | a
 ·exact h c a
 ·exact k c a
theorem bX.set {l:List C}{o:Nat}{c:C}(h:bX l) (b:c.pure=true):bX (l.set o c):=fun d a=>by
 rcases List.mem_or_eq_of_mem_set a with a | rfl
 ·exact h d a
 ·exact .inl b
theorem bX.take {l:List C}(h:bX l) (n:Nat):bX (l.take n):=fun c a=>h c (List.mem_of_mem_take a)
theorem bX.drop {l:List C}(h:bX l) (n:Nat):bX (l.drop n):=fun c a=>h c (List.mem_of_mem_drop a)
theorem aO {l:List C}(h:dF l=true):bX l:=fun c a=>.inl (n8.1 h c a)
theorem yS (n:Nat):bX (List.replicate n .any):=fun c a=>.inr (List.eq_of_mem_replicate a)
theorem mQ {t:TypeId}{pre cs post pre' cs' post':List C}(h:pre++(cs++post)=pre'++(cs'++post')) (l:bX pre') (u:bX post') (F:aA) (L:Loc) (p:Own) (r:cN F L (.win t pre cs post) p):cN F L (.win t pre' cs' post') p:=by
 cases p with
 | row=>exact r.elim
 | box g w vs =>
  obtain⟨n,v1,c,v3,rfl,d,m,v⟩:=r;have b:aB F L (pre++(cs++post)) (v1++(c++v3)):=d.lift.append (m.append v.lift);rw[h] at b;obtain⟨q,s,e,j,a⟩:=aB.split b;obtain⟨k,o,rfl,a,f⟩:=aB.split a;exact⟨n,q,k,o,e,l.rel j,a,u.rel f⟩
theorem u4 {t:TypeId}{cs pre' cs' post':List C}(h:cs=pre'++(cs'++post')) (f:bX pre') (n:bX post') (F:aA) (L:Loc) (p:Own) (r:cN F L (.box t cs) p):cN F L (.win t pre' cs' post') p:=by
 cases p with
 | row=>exact r.elim
 | box g o vs =>
  obtain⟨j,b⟩:=r;rw[h] at b;obtain⟨l,m,rfl,d,a⟩:=aB.split b;obtain⟨e,k,rfl,a,c⟩:=aB.split a;exact⟨j,l,e,k,rfl,f.rel d,a,n.rel c⟩
theorem z6 {t:TypeId}{cs pre' cs' post':List C}(h:cs=pre'++(cs'++post')) (F:aA) (L:Loc) (p:Own) (r:cN F L (.win t pre' cs' post') p):cN F L (.box t cs) p:=by
 cases p with
 | row=>exact r.elim
 | box g f vs =>
  obtain⟨c,v1,e,v3,rfl,a,b,d⟩:=r;subst h;exact⟨c,a.lift.append (b.append d.lift)⟩
theorem um {sz:Nat}:∀{l:List (List C)},(∀es∈l,es.length=sz)->l.flatten.length=l.length*sz
 | [],_=>by simp
 | es::l,h=>by
  rw[List.flatten_cons,W8,h es (by simp),um (fun e a=>h e (by simp[a])),Xl,Nat.add_mul];omega
theorem wQ {l:List (List C)}{j:Nat}{es:List C}(h:l[j]?=some es):l.flatten=(l.take j).flatten++(es++(l.drop (j+1)).flatten):=by
 have a:=(W5.1 h).1;have b:=(W5.1 h).2
 conv=>lhs;rw[<-List.take_append_drop j l,List.flatten_append,XW a,List.flatten_cons,b]
theorem BI {l:List (List C)}{j:Nat}{es es':List C}(h:l[j]?=some es):(l.set j es').flatten=(l.take j).flatten++(es'++(l.drop (j+1)).flatten):=by
 have a:=(W5.1 h).1;have b:(l.set j es')[j]?=some es':=by simp[a]
 rw[wQ b,List.take_set_of_le (Xn j),List.drop_set_of_lt (by omega)]
theorem CallsTX.WS {P:Program}{f:Nat}{fi ca:List C}{n:C}{A:TO}{t sz j:Nat}{els:List (List C)}{es:List C}{R:TO->List C->C->Prop}{Pp:Value->Prop}(d:lY P f) (aa:Ir t=true) (hA:wO A=true) (ac:∃t cs,A=.box t cs)
  (b:∀c∈fi++n::ca,c.kill 1001=c/\qM 1001 sz c=c) (hj:els[j]?=some es) (k:∀e∈els,e.length=sz/\dm e=true/\dF e=true)
  (h:∀pre post,bX pre->bX post->CallsTX P f (fi++n::.own 1001 pre.length::ca) [A,.win t pre es post] (fun Mo c=>∃A' es',Mo=[A',.win t pre es' post]/\R A' es' c) Pp)
  (hR:∀A' es' c,R A' es' c->es'.length=sz/\dm es'=true/\dF es'=true/\wO A'=true/\∀(F:aA) (L L':Loc) v,Rel F L c v->Rel F L' c v) :
  kh P f (fi++n::.elr 1001 j 0::ca) [A,.row t sz els] (fun Mo c=>∃A' es',Mo=[A',.row t sz (els.set j es')]/\R A' es' c) Pp:=by
 have ao:=(W5.1 hj).1;have r:(els.take j).flatten.length=j*sz:=by
  rw[um (sz:=sz) (fun e d=>(k e (List.mem_of_mem_take d)).1),Xo,Nat.min_eq_left (by omega)]
 have u:∀l:List (List C),(∀e∈l,e∈els)->bX l.flatten:=fun l z c a=>by
  obtain⟨e,d,a⟩:=List.mem_flatten.1 a;exact .inl (n8.1 (k e (z e d)).2.2 c a)
 have w:=u (els.take j) fun e d=>List.mem_of_mem_take d;have q:∀m,bX ((els.drop (j+1)).flatten++List.replicate m .any):=fun m=>(u _ fun e d=>List.mem_of_mem_drop d).append (yS m);have p:(fi++n::C.elr 1001 j 0::ca).map (qM 1001 sz)=fi++n::.own 1001 (els.take j).flatten.length::ca:=by
  have s:∀l:List C,(∀c∈l,qM 1001 sz c=c)->l.map (qM 1001 sz)=l:=fun l z=>by
   conv=>rhs;rw[<-List.map_id l]
   exact XZ fun c a=>z c a
  rw[List.map_append,Xa,Xa,s fi (fun c a=>(b c (by simp[a])).2),s ca (fun c a=>(b c (by simp[a])).2),(b n (by simp)).2,r];rfl
 refine CallsTX.elem (A:=[A]) (R:=fun m Mo c=>∃A' es',Mo=[A',.box t ((els.set j es').flatten++List.replicate m .any)]/\R A' es' c) d aa (fun o x=>by rw[XJ.1 x];exact hA) (fun o x=>by rw[XJ.1 x];exact ac) ?_ ⟨j,0,by simp⟩ (fun m=>?_) ?_
 ·intro c a;rcases W4.1 a with a | a
  ·exact .inr (b c (by simp[a]))
  ·rcases W7.1 a with rfl | a
   ·exact .inr (b c (by simp))
   ·rcases W7.1 a with rfl | a
    ·exact .inl ⟨j,0,rfl⟩
    ·exact .inr (b c (by simp[a]))
 ·show CallsTX P f ((fi++n::C.elr 1001 j 0::ca).map (qM 1001 sz)) _ _ Pp;rw[p];refine(h _ _ w (q m)).view (vw.same (vw.cons (u4 (by rw[wQ hj];simp) w (q m)) (vw.refl []))) ?_ (fun _ h=>h);rintro Mo c ⟨A',es',rfl,y⟩;exact⟨_,vw.same (vw.cons (z6 rfl) (vw.refl [])),A',es',by rw[BI hj];simp,y⟩
 ·rintro m Mo c ⟨A',es',rfl,y⟩;obtain⟨r1,r2,r3,r4,r5⟩:=hR A' es' c y;refine⟨[A'],els.set j es',rfl,rfl,by simp,fun e d=>?_,fun o x=>by rw[XJ.1 x];exact r4,r5,A',es',rfl,y⟩;rcases List.mem_or_eq_of_mem_set d with d | rfl
  ·exact k e d
  ·exact⟨r1,r2,r3⟩
end Go.Fr.T
namespace Go.Fr.T
open Go Go.RowKit Go.Fr Go.Fr.Api
theorem qa {a:Sort _}{p:a->Prop}{K:Prop}(h:∃x,p x) (H:∀x,p x->K):K:=h.elim H
theorem d9 {a:Type}{l:List a}{k:Nat}{K:Prop}(h:k<l.length) (H:∀x,l[k]?=some x->x∈l->l.drop k=x::l.drop (k+1)->K):K:=H l[k] (WZ h) (List.getElem_mem h) (XW h)
section
variable {P:Program}{L:TL}{ρ:aT}
end
end Go.Fr.T
namespace Go.Fr.T
open Go Go.RowKit Go.Fr
end Go.Fr.T
namespace Go.Fr
open Go Go.RowKit
def Loc.Wu (L L':Loc):Prop:=∃r:Nat->Nat,(∀k o,L'.get k=some o->L.get (r k)=some o\/∃t sz,o=.row (.slice none 0 0) t sz 0 [])/\∀k a,(L'.get k).isSome=true->(L'.get a).isSome=true->r k=r a->k=a
section
variable {F:aA}{L:Loc}{w:World}
theorem St.Wu {L':Loc}(b:St F L w) (h:L.Wu L'):St F L' w:=by
 obtain⟨r,h,hi⟩:=h;refine⟨b.frz,fun k o e=>?_,fun k o g e hb=>?_,fun k j o o' g e f hb c=>?_,b.glob⟩
 ·rcases h k o e with a | ⟨t,sz,rfl⟩
  ·exact b.own _ o a
  ·exact World.ownsRow_nil w 0 t sz
 ·rcases h k o e with a | ⟨t,sz,rfl⟩
  ·exact b.off _ o g a hb
  ·cases hb
 ·rcases h k o e with a | ⟨t,sz,rfl⟩
  ·rcases h j o' f with d | ⟨m,l,rfl⟩
   ·exact hi k j (by rw[e];rfl) (by rw[f];rfl) (b.sep _ _ o o' g a d hb c)
   ·cases c
  ·cases hb
theorem uq {L':Loc}(h:L.Wu L'):Step F L w F L' w:=by
 obtain⟨r,h,hi⟩:=h;exact⟨aA.le_refl F,rfl,rfl,rfl,Xn _,fun _ _ _=>rfl,fun b h=>.inl h,fun b ⟨k,o,e,hb⟩=>by
  rcases h k o e with a | ⟨t,sz,rfl⟩
  ·exact .inl ⟨_,o,a,hb⟩
  ·cases hb⟩
end
structure K8 (body:aA->Loc->Env->cE->Prop) (asg:List Nat) (F:aA) (L:Loc) (ρ:Env):Prop where
 out:∃(σ:Type) (x0:σ) (Inv:σ->aA->Prop) (ls:List Nat) (lv:σ->List Value) (Lf:σ->Loc) (μ:σ->Nat),
  Inv x0 F/\holds ls ((lv x0).map .v) ρ/\L.Wu (Lf x0)/\(∀x,L.keeps (Lf x)) /\
  ∀x F' jk,F.le F'->Inv x F'->Real F' (Lf x)->body F' (Lf x) (puts ls ((lv x).map .v) (gB asg jk ρ)) fun F'' L'' ρ'' =>
   ∃x',Inv x' F''/\holds ls ((lv x').map .v) ρ''/\L''.Wu (Lf x')/\μ x'<μ x
def gu (P:Program):aJ->(Nat->cE)->cE->cE->cE
 | .skip,_,_,N,F,L,ρ=>N F L ρ
 | .reg d,_,_,N,F,L,ρ=>aU P d F L ρ N
 | .regD d,_,_,N,F,L,ρ=>aU P d F L ρ N
 | .regX ss,_,_,N,F,L,ρ=>(∀s∈ss,∀k,rV s=some k->L.get k=none)/\bg P (fun _ _ _=>False) (zu ss) ss F L ρ N
 | .seq a b,E,R,N,F,L,ρ=>gu P a E R (fun F L ρ=>gu P b E R N F L ρ) F L ρ
 | .cond c a b,E,R,N,F,L,ρ=>match ev ρ c with
  | .v (.bool t)=>vh t (gu P a E R N F L ρ) (gu P b E R N F L ρ)
  | _=>False
 | .block id c,E,R,N,F,L,ρ=>gu P c (fun j=>match Nat.beq j id with | true=>N | false=>E j) R N F L ρ
 | .loop asg c,E,R,_,F,L,ρ=>K8 (fun F L ρ K=>gu P c E R K F L ρ) asg F L ρ
 | .exit id,E,_,_,F,L,ρ=>E id F L ρ
 | .ret,_,R,_,F,L,ρ=>R F L ρ
section
variable {P:Program}{Q:Exit->Act->World->Prop}{K:cE}
theorem BJ {ss:List ak}{E:Nat->cE}{R N:cE}{F:aA}{L:Loc}{ρ:Env}{a:Act}{w:World}:∀(ks:List Nat),St F L w->aC L ρ a->gu P (xH ks (.regD ss)) E R N F L ρ ->
  ∃F' L' ρ',St F' L' w/\aC L' ρ' a/\Step F L w F' L' w/\aU P ss F' L' ρ' N
 | [],d,c,h=>⟨F,L,ρ,d,c,Step.refl _ _ _,by simpa only[xH,gu] using h⟩
 | k::l,d,c,h=>by
  simp only[xH,gu] at h;have n:aU P ((k::l).map ak.frz++[]) F L ρ (fun F L ρ=>aU P ss F L ρ N):=by simpa only[Xa,Xp] using h
  obtain⟨F1,L1,b,f,m,j,e⟩:=sF (k::l) d c n;simp only[aU] at e;exact⟨F1,L1,b,f,m,j,e⟩
theorem oG {A:cP}:∀(c:Code) {sc:aJ},low P A c=some sc->∀{E:Nat->cE}{R N:cE}{F:aA}{L:Loc}{ρ:Env}{a:Act}{w:World},St F L w->aC L ρ a->a.tmps.size=A.n ->
  gu P sc E R N F L ρ->c.wp P (QQ A.n F L w a (cD c) (fun _ _ _=>False) E R N) a w:=by
 intro c
 induction c with
 | skip =>
  intro sc b E R N F L ρ a w p o q d;simp only[low,WY] at b;subst b;exact wp_skip ⟨F,L,ρ,p,o,q,rfl,Step.refl _ _ _,fun _ _=>rfl,d⟩
 | label l =>
  intro sc b E R N F L ρ a w p o q d;simp only[low,WY] at b;subst b;exact wp_label ⟨F,L,ρ,p,o,q,rfl,Step.refl _ _ _,fun _ _=>rfl,d⟩
 | exit id =>
  intro sc b E R N F L ρ a w p o q d;simp only[low,WY] at b;subst b;exact wp_exit ⟨F,L,ρ,p,o,q,rfl,Step.refl _ _ _,fun _ _=>rfl,d⟩
 | ret =>
  intro sc b E R N F L ρ a w p o q d;simp only[low,WY] at b;subst b;exact wp_ret ⟨F,L,ρ,p,o,q,rfl,Step.refl _ _ _,fun _ _=>rfl,d⟩
 | region r dk bj =>
  intro sc b E R N F L ρ a w p o q d;cases bj with
  | false =>
   simp only[low] at b;split at b
   case h_2=>cases b
   rename_i ss bx;injection b with b;subst b
   simp only[gu] at d;exact wp_region (mY _ bx p o q d fun a' w' h=>h)
  | true =>
   simp only[low] at b;split at b
   case h_2=>cases b
   rename_i is cl ss h1 z;split at b
   case h_2 =>
    split at b
    case h_2=>cases b
    rename_i h3;injection b with b;subst b
    simp only[gu] at d;have h4:rT A.ord r=is:=by simp only[rT,h1]
    rw[h4] at z;exact pE z h3 p o q d.1 d.2 (fun a' w' h=>h) fun v ch a' w' F' L' _ _ _ _ _ _ h=>h.elim
   rename_i h0;split at b
   case h_2=>cases b
   rename_i h3;injection b with b;subst b
   obtain⟨F1,L1,ab,am,av,aa,d⟩:=BJ _ p o d;have h4:rT A.ord r=is:=by simp only[rT,h1]
   rw[h4] at z;exact q9 z h3 am av q d fun a' w' h=>dY.after (asg1:=[]) aa rfl (fun _ _=>rfl) h (fun _ h=>xo h List.not_mem_nil) (fun _ h=>h)
 | seq x y ao an =>
  intro sc b E R N F L ρ a w p o q d;simp only[low] at b;split at b
  case h_2=>cases b
  rename_i h1 z;injection b with b;subst b
  simp only[gu] at d;refine wp_seq (wp_mono (ao h1 p o q d) ?_);intro e s w1 m;cases e with
  | normal =>
   obtain⟨F1,L1,ab,g1,g2,g3,g4,g5,g6,g7⟩:=m;refine wp_mono (an z g1 g2 g3 g7) ?_;intro e2 a2 w2 aw;cases e2<;>first
    | exact dY.after g5 g4 g6 aw (fun j h=>W4.2 (.inl h)) (fun j h=>W4.2 (.inr h))
    | exact aw
    | exact(noPan aw).elim
  | exit id=>exact m.mono fun j h=>W4.2 (.inl h)
  | ret=>exact m.mono fun j h=>W4.2 (.inl h)
  | goto l=>exact m
  | panic c=>exact(noPan m).elim
  | outgrown=>exact m
 | cond c x y ao an =>
  intro sc b E R N F L ρ a w p o q d;simp only[low] at b;split at b
  case h_2=>cases b
  rename_i h0 h1 z;injection b with b;subst b
  simp only[gu] at d;split at d
  case h_2=>exact d.elim
  rename_i t ht;have hc:a.eval c=.bool t:=by rw[aG h0 o,bB ht]
  refine wp_cond hc ?_;cases t
  ·simp only[vh] at d;refine wp_mono (an z p o q d) ?_;intro e s w1 m;cases e<;>first
    | exact m.mono fun j h=>W4.2 (.inr h)
    | exact(noPan m).elim
    | exact m
  ·simp only[vh] at d;refine wp_mono (ao h1 p o q d) ?_;intro e s w1 m;cases e<;>first
    | exact m.mono fun j h=>W4.2 (.inl h)
    | exact(noPan m).elim
    | exact m
 | block id x ih =>
  intro sc b E R N F L ρ a w p o q d;simp only[low] at b;split at b
  case h_2=>cases b
  rename_i h1;injection b with b;subst b
  simp only[gu] at d;refine wp_block (wp_mono (ih h1 p o q d) ?_);intro e s w1 m;cases e with
  | exit j =>
   simp only[Exit.inBlock];simp only[QQ] at m
   by_cases hj:j=id
   ·subst hj;have hb:Nat.beq j j=true:=by simp
    rw[hb] at m;rw[j3 rfl];exact m
   ·have hb:Nat.beq j id=false:=by
     cases h:Nat.beq j id with
     | true=>exact xo (yo h) hj
     | false=>rfl
    rw[hb] at m;rw[vv hj];exact m
  | normal=>exact m
  | ret=>exact m
  | goto l=>exact m
  | panic c=>exact(noPan m).elim
  | outgrown=>exact m
 | loop x ih =>
  intro sc b E R N F L ρ a w p o q d;simp only[low] at b;split at b
  case h_2=>cases b
  rename_i sx h1;injection b with b;subst b
  simp only[gu] at d;obtain⟨σ,x0,Inv,ls,lv,Lf,μ,i0,i1,i2,i3,i4⟩:=d
  -- the frame at a loop's ac
  have ac:∀(y:σ) (F1:aA) (L1:Loc) (ab:Env) (s:Act) (w1:World),(∀t,s.tmps.getD t undef=conc L1 (ab t))->(∀j,j∉cD x->s.tmps.getD j undef=a.tmps.getD j undef)->holds ls ((lv y).map .v) ab ->
    aC (Lf y) (puts ls ((lv y).map .v) (gB (cD x) (fun j=>s.tmps.getD j undef) ρ)) s:=by
   intro y F1 L1 ab s w1 bz cc hh;have bb:∀j k off,gB (cD x) (fun j=>s.tmps.getD j undef) ρ j=.own k off->j∉cD x/\ρ j=.own k off:=by
    intro j k off e;simp only[gB] at e;split at e
    ·cases e
    ·rename_i hm;exact⟨fun h=>(by rw[cH.2 h] at hm;cases hm),e⟩
   have cf:∀j ad i,gB (cD x) (fun j=>s.tmps.getD j undef) ρ j=.el ad i->ρ j=.el ad i:=by
    intro j ad i e;simp only[gB] at e;split at e
    ·cases e
    ·exact e
   refine⟨fun j=>?_,fun j k off e=>?_,fun j ad i e=>?_⟩
   ·rcases qX ls (lv y) ab (gB (cD x) (fun j=>s.tmps.getD j undef) ρ) bz hh j with⟨v,z,h3⟩ | z
    ·rw[z,h3];rfl
    ·rw[z];simp only[gB];split
     ·rfl
     ·rename_i hm;have hj:j∉cD x:=fun h=>by rw[cH.2 h] at hm;cases hm
      rw[cc j hj,o.eq j];cases e:ρ j with
      | v u=>rfl
      | el u i=>rfl
      | own k off =>
       obtain⟨g,ty,cs,hg⟩:=o.own j k off e;obtain⟨cs',ay⟩:=lG (i3 y) hg;simp only[conc,hg,ay]
   ·rcases je ls (lv y) (gB (cD x) (fun j=>s.tmps.getD j undef) ρ) j with z | ⟨v,z⟩
    ·rw[z] at e;obtain⟨_,e'⟩:=bb j k off e;obtain⟨g,ty,cs,hg⟩:=o.own j k off e';obtain⟨cs',ay⟩:=lG (i3 y) hg;exact⟨g,ty,cs',ay⟩
    ·rw[z] at e;cases e
   ·rcases je ls (lv y) (gB (cD x) (fun j=>s.tmps.getD j undef) ρ) j with z | ⟨v,z⟩
    ·rw[z] at e;exact o.el j ad i (cf j ad i e)
    ·rw[z] at e;cases e
  refine sU (fun n s w1=>∃(y:σ) (F1:aA),n=μ y/\F.le F1/\Inv y F1/\St F1 (Lf y) w1/\s.tmps.size=A.n/\s.defers=a.defers/\Step F L w F1 (Lf y) w1/\(∀j,j∉cD x->s.tmps.getD j undef=a.tmps.getD j undef) /\
   aC (Lf y) (puts ls ((lv y).map .v) (gB (cD x) (fun j=>s.tmps.getD j undef) ρ)) s) ?_ ?_
  ·exact⟨_,x0,F,rfl,aA.le_refl F,i0,p.Wu i2,q,rfl,uq i2,fun _ _=>rfl,ac x0 F L ρ a w o.eq (fun _ _=>rfl) i1⟩
  ·rintro n s w1 ⟨y,F1,rfl,bc,bi,am,bu,ax,aa,ae,av⟩;refine wp_mono (ih h1 am av bu (i4 y F1 _ bc bi ⟨w1,am⟩)) ?_;intro e a2 w2 m;cases e with
   | normal =>
    obtain⟨F2,L2,bp,g1,g2,g3,g4,g5,g6,⟨y',k1,k2,k3,k4⟩⟩:=m;have ap:∀j,j∉cD x->a2.tmps.getD j undef=a.tmps.getD j undef:=fun j hj=>by rw[g6 j hj,ae j hj]
    exact⟨μ y',k4,y',F2,rfl,aA.le_trans bc g5.le,k1,g1.Wu k3,g3,g4.trans ax,(aa.trans g5).trans (uq k3),ap,ac y' F2 L2 bp a2 w2 g2.eq ap k2⟩
   | exit j=>exact dY.after aa ax ae m (fun j h=>h) (fun j h=>h)
   | ret=>exact dY.after aa ax ae m (fun j h=>h) (fun j h=>h)
   | goto l=>exact m
   | panic c=>exact(noPan m).elim
   | outgrown=>exact m
 | rangeFunc f ps x y ao an=>intro sc b;simp only[low] at b;cases b
 | scope x ih =>
  intro sc b E R N F L ρ a w p o q d;simp only[low] at b;refine wp_scope_straight (wp_mono (ih b p o q d) ?_);intro e s w1 m;cases e<;>exact m
 | goto l=>intro sc b;simp only[low] at b;cases b
 | refuse de=>intro sc b;simp only[low] at b;cases b
theorem CX {f:FuncId}{fn:Func}{c:Code}{sc:aJ}{A:cP}{rs:List RV}{F:aA}{Lin:List Own}{R:aA->List Own->Value->Prop}(svs:List SV)
  (hf:P.funcs[f]?=some fn) (hb:fn.body=some c) (hname:(fn.name == "runtime.NumGoroutine")=false) (hl:low P A c=some sc) (hn:fn.ntmps=A.n) (hres:oK P fn.results.toList=some rs) (hlen:svs.length<=A.n)
  (hown:∀v∈svs,(∀k off,v=.own k off->∃g ty cs,(inp Lin).get k=some (.box g ty cs))/\(∀ad j,v=.el ad j->ad≠none))
  (hmono:∀F G L v,F.le G->R F L v->R G L v)
  (h:gu P sc (fun _ _ _ _=>False) (fun F' L' ρ'=>kP L' ρ' rs fun vs=>Aw F' L' (gh vs) R) (fun F' L' ρ'=>kP L' ρ' rs fun vs=>Aw F' L' (gh vs) R) F (inp Lin) (rO 0 svs)) :
  CallsA P f (svs.map (conc (inp Lin))).toArray F Lin R:=by
 refine⟨⟨fn,hf,by rw[hb];rfl,hname⟩,hmono,fun w hs=>?_⟩;refine calls_of_wp hf hb ?_;have he:aC (inp Lin) (rO 0 svs) {tmps:=(svs.map (conc (inp Lin))).toArray++Array.replicate (fn.ntmps-(svs.map (conc (inp Lin))).toArray.size) undef,defers:=[]}:=by
  have hin:∀t,rO 0 svs t=.v undef\/rO 0 svs t∈svs:=by
   intro t;rw[pG];simp only[Xx,Xq,Nat.sub_zero];cases e:svs[t]? with
   | none=>exact .inl rfl
   | some v=>exact .inr (W9 e)
  refine⟨fun t=>?_,fun t k off e=>?_,fun t ad j e=>?_⟩
  ·rw[pG];simp only[Xx,Xq,Nat.sub_zero,Xt];cases e:svs[t]? with
   | some v =>
    have hlt:t<svs.length:=(W5.1 e).1;rw[Array.getElem?_append_left (by simpa using hlt)];simp[e]
   | none =>
    have hge:svs.length<=t:=XT.1 e;rw[Array.getElem?_append_right (by simpa using hge)];simp only[Array.getElem?_replicate,Option.getD_none,conc];split<;>rfl
  ·rcases hin t with h1 | h1
   ·rw[h1] at e;cases e
   ·exact(hown _ h1).1 k off e
  ·rcases hin t with h1 | h1
   ·rw[h1] at e;cases e
   ·exact(hown _ h1).2 ad j e
 refine wp_mono (oG c hl hs he (by simp[hn];omega) h) ?_;intro e a' w' hq;have fin:∀{a0:Act},dY A.n F (inp Lin) w a0 (cD c) (fun F' L' ρ'=>kP L' ρ' rs fun vs=>Aw F' L' (gh vs) R) a' w'->a'.defers=a0.defers/\∃v,(results fn a'.tmps).run P w'=.ok v w' /\
   ∃v' F' Lo,Ending.returned v=.returned v'/\St F' (inp Lo) w'/\Step F (inp Lin) w F' (inp Lo) w'/\R F' Lo v':=by
  rintro a0 ⟨F',L',ρ',g1,g2,g3,g4,g5,g6,hret⟩;obtain⟨vs,hm,⟨ko,Lo,k1,k2,k3⟩⟩:=pF g1 g2 hres hret;refine⟨g4,gh vs,?_,gh vs,F',Lo,rfl,g1.handed k1 k2,?_,k3⟩
  ·rw[ri];rw[Array.mapM_eq_mapM_toList];simp only[Sem.run_bind,Sem.run_map];rw[hm];simp only[Result.andThen_ok,Sem.run_pure];congr 1
   match vs with
   | []=>rfl
   | [t]=>rfl
   | t::u::r =>
    simp only[gh];rw[dif_neg (by simp)]
  ·obtain⟨e1,e2⟩:=dW k1;refine⟨g5.le,g5.os,g5.tape,g5.output,g5.size,g5.same,g5.frz,fun b hb=>g5.own b ?_⟩;obtain⟨j,p,e,hb⟩:=hb;rw[aS] at e;split at e
   case isFalse=>cases e
   have hlt:j-1000<Lo.length:=(W5.1 e).1;have hk:ko[j-1000]?=some (ko[j-1000]'(by omega)):=WZ (by omega);exact⟨_,p,by rw[e2 _ _ hk];exact e,hb⟩
 cases e with
 | normal=>exact fin hq
 | ret=>exact fin hq
 | exit j=>obtain⟨F',L',ρ',_,_,_,_,_,_,h⟩:=hq;exact h.elim
 | goto l=>exact hq.elim
 | panic c=>exact(noPan hq).elim
 | outgrown=>exact hq.elim
theorem fL {f:FuncId}{fn:Func}{sc:aJ}{A:cP}{rs:List RV}{F:aA}{Lin:List Own}{R:aA->List Own->Value->Prop}{args:Array Value}(svs:List SV)
  (q:P.funcs[f]?=some fn) (a:aD P A fn=some (sc,A.n,rs,false)) (e:Nat.ble svs.length A.n=true) (d:args=(svs.map (conc (inp Lin))).toArray)
  (l:∀v∈svs,(∀k off,v=.own k off->∃g ty cs,(inp Lin).get k=some (.box g ty cs))/\(∀m j,v=.el m j->m≠none))
  (b:∀F G L v,F.le G->R F L v->R G L v)
  (h:gu P sc (fun _ _ _ _=>False) (fun F' L' ρ'=>kP L' ρ' rs fun vs=>Aw F' L' (gh vs) R) (fun F' L' ρ'=>kP L' ρ' rs fun vs=>Aw F' L' (gh vs) R) F (inp Lin) (rO 0 svs)) :
  CallsA P f args F Lin R:=by
 subst d;unfold aD at a;split at a
 case h_2=>cases a
 rename_i c hb;split at a
 case h_2=>cases a
 rename_i p r o s;injection a with a
 injection a with e1 e2
 injection e2 with e2 e3
 injection e3 with e3 e4
 subst e1 e3;exact CX svs q hb e4 o e2 s (Xh e) l b h
end
end Go.Fr
namespace Go.Fr.T
open Go Go.RowKit Go.Fr
def dA (p:List UInt8):List Value:=p.map fun b=>Value.int .u8 b.toNat
theorem nK (p:List UInt8):(dA p).length=p.length:=by simp[dA]
theorem Fs (p q:List UInt8):dA (p++q)=dA p++dA q:=by simp[dA]
theorem mD (p:List UInt8):∀u∈dA p,u.oneCell'=true:=by
 intro u h;simp only[dA,Xz] at h;obtain⟨b,_,rfl⟩:=h;rfl
section
variable {F:aA}{L:Loc}
theorem lC:∀{p:List UInt8}{xs:List Value},aL F 1 (af p) xs->xs=dA p
 | [],xs,h=>by simpa[af,aL,dA] using h
 | b::p,xs,h=>by
  simp only[af,Xa,aL] at h;obtain⟨vs,d,rfl,k,j,a,e⟩:=h;simp only[aB,Rel] at a;obtain⟨v,c,rfl,⟨rfl,_⟩,rfl⟩:=a;rw[lC (p:=p) e];rfl
theorem oN (p:List UInt8):aL F 1 (af p) (dA p):=lp p
theorem wT {p:List UInt8}{v:Value}(h:Rel F L (.sl (af p)) v):∃a c,v=.slice a p.length c/\p.length<=c/\p.length<=maxLen/\(bN F a 0 (dA p)\/(p.length=0/\dA p=[])):=by
 have n:(af p).length=p.length:=by simp[af]
 have d:=h;simp only[Rel] at d;obtain⟨a,c,e,k,j,s,sz,q⟩:=d;obtain⟨xs,t,m,r⟩:=ij (sz:=1) q (fun es l=>by simp only[af,Xz] at l;obtain⟨b,_,rfl⟩:=l;rfl);have o:=lC r;subst o;rw[n] at e k j m;exact⟨a,c,e,k,j,m⟩
theorem tP:Rel F L (.sl []) (.slice none 0 0):=by
 simp only[Rel];exact⟨none,0,rfl,Xn _,Xx _,fun _=>by simp,0,by simp[fE]⟩
theorem BK {a:Option Addr}{xs:List Value}{m:Nat}(h:bN F a 0 xs):bN F a 0 (xs.take m):=by
 obtain⟨l,c,t,k,e,hb,d,j⟩:=h;refine⟨l,c,t,k,e,hb,d,fun i v b=>j i v ?_⟩;rw[XB] at b;split at b
 ·exact b
 ·cases b
theorem lI {asg:List Nat}{c:Nat->Value}{ρ:Env}:∀{us:List Nat}{b:List SV},holds us b ρ->(us.all fun j=>!fo asg j)=true->puts us b (gB asg c ρ)=gB asg c ρ
 | [],_,_,_=>rfl
 | _::_,[],_,_=>rfl
 | k::ks,v::vs,h,a=>by
  simp only[List.all_cons,W6] at a;simp only[puts];rw[lI h.2 a.2];have d:fo asg k=false:=by simpa using a.1
  funext j
  simp only[put];cases hb:Nat.beq j k with
  | false=>rfl
  | true =>
   have:=yo hb;subst this;simp only[gB,d];exact h.1.symm
variable {P:Program}{f:Nat}{vs:List Value}{K:aA->Loc->Value->Prop}
end
end Go.Fr.T
namespace Go.Fr.Dm
open Go Go.RowKit Go.Fr Go.Fr.T Go.Fr.Api
def qN (h x:Int):Int:=(h*1000003+x+1).tmod 2147483647
def Pq (l:List Int):Int:=l.foldl qN 7
theorem wY {h x:Int}(b:0<=h) (a:0<=x):0<=qN h x/\qN h x<2147483647:=by
 have:0<=h*1000003+x+1:=by omega
 rw[qN,Int.tmod_eq_emod_of_nonneg this];exact⟨Int.emod_nonneg _ (by omega),Int.emod_lt_of_pos _ (by omega)⟩
def Ag (bs:List UInt8):List Int:=bs.map fun b=>(b.toNat:Int)
theorem Fit.to {k:IntKind}{n m:Int}{K:Int->Prop}(h:k.wrap n=m) (a:K m):Fit k n K:=⟨by rw[h];exact a⟩
def Pr (n:Nat):List UInt8:=if h:n<128 then[UInt8.ofNat n] else UInt8.ofNat (128+n % 128)::Pr (n / 128)
def zig (n:Int):Nat:=if n<0 then(-2*n-1).toNat else(2*n).toNat
def RG (n:Int):List UInt8:=Pr (zig n)
def NK (s:ByteArray):List UInt8:=RG s.size++s.data.toList
def Md (l:List ByteArray):List UInt8:=l.flatMap NK
inductive Sh:Option Prog->C->Prop
 | nil:Sh none .nilp
 | prog (q:Prog):Sh (some q) (.pt (OT q) 0)
theorem aK (a:List UInt8):(af a).length=a.length:=by simp[af]
theorem fA {a:List UInt8}:∀es∈af a,es.length=1:=by
 intro es h;simp only[af,Xz] at h;obtain⟨b,_,rfl⟩:=h;rfl
def elem {a:Type}(l:List a) (i:Int):Option a:=if i<0 then none else l[i.toNat]?
def nm (l:List ByteArray) (i:Int):ByteArray:=(elem l i).getD ⟨#[]⟩
def El (a:Option Prog) (k i:Int):Option (List UInt8) :=
 match a with
 | none=>none
 | some q=>if k=2 then(elem q.datas i).map fun d=>Md [nm q.modules d.module,d.name] else none
def wZ:Nq:=⟨⟨#[]⟩,0,0,[],0,.mk 0 0 [],[],[],[]⟩
theorem qA {a b:List UInt8}{K:Prop}(h:a.length+b.length<=140737488355328) (k:K):rj (af a) (af b) 1 1 K :=
 ⟨fA,by rw[aK,aK];simp[maxLen];omega,by rw[aK,aK];simp;omega,k⟩
theorem Pg {a b:List UInt8}{n:Nat}(h:(a++b).length<=n):a.length<=n/\b.length<=n:=by
 simp only[W8] at h;omega
theorem xV {a b:List (List C)}{m n:Nat}(h:a.length=m) (k:b.length=n):(a++b).length=m+n:=by rw[W8,h,k]
theorem C2 {q:Prog}{k i:Int}{d:Api.Data}(a:k=2) (h:elem q.datas i=some d):El (some q) k i=some (NK (nm q.modules d.module)++NK d.name):=by
 unfold El;simp only[a,Xq,h,XU,Md,List.flatMap_cons,List.flatMap_nil,Xp]
theorem Ia {els:List (List C)}{j off n:Nat}{es0:List C}{K:List C->Prop}(h:els[j]?=some es0) (b:cT ((es0.drop off).take n) n=true) (k:K es0):Jl els j off n fun _=>∀es,els[j]?=some es->K es :=
 ⟨es0,h,b,fun es a=>by rw[h] at a;injection a with a;rw[<-a];exact k⟩
end Go.Fr.Dm
namespace Go.Fr.T
open Go Go.RowKit Go.Fr
section
variable {F:aA}{w:World}
end
theorem Em (L:Loc):∀(l:List TO) (n:Nat),∃Lo:List Own,uf L (iE n l)=jY n Lo/\Lo.length=l.length/\∀i p,i<l.length->L.get (n+i)=some p->Lo[i]?=some p
 | [],n=>⟨[],rfl,rfl,fun i p h _=>xo h (by simp)⟩
 | o::l,n=>by
  obtain⟨Lo,b,d,c⟩:=Em L l (n+1);cases o with
  | row t sz els =>
   cases e:L.get n with
   | none=>exact⟨.row (.slice none 0 0) t sz 0 []::Lo,by simp only[iE,uf,jY,b,e],by simp[d],fun i p hi a=>by
     cases i with
     | zero=>rw[Nat.add_zero,e] at a;cases a
     | succ i=>exact c i p (by simpa using hi) (by rw[<-a];congr 1;omega)⟩
   | some q=>exact⟨q::Lo,by simp only[iE,uf,jY,b,e],by simp[d],fun i p hi a=>by
     cases i with
     | zero=>rw[Nat.add_zero,e] at a;exact a
     | succ i=>exact c i p (by simpa using hi) (by rw[<-a];congr 1;omega)⟩
  | _ =>
   cases e:L.get n with
   | none=>exact⟨.row (.slice none 0 0) 0 0 0 []::Lo,by simp only[iE,uf,jY,b,e],by simp[d],fun i p hi a=>by
     cases i with
     | zero=>rw[Nat.add_zero,e] at a;cases a
     | succ i=>exact c i p (by simpa using hi) (by rw[<-a];congr 1;omega)⟩
   | some q=>exact⟨q::Lo,by simp only[iE,uf,jY,b,e],by simp[d],fun i p hi a=>by
     cases i with
     | zero=>rw[Nat.add_zero,e] at a;exact a
     | succ i=>exact c i p (by simpa using hi) (by rw[<-a];congr 1;omega)⟩
theorem CallsT.gives {P:Program}{f:Nat}{args:List C}{Lin Lin1:List TO}{R:List TO->C->Prop}(h:CallsT P f args Lin1 R) (n:gives (iO Lin) (iO Lin1) (iO Lin1)) (hl:Lin.length<=Lin1.length):CallsT P f args Lin R:=by
 refine⟨fun F Li vs h1 r h3=>?_⟩;obtain⟨Li1,d,k2,k3⟩:=Em (inp Li) Lin1 1000;have d:uf (inp Li) (iO Lin1)=inp Li1:=d;have a:∀(i:Nat) p,Li[i]?=some p->Li1[i]?=some p:=by
  intro i p e;have hi:=(W5.1 e).1;exact k3 i p (by omega) (by rw[aS,j3 (by omega),show 1000+i-1000=i by omega];exact e)
 have b:Ext (inp Li) (inp Li1):=by
  intro k o e;rw[aS] at e;split at e
  case isFalse=>cases e
  rename_i s;exact⟨o,by rw[aS,j3 s];exact a _ _ e,Own.Wl o⟩
 have l:=sA r n;rw[d] at l;have q:=h.out F Li1 vs k2 l (h3.ext (aA.le_refl F) b);refine⟨q.ent,gk.Wt,fun w hs=>?_⟩;obtain⟨j,m⟩:=sB hs r n;rw[d] at j m;refine Calls.mono (q.run w j) ?_;rintro e w' ⟨v,F',Lo,rfl,y,q2,Mo,c,r1,z,x,u,r5⟩;exact⟨v,F',Lo,rfl,y,m.trans q2,Mo,c,r1,z,x,fun i g t cs e=>u i g t cs (a _ _ e),r5⟩
theorem Pt {L:TL}(k t sz:Nat) {Lin:List TO}{Lo:List TO}(b:L.get k=none) (hb:aQ Lin (List.range' 1000 Lin.length) [k]=true) (c:Lo=[.row t sz []]):oP Lin L .nils (iK Lo (.rw 1000)):=by
 subst c;have a:Nat.beq k k=true:=by simp
 refine⟨[],[k],[(k,.row t sz [])],.nils,.rw k,[.row t sz []],rfl,.inr ⟨⟨.inr ⟨b,t,sz,rfl⟩,trivial⟩,.inr (.inr (.inr (.inl ⟨rfl,k,t,sz,rfl,b,?_⟩)))⟩,?_,rfl,hb,fun _=>⟨rfl,?_⟩⟩
 ·simp only[TL.get,a]
 ·simp only[TL.sub,TL.get,a]
 ·simp only[C.Wy,C.ren,C.mp,rY,cj,a]
end Go.Fr.T
