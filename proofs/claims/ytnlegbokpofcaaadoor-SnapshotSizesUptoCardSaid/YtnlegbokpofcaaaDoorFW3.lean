/- Part of the proofs of the statements of this seat. -/
import Derived.Test.YtnlegbokpofcaaaDoorFW2
import Derived.Test.YtnlegbokpofcaaaDoorFW1
import Derived.Tactics
import Derived.Tactics2
import Derived.Defers
import Derived.Recover
import Derived.OneCell
import Derived.ChangeArms
import Derived.DataReads
import Derived.Carry
import Derived.ChangeSame
import Derived.WalkKit
import Derived.ProofKit
import Derived.OpenShut
set_option maxRecDepth 10000
set_option linter.unusedVariables false
set_option linter.unusedSimpArgs false
namespace Go.Fr.T
open Go Go.RowKit Go.Fr
section
variable {P:Program}{PS:o7}{G:Nat->Option (Nat×TypeId)}{F:aA}{L:Loc}{ρ:Env}{M:TL}{τ:aU}{a:Act}{w:World}{Q:Exit->Act->World->Prop}{o:Oper}
theorem iA {L2:Loc}(d:aC L ρ a) (b:aC L2 ρ a):∀xs:List X,bf L2 ρ xs=bf L ρ xs
 | []=>rfl
 | x::xs=>by
  have:val L2 ρ x=val L ρ x:=by
   cases x with
   | t n=>exact(b.eq n).symm.trans (d.eq n)
   | c v=>rfl
   | fn f=>rfl
   | mt nm n =>
    simp only[val,ev];cases ρ n<;>rfl
  simp only[bf,this,iA d b xs]
theorem kM {f:Nat}{args:List C}{vs:List Value}{K:TL->aU->C->Prop}(x:St F L w) (k:aC L ρ a) (ht:TS G F L ρ M τ) (u:aB F L args vs) (h:pR P f args M τ K) :
  ∃F' L',St F' L' w/\aC L' ρ a/\Step F L w F' L' w/\cW P f vs F' L' (fun F' L' v=>∃M' b c,TS G F' L' ρ M' b/\aN F' L' c (.v v)/\K M' b c):=by
 cases h with
 | inpl ks Lin R h1 h2 h3 h4=>exact⟨F,L,x,k,Step.refl _ _ _,tF ht u h1 h2 h3 h4⟩
 | mk h =>
 obtain⟨fz,ks,ko,h⟩:=h;obtain⟨F1,L1,M1,ad,e,j,y,l,t,z,M2,Lin,R,d,n,p,q,s,m,k8,r⟩:=oD x k ht u h;rcases d with rfl | ⟨d,k2⟩
 ·exact⟨F1,_,j,y,l,qy t z n p q s m k8 r⟩
 ·obtain⟨e1,e2,e3,e4,e5⟩:=qa j y t d k2;exact⟨F1,_,e1,e2,l.trans e3,qy e4 (z.ext (aA.le_refl F1) e5) n p q s m k8 r⟩
theorem oE {f:Nat}{args:List C}{vs:List Value}{K:TL->aU->C->Prop}(hs:St F L w) (n:aC L ρ a) (ht:TS G F L ρ M τ) (z:aB F L args vs) (h:oh P PS f args M τ K) (b:PS.st=none) :
  ∃F' L',St F' L' w/\aC L' ρ a/\Step F L w F' L' w/\eI P (xC G PS) f vs F' L' (fun F' L' v=>∃M' j c,TS G F' L' ρ M' j/\aN F' L' c (.v v)/\K M' j c):=by
 cases h with
 | inpl ks Lin R Pp h1 h2 hh h3 hp h4=>exact⟨F,L,hs,n,Step.refl _ _ _,CJ ht z h1 h2 h3 hp b hh h4⟩
 | mk h =>
 obtain⟨fz,ks,ko,h⟩:=h;obtain⟨F1,L1,M1,al,l,m,g2,p,y,g5,M2,Lin,R,Pp,k,r,s,t,u,q,d,k8,e,x⟩:=oD hs n ht z h;rcases k with rfl | ⟨k,k2⟩
 ·exact⟨F1,_,m,g2,p,yK y g5 r s t u q d k8 e b x⟩
 ·obtain⟨e1,e2,e3,e4,e5⟩:=qa m g2 y k k2;exact⟨F1,_,e1,e2,p.trans e3,yK e4 (g5.ext (aA.le_refl F1) e5) r s t u q d k8 e b x⟩
theorem oF {f:Nat}{args:List C}{vs:List Value}{K:TL->aU->C->Prop}{st:TL->Value->Prop}(x:St F L w) (m:aC L ρ a) (y:TS G F L ρ M τ) (u:aB F L args vs) (h:zF P PS.ps PS.hb st f args M τ K) (l:PS.st=some st) :
  ∃F' L',St F' L' w/\aC L' ρ a/\Step F L w F' L' w/\eI P (xC G PS) f vs F' L' (fun F' L' v=>∃M' j c,TS G F' L' ρ M' j/\aN F' L' c (.v v)/\K M' j c):=by
 obtain⟨ks,ko,M2,Lin,R,Pp,k,p,q,r,s,n,b,z,d,t⟩:=h;have e:PS=⟨PS.ps,PS.hb,some st⟩:=by rw[<-l]
 rcases k with rfl | ⟨k,k2⟩
 ·exact⟨F,_,x,m,Step.refl _ _ _,yL y u e p q r s n b z d t⟩
 ·obtain⟨e1,e2,e3,e4,e5⟩:=qa x m y k k2;exact⟨F,_,e1,e2,e3,yL e4 (u.ext (aA.le_refl F) e5) e p q r s n b z d t⟩
theorem yM:∀{cs:List C}{vs us:List Value},vT cs=some us->aB F L cs vs->vs=us
 | [],vs,us,h,r=>by simp only[vT,xo] at h;simp only[aB] at r;rw[r,<-h]
 | c::cs,vs,us,h,r=>by
  simp only[aB] at r;obtain⟨v,e,rfl,b,j⟩:=r;cases c<;>simp only[vT,reduceCtorEq] at h
  all_goals
   split at h
   case h_2=>cases h
   rename_i f d;injection h with h
   subst h;rw[yM d j];simp only[Rel] at b
   first
    | rw[b.1]
    | rw[b]
theorem Hp {c:C}{u v:Value}(h:Bg c=some u) (r:Rel F L c v):v=u/\∃t x,u=.iface t x:=by
 cases c<;>simp only[Bg,reduceCtorEq] at h
 case ifc t c =>
  simp only[Rel] at r;obtain⟨x,rfl,r⟩:=r;cases c<;>simp only[Bg,reduceCtorEq] at h
  case agg cs =>
   split at h
   case h_2=>cases h
   rename_i us b;injection h with h
   subst h;simp only[Rel] at r;obtain⟨vs,rfl,r⟩:=r;rw[yM b r];exact⟨rfl,_,_,rfl⟩
  all_goals
   injection h with h
   subst h;simp only[Rel] at r
   first
    | (obtain⟨rfl,_⟩:=r;exact⟨rfl,_,_,rfl⟩)
    | (subst r;exact⟨rfl,_,_,rfl⟩)
theorem aZ.from {F1:aA}{L1:Loc}{K:cF}{c:Act}{w':World}(b:Step F L w F1 L1 w) (h:aZ F1 L1 w a K c w'):aZ F L w a K c w':=by
 obtain⟨F',L',ρ',d,j,f,k,e,l⟩:=h;exact⟨F',L',ρ',d,j,f,k,b.trans e,l⟩
theorem E4 {own:Bool}{s:dU}{K:TK}(hs:St F L w) (l:aC L ρ a) (e:TS G F L ρ M τ) (hd:∀k,o.dst=some k->k<a.tmps.size) (hl:gQ P own o.op=some s)
  (d:bH P s o.dst M τ K):o.wp P a w (aZ F L w a (Both G K)) Q:=by
 by_cases hc:jZ s=true
 ·cases s<;>simp only[jZ,Xm] at hc
  ·rename_i f args;simp only[bH,eD,dW,dI] at d;obtain⟨F1,L1,q,h,r,x⟩:=kM hs l e (cN e.env args) d;refine Oper.wp_mono (fun a' w'=>aZ.from r) (eG q h hd hl ?_);simp only[evalOp];rw[iA l h];exact cW.imp x fun F' L' v ⟨M',z,c,j,m,y⟩=>j.WG m y
  ·rename_i fx args;simp only[bH,eD,dW,dI] at d;split at d
   ·rename_i f fi ca hx;obtain⟨bi,be,e1,j,m⟩:=rD e.env hx;obtain⟨F1,L1,q,h,r,x⟩:=kM hs l e (iV e.env j m args) d;refine Oper.wp_mono (fun a' w'=>aZ.from r) (eG q h hd hl ?_);simp only[evalOp,e1,lf];rw[iA l h];exact cW.imp x fun F' L' v ⟨M',z,c,j,m,y⟩=>j.WG m y
   ·rename_i nm c hx;split at d
    case h_2=>exact d.elim
    rename_i t c;obtain⟨u,e1,hr⟩:=vY e.env hx;simp only[Rel] at hr;obtain⟨u',rfl,hu⟩:=hr;obtain⟨f',hm,d⟩:=d;have b:aB F L (c::dO τ args) ([u']++bf L ρ args++[]):=by
     rw[Xz];simp only[Xu,XO,aB];exact⟨_,_,rfl,hu.lift,cN e.env args⟩
    obtain⟨F1,L1,q,h,r,x⟩:=kM hs l e b d;refine Oper.wp_mono (fun a' w'=>aZ.from r) (eG q h hd hl ?_);have e2:lf P (ev ρ fx)=some (f',[u'],[]):=by rw[e1];simp only[lf,hm]
    simp only[evalOp,e2];rw[iA l h];exact cW.imp x fun F' L' v ⟨M',z,c,j,m,y⟩=>j.WG m y
   ·rename_i nm t k off hx;obtain⟨g,t',cs,hg,e1⟩:=ol e.env hx;obtain⟨f',hm,d⟩:=d;have b:aB F L (.own k off::dO τ args) ([.pointer (some ⟨g,off,none⟩)]++bf L ρ args++[]):=by
     rw[Xz];simp only[Xu,XO,aB,Rel];exact⟨_,_,rfl,⟨g,t',cs,hg,rfl⟩,cN e.env args⟩
    obtain⟨F1,L1,q,h,r,x⟩:=kM hs l e b d;refine Oper.wp_mono (fun a' w'=>aZ.from r) (eG q h hd hl ?_);have e2:lf P (ev ρ fx)=some (f',[.pointer (some ⟨g,off,none⟩)],[]):=by rw[e1];simp only[Bf,lf,hm]
    simp only[evalOp,e2];rw[iA l h];exact cW.imp x fun F' L' v ⟨M',z,c,j,m,y⟩=>j.WG m y
   ·rename_i t nm hx;split at d
    case h_2=>exact d.elim
    rename_i t' c ap ac p;have e1:=JG e.env hx;obtain⟨f',hm,d⟩:=d;have ad:=cN e.env args;rw[p] at ad;simp only[aB,Rel] at ad;obtain⟨v0,n,ay,⟨u,rfl,hu⟩,ab⟩:=ad;have b:aB F L (c::ap) (u::n):=by
     simp only[aB];exact⟨_,_,rfl,hu.lift,ab⟩
    obtain⟨F1,L1,q,h,r,x⟩:=kM hs l e b d;refine Oper.wp_mono (fun a' w'=>aZ.from r) (eG q h hd hl ?_);have hi:∃ms,P.underlying t=some (.interface ms):=by
     unfold L8 at ac;split at ac
     ·exact⟨_,by assumption⟩
     ·cases ac
    obtain⟨ms,hi⟩:=hi;have e2:lf P (ev ρ fx)=none:=by rw[e1];rfl
    have e3:xZ P (ev ρ fx) (bf L1 ρ args)=some (f',u::n):=by
     rw[iA l h,ay,e1];simp only[xZ,hi,hm]
    simp only[evalOp,e2,e3];exact cW.imp x fun F' L' v ⟨M',z,c,j,m,y⟩=>j.WG m y
   ·exact d.elim
 ·exact eG hs l hd hl (Ho (by simpa using hc) e d)
theorem E5 {own:Bool}{s:dU}{K:TK}(hs:St F L w) (q:aC L ρ a) (j:TS G F L ρ M τ) (hd:∀k,o.dst=some k->k<a.tmps.size) (hl:gQ P own o.op=some s)
  (h:tC P PS s o.dst M τ K) (hQ:∀v ch w' F' L',Cg v ch->St F' L' w'->Step F L w F' L' w'->xC G PS F' L' v->Q (.panic ch) a w'):o.wp P a w (aZ F L w a (Both G K)) Q:=by
 cases s<;>simp only[tC] at h<;>try (exact h.elim)
 ·rename_i f args;simp only[eD,dW,dI] at h;have key:∃F' L',St F' L' w/\aC L' ρ a/\Step F L w F' L' w/\eI P (xC G PS) f (bf L ρ args) F' L' (fun F' L' v=>∃M' d c,TS G F' L' ρ M' d/\aN F' L' c (.v v)/\K M' (bw o.dst c d)):=by
   split at h
   ·rename_i b;exact oE hs q j (cN j.env args) h b
   ·rename_i st b;exact oF hs q j (cN j.env args) h b
  obtain⟨F1,L1,g1,g2,z,g4⟩:=key;refine Oper.wp_mono (fun a' w'=>aZ.from z) (uf (PX:=xC G PS) g1 g2 hd hl ?_ fun v ch w' F' L' qc q1 q2 q3=>hQ v ch w' F' L' qc q1 (z.trans q2) q3);rw[iA q g2];exact eI.imp g4 fun F' L' v ⟨M',d,c,l,m,r⟩=>l.WG m r
 ·rename_i fx args;split at h
  ·rename_i f fi ca hx;simp only[eD,dW,dI] at h;obtain⟨an,ag,e1,l,m⟩:=rD j.env hx;have key:∃F' L',St F' L' w/\aC L' ρ a/\Step F L w F' L' w/\eI P (xC G PS) f (an++bf L ρ args++ag) F' L' (fun F' L' v=>∃M' d c,TS G F' L' ρ M' d/\aN F' L' c (.v v)/\K M' (bw o.dst c d)):=by
    split at h
    ·rename_i b;exact oE hs q j (iV j.env l m args) h b
    ·rename_i st b;exact oF hs q j (iV j.env l m args) h b
   obtain⟨F1,L1,g1,g2,z,g4⟩:=key;refine Oper.wp_mono (fun a' w'=>aZ.from z) (oe (PX:=xC G PS) (f:=f) (fi:=an) (ca:=ag) g1 g2 hd hl (by rw[e1];simp only[lf]) ?_ fun v ch w' F' L' qc q1 q2 q3=>hQ v ch w' F' L' qc q1 (z.trans q2) q3);rw[iA q g2];exact eI.imp g4 fun F' L' v ⟨M',d,c,l,m,r⟩=>l.WG m r
  ·rename_i nm t k off hx;simp only[eD,dW,dI] at h;obtain⟨g,t',cs,hg,e1⟩:=ol j.env hx;obtain⟨f',hm,h⟩:=h;have n:aB F L (.own k off::dO τ args) ([.pointer (some ⟨g,off,none⟩)]++bf L ρ args++[]):=by
    rw[Xz];simp only[Xu,XO,aB,Rel];exact⟨_,_,rfl,⟨g,t',cs,hg,rfl⟩,cN j.env args⟩
   have key:∃F' L',St F' L' w/\aC L' ρ a/\Step F L w F' L' w/\eI P (xC G PS) f' ([.pointer (some ⟨g,off,none⟩)]++bf L ρ args++[]) F' L' (fun F' L' v=>∃M' d c,TS G F' L' ρ M' d/\aN F' L' c (.v v)/\K M' (bw o.dst c d)):=by
    split at h
    ·rename_i b;exact oE hs q j n h b
    ·rename_i st b;exact oF hs q j n h b
   obtain⟨F1,L1,g1,g2,z,g4⟩:=key;refine Oper.wp_mono (fun a' w'=>aZ.from z) (oe (PX:=xC G PS) (f:=f') (fi:=[.pointer (some ⟨g,off,none⟩)]) (ca:=[]) g1 g2 hd hl (by rw[e1];simp only[Bf,lf,hm]) ?_ fun v ch w' F' L' qc q1 q2 q3=>hQ v ch w' F' L' qc q1 (z.trans q2) q3);rw[iA q g2];exact eI.imp g4 fun F' L' v ⟨M',d,c,l,m,r⟩=>l.WG m r
  ·exact h.elim
 ·rename_i x;have h:∃u,Bg (bW τ x)=some u/\kU M [] PS.hb=true/\PS.ps u/\∀s,PS.st=some s->s M u:=by
   split at h
   ·rename_i b;obtain⟨u,l,p,m⟩:=h;exact⟨u,l,p,m,fun s e=>by rw[b] at e;cases e⟩
   ·rename_i st b;obtain⟨u,l,p,m,r⟩:=h;exact⟨u,l,p,m,fun s e=>by rw[b] at e;injection e with e;subst e;exact r⟩
  obtain⟨u,l,p,m,r⟩:=h;have hr:=kJ (dc j.env x);have hc:(bW τ x).cel=bW τ x:=by
   cases e:bW τ x<;>rw[e] at l<;>first | rfl | (simp only[Bg,reduceCtorEq] at l;done)
  rw[hc] at hr;obtain⟨e1,t,y,e2⟩:=Hp l hr;refine EO (PX:=xC G PS) hs q hl (t:=t) (u:=y) (e1.trans e2) ⟨j.kp,by rw[<-e2];exact m,He j.tl p fun k g t cs _ e=>e,fun s e=>⟨M,yJ j.tl,by rw[<-e2];exact r s e⟩⟩ hQ
theorem CN (c:aC L ρ a) (b:TS G F L ρ M τ) (d:Option Nat):∃ρ',aC L ρ' a/\TS G F L ρ' M (qO d τ):=by
 cases d with
 | none=>exact⟨ρ,c,b⟩
 | some k =>
  have r:∀j,qO (some k) τ j=if j=k then(τ k).WW else τ j:=by
   intro j;simp only[qO];cases h:Nat.beq j k with
   | true=>have:=v8 h;simp[this]
   | false=>have:=eZ h;simp[this]
  by_cases f:∃m off,τ k=.ownv m off
  ·obtain⟨m,off,f⟩:=f;have l:=b.env k;rw[f] at l;simp only[aN,Rel] at l;obtain⟨v,n,g,t,cs,p,rfl⟩:=l;have s:conc L (ρ k)=.pointer (some ⟨g,off,none⟩):=n.conc;refine⟨Fr.put (some k) (.own m off) ρ,⟨fun q=>?_,fun q j o e=>?_,fun q u j e=>?_⟩,b.tl,fun j=>?_,b.kp,b.glob⟩
   ·rw[c.eq q,put_eq];simp only[];split
    ·rename_i h;subst h;rw[s];simp only[conc,p]
    ·rfl
   ·rw[put_eq] at e;simp only[] at e;split at e
    ·injection e with q1 q2;subst q1;exact⟨g,t,cs,p⟩
    ·exact c.own _ _ _ e
   ·rw[put_eq] at e;simp only[] at e;split at e
    ·cases e
    ·exact c.el _ _ _ e
   ·rw[r,put_eq];simp only[];split
    ·rw[f];exact⟨rfl,g,t,cs,p⟩
    ·exact b.env j
  ·refine⟨ρ,c,b.tl,fun j=>?_,b.kp,b.glob⟩;rw[r];split
   ·rename_i h;subst h;have:(τ j).WW=τ j:=by
     cases e:τ j<;>first | rfl | exact v7 ⟨_,_,e⟩ f
    rw[this];exact b.env j
   ·exact b.env j
def sI (G:Nat->Option (Nat×TypeId)) (PS:o7) (ks:List Nat):Prop:=∀k∈ks,G k≠none->1000<=k\/fw (PS.hb.map (·.1)) k=true
theorem sI.left {ks b:List Nat}(h:sI G PS (ks++b)):sI G PS ks:=fun k c=>h k (yo.2 (.inl c))
theorem sI.right {ks b:List Nat}(h:sI G PS (ks++b)):sI G PS b:=fun k c=>h k (yo.2 (.inr c))
theorem lB:∀(a b:List ak),dz (a++b)=dz a++dz b
 | [],b=>rfl
 | .frz k::a,b=>by simp only[Xu,dz,lB a b]
 | .op _ _ _::a,b=>by simp only[Xu,dz,lB a b]
 | .pc _ _ _::a,b=>by simp only[Xu,dz,lB a b]
theorem Bs {k:Nat}{K:TK}{q:TL->aU->TK->Prop}(r:St F L w) (p:aC L ρ a) (s:TS G F L ρ M τ) (u:G k≠none->1000<=k\/fw (PS.hb.map (·.1)) k=true) (h:stepT P PS false (.frz k) q M τ K) :
  ∃F' L' ρ' M' b,St F' L' w/\aC L' ρ' a/\Step F L w F' L' w/\TS G F' L' ρ' M' b/\q M' b K:=by
 simp only[stepT,eD] at h;split at h
 ·rename_i t sz els f;obtain⟨F1,L1,c,m,d,l,_⟩:=wu r p s f;exact⟨F1,L1,ρ,_,_,c,m,d,l,h⟩
 ·rename_i t cs f;split at h
  case h_2=>exact h.elim
  rename_i e1 z y v;have j:G k=none:=by
   cases e:G k with
   | none=>rfl
   | some x =>
    rcases u (by rw[e];simp) with h1 | h1
    ·rw[Nat.blt_eq] at y;omega
    ·rw[v] at h1;cases h1
  obtain⟨F1,L1,n,c,m,d,l⟩:=CK r p s f e1 z j;exact⟨F1,L1,n,_,_,c,m,d,l,h⟩
 ·exact h.elim
theorem wB {A:cQ}{r:Nat}{l:Array Oper}{K:TK}:∀(is:List Nat) {ss:List ak}{F:aA}{L:Loc}{ρ:Env}{M:TL}{τ:aU}{a:Act}{w:World},pE P A r l is=some ss->sI G PS (dz ss)->St F L w->aC L ρ a->TS G F L ρ M τ->a.tmps.size=A.n ->
  dw P PS false ss M τ K->(∀a' w',dZ A.n F L w a (dstsOf l is) (Both G K) a' w'->Q .normal a' w') ->
  (∀v ch a' w',Cg v ch->qM A.n F L w a (dstsOf l is) (xC G PS) v a' w'->Q (.panic ch) a' w')->wpOps P l Q is a w:=by
 intro is
 induction is with
 | nil =>
  intro ss F L ρ M τ a w hl bz hs he ht hn q hQ bi;simp only[pE,xo] at hl;subst hl;exact hQ a w ⟨F,L,ρ,hs,he,hn,rfl,Step.refl _ _ _,fun _ _=>rfl,M,τ,ht,q⟩
 | cons i is ih =>
  intro ss F L ρ M τ a w hl bz hs he ht hn q hQ bi;simp only[pE] at hl;split at hl
  case h_1=>cases hl
  rename_i o hi;split at hl
  case h_2=>cases hl
  rename_i g s z hg cl bp ay;injection hl with hl
  subst hl;have av:∀(ks:List Nat) {x:ak}{F:aA}{L:Loc}{ρ:Env}{M:TL}{τ:aU},sI G PS (dz (ks.map ak.frz++x::z))->St F L w->aC L ρ a->TS G F L ρ M τ->dw P PS false (ks.map ak.frz++x::z) M τ K ->
    ∃F' L' ρ' M' am,St F' L' w/\aC L' ρ' a/\Step F L w F' L' w/\TS G F' L' ρ' M' am/\dw P PS false (x::z) M' am K:=by
   intro ks
   induction ks with
   | nil=>intro x F L ρ M τ _ hs he ht h;exact⟨F,L,ρ,M,τ,hs,he,Step.refl _ _ _,ht,h⟩
   | cons k ks cY =>
    intro x F L ρ M τ hz hs he ht h;simp only[Xj,Xu,eU] at h;obtain⟨F1,L1,cp,M1,u,g1,g2,g3,g4,h⟩:=Bs hs he ht (hz k (by simp[dz])) h;obtain⟨F2,L2,ci,M2,da,k1,k2,k3,k4,k5⟩:=cY (fun j hj=>hz j (by simp only[Xj,Xu,dz];exact XE _ hj)) g1 g2 g4 h;exact⟨F2,L2,ci,M2,da,k1,k2,g3.trans k3,k4,k5⟩
  have bl:sI G PS (dz z):=fun j hj=>bz j (by
   rw[lB];refine yo.2 (.inr ?_);cases hp:tY A.pan r i<;>simp only[mY,dz]<;>exact hj)
  obtain⟨F1,L1,cp,M1,u,cc,al,an,m,q⟩:=av _ bz hs he ht q
  clear av he ht
  revert al m
  generalize cp=ρ;intro al m;have hd:∀k,o.dst=some k->k<a.tmps.size:=by
   intro k hk;rw[hk] at bp;rw[hn];have h2:Nat.blt k A.n=true:=bp;simpa using h2
  have bv:dstsOf l (i::is)=match o.dst with | some d=>d::dstsOf l is | none=>dstsOf l is:=by
   simp only[dstsOf,hi,Option.bind_some];rfl
  have ac:∀j,j∉dstsOf l (i::is)->o.dst≠some j/\j∉dstsOf l is:=by
   intro j hj;rw[bv] at hj;cases ho:o.dst with
   | none=>rw[ho] at hj;exact⟨by simp,hj⟩
   | some d =>
    rw[ho] at hj;simp only[Xh,not_or] at hj;exact⟨by simp;exact fun e=>hj.1 e.symm,hj.2⟩
  have after:∀{KK:Prop},o.wp P a w (fun a' w'=>aZ F1 L1 w a (Both G fun M' am=>dw P PS false z M' (qO o.dst am) K) a' w') Q->o.wp P a w (wpOps P l Q is) Q:=by
   intro _ this;refine Oper.wp_mono ?_ (pF (asg:=[]) this);rintro a' w' ⟨⟨F',L',ρ',g1,g2,g3,g4,g5,M',am,g6,g7⟩,cf⟩;obtain⟨ci,n1,n2⟩:=CN g2 g6 o.dst;refine ih ay bl g1 n1 n2 (by rw[g3,hn]) g7 ?_ ?_
   ·rintro ao ap ⟨F'',L'',az,k1,k2,k3,k4,k5,k6,k7⟩;refine hQ ao ap ⟨F'',L'',az,k1,k2,k3,k4.trans g4,(an.trans g5).trans k5,fun j hj=>?_,k7⟩;obtain⟨n1,n2⟩:=ac j hj;rw[k6 j n2,cf j n1]
   ·rintro v ch ao ap kc ⟨F'',L'',k1,k2,k3,k4,k5,k6⟩;refine bi v ch ao ap kc ⟨F'',L'',k1,(an.trans g5).trans k2,k3,k4.trans g4,fun j hj=>?_,k6⟩;obtain⟨n1,n2⟩:=ac j hj;rw[k5 j n2,cf j n1]
  have aE:∀{u:aU},TS G F1 L1 ρ M1 u->bH P s o.dst M1 u (fun M' am=>dw P PS false z M' (qO o.dst am) K)->o.wp P a w (wpOps P l Q is) Q:=by
   intro u m q;exact after (KK:=True) (E4 (Q:=Q) cc al m hd cl q)
  have ar:∀{u:aU},TS G F1 L1 ρ M1 u->tC P PS s o.dst M1 u (fun M' am=>dw P PS false z M' (qO o.dst am) K)->o.wp P a w (wpOps P l Q is) Q:=by
   intro u m q;exact after (KK:=True) (E5 (Q:=Q) cc al m hd cl q fun v ch w' F' L' qc q1 q2 q3=>bi v ch a w' qc ⟨F',L',q1,an.trans q2,hn,rfl,fun _ _=>rfl,q3⟩)
  have skip:∀{u:aU},TS G F1 L1 ρ M1 u->dw P PS false z M1 (bw o.dst .und u) K->wpOps P l Q is (a.put o.dst undef) w:=by
   intro u m q;have cy:=al.put hd (v:=undef) (x:=.v undef) rfl bK dh (qp L1);refine ih ay bl cc cy (m.put (c:=.und) (sv:=.v undef) ⟨_,rfl,by simp only[Rel]⟩ o.dst) (by rw[kh,hn]) q ?_ ?_
   ·rintro ao ap ⟨F'',L'',az,k1,k2,k3,k4,k5,k6,k7⟩;refine hQ ao ap ⟨F'',L'',az,k1,k2,k3,k4.trans (gq _ _ _),an.trans k5,fun j hj=>?_,k7⟩;obtain⟨n1,n2⟩:=ac j hj;rw[k6 j n2,jO n1]
   ·rintro v ch ao ap kc ⟨F'',L'',k1,k2,k3,k4,k5,k6⟩;refine bi v ch ao ap kc ⟨F'',L'',k1,an.trans k2,k3,k4.trans (gq _ _ _),fun j hj=>?_,k6⟩;obtain⟨n1,n2⟩:=ac j hj;rw[k5 j n2,jO n1]
  simp only[wpOps,hi];cases co:tY A.pan r i with
  | false =>
   rw[co] at q;cases aa:o.guard with
   | none =>
    rw[aa] at hg;simp only[gS,xo] at hg;subst hg;simp only[mY,eU,stepT] at q;rw[j3 (by simp[Region.wanted,aa])];exact .inl (aE m q)
   | some p =>
    obtain⟨j,y⟩:=p;rw[aa] at hg;simp only[gS] at hg;split at hg
    case h_2=>cases hg
    rename_i d ax;injection hg with hg
    subst hg;simp only[mY,eU,stepT] at q;split at q
    ·rename_i b hb;have ad:ρ d=.v (.bool b):=gW (x:=.t d) m.env hb;have f:=al.eq d;rw[ad] at f;have hy:yielded l a.tmps j=some b:=by
      simp only[yielded,ax,Option.bind_some,qq f]
     have hw:Region.wanted o (yielded l a.tmps)=(b == y):=by
      simp only[Region.wanted,aa,hy];cases b<;>cases y<;>rfl
     have ae:TS G F1 L1 ρ M1 (bw (some d) (.bool b) u):=by
      have:=m.put (c:=.bool b) (sv:=.v (.bool b)) ⟨_,rfl,by simp only[Rel]⟩ (some d)
      rwa [ku ad] at this
     rw[hw];cases b<;>simp only[vo] at q
     ·cases y
      ·exact .inl (aE ae q)
      ·exact skip ae q
     ·cases y
      ·exact skip ae q
      ·exact .inl (aE ae q)
    ·rename_i hb;have hr:=m.env d;rw[hb] at hr;simp only[aN,Rel] at hr;obtain⟨v,ad,rfl⟩:=hr;have f:=al.eq d;rw[ad] at f;have hy:yielded l a.tmps j=none:=by
      simp only[yielded,ax,Option.bind_some];rw[XC] at f;cases e:a.tmps[d]? with
      | none=>rfl
      | some v=>rw[e] at f;simp only[Option.getD_some,conc] at f;rw[f];rfl
     have hw:Region.wanted o (yielded l a.tmps)=false:=by
      simp only[Region.wanted,aa,hy];rfl
     rw[hw];exact skip m q
    ·exact q.elim
  | true =>
   rw[co] at q;cases aa:o.guard with
   | none =>
    rw[aa] at hg;simp only[gS,xo] at hg;subst hg;simp only[mY,eU,stepT] at q;rw[j3 (by simp[Region.wanted,aa])];exact .inl (ar m q)
   | some p =>
    obtain⟨j,y⟩:=p;rw[aa] at hg;simp only[gS] at hg;split at hg
    case h_2=>cases hg
    rename_i d ax;injection hg with hg
    subst hg;simp only[mY,eU,stepT] at q;split at q
    ·rename_i b _ hb;have ad:ρ d=.v (.bool b):=gW (x:=.t d) m.env hb;have f:=al.eq d;rw[ad] at f;have hy:yielded l a.tmps j=some b:=by
      simp only[yielded,ax,Option.bind_some,qq f]
     have hw:Region.wanted o (yielded l a.tmps)=(b == y):=by
      simp only[Region.wanted,aa,hy];cases b<;>cases y<;>rfl
     have ae:TS G F1 L1 ρ M1 (bw (some d) (.bool b) u):=by
      have:=m.put (c:=.bool b) (sv:=.v (.bool b)) ⟨_,rfl,by simp only[Rel]⟩ (some d)
      rwa [ku ad] at this
     rw[hw];cases b<;>simp only[vo] at q
     ·cases y
      ·exact .inl (ar ae q)
      ·exact skip ae q
     ·cases y
      ·exact skip ae q
      ·exact .inl (ar ae q)
    ·rename_i hb;have hr:=m.env d;rw[hb] at hr;simp only[aN,Rel] at hr;obtain⟨v,ad,rfl⟩:=hr;have f:=al.eq d;rw[ad] at f;have hy:yielded l a.tmps j=none:=by
      simp only[yielded,ax,Option.bind_some];rw[XC] at f;cases e:a.tmps[d]? with
      | none=>rfl
      | some v=>rw[e] at f;simp only[Option.getD_some,conc] at f;rw[f];rfl
     have hw:Region.wanted o (yielded l a.tmps)=false:=by
      simp only[Region.wanted,aa,hy];rfl
     rw[hw];exact skip m q
    ·exact q.elim
theorem qb:aN F L .und (.v undef):=⟨_,rfl,by simp only[Rel]⟩
theorem wC {o:dU}{d:Option Nat}{F:aA}{L:Loc}{ρ:Env}{K K':cF}(h:evalOp P o d F L ρ K) (p:∀F' L' ρ',K F' L' ρ'->K' F' L' ρ'):evalOp P o d F L ρ K':=by
 cases o
 case box t x =>
  simp only[evalOp] at h ⊢;cases d with
  | none=>exact h.elim
  | some k =>
   simp only[] at h ⊢;generalize L.get k=z at h ⊢;cases z with
   | none=>exact fun g=>p _ _ _ (h g)
   | some _=>exact h.elim
 case boxD t x =>
  simp only[evalOp] at h ⊢;cases d with
  | none=>exact h.elim
  | some k =>
   simp only[] at h ⊢;generalize L.get k=z at h ⊢;cases z with
   | none=>exact fun g r=>p _ _ _ (h g r)
   | some _=>exact h.elim
 case boxF t x=>exact fun g F' a b=>p _ _ _ (h g F' a b)
 case alloc t z =>
  simp only[evalOp] at h ⊢;cases d with
  | none=>exact h.elim
  | some k =>
   simp only[] at h ⊢;generalize L.get k=z at h ⊢;cases z with
   | none=>exact fun g=>p _ _ _ (h g)
   | some _=>exact h.elim
 case allocD t z =>
  simp only[evalOp] at h ⊢;cases d with
  | none=>exact h.elim
  | some k =>
   simp only[] at h ⊢;generalize L.get k=z at h ⊢;cases z with
   | none=>exact fun g r=>p _ _ _ (h g r)
   | some _=>exact h.elim
 case mkF e n sz xs =>
  simp only[evalOp] at h ⊢;generalize eY L ρ sz xs=z at h ⊢;cases z with
  | true=>exact fun g F' a b=>p _ _ _ (h g F' a b)
  | false=>exact h.elim
 case mkFD e n sz xs =>
  simp only[evalOp] at h ⊢;generalize eY L ρ sz xs=z at h ⊢;cases z with
  | true=>exact fun g F' a b c=>p _ _ _ (h g F' a b c)
  | false=>exact h.elim
 case mkR e n sz xs =>
  simp only[evalOp] at h ⊢;generalize eY L ρ sz xs=z at h ⊢;cases z with
  | false=>exact h.elim
  | true =>
   cases d with
   | none=>exact h.elim
   | some k =>
    simp only[] at h ⊢;generalize L.get k=z at h ⊢;cases z with
    | none=>exact fun g=>p _ _ _ (h g)
    | some _=>exact h.elim
 case s2b e x =>
  simp only[evalOp] at h ⊢;generalize ev ρ x=z at h ⊢;split at h
  ·exact fun g c F' a b e=>p _ _ _ (h g c F' a b e)
  ·exact h.elim
 case makeS e sz b zs l c =>
  simp only[evalOp] at h ⊢;generalize ev ρ l=z1 at h ⊢;generalize ev ρ c=z2 at h ⊢;split at h
  ·rename_i k;generalize L.get k=z at h ⊢;cases z with
   | none=>exact⟨h.lo,h.le,h.hi,h.max,fun g=>p _ _ _ (h.out g)⟩
   | some _=>exact h.elim
  ·exact h.elim
 case storeX n a x =>
  simp only[evalOp] at h ⊢;generalize eW (aG (val L ρ x)) n=z1 at h ⊢;generalize iS (aG (val L ρ x))=z2 at h ⊢;generalize ev ρ a=z3 at h ⊢;split at h
  ·rename_i k off;generalize L.get k=z at h ⊢;split at h
   ·rename_i t cs;generalize iC t ((cs.drop off).take n) n=b at h ⊢;cases b
    ·exact h.elim
    ·exact fun r=>p _ _ _ (h r)
   ·exact h.elim
  ·exact⟨let⟨k,v,t,sz,m,xs,ad,c,q,u,y,h4,h5,h6⟩:=h.out;⟨k,v,t,sz,m,xs,ad,c,q,u,y,h4,h5,fun r=>p _ _ _ (h6 r)⟩⟩
  ·exact⟨let⟨k,v,t,sz,m,xs,ad,c,q,u,y,h4,h5,h6⟩:=h.out;⟨k,v,t,sz,m,xs,ad,c,q,u,y,h4,h5,fun r=>p _ _ _ (h6 r)⟩⟩
  ·exact h.elim
 case store n a x =>
  simp only[evalOp] at h ⊢;generalize eW (aG (val L ρ x)) n=z1 at h ⊢;generalize iS (aG (val L ρ x))=z2 at h ⊢;generalize ev ρ a=z3 at h ⊢;split at h
  ·rename_i k off;generalize L.get k=z at h ⊢;split at h
   ·rename_i t cs;generalize iC t ((cs.drop off).take n) n=b at h ⊢;cases b
    ·exact h.elim
    ·exact p _ _ _ h
   ·exact h.elim
  ·exact⟨h.out.imp (fun h=>⟨let⟨k,v,t,sz,m,xs,ad,c,q,u,y,h4,h5,h6⟩:=h.out;⟨k,v,t,sz,m,xs,ad,c,q,u,y,h4,h5,p _ _ _ h6⟩⟩) fun⟨q1,q2,q3⟩=>⟨q1,q2,p _ _ _ q3⟩⟩
  ·exact⟨h.out.imp (fun h=>⟨let⟨k,v,t,sz,m,xs,ad,c,q,u,y,h4,h5,h6⟩:=h.out;⟨k,v,t,sz,m,xs,ad,c,q,u,y,h4,h5,p _ _ _ h6⟩⟩) fun⟨q1,q2,q3⟩=>⟨q1,q2,p _ _ _ q3⟩⟩
  ·exact h.elim
 case storeD n a x =>
  simp only[evalOp] at h ⊢;generalize eW (aG (val L ρ x)) n=z1 at h ⊢;generalize iS (aG (val L ρ x))=z2 at h ⊢;generalize ev ρ a=z3 at h ⊢;split at h
  ·rename_i k off;generalize L.get k=z at h ⊢;split at h
   ·rename_i t cs;generalize iC t ((cs.drop off).take n) n=b at h ⊢;cases b
    ·exact h.elim
    ·exact p _ _ _ h
   ·exact h.elim
  ·exact h.elim
 case storeK key n a x =>
  obtain⟨n',a',x',k,off,g,t,cs,ho,e1,e2,e3,e4,e5,h⟩:=ig rfl h;exact gT ho e1 e2 e3 e4 e5 (p _ _ _ h)
 case makeSD e sz n zs =>
  simp only[evalOp] at h ⊢;cases d with
  | none=>exact h.elim
  | some k =>
   simp only[] at h ⊢;split at h
   ·exact fun g r=>p _ _ _ (h g r)
   ·exact h.elim
 case makeSV e sz b zs x =>
  simp only[evalOp] at h ⊢;cases d with
  | none=>exact h.elim
  | some k =>
   simp only[] at h ⊢;split at h
   ·exact fun g r=>p _ _ _ (h g r)
   ·exact h.elim
 case call f args =>
  simp only[evalOp] at h ⊢;exact cW.imp h fun _ _ _ h=>p _ _ _ h
 case callV f args =>
  simp only[evalOp] at h ⊢;generalize lf P (ev ρ f)=z at h ⊢;split at h
  ·exact cW.imp h fun _ _ _ h=>p _ _ _ h
  ·generalize xZ P (ev ρ f) (bf L ρ args)=z at h ⊢;split at h
   ·exact cW.imp h fun _ _ _ h=>p _ _ _ h
   ·exact h.elim
 case look x i =>
  simp only[evalOp] at h ⊢;generalize ev ρ x=z1 at h ⊢;generalize ev ρ i=z2 at h ⊢;split at h
  ·exact⟨let⟨k,r,b,q,u,y⟩:=h.out;⟨k,r,b,q,u,p _ _ _ y⟩⟩
  ·exact h.elim
 case callO f args =>
  simp only[evalOp] at h ⊢;exact cW.imp h fun _ _ _ h r=>p _ _ _ (h r)
 case callVO f args =>
  simp only[evalOp] at h ⊢;generalize lf P (ev ρ f)=z at h ⊢;split at h
  ·exact cW.imp h fun _ _ _ h r=>p _ _ _ (h r)
  ·exact h.elim
 case callD f args =>
  simp only[evalOp] at h ⊢;exact dQ.imp' h fun _ _ _ h=>p _ _ _ h
 case callVD f args =>
  simp only[evalOp] at h ⊢;generalize lf P (ev ρ f)=z at h ⊢;split at h
  ·exact dQ.imp' h fun _ _ _ h=>p _ _ _ h
  ·exact h.elim
 case app e sz b zs s x =>
  simp only[evalOp] at h ⊢;generalize ev ρ s=z1 at h ⊢;generalize ev ρ x=z2 at h ⊢;split at h
  ·exact⟨let⟨kd,n,xs,m,news,q,u,y,h4,h5,h6⟩:=h.out;⟨kd,n,xs,m,news,q,u,y,h4,h5,fun v hv=>p _ _ _ (h6 v hv)⟩⟩
  ·exact h.elim
 case appX e sz b zs s x =>
  simp only[evalOp] at h ⊢;generalize ev ρ s=z1 at h ⊢;generalize ev ρ x=z2 at h ⊢;split at h
  ·exact⟨let⟨kd,n,xs,m,news,q,u,y,h4,h5,h6⟩:=h.out;⟨kd,n,xs,m,news,q,u,y,h4,h5,fun v hv r=>p _ _ _ (h6 v hv r)⟩⟩
  ·exact h.elim
 case appD e sz b zs s x =>
  simp only[evalOp] at h ⊢;generalize ev ρ s=z1 at h ⊢;generalize ev ρ x=z2 at h ⊢;split at h
  ·exact⟨let⟨kd,n,xs,m,news,q,u,y,h4,h5,h6⟩:=h.out;⟨kd,n,xs,m,news,q,u,y,h4,h5,fun v hv r=>p _ _ _ (h6 v hv r)⟩⟩
  ·exact h.elim
 case appS e s x =>
  simp only[evalOp] at h ⊢;generalize ev ρ s=z1 at h ⊢;generalize ev ρ x=z2 at h ⊢;split at h
  ·exact⟨let⟨kd,n,xs,q,u,y,h4⟩:=h.out;⟨kd,n,xs,q,u,y,fun v hv=>p _ _ _ (h4 v hv)⟩⟩
  ·exact h.elim
 case appZ e b ki s x =>
  simp only[evalOp] at h ⊢;generalize ev ρ s=z1 at h ⊢;generalize ev ρ x=z2 at h ⊢;split at h
  ·split at h
   ·exact⟨let⟨kd,n,xs,q,u,y,h4⟩:=h.out;⟨kd,n,xs,q,u,y,fun v hv=>p _ _ _ (h4 v hv)⟩⟩
   ·exact h.elim
  ·exact h.elim
 case copy e sz dd x =>
  simp only[evalOp] at h ⊢;generalize ev ρ dd=z1 at h ⊢;generalize ev ρ x=z2 at h ⊢;split at h
  ·exact⟨let⟨k,n,v,nr,xs,ad,cr,cd,j,q,u,y,h4,h5⟩:=h.out;⟨k,n,v,nr,xs,ad,cr,cd,j,q,u,y,h4,p _ _ _ h5⟩⟩
  ·obtain⟨⟨k,n,v,nr,xs,ad,cr,cd,j,m,a,c,news,q,u,y,h4,h5,h6,h7,h8,h9⟩ | ⟨da,n,cd,a,m,c,q,u,y,h9⟩⟩:=h
   ·exact⟨.inl ⟨k,n,v,nr,xs,ad,cr,cd,j,m,a,c,news,q,u,y,h4,h5,h6,h7,h8,p _ _ _ h9⟩⟩
   ·exact⟨.inr ⟨da,n,cd,a,m,c,q,u,y,p _ _ _ h9⟩⟩
  ·exact h.elim
 case copyX e sz dd x =>
  simp only[evalOp] at h ⊢;generalize ev ρ dd=z1 at h ⊢;generalize ev ρ x=z2 at h ⊢;split at h
  ·obtain⟨⟨k,n,v,nr,xs,ad,cr,cd,j,m,a,c,news,q,u,y,h4,h5,h6,h7,h8,h9⟩ | ⟨da,n,cd,a,m,c,q,u,y,h9⟩⟩:=h
   ·exact⟨.inl ⟨k,n,v,nr,xs,ad,cr,cd,j,m,a,c,news,q,u,y,h4,h5,h6,h7,h8,fun r=>p _ _ _ (h9 r)⟩⟩
   ·exact⟨.inr ⟨da,n,cd,a,m,c,q,u,y,fun r=>p _ _ _ (h9 r)⟩⟩
  ·exact h.elim
 case pan x=>simp only[evalOp] at h
 case dead=>simp only[evalOp] at h
 case mkmap =>
  simp only[evalOp] at h ⊢;cases d with
  | none=>exact h.elim
  | some k =>
   simp only[] at h ⊢;generalize L.get k=z at h ⊢;cases z with
   | none=>exact fun g=>p _ _ _ (h g)
   | some _=>exact h.elim
 case mupd str x i v =>
  simp only[evalOp] at h ⊢;generalize ev ρ x=z1 at h ⊢;split at h
  ·obtain⟨k,cs,q,u,y,cs',h4,h5⟩:=h;exact⟨k,cs,q,u,y,cs',h4,p _ _ _ h5⟩
  ·exact h.elim
 case mrange x =>
  simp only[evalOp] at h ⊢;generalize ev ρ x=z1 at h ⊢;split at h
  ·rename_i g k;generalize L.get k=z at h ⊢;cases z with
   | none =>
    obtain⟨km,cs,q,u,y⟩:=h;exact⟨km,cs,q,u,fun gi=>p _ _ _ (y gi)⟩
   | some _=>exact h.elim
  ·exact h.elim
 case mnext x =>
  simp only[evalOp] at h ⊢;generalize ev ρ x=z1 at h ⊢;split at h
  ·split at h
   ·rename_i hL;obtain⟨km,cs,q,u,y,h4,h5⟩:=h.out;exact⟨km,cs,q,u,y,fun j e a b=>p _ _ _ (h4 j e a b),fun a=>p _ _ _ (h5 a)⟩
   ·exact h.elim
  ·exact h.elim
 case mentry x =>
  simp only[evalOp] at h ⊢;generalize ev ρ x=z1 at h ⊢;split at h
  ·split at h
   ·obtain⟨km,cs,j,e,q,u,y,h4,h5,h6⟩:=h.out;exact⟨km,cs,j,e,q,u,y,h4,h5,p _ _ _ h6⟩
   ·exact h.elim
  ·exact h.elim
 all_goals
  simp only[evalOp] at h ⊢;exact Br h fun v h=>p _ _ _ h
theorem CO {s s':dU}(h:drawn s=some s'):jZ s'=false:=by
 cases s<;>simp only[drawn,xo,reduceCtorEq] at h<;>subst h<;>rfl
theorem Bt {bx:List Nat}{s s':dU}(h:mZ bx s=some s'):jZ s'=false:=by
 unfold mZ at h;split at h
 ·split at h
  ·split at h
   ·injection h with h;subst h;rfl
   ·cases h
  ·split at h
   ·split at h
    ·injection h with h;subst h;rfl
    ·cases h
   ·cases h
 ·injection h with h;subst h;rfl
 ·split at h<;>(injection h with h;subst h;rfl)
 ·split at h<;>(injection h with h;subst h;rfl)
 ·exact CO h
theorem Bu {fl bx:List Nat}{bk:List (Nat×Nat)}{s s':dU}(h:s5 fl bk bx s=some s'):jZ s'=false:=by
 rcases vI h with h | ⟨a,n,i,rfl,rfl⟩ | ⟨a,n,i,key,rfl,rfl⟩ | ⟨a,n,i,rfl,rfl⟩ | ⟨i,rfl,rfl⟩
 ·exact Bt h
 ·rfl
 ·rfl
 ·rfl
 ·rfl
theorem Bv {s s':dU}(h:vG s=some s'):jZ s'=false:=by
 cases s<;>simp only[vG,xo,reduceCtorEq] at h<;>subst h<;>rfl
theorem um {A:cQ}{f:Array Oper}:∀{is:List Nat}{ss:List ak},eH P A f is=some ss->∀s∈ss,(∃d o g,s=.op d o g/\jZ o=false)\/∃d o,s=.pc d o none/\Ba o=true:=by
 intro is
 induction is with
 | nil=>intro ss h s e;simp only[eH,xo] at h;subst h;cases e
 | cons i is k =>
  intro ss h s e;simp only[eH] at h;split at h
  case h_2=>cases h
  rename_i m l b j;injection h with h
  subst h;rcases Xh.1 e with rfl | e
  ·unfold zu at b;split at b
   case h_1=>cases b
   split at b
   case h_2=>cases b
   split at b
   ·split at b
    case h_3=>cases b
    ·injection b with b
     exact .inr ⟨_,_,b.symm,rfl⟩
    ·injection b with b
     exact .inr ⟨_,_,b.symm,rfl⟩
   ·split at b
    ·split at b
     case h_2=>cases b
     rename_i s' c;injection b with b
     exact .inl ⟨_,s',_,b.symm,Bv c⟩
    ·split at b
     case h_2=>cases b
     rename_i s' c;split at b
     case h_2=>cases b
     injection b with b
     exact .inl ⟨_,s',_,b.symm,Bu c⟩
  ·exact k j s e
theorem Bw:∀{ss:List ak},Dr ss=true->∀d o g,ak.pc d o g∉ss
 | [],_,d,o,g,h=>by cases h
 | .op _ _ _::l,b,d,o,g,h=>by
  rcases Xh.1 h with h | h
  ·cases h
  ·exact Bw (ss:=l) b d o g h
 | .frz _::l,b,d,o,g,h=>by cases b
 | .pc _ _ _::l,b,d,o,g,h=>by cases b
theorem E6 {A:cQ}{b:Array Oper}{is:List Nat}{ss:List ak}(f:eH P A b is=some ss) (e:Dr ss=true):∀s∈ss,∃d o g,s=.op d o g/\jZ o=false:=by
 intro s c;rcases um f s c with h | ⟨d,o,rfl,_⟩
 ·exact h
 ·exact v7 c (Bw e _ _ _)
theorem wD {K:TK}:∀(ss:List ak),(∀s∈ss,∃d o g,s=ak.op d o g/\jZ o=false)->∀{F:aA}{L:Loc}{ρ:Env}{M:TL}{τ:aU},TS G F L ρ M τ->dw P PS true ss M τ K->aV P ss F L ρ (Both G K)
 | [],_,F,L,ρ,M,τ,e,h=>⟨M,τ,e,h⟩
 | s::ss,u,F,L,ρ,M,τ,e,h=>by
  obtain⟨d,o,g,rfl,ho⟩:=u s (by simp);have j:∀s∈ss,∃d o g,s=ak.op d o g/\jZ o=false:=fun s hs=>u s (by simp[hs]);have c:∀{ρ:Env}{τ:aU},TS G F L ρ M τ->bH P o d M τ (fun M' m=>dw P PS true ss M' m K)->evalOp P o d F L ρ (fun F' L' ρ'=>aV P ss F' L' ρ' (Both G K)):=by
   intro ρ τ e h;have:=Ho ho e h;exact wC this fun F' L' ρ' ⟨M',m,y,z⟩=>wD ss j y z
  cases g with
  | none =>
   simp only[eU,stepT] at h;simp only[aV];exact c e h
  | some p =>
   obtain⟨s,l⟩:=p;simp only[eU,stepT] at h;simp only[aV];split at h
   ·rename_i b hb;have k:ρ s=.v (.bool b):=gW (x:=.t s) e.env hb;simp only[k];have f:∀n,b=n->TS G F L (Fr.put (some s) (.v (.bool n)) ρ) M (bw (some s) (.bool n) τ):=fun n _=>e.put cC (some s);have r:∀{ρ:Env}{τ:aU},TS G F L ρ M τ->TS G F L (Fr.put d (.v undef) ρ) M (bw d .und τ):=fun e=>e.put qb d;cases b<;>simp only[vo] at h ⊢<;>cases l<;>simp only[] at h ⊢
    ·exact c (f _ rfl) h
    ·exact wD ss j (r (f _ rfl)) h
    ·exact wD ss j (r (f _ rfl)) h
    ·exact c (f _ rfl) h
   ·rename_i hb;have q:=e.env s;rw[hb] at q;simp only[aN,Rel] at q;obtain⟨v,k,rfl⟩:=q;simp only[k,undef];exact wD ss j (e.put qb d) h
   ·exact h.elim
theorem qB:∀{ss:List ak},yD ss M=true->∀s∈ss,∀k,rZ s=some k->M.get k=none
 | [],_,s,b,_,_=>by cases b
 | x::l,h,s,b,k,e=>by
  unfold yD at h;rcases Xh.1 b with rfl | b
  ·rw[e] at h;simp only[] at h;cases c:M.get k with
   | none=>rfl
   | some o=>rw[c] at h;cases h
  ·split at h
   ·exact qB h s b k e
   ·split at h
    ·exact qB h s b k e
    ·cases h
theorem lC {K:TK}{fb:List Nat}:∀(ss:List ak),(∀s∈ss,(∃d o g,s=ak.op d o g/\jZ o=false)\/∃d o,s=ak.pc d o none/\Ba o=true)->∀{F:aA}{L:Loc}{ρ:Env}{M:TL}{τ:aU},TS G F L ρ M τ->jU P PS fb ss M τ K->bg P (xC G PS) fb ss F L ρ (Both G K)
 | [],_,F,L,ρ,M,τ,e,h=>⟨M,τ,e,h⟩
 | s::ss,hc,F,L,ρ,M,τ,e,h=>by
  have m:∀s∈ss,(∃d o g,s=ak.op d o g/\jZ o=false)\/∃d o,s=ak.pc d o none/\Ba o=true:=fun s hs=>hc s (by simp[hs]);rcases hc s (by simp) with⟨d,o,g,rfl,ho⟩ | ⟨d,o,rfl,ho⟩
  case inr =>
   cases o<;>simp only[Ba,Xm] at ho
   ·rename_i f l;simp only[jo,yE,CB,eD,dW,dI] at h;simp only[bg,qF];split at h
    case h_1 =>
     rename_i st j;refine(pX e (cN e.env l) (show PS=⟨PS.ps,PS.hb,some st⟩ by rw[<-j]) h).imp fun F' L' v _ _ _ _ _ h=>?_;obtain⟨M',n,c,q,r,z⟩:=h;exact lC ss m (q.put r d) z
    rename_i j;refine(oC e (cN e.env l) h j).imp fun F' L' v _ _ _ _ _ h=>?_;obtain⟨M',n,c,q,r,z⟩:=h;exact lC ss m (q.put r d) z
   ·rename_i fx l;simp only[jo,yE,CB] at h;split at h
    ·rename_i f fi ca hx;simp only[eD,dW,dI] at h;obtain⟨ax,av,e1,q,r⟩:=rD e.env hx;simp only[bg,qF,e1,lf];split at h
     case h_1 =>
      rename_i st j;refine(pX e (iV e.env q r l) (show PS=⟨PS.ps,PS.hb,some st⟩ by rw[<-j]) h).imp fun F' L' v _ _ _ _ _ h=>?_;obtain⟨M',n,c,q,r,z⟩:=h;exact lC ss m (q.put r d) z
     rename_i j;refine(oC e (iV e.env q r l) h j).imp fun F' L' v _ _ _ _ _ h=>?_;obtain⟨M',n,c,q,r,z⟩:=h;exact lC ss m (q.put r d) z
    ·rename_i nm t k off hx;simp only[eD,dW,dI] at h;obtain⟨g,t',cs,hg,e1⟩:=ol e.env hx;obtain⟨f',hm,h⟩:=h;have y:aB F L (.own k off::dO τ l) ([.pointer (some ⟨g,off,none⟩)]++bf L ρ l++[]):=by
      rw[Xz];simp only[Xu,XO,aB,Rel];exact⟨_,_,rfl,⟨g,t',cs,hg,rfl⟩,cN e.env l⟩
     simp only[bg,qF,e1,Bf,lf,hm];split at h
     case h_1 =>
      rename_i st j;refine(pX e y (show PS=⟨PS.ps,PS.hb,some st⟩ by rw[<-j]) h).imp fun F' L' v _ _ _ _ _ h=>?_;obtain⟨M',n,c,q,r,z⟩:=h;exact lC ss m (q.put r d) z
     rename_i j;refine(oC e y h j).imp fun F' L' v _ _ _ _ _ h=>?_;obtain⟨M',n,c,q,r,z⟩:=h;exact lC ss m (q.put r d) z
    ·exact h.elim
  have u:∀{ρ:Env}{τ:aU},TS G F L ρ M τ->bH P o d M τ (fun M' n=>jU P PS fb ss M' n K)->evalOp P o d F L ρ (fun F' L' ρ'=>bg P (xC G PS) fb ss F' L' ρ' (Both G K)):=by
   intro ρ τ e h;have:=Ho ho e h;exact wC this fun F' L' ρ' ⟨M',n,q,r⟩=>lC ss m q r
  cases g with
  | none =>
   simp only[jo,yE,stepT] at h;exact⟨o,rfl,u e h⟩
  | some p =>
   obtain⟨s,ad⟩:=p;simp only[jo,yE,stepT] at h;simp only[bg,res];have hu:∀{ρ:Env}{τ:aU},TS G F L ρ M τ->TS G F L (Fr.put d (.v undef) ρ) M (bw d .und τ):=fun e=>e.put qb d;have skip:∀{ρ:Env}{τ:aU},TS G F L ρ M τ->jU P PS fb ss M (bw d .und τ) K->evalOp P gU d F L ρ (fun F' L' ρ'=>bg P (xC G PS) fb ss F' L' ρ' (Both G K)):=by
    intro ρ τ e h;simp only[gU,evalOp,aI,ev];exact lC ss m (hu e) h
   split at h
   ·rename_i b hb;have ab:ρ s=.v (.bool b):=gW (x:=.t s) e.env hb;have aa:TS G F L ρ M (bw (some s) (.bool b) τ):=by
     have:=e.put (cC (b:=b)) (some s)
     rwa [Fr.ku ab] at this
    simp only[ab];cases b<;>simp only[vo] at h ⊢<;>cases ad<;>simp only[reduceCtorEq,↓reduceIte,xo,exists_eq_left'] at h ⊢
    ·exact u aa h
    ·exact skip aa h
    ·exact skip aa h
    ·exact u aa h
   ·rename_i hb;have hr:=e.env s;rw[hb] at hr;simp only[aN,Rel] at hr;obtain⟨v,ab,rfl⟩:=hr;simp only[ab,undef,xo,exists_eq_left'];exact skip e h
   ·exact h.elim
theorem Bx:∀(b:List Nat) (vs:List C) (τ:aU) (j:Nat),pO b vs τ j=τ j\/∃(i:Nat) (c:C),b[i]?=some j/\vs[i]?=some c/\pO b vs τ j=c
 | [],vs,τ,j=>.inl rfl
 | k::b,[],τ,j=>.inl rfl
 | k::b,v::vs,τ,j=>by
  simp only[pO,zN];split
  ·rename_i h;subst h;exact .inr ⟨0,v,by simp,by simp,rfl⟩
  ·rcases Bx b vs τ j with h | ⟨i,c,d,f,e⟩
   ·exact .inl h
   ·exact .inr ⟨i+1,c,by simpa using d,by simpa using f,e⟩
theorem yN {M1:TL}:∀{b:List Nat}{vs:List C}{τ:aU},m5 M M1 b vs τ->∀{i j:Nat}{c:C},b[i]?=some j->vs[i]?=some c->IJ M M1 (τ j) c
 | [],vs,τ,h,i,j,c,e,_=>by simp at e
 | k::b,[],τ,h,i,j,c,_,e=>by simp at e
 | k::b,v::vs,τ,h,i,j,c,f,d=>by
  simp only[m5] at h;cases i with
  | zero=>simp at f d;subst f d;exact h.1
  | succ i=>exact yN h.2 (by simpa using f) (by simpa using d)
theorem yO {M1:TL}(l:TS G F L ρ M τ):∀{d:List Nat}{vs:List C},vs.length=d.length->m5 M M1 d vs τ->gives M M1 M1->tu vs
 | [],[],_,_,_=>by simp only[tu]
 | [],v::vs,b,_,_=>by simp at b
 | k::d,[],b,_,_=>by simp at b
 | k::d,v::vs,b,h,m=>by
  simp only[m5] at h;simp only[tu];refine⟨?_,yO l (by simpa using b) h.2 m⟩;have f:=kJ (l.env k);rcases h.1 with e | ⟨e,_⟩ | ⟨j,c⟩ | ⟨j,n,t,sz,c,_⟩ | ⟨els,j,c⟩
  ·rw[e];simp only[Wf]
  ·rw[e] at f;have:=f.wf
   revert this
   cases v<;>simp[C.cel,Wf]
  ·rw[c];simp[Wf,vR]
  ·rw[c];simp only[Wf]
  ·rw[j] at f;have:=(tD f).wf;rw[c];exact this
theorem Nd {M:TL}(c:cP F L M):∀{l:TL},(∀k o,l.get k=some o->M.get k=some o)->∀k o,l.get k=some o->o.Wf:=by
 intro l h k o e;rcases dS (c k) with⟨b,_⟩ | ⟨q,p,b,f,d⟩
 ·rw[h k o e] at b;cases b
 ·rw[h k o e] at b;injection b with b
  subst b;exact d.wf
theorem E7 {L':Loc}{F':aA}(l:F.le F') (s:∀k g t cs,L.get k=some (.box g t cs)->∃cs',L'.get k=some (.box g t cs')) :
  (∀c v,C.leaf c=true->Rel F L c v->Rel F' L' (pL c) v)/\(∀c sv,C.leaf c=true->aN F L c sv->aN F' L' (pL c) sv):=by
 have hb:∀{k:Nat},(∃g t cs,L.get k=some (.box g t cs))->∀o,L.get k=some o->∃o',L'.get k=some o'/\Own.like o o':=by
  intro k n o p;obtain⟨g,t,cs,n⟩:=n;rw[n] at p;injection p with p
  subst p;obtain⟨cs',h⟩:=s k g t cs n;exact⟨_,h,rfl,rfl⟩
 constructor
 ·intro c v q h;cases c<;>simp only[C.leaf,Xm] at q<;>simp only[pL]
  case rw=>simp only[Rel]
  case elr=>simp only[Rel]
  case own k off =>
   have d:=h;simp only[Rel] at d;obtain⟨g,t,cs,f,_⟩:=d;refine bq l (fun j e=>?_) rfl h;rcases e with⟨off,e⟩ | e | e | ⟨_,_,_,e⟩ | ⟨_,_,e⟩
   ·injection e with e e2;subst e;exact hb ⟨g,t,cs,f⟩
   ·cases e
   ·cases e
   ·cases e
   ·cases e
  case ifo m ti k off =>
   have d:=h;simp only[Rel] at d;obtain⟨g,t,cs,f,_⟩:=d;refine bq l (fun j e=>?_) rfl h;rcases e with⟨off,e⟩ | e | e | ⟨_,_,_,e⟩ | ⟨_,_,e⟩
   ·cases e
   ·cases e
   ·cases e
   ·injection e with _ _ e;subst e;exact hb ⟨g,t,cs,f⟩
   ·cases e
  case slo k a =>
   have d:=h;simp only[Rel] at d;obtain⟨g,t,cs,u,f,_⟩:=d;exact qw l (hb ⟨g,t,cs,f⟩) h
  case slp=>simp only[Rel]
  case mpr k =>
   have d:=h;simp only[Rel] at d;obtain⟨g,cs,f,_⟩:=d;refine bq l (fun j e=>?_) rfl h;rcases e with⟨off,e⟩ | e | e | ⟨_,_,_,e⟩ | ⟨_,_,e⟩
   ·cases e
   ·cases e
   ·injection e with e;subst e;exact hb ⟨g,0,cs,f⟩
   ·cases e
   ·cases e
  all_goals
   exact bq l (fun r e=>by rcases e with⟨off,e⟩ | e | e | ⟨_,_,_,e⟩ | ⟨_,_,e⟩<;>cases e) rfl h
 ·intro c sv q h;cases c<;>simp only[C.leaf,Xm] at q<;>simp only[pL]
  case rw=>trivial
  case elr=>trivial
  case own k off =>
   have d:=h;simp only[aN] at d;refine cL l (fun j e=>?_) rfl h;rcases e with⟨off,e⟩ | ⟨off,e⟩ | e | ⟨a,b,e⟩ | e | ⟨_,_,_,e⟩<;>first | cases e;done | skip
   injection e with e e2
   subst e;exact hb d.2
  case ifo m ti k off =>
   have d:=h;simp only[aN,Rel] at d;obtain⟨v,_,g,t,cs,f,_⟩:=d;refine cL l (fun j e=>?_) rfl h;rcases e with⟨off,e⟩ | ⟨off,e⟩ | e | ⟨a,b,e⟩ | e | ⟨_,_,_,e⟩<;>first | cases e;done | skip
   injection e with _ _ e
   subst e;exact hb ⟨g,t,cs,f⟩
  case ownv k off =>
   have d:=h;simp only[aN,Rel] at d;obtain⟨v,_,g,t,cs,f,_⟩:=d;refine cL l (fun j e=>?_) rfl h;rcases e with⟨off,e⟩ | ⟨off,e⟩ | e | ⟨a,b,e⟩ | e | ⟨_,_,_,e⟩<;>first | cases e;done | skip
   injection e with e e2
   subst e;exact hb ⟨g,t,cs,f⟩
  case slo k a =>
   have d:=h;simp only[aN,Rel] at d;obtain⟨v,_,g,t,cs,u,f,_⟩:=d;exact sn l (hb ⟨g,t,cs,f⟩) h
  case slp=>trivial
  case mpr k =>
   have d:=h;simp only[aN,Rel] at d;obtain⟨v,_,g,cs,f,_⟩:=d;refine cL l (fun j e=>?_) rfl h;rcases e with⟨off,e⟩ | ⟨off,e⟩ | e | ⟨a,b,e⟩ | e | ⟨_,_,_,e⟩<;>first | cases e;done | skip
   injection e with e
   subst e;exact hb ⟨g,0,cs,f⟩
  all_goals
   exact cL l (fun r e=>by rcases e with⟨off,e⟩ | ⟨off,e⟩ | e | ⟨a,b,e⟩ | e | ⟨_,_,_,e⟩<;>cases e) rfl h
def E8 (L:Loc) (c:C) (v:Value):SV:=match c with
 | .own k off=>.own k off
 | .elr k j off=>match L.get k with
  | some (.row (.slice a _ _) _ sz _ _)=>.el a (j*sz+off)
  | _=>.v v
 | _=>.v v
theorem zR {c:C}{v:Value}(h:Rel F L c v):aN F L c (E8 L c v)/\conc L (E8 L c v)=v/\(∀k off,E8 L c v=.own k off->∃g t cs,L.get k=some (.box g t cs))/\(∀f j,E8 L c v=.el f j->f≠none):=by
 cases c
 case own k off =>
  simp only[Rel] at h;obtain⟨g,t,cs,h,rfl⟩:=h;refine⟨⟨rfl,g,t,cs,h⟩,by simp only[E8,conc,h],fun l d e=>?_,fun f j e=>(by cases e)⟩;injection e with e1 e2
  subst e1;exact⟨g,t,cs,h⟩
 case pt es off =>
  simp only[Rel] at h;obtain⟨b,o,vs,rfl,m,q⟩:=h;exact⟨⟨b,o,0,vs,.inl ⟨rfl,rfl⟩,m,q⟩,rfl,fun l d e=>(by cases e),fun f j e=>(by cases e)⟩
 case ownv=>exact h.elim
 case slp=>exact h.elim
 case elr k j off =>
  simp only[Rel] at h;obtain⟨f,t,sz,n,c,xs,rfl,h⟩:=h;simp only[E8,h];exact⟨⟨f,t,sz,n,c,xs,rfl,h⟩,rfl,fun l d e=>(by cases e),fun p r e=>by injection e with e _;subst e;simp⟩
 case any=>exact⟨trivial,rfl,fun l d e=>(by cases e),fun f j e=>(by cases e)⟩
 all_goals
  exact⟨⟨v,rfl,h⟩,rfl,fun l d e=>(by cases e),fun f j e=>(by cases e)⟩
theorem Hq {F0:aA}{L0:Loc}{d:Env}{b:aU}{z m:Act}{asg:List Nat}{q:List Nat}{vs:List C}{L1:Loc}{F1:aA}(f:aC L0 d z) (u:∀j,aN F0 L0 (b j) (d j)) (hF:F0.le F1)
  (hb:∀k g t cs,L0.get k=some (.box g t cs)->∃cs',L1.get k=some (.box g t cs')) (s:∀j,j∉asg->m.tmps.getD j undef=z.tmps.getD j undef)
  (hv:∀(i j:Nat) c,q[i]?=some j->vs[i]?=some c->Rel F1 L1 c (m.tmps.getD j undef)) :
  ∃n,aC L1 n m/\∀j,aN F1 L1 (pO q vs (su asg b) j) (n j):=by
 have key:∀j,∃sv,aN F1 L1 (pO q vs (su asg b) j) sv/\conc L1 sv=m.tmps.getD j undef/\(∀k off,sv=.own k off->∃g t cs,L1.get k=some (.box g t cs))/\(∀r i,sv=.el r i->r≠none):=by
  intro j;rcases Bx q vs (su asg b) j with h | ⟨i,c,h1,h2,h3⟩
  ·rw[h];simp only[su];split
   ·exact⟨.v (m.tmps.getD j undef),trivial,rfl,fun _ _ e=>(by cases e),fun _ _ e=>(by cases e)⟩
   ·rename_i y;have hj:j∉asg:=fun h=>by rw[cI.2 h] at y;cases y
    obtain⟨u1,u2⟩:=E7 hF hb;refine⟨d j,aN.mp u1 u2 3 (u j),?_,?_,f.el j⟩
    ·rw[s j hj,f.eq j];cases e:d j with
     | v x=>rfl
     | el x i=>rfl
     | own k off =>
      obtain⟨g,t,cs,p⟩:=f.own j k off e;obtain⟨cs',l⟩:=hb _ _ _ _ p;simp only[conc,p,l]
    ·intro k off e;obtain⟨g,t,cs,p⟩:=f.own j k off e;obtain⟨cs',l⟩:=hb _ _ _ _ p;exact⟨g,t,cs',l⟩
  ·rw[h3];obtain⟨s1,s2,s3,s4⟩:=zR (hv i j c h1 h2);exact⟨_,s1,s2,s3,s4⟩
 refine⟨fun j=>(key j).choose,⟨fun t=>?_,fun t k off e=>?_,fun t r j e=>?_⟩,fun j=>(key j).choose_spec.1⟩
 ·exact(key t).choose_spec.2.1.symm
 ·exact(key t).choose_spec.2.2.1 k off e
 ·exact(key t).choose_spec.2.2.2 r j e
theorem yP {n:Nat}{F:aA}{L:Loc}{w:World}{a:Act}{asg:List Nat}{K K':cF}{b:Act}{w':World}(h:dZ n F L w a asg K b w') (f:∀{F' L' ρ'},K F' L' ρ'->K' F' L' ρ'):dZ n F L w a asg K' b w':=by
 obtain⟨F',L',ρ',c,e,m,k,d,l,j⟩:=h;exact⟨F',L',ρ',c,e,m,k,d,l,f j⟩
theorem xM {P:Program}{PS:o7}{G:Nat->Option (Nat×TypeId)}{a:Act}{w:World}{b:List ak}{K:TK}:∀(ks:List Nat) {F:aA}{L:Loc}{ρ:Env}{M:TL}{τ:aU},sI G PS ks->St F L w->aC L ρ a->TS G F L ρ M τ->dw P PS false (ks.map ak.frz++b) M τ K ->
  ∃F' L' ρ' M' c,St F' L' w/\aC L' ρ' a/\Step F L w F' L' w/\TS G F' L' ρ' M' c/\dw P PS false b M' c K:=by
 intro ks
 induction ks with
 | nil=>intro F L ρ M τ _ m d n h;exact⟨F,L,ρ,M,τ,m,d,Step.refl _ _ _,n,h⟩
 | cons k ks e =>
  intro F L ρ M τ p m d n h;simp only[Xj,Xu,eU] at h;obtain⟨F1,L1,ac,M1,q,r,g2,s,z,h⟩:=Bs m d n (p k (by simp)) h;obtain⟨F2,L2,f,M2,l,t,k2,u,v,y⟩:=e (fun j x=>p j (by simp[x])) r g2 z h;exact⟨F2,L2,f,M2,l,t,k2,s.trans u,v,y⟩
theorem E9:∀{ks:List Nat}{ss:List ak},∀k∈ks,k∈iw (xK ks (.regD ss))
 | [],_,k,h=>by cases h
 | j::l,ss,k,h=>by
  have:∀(l:List Nat),∀k∈l,k∈dz (l.map ak.frz):=by
   intro l
   induction l with
   | nil=>intro k h;cases h
   | cons j l b =>
    intro k h;simp only[Xj,dz,Xh] at h ⊢;exact h.imp id (b k)
  exact yo.2 (.inl (this (j::l) k h))
theorem Bz {P:Program}{PS:o7}{G:Nat->Option (Nat×TypeId)}{ρ:Env}{a:Act}{w:World}{ss:List ak}{E:Nat->TK}{R N:TK}{F:aA}{L:Loc}{M:TL}{τ:aU}:∀(ks:List Nat),sI G PS (iw (xK ks (.regD ss)))->St F L w->aC L ρ a->TS G F L ρ M τ->eL P PS (xK ks (.regD ss)) E R N M τ ->
  ∃F' L' ρ' M' b,St F' L' w/\aC L' ρ' a/\Step F L w F' L' w/\TS G F' L' ρ' M' b/\dw P PS true ss M' b N
 | [],_,e,d,m,h=>⟨F,L,ρ,M,τ,e,d,Step.refl _ _ _,m,h⟩
 | k::l,s,e,d,m,h=>by
  have u:dw P PS false ((k::l).map ak.frz++[]) M τ (fun M τ=>dw P PS true ss M τ N):=by rw[Xz];exact h
  obtain⟨F1,L1,f,M1,c,n,q,v,t,p⟩:=xM (k::l) (fun j r=>s j (E9 j r)) e d m u;exact⟨F1,L1,f,M1,c,n,q,v,t,p⟩
theorem qC {M:TL}:∀{ks:List Nat},rB M ks=true->∀k∈ks,∀o,M.get k=some o->zQ o=true
 | [],_,k,h,_,_=>by cases h
 | j::ks,b,k,h,o,e=>by
  simp only[rB] at b;split at b
  ·cases b
  ·cases b
  ·cases b
  ·rename_i f d c;rcases Xh.1 h with rfl | h
   ·cases o with
    | box t cs=>exact v7 e (f _ _)
    | map es=>exact v7 e (d _)
    | win t p cs q=>exact v7 e (c _ _ _ _)
    | row=>rfl
   ·exact qC b k h o e
theorem Fb {M:TL}{ks:List Nat}(b:rB M ks=true) (k:Nat) (h:k∈ks) (t:TypeId) (cs:List C):M.get k≠some (.box t cs):=fun e=>by cases qC b k h _ e
theorem CP {M:TL}{ks:List Nat}(b:rB M ks=true) (k:Nat) (h:k∈ks) (es:List (C×C)):M.get k≠some (.map es):=fun e=>by cases qC b k h _ e
theorem oG {A:cQ}:∀(c:Code) {sc:aJ},low P A c=some sc->∀{G:Nat->Option (Nat×TypeId)}{E:Nat->TK}{R N:TK}{F:aA}{L:Loc}{ρ:Env}{M:TL}{τ:aU}{a:Act}{w:World},sI G PS (iw sc)->St F L w->aC L ρ a->TS G F L ρ M τ->a.tmps.size=A.n ->
  eL P PS sc E R N M τ->c.wp P (QQ A.n F L w a (cE c) (xC G PS) (fun j=>Both G (E j)) (Both G R) (Both G N)) a w:=by
 intro c
 induction c with
 | skip =>
  intro sc b G E R N F L ρ M τ a w m hs he z hn d;simp only[low,xo] at b;subst b;exact wp_skip ⟨F,L,ρ,hs,he,hn,rfl,Step.refl _ _ _,fun _ _=>rfl,M,τ,z,d⟩
 | label l =>
  intro sc b G E R N F L ρ M τ a w m hs he z hn d;simp only[low,xo] at b;subst b;exact wp_label ⟨F,L,ρ,hs,he,hn,rfl,Step.refl _ _ _,fun _ _=>rfl,M,τ,z,d⟩
 | exit id =>
  intro sc b G E R N F L ρ M τ a w m hs he z hn d;simp only[low,xo] at b;subst b;exact wp_exit ⟨F,L,ρ,hs,he,hn,rfl,Step.refl _ _ _,fun _ _=>rfl,M,τ,z,d⟩
 | ret =>
  intro sc b G E R N F L ρ M τ a w m hs he z hn d;simp only[low,xo] at b;subst b;exact wp_ret ⟨F,L,ρ,hs,he,hn,rfl,Step.refl _ _ _,fun _ _=>rfl,M,τ,z,d⟩
 | region r fd cy =>
  intro sc b G E R N F L ρ M τ a w m hs he z hn d;cases cy with
  | false =>
   simp only[low] at b;split at b
   case h_2=>cases b
   rename_i ss dC;injection b with b;subst b
   simp only[kD,mh,kE,mo,kF,jq,kG,kH,mq] at d;exact wp_region (wB _ dC m hs he z hn d (fun a' w' h=>h) fun v ch a' w' hc h=>⟨v,hc,h⟩)
  | true =>
   simp only[low] at b;split at b
   case h_2=>cases b
   rename_i is cl ss h1 h2;have h4:rX A.ord r=is:=by simp only[rX,h1]
   rw[h4] at h2;split at b
   case h_2 =>
    split at b
    case h_2=>cases b
    rename_i h3;injection b with b;subst b
    rw[Bh] at d;split at d
    case h_2=>exact d.elim
    rename_i bt;split at d
    ·exact pI h2 h3 hs he hn (fun s hs k e=>bU z.tl (qB bt s hs k e)) (d.out G (xC G PS) (fun F L ρ M τ f args vs K h1 h2 h3=>oC h1 h2 h3 d.st) F L ρ ⟨w,hs⟩ z) (fun a' w' h=>h) fun v ch a' w' F' L' gc g1 g2 g3 g4 g5 g6=>⟨v,gc,F',L',g1,g2,g3,g4,g5,g6⟩
    exact pI h2 h3 hs he hn (fun s hs k e=>bU z.tl (qB bt s hs k e)) (lC ss (um h2) z d) (fun a' w' h=>h) fun v ch a' w' F' L' gc g1 g2 g3 g4 g5 g6=>⟨v,gc,F',L',g1,g2,g3,g4,g5,g6⟩
   rename_i h0;split at b
   case h_2=>cases b
   rename_i h3;injection b with b;subst b
   obtain⟨F1,L1,ae,M1,ap,ax,az,ag,ad,d⟩:=Bz _ m hs he z d;exact rp h2 h3 ax az hn (wD ss (E6 h2 h0) ad d) fun a' w' h=>dZ.after (asg1:=[]) ag rfl (fun _ _=>rfl) h (fun _ h=>v7 h List.not_mem_nil) (fun _ h=>h)
 | seq x y bi bl =>
  intro sc b G E R N F L ρ M τ a w m hs he z hn d;simp only[low] at b;split at b
  case h_2=>cases b
  rename_i h1 h2;injection b with b;subst b
  simp only[kD,mh,kE,mo,kF,jq,kG,kH,mq] at d;refine wp_seq (wp_mono (bi h1 m.left hs he z hn d) ?_);intro e a1 w1 u;cases e with
  | normal =>
   obtain⟨F1,L1,ae,g1,g2,g3,g4,g5,g6,M1,ap,g7,g8⟩:=u;refine wp_mono (bl h2 m.right g1 g2 g7 g3 g8) ?_;intro e2 a2 w2 bz;cases e2<;>first
    | exact dZ.after g5 g4 g6 bz (fun j h=>yo.2 (.inl h)) (fun j h=>yo.2 (.inr h))
    | exact(let⟨v,e,h⟩:=bz;⟨v,e,qM.after g5 g4 g6 h (fun j h=>yo.2 (.inl h)) (fun j h=>yo.2 (.inr h)) fun _ _ h=>h⟩)
    | exact bz
  | exit id=>exact u.mono fun j h=>yo.2 (.inl h)
  | ret=>exact u.mono fun j h=>yo.2 (.inl h)
  | goto l=>exact u
  | panic c=>exact(let⟨v,e,h⟩:=u;⟨v,e,h.mono fun j h=>yo.2 (.inl h)⟩)
  | outgrown=>exact u
 | cond c x y bi bl =>
  intro sc b G E R N F L ρ M τ a w m hs he z hn d;simp only[low] at b;split at b
  case h_2=>cases b
  rename_i h0 h1 h2;injection b with b;subst b
  simp only[kD,mh,kE,mo,kF,jq,kG,kH,mq] at d;split at d
  case h_2=>exact d.elim
  rename_i t dt;have hc:a.eval c=.bool t:=by rw[aF h0 he,bB (gW z.env dt)]
  refine wp_cond hc ?_;cases t
  ·simp only[vo] at d;refine wp_mono (bl h2 m.right hs he z hn d) ?_;intro e a1 w1 u;cases e<;>first
    | exact u.mono fun j h=>yo.2 (.inr h)
    | exact(let⟨v,e,h⟩:=u;⟨v,e,h.mono fun j h=>yo.2 (.inr h)⟩)
    | exact u
  ·simp only[vo] at d;refine wp_mono (bi h1 m.left hs he z hn d) ?_;intro e a1 w1 u;cases e<;>first
    | exact u.mono fun j h=>yo.2 (.inl h)
    | exact(let⟨v,e,h⟩:=u;⟨v,e,h.mono fun j h=>yo.2 (.inl h)⟩)
    | exact u
 | block id x ih =>
  intro sc b G E R N F L ρ M τ a w m hs he z hn d;simp only[low] at b;split at b
  case h_2=>cases b
  rename_i h1;injection b with b;subst b
  simp only[kD,mh,kE,mo,kF,jq,kG,kH,mq] at d;refine wp_block (wp_mono (ih h1 m hs he z hn d) ?_);intro e a1 w1 u;cases e with
  | exit j =>
   simp only[Exit.inBlock];simp only[QQ] at u
   by_cases hj:j=id
   ·subst hj;have hb:Nat.beq j j=true:=by simp
    rw[hb] at u;rw[j3 rfl];exact u
   ·have hb:Nat.beq j id=false:=by
     cases h:Nat.beq j id with
     | true=>exact v7 (v8 h) hj
     | false=>rfl
    rw[hb] at u;rw[vv hj];exact u
  | normal=>exact u
  | ret=>exact u
  | goto l=>exact u
  | panic c=>exact u
  | outgrown=>exact u
 | loop x ih =>
  intro sc b G E R N F L ρ M τ a w m hs he z hn d;simp only[low] at b;split at b
  case h_2=>cases b
  rename_i sx h1;injection b with b;subst b
  simp only[kD,mh,kE,mo,kF,jq,kG,kH,mq] at d;split at d
  case h_2=>exact d.elim
  rename_i ce;obtain⟨σ,x0,Inv,ls,lv,Lf,μ,i0,i1,i2,i3,i4,i5⟩:=d
  -- the boxes that there are,with their addresses
  let G1:Nat->Option (Nat×TypeId):=fun k=>match L.get k with | some (.box g t _)=>some (g,t) | _=>none
  have cw:∀k g t cs,L.get k=some (.box g t cs)->G1 k=some (g,t):=fun k g t cs e=>by simp only[G1,e]
  have bm:Kp G1 L:=by
   intro k g t e;simp only[G1] at e;split at e
   ·rename_i g' t' cs h;injection e with e
    injection e with e1 e2
    subst e1 e2;exact⟨cs,h⟩
   ·cases e
  have da:sI G1 PS (iw sx):=by
   intro k hk ca;exfalso;simp only[G1] at ca;split at ca
   ·rename_i g t cs e;have hr:=z.tl k;rw[e] at hr;cases e2:M.get k with
    | none=>rw[e2] at hr;exact hr
    | some o =>
     rw[e2] at hr;cases o with
     | row=>exact hr
     | box t' cs'=>exact Fb ce k hk t' cs' e2
     | map es=>exact CP ce k hk es e2
     | win t0 p0 c0 q0=>cases qC ce k hk _ e2
   ·exact ca rfl
  have hG:∀{L':Loc},Kp G1 L'->Kp G L':=fun hk k g t e=>let⟨cs,h⟩:=z.kp k g t e;hk k g t (cw k g t cs h);have cr:∀{L':Loc},Kp G1 L'->∀k g t cs,L.get k=some (.box g t cs)->∃cs',L'.get k=some (.box g t cs'):=fun hk k g t cs h=>hk k g t (cw k g t cs h);have bo:∀{K:TK}{F' L' ρ'},Both G1 K F' L' ρ'->Both G K F' L' ρ':=fun⟨M',ee,h1,h2⟩=>⟨M',ee,⟨h1.tl,h1.env,hG h1.kp,h1.glob⟩,h2⟩;have ea:∀{F':aA}{L':Loc}{M':TL},cP F' L' M'->(∀k o,M'.get k=some o->o.Wf):=fun h k o e=>Nd h (fun _ _ e=>e) k o e
  -- a round's end,or what is ahead of the first round,is a head
  have ay:∀(y:σ) (F1:aA) (L1:Loc) (ae:Env) (M1:TL) (ap:aU) (a1:Act) (w1:World),F.le F1->St F1 L1 w1->aC L1 ae a1->TS G1 F1 L1 ae M1 ap->(∀j,j∉cE x->a1.tmps.getD j undef=a.tmps.getD j undef) ->
    m5 M1 (Lf y) ls (lv y) ap->gives M1 (Lf y) (Lf y)->∃L2,St F1 L2 w1/\Step F1 L1 w1 F1 L2 w1/\cP F1 L2 (Lf y)/\Kp G1 L2/\tu (lv y) /\
     ∃bc,aC L2 bc a1/\∀j,aN F1 L2 (pO ls (lv y) (su (cE x) τ) j) (bc j):=by
   intro y F1 L1 ae M1 ap a1 w1 bb ax az ad dk hh hg;obtain⟨g1,g2⟩:=sH ax ad.tl hg;have bj:Kp G1 (ul L1 (Lf y)):=by
    intro k g t e;obtain⟨cs,bx⟩:=ad.kp k g t e;obtain⟨ff,cX⟩:=bm k g t e;refine⟨cs,?_⟩;rcases dS (z.tl k) with⟨c1,c2⟩ | ⟨q,p,c1,c2,hr⟩
    ·rw[cX] at c2;cases c2
    ·rw[cX] at c2;injection c2 with c2
     subst c2;cases q with
     | row=>exact hr.elim
     | box t' cs' =>
      obtain⟨o2,e2⟩:=iR (i3 y) c1 rfl;rw[jw,e2];simp only[bx]
     | map es =>
      obtain⟨o2,e2⟩:=iR (i3 y) c1 rfl;rw[jw,e2];simp only[bx]
     | win t0 p0 c0 q0 =>
      obtain⟨o2,e2⟩:=iR (i3 y) c1 rfl;rw[jw,e2];simp only[bx]
   refine⟨ul L1 (Lf y),g1,g2,sG ad.tl hg,bj,yO ad (i4 y) hh hg,Hq he z.env bb (cr bj) dk ?_⟩;intro i j c e1 e2;have hr:=kJ (ad.env j);have hv:a1.tmps.getD j undef=conc L1 (ae j):=az.eq j;rw[hv];have dd:=yN hh e1 e2;rcases dd with e | ⟨e,hk⟩ | ⟨e,e'⟩ | ⟨e,k',t',dy,e',q1,q2⟩ | ⟨els,e,e'⟩
   ·rw[e];simp only[Rel]
   ·have hc:(ap j).cel=ap j:=by
     rw[e];rw[e] at hr;cases c<;>first | rfl | (simp only[fo,lq,Xm] at hk;done)
    rw[hc] at hr;exact qA ad.tl (.inr (.inl ⟨e,hk⟩)) hr
   ·rw[e] at hr;exact qA ad.tl (.inr (.inr (.inl ⟨rfl,e'⟩))) hr
   ·rw[e] at hr;exact qA ad.tl (.inr (.inr (.inr (.inl ⟨rfl,k',t',dy,e',q1,q2⟩)))) hr
   ·rw[e] at hr;exact qA ad.tl (.inr (.inr (.inr (.inr ⟨els,rfl,e'⟩)))) hr
  refine sZ (fun n a1 w1=>∃(y:σ) (F1:aA) (L1:Loc),n=μ y/\F.le F1/\Inv y/\St F1 L1 w1/\a1.tmps.size=A.n/\a1.defers=a.defers/\Step F L w F1 L1 w1/\(∀j,j∉cE x->a1.tmps.getD j undef=a.tmps.getD j undef) /\
   cP F1 L1 (Lf y)/\Kp G1 L1/\tu (lv y)/\∃ae,aC L1 ae a1/\∀j,aN F1 L1 (pO ls (lv y) (su (cE x) τ) j) (ae j)) ?_ ?_
  ·obtain⟨L2,k1,k2,k3,k4,k5,k6⟩:=ay x0 F L ρ M τ a w (aA.le_refl F) hs he ⟨z.tl,z.env,bm,z.glob⟩ (fun _ _=>rfl) i1 i2;exact⟨_,x0,F,L2,rfl,aA.le_refl F,i0,k1,hn,rfl,k2,fun _ _=>rfl,k3,k4,k5,k6⟩
  ·rintro n a1 w1 ⟨y,F1,L1,rfl,bb,db,ax,ec,bd,ag,av,bu,bj,dj,ae,az,cd⟩;refine wp_mono (ih h1 da ax az (⟨bu,cd,bj,ax.glob⟩:TS G1 F1 L1 ae (Lf y) (pO ls (lv y) (su (cE x) τ))) ec (i5 y db dj (ea bu))) ?_;intro e a2 w2 u;cases e with
   | normal =>
    obtain⟨F2,L2,bc,g1,g2,g3,g4,g5,g6,M2,ed,g7,y',k1,k2,k3,k4⟩:=u;have bs:∀j,j∉cE x->a2.tmps.getD j undef=a.tmps.getD j undef:=fun j hj=>by rw[g6 j hj,av j hj]
    obtain⟨L3,q1,q2,q3,q4,q5,q6⟩:=ay y' F2 L2 bc M2 ed a2 w2 (aA.le_trans bb g5.le) g1 g2 g7 bs k2 k3;exact⟨μ y',k4,y',F2,L3,rfl,aA.le_trans bb g5.le,k1,q1,g3,g4.trans bd,(ag.trans g5).trans q2,bs,q3,q4,q5,q6⟩
   | exit j=>exact dZ.after ag bd av (yP u bo) (fun j h=>h) (fun j h=>h)
   | ret=>exact dZ.after ag bd av (yP u bo) (fun j h=>h) (fun j h=>h)
   | goto l=>exact u
   | panic c=>exact(let⟨v,e,h⟩:=u;⟨v,e,qM.after ag bd av h (fun j h=>h) (fun j h=>h) fun F' L' h=>⟨hG h.1,h.2⟩⟩)
   | outgrown=>exact u
 | rangeFunc f ps x y bi bl=>intro sc b;simp only[low] at b;cases b
 | scope x ih =>
  intro sc b G E R N F L ρ M τ a w m hs he z hn d;simp only[low] at b;refine wp_scope_straight (wp_mono (ih b m hs he z hn d) ?_);intro e a1 w1 u;cases e<;>exact u
 | goto l=>intro sc b;simp only[low] at b;cases b
 | refuse ew=>intro sc b;simp only[low] at b;cases b
end
section
variable {P:Program}{G:Nat->Option (Nat×TypeId)}{F:aA}{L:Loc}{ρ:Env}{M:TL}{τ:aU}{a:Act}{w:World}
theorem tI (e:TS G F L ρ M τ):∀{rs:List RV}{K:List C->Prop},pT M τ rs K->kS L ρ rs (fun vs=>∃cs,aB F L cs vs/\K cs)
 | [],K,h=>⟨[],by simp only[aB],h⟩
 | (t,none)::l,K,h=>by
  simp only[pT] at h;simp only[kS];refine retV_imp (tI e h) ?_;rintro vs ⟨cs,f,j⟩;exact⟨_,by simp only[aB];exact⟨_,_,rfl,kJ (e.env t),f⟩,j⟩
 | (t,some (agg,n))::l,K,h=>by
  simp only[pT] at h;simp only[kS];split at h
  case h_2=>exact h.elim
  rename_i k off c;split at h
  case h_2=>exact h.elim
  rename_i ty cs s;split at h
  case h_2=>exact h.elim
  rename_i p;obtain⟨o,_⟩:=eB (x:=.t t) e.env c;have o:ρ t=.own k off:=o;obtain⟨g,ty,vs,r,q,m⟩:=jV e.tl s;have d:=(q.drop off).take n;simp only[o,r,fu m.2.2 (cR (show((vs.drop off).take n).length=n by rw[d.len];exact br p))];refine retV_imp (tI e h) ?_;rintro us ⟨ds,f,j⟩;refine⟨_,?_,j⟩;simp only[aB];have:=kJ (ct (agg:=agg) d);exact⟨_,_,rfl,this,f⟩
where
 retV_imp {L:Loc}{ρ:Env}:∀{rs:List RV}{K K':List Value->Prop},kS L ρ rs K->(∀vs,K vs->K' vs)->kS L ρ rs K'
 | [],K,K',h,c=>c _ h
 | (t,none)::l,K,K',h,c=>by
  simp only[kS] at h ⊢;exact retV_imp h fun vs=>c _
 | (t,some (agg,n))::l,K,K',h,c=>by
  simp only[kS] at h ⊢;generalize ρ t=z at h ⊢;split at h
  case h_2=>exact h.elim
  rename_i k off;generalize L.get k=y at h ⊢;split at h
  case h_2=>exact h.elim
  rename_i ty cs;generalize iC ty ((cs.drop off).take n) n=b at h ⊢;cases b
  ·exact h.elim
  ·exact retV_imp h fun vs=>c _
theorem JS {cs:List C}{vs:List Value}(h:aB F L cs vs):Rel F L (rA cs) (gm vs):=by
 match cs,vs,h with
 | [],vs,h =>
  simp only[aB] at h;subst h;simp only[rA,gm,Rel];exact⟨[],rfl,by simp only[aB]⟩
 | [c],vs,h =>
  simp only[aB] at h;obtain⟨v,b,rfl,d,rfl⟩:=h;exact d
 | c1::l::cs,vs,h =>
  have e:=h;simp only[aB] at e;obtain⟨v,b,rfl,d,j,f,rfl,k⟩:=e;simp only[rA,gm,Rel];exact⟨_,rfl,h⟩
theorem wE:∀(l:List C) (k j:Nat),uG k l j=if k<=j then(l[j-k]?).getD .und else .und
 | [],k,j=>by simp[uG]
 | v::l,k,j=>by
  simp only[uG,zN]
  by_cases h:j=k
  ·subst h;simp
  ·rw[vv h,wE l (k+1) j]
   by_cases b:k<=j
   ·rw[j3 (by omega),j3 b,show j-k=(j-(k+1))+1 by omega,XY]
   ·rw[vv (by omega),vv b]
theorem Hr {c:C}{v:Value}(h:Rel F L c v):Rel F L c.WM v:=by
 cases c<;>first
  | exact h
  | exact sB (c:=.nils) h
  | exact tD h
  | (simp only[Rel] at h
     obtain⟨vs,b,d⟩:=h;simp only[C.WM,Rel]
     first
      | exact⟨vs,b,ju d⟩
      | exact⟨vs,b,d.map fun c _ v=>gX⟩)
theorem wF {F':aA}{L':Loc}{w':World}{Li:List Own}(j:St F' L' w') (c:Step F (inp Li) w F' L' w') (hb:∀(i:Nat) g t cs,Li[i]?=some (.box g t cs)->∃cs',L'.get (1000+i)=some (.box g t cs')) :
  ∃Lo,St F' (inp Lo) w'/\Step F (inp Li) w F' (inp Lo) w'/\Lo.length=Li.length/\∀(i:Nat) g t cs,Li[i]?=some (.box g t cs)->∃cs',Lo[i]?=some (.box g t cs'):=by
 let Lo:List Own:=Li.mapIdx fun i o=>match o with
  | .box _ _ _=>match L'.get (1000+i) with | some p=>p | none=>.row (.slice none 0 0) 0 0 0 []
  | .row _ t sz _ _=>.row (.slice none 0 0) t sz 0 []
 have get:∀k p,(inp Lo).get k=some p->L'.get k=some p\/∃t sz,p=.row (.slice none 0 0) t sz 0 []:=by
  intro k p e;rw[aT] at e;split at e
  case isFalse=>cases e
  rename_i y;simp only[Lo,List.getElem?_mapIdx] at e;cases h:Li[k-1000]? with
  | none=>rw[h] at e;cases e
  | some o =>
   rw[h] at e;simp only[X4,xo] at e;cases o with
   | box g t cs =>
    simp only at e;rw[show 1000+(k-1000)=k by omega] at e;cases l:L'.get k with
    | none=>rw[l] at e;exact .inr ⟨0,0,e.symm⟩
    | some q=>rw[l] at e;exact .inl (by rw[<-e])
   | row v t sz n xs=>exact .inr ⟨t,sz,e.symm⟩
 refine⟨Lo,⟨j.frz,fun k o e=>?_,fun k o g e d=>?_,fun k m o o' g e x d f=>?_,j.glob⟩,⟨c.le,c.os,c.tape,c.output,c.size,c.same,c.frz,fun b u=>c.own b ?_⟩,by simp[Lo],fun i g t cs hi=>?_⟩
 ·rcases get k o e with h | ⟨t,sz,rfl⟩
  ·exact j.own k o h
  ·exact World.ownsRow_nil w' 0 t sz
 ·rcases get k o e with h | ⟨t,sz,rfl⟩
  ·exact j.off k o g h d
  ·cases d
 ·rcases get k o e with h | ⟨t,sz,rfl⟩<;>rcases get m o' x with s | ⟨z,r,rfl⟩
  ·exact j.sep k m o o' g h s d f
  ·cases f
  ·cases d
  ·cases d
 ·obtain⟨k,o,e,d⟩:=u;rcases get k o e with h | ⟨t,sz,rfl⟩
  ·exact⟨k,o,h,d⟩
  ·cases d
 ·obtain⟨cs',h⟩:=hb i g t cs hi;exact⟨cs',by simp only[Lo,List.getElem?_mapIdx,hi,X4,h]⟩
theorem L9 {n:Nat}{asg:List Nat}{fn:Func}{rs:List RV}{Lin:List TO}{Li:List Own}{R:List TO->C->Prop}{a0 a':Act}{w':World}(x:oN P fn.results.toList=some rs) (hl:Li.length=Lin.length) (ad:cP F (inp Li) (iO Lin))
  (ar:∀k g t cs,(inp Li).get k=some (.box g t cs)->G k=some (g,t)) (hq:dZ n F (inp Li) w a0 asg (Both G (fun L ρ=>pT L ρ rs fun vs=>oU Lin L (rA vs) R)) a' w') :
  a'.defers=a0.defers/\∃v,(results fn a'.tmps).run P w'=.ok v w'/\∃F' Lo,St F' (inp Lo) w'/\Step F (inp Li) w F' (inp Lo) w'/\gu Li R F' Lo v:=by
 obtain⟨F',L',ρ',g1,g2,g3,g4,g5,g6,M',cY,g7,z⟩:=hq;obtain⟨us,hm,cs,ao,⟨fz,ko,hK⟩⟩:=pJ g1 g2 x (tI g7 z);have av:TS G F' L' ρ' M' (fun _=>.any):=⟨g7.tl,fun _=>trivial,g7.kp,g7.glob⟩;obtain⟨F2,L2,M2,cz,ay,k1,k2,k3,y,k5,M3,c2,c3,Mo,q1,az,q4,q5,q6,q7⟩:=oD g1 g2 av (by simp only[aB];exact⟨_,[],rfl,JS ao,rfl⟩) hK;subst q1;simp only[aB] at k5;obtain⟨v,cc,ev,hv,rfl⟩:=k5;injection ev with ev _
 subst ev;have an:∃L3,St F2 L3 w'/\Step F2 L2 w' F2 L3 w'/\cP F2 L3 M3/\Rel F2 L3 c3 (gm us)/\∀k g t cs,L2.get k=some (.box g t cs)->M3.get k≠none->L3.get k=some (.box g t cs):=by
  rcases az with⟨rfl,rfl⟩ | ⟨q2,q3⟩
  ·exact⟨L2,k1,Step.refl _ _ _,y.tl,hv,fun k g t cs h _=>h⟩
  ·obtain⟨b1,b2⟩:=sH k1 y.tl q2;refine⟨_,b1,b2,sG y.tl q2,qA y.tl q3 hv,fun k g t cs h l=>?_⟩;rw[jw];cases e:M3.get k with
   | none=>exact v7 e l
   | some o=>simp only[h]
 obtain⟨L3,b1,b2,f,s,be⟩:=an;obtain⟨Lo,q,d2,d3⟩:=pW f q4;have bb:=cK q5;have aw:∀k g t,G k=some (g,t)->∃cs,(M3.get k≠none->L3.get k=some (.box g t cs)):=by
  intro k g t e;obtain⟨cs,h⟩:=y.kp k g t e;exact⟨cs,fun l=>be _ _ _ _ h l⟩
 refine⟨g4,gm us,?_,F2,Lo,b1.handed q bb,?_,Mo.map (TO.Wv (C.ren (cn ko 1000))),c3.WM.ren (cn ko 1000),by simp[d2],rF f d2 q d3,(Hr s).ren (mU q),?_,q7 (by simp only[tu];exact⟨s.wf,trivial⟩)⟩
 ·rw[ru];rw[Array.mapM_eq_mapM_toList];simp only[Sem.run_bind,Sem.run_map];rw[hm];simp only[Result.andThen_ok,Sem.run_pure];congr 1
  match us with
  | []=>rfl
  | [t]=>rfl
  | t::u::r =>
   simp only[gm];rw[dif_neg (by simp)]
 ·have c:=(g5.trans k3).trans b2;obtain⟨x1,x2⟩:=dX q;refine⟨c.le,c.os,c.tape,c.output,c.size,c.same,c.frz,fun b hb=>c.own b ?_⟩;obtain⟨j,p,e,hb⟩:=hb;rw[aT] at e;split at e
  case isFalse=>cases e
  have d:j-1000<Lo.length:=(Xe.1 e).1;have hk:ko[j-1000]?=some (ko[j-1000]'(by omega)):=x5 (by omega);exact⟨_,p,by rw[x2 _ _ hk];exact e,hb⟩
 ·intro i g t cs hi;have d:i<Lin.length:=by rw[<-hl];exact(Xe.1 hi).1
  have m:(inp Li).get (1000+i)=some (.box g t cs):=by rw[aT,j3 (by omega),show 1000+i-1000=i by omega];exact hi
  have hr:=ad (1000+i);rw[ck,j3 (by omega),show 1000+i-1000=i by omega,m,x5 d] at hr;have aE:zQ Lin[i]=false:=by
   cases bj:Lin[i] with
   | row=>rw[bj] at hr;exact hr.elim
   | box t' cs'=>rfl
   | map es=>rfl
   | win t0 p0 c0 q0=>rfl
  ·obtain⟨k',y1,y2⟩:=d9 q6 i _ (x5 d) aE;rw[List.getElem?_range' d] at y1;injection y1 with y1
   obtain⟨x1,x2⟩:=dX q;obtain⟨z1,z2⟩:=Bk q4;have aa:i<Mo.length:=by rw[z1];exact(Xe.1 y2).1
   have ax:M3.get k'≠none:=by rw[z2 i k' y2,x5 aa];simp
   have ac:k'=1000+i:=by omega
   subst ac;obtain⟨ba,h2⟩:=aw _ g t (ar _ _ _ _ m);exact⟨ba,by rw[<-x2 i _ y2];exact h2 ax⟩
theorem ai {Pp:Value->Prop}{f:FuncId}{fn:Func}{sc:aJ}{A:cQ}{rs:List RV}{args:List C}{Lin:List TO}{R:List TO->C->Prop}(hf:P.funcs[f]?=some fn) (b:aD P A fn=some (sc,A.n,rs,false)) (m:Nat.ble args.length A.n=true)
  (h:tu args->(∀o∈Lin,o.Wf)->eL P ⟨Pp,[],none⟩ sc (fun _ _ _=>False) (fun L ρ=>pT L ρ rs fun vs=>oU Lin L (rA vs) R) (fun L ρ=>pT L ρ rs fun vs=>oU Lin L (rA vs) R) (iO Lin) (uG 0 args)):CallsTX P f args Lin R Pp:=by
 unfold aD at b;split at b
 case h_2=>cases b
 rename_i c hb;split at b
 case h_2=>cases b
 rename_i bk ac ab z;injection b with b
 injection b with e1 e2
 injection e2 with e2 e3
 injection e3 with e3 hname
 subst e1 e3;refine⟨fun F Li vs hl r ha=>⟨⟨fn,hf,by rw[hb];rfl,hname⟩,gu.WH,fun w hs=>?_⟩⟩;refine calls_of_wp hf hb ?_;have ao:∀o∈Lin,o.Wf:=by
  intro o ho;obtain⟨i,hi⟩:=XB.1 ho;have:=r (1000+i);rw[ck,aT,j3 (by omega),j3 (by omega),show 1000+i-1000=i by omega,hi] at this;cases e:Li[i]? with
  | none=>rw[e] at this;exact this.elim
  | some p=>rw[e] at this;exact cO.wf this
 have h:=h ha.wf ao;have aa:=ha.len;have m:=Xq m
 -- the frame
 have key:∀j,∃sv,aN F (inp Li) (uG 0 args j) sv/\conc (inp Li) sv=(vs.toArray++Array.replicate (fn.ntmps-vs.toArray.size) undef).getD j undef/\(∀k off,sv=.own k off->∃g t cs,(inp Li).get k=some (.box g t cs))/\(∀u i,sv=.el u i->u≠none):=by
  intro j;rw[wE];simp only[XG,XA,Nat.sub_zero,XC];cases e:args[j]? with
  | some c =>
   have s:j<vs.length:=by rw[aa];exact(Xe.1 e).1
   obtain⟨s1,s2,s3,s4⟩:=zR (ha.at e (x5 s));refine⟨_,s1,?_,s3,fun u i e=>s4 u i e⟩;rw[s2,Array.getElem?_append_left (by simpa using s)];simp[s]
  | none =>
   have ap:vs.length<=j:=by rw[aa];exact X3.1 e
   refine⟨.v undef,qb,?_,fun _ _ e=>(by cases e),fun _ _ e=>(by cases e)⟩;rw[Array.getElem?_append_right (by simpa using ap)];simp only[Array.getElem?_replicate,conc];split<;>rfl
 let x:Env:=fun j=>(key j).choose
 have he:aC (inp Li) x {tmps:=vs.toArray++Array.replicate (fn.ntmps-vs.toArray.size) undef,defers:=[]} :=
  ⟨fun t=>(key t).choose_spec.2.1.symm,fun t k off e=>(key t).choose_spec.2.2.1 k off e,fun t u j e=>(key t).choose_spec.2.2.2 u j e⟩
 let G:Nat->Option (Nat×TypeId):=fun k=>match(inp Li).get k with | some (.box g t _)=>some (g,t) | _=>none
 have y:∀k g t cs,(inp Li).get k=some (.box g t cs)->G k=some (g,t):=fun k g t cs e=>by simp only[G,e]
 have ag:Kp G (inp Li):=by
  intro k g t e;simp only[G] at e;split at e
  ·rename_i g' t' cs h;injection e with e
   injection e with e1 e2
   subst e1 e2;exact⟨cs,h⟩
  ·cases e
 have ae:∀k,G k≠none->1000<=k:=by
  intro k d;simp only[G] at d;split at d
  ·rename_i g t cs h;rw[aT] at h;split at h
   ·assumption
   ·cases h
  ·exact v7 rfl d
 have ht:TS G F (inp Li) x (iO Lin) (uG 0 args):=⟨r,fun j=>(key j).choose_spec.1,ag,hs.glob⟩;refine wp_mono (oG c ab (fun k _ d=>.inl (ae k d)) hs he ht (by simp[e2];omega) h) ?_;intro e a' w' q;have fin:∀{a0:Act},a0.defers=[]->dZ A.n F (inp Li) w a0 (cE c) (Both G (fun L ρ=>pT L ρ ac fun vs=>oU Lin L (rA vs) R)) a' w'->a'.defers=[]/\∃v,(results fn a'.tmps).run P w'=.ok v w' /\
   ∃v' F' Lo,Ending.returned v=.returned v'/\St F' (inp Lo) w'/\Step F (inp Li) w F' (inp Lo) w'/\gu Li R F' Lo v':=by
  intro a0 al q;obtain⟨k1,v,k2,F',Lo,k3,k4,k5⟩:=L9 z hl r y q;exact⟨k1.trans al,v,k2,v,F',Lo,rfl,k3,k4,k5⟩
 cases e with
 | normal=>exact(let⟨h1,v,h2,h3⟩:=fin rfl q;⟨h1,v,h2,.inl h3⟩)
 | ret=>exact(let⟨h1,v,h2,h3⟩:=fin rfl q;⟨h1,v,h2,.inl h3⟩)
 | exit j=>obtain⟨F',L',ρ',_,_,_,_,_,_,M',cc,_,h⟩:=q;exact h.elim
 | goto l=>exact q.elim
 | panic c =>
  obtain⟨v,ar,F',L',g1,g2,g3,g4,g5,kp,hp,_⟩:=q;obtain⟨Lo,q1,q2,q3,q4⟩:=wF g1 g2 (fun i g t cs hi=>kp (1000+i) g t (y _ g t cs (by rw[aT,j3 (by omega),show 1000+i-1000=i by omega];exact hi)));exact⟨g4,.inr ⟨v,_,F',Lo,rfl,ar,q1,q2,q3,q4,hp⟩⟩
 | outgrown=>exact q.elim
theorem CallsTX.noPan {f:Nat}{args:List C}{Lin:List TO}{R:List TO->C->Prop}(h:CallsTX P f args Lin R fun _=>False):CallsT P f args Lin R :=
 ⟨fun F Li vs b d c=>let k:=h.out F Li vs b d c;⟨k.ent,k.mono,fun w j=>(k.run w j).mono fun e w' q=>q.elim id fun⟨_,_,_,_,_,_,_,_,_,_,q⟩=>q.elim⟩⟩
theorem au {f:FuncId}{fn:Func}{sc:aJ}{A:cQ}{rs:List RV}{args:List C}{Lin:List TO}{R:List TO->C->Prop}(d:P.funcs[f]?=some fn) (b:aD P A fn=some (sc,A.n,rs,false)) (c:Nat.ble args.length A.n=true)
  (h:tu args->(∀o∈Lin,o.Wf)->eL P ⟨fun _=>False,[],none⟩ sc (fun _ _ _=>False) (fun L ρ=>pT L ρ rs fun vs=>oU Lin L (rA vs) R) (fun L ρ=>pT L ρ rs fun vs=>oU Lin L (rA vs) R) (iO Lin) (uG 0 args)):CallsT P f args Lin R :=
 (ai d b c h).noPan
end
section
variable {P:Program}{L:TL}{ρ:aU}
def iZ (Lo:List TO) (x:C):List TO->C->Prop:=fun Mo v=>Mo=Lo/\v=x
theorem bO {f:Nat}{args a:List C}{K:TL->aU->C->Prop}{x:C}(h:CallsT P f a [] (iZ [] x)) (d:(args.map fun c=>c.WA.ren (cn [] 1000))=a) (k:Wf x->K L ρ (x.ren (aW [])).slt):pR P f args L ρ K:=by
 subst d;exact .mk ⟨[],[],[],L,[],_,.inl rfl,rfl,rfl,rfl,rfl,rfl,h,fun v Mo ⟨j,e⟩ b _=>by subst j e;exact⟨rfl,k b⟩⟩
theorem jx {f:Nat}{args a:List C}{K:TL->aU->C->Prop}{d:Option Nat}{x:C}(h:CallsT P f a [] (iZ [] x)) (e:(args.map fun c=>c.WA.ren (cn [] 1000))=a) (k:Wf x->K L ρ x.slt):vV P f args L ρ d K:=by
 subst e;exact .frz _ h fun v Mo ⟨l,j⟩ b=>by subst l j;exact⟨rfl,k b⟩
theorem callO (ks ko:List Nat) {f:Nat}{args a:List C}{K:TL->aU->C->Prop}{x:C}{Lin Lin' Lo:List TO}(h:CallsT P f a Lin' (iZ Lo x)) (p:L.sub ks=some Lin)
  (d:(bE ks&&bE ko&&lu L ks ko&&aQ Lin ks ko)=true) (n:(args.map fun c=>c.WA.ren (cn ks 1000))=a) (e:Lin.map (TO.Wv (C.ren (cn ks 1000)))=Lin') (l:ko.length=Lo.length)
  (k:Wf x->(∀o∈Lo,o.Wf)->K (((L.Wu ks).kills (rowsOf L ks)).puts ko (Lo.map (TO.Wv (C.ren (aW ko))))) (eK (rowsOf L ks) ρ) (x.ren (aW ko)).slt):pR P f args L ρ K:=by
 subst n e;simp only[Xf] at d;obtain⟨⟨⟨r,j⟩,c3⟩,c4⟩:=d;exact .mk ⟨[],ks,ko,L,Lin,_,.inl rfl,p,r,j,c3,c4,h,fun v Mo ⟨s,q⟩ m b=>by subst s q;exact⟨l,k m b⟩⟩
theorem zS (ks ko:List Nat) {f:Nat}{args a:List C}{K:TL->aU->C->Prop}{x:C}{Lin Lin' Lo:List TO}(h:CallsT P f a Lin' (iZ Lo x)) (p:L.sub ks=some Lin)
  (d:(bE ks&&bE ko&&lu L ks ko&&aQ Lin ks ko)=true) (n:(args.map fun c=>c.WA.ren (cn ks 1000))=a) (e:Lin.map (TO.Wv (C.ren (cn ks 1000)))=Lin') (l:ko.length=Lo.length)
  (k:Wf x->(∀o∈Lo,o.Wf)->K (((L.Wu ks).kills (rowsOf L ks)).puts ko (Lo.map (TO.Wv (C.ren (aW ko))))) (eK (rowsOf L ks) ρ) (x.ren (aW ko)).slt):Cx P f args L ρ K:=by
 subst n e;simp only[Xf] at d;obtain⟨⟨⟨r,j⟩,c3⟩,c4⟩:=d;exact .mk ⟨ks,ko,Lin,_,p,r,j,c3,c4,h,fun v Mo ⟨s,q⟩ m b=>by subst s q;exact⟨l,k m b⟩⟩
theorem OL (L1:TL) (ks ko:List Nat) {f:Nat}{args a:List C}{K:TL->aU->C->Prop}{x:C}{Lin Lin' Lo:List TO}(h:CallsT P f a Lin' (iZ Lo x)) (e:gives L L1 L1) (r:L1.sub ks=some Lin)
  (d:(covers L L1&&bE ks&&bE ko&&lu L1 ks ko&&aQ Lin ks ko)=true) (q:(args.map fun c=>c.WA.ren (cn ks 1000))=a) (j:Lin.map (TO.Wv (C.ren (cn ks 1000)))=Lin') (n:ko.length=Lo.length)
  (k:Wf x->(∀o∈Lo,o.Wf)->K (((L1.Wu ks).kills (rowsOf L1 ks)).puts ko (Lo.map (TO.Wv (C.ren (aW ko))))) (eK (rowsOf L1 ks) ρ) (x.ren (aW ko)).slt):pR P f args L ρ K:=by
 subst q j;simp only[Xf] at d;obtain⟨⟨⟨⟨m,t⟩,l⟩,c3⟩,c4⟩:=d;exact .mk ⟨[],ks,ko,L1,Lin,_,.inr ⟨e,m⟩,r,t,l,c3,c4,h,fun v Mo ⟨u,s⟩ p b=>by subst u s;exact⟨n,k p b⟩⟩
theorem uo (b ks ko:List Nat) {f:Nat}{args a:List C}{K:TL->aU->C->Prop}{x:C}{Lo Lin':List TO}(h:CallsT P f a Lin' (iZ Lo x))
  (l:vS b L ρ args fun L ρ args=>∃Lin,L.sub ks=some Lin/\(bE ks&&bE ko&&lu L ks ko&&aQ Lin ks ko)=true/\(args.map fun c=>c.WA.ren (cn ks 1000))=a/\Lin.map (TO.Wv (C.ren (cn ks 1000)))=Lin'/\ko.length=Lo.length /\
   (Wf x->(∀o∈Lo,o.Wf)->K (((L.Wu ks).kills (rowsOf L ks)).puts ko (Lo.map (TO.Wv (C.ren (aW ko))))) (eK (rowsOf L ks) ρ) (x.ren (aW ko)).slt)):pR P f args L ρ K:=by
 refine .mk ⟨b,ks,ko,?_⟩;refine frzK_imp l ?_;rintro L ρ args ⟨Lin,q,j,rfl,rfl,n,k⟩;simp only[Xf] at j;obtain⟨⟨⟨s,m⟩,c3⟩,c4⟩:=j;exact⟨L,Lin,_,.inl rfl,q,s,m,c3,c4,h,fun v Mo ⟨t,r⟩ p e=>by subst t r;exact⟨n,k p e⟩⟩
where
 frzK_imp:∀{b:List Nat}{L:TL}{ρ:aU}{args:List C}{K K':TL->aU->List C->Prop},vS b L ρ args K->(∀L ρ args,K L ρ args->K' L ρ args)->vS b L ρ args K'
  | [],L,ρ,args,K,K',h,d=>d _ _ _ h
  | k::b,L,ρ,args,K,K',h,d=>by
   simp only[vS] at h ⊢;generalize L.get k=z at h ⊢;split at h
   ·exact frzK_imp h d
   ·exact h.elim
theorem bD {Lin:List TO}{v x:C}(hb:aQ Lin (List.range' 1000 Lin.length) []=true) (e:v.WM.ren (cn [] 1000)=x):oU Lin L v (iZ [] x) :=
 ⟨[],[],L,v,v,[],rfl,.inl ⟨rfl,rfl⟩,rfl,rfl,hb,fun _=>⟨rfl,e⟩⟩
theorem xN (ko:List Nat) {Lin Mo Lo:List TO}{v x:C}(c:L.sub ko=some Mo) (a:(bE ko&&aQ Lin (List.range' 1000 Lin.length) ko)=true) (b:Mo.map (TO.Wv (C.ren (cn ko 1000)))=Lo) (e:v.WM.ren (cn ko 1000)=x):oU Lin L v (iZ Lo x):=by
 simp only[Xf] at a;exact⟨[],ko,L,v,v,Mo,rfl,.inl ⟨rfl,rfl⟩,c,a.1,a.2,fun _=>⟨b,e⟩⟩
theorem Qm (k t sz:Nat) {Lin:List TO}(b:L=[]) (hb:aQ Lin (List.range' 1000 Lin.length) [k]=true):oU Lin L .nils (iZ [.row t sz []] (.rw 1000)):=by
 subst b;have a:Nat.beq k k=true:=by simp
 refine⟨[],[k],[(k,.row t sz [])],.nils,.rw k,[.row t sz []],rfl,.inr ⟨⟨.inr ⟨rfl,t,sz,rfl⟩,trivial⟩,.inr (.inr (.inr (.inl ⟨rfl,k,t,sz,rfl,rfl,?_⟩)))⟩,?_,rfl,hb,fun _=>⟨rfl,?_⟩⟩
 ·simp only[TL.get,a]
 ·simp only[TL.sub,TL.get,a]
 ·simp only[C.WM,C.ren,C.mp,sj,cn,a]
theorem bX {e:Type}{b:TL->aU->TK->Prop}{asg:List Nat}(n:Nat) (l:Nat) (f:List Nat) (c:e) (d:e->List C) (Lf:e->TL) (Inv:Nat->e->Prop) (u:Inv 0 c) (w:IJ L (Lf c) (ρ l) (.int .i64 0)) (v:m5 L (Lf c) f (d c) ρ)
  (r:gives L (Lf c) (Lf c)) (hb:∀s,l9 L (Lf s)=true) (t:∀s,(d s).length=f.length)
  (h:∀(k:Nat) s,k<=n->Inv k s->tu (d s)->(∀j o,(Lf s).get j=some o->o.Wf)->(k:Int)<=9223372036854775807->b (Lf s) (pO (l::f) (.int .i64 k::d s) (su asg ρ)) fun L' ρ' =>
   ∃a:Nat×e,(a.1<=n/\Inv a.1 a.2)/\m5 L' (Lf a.2) (l::f) (.int .i64 a.1::d a.2) ρ'/\gives L' (Lf a.2) (Lf a.2)/\n-a.1<n-k):uh b asg L ρ:=by
 refine⟨Nat×e,(0,c),fun x=>x.1<=n/\Inv x.1 x.2,l::f,fun x=>.int .i64 x.1::d x.2,fun x=>Lf x.2,fun x=>n-x.1,⟨XG _,u⟩,⟨w,v⟩,r,fun x=>hb x.2,fun x=>by simp[t],?_⟩;rintro⟨k,s⟩ ⟨q,hi⟩ m p;simp only[tu,Wf] at m;exact h k s q hi m.2 p (wf_i64 m.1).2
theorem cG {L1:TL}{k:Nat}:IJ L L1 (.int .i64 ((k:Int)+1)) (.int .i64 ((k+1:Nat):Int)):=.inr (.inl ⟨rfl,rfl⟩)
theorem cH {n k:Nat}(h:k<n):n-(k+1)<n-k:=by omega
theorem mD {els:List (List C)}(h:Wf (.sl els)):els.length<=9223372036854775807:=by simp only[Wf,maxLen] at h;omega
theorem zT {a:Type}{f:a->List C}{l:List a}(h:Wf (.sl (l.map f))):l.length<=9223372036854775807:=by have:=mD h;simpa using this
theorem uW {bs:List UInt8}(h:Wf (.sl (af bs))):bs.length<=9223372036854775807:=zT h
theorem jy {a:Type}{f:a->List C}{l:List a}{k sz:Nat}{x:a}{es:List C}{K:List C->Prop}(d:l[k]?=some x) (b:f x=es) (c:cU es sz=true) (h:K es):Cw (l.map f) (k:Int) sz K :=
 ⟨es,by omega,by simp[d,b],c,h⟩
theorem Nf {bs:List UInt8}{k:Nat}{x:UInt8}{K:List C->Prop}(a:bs[k]?=some x) (h:K [iG x]):Cw (af bs) (k:Int) 1 K :=
 ⟨[iG x],by omega,by simp[af,a],rfl,h⟩
theorem aq {L1:TL}{c:C}(h:fo L1 3 c=true):IJ L L1 c c:=.inr (.inl ⟨rfl,h⟩)
theorem drop_cons {a:Type}{l:List a}{k:Nat}(h:k<l.length):∃x,l[k]?=some x/\l.drop k=x::l.drop (k+1):=⟨l[k],by simp[h],X6 h⟩
theorem fK {a:Type}{l:List a}{k:Nat}(h:¬k<l.length):l.drop k=[]:=List.drop_eq_nil_iff.2 (by omega)
theorem OM {PS:o7}{c:C}{v:Value}(b:Bg c=some v) (h:PS.ps v) (a:kU L [] PS.hb=true:=by rfl):OG PS L c:=⟨v,b,a,h⟩
end
def mL:Own->Value
 | .box g _ _=>.pointer (some ⟨g,0,none⟩)
 | .row _ _ _ _ _=>undef
def oV:Own->List Value->Own
 | .box g t _,cs=>.box g t cs
 | .row v t sz n xs,_=>.row v t sz n xs
def Ng:Own->Nat->Prop
 | .box _ 0 _,_=>False
 | .box _ (_+1) cs,n=>cs.length=n
 | .row _ _ _ _ _,_=>False
theorem DG {g:Nat}{t:TypeId}{cs:List Value}{n:Nat}(h:t≠0) (a:cs.length=n):Ng (.box g t cs) n:=by
 cases t with
 | zero=>exact v7 rfl h
 | succ t=>exact a
theorem JT {g:Nat}{t:TypeId}{cs:List Value}{n:Nat}(h:Ng (.box g t cs) n):t≠0:=by
 cases t with
 | zero=>exact h.elim
 | succ t=>exact Nat.succ_ne_zero t
def Ci:List Own->List Nat->Prop
 | [],[]=>True
 | o::bs,n::ns=>Ng o n/\Ci bs ns
 | _,_=>False
structure oO (P:Program) (H:Nat) (PS:Value->Prop) (ns:List Nat) (out:Value->List (List Value)):Prop where
 inv:∀cap w,(invoke (.fn (.func H) cap) #[]).run P w=.ok (.enter H cap) w
 idle:∀(bs:List Own) (w:World),Ci bs ns->CallsD P H (bs.map mL).toArray .returning w fun e u' w'=>e=.returned (.tuple #[])/\u'=.returning/\w'=w
 caught:∀(F:aA) (bs:List Own) (v:Value) (older:List PanicEntry) (w:World),PS v->Ci bs ns->St F (inp bs) w ->
  CallsD P H (bs.map mL).toArray (.panicking ({v,recovered:=false}::older)) w fun e u' w'=>e=.returned (.tuple #[])/\u'=.panicking ({v,recovered:=true}::older) /\
   ∃F',St F' (inp (List.zipWith oV bs (out v))) w'/\Step F (inp bs) w F' (inp (List.zipWith oV bs (out v))) w'
theorem uq {P:Program}{F:aA}{L:Loc}{ρ:Env}{a:Act}{w:World}{fn:Func}{rs:List RV}{K:List Value->Prop}(f:St F L w) (d:aC L ρ a) (b:oN P fn.results.toList=some rs) (h:kS L ρ rs K) :
  ∃vs,(results fn a.tmps).run P w=.ok (gm vs) w/\K vs:=by
 obtain⟨vs,c,e⟩:=pJ f d b h;refine⟨vs,?_,e⟩;rw[ru,Array.mapM_eq_mapM_toList];simp only[Sem.run_bind,Sem.run_map];rw[c];simp only[Result.andThen_ok,Sem.run_pure];congr 1
 match vs with
 | []=>rfl
 | [t]=>rfl
 | t::u::r =>
  simp only[gm];rw[dif_neg (by simp)]
def qP:List TO->List TO->Prop
 | [],Mo=>Mo=[]
 | .box t _::l,Mo=>∃(n:Nat) (Mo':List TO),Mo=.box t (List.replicate n .any)::Mo'/\qP l Mo'
 | .row t sz _::l,Mo=>∃Mo',Mo=.row t sz []::Mo'/\qP l Mo'
 | .map _::_,_=>False
 | .win _ _ _ _::_,_=>False
def yQ:List TO->Bool
 | []=>true
 | .map _::_=>false
 | .win _ _ _ _::_=>false
 | .box _ _::l=>yQ l
 | .row _ _ _::l=>yQ l
theorem BA {F:aA}{L:Loc}:∀vs:List Value,aB F L (List.replicate vs.length .any) vs
 | []=>by simp only[XJ,List.replicate_zero,aB]
 | v::vs=>by
  simp only[Xv,X2,aB];exact⟨v,vs,rfl,trivial,BA vs⟩
theorem DH {F:aA}:∀(Lin:List TO) (Li Lo:List Own),yQ Lin=true->Li.length=Lin.length->Lo.length=Lin.length->(∀(i:Nat) o p,Lin[i]?=some o->Li[i]?=some p->∃L,cO F L o p) ->
  (∀(i:Nat) g t cs,Li[i]?=some (.box g t cs)->∃cs',Lo[i]?=some (.box g t cs')) ->
  ∃(Mo:List TO) (Lo':List Own),qP Lin Mo/\Mo.length=Lin.length/\Lo'.length=Lin.length/\(∀(i:Nat) o,Lo'[i]?=some o->Lo[i]?=some o\/∃t sz,o=.row (.slice none 0 0) t sz 0 []) /\
   (∀(i:Nat) g t cs,Li[i]?=some (.box g t cs)->∃cs',Lo'[i]?=some (.box g t cs'))/\∀(i:Nat) o p L G,Mo[i]?=some o->Lo'[i]?=some p->cO G L o p
 | [],Li,Lo,c,d,f,j,h=>by
  have:Li=[]:=List.length_eq_zero_iff.1 d;subst this;exact⟨[],[],rfl,rfl,rfl,fun i o e=>by simp at e,fun i g t cs e=>by simp at e,fun i o p L G e=>by simp at e⟩
 | o::Lin,[],Lo,c,d,f,j,h=>by simp at d
 | o::Lin,p::Li,[],c,d,f,j,h=>by simp at f
 | o::Lin,p::Li,q::Lo,c,d,f,j,h=>by
  obtain⟨Mo,Lo',u,w,m,s,r,x⟩:=DH Lin Li Lo (by cases o<;>first | exact c | cases c) (by simpa using d) (by simpa using f) (fun i o p b a=>j (i+1) o p (by simpa using b) (by simpa using a)) (fun i g t cs e=>by simpa using h (i+1) g t cs (by simpa using e));obtain⟨L,k⟩:=j 0 o p rfl rfl;cases o with
  | map es=>cases c
  | win t0 p0 c0 z=>cases c
  | box t cs =>
   cases p with
   | row=>exact k.elim
   | box g l us =>
    obtain⟨cs',e⟩:=h 0 g l us rfl;simp only[Xp,xo] at e;subst e;refine⟨.box t (List.replicate cs'.length .any)::Mo,.box g l cs'::Lo',⟨_,_,rfl,u⟩,by simp[w],by simp[m],fun i o e=>?_,fun i g t cs e=>?_,fun i o p L G b a=>?_⟩
    ·cases i with
     | zero=>exact .inl e
     | succ i=>simpa using s i o (by simpa using e)
    ·cases i with
     | zero=>simp only[Xp,xo] at e;injection e with q1 q2 q3;subst q1 q2;exact⟨_,rfl⟩
     | succ i=>simpa using r i g t cs (by simpa using e)
    ·cases i with
     | zero =>
      simp only[Xp,xo] at b a;subst b a;exact⟨k.1,BA _⟩
     | succ i=>exact x i o p L G (by simpa using b) (by simpa using a)
  | row t sz els =>
   cases p with
   | box=>exact k.elim
   | row v l y n xs =>
    refine⟨.row t sz []::Mo,.row (.slice none 0 0) t sz 0 []::Lo',⟨_,rfl,u⟩,by simp[w],by simp[m],fun i o e=>?_,fun i g t cs e=>?_,fun i o p L G b a=>?_⟩
    ·cases i with
     | zero=>simp only[Xp,xo] at e;subst e;exact .inr ⟨_,_,rfl⟩
     | succ i=>simpa using s i o (by simpa using e)
    ·cases i with
     | zero=>simp only[Xp,xo] at e;cases e
     | succ i=>simpa using r i g t cs (by simpa using e)
    ·cases i with
     | zero =>
      simp only[Xp,xo] at b a;subst b a;exact⟨rfl,rfl,rfl,⟨XG _,none,0,rfl,fun _=>rfl⟩,by simp only[aL]⟩
     | succ i=>exact x i o p L G (by simpa using b) (by simpa using a)
theorem Nh {F F':aA}{Lin:List TO}{Li Lo:List Own}{w w':World}(q:yQ Lin=true) (y:Li.length=Lin.length) (r:cP F (inp Li) (iO Lin)) (h:St F' (inp Lo) w') (c:Step F (inp Li) w F' (inp Lo) w') (u:Lo.length=Li.length)
  (x:∀(i:Nat) g t cs,Li[i]?=some (.box g t cs)->∃cs',Lo[i]?=some (.box g t cs')) :
  ∃Mo Lo',St F' (inp Lo') w'/\Step F (inp Li) w F' (inp Lo') w'/\qP Lin Mo/\Mo.length=Lo'.length/\cP F' (inp Lo') (iO Mo)/\∀(i:Nat) g t cs,Li[i]?=some (.box g t cs)->∃cs',Lo'[i]?=some (.box g t cs'):=by
 have m:∀(i:Nat) o p,Lin[i]?=some o->Li[i]?=some p->∃L,cO F L o p:=by
  intro i o p d v;have hk:=r (1000+i);rw[ck,aT,j3 (by omega),j3 (by omega),show 1000+i-1000=i by omega,d,v] at hk;exact⟨_,hk⟩
 obtain⟨Mo,Lo',a1,s,n,a4,a5,a6⟩:=DH Lin Li Lo q y (by rw[u,y]) m x;have a:∀j o,(inp Lo').get j=some o->(inp Lo).get j=some o\/∃t sz,o=.row (.slice none 0 0) t sz 0 []:=by
  intro j o e;rw[aT] at e ⊢;split at e
  case isFalse=>cases e
  rename_i hj;rw[j3 hj];exact a4 _ o e
 refine⟨Mo,Lo',⟨h.frz,fun j o e=>?_,fun j o g e hb=>?_,fun j z o o' g e e' hb l=>?_,h.glob⟩,?_,a1,by rw[s,n],fun k=>?_,a5⟩
 ·rcases a j o e with d | ⟨t,sz,rfl⟩
  ·exact h.own j o d
  ·exact World.ownsRow_nil w' 0 t sz
 ·rcases a j o e with d | ⟨t,sz,rfl⟩
  ·exact h.off j o g d hb
  ·cases hb
 ·rcases a j o e with d | ⟨t,sz,rfl⟩
  ·rcases a z o' e' with v | ⟨t,sz,rfl⟩
   ·exact h.sep j z o o' g d v hb l
   ·cases l
  ·cases hb
 ·refine⟨c.le,c.os,c.tape,c.output,c.size,c.same,c.frz,fun b hb=>?_⟩;obtain⟨j,o,e,hb⟩:=hb;rcases a j o e with d | ⟨t,sz,rfl⟩
  ·exact c.own b ⟨j,o,d,hb⟩
  ·cases hb
 ·rw[ck,aT];split
  ·cases d:Mo[k-1000]? with
   | none =>
    have:Lo'[k-1000]?=none:=Xn (by rw[n,<-s];exact X3.1 d);rw[this];trivial
   | some o =>
    have f:k-1000<Lo'.length:=by rw[n,<-s];exact(Xe.1 d).1
    rw[x5 f];exact a6 _ o _ _ _ d (x5 f)
  ·trivial
def wG (M:TL) (τ:aU):List Nat->List Nat->Bool
 | [],[]=>true
 | k::ks,n::ns=>match τ k,M.get k with
  | .own j 0,some (.box _ cs)=>match Nat.beq j k,cU cs n with | true,true=>wG M τ ks ns | _,_=>false
  | _,_=>false
 | _,_=>false
section
variable {G:Nat->Option (Nat×TypeId)}{F:aA}{L:Loc}{ρ:Env}{M:TL}{τ:aU}
theorem BB:∀{ks ns:List Nat},wG M τ ks ns=true->TS G F L ρ M τ->∃bs:List Own,L.sub ks=some bs/\Ci bs ns/\ks.map (fun k=>conc L (ρ k))=bs.map mL/\(∀k∈ks,ρ k=.own k 0)
 | [],[],_,_=>⟨[],rfl,trivial,rfl,fun k h=>by cases h⟩
 | [],n::ns,h,_=>by cases h
 | k::ks,[],h,_=>by cases h
 | k::ks,n::ns,h,d=>by
  simp only[wG] at h;split at h
  case h_2=>cases h
  rename_i j t cs l r;split at h
  case h_2=>cases h
  rename_i c u;have c:=v8 c;subst c;obtain⟨bs,m,o,q,s⟩:=BB h d;obtain⟨g,ty,vs,e,p,b⟩:=jV d.tl r;have f:ρ j=.own j 0:=(eB (x:=.t j) d.env l).1;refine⟨.box g ty vs::bs,by simp only[Loc.sub,e,m],⟨DG b.2.2 (by rw[p.len];exact br u),o⟩,?_,?_⟩
  ·rw[Xj,Xj,q];simp only[f,conc,e,mL]
  ·intro k a;rcases Xh.1 a with rfl | a
   ·exact f
   ·exact s k a
end
theorem uX:∀{bs:List Own}{ns:List Nat},Ci bs ns->bs.length=ns.length
 | [],[],_=>rfl
 | [],_::_,h=>h.elim
 | _::_,[],h=>h.elim
 | o::bs,n::ns,h=>by simp[uX h.2]
theorem BD {hb:List (Nat×Nat)}{L L':Loc}:∀{ks ns:List Nat}{bs:List Own},L.sub ks=some bs->Ci bs ns->(∀k g t cs,k∈ks->L.get k=some (.box g t cs)->∃cs',L'.get k=some (.box g t cs'))->Qk hb L'->(∀x∈ks.zip ns,x∈hb) ->
  ∃a,L'.sub ks=some a/\Ci a ns/\a.map mL=bs.map mL
 | [],ns,bs,b,c,p,m,f=>by
  simp only[Loc.sub,xo] at b;subst b;exact⟨[],rfl,c,rfl⟩
 | k::ks,ns,bs,b,c,p,m,f=>by
  simp only[Loc.sub] at b;split at b
  case h_2=>cases b
  rename_i o l e1 e2;injection b with b
  subst b;cases ns with
  | nil=>exact c.elim
  | cons n ns =>
   obtain⟨c,h⟩:=c;cases o with
   | row=>exact c.elim
   | box g t cs =>
    obtain⟨a,r,s,v⟩:=BD e2 h (fun j g t cs y e=>p j g t cs (by simp[y]) e) m (fun x z=>f x (by simp[z]));obtain⟨cs',q⟩:=p k g t cs (by simp) e1;obtain⟨g',t',u,d,w⟩:=m k n (f _ (by simp));rw[q] at d;injection d with d
    injection d with x1 x2 x3
    subst x1 x2 x3;exact⟨.box g t cs'::a,by simp only[Loc.sub,q,r],⟨DG (JT c) w,s⟩,by simp[v,mL]⟩
theorem DI:∀{bs:List Own}{ns:List Nat}{l:List (List Value)},Ci bs ns->l.length=ns.length->(List.zipWith oV bs l).length=bs.length/\(∀(i:Nat) g t cs,bs[i]?=some (.box g t cs)->∃cs',(List.zipWith oV bs l)[i]?=some (.box g t cs')) /\
  ∀(i:Nat) cs,l[i]?=some cs->∃g t,(List.zipWith oV bs l)[i]?=some (.box g (t+1) cs)
 | [],[],l,_,h=>by
  have:l=[]:=List.length_eq_zero_iff.1 h;subst this;exact⟨rfl,fun i g t cs e=>by simp at e,fun i cs e=>by simp at e⟩
 | [],n::ns,l,h,_=>h.elim
 | o::bs,[],l,h,_=>h.elim
 | o::bs,n::ns,[],_,h=>by simp at h
 | o::bs,n::ns,c::l,⟨a,k⟩,h=>by
  obtain⟨b,f,j⟩:=DI (l:=l) k (by simpa using h);cases o with
  | row=>exact a.elim
  | box g t cs =>
   refine⟨by simp[b],fun i d m cs' e=>?_,fun i cs' e=>?_⟩
   ·cases i with
    | zero =>
     simp only[Xp,xo] at e;injection e with x1 x2 x3
     subst x1 x2;exact⟨c,rfl⟩
    | succ i=>simpa using f i d m cs' (by simpa using e)
   ·cases i with
    | zero =>
     simp only[Xp,xo] at e;subst e;cases t with
     | zero=>exact a.elim
     | succ t=>exact⟨g,t,rfl⟩
    | succ i=>simpa using j i cs' (by simpa using e)
theorem tJ {a:Act}{ρ:Env}{L:Loc}(b:aC L ρ a):∀ks:List Nat,(ks.map Operand.tmp).map a.eval=ks.map fun k=>conc L (ρ k)
 | []=>rfl
 | k::ks=>by
  simp only[Xj,tJ b ks];exact p7 (·::_) (b.eq k)
theorem Ma:∀(l:List PanicEntry),(∀e∈l,e.goexit=false)->l.dropWhile (!·.goexit)=[]
 | [],_=>rfl
 | e::l,h=>by
  rw[List.dropWhile_cons,j3 (by simp[h e (by simp)])];exact Ma l fun x a=>h x (by simp[a])
theorem zU {P:Program}{f H d r1:Nat}{fn:Func}{c0 rest:Code}{o1 o2:Oper}{A:cQ}{sc0 sc:aJ}{rs:List RV}{ks ns:List Nat}{args:List C}{Lin:List TO}{R:List TO->C->Prop}{PS:Value->Prop}{out:Value->List (List Value)}
  (hf:P.funcs[f]?=some fn) (hb:fn.body=some (.seq c0 (.seq (.region r1 #[o1,o2] false) rest))) (hname:(fn.name == "runtime.NumGoroutine")=false) (hnt:fn.ntmps=A.n)
  (ho1:o1.op=.makeFunc (.func H) #[] (ks.map Operand.tmp).toArray) (hd1:o1.dst=some d) (hg1:o1.guard=none) (ho2:o2.op=.defer {callee:=.value (.tmp d),args:=#[],argTypes:=#[]}) (hd2:o2.dst=none) (hg2:o2.guard=none)
  (hl0:low P A c0=some sc0) (hl:low P A rest=some sc) (hres:oN P fn.results.toList=some rs) (hH:oO P H PS ns out) (hd:d<A.n) (hks:bE ks=true) (hkd:(ks.all fun k=>!(fw (cE rest) k)&&!(Nat.beq k d)&&Nat.blt k 1000)=true)
  (hout:∀v,PS v->(out v).length=ns.length) (hlen:Nat.ble args.length A.n=true) (hnm:yQ Lin=true)
  (hcat:∀v,PS v->∃c x,(∀(L:Loc) (ρ:Env),(∀(i:Nat) k cs,ks[i]?=some k->(out v)[i]?=some cs->ρ k=.own k 0/\∃g t,L.get k=some (.box g (t+1) cs))->kS L ρ rs (fun vs=>gm vs=x))/\(∀F L,Rel F L c x)/\∀Mo,qP Lin Mo->R Mo c)
  (h:tu args->(∀o∈Lin,o.Wf)->eL P ⟨fun _=>False,[],none⟩ sc0 (fun _ _ _=>False) (fun _ _=>False) (fun M τ=>wG M τ ks ns=true /\
   eL P ⟨PS,ks.zip ns,none⟩ sc (fun _ _ _=>False) (fun L ρ=>pT L ρ rs fun vs=>oU Lin L (rA vs) R) (fun L ρ=>pT L ρ rs fun vs=>oU Lin L (rA vs) R) M (bw (some d) .any τ)) (iO Lin) (uG 0 args)) :
  CallsT P f args Lin R:=by
 refine⟨fun F Li vs hlL htl ha=>⟨⟨fn,hf,by rw[hb];rfl,hname⟩,gu.WH,fun w hs=>?_⟩⟩
 suffices hall:∀RR:Ending->World->Prop,(∀v F' Lo w',St F' (inp Lo) w'->Step F (inp Li) w F' (inp Lo) w'->gu Li R F' Lo v->RR (.returned v) w')->Calls P f vs.toArray w RR from
  hall _ fun v F' Lo w' h1 h2 h3=>⟨v,F',Lo,rfl,h1,h2,h3⟩
 intro RR hRR;refine calls_of_wp_defers hf hb ?_;have hwo:∀o∈Lin,o.Wf:=by
  intro o ho;obtain⟨i,hi⟩:=XB.1 ho;have:=htl (1000+i);rw[ck,aT,j3 (by omega),j3 (by omega),show 1000+i-1000=i by omega,hi] at this;cases e:Li[i]? with
  | none=>rw[e] at this;exact this.elim
  | some p=>rw[e] at this;exact cO.wf this
 have h:=h ha.wf hwo;have hla:=ha.len;have hlen:=Xq hlen;have key:∀j,∃sv,aN F (inp Li) (uG 0 args j) sv/\conc (inp Li) sv=(vs.toArray++Array.replicate (fn.ntmps-vs.toArray.size) undef).getD j undef/\(∀k off,sv=.own k off->∃g t cs,(inp Li).get k=some (.box g t cs))/\(∀ad i,sv=.el ad i->ad≠none):=by
  intro j;rw[wE];simp only[XG,XA,Nat.sub_zero,XC];cases e:args[j]? with
  | some c =>
   have hlt:j<vs.length:=by rw[hla];exact(Xe.1 e).1
   obtain⟨s1,s2,s3,s4⟩:=zR (ha.at e (x5 hlt));refine⟨_,s1,?_,s3,fun ad i e=>s4 ad i e⟩;rw[s2,Array.getElem?_append_left (by simpa using hlt)];simp[hlt]
  | none =>
   have hge:vs.length<=j:=by rw[hla];exact X3.1 e
   refine⟨.v undef,qb,?_,fun _ _ e=>(by cases e),fun _ _ e=>(by cases e)⟩;rw[Array.getElem?_append_right (by simpa using hge)];simp only[Array.getElem?_replicate,conc];split<;>rfl
 let ρ0:Env:=fun j=>(key j).choose
 have he:aC (inp Li) ρ0 {tmps:=vs.toArray++Array.replicate (fn.ntmps-vs.toArray.size) undef,defers:=[]} :=
  ⟨fun t=>(key t).choose_spec.2.1.symm,fun t k off e=>(key t).choose_spec.2.2.1 k off e,fun t ad j e=>(key t).choose_spec.2.2.2 ad j e⟩
 let G:Nat->Option (Nat×TypeId):=fun k=>match(inp Li).get k with | some (.box g t _)=>some (g,t) | _=>none
 have hG1:∀k g t cs,(inp Li).get k=some (.box g t cs)->G k=some (g,t):=fun k g t cs e=>by simp only[G,e]
 have hkp:Kp G (inp Li):=by
  intro k g t e;simp only[G] at e;split at e
  ·rename_i g' t' cs h;injection e with e
   injection e with e1 e2
   subst e1 e2;exact⟨cs,h⟩
  ·cases e
 have ht:TS G F (inp Li) ρ0 (iO Lin) (uG 0 args):=⟨htl,fun j=>(key j).choose_spec.1,hkp,hs.glob⟩;have hGd:∀k,G k≠none->1000<=k:=by
  intro k hne;simp only[G] at hne;split at hne
  ·rename_i g t cs h;rw[aT] at h;split at h
   ·assumption
   ·cases h
  ·exact v7 rfl hne
 refine wp_seq (wp_mono (oG c0 hl0 (fun k _ hne=>.inl (hGd k hne)) hs he ht (by simp[hnt];omega) h) ?_);intro e a1 w1 hq;cases e with
 | exit j=>obtain⟨F',L',ρ',_,_,_,_,_,_,M',τ',_,h⟩:=hq;exact h.elim
 | goto l=>exact hq.elim
 | outgrown=>exact hq.elim
 | ret=>obtain⟨F',L',ρ',_,_,_,_,_,_,M',τ',_,h⟩:=hq;exact h.elim
 | panic c=>obtain⟨v,hch,F',L',_,_,_,_,_,_,hp,_⟩:=hq;exact hp.elim
 | normal =>
 obtain⟨F1,L1,ρ1,hs1,he1,hn1,hd1',hst1,_,M1,τ1,ht1,hcaps,hrest⟩:=hq;obtain⟨bs,hsub,hbx,hptr,hown⟩:=BB hcaps ht1;simp only[Exit.then]
 -- the deferred function is named
 generalize hfv:Value.func (.func H) #[] (bs.map mL).toArray=fv;have hev:(ks.map Operand.tmp).toArray.map a1.eval=(bs.map mL).toArray:=by
  rw[List.map_toArray,tJ he1,hptr]
 have he2:=he1.put (L':=L1) (d:=some d) (v:=fv) (x:=.v fv) (fun k e=>by injection e with e;subst e;omega) rfl bK dh (fun k g ty cs e=>⟨cs,e⟩);have ht2:TS G F1 L1 (put (some d) (.v fv) ρ1) M1 (bw (some d) .any τ1):=ht1.put (c:=.any) (sv:=.v fv) trivial (some d);obtain⟨tm,df⟩:=a1;simp only at hd1';subst hd1';have hdt:(tm.setIfInBounds d fv).getD d undef=fv:=by
  have:d<tm.size:=by simpa[hn1] using hd
  simp[XC,this]
 refine wp_seq (wp_region ?_);generalize hd0:({target:=.fn (.func H) (bs.map mL).toArray,args:=#[]}:Deferred)=d0;have hsz:d<tm.size:=by simpa[hn1] using hd
 simp[wpOps,go_sem,ho1,hd1,hg1,ho2,hd2,hg2,Exit.then,Region.wanted,hsz,Instr.makeFunc];have hml:List.map (Act.eval {tmps:=tm,defers:=[]}∘Operand.tmp) ks=bs.map mL:=by
  rw[<-hptr,<-tJ he1,X5]
 rw[hml,hfv,hd0];refine .inl (.inl ?_)
 let G1:Nat->Option (Nat×TypeId):=fun k=>match Nat.ble 1000 k||fw ks k with | true=>(match L1.get k with | some (.box g t _)=>some (g,t) | _=>none) | false=>none
 have hGL:∀k g t cs,(1000<=k\/k∈ks)->L1.get k=some (.box g t cs)->G1 k=some (g,t):=fun k g t cs hk e=>by
  have:(Nat.ble 1000 k||fw ks k)=true:=by
   rw[XK];exact hk.imp (fun h=>by rw[Nat.ble_eq];exact h) cI.2
  simp only[G1,this,e]
 have hfz1:sI G1 ⟨PS,ks.zip ns,none⟩ (iw sc):=by
  intro k _ hne;simp only[G1] at hne;split at hne
  ·rename_i hb;rw[XK] at hb;rcases hb with hb | hb
   ·rw[Nat.ble_eq] at hb;exact .inl hb
   ·refine .inr ?_;have hl2:ks.length=ns.length:=by rw[(dX hsub).1.symm];exact uX hbx
    show fw ((ks.zip ns).map (·.1)) k=true;rw[List.map_fst_zip (by omega)];exact hb
  ·exact v7 rfl hne
 have hkp1:Kp G1 L1:=by
  intro k g t e;simp only[G1] at e;split at e
  case h_2=>cases e
  split at e
  ·rename_i g' t' cs h;injection e with e
   injection e with e1 e2
   subst e1 e2;exact⟨cs,h⟩
  ·cases e
 have hGG:∀k g t,G k=some (g,t)->G1 k=some (g,t):=fun k g t e=>let⟨cs,h⟩:=ht1.kp k g t e;hGL k g t cs (.inl (hGd k (by rw[e];simp))) h;have ht3:TS G1 F1 L1 (put (some d) (.v fv) ρ1) M1 (bw (some d) .any τ1):=⟨ht2.tl,ht2.env,hkp1,ht2.glob⟩;have he3:aC L1 (put (some d) (.v fv) ρ1) {tmps:=tm.setIfInBounds d fv,defers:=[d0]}:=⟨he2.eq,he2.own,he2.el⟩;refine wp_mono (oG rest hl hfz1 hs1 he3 ht3 (by simpa using hn1) hrest) ?_;intro e a' w' hq;have hnd:=cK hks;have hGI:∀k g t cs,(inp Li).get k=some (.box g t cs)->G1 k=some (g,t):=fun k g t cs e=>hGG k g t (hG1 k g t cs e);have back:∀(u:FrameMode) (w:World),u=.returning->Leaves P fn a'.tmps RR [] .returning w->Leaves P fn a'.tmps RR [d0] u w:=by
  rintro u w rfl hlv;rw[<-hd0];refine leaves_cons (f:=H) (args:=(bs.map mL).toArray) (by simp) (hH.inv _ w) ?_;refine(hH.idle bs w hbx).mono ?_;rintro e u' w6 ⟨rfl,rfl,rfl⟩;exact hlv
 have fin:dZ A.n F1 L1 w1 {tmps:=tm.setIfInBounds d fv,defers:=[d0]} (cE rest) (Both G1 (fun L ρ=>pT L ρ rs fun vs=>oU Lin L (rA vs) R)) a' w'->Leaves P fn a'.tmps RR a'.defers .returning w':=by
  intro hq;have hq':dZ A.n F (inp Li) w {tmps:=tm.setIfInBounds d fv,defers:=[d0]} (cE rest) (Both G1 (fun L ρ=>pT L ρ rs fun vs=>oU Lin L (rA vs) R)) a' w':=by
   obtain⟨F',L',ρ',g1,g2,g3,g4,g5,g6,g7⟩:=hq;exact⟨F',L',ρ',g1,g2,g3,g4,hst1.trans g5,g6,g7⟩
  obtain⟨k1,v,k2,F',Lo,k3,k4,k5⟩:=L9 hres hlL htl hGI hq';rw[k1];exact back _ _ rfl ⟨v,k2,hRR v F' Lo w' k3 k4 k5⟩
 cases e with
 | normal=>exact fin hq
 | ret=>exact fin hq
 | exit j=>obtain⟨F',L',ρ',_,_,_,_,_,_,M',τ',_,h⟩:=hq;exact h.elim
 | goto l=>exact hq.elim
 | outgrown=>exact hq.elim
 | panic ch =>
  obtain⟨v,⟨older,rfl,hold⟩,F',L',g1,g2,g3,g4,g5,kp,hp,hbL,_⟩:=hq;show Leaves P fn a'.tmps RR a'.defers _ w';rw[g4,<-hd0];obtain⟨bs',q1,q2,q3⟩:=BD hsub hbx (fun k g t cs hk e=>kp k g t (hGL k g t cs (.inr hk) e)) hbL (fun x hx=>hx);refine leaves_cons (f:=H) (args:=(bs.map mL).toArray) (by simp) (hH.inv _ w') ?_;rw[<-q3];refine(hH.caught F' bs' v older w' hp q2 (g1.handed q1 hnd)).mono ?_;rintro e u' w6 ⟨rfl,rfl,F6,hs6,hst6⟩;show Leaves P fn a'.tmps RR [] (settle _) w6;have hset:settle (.panicking ({v,recovered:=true}::older))=.returning:=by
   have:older.dropWhile (!·.goexit)=[]:=by
    exact Ma older hold
   simp only[settle,this]
  rw[hset];obtain⟨z1,z2,z3⟩:=DI (l:=out v) q2 (hout v hp);obtain⟨sl,sg⟩:=dX q1;have hkl:ks.length=(List.zipWith oV bs' (out v)).length:=by rw[z1,sl]
  obtain⟨c1,c2⟩:=iT g1 q1 hnd hnd (fun k hk=>.inl hk) hs6 hst6 hkl;generalize hL6:(L'.Wu ks).puts ks (List.zipWith oV bs' (out v))=L6 at c1 c2;have hget:∀(i:Nat) k cs,ks[i]?=some k->(out v)[i]?=some cs->∃g t,L6.get k=some (.box g (t+1) cs)/\(∃cs',L'.get k=some (.box g (t+1) cs')):=by
   intro i k cs e1 e2;obtain⟨g,t,e3⟩:=z3 i cs e2;refine⟨g,t,by rw[<-hL6];exact cD hnd hkl e1 e3,?_⟩;have e4:=sg i k e1;have hlt:i<bs'.length:=by rw[<-z1];exact(Xe.1 e3).1
   rw[x5 hlt] at e4;have e5:(List.zipWith oV bs' (out v))[i]?=some (oV bs'[i] cs):=by
    rw[List.getElem?_zipWith,x5 hlt,e2]
   rw[e3] at e5;injection e5 with e5
   cases hb:bs'[i] with
   | row=>rw[hb] at e5;cases e5
   | box g' t' cs' =>
    rw[hb] at e5 e4;injection e5 with x1 x2
    subst x1 x2;exact⟨cs',e4⟩
  -- the slots that name the boxes
  let ρ6:Env:=fun j=>match fw ks j with | true=>.own j 0 | false=>.v (a'.tmps.getD j undef)
  have hkd':∀k∈ks,k∉cE rest/\k≠d:=by
   intro k hk;have:=Xo.1 hkd k hk;simp only[Xf,Bool.not_eq_true'] at this;refine⟨fun hm=>?_,fun e=>?_⟩
   ·rw[cI.2 hm] at this;exact v7 this.1.1 (by simp)
   ·subst e;simp at this
  have hslot:∀k∈ks,∃g t cs,L6.get k=some (.box g t cs)/\a'.tmps.getD k undef=.pointer (some ⟨g,0,none⟩):=by
   intro k hk;obtain⟨i,hi⟩:=XB.1 hk;have hlt:i<(out v).length:=by
    have:=(Xe.1 hi).1;have hl2:ks.length=ns.length:=by rw[<-sl];exact uX q2
    rw[hout v hp];omega
   obtain⟨g,t,e1,cs',e2⟩:=hget i k _ hi (x5 hlt);refine⟨g,t+1,_,e1,?_⟩;obtain⟨y1,y2⟩:=hkd' k hk;rw[g5 k y1];have:=he3.eq k;rw[this,put_eq];simp only[];rw[vv y2,hown k hk];simp only[conc];obtain⟨g0,t0,cs0,e0⟩:=he1.own k k 0 (hown k hk);obtain⟨cs1,e3⟩:=kp k g0 t0 (hGL k g0 t0 cs0 (.inr hk) e0);rw[e2] at e3;injection e3 with e3
   injection e3 with x1 x2 _
   subst x1;rw[e0]
  have he6:aC L6 ρ6 a':=by
   refine⟨fun j=>?_,fun j k off e=>?_,fun j ad i e=>?_⟩
   ·simp only[ρ6];cases hm:fw ks j with
    | false=>rfl
    | true =>
     obtain⟨g,t,cs,e1,e2⟩:=hslot j (cI.1 hm);rw[e2];simp only[conc,e1]
   ·simp only[ρ6] at e;cases hm:fw ks j with
    | false=>rw[hm] at e;cases e
    | true =>
     rw[hm] at e;injection e with x1 x2
     subst x1;obtain⟨g,t,cs,e1,_⟩:=hslot j (cI.1 hm);exact⟨g,t,cs,e1⟩
   ·simp only[ρ6] at e;cases hm:fw ks j<;>rw[hm] at e<;>cases e
  obtain⟨c,x,hrv,hrel,hlost⟩:=hcat v hp;obtain⟨us,h5,h6⟩:=uq (K:=fun vs=>gm vs=x) c1 he6 hres (hrv L6 ρ6 fun i k cs e1 e2=>by
   obtain⟨g,t,e3,_⟩:=hget i k cs e1 e2;refine⟨?_,g,t,e3⟩;simp only[ρ6,cI.2 (Xi e1)])
  have hst:Step F (inp Li) w F6 L6 w6:=(hst1.trans g2).trans c2;obtain⟨Lo,p1,p2,p3,p4⟩:=wF c1 hst (fun i g t cs e=>by
   have e0:(inp Li).get (1000+i)=some (.box g t cs):=by rw[aT,j3 (by omega),show 1000+i-1000=i by omega];exact e
   obtain⟨cs1,e1⟩:=kp (1000+i) g t (hGI _ g t cs e0);refine⟨cs1,?_⟩;rw[<-hL6];have hni:1000+i∉ks:=by
    intro hm;have:=Xo.1 hkd _ hm;simp only[Xf] at this;have:=this.2;rw[Nat.blt_eq] at this;omega
   rcases cZ ks (List.zipWith oV bs' (out v)) (L'.Wu ks) (1000+i) hnd hkl with⟨q1,q2⟩ | ⟨i',q1,q2,q3⟩
   ·rw[q1,fj,vv hni];exact e1
   ·exact v7 (Xi q1) hni)
  obtain⟨Mo,Lo',l1,l2,l3,l4,l5,l6⟩:=Nh hnm hlL htl p1 p2 p3 p4;refine⟨_,h5,hRR _ F6 Lo' w6 l1 l2 ⟨Mo,c,l4,l5,?_,l6,hlost Mo l3⟩⟩;rw[h6];exact hrel _ _
def tmpsOf:List Operand->Option (List Nat)
 | []=>some []
 | .tmp k::l=>match tmpsOf l with | some ks=>some (k::ks) | none=>none
 | _::_=>none
theorem yR:∀{l:List Operand}{ks:List Nat},tmpsOf l=some ks->l=ks.map Operand.tmp
 | [],ks,h=>by simp only[tmpsOf,xo] at h;subst h;rfl
 | o::l,ks,h=>by
  cases o<;>simp only[tmpsOf,reduceCtorEq] at h;split at h
  case h_2=>cases h
  rename_i a e;injection h with h
  subst h;rw[yR e];rfl
def zW (op:Op) (d:Nat):Bool :=
 match op with
 | .defer c=>match c.callee,c.args.toList,c.argTypes.toList with
  | .value (.tmp a),[],[]=>Nat.beq d a
  | _,_,_=>false
 | _=>false
theorem CQ {op:Op}{d:Nat}(h:zW op d=true):op=.defer {callee:=.value (.tmp d),args:=#[],argTypes:=#[]}:=by
 unfold zW at h;split at h
 case h_2=>cases h
 rename_i c;split at h
 case h_2=>cases h
 rename_i m b f e;have:=v8 h;subst this;obtain⟨ca,j,a⟩:=c;simp only at b f e;subst b;have l:j=#[]:=by apply Array.ext';exact f
 have k:a=#[]:=by apply Array.ext';exact e
 rw[l,k]
def CR (P:Program) (A:cQ) (fn:Func):Option (aJ×aJ×Nat×List Nat×Nat×List RV) :=
 match fn.body with
 | some (.seq c0 (.seq (.region _ ⟨[o1,o2]⟩ false) rest))=>match o1.op,o1.dst,o1.guard with
  | .makeFunc (.func H) ⟨[]⟩ ca,some d,none=>match zW o2.op d,o2.dst,o2.guard,tmpsOf ca.toList with
   | true,none,none,some ks=>match low P A c0,low P A rest,oN P fn.results.toList with
    | some sc0,some sc,some rs=>match fn.name == "runtime.NumGoroutine",Nat.beq fn.ntmps A.n&&Nat.blt d A.n&&bE ks,ks.all fun k=>!(fw (cE rest) k)&&!(Nat.beq k d)&&Nat.blt k 1000 with
     | false,true,true=>some (sc0,sc,H,ks,d,rs)
     | _,_,_=>none
    | _,_,_=>none
   | _,_,_,_=>none
  | _,_,_=>none
 | _=>none
theorem gA {P:Program}{f H d:Nat}{fn:Func}{A:cQ}{p sc:aJ}{rs:List RV}{ks ns:List Nat}{args:List C}{Lin:List TO}{R:List TO->C->Prop}{PS:Value->Prop}{out:Value->List (List Value)}
  (hf:P.funcs[f]?=some fn) (a:CR P A fn=some (p,sc,H,ks,d,rs)) (hH:oO P H PS ns out)
  (j:∀v,PS v->(out v).length=ns.length) (m:Nat.ble args.length A.n=true) (w:yQ Lin=true)
  (e:∀v,PS v->∃c x,(∀(L:Loc) (ρ:Env),(∀(i:Nat) k cs,ks[i]?=some k->(out v)[i]?=some cs->ρ k=.own k 0/\∃g t,L.get k=some (.box g (t+1) cs))->kS L ρ rs (fun vs=>gm vs=x))/\(∀F L,Rel F L c x)/\∀Mo,qP Lin Mo->R Mo c)
  (h:tu args->(∀o∈Lin,o.Wf)->eL P ⟨fun _=>False,[],none⟩ p (fun _ _ _=>False) (fun _ _=>False) (fun M τ=>wG M τ ks ns=true /\
   eL P ⟨PS,ks.zip ns,none⟩ sc (fun _ _ _=>False) (fun L ρ=>pT L ρ rs fun vs=>oU Lin L (rA vs) R) (fun L ρ=>pT L ρ rs fun vs=>oU Lin L (rA vs) R) M (bw (some d) .any τ)) (iO Lin) (uG 0 args)) :
  CallsT P f args Lin R:=by
 unfold CR at a;split at a
 case h_2=>cases a
 rename_i c0 r o1 o2 ab hb;split at a
 case h_2=>cases a
 rename_i H' ca d' e1 e2 e3;split at a
 case h_2=>cases a
 rename_i u e4 e5 e6 e7;split at a
 case h_2=>cases a
 rename_i ad ap al e8 e9 y;split at a
 case h_2=>cases a
 rename_i s b z;simp only[xo,Prod.mk.injEq] at a;obtain⟨rfl,rfl,rfl,rfl,rfl,rfl⟩:=a;simp only[Xf] at b;obtain⟨⟨b,l⟩,aa⟩:=b;have q:ca=(u.map Operand.tmp).toArray:=by
  have:=yR e7;rw[<-this]
 rw[q] at e1;rw[Nat.blt_eq] at l;exact zU hf hb s (v8 b) e1 e2 e3 (CQ e4) e5 e6 e8 e9 y hH l aa z j m w e h
end Go.Fr.T
namespace Go.Fr
open Go Go.RowKit
section
variable {P:Program}{Q:Exit->Act->World->Prop}{K:cF}
theorem noPan {n:Nat}{F:aA}{L:Loc}{w:World}{a:Act}{asg:List Nat}{E:Nat->cF}{R N:cF}{c} {b:Act}{w':World}(h:QQ n F L w a asg (fun _ _ _=>False) E R N (.panic c) b w'):False:=by
 obtain⟨v,_,F',L',_,_,_,_,_,h⟩:=h;exact h
theorem m6 {A:cQ}{r:Nat}{c:Array Oper}:∀(is:List Nat) {ss:List ak}{F:aA}{L:Loc}{ρ:Env}{a:Act}{w:World},pE P A r c is=some ss->St F L w->aC L ρ a->a.tmps.size=A.n ->
  aV P ss F L ρ K->(∀a' w',dZ A.n F L w a (dstsOf c is) K a' w'->Q .normal a' w')->wpOps P c Q is a w:=by
 intro is
 induction is with
 | nil =>
  intro ss F L ρ a w hl hs he hn l hQ;simp only[pE,xo] at hl;subst hl;exact hQ a w ⟨F,L,ρ,hs,he,hn,rfl,Step.refl _ _ _,fun _ _=>rfl,l⟩
 | cons i is ih =>
  intro ss F L ρ a w hl hs he hn l hQ;simp only[pE] at hl;split at hl
  case h_1=>cases hl
  rename_i o hi;split at hl
  case h_2=>cases hl
  rename_i g s u hg bm ap ac;injection hl with hl
  subst hl
  -- the q
  have q:∀(ks:List Nat) {F:aA}{L:Loc}{ρ:Env},St F L w->aC L ρ a->aV P (ks.map ak.frz++mY (tY A.pan r i) o.dst s g::u) F L ρ K ->
    ∃F' L' ρ',St F' L' w/\aC L' ρ' a/\Step F L w F' L' w/\aV P (mY (tY A.pan r i) o.dst s g::u) F' L' ρ' K:=by
   intro ks
   induction ks with
   | nil=>intro F L ρ hs he h;exact⟨F,L,ρ,hs,he,Step.refl _ _ _,h⟩
   | cons k ks be =>
    intro F L ρ hs he h;simp only[Xj,Xu,aV] at h;split at h
    ·rename_i g' t' cs' hk;obtain⟨F1,bk,bz,z,t,m⟩:=q9 hs he hk;obtain⟨F2,L2,av,az,ax,am,h2⟩:=be z t (h F1 bk bz);exact⟨F2,L2,av,az,ax,m.trans am,h2⟩
    ·obtain⟨F1,L1,z,t,m,h1⟩:=nE hs he h;obtain⟨F2,L2,av,az,ax,am,h2⟩:=be z t h1;exact⟨F2,L2,av,az,ax,m.trans am,h2⟩
  obtain⟨F1,L1,bc,z,t,m,l⟩:=q _ hs he l
  clear q
  have bl:tY A.pan r i=false:=by
   cases hb:tY A.pan r i with
   | false=>rfl
   | true=>rw[hb] at l;simp only[mY,aV] at l
  rw[bl] at l;simp only[mY] at l
  clear he
  have he:=t;have hd:∀k,o.dst=some k->k<a.tmps.size:=by
   intro k hk;rw[hk] at ap;rw[hn];have h2:Nat.blt k A.n=true:=ap;simpa using h2
  have ay:dstsOf c (i::is)=match o.dst with | some d=>d::dstsOf c is | none=>dstsOf c is:=by
   simp only[dstsOf,hi,Option.bind_some];cases o.dst<;>rfl
  have ab:∀j,j∉dstsOf c (i::is)->o.dst≠some j/\j∉dstsOf c is:=by
   intro j hj;rw[ay] at hj;cases ho:o.dst with
   | none=>rw[ho] at hj;exact⟨by simp,hj⟩
   | some d =>
    rw[ho] at hj;simp only[Xh,not_or] at hj;exact⟨by simp;exact fun e=>hj.1 e.symm,hj.2⟩
  have ae:evalOp P s o.dst F1 L1 bc (fun F' L' ρ'=>aV P u F' L' ρ' K)->o.wp P a w (wpOps P c Q is) Q:=by
   intro l;have:=eG (Q:=Q) z t hd bm l;refine Oper.wp_mono ?_ (pF (asg:=[]) this);rintro a' w' ⟨⟨F',L',ρ',g1,g2,g3,g4,g5,g6⟩,bj⟩;refine ih ac g1 g2 (by rw[g3,hn]) g6 ?_;rintro aw aE ⟨F'',L'',ad,k1,k2,k3,k4,k5,k6,k7⟩;refine hQ aw aE ⟨F'',L'',ad,k1,k2,k3,k4.trans g4,(m.trans g5).trans k5,fun j hj=>?_,k7⟩;obtain⟨n1,n2⟩:=ab j hj;rw[k6 j n2,bj j n1]
  have skip:aV P u F1 L1 (put o.dst (.v undef) bc) K->wpOps P c Q is (a.put o.dst undef) w:=by
   intro l;refine ih ac z (t.put hd (v:=undef) (x:=.v undef) rfl bK dh (qp L1)) (by rw[kh,hn]) l ?_;rintro aw aE ⟨F'',L'',ad,k1,k2,k3,k4,k5,k6,k7⟩;refine hQ aw aE ⟨F'',L'',ad,k1,k2,k3,k4.trans (gq _ _ _),m.trans k5,fun j hj=>?_,k7⟩;obtain⟨n1,n2⟩:=ab j hj;rw[k6 j n2,jO n1]
  simp only[wpOps,hi];cases al:o.guard with
  | none =>
   rw[al] at hg;simp only[gS,xo] at hg;subst hg;simp only[aV] at l;rw[j3 (by simp[Region.wanted,al])];exact .inl (ae l)
  | some p =>
   obtain⟨j,y⟩:=p;rw[al] at hg;simp only[gS] at hg;split at hg
   case h_2=>cases hg
   rename_i d ba;injection hg with hg
   subst hg;simp only[aV] at l;split at l
   ·rename_i b hb;have f:=t.eq d;rw[hb] at f;have hy:yielded c a.tmps j=some b:=by
     simp only[yielded,ba,Option.bind_some,qq f]
    have hw:Region.wanted o (yielded c a.tmps)=(b == y):=by
     simp only[Region.wanted,al,hy];cases b<;>cases y<;>rfl
    rw[hw];cases b<;>simp only[vo] at l
    ·rw[ku hb] at l;cases y
     ·exact .inl (ae l)
     ·exact skip l
    ·rw[ku hb] at l;cases y
     ·exact skip l
     ·exact .inl (ae l)
   ·rename_i vs hb;have f:=t.eq d;rw[hb] at f;have hy:yielded c a.tmps j=none:=by
     simp only[yielded,ba,Option.bind_some];rw[XC] at f;cases e:a.tmps[d]? with
     | none=>rfl
     | some v=>rw[e] at f;simp only[Option.getD_some,conc] at f;rw[f]
    have hw:Region.wanted o (yielded c a.tmps)=false:=by
     simp only[Region.wanted,al,hy];rfl
    rw[hw];exact skip l
   ·exact l.elim
theorem sJ {a:Act}{w:World}{d:List ak}{K:cF}:∀(ks:List Nat) {F:aA}{L:Loc}{ρ:Env},St F L w->aC L ρ a->aV P (ks.map ak.frz++d) F L ρ K ->
  ∃F' L' ρ',St F' L' w/\aC L' ρ' a/\Step F L w F' L' w/\aV P d F' L' ρ' K:=by
 intro ks
 induction ks with
 | nil=>intro F L ρ p o h;exact⟨F,L,ρ,p,o,Step.refl _ _ _,h⟩
 | cons k ks n =>
  intro F L ρ p o h;simp only[Xj,Xu,aV] at h;split at h
  ·rename_i v x cs' u;obtain⟨F1,r,s,m,f,c⟩:=q9 p o u;obtain⟨F2,L2,l,e,j,b,q⟩:=n m f (h F1 r s);exact⟨F2,L2,l,e,j,c.trans b,q⟩
  ·obtain⟨F1,L1,m,f,c,t⟩:=nE p o h;obtain⟨F2,L2,l,e,j,b,q⟩:=n m f t;exact⟨F2,L2,l,e,j,c.trans b,q⟩
theorem CS {ss:List ak}{E:Nat->cF}{R N:cF}{F:aA}{L:Loc}{ρ:Env}{a:Act}{w:World}:∀(ks:List Nat),St F L w->aC L ρ a->jM P (xK ks (.regD ss)) E R N F L ρ ->
  ∃F' L' ρ',St F' L' w/\aC L' ρ' a/\Step F L w F' L' w/\aV P ss F' L' ρ' N
 | [],c,b,h=>⟨F,L,ρ,c,b,Step.refl _ _ _,by simpa only[xK,jM] using h⟩
 | k::l,c,b,h=>by
  simp only[xK,jM] at h;have m:aV P ((k::l).map ak.frz++[]) F L ρ (fun F L ρ=>aV P ss F L ρ N):=by simpa only[Xj,Xz] using h
  obtain⟨F1,L1,d,f,j,n,e⟩:=sJ (k::l) c b m;simp only[aV] at e;exact⟨F1,L1,d,f,j,n,e⟩
theorem BF {A:cQ}:∀(c:Code) {sc:aJ},low P A c=some sc->∀{E:Nat->cF}{R N:cF}{F:aA}{L:Loc}{ρ:Env}{a:Act}{w:World},St F L w->aC L ρ a->a.tmps.size=A.n ->
  jM P sc E R N F L ρ->c.wp P (QQ A.n F L w a (cE c) (fun _ _ _=>False) E R N) a w:=by
 intro c
 induction c with
 | skip =>
  intro sc b E R N F L ρ a w s o q m;simp only[low,xo] at b;subst b;exact wp_skip ⟨F,L,ρ,s,o,q,rfl,Step.refl _ _ _,fun _ _=>rfl,m⟩
 | label l =>
  intro sc b E R N F L ρ a w s o q m;simp only[low,xo] at b;subst b;exact wp_label ⟨F,L,ρ,s,o,q,rfl,Step.refl _ _ _,fun _ _=>rfl,m⟩
 | exit id =>
  intro sc b E R N F L ρ a w s o q m;simp only[low,xo] at b;subst b;exact wp_exit ⟨F,L,ρ,s,o,q,rfl,Step.refl _ _ _,fun _ _=>rfl,m⟩
 | ret =>
  intro sc b E R N F L ρ a w s o q m;simp only[low,xo] at b;subst b;exact wp_ret ⟨F,L,ρ,s,o,q,rfl,Step.refl _ _ _,fun _ _=>rfl,m⟩
 | region r dg bc =>
  intro sc b E R N F L ρ a w s o q m;cases bc with
  | false =>
   simp only[low] at b;split at b
   case h_2=>cases b
   rename_i ss ca;injection b with b;subst b
   simp only[jM] at m;exact wp_region (m6 _ ca s o q m fun a' w' h=>h)
  | true =>
   simp only[low] at b;split at b
   case h_2=>cases b
   rename_i is cl ss h1 z;split at b
   case h_2 =>
    split at b
    case h_2=>cases b
    injection b with b;subst b
    simp only[jM] at m
   rename_i h0;split at b
   case h_2=>cases b
   rename_i h3;injection b with b;subst b
   obtain⟨F1,L1,ab,ay,ax,aa,m⟩:=CS _ s o m;have h4:rX A.ord r=is:=by simp only[rX,h1]
   rw[h4] at z;exact rp z h3 ay ax q m fun a' w' h=>dZ.after (asg1:=[]) aa rfl (fun _ _=>rfl) h (fun _ h=>v7 h List.not_mem_nil) (fun _ h=>h)
 | seq x y al an =>
  intro sc b E R N F L ρ a w s o q m;simp only[low] at b;split at b
  case h_2=>cases b
  rename_i h1 z;injection b with b;subst b
  simp only[jM] at m;refine wp_seq (wp_mono (al h1 s o q m) ?_);intro e p w1 d;cases e with
  | normal =>
   obtain⟨F1,L1,ab,g1,g2,g3,g4,g5,g6,g7⟩:=d;refine wp_mono (an z g1 g2 g3 g7) ?_;intro e2 a2 w2 av;cases e2<;>first
    | exact dZ.after g5 g4 g6 av (fun j h=>yo.2 (.inl h)) (fun j h=>yo.2 (.inr h))
    | exact av
    | exact(noPan av).elim
  | exit id=>exact d.mono fun j h=>yo.2 (.inl h)
  | ret=>exact d.mono fun j h=>yo.2 (.inl h)
  | goto l=>exact d
  | panic c=>exact(noPan d).elim
  | outgrown=>exact d
 | cond c x y al an =>
  intro sc b E R N F L ρ a w s o q m;simp only[low] at b;split at b
  case h_2=>cases b
  rename_i h0 h1 z;injection b with b;subst b
  simp only[jM] at m;split at m
  case h_2=>exact m.elim
  rename_i t ht;have hc:a.eval c=.bool t:=by rw[aF h0 o,bB ht]
  refine wp_cond hc ?_;cases t
  ·simp only[vo] at m;refine wp_mono (an z s o q m) ?_;intro e p w1 d;cases e<;>first
    | exact d.mono fun j h=>yo.2 (.inr h)
    | exact(noPan d).elim
    | exact d
  ·simp only[vo] at m;refine wp_mono (al h1 s o q m) ?_;intro e p w1 d;cases e<;>first
    | exact d.mono fun j h=>yo.2 (.inl h)
    | exact(noPan d).elim
    | exact d
 | block id x ih =>
  intro sc b E R N F L ρ a w s o q m;simp only[low] at b;split at b
  case h_2=>cases b
  rename_i h1;injection b with b;subst b
  simp only[jM] at m;refine wp_block (wp_mono (ih h1 s o q m) ?_);intro e p w1 d;cases e with
  | exit j =>
   simp only[Exit.inBlock];simp only[QQ] at d
   by_cases hj:j=id
   ·subst hj;have hb:Nat.beq j j=true:=by simp
    rw[hb] at d;rw[j3 rfl];exact d
   ·have hb:Nat.beq j id=false:=by
     cases h:Nat.beq j id with
     | true=>exact v7 (v8 h) hj
     | false=>rfl
    rw[hb] at d;rw[vv hj];exact d
  | normal=>exact d
  | ret=>exact d
  | goto l=>exact d
  | panic c=>exact(noPan d).elim
  | outgrown=>exact d
 | loop x ih =>
  intro sc b E R N F L ρ a w s o q m;simp only[low] at b;split at b
  case h_2=>cases b
  rename_i sx h1;injection b with b;subst b
  simp only[jM] at m;obtain⟨σ,x0,Inv,ls,lv,Lf,μ,i0,i1,i2,i3,i4⟩:=m
  -- the frame at a loop's ac
  have ac:∀(y:σ) (F1:aA) (L1:Loc) (ab:Env) (p:Act) (w1:World),(∀t,p.tmps.getD t undef=conc L1 (ab t))->(∀j,j∉cE x->p.tmps.getD j undef=a.tmps.getD j undef)->holds ls ((lv y).map .v) ab ->
    aC (Lf y) (puts ls ((lv y).map .v) (gF (cE x) (fun j=>p.tmps.getD j undef) ρ)) p:=by
   intro y F1 L1 ab p w1 ce bm hh;have be:∀j k off,gF (cE x) (fun j=>p.tmps.getD j undef) ρ j=.own k off->j∉cE x/\ρ j=.own k off:=by
    intro j k off e;simp only[gF] at e;split at e
    ·cases e
    ·rename_i hm;exact⟨fun h=>(by rw[cI.2 h] at hm;cases hm),e⟩
   have bz:∀j ad i,gF (cE x) (fun j=>p.tmps.getD j undef) ρ j=.el ad i->ρ j=.el ad i:=by
    intro j ad i e;simp only[gF] at e;split at e
    ·cases e
    ·exact e
   refine⟨fun j=>?_,fun j k off e=>?_,fun j ad i e=>?_⟩
   ·rcases ri ls (lv y) ab (gF (cE x) (fun j=>p.tmps.getD j undef) ρ) ce hh j with⟨v,z,h3⟩ | z
    ·rw[z,h3];rfl
    ·rw[z];simp only[gF];split
     ·rfl
     ·rename_i hm;have hj:j∉cE x:=fun h=>by rw[cI.2 h] at hm;cases hm
      rw[bm j hj,o.eq j];cases e:ρ j with
      | v u=>rfl
      | el u i=>rfl
      | own k off =>
       obtain⟨g,ty,cs,hg⟩:=o.own j k off e;obtain⟨cs',aw⟩:=lJ (i3 y) hg;simp only[conc,hg,aw]
   ·rcases jl ls (lv y) (gF (cE x) (fun j=>p.tmps.getD j undef) ρ) j with z | ⟨v,z⟩
    ·rw[z] at e;obtain⟨_,e'⟩:=be j k off e;obtain⟨g,ty,cs,hg⟩:=o.own j k off e';obtain⟨cs',aw⟩:=lJ (i3 y) hg;exact⟨g,ty,cs',aw⟩
    ·rw[z] at e;cases e
   ·rcases jl ls (lv y) (gF (cE x) (fun j=>p.tmps.getD j undef) ρ) j with z | ⟨v,z⟩
    ·rw[z] at e;exact o.el j ad i (bz j ad i e)
    ·rw[z] at e;cases e
  refine sZ (fun n p w1=>∃(y:σ) (F1:aA),n=μ y/\F.le F1/\Inv y F1/\St F1 (Lf y) w1/\p.tmps.size=A.n/\p.defers=a.defers/\Step F L w F1 (Lf y) w1/\(∀j,j∉cE x->p.tmps.getD j undef=a.tmps.getD j undef) /\
   aC (Lf y) (puts ls ((lv y).map .v) (gF (cE x) (fun j=>p.tmps.getD j undef) ρ)) p) ?_ ?_
  ·exact⟨_,x0,F,rfl,aA.le_refl F,i0,s.gives i2,q,rfl,rf i2,fun _ _=>rfl,ac x0 F L ρ a w o.eq (fun _ _=>rfl) i1⟩
  ·rintro n p w1 ⟨y,F1,rfl,bb,bj,ay,cb,ar,aa,ae,ax⟩;refine wp_mono (ih h1 ay ax cb (i4 y F1 _ bb bj)) ?_;intro e a2 w2 d;cases e with
   | normal =>
    obtain⟨F2,L2,bo,g1,g2,g3,g4,g5,g6,⟨y',k1,k2,k3,k4⟩⟩:=d;have ap:∀j,j∉cE x->a2.tmps.getD j undef=a.tmps.getD j undef:=fun j hj=>by rw[g6 j hj,ae j hj]
    exact⟨μ y',k4,y',F2,rfl,aA.le_trans bb g5.le,k1,g1.gives k3,g3,g4.trans ar,(aa.trans g5).trans (rf k3),ap,ac y' F2 L2 bo a2 w2 g2.eq ap k2⟩
   | exit j=>exact dZ.after aa ar ae d (fun j h=>h) (fun j h=>h)
   | ret=>exact dZ.after aa ar ae d (fun j h=>h) (fun j h=>h)
   | goto l=>exact d
   | panic c=>exact(noPan d).elim
   | outgrown=>exact d
 | rangeFunc f ps x y al an=>intro sc b;simp only[low] at b;cases b
 | scope x ih =>
  intro sc b E R N F L ρ a w s o q m;simp only[low] at b;refine wp_scope_straight (wp_mono (ih b s o q m) ?_);intro e p w1 d;cases e<;>exact d
 | goto l=>intro sc b;simp only[low] at b;cases b
 | refuse cM=>intro sc b;simp only[low] at b;cases b
end
end Go.Fr
namespace Go.Fr.T
open Go Go.RowKit Go.Fr
theorem Hs:∀{bs:List Own}{ns:List Nat}{i:Nat}{o:Own},Ci bs ns->bs[i]?=some o->∃g t cs,o=.box g t cs
 | [],ns,i,o,h,e=>by simp at e
 | b::bs,[],i,o,h,e=>h.elim
 | b::bs,n::ns,i,o,h,e=>by
  cases i with
  | zero =>
   simp only[Xp,xo] at e;subst e;cases b with
   | row=>exact h.1.elim
   | box g t cs=>exact⟨g,t,cs,rfl⟩
  | succ i=>exact Hs h.2 (by simpa using e)
def Fc (n:Nat):Env:=fun j=>match Nat.blt j n with | true=>.own (1000+j) 0 | false=>.v undef
theorem JU {bs:List Own}{ns:List Nat}{m:Nat}(h:Ci bs ns):aC (inp bs) (Fc bs.length) {tmps:=(bs.map mL).toArray++Array.replicate m undef,defers:=[]}:=by
 have c:∀j,j<bs.length->∃g t cs,bs[j]?=some (.box g t cs):=fun j d=>by
  obtain⟨g,t,cs,e⟩:=Hs h (x5 d);exact⟨g,t,cs,by rw[x5 d,e]⟩
 have hi:∀j,(inp bs).get (1000+j)=bs[j]?:=fun j=>by rw[aT,j3 (by omega),show 1000+j-1000=j by omega]
 refine⟨fun j=>?_,fun j k off e=>?_,fun j f i e=>?_⟩
 ·simp only[Fc,XC];cases hb:Nat.blt j bs.length with
  | true =>
   have a:j<bs.length:=by simpa using hb
   obtain⟨g,t,cs,e⟩:=c j a;rw[Array.getElem?_append_left (by simpa using a)];simp only[conc,hi,e,List.getElem?_toArray,XR,X4,Option.getD_some,mL]
  | false =>
   have b:¬j<bs.length:=fun h=>by rw[(Nat.blt_eq ..).mpr h] at hb;cases hb
   rw[Array.getElem?_append_right (by simpa using b)];simp only[Array.getElem?_replicate,conc];split<;>rfl
 ·simp only[Fc] at e;split at e
  ·rename_i hb;have a:j<bs.length:=by simpa using hb
   injection e with e1 e2
   subst e1;obtain⟨g,t,cs,e⟩:=c j a;exact⟨g,t,cs,by rw[hi,e]⟩
  ·cases e
 ·simp only[Fc] at e;split at e<;>cases e
def Mb:Op->Bool
 | .call {callee:=.builtin .recover,args:=⟨[]⟩,argTypes:=⟨[]⟩}=>true
 | _=>false
theorem Fe {P:Program}{H d d2 r0:Nat}{fn:Func}{o o2:Oper}{rest:Code}{A:cQ}{sc:aJ}{PS:Value->Prop}{ns:List Nat}{out:Value->List (List Value)}
  (hf:P.funcs[H]?=some fn) (hb:fn.body=some (.seq (.region r0 #[o,o2] false) rest)) (hname:(fn.name == "runtime.NumGoroutine")=false) (ho:o.op=.call {callee:=.builtin .recover,args:=#[],argTypes:=#[]}) (hd:o.dst=some d) (hg:o.guard=none) (ho2:o2.op=.assign (.tmp d)) (hd2:o2.dst=some d2) (hg2:o2.guard=none) (hdn2:d2<A.n)
  (hnt:fn.ntmps=A.n) (hres:fn.results=#[]) (hl:low P A rest=some sc) (hdn:d<A.n) (hns:ns.length<=A.n)
  (hidle:∀(bs:List Own) (w:World),Ci bs ns->CallsD P H (bs.map mL).toArray .returning w fun e u' w'=>e=.returned (.tuple #[])/\u'=.returning/\w'=w)
  (hcat:∀(F:aA) (bs:List Own) (v:Value),PS v->Ci bs ns->jM P sc (fun _ _ _ _=>False) (fun _ L' _=>L'.sub (List.range' 1000 bs.length)=some (List.zipWith oV bs (out v))) (fun _ L' _=>L'.sub (List.range' 1000 bs.length)=some (List.zipWith oV bs (out v))) F (inp bs) (put (some d2) (.v v) (put (some d) (.v v) (Fc bs.length)))) :
  oO P H PS ns out:=by
 refine⟨fun cap w=>?_,hidle,fun F bs v older w hv hbx hs=>?_⟩
 ·simp[invoke];rw[jh ⟨fn,hf,by rw[hb];rfl,hname⟩]
 refine callsD_of_wpS hf hb fun c₀ cs hu=>?_;have hlen:=uX hbx;have he0:=JU (m:=fn.ntmps-(bs.map mL).toArray.size) hbx;generalize htm:(bs.map mL).toArray++Array.replicate (fn.ntmps-(bs.map mL).toArray.size) undef=tm at he0 ⊢;have hsz:tm.size=A.n:=by
  rw[<-htm,<-hnt];simp;omega
 refine wpS_seq (wpS_region ?_);simp[wpOpsS,go_sem,recoverD,hu,ho,hd,hg,ho2,hd2,hg2,Region.wanted,Exit.thenS,hsz,hdn,Act.eval];have he1:=he0.put (L':=inp bs) (d:=some d) (v:=v) (x:=.v v) (fun k e=>by injection e with e;subst e;simpa[hsz] using hdn) rfl bK dh (fun k g ty cs e=>⟨cs,e⟩);have he2:=he1.put (L':=inp bs) (d:=some d2) (v:=v) (x:=.v v) (fun k e=>by injection e with e;subst e;simp[Act.put,hsz];exact hdn2) rfl bK dh (fun k g ty cs e=>⟨cs,e⟩);refine wpS_of_wp (wp_mono (BF rest hl hs ⟨he2.eq,he2.own,he2.el⟩ (by simpa using hsz) (hcat F bs v hv hbx)) ?_);have fin:∀(a':Act) (w':World),dZ A.n F (inp bs) w {tmps:=(tm.setIfInBounds d v).setIfInBounds d2 v,defers:=[]} (cE rest) (fun _ L' _=>L'.sub (List.range' 1000 bs.length)=some (List.zipWith oV bs (out v))) a' w' ->
   a'.defers=[]/\∃u',({c₀ with mode:=FrameMode.panicking ({v,recovered:=true}::older)}::cs:List Frame)={c₀ with mode:=u'}::cs/\∃x,(results fn a'.tmps).run P w'=.ok x w' /\
    ((Ending.returned x=.returned (.tuple #[])/\u'=.panicking ({v,recovered:=true}::older))/\∃F',St F' (inp (List.zipWith oV bs (out v))) w'/\Step F (inp bs) w F' (inp (List.zipWith oV bs (out v))) w'):=by
  rintro a' w' ⟨F',L',ρ',g1,g2,g3,g4,g5,g6,k1⟩;obtain⟨e1,e2⟩:=dX k1;refine⟨g4,_,rfl,.tuple #[],by simp[results,hres],⟨rfl,rfl⟩,F',g1.handed k1 List.nodup_range',?_⟩;refine⟨g5.le,g5.os,g5.tape,g5.output,g5.size,g5.same,g5.frz,fun b hb=>g5.own b ?_⟩;obtain⟨j,p,e,hb⟩:=hb;rw[aT] at e;split at e
  case isFalse=>cases e
  have hlt:j-1000<(List.zipWith oV bs (out v)).length:=(Xe.1 e).1;have hk:(List.range' 1000 bs.length)[j-1000]?=some ((List.range' 1000 bs.length)[j-1000]'(by omega)):=x5 (by omega);exact⟨_,p,by rw[e2 _ _ hk];exact e,hb⟩
 intro e a' w' hq;cases e with
 | normal =>
  obtain⟨k1,u',k2,x,k3,⟨k4,k5⟩,k6⟩:=fin a' w' hq;exact⟨k1,u',k2,x,k3,k4,k5,k6⟩
 | ret =>
  obtain⟨k1,u',k2,x,k3,⟨k4,k5⟩,k6⟩:=fin a' w' hq;exact⟨k1,u',k2,x,k3,k4,k5,k6⟩
 | exit j=>obtain⟨F',L',ρ',_,_,_,_,_,_,h⟩:=hq;exact h.elim
 | goto l=>exact hq.elim
 | outgrown=>exact hq.elim
 | panic ch=>obtain⟨v,hch,hp⟩:=hq;obtain⟨F',L',_,_,_,_,_,hp⟩:=hp;exact hp.elim
def zX (P:Program) (A:cQ) (fn:Func):Option (aJ×Nat×Nat) :=
 match fn.body with
 | some (.seq (.region _ ⟨[o,o2]⟩ false) rest)=>match Mb o.op,o.dst,o.guard,low P A rest,fn.results with
  | true,some d,none,some sc,⟨[]⟩=>match o2.op,o2.dst,o2.guard with
   | .assign (.tmp d'),some d2,none=>match fn.name == "runtime.NumGoroutine",Nat.beq fn.ntmps A.n&&Nat.blt d A.n&&Nat.beq d d'&&Nat.blt d2 A.n with
    | false,true=>some (sc,d,d2)
    | _,_=>none
   | _,_,_=>none
  | _,_,_,_,_=>none
 | _=>none
theorem zY {P:Program}{H d l:Nat}{fn:Func}{A:cQ}{sc:aJ}{PS:Value->Prop}{ns:List Nat}{out:Value->List (List Value)}(s:P.funcs[H]?=some fn) (a:zX P A fn=some (sc,d,l)) (k:Nat.ble ns.length A.n=true)
  (b:∀(bs:List Own) (w:World),Ci bs ns->CallsD P H (bs.map mL).toArray .returning w fun e u' w'=>e=.returned (.tuple #[])/\u'=.returning/\w'=w)
  (c:∀(F:aA) (bs:List Own) (v:Value),PS v->Ci bs ns->jM P sc (fun _ _ _ _=>False) (fun _ L' _=>L'.sub (List.range' 1000 bs.length)=some (List.zipWith oV bs (out v))) (fun _ L' _=>L'.sub (List.range' 1000 bs.length)=some (List.zipWith oV bs (out v))) F (inp bs) (put (some l) (.v v) (put (some d) (.v v) (Fc bs.length)))) :
  oO P H PS ns out:=by
 unfold zX at a;split at a
 case h_2=>cases a
 rename_i r o o2 m hb;split at a
 case h_2=>cases a
 rename_i d' ac h t h3 h4 p;split at a
 case h_2=>cases a
 rename_i x y z dd al u k2 k3;split at a
 case h_2=>cases a
 rename_i h6 f;simp only[xo,Prod.mk.injEq] at a;obtain⟨rfl,rfl,rfl⟩:=a;simp only[Xf] at f;obtain⟨⟨⟨f,h8⟩,q⟩,j⟩:=f;obtain rfl:=v8 q;have ho:o.op=.call {callee:=.builtin .recover,args:=#[],argTypes:=#[]}:=by
  unfold Mb at h;split at h
  ·assumption
  ·cases h
 exact Fe s hb h6 ho t h3 u k2 k3 (by simpa using j) (v8 f) p h4 (by simpa using h8) (Xq k) b c
end Go.Fr.T
namespace Go.Fr
open Go Go.RowKit
mutual
def G.bulk:G->Nat
 | .int _ _=>1
 | .bool _=>1
 | .str s=>s.size+1
 | .sl _ l=>G.Wz l+1
 | .st l=>G.Wz l+1
def G.Wz:List G->Nat
 | []=>0
 | x::l=>G.bulk x+G.Wz l
end
mutual
def gZ {H:Type}:DataW H->Nat
 | .lit (.string bytes)=>bytes.length+1
 | .lit _=>1
 | .nil=>1
 | .ptr d=>gZ d+1
 | .slice elems spare=>eF elems+eF spare+1
 | .agg parts=>eF parts+1
 | .iface _ d=>gZ d+1
 | .map entries=>lF entries+1
 | .held _=>1
def eF {H:Type}:List (DataW H)->Nat
 | []=>0
 | d::r=>gZ d+eF r
def lF {H:Type}:List (Lit×DataW H)->Nat
 | []=>0
 | x::r=>rH x+lF r
def rH {H:Type}:Lit×DataW H->Nat
 | (.string bytes,d)=>bytes.length+gZ d+1
 | (_,d)=>gZ d+1
end
def Ok (P:Program):Nat->TypeId->G->Prop
 | 0,_,_=>False
 | n+1,t,g=>match P.underlying t with
  | some .bool=>∃b,g=.bool b
  | some (.int k)=>∃x,g=.int k x/\(Lit.int k x).wf=true
  | some .string=>∃s,g=.str s
  | some (.slice e)=>∃l,g=.sl (P.cellsOf e) l/\∀x∈l,Ok P n e x
  | some (.struct a)=>∃l,g=.st l/\l.length=a.size/\∀(i:Nat) (f:Field) (x:G),a[i]?=some f->l[i]?=some x->Ok P n f.type x
  | _=>False
def wI (P:Program):Nat->List Field->Nat->Bool
 | o,[],n=>Nat.beq o n
 | o,f::a,n=>Nat.beq f.offset o&&wI P (o+P.cellsOf f.type) a n
def HL (P:Program) (S:List TypeId) (t:TypeId):Bool :=
 match P.underlying t with
 | some .bool=>true
 | some (.int _)=>true
 | some .string=>true
 | some (.slice e)=>fw S e&&Nat.blt 0 (P.cellsOf e)
 | some (.struct a)=>wI P 0 a.toList (P.cellsOf t)&&a.toList.all fun f=>fw S f.type
 | _=>false
def flat (P:Program) (S:List TypeId):Bool:=S.all (HL P S)
theorem ur {Q:Nat->G->Prop}:∀(n:Nat),(∀i,i<n->∃g,Q i g)->∃l:List G,l.length=n/\∀i g,l[i]?=some g->Q i g
 | 0,_=>⟨[],rfl,fun i g h=>by simp at h⟩
 | n+1,h=>by
  obtain⟨l,b,d⟩:=ur n (fun i hi=>h i (by omega));obtain⟨g,c⟩:=h n (by omega);refine⟨l++[g],by simp[b],fun i x a=>?_⟩
  by_cases hi:i<l.length
  ·rw[Xl hi] at a;exact d i x a
  ·rw[Xr (by omega)] at a;have:i-l.length=0:=by
    cases e:i-l.length with
    | zero=>rfl
    | succ k=>rw[e] at a;simp at a
   rw[this] at a;simp only[Xp,xo] at a;subst a;have:i=n:=by omega
   subst this;exact c
theorem wJ {H:Type}:∀{l:List G}{ds:List (DataW H)},l.length=ds.length->(∀(i:Nat) g d,l[i]?=some g->ds[i]?=some d->g.bulk<=gZ d)->G.Wz l<=eF ds
 | [],_,_,_=>by simp[G.Wz]
 | x::l,[],h,_=>by simp at h
 | x::l,d::ds,h,hb=>by
  simp only[G.Wz,eF];have e:=hb 0 x d (by simp) (by simp);have f:=wJ (l:=l) (ds:=ds) (by simpa using h) (fun i g c a b=>hb (i+1) g c (by simpa using a) (by simpa using b));omega
section
variable {H:Type}{enc:TypeId×Value->H}{P:Program}{w:World}{base:Nat}{spare:Nat->Bool}{held:Bool}
def oP (w:World):aA:=fun b=>w.heap[b]?
theorem Fs {a:Addr}{n:Nat}{cs:List Value}(h:w.cells? base a n=some cs) (u:0<n) (x:a.spot=none->∀i,i<n->w.frozen? ⟨a.block,a.off+i,none⟩=false):cs.length=n/\bM (oP w) (some a) 0 cs:=by
 obtain⟨_,f,p⟩:=World.cells?_some h;refine⟨f,?_⟩;have l:=p 0 u;rw[x5 (by omega)] at l;have d:a.spot=none:=by simpa[Addr.add] using World.cell?_spot l
 have m:∃j t k,w.heap[a.block]?=some (.cells j t k):=by
  simp only[World.cell?,Addr.add] at l;split at l
  ·rename_i c t k e;exact⟨c,t,k,e⟩
  ·cases l
 obtain⟨j,t,k,hb⟩:=m;refine⟨a,j,t,k,rfl,hb,d,fun i v q=>?_⟩;have hi:i<n:=by rw[<-f];exact(Xe.1 q).1
 have:=p i hi;obtain⟨b,o,z⟩:=a;simp only at d;subst d;rw[q,bV] at this;simp only[World.cell?] at this;simp only at hb;rw[hb] at this;refine⟨by simpa using this,fun y=>?_⟩;have r:=x rfl i hi;obtain⟨lo,s⟩:=k;simp only[World.frozen?,hb,Bool.and_eq_false_iff,Ye] at r;simp only[Nat.add_zero] at y;omega
theorem z8 {F:aA}{a:Addr}{n:Nat}{cs:List Value}(d:a.spot=none) (h:bM F (some (a.add n)) 0 cs):bM F (some a) n cs:=by
 obtain⟨b,o,m⟩:=a;simp only at d;subst d;rw[bV] at h;obtain⟨p,c,t,k,e,hb,f,j⟩:=h;injection e with e
 subst e;exact⟨_,c,t,k,rfl,hb,rfl,fun i v l=>by have:=j i v l;simpa[Nat.add_assoc] using this⟩
theorem K6 {S:List TypeId}(hS:flat P S=true):∀(fuel:Nat) (t:TypeId) (cs:List Value) (x:DataW H×List MemPlace),t∈S->DataW.trod enc P w base spare held fuel t cs=some x->w.noneFrozen x.2 ->
  ∃g,Ok P fuel t g/\Rd (oP w) g cs/\g.bulk<=gZ x.1:=by
 intro fuel
 induction fuel with
 | zero=>intro t cs x _ h;simp[DataW.trod] at h
 | succ n ih =>
  intro t cs x ht h hz;have u:=Xo.1 hS t ht;simp only[HL] at u;split at u
  ·rename_i c;obtain⟨b,rfl,rfl⟩:=DataW.trod_bool c h;exact⟨.bool b,by simp[Ok,c],by simp[Rd],by simp[G.bulk,gZ]⟩
  ·rename_i k c;obtain⟨m,rfl,rfl,hw⟩:=DataW.trod_int c h;exact⟨.int k m,by simp[Ok,c,hw],by simp[Rd,hw],by simp[G.bulk,gZ]⟩
  ·rename_i c;obtain⟨s,rfl,rfl,hw⟩:=DataW.trod_string c h;exact⟨.str s,by simp[Ok,c],by simp[Rd],by simp[G.bulk,gZ]⟩
  ·rename_i e c;simp only[Xf] at u;have he:e∈S:=cI.1 u.1;have ab:0<P.cellsOf e:=by simpa using u.2
   rcases DataW.trod_slice c h with⟨rfl,rfl⟩ | ⟨a,len,cap,elems,ap,m,e1,rfl,rfl,hb,hl,hm,z,ay,_,_⟩
   ·refine⟨.sl (P.cellsOf e) [],by simp[Ok,c],?_,by simp[G.bulk,G.Wz,gZ]⟩;rw[L7];exact⟨none,0,rfl,by simp,by simp,fun _=>⟨rfl,rfl⟩,fun j x hx=>by simp at hx⟩
   ·obtain rfl:m=n:=by omega
    have r:0<len->a.spot=none:=by
     intro h0;have h1:=ay 0 h0;rw[x5 (by omega)] at h1;obtain⟨es,h2,h3⟩:=Option.bind_eq_some_iff.1 h1;have h0:=(World.cells?_some h2).2.2 0 ab;rw[x5 (by rw[(World.cells?_some h2).2.1];omega)] at h0;simpa[Addr.add] using World.cell?_spot h0
    obtain⟨l,ao,ae⟩:=ur (Q:=fun i g=>Ok P m e g/\(∃es,es.length=P.cellsOf e/\bM (oP w) (some a) (i*P.cellsOf e) es/\Rd (oP w) g es)/\∀y,elems[i]?=some y->g.bulk<=gZ y.1) len (by
     intro i hi;have h1:=ay i hi;rw[x5 (by omega)] at h1;obtain⟨es,h2,h3⟩:=Option.bind_eq_some_iff.1 h1;obtain⟨g,g1,g2,g3⟩:=ih e es _ he h3 (fun b off hm=>hz b off (List.mem_append_right _ (List.mem_flatMap.2 ⟨_,List.mem_append_left _ (List.getElem_mem (show i<elems.length by omega)),hm⟩)));obtain⟨g4,g5⟩:=Fs h2 ab (fun hs k hk=>by
      have ax:a.spot=none:=r (by omega);obtain⟨b,o,sp⟩:=a;simp only at ax;subst ax;rw[bV];refine hz b _ (List.mem_append_left _ (XI.2 ⟨i*P.cellsOf e+k,List.mem_range.2 ?_,by simp[Nat.add_assoc]⟩));have h5:(i+1)*P.cellsOf e<=(elems.length+ap.length)*P.cellsOf e:=Nat.mul_le_mul_right _ (by omega);rw[Nat.add_mul] at h5;omega)
     refine⟨g,g1,⟨es,g4,z8 (r (by omega)) g5,g2⟩,fun y q=>?_⟩;rw[x5 (by omega)] at q;injection q with q
     subst q;exact g3)
    refine⟨.sl (P.cellsOf e) l,?_,?_,?_⟩
    ·simp only[Ok,c];refine⟨l,rfl,fun x hx=>?_⟩;obtain⟨i,hi⟩:=XB.1 hx;exact(ae i x hi).1
    ·rw[L7];exact⟨some a,cap,by rw[ao],by omega,hm,fun e=>(by cases e),fun j x hx=>(ae j x hx).2.1⟩
    ·simp only[G.bulk,gZ];have:=wJ (l:=l) (ds:=elems.map (·.1)) (by simp[ao,z]) (fun i g d hg hd=>by
      simp only[XR,Option.map_eq_some_iff] at hd;obtain⟨y,q,rfl⟩:=hd;exact(ae i g hg).2.2 y q)
     omega
  ·rename_i fs c;simp only[Xf] at u;obtain⟨al,av⟩:=u;obtain⟨xs,m,e1,rfl,z,bc,v⟩:=DataW.trod_struct c h;obtain rfl:m=n:=by omega
   have key:∀(fl:List Field) (ys:List (DataW H×List MemPlace)) (o:Nat),wI P o fl (P.cellsOf t)=true->ys.length=fl.length->(∀f∈fl,f.type∈S) ->
     (∀(i:Nat) f,fl[i]?=some f->DataW.trod enc P w base spare held m f.type ((cs.drop f.offset).take (P.cellsOf f.type))=ys[i]?) ->
     (∀y∈ys,w.noneFrozen y.2) ->
     ∃l,l.length=fl.length/\(∀(i:Nat) f g,fl[i]?=some f->l[i]?=some g->Ok P m f.type g)/\lX (oP w) l (cs.drop o)/\G.Wz l<=eF (ys.map (·.1)):=by
    intro fl
    induction fl with
    | nil =>
     intro ys o hc _ _ _ _;simp only[wI] at hc;have:=v8 hc;refine⟨[],rfl,fun i f g h=>by simp at h,?_,by simp[G.Wz]⟩;simp only[lX];rw[List.drop_eq_nil_iff];omega
    | cons f fl bj =>
     intro ys o hc q aa v ar;simp only[wI,Xf] at hc;have az:=v8 hc.1
     match ys,q with
     | y::ys,q =>
      have h0:=v 0 f (by simp);simp only[Xp] at h0;obtain⟨g,g1,g2,g3⟩:=ih f.type _ _ (aa f (by simp)) h0 (ar y (by simp));obtain⟨l,l1,l2,l3,l4⟩:=bj ys (o+P.cellsOf f.type) hc.2 (by simpa using q) (fun f' p=>aa f' (by simp[p])) (fun i f' p=>by
       have:=v (i+1) f' (by simpa using p);simpa using this) (fun y' bb=>ar y' (by simp[bb]))
      refine⟨g::l,by simp[l1],fun i f' g' p ad=>?_,?_,?_⟩
      ·cases i with
       | zero=>simp only[Xp,xo] at p ad;subst p;subst ad;exact g1
       | succ i=>exact l2 i f' g' (by simpa using p) (by simpa using ad)
      ·simp only[lX];refine⟨(cs.drop o).take (P.cellsOf f.type),cs.drop (o+P.cellsOf f.type),?_,by rw[<-az];exact g2,l3⟩;rw[<-List.drop_drop,List.take_append_drop]
      ·simp only[G.Wz,Xj,eF];omega
   obtain⟨l,l1,l2,l3,l4⟩:=key fs.toList xs 0 al (by simp[bc]) (fun f u=>cI.1 (Xo.1 av f u)) (fun i f hi=>v i f (by simpa using hi)) (fun y q b off hm=>hz b off (List.mem_flatMap.2 ⟨y,q,hm⟩));refine⟨.st l,?_,?_,?_⟩
   ·simp only[Ok,c];exact⟨l,rfl,by simpa using l1,fun i f x hi hx=>l2 i f x (by simpa using hi) hx⟩
   ·simp only[Rd];simpa using l3
   ·simp only[G.bulk,gZ];omega
  ·cases u
end
namespace Api
abbrev I (n:Int):G:=.int .i64 n
inductive Ty where
 | mk (kind id:Int) (args:List Ty)
 deriving Inhabited
def Ty.kind:Ty->Int | .mk k _ _=>k
def Ty.id:Ty->Int | .mk _ i _=>i
def Ty.args:Ty->List Ty | .mk _ _ l=>l
mutual
def Ty.g:Ty->G
 | .mk k i l=>.st [I k,I i,.sl 3 (Ty.gs l)]
def Ty.gs:List Ty->List G
 | []=>[]
 | t::l=>t.g::Ty.gs l
end
theorem Ty.WX:∀l:List Ty,Ty.gs l=l.map Ty.g
 | []=>rfl
 | t::l=>by simp[Ty.gs,Ty.WX l]
structure qQ where
 param:Int
 trait:Int
def qQ.g (b:qQ):G:=.st [I b.param,I b.trait]
structure Term where
 kind:Int
 a:Int
 targets:List Int
def Term.g (x:Term):G:=.st [I x.kind,I x.a,.sl 1 (x.targets.map I)]
structure HM where
 op:Int
 dst:Int
 a:Int
 b:Int
 n:Int
 args:List Int
 types:List Ty
def HM.g (x:HM):G:=.st [I x.op,I x.dst,I x.a,I x.b,I x.n,.sl 1 (x.args.map I),.sl 3 (x.types.map Ty.g)]
structure Block where
 code:List HM
 fin:Term
def Block.g (x:Block):G:=.st [.sl 7 (x.code.map HM.g),x.fin.g]
structure NC where
 name:ByteArray
 module:Int
 params:Int
 bounds:List qQ
 arity:Int
 result:Ty
 locals:List Ty
 blocks:List Block
 ties:List Int
def NC.g (f:NC):G:=.st [.str f.name,I f.module,I f.params,.sl 2 (f.bounds.map qQ.g),I f.arity,f.result.g,.sl 3 (f.locals.map Ty.g),.sl 4 (f.blocks.map Block.g),.sl 1 (f.ties.map I)]
structure Variant where
 name:ByteArray
 fields:List Ty
def Variant.g (x:Variant):G:=.st [.str x.name,.sl 3 (x.fields.map Ty.g)]
structure Data where
 name:ByteArray
 module:Int
 params:Int
 variants:List Variant
 drop:Int
def Data.g (d:Data):G:=.st [.str d.name,I d.module,I d.params,.sl 2 (d.variants.map Variant.g),I d.drop]
structure Impl where
 trait:Int
 module:Int
 params:Int
 bounds:List qQ
 type:Ty
 func:Int
def Impl.g (x:Impl):G:=.st [I x.trait,I x.module,I x.params,.sl 2 (x.bounds.map qQ.g),x.type.g,I x.func]
structure Prog where
 modules:List ByteArray
 uses:List (List Int)
 datas:List Data
 traits:List ByteArray
 homes:List Int
 impls:List Impl
 funcs:List NC
 main:Int
def Prog.g (p:Prog):G:=.st [.sl 1 (p.modules.map .str),.sl 1 (p.uses.map fun l=>.sl 1 (l.map I)),.sl 5 (p.datas.map Data.g),.sl 1 (p.traits.map .str),.sl 1 (p.homes.map I),.sl 8 (p.impls.map Impl.g),.sl 11 (p.funcs.map NC.g),I p.main]
section
variable {F:aA}{cs:List Value}
end
end Api
end Go.Fr
namespace Go.Fr
open Go Go.RowKit
namespace Api
section
variable {P:Program}
def ND (P:Program) (n:Nat):List TypeId->List G->Prop
 | [],[]=>True
 | t::a,x::l=>Ok P n t x/\ND P n a l
 | _,_=>False
theorem HN {n:Nat}:∀{fl:List Field}{l:List G},l.length=fl.length->(∀(i:Nat) (f:Field) (x:G),fl[i]?=some f->l[i]?=some x->Ok P n f.type x)->ND P n (fl.map (·.type)) l
 | [],[],_,_=>trivial
 | [],x::l,h,_=>by simp at h
 | f::fl,[],h,_=>by simp at h
 | f::fl,x::l,h,a=>⟨a 0 f x (by simp) (by simp),HN (by simpa using h) fun i d e c b=>a (i+1) d e (by simpa using c) (by simpa using b)⟩
theorem ok_int {n:Nat}{t:TypeId}{g:G}{k:IntKind}(h:P.underlying t=some (.int k)) (a:Ok P n t g):∃x,g=.int k x:=by
 cases n with
 | zero=>exact a.elim
 | succ n=>simp only[Ok,h] at a;obtain⟨x,b,_⟩:=a;exact⟨x,b⟩
theorem NE {n:Nat}{t:TypeId}{g:G}(h:P.underlying t=some .string) (a:Ok P n t g):∃x,g=.str x:=by
 cases n with
 | zero=>exact a.elim
 | succ n=>simp only[Ok,h] at a;exact a
theorem Ea {b:Type}{f:b->G}:∀{l:List G},(∀x∈l,∃y,x=f y)->∃a:List b,l=a.map f
 | [],_=>⟨[],rfl⟩
 | x::l,h=>by
  obtain⟨y,rfl⟩:=h x (by simp);obtain⟨a,rfl⟩:=Ea (l:=l) (fun z c=>h z (by simp[c]));exact⟨y::a,rfl⟩
theorem NF {n:Nat}{t e:TypeId}{g:G}{sz:Nat}{c:Type}{f:c->G}(h:P.underlying t=some (.slice e)) (b:P.cellsOf e=sz) (a:Ok P n t g) (j:∀m x,m<n->Ok P m e x->∃y,x=f y):∃l:List c,g=.sl sz (l.map f):=by
 cases n with
 | zero=>exact a.elim
 | succ n =>
  simp only[Ok,h] at a;obtain⟨l,rfl,d⟩:=a;obtain⟨k,rfl⟩:=Ea (f:=f) (fun x o=>j n x (by omega) (d x o));exact⟨k,by rw[b]⟩
theorem O2 {n:Nat}{t:TypeId}{g:G}{c:Array Field}{d:List TypeId}(h:P.underlying t=some (.struct c)) (b:c.toList.map (·.type)=d) (a:Ok P n t g):∃m l,m<n/\g=.st l/\ND P m d l:=by
 cases n with
 | zero=>exact a.elim
 | succ n =>
  simp only[Ok,h] at a;obtain⟨l,rfl,e,k⟩:=a;subst b;exact⟨n,l,by omega,rfl,HN (by simpa using e) fun i f x j o=>k i f x (by simpa using j) o⟩
def tO (P:Program) (t:TypeId) (a:List TypeId):Bool:=match P.underlying t with | some (.struct fs)=>decide (fs.toList.map (·.type)=a) | _=>false
def rI (P:Program) (t e sz:Nat):Bool:=match P.underlying t with | some (.slice e')=>Nat.beq e' e&&Nat.beq (P.cellsOf e) sz | _=>false
def P5 (P:Program) (t:TypeId):Bool:=match P.underlying t with | some (.int .i64)=>true | _=>false
def Qz (P:Program) (t:TypeId):Bool:=match P.underlying t with | some .string=>true | _=>false
theorem oI {t:TypeId}{a:List TypeId}(h:tO P t a=true) {n:Nat}{g:G}(b:Ok P n t g):∃m l,m<n/\g=.st l/\ND P m a l:=by
 simp only[tO] at h;split at h
 ·rename_i d c;exact O2 c (by simpa using h) b
 ·cases h
theorem j8 {t e sz:Nat}(h:rI P t e sz=true) {n:Nat}{g:G}{a:Type}{f:a->G}(c:Ok P n t g) (d:∀m x,m<n->Ok P m e x->∃y,x=f y):∃l:List a,g=.sl sz (l.map f):=by
 simp only[rI] at h;split at h
 ·rename_i o k;simp only[Xf] at h;have b:=v8 h.1;have j:=v8 h.2;subst b;exact NF k j c d
 ·cases h
theorem CV {t:TypeId}(h:P5 P t=true) {n:Nat}{g:G}(a:Ok P n t g):∃x,g=I x:=by
 simp only[P5] at h;split at h
 ·rename_i b;exact ok_int b a
 ·cases h
theorem NG {t:TypeId}(h:Qz P t=true) {n:Nat}{g:G}(a:Ok P n t g):∃x,g=.str x:=by
 simp only[Qz] at h;split at h
 ·rename_i b;exact NE b a
 ·cases h
theorem CW {n:Nat}{b:TypeId}{l:List G}(h:ND P n [b] l):∃a,l=[a]/\Ok P n b a:=by
 match l,h with
 | [a],h=>exact⟨a,rfl,h.1⟩
theorem cq {n:Nat}{c:TypeId}{b:List TypeId}{l:List G}(h:ND P n (c::b) l):∃a r,l=a::r/\Ok P n c a/\ND P n b r:=by
 match l,h with
 | a::r,h=>exact⟨a,r,rfl,h.1,h.2⟩
theorem O3 {t e h:TypeId}(hi:P5 P e=true) (v:tO P t [e,e,h]=true) (u:rI P h t 3=true):∀(n:Nat) (g:G),Ok P n t g->∃x:Ty,g=x.g:=by
 intro n
 induction n using Nat.strongRecOn with
 | _ n q =>
  intro g j;obtain⟨m,l,y,rfl,d⟩:=oI v j;obtain⟨a,l,rfl,r,d⟩:=cq d;obtain⟨b,l,rfl,hb,d⟩:=cq d;obtain⟨c,rfl,p⟩:=CW d;obtain⟨k,rfl⟩:=CV hi r;obtain⟨i,rfl⟩:=CV hi hb;obtain⟨xs,rfl⟩:=j8 u p (f:=Ty.g) (fun o x w s=>q o (by omega) x s);exact⟨.mk k i xs,by simp[Ty.g,Ty.WX]⟩
structure gI where
 int:TypeId
 str:TypeId
 ints:TypeId
 strs:TypeId
 intss:TypeId
 ty:TypeId
 tys:TypeId
 bound:TypeId
 bounds:TypeId
 term:TypeId
 ins:TypeId
 inss:TypeId
 block:TypeId
 blocks:TypeId
 func:TypeId
 funcs:TypeId
 variant:TypeId
 variants:TypeId
 data:TypeId
 datas:TypeId
 impl:TypeId
 impls:TypeId
 prog:TypeId
def gI.tyOk (P:Program) (d:gI):Bool:=P5 P d.int&&tO P d.ty [d.int,d.int,d.tys]&&rI P d.tys d.ty 3
def gI.WE (P:Program) (d:gI):Bool:=d.tyOk P&&Qz P d.str&&rI P d.ints d.int 1&&tO P d.bound [d.int,d.int]&&rI P d.bounds d.bound 2&&tO P d.term [d.int,d.int,d.ints] &&
 tO P d.ins [d.int,d.int,d.int,d.int,d.int,d.ints,d.tys]&&rI P d.inss d.ins 7&&tO P d.block [d.inss,d.term]&&rI P d.blocks d.block 4 &&
 tO P d.func [d.str,d.int,d.int,d.bounds,d.int,d.ty,d.tys,d.blocks,d.ints]
def gI.WS (P:Program) (d:gI):Bool:=d.WE P&&rI P d.strs d.str 1&&rI P d.intss d.ints 1&&tO P d.variant [d.str,d.tys]&&rI P d.variants d.variant 2&&tO P d.data [d.str,d.int,d.int,d.variants,d.int] &&
 rI P d.datas d.data 5&&tO P d.impl [d.int,d.int,d.int,d.bounds,d.ty,d.int]&&rI P d.impls d.impl 8&&rI P d.funcs d.func 11&&tO P d.prog [d.strs,d.intss,d.datas,d.strs,d.ints,d.impls,d.funcs,d.int]
theorem gI.WZ {d:gI}(h:d.WS P=true):d.WE P=true:=by
 simp only[gI.WS,Xf] at h;exact h.1.1.1.1.1.1.1.1.1.1
theorem gI.WN {d:gI}(h:d.WE P=true):d.tyOk P=true:=by
 simp only[gI.WE,Xf] at h;exact h.1.1.1.1.1.1.1.1.1.1
theorem gI.ty' {d:gI}(h:d.tyOk P=true) {n:Nat}{g:G}(a:Ok P n d.ty g):∃x:Ty,g=x.g:=by
 simp only[gI.tyOk,Xf] at h;exact O3 h.1.1 h.1.2 h.2 n g a
theorem gI.i {d:gI}(h:d.tyOk P=true) {n:Nat}{g:G}(a:Ok P n d.int g):∃x:Int,g=I x:=by
 simp only[gI.tyOk,Xf] at h;exact CV h.1.1 a
theorem gI.W6 {d:gI}(h:d.tyOk P=true) {n:Nat}{g:G}(b:Ok P n d.tys g):∃x:List Ty,g=.sl 3 (x.map Ty.g):=by
 have a:=h;simp only[gI.tyOk,Xf] at a;exact j8 a.2 b fun m x _ c=>gI.ty' h c
theorem gI.bnd {d:gI}(h:d.WE P=true) {n:Nat}{g:G}(j:Ok P n d.bound g):∃x:qQ,g=x.g:=by
 have e:=h;have f:=gI.WN e;have a:=e;simp only[gI.WE,Xf] at a;obtain⟨⟨⟨⟨⟨⟨⟨⟨⟨⟨_,t⟩,k2⟩,k⟩,v⟩,y⟩,k6⟩,u⟩,k8⟩,z⟩,p⟩:=a;obtain⟨m,w,r,rfl,c⟩:=oI k j;obtain⟨g0,l1,rfl,l,b⟩:=cq c;obtain⟨q,rfl⟩:=gI.i f l;obtain⟨s,rfl,o⟩:=CW b;obtain⟨v1,rfl⟩:=gI.i f o;exact⟨⟨q,v1⟩,rfl⟩
theorem gI.trm {d:gI}(h:d.WE P=true) {n:Nat}{g:G}(l:Ok P n d.term g):∃x:Term,g=x.g:=by
 have k:=h;have j:=gI.WN k;have a:=k;simp only[gI.WE,Xf] at a;obtain⟨⟨⟨⟨⟨⟨⟨⟨⟨⟨_,k1⟩,v⟩,k3⟩,k4⟩,p⟩,k6⟩,k7⟩,k8⟩,k9⟩,u⟩:=a;obtain⟨m,l0,z,rfl,c⟩:=oI p l;obtain⟨g0,l1,rfl,s,b⟩:=cq c;obtain⟨w,rfl⟩:=gI.i j s;obtain⟨g1,y,rfl,t,e⟩:=cq b;obtain⟨v1,rfl⟩:=gI.i j t;obtain⟨g2,rfl,r⟩:=CW e;obtain⟨o,rfl⟩:=j8 v r (f:=I) fun m x _ q=>gI.i j q;exact⟨⟨w,v1,o⟩,rfl⟩
theorem gI.ins' {d:gI}(h:d.WE P=true) {n:Nat}{g:G}(r:Ok P n d.ins g):∃x:HM,g=x.g:=by
 have q:=h;have a:=gI.WN q;have b:=q;simp only[gI.WE,Xf] at b;obtain⟨⟨⟨⟨⟨⟨⟨⟨⟨⟨_,k1⟩,k2⟩,k3⟩,k4⟩,k5⟩,v⟩,k7⟩,k8⟩,k9⟩,al⟩:=b;obtain⟨m,l0,hm,rfl,l⟩:=oI v r;obtain⟨g0,l1,rfl,e0,k⟩:=cq l;obtain⟨v0,rfl⟩:=gI.i a e0;obtain⟨g1,l2,rfl,e1,o⟩:=cq k;obtain⟨v1,rfl⟩:=gI.i a e1;obtain⟨g2,l3,rfl,e2,e⟩:=cq o;obtain⟨s,rfl⟩:=gI.i a e2;obtain⟨g3,l4,rfl,e3,c⟩:=cq e;obtain⟨v3,rfl⟩:=gI.i a e3;obtain⟨g4,l5,rfl,w,j⟩:=cq c;obtain⟨y,rfl⟩:=gI.i a w;obtain⟨g5,l6,rfl,t,p⟩:=cq j;obtain⟨v5,rfl⟩:=j8 k2 t (f:=I) fun m x _ z=>gI.i a z;obtain⟨g6,rfl,e6⟩:=CW p;obtain⟨u,rfl⟩:=gI.W6 a e6;exact⟨⟨v0,v1,s,v3,y,v5,u⟩,rfl⟩
theorem gI.blk {d:gI}(h:d.WE P=true) {n:Nat}{g:G}(j:Ok P n d.block g):∃x:Block,g=x.g:=by
 have b:=h;have ht:=gI.WN b;have a:=b;simp only[gI.WE,Xf] at a;obtain⟨⟨⟨⟨⟨⟨⟨⟨⟨⟨_,v⟩,k2⟩,w⟩,y⟩,k5⟩,k6⟩,k⟩,s⟩,k9⟩,q⟩:=a;obtain⟨m,z,t,rfl,e⟩:=oI s j;obtain⟨g0,l1,rfl,o,c⟩:=cq e;obtain⟨r,rfl⟩:=j8 k o (f:=HM.g) fun m x _ l=>gI.ins' b l;obtain⟨u,rfl,p⟩:=CW c;obtain⟨v1,rfl⟩:=gI.trm b p;exact⟨⟨r,v1⟩,rfl⟩
theorem gI.fn {d:gI}(h:d.WE P=true) {n:Nat}{g:G}(w:Ok P n d.func g):∃x:NC,g=x.g:=by
 have e:=h;have a:=gI.WN e;have b:=e;simp only[gI.WE,Xf] at b;obtain⟨⟨⟨⟨⟨⟨⟨⟨⟨⟨_,k1⟩,k2⟩,k3⟩,k4⟩,k5⟩,k6⟩,k7⟩,k8⟩,k9⟩,u⟩:=b;obtain⟨m,l0,hm,rfl,p⟩:=oI u w;obtain⟨g0,l1,rfl,e0,o⟩:=cq p;obtain⟨v0,rfl⟩:=NG k1 e0;obtain⟨g1,l2,rfl,e1,s⟩:=cq o;obtain⟨v1,rfl⟩:=gI.i a e1;obtain⟨g2,l3,rfl,e2,k⟩:=cq s;obtain⟨v2,rfl⟩:=gI.i a e2;obtain⟨g3,l4,rfl,e3,j⟩:=cq k;obtain⟨v3,rfl⟩:=j8 k4 e3 (f:=qQ.g) fun m x _ c=>gI.bnd e c;obtain⟨g4,l5,rfl,e4,l⟩:=cq j;obtain⟨v4,rfl⟩:=gI.i a e4;obtain⟨g5,l6,rfl,e5,t⟩:=cq l;obtain⟨v5,rfl⟩:=gI.ty' a e5;obtain⟨g6,l7,rfl,e6,q⟩:=cq t;obtain⟨v6,rfl⟩:=gI.W6 a e6;obtain⟨g7,l8,rfl,y,r⟩:=cq q;obtain⟨z,rfl⟩:=j8 k9 y (f:=Block.g) fun m x _ c=>gI.blk e c;obtain⟨g8,rfl,e8⟩:=CW r;obtain⟨v,rfl⟩:=j8 k2 e8 (f:=I) fun m x _ c=>gI.i a c;exact⟨⟨v0,v1,v2,v3,v4,v5,v6,z,v⟩,rfl⟩
theorem gI.imp {d:gI}(h:d.WS P=true) {n:Nat}{g:G}(r:Ok P n d.impl g):∃x:Impl,g=x.g:=by
 have h0:=h;have e:=gI.WZ h;have b:=gI.WN e;have a:=e;simp only[gI.WE,Xf] at a;obtain⟨⟨⟨⟨⟨⟨⟨⟨⟨⟨_,k1⟩,k2⟩,k3⟩,u⟩,k5⟩,k6⟩,k7⟩,k8⟩,k9⟩,ag⟩:=a;simp only[gI.WS,Xf] at h;obtain⟨⟨⟨⟨⟨⟨⟨⟨⟨⟨h,p1⟩,p2⟩,p3⟩,p4⟩,p5⟩,p6⟩,q⟩,p8⟩,p9⟩,ad⟩:=h;obtain⟨m,l0,hm,rfl,o⟩:=oI q r;obtain⟨g0,l1,rfl,e0,l⟩:=cq o;obtain⟨v0,rfl⟩:=gI.i b e0;obtain⟨g1,l2,rfl,e1,p⟩:=cq l;obtain⟨v1,rfl⟩:=gI.i b e1;obtain⟨g2,l3,rfl,e2,j⟩:=cq p;obtain⟨s,rfl⟩:=gI.i b e2;obtain⟨g3,l4,rfl,z,c⟩:=cq j;obtain⟨v3,rfl⟩:=j8 u z (f:=qQ.g) fun m x _ y=>gI.bnd e y;obtain⟨g4,l5,rfl,v,k⟩:=cq c;obtain⟨w,rfl⟩:=gI.ty' b v;obtain⟨g5,rfl,t⟩:=CW k;obtain⟨v5,rfl⟩:=gI.i b t;exact⟨⟨v0,v1,s,v3,w,v5⟩,rfl⟩
end
end Api
end Go.Fr
namespace Go.Fr.T
open Go Go.RowKit Go.Fr
mutual
def HO:G->List C
 | .int k n=>[.int k n]
 | .bool b=>[.bool b]
 | .str s=>[.str s]
 | .sl _ l=>[.sl (xQ l)]
 | .st l=>wK l
def xQ:List G->List (List C)
 | []=>[]
 | x::l=>HO x::xQ l
def wK:List G->List C
 | []=>[]
 | x::l=>HO x++wK l
end
theorem wL:∀l:List G,xQ l=l.map HO
 | []=>rfl
 | x::l=>by simp only[xQ,Xj,wL l]
theorem z9 {a b:List C}(h:dn a=true) (k:dn b=true):dn (a++b)=true:=by
 rw[iq] at *;intro c d;rcases yo.1 d with d | d
 ·exact h c d
 ·exact k c d
mutual
theorem Aa {F:aA}:∀{g:G}{cs:List Value},Rd F g cs->g.bulk<=maxLen->aB F [] (HO g) cs/\dn (HO g)=true
 | .int k n,cs,h,hb=>by
  simp only[Rd] at h;obtain⟨rfl,h⟩:=h;simp only[HO,aB,Rel];exact⟨⟨_,_,rfl,⟨rfl,h⟩,rfl⟩,rfl⟩
 | .bool b,cs,h,hb=>by
  simp only[Rd] at h;subst h;simp only[HO,aB,Rel];exact⟨⟨_,_,rfl,rfl,rfl⟩,rfl⟩
 | .str s,cs,h,hb=>by
  simp only[Rd] at h;subst h;simp only[G.bulk] at hb;simp only[HO,aB,Rel];exact⟨⟨_,_,rfl,⟨rfl,by omega⟩,rfl⟩,rfl⟩
 | .sl sz l,cs,h,hb=>by
  simp only[Rd] at h;obtain⟨a,c,rfl,h1,h2,h3,h4⟩:=h;simp only[G.bulk] at hb;have hl:(xQ l).length=l.length:=by simp[wL]
  simp only[HO,aB,Rel];refine⟨⟨_,_,rfl,⟨a,c,by rw[hl],by rw[hl];exact h1,by rw[hl];omega,fun e=>?_,sz,yS h4 (by omega)⟩,rfl⟩,rfl⟩;obtain⟨e1,e2⟩:=h3 e;subst e1;exact⟨rfl,e2⟩
 | .st l,cs,h,hb=>by
  simp only[Rd] at h;simp only[G.bulk] at hb;simp only[HO];exact wM h (by omega)
theorem yS {F:aA}{a:Option Addr}{sz:Nat}:∀{i:Nat}{l:List G},si F a sz i l->G.Wz l<=maxLen->fI F a sz i (xQ l)
 | _,[],_,_=>by simp only[xQ,fI]
 | i,x::l,h,hb=>by
  simp only[si] at h;obtain⟨⟨es,h1,h2,h3⟩,h4⟩:=h;simp only[G.Wz] at hb;obtain⟨r1,r2⟩:=Aa h3 (by omega);simp only[xQ,fI];exact⟨⟨es,h1,h2,r2,r1⟩,yS h4 (by omega)⟩
theorem wM {F:aA}:∀{l:List G}{cs:List Value},lX F l cs->G.Wz l<=maxLen->aB F [] (wK l) cs/\dn (wK l)=true
 | [],cs,h,_=>by simp only[lX] at h;subst h;simp only[wK,aB];exact⟨trivial,rfl⟩
 | x::l,cs,h,hb=>by
  simp only[lX] at h;obtain⟨c1,c2,rfl,h1,h2⟩:=h;simp only[G.Wz] at hb;obtain⟨r1,r2⟩:=Aa h1 (by omega);obtain⟨q1,q2⟩:=wM h2 (by omega);simp only[wK];exact⟨r1.append q1,z9 r2 q2⟩
end
open Api
abbrev IC (n:Int):C:=.int .i64 n
def wN (l:List Int):List (List C):=l.map fun n=>[IC n]
def P6 (l:List ByteArray):List (List C):=l.map fun s=>[C.str s]
mutual
def u5:Ty->List C
 | .mk k i l=>[IC k,IC i,.sl (K7 l)]
def K7:List Ty->List (List C)
 | []=>[]
 | t::l=>u5 t::K7 l
end
theorem BL:∀l:List Ty,K7 l=l.map u5
 | []=>rfl
 | t::l=>by simp only[K7,Xj,BL l]
theorem NH (t:Ty):u5 t=[IC t.kind,IC t.id,.sl (t.args.map u5)]:=by
 cases t;simp only[u5,BL,Ty.kind,Ty.id,Ty.args]
def HS (b:qQ):List C:=[IC b.param,IC b.trait]
def tP (x:HM):List C:=[IC x.op,IC x.dst,IC x.a,IC x.b,IC x.n,.sl (wN x.args),.sl (x.types.map u5)]
def jA (x:Block):List C:=[.sl (x.code.map tP),IC x.fin.kind,IC x.fin.a,.sl (wN x.fin.targets)]
def QA (f:NC):List C:=[.str f.name,IC f.module,IC f.params,.sl (f.bounds.map HS),IC f.arity,IC f.result.kind,IC f.result.id,.sl (f.result.args.map u5),.sl (f.locals.map u5),.sl (f.blocks.map jA),.sl (wN f.ties)]
def fZ (x:Variant):List C:=[.str x.name,.sl (x.fields.map u5)]
def kN (d:Api.Data):List C:=[.str d.name,IC d.module,IC d.params,.sl (d.variants.map fZ),IC d.drop]
def O4 (x:Impl):List C:=[IC x.trait,IC x.module,IC x.params,.sl (x.bounds.map HS),IC x.type.kind,IC x.type.id,.sl (x.type.args.map u5),IC x.func]
def O5 (p:Prog):List C:=[.sl (P6 p.modules),.sl (p.uses.map fun l=>[.sl (wN l)]),.sl (p.datas.map kN),.sl (P6 p.traits),.sl (wN p.homes),.sl (p.impls.map O4),.sl (p.funcs.map QA),IC p.main]
theorem K8 {a:Type}{f:a->G}{h:a->List C}(b:∀x,HO (f x)=h x) (l:List a):xQ (l.map f)=l.map h:=by
 rw[wL,X5];exact X8 fun x _=>b x
theorem NI {l:List Int}{k:Nat}{x:Int}{K:List C->Prop}(a:l[k]?=some x) (h:K [IC x]):Cw (wN l) (k:Int) 1 K:=⟨[IC x],by omega,by simp[wN,a],rfl,h⟩
theorem idxS {l:List ByteArray}{k:Nat}{x:ByteArray}{K:List C->Prop}(a:l[k]?=some x) (h:K [.str x]):Cw (P6 l) (k:Int) 1 K:=⟨[.str x],by omega,by simp[P6,a],rfl,h⟩
theorem Mc {l:List Ty}{k:Nat}{x:Ty}{K:List C->Prop}(a:l[k]?=some x) (h:K [IC x.kind,IC x.id,.sl (x.args.map u5)]):Cw (l.map u5) (k:Int) 3 K:=jy a (NH x) rfl h
end Go.Fr.T
namespace Go.Fr.T
open Go Go.RowKit Go.Fr Go.ChangeShapes Go.WideShapes Go.ChangeAt
def BM:G->C
 | .int k n=>.int k n
 | .bool b=>.bool b
 | .str s=>.str s
 | .sl _ l=>.sl (xQ l)
 | .st l=>.agg (wK l)
def Md (P:Program):List TypeId->List G->Prop
 | [],[]=>True
 | t::a,g::gs=>(∃n,Ok P n t g)/\Md P a gs
 | _,_=>False
section
variable {H:Type}{enc:TypeId×Value->H}{P:Program}{W:World}
theorem sK {F:aA}{L:Loc}{c:C}{v:Value}(h:aB F L [c] [v]):Rel F L c v:=by
 simp only[aB] at h;obtain⟨x,y,e,a,b⟩:=h;injection e with e1 e2
 subst e1;exact a
theorem K9 {S:List TypeId}(u:flat P S=true) {t:TypeId}(x:t∈S) {r:Reach}{z:Nat}{sp:Nat->Bool}{y:Bool}{v:Value}{d:DataW H}{ps:List MemPlace}(f:Value.okWide P W r z t v)
  (h:DataW.Trod enc P W 0 sp y t v d ps) (hz:W.noneFrozen ps) (hb:gZ d<=maxLen):∃n g,Ok P n t g/\Rel (oP W) [] (BM g) v/\g.bulk<=gZ d:=by
 obtain⟨fuel,h⟩:=h;obtain⟨g,o,h2,w⟩:=K6 u fuel t _ _ x h hz;refine⟨fuel,g,o,?_,w⟩;have p:=(Aa h2 (X0 w hb)).1;have q:=Xo.1 u t x;cases fuel with
 | zero=>exact o.elim
 | succ n =>
 simp only[HL] at q;simp only[Ok] at o;split at q
 ·rename_i j;obtain⟨b,rfl⟩:=okWide_bool j f;simp only[j] at o;obtain⟨s,rfl⟩:=o;exact sK p
 ·rename_i k j;obtain⟨m,rfl⟩:=okWide_int j f;simp only[j] at o;obtain⟨s,rfl,_⟩:=o;exact sK p
 ·rename_i j;obtain⟨m,rfl⟩:=okWide_string j f;simp only[j] at o;obtain⟨s,rfl⟩:=o;exact sK p
 ·rename_i e j;obtain⟨a,l,c,rfl⟩:=okWide_slice j f;simp only[j] at o;obtain⟨s,rfl,_⟩:=o;exact sK p
 ·rename_i fs j;simp only[Value.okWide,j] at f;obtain⟨cs,rfl,_,_⟩:=f;simp only[j] at o;obtain⟨l,rfl,_⟩:=o;simp only[BM,Rel];exact⟨cs.toList,by simp,p⟩
 ·cases q
theorem yT {S:List TypeId}(s:flat P S=true) {r:Reach}{y:Nat}{sp:Nat->Bool}{w:Bool}:∀{c:List TypeId}{vs:List Value}{ds:List (DataW H)}{ps:List MemPlace},(∀t∈c,t∈S) ->
  (∀(j:Nat) t v,c[j]?=some t->vs[j]?=some v->Value.okWide P W r y t v)->DataW.TrodAll enc P W 0 sp w c vs ds ps->W.noneFrozen ps->eF ds<=maxLen ->
  ∃gs,Md P c gs/\aB (oP W) [] (gs.map BM) vs/\G.Wz gs<=eF ds
 | [],[],[],_,_,_,_,_,_=>⟨[],trivial,by simp only[X9,aB],by simp[G.Wz]⟩
 | t::c,v::vs,d::ds,ps,a,l,⟨p,q,u,h2,f⟩,m,hb=>by
  subst f;simp only[eF] at hb ⊢;obtain⟨n,g,x,g2,g3⟩:=K9 s (a t (by simp)) (l 0 t v rfl rfl) u (fun b o a=>m b o (List.mem_append_left _ a)) (by omega);obtain⟨gs,z,k2,k3⟩:=yT s (fun t k=>a t (by simp[k])) (fun j t v k e=>l (j+1) t v (by simpa using k) (by simpa using e)) h2 (fun b o a=>m b o (List.mem_append_right _ a)) (by omega);refine⟨g::gs,⟨⟨n,x⟩,z⟩,?_,by simp only[G.Wz];omega⟩;simp only[Xj,aB];exact⟨v,vs,rfl,g2,k2⟩
 | [],_::_,_,_,_,_,h,_,_=>h.elim
 | [],[],_::_,_,_,_,h,_,_=>h.elim
 | _::_,[],_,_,_,_,h,_,_=>h.elim
 | _::_,_::_,[],_,_,_,h,_,_=>h.elim
theorem xR {b:List TypeId}(l:laidOutB P=true) (c:b.all (fun t=>P.readableRec t&&decide (t<P.types.size))=true) {W':World}(hb:Below W.heap.size W W') {k:Nat->Bool} :
  ∀{vs:List Value}{ds:List (DataW H)}{ps:List MemPlace},DataW.TrodAll enc P W 0 (fun _=>true) true b vs ds ps->(∀x∈ps,x.block<W.heap.size)->(∀x∈ps,k x.block=true)->DataW.TrodAll enc P W' 0 k true b vs ds ps:=by
 induction b with
 | nil =>
  intro vs ds ps h _ _
  match vs,ds,h with
  | [],[],h=>exact h
 | cons t b n =>
  intro vs ds ps h f j
  match vs,ds,h with
  | v::vs,d::ds,⟨p,q,m,o,e⟩ =>
   subst e;simp only[List.all_cons,Xf,X1] at c;refine⟨p,q,WideElems.Trod_stays l c.1.1 c.1.2 m (fun x a=>hb.same (f x (by simp[a]))) (fun x a=>j x (by simp[a])),n (by simpa using c.2) o (fun x a=>f x (by simp[a])) (fun x a=>j x (by simp[a])),rfl⟩
theorem xS {f:Func}{s:ChangeSpec}{W W':World}{args:Array Value}{v:Value}{ds gs:List (DataW H)}{a pa pv:List MemPlace}
  (o:DataW.Whole enc P f.params.toList s.vars false W args.toList ds gs a)
  (h:∀(b:Nat) (m:Nat->Bool) (w:Bool),DataW.TrodAll enc P W' b m w f.resultTypes.toList (v.resultList f.resultTypes.size) (s.fn H (ds++gs)).results [])
  (e:∀m:Nat->Bool,(∀p∈a,m p.block=true)->DataW.TrodAll enc P W' 0 m true f.params.toList args.toList (s.fn H (ds++gs)).args pa)
  (c:∀m:Nat->Bool,(∀p∈a,m p.block=true)->DataW.TrodVars enc P W' m s.vars (s.fn H (ds++gs)).vars pv)
  (l:a=pa++pv) (hb:Below W.heap.size W W')
  (u:∀(j:Nat) (t:TypeId) (r:Value),f.resultTypes[j]?=some t->(v.resultList f.resultTypes.size)[j]?=some r->Value.okWide P W' .any 0 t r) :
  s.post enc P f false true false false W args v W':=by
 have k:∀p∈a,(fun b=>decide (b<W.heap.size)) p.block=true:=fun p d=>by simpa using o.lt p d
 have q:∀p∈a,p.block<W.heap.size:=fun p d=>o.lt p d;refine⟨ds,gs,a,[],pa,pv,o,h _ _ _,e _ k,c _ k,World.keptBut_mono (fun p d=>⟨d,?_⟩) (hb.frame (·∈a)),fun _=>?_⟩
 ·rw[l,yo] at d;exact Or.inr d
 ·obtain⟨_,_,_,_,_,y,z⟩:=o;refine⟨u,_,_,([]++pa)++pv,⟨[]++pa,pv,trodAll_append (e _ (fun _ _=>rfl)) (h _ _ _),c _ (fun _ _=>rfl),rfl,?_,?_⟩,?_⟩
  ·intro b off d;have n:MemPlace.cell b off∈a:=by rw[l];simpa using d
   rw[hb.frozen (p:=⟨b,off,none⟩) (q _ n)];exact y b off n
  ·intro x;cases x
  ·intro p d _;rw[l];simpa using d
theorem entry {f:FuncId}{l:List TypeId}{S:List TypeId}(hS:flat P S=true) (s:∀t∈l,t∈S) {r:Reach}{u:Nat}{args:Array Value}{ds:List (DataW H)}{ps:List MemPlace}
  (d:∀(j:Nat) t v,l[j]?=some t->args.toList[j]?=some v->Value.okWide P W r u t v) (h:DataW.TrodAll enc P W 0 (fun _=>true) true l args.toList ds ps) (z:W.noneFrozen ps) (p:eF ds<=1048576)
  (y:qV (oP W)) (law:∀gs,Md P l gs->G.Wz gs<=1048576->CallsT P f (gs.map BM) [] (iZ [] (.bool true))) :
  Calls P f args W fun e W'=>e=.returned (.bool true)/\Below W.heap.size W W':=by
 obtain⟨gs,x,k2,k3⟩:=yT hS s d h z (X0 p (by decide));have w:=(law gs x (by omega)).out (oP W) [] args.toList rfl (fun k=>by rw[show(inp []).get k=none from rfl,show(iO []).get k=none from rfl];trivial) k2;have m:∀k,(inp []).get k=none:=fun _=>rfl;have n:St (oP W) (inp []) W:=⟨fun b o h=>h,fun k o h=>(by rw[m] at h;cases h),fun k o g h=>(by rw[m] at h;cases h),fun k k' o o' g h=>(by rw[m] at h;cases h),y⟩;refine Calls.mono (w.run W n) ?_;rintro e W' ⟨v,F',Lo,rfl,hs,a,Mo,c,q1,q2,q,q4,rfl,rfl⟩;simp only[Rel] at q;subst q;exact⟨rfl,a.os,a.tape,a.output,a.size,fun k p=>a.same k p (by rintro⟨_,_,h,_⟩;cases h)⟩
theorem xT {f:FuncId}{fn:Func}{s:ChangeSpec}{S:List TypeId}{tb:TypeId}(hl:laidOutB P=true) (hS:flat P S=true) (y:fn.params.toList.all (fun t=>S.contains t&&(P.readableRec t&&decide (t<P.types.size)))=true)
  (d:fn.resultTypes=#[tb]) (m:P.underlying tb=some .bool) (a:s.vars=[])
  (law:∀gs,Md P fn.params.toList gs->G.Wz gs<=1048576->CallsT P f (gs.map BM) [] (iZ [] (.bool true)))
  {r:Reach}{b0:Nat}{args:Array Value}{ds gs:List (DataW H)}{c:List MemPlace}(h:s.fn H ds={results:=[.lit (.bool true)],args:=ds})
  (n:∀(j:Nat) t v,fn.params[j]?=some t->args[j]?=some v->Value.okWide P W r b0 t v)
  (hW:DataW.Whole enc P fn.params.toList s.vars false W args.toList ds gs c) (hk:eF ds<=1048576) (hG:qV (oP W):=by exact trivial) :
  Calls P f args W fun e W'=>∃v,e=.returned v/\s.post enc P fn false true false false W args v W':=by
 have l:=hW;rw[a] at hW;obtain⟨p,q,hA,hV,rfl,w,al⟩:=hW;obtain⟨rfl,rfl⟩:=trodVars_none hV;have u:=Xo.1 y;refine(entry hS (fun t ht=>by have:=u t ht;simp only[Xf,List.contains_iff_mem] at this;exact this.1) (fun j t v h1 h2=>n j t v (by simpa using h1) (by simpa using h2)) hA (fun b o y=>w b o (List.mem_append_left _ y)) hk hG law).mono ?_;rintro e W' ⟨rfl,hb⟩;refine⟨_,rfl,xS (pa:=p) (pv:=[]) l ?_ ?_ ?_ rfl hb (ok_one d rfl (okWide_bool_mk m _))⟩
 ·intro b sp hd;simp only[Xz,h,d];exact trodAll_cons_mk (shut_bool m _) trodAll_mk0
 ·intro sp k;simp only[Xz,h];exact xR hl (Xo.2 fun t ht=>by have:=u t ht;simp only[Xf] at this ⊢;exact this.2) hb hA (fun x z=>l.lt x (by simp[z])) (fun x z=>k x (by simp[z]))
 ·intro sp k;rw[a];simp only[Xz,h];exact rfl
end
end Go.Fr.T
namespace Go.Fr.T
open Go Go.RowKit Go.Fr Go.Fr.Api
def bG (b:UInt8):G:=.int .u8 b.toNat
def P7 (P:Program) (t:TypeId) (k:IntKind):Bool:=match P.underlying t with | some (.int k')=>decide (k'=k) | _=>false
theorem NJ {P:Program}{t:TypeId}{k:IntKind}(h:P7 P t k=true) {n:Nat}{g:G}(a:Ok P n t g):∃x,g=.int k x/\(Lit.int k x).wf=true:=by
 simp only[P7] at h;split at h
 ·rename_i c b;have e:=Xw h;subst e;cases n with
  | zero=>exact a.elim
  | succ n=>simp only[Ok,b] at a;exact a
 ·cases h
theorem O6 {P:Program}{t:TypeId}(h:P7 P t .u8=true) {n:Nat}{g:G}(c:Ok P n t g):∃b:UInt8,g=bG b:=by
 obtain⟨x,rfl,a⟩:=NJ h c;simp only[Lit.wf,Xf,X1] at a;have d:0<=x:=a.1;have e:x<=255:=a.2;refine⟨UInt8.ofNat x.toNat,?_⟩;simp only[bG,UInt8.toNat_ofNat'];congr 1;omega
theorem HT {P:Program}{t e:TypeId}(c:rI P t e 1=true) (h:P7 P e .u8=true) {n:Nat}{g:G}(a:Ok P n t g):∃bs:List UInt8,g=.sl 1 (bs.map bG) :=
 j8 c a fun _ _ _ b=>O6 h b
theorem CX (bs:List UInt8):BM (.sl 1 (bs.map bG))=.sl (af bs):=by
 simp only[BM,K8 (f:=bG) (h:=fun b=>[iG b]) (fun _=>rfl),af]
theorem BN {P:Program}{t:TypeId}{a:List TypeId}{gs:List G}(h:Md P (t::a) gs):∃g r n,gs=g::r/\Ok P n t g/\Md P a r:=by
 cases gs with
 | nil=>exact h.elim
 | cons g r=>obtain⟨⟨n,b⟩,c⟩:=h;exact⟨g,r,n,rfl,b,c⟩
theorem Lb {P:Program}{gs:List G}(h:Md P [] gs):gs=[]:=by
 cases gs with
 | nil=>rfl
 | cons g r=>exact h.elim
end Go.Fr.T
namespace Go.Fr.T
open Go Go.RowKit Go.Fr
def wO:List TO->List TO->Bool
 | [],[]=>true
 | .row _ sz _::l,.row _ b _::m=>match Nat.beq sz b with | true=>wO l m | false=>false
 | .box _ _::l,.box _ _::m=>wO l m
 | .map _::l,.map _::m=>wO l m
 | .win _ _ _ _::l,.win _ _ _ _::m=>wO l m
 | _,_=>false
structure VT (j:Nat) (c0:C) (Lin:List TO) (L:TL) (ρ:aU) (v:C) (R:List TO->C->Prop):Prop where
 out:∃Mo,L.sub (List.range' 1000 Lin.length)=some Mo/\ρ j=c0/\wO Lin Mo=true/\(tu [v]->R (Mo.map (TO.Wv (C.ren (cn (List.range' 1000 Lin.length) 1000)))) (v.WM.ren (cn (List.range' 1000 Lin.length) 1000)))
section
variable {P:Program}{G:Nat->Option (Nat×TypeId)}{F:aA}{L:Loc}{ρ:Env}{M:TL}{τ:aU}{a:Act}{w:World}
end
section
variable {P:Program}{L:TL}{ρ:aU}
end
theorem u6 {Li Li':List Own}(hb:Li.map Own.blk=Li'.map Own.blk) {k:Nat}{o:Own}(h:(inp Li').get k=some o):∃o',(inp Li).get k=some o'/\o'.blk=o.blk:=by
 rw[aT] at h ⊢;split at h
 ·rename_i b;rw[j3 b];have a:(Li'.map Own.blk)[k-1000]?=some o.blk:=by rw[XR,h];rfl
  rw[<-hb,XR] at a;cases e:Li[k-1000]? with
  | none=>rw[e] at a;cases a
  | some o'=>rw[e] at a;injection a with a;exact⟨o',rfl,a⟩
 ·cases h
theorem St.swap {F:aA}{w:World}{Li Li':List Own}(hb:Li.map Own.blk=Li'.map Own.blk) (p:∀o∈Li',o.ok w) (a:St F (inp Li) w):St F (inp Li') w:=by
 refine⟨a.frz,fun k o h=>?_,fun k o g h e=>?_,fun k j o o' g h m e q=>?_,a.glob⟩
 ·rw[aT] at h;split at h
  ·exact p o (Xi h)
  ·cases h
 ·obtain⟨d,b,c⟩:=u6 hb h;exact a.off k d g b (c.trans e)
 ·obtain⟨d,b,c⟩:=u6 hb h;obtain⟨f,n,l⟩:=u6 hb m;exact a.sep k j d f g b n (c.trans e) (l.trans q)
theorem qD {Li Li':List Own}(hb:Li.map Own.blk=Li'.map Own.blk) {b:Nat}(h:(inp Li').owns b):(inp Li).owns b:=by
 obtain⟨k,o,a,d⟩:=h;obtain⟨o',c,e⟩:=u6 hb a;exact⟨k,o',c,e.trans d⟩
theorem Step.swap {F F':aA}{w w':World}{Li Li' Lo Lo':List Own}(hb:Li.map Own.blk=Li'.map Own.blk) (d:Lo.map Own.blk=Lo'.map Own.blk) (h:Step F (inp Li) w F' (inp Lo) w'):Step F (inp Li') w F' (inp Lo') w' :=
 ⟨h.le,h.os,h.tape,h.output,h.size,fun b c a=>h.same b c fun q=>a (qD hb.symm q),fun b a=>(h.frz b a).imp id (Or.imp (qD hb.symm) id),fun b q=>(h.own b (qD d q)).imp (qD hb.symm) id⟩
theorem Lc {w:World}{g m cap t sz:Nat}{xs:List Value}(o:t≠0) (h:Own.ok w (.row (.slice (some ⟨g,0,none⟩) m cap) t sz m xs)):∃a,Own.ok w (.box g t (xs++a))/\xs.length+a.length=cap*sz/\m<=cap/\cap<=maxLen:=by
 obtain⟨p,j | ⟨q,c,b,e,r,l,f,n,k,d⟩⟩:=h
 ·cases j.1
 ·injection e with e1 e2 e3
  injection e1 with e1
  injection e1 with e1
  subst e1 e3;refine⟨b.toList.drop (m*sz),?_,?_,f,n⟩
  ·show w.heap[g]?=some (kR t _);rw[gH o,l,<-d,List.take_append_drop]
  ·rw[<-d,<-Xg,List.take_append_drop,Array.length_toList,k]
theorem Ld {w:World}{g m cap t sz:Nat}{b a:List Value}(e:t≠0) (c:b.length=m*sz) (j:m<=cap) (d:cap<=maxLen) (f:b.length+a.length=cap*sz) (h:Own.ok w (.box g t (b++a))):Own.ok w (.row (.slice (some ⟨g,0,none⟩) m cap) t sz m b):=by
 have h:w.heap[g]?=some (kR t (b++a)):=h;rw[gH e] at h;refine⟨c,.inr ⟨g,cap,_,rfl,XG _,h,j,d,by simpa using f,?_⟩⟩;simp[<-c]
theorem aB.split {F:aA}{L:Loc}:∀{cs ds:List C}{vs:List Value},aB F L (cs++ds) vs->∃us a,vs=us++a/\aB F L cs us/\aB F L ds a
 | [],ds,vs,h=>⟨[],vs,rfl,by simp only[aB],h⟩
 | c::cs,ds,vs,h=>by
  simp only[Xu,aB] at h;obtain⟨v,f,rfl,b,e⟩:=h;obtain⟨us,a,rfl,d,j⟩:=aB.split e;exact⟨v::us,a,rfl,by simp only[aB];exact⟨_,_,rfl,b,d⟩,j⟩
theorem aL.flat {F:aA}{L:Loc}{sz:Nat}:∀{els:List (List C)}{xs:List Value},aL F sz els xs->aB F L els.flatten xs/\xs.length=els.length*sz
 | [],xs,h=>by
  simp only[aL] at h;subst h;exact⟨by simp only[List.flatten_nil,aB],by simp⟩
 | es::l,xs,h=>by
  simp only[aL] at h;obtain⟨vs,f,rfl,a,j,c,e⟩:=h;obtain⟨b,d⟩:=aL.flat (L:=L) e;refine⟨by rw[List.flatten_cons];exact c.lift.append b,?_⟩;rw[Xg,a,d,Xv,Nat.add_mul];omega
theorem aL.of_flat {F:aA}{L:Loc}{sz:Nat}:∀{els:List (List C)}{xs:List Value},(∀es∈els,es.length=sz/\dn es=true/\dH es=true)->aB F L els.flatten xs->aL F sz els xs
 | [],xs,a,h=>by
  simp only[List.flatten_nil,aB] at h;simp only[aL];exact h
 | es::l,xs,a,h=>by
  rw[List.flatten_cons] at h;obtain⟨us,j,rfl,b,f⟩:=aB.split h;obtain⟨c,k,m⟩:=a es (by simp);simp only[aL];exact⟨us,j,rfl,by rw[b.len,c],k,dV m b,aL.of_flat (fun e d=>a e (by simp[d])) f⟩
theorem yU {F:aA}{L:Loc}:∀(vs:List Value),aB F L (List.replicate vs.length .any) vs
 | []=>by simp only[XJ,List.replicate_zero,aB]
 | v::vs=>by
  simp only[Xv,X2,aB,Rel];exact⟨v,vs,rfl,trivial,yU vs⟩
def qR (k sz:Nat):C->C
 | .elr a j off=>match Nat.beq a k with | true=>.own a (j*sz+off) | false=>.elr a j off
 | c=>c
def wP:TO->Bool
 | .box _ cs=>dH cs
 | .win _ _ _ _=>false
 | _=>true
theorem Ft {F:aA}{L L':Loc}:∀{o:TO}{p:Own},wP o=true->cO F L o p->cO F L' o p
 | .box t cs,.box g b vs,a,r=>⟨r.1,dV a r.2⟩
 | .row t sz els,.row v b c n xs,_,r=>r
 | .box _ _,.row ..,_,r=>r.elim
 | .row ..,.box ..,_,r=>r.elim
 | .map _,.row ..,_,r=>r.elim
 | .map es,.box g b vs,_,r=>r
 | .win ..,.row ..,_,r=>r.elim
 | .win ..,.box ..,a,r=>by simp[wP] at a
theorem wQ {F:aA}{LA:List Own}{A:List TO}{o c:Own}{x f:TO}(e:LA.length=A.length) (m:∀y∈A,wP y=true) (h:cP F (inp (LA++[o])) (iO (A++[x]))) (l:cO F (inp (LA++[c])) f c) :
  cP F (inp (LA++[c])) (iO (A++[f])):=by
 intro k;have b:=h k;rw[ck,aT] at b ⊢;split
 ·rename_i d;rw[j3 d,j3 d] at b
  by_cases a:k-1000<A.length
  ·rw[Xl a,Xl (by omega)] at b ⊢;rw[x5 a,x5 (by omega:k-1000<LA.length)] at b ⊢;exact Ft (m _ (List.getElem_mem _)) b
  ·by_cases j:k-1000=A.length
   ·rw[Xr (by omega),Xr (by omega),j,e];simp only[e,Nat.sub_self,Xp];exact l
   ·rw[Xn (by simp;omega),Xn (by simp;omega)];trivial
 ·trivial
theorem qe {LB:List Own}{o b p:Own}{k:Nat}(h:(inp (LB++[b])).get k=some p):(inp (LB++[o])).get k=some p\/p=b:=by
 rw[aT] at h ⊢;split at h
 ·rename_i c;rw[j3 c]
  by_cases a:k-1000<LB.length
  ·rw[Xl a] at h ⊢;exact .inl h
  ·by_cases d:k-1000=LB.length
   ·rw[Xr (by omega),d] at h;simp only[Nat.sub_self,Xp,xo] at h;exact .inr h.symm
   ·rw[Xn (by simp;omega)] at h;cases h
 ·cases h
theorem St.WT {F:aA}{w:World}{LB:List Own}{o:Own}{t sz:Nat}(a:St F (inp (LB++[o])) w):St F (inp (LB++[.row (.slice none 0 0) t sz 0 []])) w:=by
 refine⟨a.frz,fun k p h=>?_,fun k p g h e=>?_,fun k d p f g h b e c=>?_,a.glob⟩
 ·rcases qe (o:=o) h with h | rfl
  ·exact a.own k p h
  ·exact World.ownsRow_nil w 0 t sz
 ·rcases qe (o:=o) h with h | rfl
  ·exact a.off k p g h e
  ·cases e
 ·rcases qe (o:=o) h with h | rfl
  ·rcases qe (o:=o) b with b | rfl
   ·exact a.sep k d p f g h b e c
   ·cases c
  ·cases e
theorem Step.WT {F F':aA}{w w':World}{L:Loc}{LB:List Own}{o:Own}{t sz:Nat}(h:Step F L w F' (inp (LB++[o])) w'):Step F L w F' (inp (LB++[.row (.slice none 0 0) t sz 0 []])) w' :=
 ⟨h.le,h.os,h.tape,h.output,h.size,h.same,h.frz,fun b ⟨k,p,a,c⟩=>by
  rcases qe (o:=o) a with a | rfl
  ·exact h.own b ⟨k,p,a,c⟩
  ·cases c⟩
theorem CallsTX.elem {P:Program}{f:Nat}{args:List C}{A:List TO}{t sz:Nat}{els:List (List C)}{R:Nat->List TO->C->Prop}{R':List TO->C->Prop}{Pp:Value->Prop}(he:mg P f) (aa:IK t=true) (hA:∀o∈A,wP o=true) (cc:∀o∈A,∃t cs,o=.box t cs)
  (ax:∀c∈args,(∃j off,c=.elr (1000+A.length) j off)\/(c.kill (1000+A.length)=c/\qR (1000+A.length) sz c=c)) (ci:∃j off,.elr (1000+A.length) j off∈args)
  (h:∀m,CallsTX P f (args.map (qR (1000+A.length) sz)) (A++[.box t (els.flatten++List.replicate m .any)]) (R m) Pp)
  (hR:∀m Mo c,R m Mo c->∃A' b,Mo=A'++[.box t (b.flatten++List.replicate m .any)]/\A'.length=A.length/\b.length=els.length/\(∀es∈b,es.length=sz/\dn es=true/\dH es=true)/\(∀o∈A',wP o=true) /\
   (∀(F:aA) (L L':Loc) v,Rel F L c v->Rel F L' c v)/\R' (A'++[.row t sz b]) c):kC P f args (A++[.row t sz els]) R' Pp:=by
 have ht:t≠0:=by
  intro e;subst e;cases aa
 have cr:t<1048576:=by
  simp only[IK] at aa;split at aa
  ·cases aa
  ·have:=Xq aa;omega
 refine⟨fun F Li vs hl av hr=>?_⟩;obtain⟨LA,o,rfl⟩:∃LA o,Li=LA++[o]:=by
  have hn:Li≠[]:=by intro e;rw[e] at hl;simp at hl
  exact⟨Li.dropLast,Li.getLast hn,(List.dropLast_concat_getLast hn).symm⟩
 have s:LA.length=A.length:=by simpa using hl
 have x:∀o,(inp (LA++[o])).get (1000+A.length)=some o:=fun o=>by
  rw[aT,j3 (by omega),show 1000+A.length-1000=A.length by omega,Xr (by omega),s];simp
 have l:=av (1000+A.length);rw[x,ck,j3 (by omega),show 1000+A.length-1000=A.length by omega,Xr (by omega)] at l;simp only[Nat.sub_self,Xp] at l;cases o with
 | box g t' cs=>exact l.elim
 | row v0 t' dA n xs =>
  obtain⟨rfl,rfl,hn,co,ar⟩:=l;obtain⟨j,off,hm⟩:=ci;obtain⟨i,hi⟩:=List.getElem?_of_mem hm;obtain⟨bb,cd⟩:=jn.1 hr;have bt:i<vs.length:=by rw[bb];exact(Xe.1 hi).1
  have ac:=cd i _ _ hi (x5 bt);simp only[Rel] at ac;obtain⟨ad,t2,dd,n2,c2,cy,dk,p⟩:=ac;rw[x] at p;injection p with p
  injection p with e1 e2 e3 e4 e5
  subst e1 e2 e3 e4 e5;refine⟨he,fun F G L v bz r=>⟨gu.WH _ _ _ _ bz r.1,r.2⟩,fun w hs=>?_⟩;have ba:Own.ok w (.row (.slice (some ad) n c2) t sz n xs):=hs.own _ _ (x _);have bv:∃g,ad=⟨g,0,none⟩:=by
   obtain⟨h1,h2 | ⟨g,cap,dl,e,_⟩⟩:=id ba
   ·cases h2.1
   ·injection e with e1 e2 e3
    injection e1 with e1
    exact⟨g,e1⟩
  obtain⟨g,rfl⟩:=bv;obtain⟨a,ay,bx,da,cf⟩:=Lc ht ba;obtain⟨q1,q2⟩:=aL.flat (L:=inp (LA++[.box g t (xs++a)])) ar;have ag:(LA++[Own.row (.slice (some ⟨g,0,none⟩) n c2) t sz n xs]).map Own.blk=(LA++[Own.box g t (xs++a)]).map Own.blk:=by simp[Own.blk,Value.ownBlock]
  have cM:St F (inp (LA++[.box g t (xs++a)])) w:=St.swap ag (fun o l=>by
   rcases yo.1 l with l | l
   ·obtain⟨i,hi⟩:=List.getElem?_of_mem l;have q:=(Xe.1 hi).1;exact hs.own (1000+i) o (by rw[aT,j3 (by omega),show 1000+i-1000=i by omega,Xl q];exact hi)
   ·rw[XU.1 l];exact ay) hs
  have be:cP F (inp (LA++[.box g t (xs++a)])) (iO (A++[.box t (els.flatten++List.replicate a.length .any)])):=wQ s hA av ⟨⟨cr,.inl rfl,ht⟩,q1.append (yU a)⟩;have cw:aB F (inp (LA++[.box g t (xs++a)])) (args.map (qR (1000+A.length) sz)) vs:=by
   refine aB.map (fun c hc v hv=>?_) hr;rcases ax c hc with⟨j,off,rfl⟩ | ⟨k1,k2⟩
   ·simp only[Rel] at hv;obtain⟨ad,t2,dd,n2,dB,cy,rfl,al⟩:=hv;rw[x] at al;injection al with al
    injection al with e1 e2 e3 e4 e5
    injection e1 with e1 e6 e7
    injection e1 with e1
    subst e1 e3;have:Nat.beq (1000+A.length) (1000+A.length)=true:=Nat.beq_refl _;simp only[qR,this,Rel];exact⟨g,t,_,x _,by rw[bV,Nat.zero_add]⟩
   ·rw[k2,<-k1];refine Rel.mp (jY (k:=1000+A.length) (fun g t cs e=>by rw[x] at e;cases e) (fun j hj o l=>?_) (aA.le_refl F)) 3 hv;refine⟨o,?_,Own.Wx o⟩;rw[aT] at l ⊢;split at l
    ·rename_i h1;rw[j3 h1]
     by_cases q:j-1000<LA.length
     ·rw[Xl q] at l ⊢;exact l
     ·rw[Xn (by simp;omega)] at l;cases l
    ·cases l
  refine Calls.mono (((h a.length).out F _ vs (by simp[s]) be cw).run w cM) ?_;rintro e w' (⟨v,F',Lo,rfl,g1,g2,Mo,c',q1,q2,q3,q4,q5⟩ | ⟨v,ch,F',Lo,rfl,hc,g1,g2,g3,g4,g5⟩)
  ·obtain⟨A',b,rfl,l1,l2,p1,p2,p3,p4⟩:=hR _ _ _ q5;obtain⟨LB,o',rfl⟩:∃LB o,Lo=LB++[o]:=by
    have hn:Lo≠[]:=by intro e;rw[e] at q1;simp at q1
    exact⟨Lo.dropLast,Lo.getLast hn,(List.dropLast_concat_getLast hn).symm⟩
   have u:LB.length=A'.length:=by simp at q1;omega
   have bs:∀o,(inp (LB++[o])).get (1000+A.length)=some o:=fun o=>by
    rw[aT,j3 (by omega),show 1000+A.length-1000=A.length by omega,Xr (by omega),u,l1];simp
   obtain⟨cs',aw⟩:=q4 A.length g t (xs++a) (by rw[Xr (by omega),s];simp);rw[Xr (by omega),u,l1] at aw;simp only[Nat.sub_self,Xp,xo] at aw;subst aw;have hk:=q2 (1000+A.length);rw[bs,ck,j3 (by omega),show 1000+A.length-1000=A.length by omega,Xr (by omega),l1] at hk;simp only[Nat.sub_self,Xp] at hk;obtain⟨_,hk⟩:=hk;obtain⟨us,ws,rfl,r1,r2⟩:=aB.split hk;have z:=aL.of_flat p1 r1;have bm:=(aL.flat (L:=inp []) z).2;have cx:ws.length=a.length:=by rw[r2.len,XW]
   have ca:=(aL.flat (L:=inp []) ar).2;have bk:n=b.length:=by omega
   have bd:us.length+ws.length=c2*sz:=by rw[bm,cx,l2,<-ca];exact bx
   have bi:Own.ok w' (.row (.slice (some ⟨g,0,none⟩) n c2) t sz n us):=Ld ht (by rw[bm,bk]) da cf bd (g1.own _ _ (bs _));have y:(LB++[Own.box g t (us++ws)]).map Own.blk=(LB++[Own.row (.slice (some ⟨g,0,none⟩) n c2) t sz n us]).map Own.blk:=by simp[Own.blk,Value.ownBlock]
   have bc:cO F' (inp (LB++[.row (.slice (some ⟨g,0,none⟩) n c2) t sz n us])) (.row t sz b) (.row (.slice (some ⟨g,0,none⟩) n c2) t sz n us):=⟨rfl,rfl,bk,⟨co.1,_,_,rfl,fun e=>by cases e⟩,z⟩;refine .inl ⟨v,F',LB++[.row (.slice (some ⟨g,0,none⟩) n c2) t sz n us],rfl,St.swap y (fun o l=>?_) g1,Step.swap ag.symm y g2,⟨A'++[.row t sz b],c',by simp[u],wQ u p2 q2 bc,p3 _ _ _ _ q3,fun i g0 t0 ae d=>?_,p4⟩,by simp[u,l1,s],fun i o0 d=>?_⟩
   ·rcases yo.1 l with l | l
    ·obtain⟨i,hi⟩:=List.getElem?_of_mem l;have q:=(Xe.1 hi).1;exact g1.own (1000+i) o (by rw[aT,j3 (by omega),show 1000+i-1000=i by omega,Xl q];exact hi)
    ·rw[XU.1 l];exact bi
   ·by_cases q:i<A.length
    ·rw[Xl (by omega)] at d;obtain⟨ao,h1⟩:=q4 i g0 t0 ae (by rw[Xl (by omega)];exact d);rw[Xl (by omega)] at h1 ⊢;exact⟨ao,h1⟩
    ·exfalso;rw[Xr (by omega)] at d
     by_cases he:i=A.length
     ·rw[he,s] at d;simp at d
     ·rw[Xn (by simp;omega)] at d;cases d
   ·by_cases q:i<A.length
    ·rw[Xl (by omega)] at d;obtain⟨tb,du,df⟩:=cc A[i] (List.getElem_mem _);have ac:=av (1000+i);rw[aT,ck,j3 (by omega),j3 (by omega),show 1000+i-1000=i by omega,Xl (by omega),Xl (by omega),d,x5 q,df] at ac;cases o0 with
     | row=>exact ac.elim
     | box g0 t0 ae =>
      obtain⟨ao,h1⟩:=q4 i g0 t0 ae (by rw[Xl (by omega)];exact d);rw[Xl (by omega)] at h1 ⊢;exact⟨_,h1,rfl,rfl⟩
    ·rw[Xr (by omega)] at d
     by_cases he:i=A.length
     ·rw[he,s] at d;simp at d;subst d;exact⟨.row (.slice (some ⟨g,0,none⟩) n c2) t sz n us,by rw[he,Xr (by omega),u,l1];simp,rfl,rfl,rfl⟩
     ·rw[Xn (by simp;omega)] at d;cases d
  ·obtain⟨LB,o',rfl⟩:∃LB o,Lo=LB++[o]:=by
    have hn:Lo≠[]:=by intro e;rw[e] at g3;simp at g3
    exact⟨Lo.dropLast,Lo.getLast hn,(List.dropLast_concat_getLast hn).symm⟩
   have u:LB.length=LA.length:=by simpa using g3
   refine .inr ⟨v,ch,F',LB++[.row (.slice none 0 0) t sz 0 []],rfl,hc,St.WT g1,Step.WT (Step.swap ag.symm rfl g2),by simp[u],fun i g0 t0 ae d=>?_,g5⟩
   by_cases q:i<A.length
   ·rw[Xl (by omega)] at d;obtain⟨ao,h1⟩:=g4 i g0 t0 ae (by rw[Xl (by omega)];exact d);rw[Xl (by omega)] at h1 ⊢;exact⟨ao,h1⟩
   ·exfalso;rw[Xr (by omega)] at d
    by_cases he:i=A.length
    ·rw[he,s] at d;simp at d
    ·rw[Xn (by simp;omega)] at d;cases d
theorem kC.toX {P:Program}{f:Nat}{args:List C}{Lin:List TO}{R:List TO->C->Prop}{Pp:Value->Prop}(h:kC P f args Lin R Pp):CallsTX P f args Lin R Pp :=
 ⟨fun F Li vs b c n=>let q:=h.out F Li vs b c n
  ⟨q.ent,fun F G L v a r=>gu.WH _ _ _ _ a r,fun w j=>(q.run w j).mono fun _ _ k=>k.imp (fun⟨v,F',Lo,m,l,e,d⟩=>⟨v,F',Lo,m,l,e,d.1⟩) id⟩⟩
theorem m8 {P:Program}{L:TL}{ρ:aU}(ks:List Nat) {PS:o7}{Pp:Value->Prop}{f:Nat}{args a:List C}{K:TL->aU->C->Prop}{R:List TO->C->Prop}{Lin Lin':List TO}(h:kC P f a Lin' R Pp) (l:L.sub ks=some Lin) (e:bE ks=true)
  (j:(args.map fun c=>c.WA.ren (cn ks 1000))=a) (b:Lin.map (TO.Wv (C.ren (cn ks 1000)))=Lin') (m:∀v,Pp v->PS.ps v)
  (k:∀v Mo,R Mo v->Wf v->(∀o∈Mo,o.Wf)->ks.length=Mo.length/\K ((L.Wu ks).puts ks (Mo.map (TO.Wv (C.ren (aW ks))))) ρ (v.ren (aW ks)).slt) (d:kU L ks PS.hb=true:=by rfl):oh P PS f args L ρ K:=by
 subst j b;exact .inpl ks Lin R Pp l e d h m k
def vw (l a:List TO):Prop:=l.length=a.length/\∀(i:Nat) (o o':TO),l[i]?=some o->a[i]?=some o'->∀(F:aA) (L:Loc) (p:Own),cO F L o p->cO F L o' p
theorem vw.refl (l:List TO):vw l l:=⟨rfl,fun i o o' b a F L p r=>by rw[b] at a;injection a with a;subst a;exact r⟩
theorem vw.cons {o o':TO}{l e:List TO}(h:∀(F:aA) (L:Loc) (p:Own),cO F L o p->cO F L o' p) (k:vw l e):vw (o::l) (o'::e) :=
 ⟨by simp[k.1],fun i a b c d=>by
  cases i with
  | zero=>simp only[Xp,xo] at c d;subst c d;exact h
  | succ i=>exact k.2 i a b (by simpa using c) (by simpa using d)⟩
theorem vw.same {o:TO}{l a:List TO}(k:vw l a):vw (o::l) (o::a):=.cons (fun _ _ _ r=>r) k
theorem vw.tl {F:aA}{Li:List Own}{l e:List TO}(h:vw l e) (r:cP F (inp Li) (iO l)):cP F (inp Li) (iO e):=by
 intro k;have b:=r k;rw[ck,aT] at b ⊢;split
 ·rename_i f;rw[j3 f,j3 f] at b
  by_cases c:k-1000<l.length
  ·have a:k-1000<e.length:=by rw[<-h.1];exact c
   rw[x5 c] at b;rw[x5 a];cases d:Li[k-1000]? with
   | none=>rw[d] at b;exact b.elim
   | some p =>
    rw[d] at b;exact h.2 _ _ _ (x5 c) (x5 a) _ _ _ b
  ·have a:¬k-1000<e.length:=by rw[<-h.1];exact c
   rw[Xn (by omega)] at b;rw[Xn (by omega)];cases d:Li[k-1000]? with
   | none=>trivial
   | some p=>rw[d] at b;exact b.elim
 ·trivial
theorem gu.view {Li:List Own}{R R':List TO->C->Prop}(a:∀Mo c,R Mo c->∃Mo',vw Mo Mo'/\R' Mo' c) {F:aA}{Lo:List Own}{v:Value}(h:gu Li R F Lo v):gu Li R' F Lo v:=by
 obtain⟨Mo,c,d,e,j,l,f⟩:=h;obtain⟨Mo',b,k⟩:=a Mo c f;exact⟨Mo',c,by rw[<-b.1,d],b.tl e,j,l,k⟩
theorem CallsTX.view {P:Program}{f:Nat}{args:List C}{Lin Lin':List TO}{R R':List TO->C->Prop}{Pp Pp':Value->Prop}(h:CallsTX P f args Lin R Pp) (a:vw Lin' Lin) (b:∀Mo c,R Mo c->∃Mo',vw Mo Mo'/\R' Mo' c) (x:∀v,Pp v->Pp' v) :
  CallsTX P f args Lin' R' Pp' :=
 ⟨fun F Li vs n p y=>let q:=h.out F Li vs (by rw[n,a.1]) (a.tl p) y
  ⟨q.ent,fun F G L v d r=>gu.WH _ _ _ _ d r,fun w t=>(q.run w t).mono fun _ _ k=>k.imp (fun⟨v,F',Lo,m,l,j,e⟩=>⟨v,F',Lo,m,l,j,gu.view b e⟩) fun⟨v,z,F',Lo,m,l,j,e,s,u,o⟩=>⟨v,z,F',Lo,m,l,j,e,s,u,x v o⟩⟩⟩
theorem CallsTX.imp {P:Program}{f:Nat}{args:List C}{Lin:List TO}{R R':List TO->C->Prop}{Pp Pp':Value->Prop}(h:CallsTX P f args Lin R Pp) (a:∀Mo c,R Mo c->R' Mo c) (b:∀v,Pp v->Pp' v):CallsTX P f args Lin R' Pp' :=
 h.view (vw.refl _) (fun Mo c r=>⟨Mo,vw.refl _,a Mo c r⟩) b
def bY (l:List C):Prop:=∀c∈l,c.pure=true\/c=.any
theorem bY.rel {F:aA}{L L':Loc}:∀{l:List C}{vs:List Value},bY l->aB F L l vs->aB F L' l vs
 | [],vs,_,h=>by simp only[aB] at h ⊢;exact h
 | c::l,vs,hi,h=>by
  simp only[aB] at h ⊢;obtain⟨v,a,rfl,b,f⟩:=h;refine⟨v,a,rfl,?_,bY.rel (fun c d=>hi c (by simp[d])) f⟩;rcases hi c (by simp) with j | rfl
  ·have:=dV (L':=L') (cs:=[c]) (vs:=[v]) (by simp only[dH,j]) (by simp only[aB];exact⟨v,[],rfl,b,rfl⟩);simp only[aB] at this;obtain⟨u,us,e,k,_⟩:=this;injection e with e
   rw[e];exact k
  ·simp only[Rel]
theorem bY.append {l m:List C}(h:bY l) (k:bY m):bY (l++m):=fun c a=>by
 rcases yo.1 a with a | a
 ·exact h c a
 ·exact k c a
theorem bY.set {l:List C}{o:Nat}{c:C}(h:bY l) (b:c.pure=true):bY (l.set o c):=fun d a=>by
 rcases List.mem_or_eq_of_mem_set a with a | rfl
 ·exact h d a
 ·exact .inl b
theorem bY.take {l:List C}(h:bY l) (n:Nat):bY (l.take n):=fun c a=>h c (List.mem_of_mem_take a)
theorem bY.drop {l:List C}(h:bY l) (n:Nat):bY (l.drop n):=fun c a=>h c (List.mem_of_mem_drop a)
theorem aO {l:List C}(h:dH l=true):bY l:=fun c a=>.inl (og.1 h c a)
theorem yV (n:Nat):bY (List.replicate n .any):=fun c a=>.inr (List.eq_of_mem_replicate a)
theorem mV {t:TypeId}{pre cs post pre' cs' post':List C}(h:pre++(cs++post)=pre'++(cs'++post')) (d:bY pre') (l:bY post') (F:aA) (L:Loc) (p:Own) (r:cO F L (.win t pre cs post) p):cO F L (.win t pre' cs' post') p:=by
 cases p with
 | row=>exact r.elim
 | box g w vs =>
  obtain⟨f,v1,j,v3,rfl,m,v,n⟩:=r;have b:aB F L (pre++(cs++post)) (v1++(j++v3)):=m.lift.append (v.append n.lift);rw[h] at b;obtain⟨u,s,e,c,a⟩:=aB.split b;obtain⟨o,q,rfl,a,k⟩:=aB.split a;exact⟨f,u,o,q,e,d.rel c,a,l.rel k⟩
theorem u7 {t:TypeId}{cs pre' cs' post':List C}(h:cs=pre'++(cs'++post')) (d:bY pre') (j:bY post') (F:aA) (L:Loc) (p:Own) (r:cO F L (.box t cs) p):cO F L (.win t pre' cs' post') p:=by
 cases p with
 | row=>exact r.elim
 | box g o vs =>
  obtain⟨e,b⟩:=r;rw[h] at b;obtain⟨n,m,rfl,c,a⟩:=aB.split b;obtain⟨k,l,rfl,a,f⟩:=aB.split a;exact⟨e,n,k,l,rfl,d.rel c,a,j.rel f⟩
theorem Ab {t:TypeId}{cs pre' cs' post':List C}(h:cs=pre'++(cs'++post')) (F:aA) (L:Loc) (p:Own) (r:cO F L (.win t pre' cs' post') p):cO F L (.box t cs) p:=by
 cases p with
 | row=>exact r.elim
 | box g f vs =>
  obtain⟨a,v1,e,v3,rfl,b,d,c⟩:=r;subst h;exact⟨a,b.lift.append (d.append c.lift)⟩
theorem uw {sz:Nat}:∀{l:List (List C)},(∀es∈l,es.length=sz)->l.flatten.length=l.length*sz
 | [],_=>by simp
 | es::l,h=>by
  rw[List.flatten_cons,Xg,h es (by simp),uw (fun e a=>h e (by simp[a])),Xv,Nat.add_mul];omega
theorem wR {l:List (List C)}{j:Nat}{es:List C}(h:l[j]?=some es):l.flatten=(l.take j).flatten++(es++(l.drop (j+1)).flatten):=by
 have a:=(Xe.1 h).1;have b:=(Xe.1 h).2
 conv=>lhs;rw[<-List.take_append_drop j l,List.flatten_append,X6 a,List.flatten_cons,b]
theorem BP {l:List (List C)}{j:Nat}{es es':List C}(h:l[j]?=some es):(l.set j es').flatten=(l.take j).flatten++(es'++(l.drop (j+1)).flatten):=by
 have a:=(Xe.1 h).1;have b:(l.set j es')[j]?=some es':=by simp[a]
 rw[wR b,List.take_set_of_le (Xy j),List.drop_set_of_lt (by omega)]
theorem CallsTX.W8 {P:Program}{f:Nat}{fi ca:List C}{n:C}{A:TO}{t sz j:Nat}{els:List (List C)}{es:List C}{R:TO->List C->C->Prop}{Pp:Value->Prop}(b:mg P f) (ab:IK t=true) (hA:wP A=true) (ac:∃t cs,A=.box t cs)
  (d:∀c∈fi++n::ca,c.kill 1001=c/\qR 1001 sz c=c) (hj:els[j]?=some es) (k:∀e∈els,e.length=sz/\dn e=true/\dH e=true)
  (h:∀pre post,bY pre->bY post->CallsTX P f (fi++n::.own 1001 pre.length::ca) [A,.win t pre es post] (fun Mo c=>∃A' es',Mo=[A',.win t pre es' post]/\R A' es' c) Pp)
  (hR:∀A' es' c,R A' es' c->es'.length=sz/\dn es'=true/\dH es'=true/\wP A'=true/\∀(F:aA) (L L':Loc) v,Rel F L c v->Rel F L' c v) :
  kC P f (fi++n::.elr 1001 j 0::ca) [A,.row t sz els] (fun Mo c=>∃A' es',Mo=[A',.row t sz (els.set j es')]/\R A' es' c) Pp:=by
 have ag:=(Xe.1 hj).1;have s:(els.take j).flatten.length=j*sz:=by
  rw[uw (sz:=sz) (fun e b=>(k e (List.mem_of_mem_take b)).1),Xx,Nat.min_eq_left (by omega)]
 have p:∀l:List (List C),(∀e∈l,e∈els)->bY l.flatten:=fun l z c a=>by
  obtain⟨e,b,a⟩:=List.mem_flatten.1 a;exact .inl (og.1 (k e (z e b)).2.2 c a)
 have w:=p (els.take j) fun e b=>List.mem_of_mem_take b;have q:∀m,bY ((els.drop (j+1)).flatten++List.replicate m .any):=fun m=>(p _ fun e b=>List.mem_of_mem_drop b).append (yV m);have r:(fi++n::C.elr 1001 j 0::ca).map (qR 1001 sz)=fi++n::.own 1001 (els.take j).flatten.length::ca:=by
  have u:∀l:List C,(∀c∈l,qR 1001 sz c=c)->l.map (qR 1001 sz)=l:=fun l z=>by
   conv=>rhs;rw[<-List.map_id l]
   exact X8 fun c a=>z c a
  rw[List.map_append,Xj,Xj,u fi (fun c a=>(d c (by simp[a])).2),u ca (fun c a=>(d c (by simp[a])).2),(d n (by simp)).2,s];rfl
 refine CallsTX.elem (A:=[A]) (R:=fun m Mo c=>∃A' es',Mo=[A',.box t ((els.set j es').flatten++List.replicate m .any)]/\R A' es' c) b ab (fun o x=>by rw[XU.1 x];exact hA) (fun o x=>by rw[XU.1 x];exact ac) ?_ ⟨j,0,by simp⟩ (fun m=>?_) ?_
 ·intro c a;rcases yo.1 a with a | a
  ·exact .inr (d c (by simp[a]))
  ·rcases Xh.1 a with rfl | a
   ·exact .inr (d c (by simp))
   ·rcases Xh.1 a with rfl | a
    ·exact .inl ⟨j,0,rfl⟩
    ·exact .inr (d c (by simp[a]))
 ·show CallsTX P f ((fi++n::C.elr 1001 j 0::ca).map (qR 1001 sz)) _ _ Pp;rw[r];refine(h _ _ w (q m)).view (vw.same (vw.cons (u7 (by rw[wR hj];simp) w (q m)) (vw.refl []))) ?_ (fun _ h=>h);rintro Mo c ⟨A',es',rfl,y⟩;exact⟨_,vw.same (vw.cons (Ab rfl) (vw.refl [])),A',es',by rw[BP hj];simp,y⟩
 ·rintro m Mo c ⟨A',es',rfl,y⟩;obtain⟨r1,r2,r3,r4,r5⟩:=hR A' es' c y;refine⟨[A'],els.set j es',rfl,rfl,by simp,fun e b=>?_,fun o x=>by rw[XU.1 x];exact r4,r5,A',es',rfl,y⟩;rcases List.mem_or_eq_of_mem_set b with b | rfl
  ·exact k e b
  ·exact⟨r1,r2,r3⟩
end Go.Fr.T
namespace Go.Fr.T
open Go Go.RowKit Go.Fr Go.Fr.Api
theorem qf {a:Sort _}{p:a->Prop}{K:Prop}(h:∃x,p x) (H:∀x,p x->K):K:=h.elim H
theorem ef {a:Type}{l:List a}{k:Nat}{K:Prop}(h:k<l.length) (H:∀x,l[k]?=some x->x∈l->l.drop k=x::l.drop (k+1)->K):K:=H l[k] (x5 h) (List.getElem_mem h) (X6 h)
section
variable {P:Program}{L:TL}{ρ:aU}
end
end Go.Fr.T
namespace Go.Fr.T
open Go Go.RowKit Go.Fr
end Go.Fr.T
namespace Go.Fr
open Go Go.RowKit
def Loc.WI (L L':Loc):Prop:=∃r:Nat->Nat,(∀k o,L'.get k=some o->L.get (r k)=some o\/∃t sz,o=.row (.slice none 0 0) t sz 0 [])/\∀k a,(L'.get k).isSome=true->(L'.get a).isSome=true->r k=r a->k=a
section
variable {F:aA}{L:Loc}{w:World}
theorem St.WI {L':Loc}(b:St F L w) (h:L.WI L'):St F L' w:=by
 obtain⟨r,h,hi⟩:=h;refine⟨b.frz,fun k o e=>?_,fun k o g e hb=>?_,fun k f o o' g e j hb c=>?_,b.glob⟩
 ·rcases h k o e with a | ⟨t,sz,rfl⟩
  ·exact b.own _ o a
  ·exact World.ownsRow_nil w 0 t sz
 ·rcases h k o e with a | ⟨t,sz,rfl⟩
  ·exact b.off _ o g a hb
  ·cases hb
 ·rcases h k o e with a | ⟨t,sz,rfl⟩
  ·rcases h f o' j with d | ⟨m,l,rfl⟩
   ·exact hi k f (by rw[e];rfl) (by rw[j];rfl) (b.sep _ _ o o' g a d hb c)
   ·cases c
  ·cases hb
theorem uz {L':Loc}(h:L.WI L'):Step F L w F L' w:=by
 obtain⟨r,h,hi⟩:=h;exact⟨aA.le_refl F,rfl,rfl,rfl,Xy _,fun _ _ _=>rfl,fun b h=>.inl h,fun b ⟨k,o,e,hb⟩=>by
  rcases h k o e with a | ⟨t,sz,rfl⟩
  ·exact .inl ⟨_,o,a,hb⟩
  ·cases hb⟩
end
structure Lj (body:aA->Loc->Env->cF->Prop) (asg:List Nat) (F:aA) (L:Loc) (ρ:Env):Prop where
 out:∃(σ:Type) (x0:σ) (Inv:σ->aA->Prop) (ls:List Nat) (lv:σ->List Value) (Lf:σ->Loc) (μ:σ->Nat),
  Inv x0 F/\holds ls ((lv x0).map .v) ρ/\L.WI (Lf x0)/\(∀x,L.keeps (Lf x)) /\
  ∀x F' jk,F.le F'->Inv x F'->Real F' (Lf x)->body F' (Lf x) (puts ls ((lv x).map .v) (gF asg jk ρ)) fun F'' L'' ρ'' =>
   ∃x',Inv x' F''/\holds ls ((lv x').map .v) ρ''/\L''.WI (Lf x')/\μ x'<μ x
def gC (P:Program):aJ->(Nat->cF)->cF->cF->cF
 | .skip,_,_,N,F,L,ρ=>N F L ρ
 | .reg d,_,_,N,F,L,ρ=>aV P d F L ρ N
 | .regD d,_,_,N,F,L,ρ=>aV P d F L ρ N
 | .regX ss,_,_,N,F,L,ρ=>(∀s∈ss,∀k,rZ s=some k->L.get k=none)/\bg P (fun _ _ _=>False) (zB ss) ss F L ρ N
 | .seq a b,E,R,N,F,L,ρ=>gC P a E R (fun F L ρ=>gC P b E R N F L ρ) F L ρ
 | .cond c a b,E,R,N,F,L,ρ=>match ev ρ c with
  | .v (.bool t)=>vo t (gC P a E R N F L ρ) (gC P b E R N F L ρ)
  | _=>False
 | .block id c,E,R,N,F,L,ρ=>gC P c (fun j=>match Nat.beq j id with | true=>N | false=>E j) R N F L ρ
 | .loop asg c,E,R,_,F,L,ρ=>Lj (fun F L ρ K=>gC P c E R K F L ρ) asg F L ρ
 | .exit id,E,_,_,F,L,ρ=>E id F L ρ
 | .ret,_,R,_,F,L,ρ=>R F L ρ
section
variable {P:Program}{Q:Exit->Act->World->Prop}{K:cF}
theorem BQ {ss:List ak}{E:Nat->cF}{R N:cF}{F:aA}{L:Loc}{ρ:Env}{a:Act}{w:World}:∀(ks:List Nat),St F L w->aC L ρ a->gC P (xK ks (.regD ss)) E R N F L ρ ->
  ∃F' L' ρ',St F' L' w/\aC L' ρ' a/\Step F L w F' L' w/\aV P ss F' L' ρ' N
 | [],c,b,h=>⟨F,L,ρ,c,b,Step.refl _ _ _,by simpa only[xK,gC] using h⟩
 | k::l,c,b,h=>by
  simp only[xK,gC] at h;have m:aV P ((k::l).map ak.frz++[]) F L ρ (fun F L ρ=>aV P ss F L ρ N):=by simpa only[Xj,Xz] using h
  obtain⟨F1,L1,d,f,j,n,e⟩:=sJ (k::l) c b m;simp only[aV] at e;exact⟨F1,L1,d,f,j,n,e⟩
theorem oJ {A:cQ}:∀(c:Code) {sc:aJ},low P A c=some sc->∀{E:Nat->cF}{R N:cF}{F:aA}{L:Loc}{ρ:Env}{a:Act}{w:World},St F L w->aC L ρ a->a.tmps.size=A.n ->
  gC P sc E R N F L ρ->c.wp P (QQ A.n F L w a (cE c) (fun _ _ _=>False) E R N) a w:=by
 intro c
 induction c with
 | skip =>
  intro sc b E R N F L ρ a w s o q d;simp only[low,xo] at b;subst b;exact wp_skip ⟨F,L,ρ,s,o,q,rfl,Step.refl _ _ _,fun _ _=>rfl,d⟩
 | label l =>
  intro sc b E R N F L ρ a w s o q d;simp only[low,xo] at b;subst b;exact wp_label ⟨F,L,ρ,s,o,q,rfl,Step.refl _ _ _,fun _ _=>rfl,d⟩
 | exit id =>
  intro sc b E R N F L ρ a w s o q d;simp only[low,xo] at b;subst b;exact wp_exit ⟨F,L,ρ,s,o,q,rfl,Step.refl _ _ _,fun _ _=>rfl,d⟩
 | ret =>
  intro sc b E R N F L ρ a w s o q d;simp only[low,xo] at b;subst b;exact wp_ret ⟨F,L,ρ,s,o,q,rfl,Step.refl _ _ _,fun _ _=>rfl,d⟩
 | region r dk bc =>
  intro sc b E R N F L ρ a w s o q d;cases bc with
  | false =>
   simp only[low] at b;split at b
   case h_2=>cases b
   rename_i ss cc;injection b with b;subst b
   simp only[gC] at d;exact wp_region (m6 _ cc s o q d fun a' w' h=>h)
  | true =>
   simp only[low] at b;split at b
   case h_2=>cases b
   rename_i is cl ss h1 z;split at b
   case h_2 =>
    split at b
    case h_2=>cases b
    rename_i h3;injection b with b;subst b
    simp only[gC] at d;have h4:rX A.ord r=is:=by simp only[rX,h1]
    rw[h4] at z;exact pI z h3 s o q d.1 d.2 (fun a' w' h=>h) fun v ch a' w' F' L' _ _ _ _ _ _ h=>h.elim
   rename_i h0;split at b
   case h_2=>cases b
   rename_i h3;injection b with b;subst b
   obtain⟨F1,L1,ab,ao,ay,aa,d⟩:=BQ _ s o d;have h4:rX A.ord r=is:=by simp only[rX,h1]
   rw[h4] at z;exact rp z h3 ao ay q d fun a' w' h=>dZ.after (asg1:=[]) aa rfl (fun _ _=>rfl) h (fun _ h=>v7 h List.not_mem_nil) (fun _ h=>h)
 | seq x y am an =>
  intro sc b E R N F L ρ a w s o q d;simp only[low] at b;split at b
  case h_2=>cases b
  rename_i h1 z;injection b with b;subst b
  simp only[gC] at d;refine wp_seq (wp_mono (am h1 s o q d) ?_);intro e p w1 m;cases e with
  | normal =>
   obtain⟨F1,L1,ab,g1,g2,g3,g4,g5,g6,g7⟩:=m;refine wp_mono (an z g1 g2 g3 g7) ?_;intro e2 a2 w2 aw;cases e2<;>first
    | exact dZ.after g5 g4 g6 aw (fun j h=>yo.2 (.inl h)) (fun j h=>yo.2 (.inr h))
    | exact aw
    | exact(noPan aw).elim
  | exit id=>exact m.mono fun j h=>yo.2 (.inl h)
  | ret=>exact m.mono fun j h=>yo.2 (.inl h)
  | goto l=>exact m
  | panic c=>exact(noPan m).elim
  | outgrown=>exact m
 | cond c x y am an =>
  intro sc b E R N F L ρ a w s o q d;simp only[low] at b;split at b
  case h_2=>cases b
  rename_i h0 h1 z;injection b with b;subst b
  simp only[gC] at d;split at d
  case h_2=>exact d.elim
  rename_i t ht;have hc:a.eval c=.bool t:=by rw[aF h0 o,bB ht]
  refine wp_cond hc ?_;cases t
  ·simp only[vo] at d;refine wp_mono (an z s o q d) ?_;intro e p w1 m;cases e<;>first
    | exact m.mono fun j h=>yo.2 (.inr h)
    | exact(noPan m).elim
    | exact m
  ·simp only[vo] at d;refine wp_mono (am h1 s o q d) ?_;intro e p w1 m;cases e<;>first
    | exact m.mono fun j h=>yo.2 (.inl h)
    | exact(noPan m).elim
    | exact m
 | block id x ih =>
  intro sc b E R N F L ρ a w s o q d;simp only[low] at b;split at b
  case h_2=>cases b
  rename_i h1;injection b with b;subst b
  simp only[gC] at d;refine wp_block (wp_mono (ih h1 s o q d) ?_);intro e p w1 m;cases e with
  | exit j =>
   simp only[Exit.inBlock];simp only[QQ] at m
   by_cases hj:j=id
   ·subst hj;have hb:Nat.beq j j=true:=by simp
    rw[hb] at m;rw[j3 rfl];exact m
   ·have hb:Nat.beq j id=false:=by
     cases h:Nat.beq j id with
     | true=>exact v7 (v8 h) hj
     | false=>rfl
    rw[hb] at m;rw[vv hj];exact m
  | normal=>exact m
  | ret=>exact m
  | goto l=>exact m
  | panic c=>exact(noPan m).elim
  | outgrown=>exact m
 | loop x ih =>
  intro sc b E R N F L ρ a w s o q d;simp only[low] at b;split at b
  case h_2=>cases b
  rename_i sx h1;injection b with b;subst b
  simp only[gC] at d;obtain⟨σ,x0,Inv,ls,lv,Lf,μ,i0,i1,i2,i3,i4⟩:=d
  -- the frame at a loop's ac
  have ac:∀(y:σ) (F1:aA) (L1:Loc) (ab:Env) (p:Act) (w1:World),(∀t,p.tmps.getD t undef=conc L1 (ab t))->(∀j,j∉cE x->p.tmps.getD j undef=a.tmps.getD j undef)->holds ls ((lv y).map .v) ab ->
    aC (Lf y) (puts ls ((lv y).map .v) (gF (cE x) (fun j=>p.tmps.getD j undef) ρ)) p:=by
   intro y F1 L1 ab p w1 ci bo hh;have be:∀j k off,gF (cE x) (fun j=>p.tmps.getD j undef) ρ j=.own k off->j∉cE x/\ρ j=.own k off:=by
    intro j k off e;simp only[gF] at e;split at e
    ·cases e
    ·rename_i hm;exact⟨fun h=>(by rw[cI.2 h] at hm;cases hm),e⟩
   have cb:∀j ad i,gF (cE x) (fun j=>p.tmps.getD j undef) ρ j=.el ad i->ρ j=.el ad i:=by
    intro j ad i e;simp only[gF] at e;split at e
    ·cases e
    ·exact e
   refine⟨fun j=>?_,fun j k off e=>?_,fun j ad i e=>?_⟩
   ·rcases ri ls (lv y) ab (gF (cE x) (fun j=>p.tmps.getD j undef) ρ) ci hh j with⟨v,z,h3⟩ | z
    ·rw[z,h3];rfl
    ·rw[z];simp only[gF];split
     ·rfl
     ·rename_i hm;have hj:j∉cE x:=fun h=>by rw[cI.2 h] at hm;cases hm
      rw[bo j hj,o.eq j];cases e:ρ j with
      | v u=>rfl
      | el u i=>rfl
      | own k off =>
       obtain⟨g,ty,cs,hg⟩:=o.own j k off e;obtain⟨cs',ax⟩:=lJ (i3 y) hg;simp only[conc,hg,ax]
   ·rcases jl ls (lv y) (gF (cE x) (fun j=>p.tmps.getD j undef) ρ) j with z | ⟨v,z⟩
    ·rw[z] at e;obtain⟨_,e'⟩:=be j k off e;obtain⟨g,ty,cs,hg⟩:=o.own j k off e';obtain⟨cs',ax⟩:=lJ (i3 y) hg;exact⟨g,ty,cs',ax⟩
    ·rw[z] at e;cases e
   ·rcases jl ls (lv y) (gF (cE x) (fun j=>p.tmps.getD j undef) ρ) j with z | ⟨v,z⟩
    ·rw[z] at e;exact o.el j ad i (cb j ad i e)
    ·rw[z] at e;cases e
  refine sZ (fun n p w1=>∃(y:σ) (F1:aA),n=μ y/\F.le F1/\Inv y F1/\St F1 (Lf y) w1/\p.tmps.size=A.n/\p.defers=a.defers/\Step F L w F1 (Lf y) w1/\(∀j,j∉cE x->p.tmps.getD j undef=a.tmps.getD j undef) /\
   aC (Lf y) (puts ls ((lv y).map .v) (gF (cE x) (fun j=>p.tmps.getD j undef) ρ)) p) ?_ ?_
  ·exact⟨_,x0,F,rfl,aA.le_refl F,i0,s.WI i2,q,rfl,uz i2,fun _ _=>rfl,ac x0 F L ρ a w o.eq (fun _ _=>rfl) i1⟩
  ·rintro n p w1 ⟨y,F1,rfl,bb,bj,ao,cd,av,aa,ag,ay⟩;refine wp_mono (ih h1 ao ay cd (i4 y F1 _ bb bj ⟨w1,ao⟩)) ?_;intro e a2 w2 m;cases e with
   | normal =>
    obtain⟨F2,L2,bp,g1,g2,g3,g4,g5,g6,⟨y',k1,k2,k3,k4⟩⟩:=m;have ar:∀j,j∉cE x->a2.tmps.getD j undef=a.tmps.getD j undef:=fun j hj=>by rw[g6 j hj,ag j hj]
    exact⟨μ y',k4,y',F2,rfl,aA.le_trans bb g5.le,k1,g1.WI k3,g3,g4.trans av,(aa.trans g5).trans (uz k3),ar,ac y' F2 L2 bp a2 w2 g2.eq ar k2⟩
   | exit j=>exact dZ.after aa av ag m (fun j h=>h) (fun j h=>h)
   | ret=>exact dZ.after aa av ag m (fun j h=>h) (fun j h=>h)
   | goto l=>exact m
   | panic c=>exact(noPan m).elim
   | outgrown=>exact m
 | rangeFunc f ps x y am an=>intro sc b;simp only[low] at b;cases b
 | scope x ih =>
  intro sc b E R N F L ρ a w s o q d;simp only[low] at b;refine wp_scope_straight (wp_mono (ih b s o q d) ?_);intro e p w1 m;cases e<;>exact m
 | goto l=>intro sc b;simp only[low] at b;cases b
 | refuse da=>intro sc b;simp only[low] at b;cases b
theorem C2 {f:FuncId}{fn:Func}{c:Code}{sc:aJ}{A:cQ}{rs:List RV}{F:aA}{Lin:List Own}{R:aA->List Own->Value->Prop}(svs:List SV)
  (hf:P.funcs[f]?=some fn) (hb:fn.body=some c) (hname:(fn.name == "runtime.NumGoroutine")=false) (hl:low P A c=some sc) (hn:fn.ntmps=A.n) (hres:oN P fn.results.toList=some rs) (hlen:svs.length<=A.n)
  (hown:∀v∈svs,(∀k off,v=.own k off->∃g ty cs,(inp Lin).get k=some (.box g ty cs))/\(∀ad j,v=.el ad j->ad≠none))
  (hmono:∀F G L v,F.le G->R F L v->R G L v)
  (h:gC P sc (fun _ _ _ _=>False) (fun F' L' ρ'=>kS L' ρ' rs fun vs=>AF F' L' (gm vs) R) (fun F' L' ρ'=>kS L' ρ' rs fun vs=>AF F' L' (gm vs) R) F (inp Lin) (rS 0 svs)) :
  CallsA P f (svs.map (conc (inp Lin))).toArray F Lin R:=by
 refine⟨⟨fn,hf,by rw[hb];rfl,hname⟩,hmono,fun w hs=>?_⟩;refine calls_of_wp hf hb ?_;have he:aC (inp Lin) (rS 0 svs) {tmps:=(svs.map (conc (inp Lin))).toArray++Array.replicate (fn.ntmps-(svs.map (conc (inp Lin))).toArray.size) undef,defers:=[]}:=by
  have hin:∀t,rS 0 svs t=.v undef\/rS 0 svs t∈svs:=by
   intro t;rw[pK];simp only[XG,XA,Nat.sub_zero];cases e:svs[t]? with
   | none=>exact .inl rfl
   | some v=>exact .inr (Xi e)
  refine⟨fun t=>?_,fun t k off e=>?_,fun t ad j e=>?_⟩
  ·rw[pK];simp only[XG,XA,Nat.sub_zero,XC];cases e:svs[t]? with
   | some v =>
    have hlt:t<svs.length:=(Xe.1 e).1;rw[Array.getElem?_append_left (by simpa using hlt)];simp[e]
   | none =>
    have hge:svs.length<=t:=X3.1 e;rw[Array.getElem?_append_right (by simpa using hge)];simp only[Array.getElem?_replicate,Option.getD_none,conc];split<;>rfl
  ·rcases hin t with h1 | h1
   ·rw[h1] at e;cases e
   ·exact(hown _ h1).1 k off e
  ·rcases hin t with h1 | h1
   ·rw[h1] at e;cases e
   ·exact(hown _ h1).2 ad j e
 refine wp_mono (oJ c hl hs he (by simp[hn];omega) h) ?_;intro e a' w' hq;have fin:∀{a0:Act},dZ A.n F (inp Lin) w a0 (cE c) (fun F' L' ρ'=>kS L' ρ' rs fun vs=>AF F' L' (gm vs) R) a' w'->a'.defers=a0.defers/\∃v,(results fn a'.tmps).run P w'=.ok v w' /\
   ∃v' F' Lo,Ending.returned v=.returned v'/\St F' (inp Lo) w'/\Step F (inp Lin) w F' (inp Lo) w'/\R F' Lo v':=by
  rintro a0 ⟨F',L',ρ',g1,g2,g3,g4,g5,g6,hret⟩;obtain⟨vs,hm,⟨ko,Lo,k1,k2,k3⟩⟩:=pJ g1 g2 hres hret;refine⟨g4,gm vs,?_,gm vs,F',Lo,rfl,g1.handed k1 k2,?_,k3⟩
  ·rw[ru];rw[Array.mapM_eq_mapM_toList];simp only[Sem.run_bind,Sem.run_map];rw[hm];simp only[Result.andThen_ok,Sem.run_pure];congr 1
   match vs with
   | []=>rfl
   | [t]=>rfl
   | t::u::r =>
    simp only[gm];rw[dif_neg (by simp)]
  ·obtain⟨e1,e2⟩:=dX k1;refine⟨g5.le,g5.os,g5.tape,g5.output,g5.size,g5.same,g5.frz,fun b hb=>g5.own b ?_⟩;obtain⟨j,p,e,hb⟩:=hb;rw[aT] at e;split at e
   case isFalse=>cases e
   have hlt:j-1000<Lo.length:=(Xe.1 e).1;have hk:ko[j-1000]?=some (ko[j-1000]'(by omega)):=x5 (by omega);exact⟨_,p,by rw[e2 _ _ hk];exact e,hb⟩
 cases e with
 | normal=>exact fin hq
 | ret=>exact fin hq
 | exit j=>obtain⟨F',L',ρ',_,_,_,_,_,_,h⟩:=hq;exact h.elim
 | goto l=>exact hq.elim
 | panic c=>exact(noPan hq).elim
 | outgrown=>exact hq.elim
theorem fQ {f:FuncId}{fn:Func}{sc:aJ}{A:cQ}{rs:List RV}{F:aA}{Lin:List Own}{R:aA->List Own->Value->Prop}{args:Array Value}(svs:List SV)
  (p:P.funcs[f]?=some fn) (a:aD P A fn=some (sc,A.n,rs,false)) (l:Nat.ble svs.length A.n=true) (d:args=(svs.map (conc (inp Lin))).toArray)
  (e:∀v∈svs,(∀k off,v=.own k off->∃g ty cs,(inp Lin).get k=some (.box g ty cs))/\(∀m j,v=.el m j->m≠none))
  (b:∀F G L v,F.le G->R F L v->R G L v)
  (h:gC P sc (fun _ _ _ _=>False) (fun F' L' ρ'=>kS L' ρ' rs fun vs=>AF F' L' (gm vs) R) (fun F' L' ρ'=>kS L' ρ' rs fun vs=>AF F' L' (gm vs) R) F (inp Lin) (rS 0 svs)) :
  CallsA P f args F Lin R:=by
 subst d;unfold aD at a;split at a
 case h_2=>cases a
 rename_i c hb;split at a
 case h_2=>cases a
 rename_i s q o r;injection a with a
 injection a with e1 e2
 injection e2 with e2 e3
 injection e3 with e3 e4
 subst e1 e3;exact C2 svs p hb e4 o e2 r (Xq l) e b h
end
end Go.Fr
namespace Go.Fr.T
open Go Go.RowKit Go.Fr
def dF (p:List UInt8):List Value:=p.map fun b=>Value.int .u8 b.toNat
theorem nO (p:List UInt8):(dF p).length=p.length:=by simp[dF]
theorem Fv (p q:List UInt8):dF (p++q)=dF p++dF q:=by simp[dF]
theorem mG (p:List UInt8):∀u∈dF p,u.oneCell'=true:=by
 intro u h;simp only[dF,XI] at h;obtain⟨b,_,rfl⟩:=h;rfl
section
variable {F:aA}{L:Loc}
theorem lG:∀{p:List UInt8}{xs:List Value},aL F 1 (af p) xs->xs=dF p
 | [],xs,h=>by simpa[af,aL,dF] using h
 | b::p,xs,h=>by
  simp only[af,Xj,aL] at h;obtain⟨vs,e,rfl,j,k,a,d⟩:=h;simp only[aB,Rel] at a;obtain⟨v,c,rfl,⟨rfl,_⟩,rfl⟩:=a;rw[lG (p:=p) d];rfl
theorem oQ (p:List UInt8):aL F 1 (af p) (dF p):=lz p
theorem wU {p:List UInt8}{v:Value}(h:Rel F L (.sl (af p)) v):∃a c,v=.slice a p.length c/\p.length<=c/\p.length<=maxLen/\(bM F a 0 (dF p)\/(p.length=0/\dF p=[])):=by
 have o:(af p).length=p.length:=by simp[af]
 have e:=h;simp only[Rel] at e;obtain⟨a,c,d,k,m,s,sz,n⟩:=e;obtain⟨xs,t,l,r⟩:=iy (sz:=1) n (fun es j=>by simp only[af,XI] at j;obtain⟨b,_,rfl⟩:=j;rfl);have q:=lG r;subst q;rw[o] at d k m l;exact⟨a,c,d,k,m,l⟩
theorem tV:Rel F L (.sl []) (.slice none 0 0):=by
 simp only[Rel];exact⟨none,0,rfl,Xy _,XG _,fun _=>by simp,0,by simp[fI]⟩
theorem BR {a:Option Addr}{xs:List Value}{m:Nat}(h:bM F a 0 xs):bM F a 0 (xs.take m):=by
 obtain⟨j,d,t,l,e,hb,c,k⟩:=h;refine⟨j,d,t,l,e,hb,c,fun i v b=>k i v ?_⟩;rw[XL] at b;split at b
 ·exact b
 ·cases b
theorem lM {asg:List Nat}{b:Nat->Value}{ρ:Env}:∀{us:List Nat}{c:List SV},holds us c ρ->(us.all fun j=>!fw asg j)=true->puts us c (gF asg b ρ)=gF asg b ρ
 | [],_,_,_=>rfl
 | _::_,[],_,_=>rfl
 | k::ks,v::vs,h,a=>by
  simp only[List.all_cons,Xf] at a;simp only[puts];rw[lM h.2 a.2];have d:fw asg k=false:=by simpa using a.1
  funext j
  simp only[put];cases hb:Nat.beq j k with
  | false=>rfl
  | true =>
   have:=v8 hb;subst this;simp only[gF,d];exact h.1.symm
variable {P:Program}{f:Nat}{vs:List Value}{K:aA->Loc->Value->Prop}
end
end Go.Fr.T
namespace Go.Fr.Dm
open Go Go.RowKit Go.Fr Go.Fr.T Go.Fr.Api
def qU (h x:Int):Int:=(h*1000003+x+1).tmod 2147483647
def PE (l:List Int):Int:=l.foldl qU 7
theorem wZ {h x:Int}(b:0<=h) (a:0<=x):0<=qU h x/\qU h x<2147483647:=by
 have:0<=h*1000003+x+1:=by omega
 rw[qU,Int.tmod_eq_emod_of_nonneg this];exact⟨Int.emod_nonneg _ (by omega),Int.emod_lt_of_pos _ (by omega)⟩
def Al (bs:List UInt8):List Int:=bs.map fun b=>(b.toNat:Int)
theorem Fit.to {k:IntKind}{n m:Int}{K:Int->Prop}(h:k.wrap n=m) (a:K m):Fit k n K:=⟨by rw[h];exact a⟩
def PF (n:Nat):List UInt8:=if h:n<128 then[UInt8.ofNat n] else UInt8.ofNat (128+n % 128)::PF (n / 128)
def zig (n:Int):Nat:=if n<0 then(-2*n-1).toNat else(2*n).toNat
def RX (n:Int):List UInt8:=PF (zig n)
def NX (s:ByteArray):List UInt8:=RX s.size++s.data.toList
def Mq (l:List ByteArray):List UInt8:=l.flatMap NX
inductive SA:Option Prog->C->Prop
 | nil:SA none .nilp
 | prog (q:Prog):SA (some q) (.pt (O5 q) 0)
theorem aK (a:List UInt8):(af a).length=a.length:=by simp[af]
theorem eC {a:List UInt8}:∀es∈af a,es.length=1:=by
 intro es h;simp only[af,XI] at h;obtain⟨b,_,rfl⟩:=h;rfl
def elem {a:Type}(l:List a) (i:Int):Option a:=if i<0 then none else l[i.toNat]?
def nm (l:List ByteArray) (i:Int):ByteArray:=(elem l i).getD ⟨#[]⟩
def Ep (a:Option Prog) (k i:Int):Option (List UInt8) :=
 match a with
 | none=>none
 | some q=>if k=2 then(elem q.datas i).map fun d=>Mq [nm q.modules d.module,d.name] else none
def w7:NC:=⟨⟨#[]⟩,0,0,[],0,.mk 0 0 [],[],[],[]⟩
theorem qG {a b:List UInt8}{K:Prop}(h:a.length+b.length<=140737488355328) (k:K):rz (af a) (af b) 1 1 K :=
 ⟨eC,by rw[aK,aK];simp[maxLen];omega,by rw[aK,aK];simp;omega,k⟩
theorem Pv {a b:List UInt8}{n:Nat}(h:(a++b).length<=n):a.length<=n/\b.length<=n:=by
 simp only[Xg] at h;omega
theorem xY {a b:List (List C)}{m n:Nat}(h:a.length=m) (k:b.length=n):(a++b).length=m+n:=by rw[Xg,h,k]
theorem C6 {q:Prog}{k i:Int}{d:Api.Data}(a:k=2) (h:elem q.datas i=some d):Ep (some q) k i=some (NX (nm q.modules d.module)++NX d.name):=by
 unfold Ep;simp only[a,XA,h,X4,Mq,List.flatMap_cons,List.flatMap_nil,Xz]
theorem Ij {els:List (List C)}{j off n:Nat}{es0:List C}{K:List C->Prop}(h:els[j]?=some es0) (b:cU ((es0.drop off).take n) n=true) (k:K es0):Jz els j off n fun _=>∀es,els[j]?=some es->K es :=
 ⟨es0,h,b,fun es a=>by rw[h] at a;injection a with a;rw[<-a];exact k⟩
end Go.Fr.Dm
namespace Go.Fr.T
open Go Go.RowKit Go.Fr
section
variable {F:aA}{w:World}
end
theorem Er (L:Loc):∀(l:List TO) (n:Nat),∃Lo:List Own,ul L (iF n l)=j4 n Lo/\Lo.length=l.length/\∀i p,i<l.length->L.get (n+i)=some p->Lo[i]?=some p
 | [],n=>⟨[],rfl,rfl,fun i p h _=>v7 h (by simp)⟩
 | o::l,n=>by
  obtain⟨Lo,b,c,d⟩:=Er L l (n+1);cases o with
  | row t sz els =>
   cases e:L.get n with
   | none=>exact⟨.row (.slice none 0 0) t sz 0 []::Lo,by simp only[iF,ul,j4,b,e],by simp[c],fun i p hi a=>by
     cases i with
     | zero=>rw[Nat.add_zero,e] at a;cases a
     | succ i=>exact d i p (by simpa using hi) (by rw[<-a];congr 1;omega)⟩
   | some q=>exact⟨q::Lo,by simp only[iF,ul,j4,b,e],by simp[c],fun i p hi a=>by
     cases i with
     | zero=>rw[Nat.add_zero,e] at a;exact a
     | succ i=>exact d i p (by simpa using hi) (by rw[<-a];congr 1;omega)⟩
  | _ =>
   cases e:L.get n with
   | none=>exact⟨.row (.slice none 0 0) 0 0 0 []::Lo,by simp only[iF,ul,j4,b,e],by simp[c],fun i p hi a=>by
     cases i with
     | zero=>rw[Nat.add_zero,e] at a;cases a
     | succ i=>exact d i p (by simpa using hi) (by rw[<-a];congr 1;omega)⟩
   | some q=>exact⟨q::Lo,by simp only[iF,ul,j4,b,e],by simp[c],fun i p hi a=>by
     cases i with
     | zero=>rw[Nat.add_zero,e] at a;exact a
     | succ i=>exact d i p (by simpa using hi) (by rw[<-a];congr 1;omega)⟩
theorem CallsT.gives {P:Program}{f:Nat}{args:List C}{Lin Lin1:List TO}{R:List TO->C->Prop}(h:CallsT P f args Lin1 R) (j:gives (iO Lin) (iO Lin1) (iO Lin1)) (hl:Lin.length<=Lin1.length):CallsT P f args Lin R:=by
 refine⟨fun F Li vs h1 n h3=>?_⟩;obtain⟨Li1,d,k2,z⟩:=Er (inp Li) Lin1 1000;have d:ul (inp Li) (iO Lin1)=inp Li1:=d;have a:∀(i:Nat) p,Li[i]?=some p->Li1[i]?=some p:=by
  intro i p e;have hi:=(Xe.1 e).1;exact z i p (by omega) (by rw[aT,j3 (by omega),show 1000+i-1000=i by omega];exact e)
 have b:Ext (inp Li) (inp Li1):=by
  intro k o e;rw[aT] at e;split at e
  case isFalse=>cases e
  rename_i hk;exact⟨o,by rw[aT,j3 hk];exact a _ _ e,Own.Wx o⟩
 have r:=sG n j;rw[d] at r;have m:=h.out F Li1 vs k2 r (h3.ext (aA.le_refl F) b);refine⟨m.ent,gu.WH,fun w hs=>?_⟩;obtain⟨l,q⟩:=sH hs n j;rw[d] at l q;refine Calls.mono (m.run w l) ?_;rintro e w' ⟨v,F',Lo,rfl,s,u,Mo,c,x,r2,y,r4,r5⟩;exact⟨v,F',Lo,rfl,s,q.trans u,Mo,c,x,r2,y,fun i g t cs e=>r4 i g t cs (a _ _ e),r5⟩
theorem PI {L:TL}(k t sz:Nat) {Lin:List TO}{Lo:List TO}(b:L.get k=none) (hb:aQ Lin (List.range' 1000 Lin.length) [k]=true) (c:Lo=[.row t sz []]):oU Lin L .nils (iZ Lo (.rw 1000)):=by
 subst c;have a:Nat.beq k k=true:=by simp
 refine⟨[],[k],[(k,.row t sz [])],.nils,.rw k,[.row t sz []],rfl,.inr ⟨⟨.inr ⟨b,t,sz,rfl⟩,trivial⟩,.inr (.inr (.inr (.inl ⟨rfl,k,t,sz,rfl,b,?_⟩)))⟩,?_,rfl,hb,fun _=>⟨rfl,?_⟩⟩
 ·simp only[TL.get,a]
 ·simp only[TL.sub,TL.get,a]
 ·simp only[C.WM,C.ren,C.mp,sj,cn,a]
end Go.Fr.T
