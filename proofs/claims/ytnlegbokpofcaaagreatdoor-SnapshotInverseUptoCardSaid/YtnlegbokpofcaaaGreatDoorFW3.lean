/- Part of the proofs of the statements of this seat. -/
import Derived.Test.YtnlegbokpofcaaaGreatDoorFW2
import Derived.Test.YtnlegbokpofcaaaGreatDoorFW1
import Derived.Tactics
import Derived.Tactics2
import Derived.Defers
import Derived.Recover
import Derived.OneCell
import Derived.ChangeArms
import Derived.DataReads
import Derived.Carry
import Derived.ChangeSame
import Derived.WalkKit
import Derived.ProofKit
import Derived.OpenShut
set_option maxRecDepth 10000
set_option linter.unusedVariables false
set_option linter.unusedSimpArgs false
namespace Go.Fr.T
open Go Go.RowKit Go.Fr
section
variable {P:Program}{PS:qJ}{G:Nat->Option (Nat×TypeId)}{F:aF}{L:Loc}{ρ:Env}{M:TL}{τ:aY}{a:Act}{w:World}{Q:Exit->Act->World->Prop}{o:Oper}
theorem jt {L2:Loc}(d:aJ L ρ a) (b:aJ L2 ρ a):∀xs:List X,bE L2 ρ xs=bE L ρ xs
 | []=>rfl
 | x::xs=>by
  have:val L2 ρ x=val L ρ x:=by
   cases x with
   | t n=>exact(b.eq n).symm.trans (d.eq n)
   | c v=>rfl
   | fn f=>rfl
   | mt nm n =>
    simp only[val,ev];cases ρ n<;>rfl
  simp only[bE,this,jt d b xs]
theorem mq {f:Nat}{args:List C}{vs:List Value}{K:TL->aY->C->Prop}(k:St F L w) (u:aJ L ρ a) (x:TS G F L ρ M τ) (ha:aG F L args vs) (h:pE P f args M τ K) :
  ∃F' L',St F' L' w/\aJ L' ρ a/\Step F L w F' L' w/\dQ P f vs F' L' (fun F' L' v=>∃M' b c,TS G F' L' ρ M' b/\aT F' L' c (.v v)/\K M' b c):=by
 cases h with
 | inpl ks Lin R h1 h2 h3 h4=>exact⟨F,L,k,u,Step.refl _ _ _,vH x ha h1 h2 h3 h4⟩
 | mk h =>
 obtain⟨fz,ks,ko,h⟩:=h;obtain⟨F1,L1,M1,av,e,r,g2,j,n,z,M2,Lin,R,d,p,m,q,t,l,s,y⟩:=qo k u x ha h;rcases d with rfl | ⟨d,k2⟩
 ·exact⟨F1,_,r,g2,j,sj n z p m q t l s y⟩
 ·obtain⟨e1,e2,e3,e4,e5⟩:=rD r g2 n d k2;exact⟨F1,_,e1,e2,j.trans e3,sj e4 (z.ext (aF.le_refl F1) e5) p m q t l s y⟩
theorem qp {f:Nat}{args:List C}{vs:List Value}{K:TL->aY->C->Prop}(n:St F L w) (z:aJ L ρ a) (ht:TS G F L ρ M τ) (ha:aG F L args vs) (h:qf P PS f args M τ K) (b:PS.st=none) :
  ∃F' L',St F' L' w/\aJ L' ρ a/\Step F L w F' L' w/\fM P (zK G PS) f vs F' L' (fun F' L' v=>∃M' d c,TS G F' L' ρ M' d/\aT F' L' c (.v v)/\K M' d c):=by
 cases h with
 | inpl ks Lin R Pp h1 h2 hh h3 hp h4=>exact⟨F,L,n,z,Step.refl _ _ _,E9 ht ha h1 h2 h3 hp b hh h4⟩
 | mk h =>
 obtain⟨fz,ks,ko,h⟩:=h;obtain⟨F1,L1,M1,aE,l,u,g2,m,r,g5,M2,Lin,R,Pp,k,s,q,t,y,p,j,x,e,k9⟩:=qo n z ht ha h;rcases k with rfl | ⟨k,k2⟩
 ·exact⟨F1,_,u,g2,m,AX r g5 s q t y p j x e b k9⟩
 ·obtain⟨e1,e2,e3,e4,e5⟩:=rD u g2 r k k2;exact⟨F1,_,e1,e2,m.trans e3,AX e4 (g5.ext (aF.le_refl F1) e5) s q t y p j x e b k9⟩
theorem qq {f:Nat}{args:List C}{vs:List Value}{K:TL->aY->C->Prop}{st:TL->Value->Prop}(m:St F L w) (u:aJ L ρ a) (x:TS G F L ρ M τ) (z:aG F L args vs) (h:BR P PS.ps PS.hb st f args M τ K) (l:PS.st=some st) :
  ∃F' L',St F' L' w/\aJ L' ρ a/\Step F L w F' L' w/\fM P (zK G PS) f vs F' L' (fun F' L' v=>∃M' d c,TS G F' L' ρ M' d/\aT F' L' c (.v v)/\K M' d c):=by
 obtain⟨ks,ko,M2,Lin,R,Pp,k,q,p,r,t,n,j,s,e,y⟩:=h;have b:PS=⟨PS.ps,PS.hb,some st⟩:=by rw[<-l]
 rcases k with rfl | ⟨k,k2⟩
 ·exact⟨F,_,m,u,Step.refl _ _ _,AY x z b q p r t n j s e y⟩
 ·obtain⟨e1,e2,e3,e4,e5⟩:=rD m u x k k2;exact⟨F,_,e1,e2,e3,AY e4 (z.ext (aF.le_refl F) e5) b q p r t n j s e y⟩
theorem AZ:∀{cs:List C}{vs us:List Value},yx cs=some us->aG F L cs vs->vs=us
 | [],vs,us,h,r=>by simp only[yx,w7] at h;simp only[aG] at r;rw[r,<-h]
 | c::cs,vs,us,h,r=>by
  simp only[aG] at r;obtain⟨v,d,rfl,b,e⟩:=r;cases c<;>simp only[yx,reduceCtorEq] at h
  all_goals
   split at h
   case h_2=>cases h
   rename_i j f;injection h with h
   subst h;rw[AZ f e];simp only[Rel] at b
   first
    | rw[b.1]
    | rw[b]
theorem Kl {c:C}{u v:Value}(h:Dp c=some u) (r:Rel F L c v):v=u/\∃t x,u=.iface t x:=by
 cases c<;>simp only[Dp,reduceCtorEq] at h
 case ifc t c =>
  simp only[Rel] at r;obtain⟨x,rfl,r⟩:=r;cases c<;>simp only[Dp,reduceCtorEq] at h
  case agg cs =>
   split at h
   case h_2=>cases h
   rename_i us b;injection h with h
   subst h;simp only[Rel] at r;obtain⟨vs,rfl,r⟩:=r;rw[AZ b r];exact⟨rfl,_,_,rfl⟩
  all_goals
   injection h with h
   subst h;simp only[Rel] at r
   first
    | (obtain⟨rfl,_⟩:=r;exact⟨rfl,_,_,rfl⟩)
    | (subst r;exact⟨rfl,_,_,rfl⟩)
theorem bC.from {F1:aF}{L1:Loc}{K:dm}{c:Act}{w':World}(b:Step F L w F1 L1 w) (h:bC F1 L1 w a K c w'):bC F L w a K c w':=by
 obtain⟨F',L',ρ',k,e,d,j,f,l⟩:=h;exact⟨F',L',ρ',k,e,d,j,b.trans f,l⟩
theorem HY {own:Bool}{s:eY}{K:TK}(hs:St F L w) (n:aJ L ρ a) (e:TS G F L ρ M τ) (hd:∀k,o.dst=some k->k<a.tmps.size) (hl:iX P own o.op=some s)
  (d:bS P s o.dst M τ K):o.wp P a w (bC F L w a (Both G K)) Q:=by
 by_cases hc:lF s=true
 ·cases s<;>simp only[lF,aaZ] at hc
  ·rename_i f args;simp only[bS,fI,fk,eI] at d;obtain⟨F1,L1,y,h,q,r⟩:=mq hs n e (dD e.env args) d;refine Oper.wp_mono (fun a' w'=>bC.from q) (fK y h hd hl ?_);simp only[evalOp];rw[jt n h];exact dQ.imp r fun F' L' v ⟨M',x,c,m,j,z⟩=>m.aan j z
  ·rename_i fx args;simp only[bS,fI,fk,eI] at d;split at d
   ·rename_i f fi ca hx;obtain⟨bd,bj,e1,m,j⟩:=tP e.env hx;obtain⟨F1,L1,y,h,q,r⟩:=mq hs n e (jW e.env m j args) d;refine Oper.wp_mono (fun a' w'=>bC.from q) (fK y h hd hl ?_);simp only[evalOp,e1,mK];rw[jt n h];exact dQ.imp r fun F' L' v ⟨M',x,c,m,j,z⟩=>m.aan j z
   ·rename_i nm c hx;split at d
    case h_2=>exact d.elim
    rename_i t c;obtain⟨u,e1,hr⟩:=yG e.env hx;simp only[Rel] at hr;obtain⟨u',rfl,hu⟩:=hr;obtain⟨f',hm,d⟩:=d;have b:aG F L (c::eP τ args) ([u']++bE L ρ args++[]):=by
     rw[aaX];simp only[aaV,aa5,aG];exact⟨_,_,rfl,hu.lift,dD e.env args⟩
    obtain⟨F1,L1,y,h,q,r⟩:=mq hs n e b d;refine Oper.wp_mono (fun a' w'=>bC.from q) (fK y h hd hl ?_);have e2:mK P (ev ρ fx)=some (f',[u'],[]):=by rw[e1];simp only[mK,hm]
    simp only[evalOp,e2];rw[jt n h];exact dQ.imp r fun F' L' v ⟨M',x,c,m,j,z⟩=>m.aan j z
   ·rename_i nm t k off hx;obtain⟨g,t',cs,hg,e1⟩:=qg e.env hx;obtain⟨f',hm,d⟩:=d;have b:aG F L (.own k off::eP τ args) ([.pointer (some ⟨g,off,none⟩)]++bE L ρ args++[]):=by
     rw[aaX];simp only[aaV,aa5,aG,Rel];exact⟨_,_,rfl,⟨g,t',cs,hg,rfl⟩,dD e.env args⟩
    obtain⟨F1,L1,y,h,q,r⟩:=mq hs n e b d;refine Oper.wp_mono (fun a' w'=>bC.from q) (fK y h hd hl ?_);have e2:mK P (ev ρ fx)=some (f',[.pointer (some ⟨g,off,none⟩)],[]):=by rw[e1];simp only[Dn,mK,hm]
    simp only[evalOp,e2];rw[jt n h];exact dQ.imp r fun F' L' v ⟨M',x,c,m,j,z⟩=>m.aan j z
   ·rename_i t nm hx;split at d
    case h_2=>exact d.elim
    rename_i t' c an ad p;have e1:=Np e.env hx;obtain⟨f',hm,d⟩:=d;have ac:=dD e.env args;rw[p] at ac;simp only[aG,Rel] at ac;obtain⟨v0,l,ax,⟨u,rfl,hu⟩,ae⟩:=ac;have b:aG F L (c::an) (u::l):=by
     simp only[aG];exact⟨_,_,rfl,hu.lift,ae⟩
    obtain⟨F1,L1,y,h,q,r⟩:=mq hs n e b d;refine Oper.wp_mono (fun a' w'=>bC.from q) (fK y h hd hl ?_);have hi:∃ms,P.underlying t=some (.interface ms):=by
     unfold P8 at ad;split at ad
     ·exact⟨_,by assumption⟩
     ·cases ad
    obtain⟨ms,hi⟩:=hi;have e2:mK P (ev ρ fx)=none:=by rw[e1];rfl
    have e3:Am P (ev ρ fx) (bE L1 ρ args)=some (f',u::l):=by
     rw[jt n h,ax,e1];simp only[Am,hi,hm]
    simp only[evalOp,e2,e3];exact dQ.imp r fun F' L' v ⟨M',x,c,m,j,z⟩=>m.aan j z
   ·exact d.elim
 ·exact fK hs n hd hl (Kk (by simpa using hc) e d)
theorem HZ {own:Bool}{s:eY}{K:TK}(hs:St F L w) (q:aJ L ρ a) (j:TS G F L ρ M τ) (hd:∀k,o.dst=some k->k<a.tmps.size) (hl:iX P own o.op=some s)
  (h:vE P PS s o.dst M τ K) (hQ:∀v ch w' F' L',EC v ch->St F' L' w'->Step F L w F' L' w'->zK G PS F' L' v->Q (.panic ch) a w'):o.wp P a w (bC F L w a (Both G K)) Q:=by
 cases s<;>simp only[vE] at h<;>try (exact h.elim)
 ·rename_i f args;simp only[fI,fk,eI] at h;have key:∃F' L',St F' L' w/\aJ L' ρ a/\Step F L w F' L' w/\fM P (zK G PS) f (bE L ρ args) F' L' (fun F' L' v=>∃M' d c,TS G F' L' ρ M' d/\aT F' L' c (.v v)/\K M' (bL o.dst c d)):=by
   split at h
   ·rename_i b;exact qp hs q j (dD j.env args) h b
   ·rename_i st b;exact qq hs q j (dD j.env args) h b
  obtain⟨F1,L1,g1,g2,z,g4⟩:=key;refine Oper.wp_mono (fun a' w'=>bC.from z) (wk (PX:=zK G PS) g1 g2 hd hl ?_ fun v ch w' F' L' qc q1 q2 q3=>hQ v ch w' F' L' qc q1 (z.trans q2) q3);rw[jt q g2];exact fM.imp g4 fun F' L' v ⟨M',d,c,l,m,r⟩=>l.aan m r
 ·rename_i fx args;split at h
  ·rename_i f fi ca hx;simp only[fI,fk,eI] at h;obtain⟨al,an,e1,l,m⟩:=tP j.env hx;have key:∃F' L',St F' L' w/\aJ L' ρ a/\Step F L w F' L' w/\fM P (zK G PS) f (al++bE L ρ args++an) F' L' (fun F' L' v=>∃M' d c,TS G F' L' ρ M' d/\aT F' L' c (.v v)/\K M' (bL o.dst c d)):=by
    split at h
    ·rename_i b;exact qp hs q j (jW j.env l m args) h b
    ·rename_i st b;exact qq hs q j (jW j.env l m args) h b
   obtain⟨F1,L1,g1,g2,z,g4⟩:=key;refine Oper.wp_mono (fun a' w'=>bC.from z) (qd (PX:=zK G PS) (f:=f) (fi:=al) (ca:=an) g1 g2 hd hl (by rw[e1];simp only[mK]) ?_ fun v ch w' F' L' qc q1 q2 q3=>hQ v ch w' F' L' qc q1 (z.trans q2) q3);rw[jt q g2];exact fM.imp g4 fun F' L' v ⟨M',d,c,l,m,r⟩=>l.aan m r
  ·rename_i nm t k off hx;simp only[fI,fk,eI] at h;obtain⟨g,t',cs,hg,e1⟩:=qg j.env hx;obtain⟨f',hm,h⟩:=h;have p:aG F L (.own k off::eP τ args) ([.pointer (some ⟨g,off,none⟩)]++bE L ρ args++[]):=by
    rw[aaX];simp only[aaV,aa5,aG,Rel];exact⟨_,_,rfl,⟨g,t',cs,hg,rfl⟩,dD j.env args⟩
   have key:∃F' L',St F' L' w/\aJ L' ρ a/\Step F L w F' L' w/\fM P (zK G PS) f' ([.pointer (some ⟨g,off,none⟩)]++bE L ρ args++[]) F' L' (fun F' L' v=>∃M' d c,TS G F' L' ρ M' d/\aT F' L' c (.v v)/\K M' (bL o.dst c d)):=by
    split at h
    ·rename_i b;exact qp hs q j p h b
    ·rename_i st b;exact qq hs q j p h b
   obtain⟨F1,L1,g1,g2,z,g4⟩:=key;refine Oper.wp_mono (fun a' w'=>bC.from z) (qd (PX:=zK G PS) (f:=f') (fi:=[.pointer (some ⟨g,off,none⟩)]) (ca:=[]) g1 g2 hd hl (by rw[e1];simp only[Dn,mK,hm]) ?_ fun v ch w' F' L' qc q1 q2 q3=>hQ v ch w' F' L' qc q1 (z.trans q2) q3);rw[jt q g2];exact fM.imp g4 fun F' L' v ⟨M',d,c,l,m,r⟩=>l.aan m r
  ·exact h.elim
 ·rename_i x;have h:∃u,Dp (cB τ x)=some u/\mF M [] PS.hb=true/\PS.ps u/\∀s,PS.st=some s->s M u:=by
   split at h
   ·rename_i b;obtain⟨u,l,n,m⟩:=h;exact⟨u,l,n,m,fun s e=>by rw[b] at e;cases e⟩
   ·rename_i st b;obtain⟨u,l,n,m,r⟩:=h;exact⟨u,l,n,m,fun s e=>by rw[b] at e;injection e with e;subst e;exact r⟩
  obtain⟨u,l,n,m,r⟩:=h;have hr:=mh (dS j.env x);have hc:(cB τ x).cel=cB τ x:=by
   cases e:cB τ x<;>rw[e] at l<;>first | rfl | (simp only[Dp,reduceCtorEq] at l;done)
  rw[hc] at hr;obtain⟨e1,t,y,e2⟩:=Kl l hr;refine HI (PX:=zK G PS) hs q hl (t:=t) (u:=y) (e1.trans e2) ⟨j.kp,by rw[<-e2];exact m,Ke j.tl n fun k g t cs _ e=>e,fun s e=>⟨M,AW j.tl,by rw[<-e2];exact r s e⟩⟩ hQ
theorem Fe (c:aJ L ρ a) (b:TS G F L ρ M τ) (d:Option Nat):∃ρ',aJ L ρ' a/\TS G F L ρ' M (sV d τ):=by
 cases d with
 | none=>exact⟨ρ,c,b⟩
 | some k =>
  have r:∀j,sV (some k) τ j=if j=k then(τ k).aaC else τ j:=by
   intro j;simp only[sV];cases h:Nat.beq j k with
   | true=>have:=v8 h;simp[this]
   | false=>have:=gh h;simp[this]
  by_cases f:∃q off,τ k=.ownv q off
  ·obtain⟨q,off,f⟩:=f;have p:=b.env k;rw[f] at p;simp only[aT,Rel] at p;obtain⟨v,l,g,t,cs,n,rfl⟩:=p;have s:conc L (ρ k)=.pointer (some ⟨g,off,none⟩):=l.conc;refine⟨Fr.put (some k) (.own q off) ρ,⟨fun m=>?_,fun m j o e=>?_,fun m u j e=>?_⟩,b.tl,fun j=>?_,b.kp,b.glob⟩
   ·rw[c.eq m,put_eq];simp only[];split
    ·rename_i h;subst h;rw[s];simp only[conc,n]
    ·rfl
   ·rw[put_eq] at e;simp only[] at e;split at e
    ·injection e with q1 q2;subst q1;exact⟨g,t,cs,n⟩
    ·exact c.own _ _ _ e
   ·rw[put_eq] at e;simp only[] at e;split at e
    ·cases e
    ·exact c.el _ _ _ e
   ·rw[r,put_eq];simp only[];split
    ·rw[f];exact⟨rfl,g,t,cs,n⟩
    ·exact b.env j
  ·refine⟨ρ,c,b.tl,fun j=>?_,b.kp,b.glob⟩;rw[r];split
   ·rename_i h;subst h;have:(τ j).aaC=τ j:=by
     cases e:τ j<;>first | rfl | exact p7 ⟨_,_,e⟩ f
    rw[this];exact b.env j
   ·exact b.env j
def uP (G:Nat->Option (Nat×TypeId)) (PS:qJ) (ks:List Nat):Prop:=∀k∈ks,G k≠none->1000<=k\/gI (PS.hb.map (·.1)) k=true
theorem uP.left {ks b:List Nat}(h:uP G PS (ks++b)):uP G PS ks:=fun k c=>h k (xo.2 (.inl c))
theorem uP.right {ks b:List Nat}(h:uP G PS (ks++b)):uP G PS b:=fun k c=>h k (xo.2 (.inr c))
theorem mS:∀(a b:List aB),ef (a++b)=ef a++ef b
 | [],b=>rfl
 | .frz k::a,b=>by simp only[aaV,ef,mS a b]
 | .op _ _ _::a,b=>by simp only[aaV,ef,mS a b]
 | .pc _ _ _::a,b=>by simp only[aaV,ef,mS a b]
theorem DC {k:Nat}{K:TK}{r:TL->aY->TK->Prop}(p:St F L w) (q:aJ L ρ a) (s:TS G F L ρ M τ) (u:G k≠none->1000<=k\/gI (PS.hb.map (·.1)) k=true) (h:stepT P PS false (.frz k) r M τ K) :
  ∃F' L' ρ' M' b,St F' L' w/\aJ L' ρ' a/\Step F L w F' L' w/\TS G F' L' ρ' M' b/\r M' b K:=by
 simp only[stepT,fI] at h;split at h
 ·rename_i t sz els l;obtain⟨F1,L1,j,n,c,d,_⟩:=tV p q s l;exact⟨F1,L1,ρ,_,_,j,n,c,d,h⟩
 ·rename_i t cs l;split at h
  case h_2=>exact h.elim
  rename_i v y e3 z;have f:G k=none:=by
   cases e:G k with
   | none=>rfl
   | some x =>
    rcases u (by rw[e];simp) with h1 | h1
    ·rw[Nat.blt_eq] at e3;omega
    ·rw[z] at h1;cases h1
  obtain⟨F1,L1,m,j,n,c,d⟩:=Fb p q s l v y f;exact⟨F1,L1,m,_,_,j,n,c,d,h⟩
 ·exact h.elim
theorem yS {A:cF}{r:Nat}{l:Array Oper}{K:TK}:∀(is:List Nat) {ss:List aB}{F:aF}{L:Loc}{ρ:Env}{M:TL}{τ:aY}{a:Act}{w:World},qV P A r l is=some ss->uP G PS (ef ss)->St F L w->aJ L ρ a->TS G F L ρ M τ->a.tmps.size=A.n ->
  d9 P PS false ss M τ K->(∀a' w',fw A.n F L w a (dstsOf l is) (Both G K) a' w'->Q .normal a' w') ->
  (∀v ch a' w',EC v ch->sQ A.n F L w a (dstsOf l is) (zK G PS) v a' w'->Q (.panic ch) a' w')->wpOps P l Q is a w:=by
 intro is
 induction is with
 | nil =>
  intro ss F L ρ M τ a w hl bz hs he ht hn q hQ bc;simp only[qV,w7] at hl;subst hl;exact hQ a w ⟨F,L,ρ,hs,he,hn,rfl,Step.refl _ _ _,fun _ _=>rfl,M,τ,ht,q⟩
 | cons i is ih =>
  intro ss F L ρ M τ a w hl bz hs he ht hn q hQ bc;simp only[qV] at hl;split at hl
  case h_1=>cases hl
  rename_i o hi;split at hl
  case h_2=>cases hl
  rename_i g s z hg co bs aw;injection hl with hl
  subst hl;have av:∀(ks:List Nat) {x:aB}{F:aF}{L:Loc}{ρ:Env}{M:TL}{τ:aY},uP G PS (ef (ks.map aB.frz++x::z))->St F L w->aJ L ρ a->TS G F L ρ M τ->d9 P PS false (ks.map aB.frz++x::z) M τ K ->
    ∃F' L' ρ' M' ae,St F' L' w/\aJ L' ρ' a/\Step F L w F' L' w/\TS G F' L' ρ' M' ae/\d9 P PS false (x::z) M' ae K:=by
   intro ks
   induction ks with
   | nil=>intro x F L ρ M τ _ hs he ht h;exact⟨F,L,ρ,M,τ,hs,he,Step.refl _ _ _,ht,h⟩
   | cons k ks cM =>
    intro x F L ρ M τ hz hs he ht h;simp only[aaU,aaV,fV] at h;obtain⟨F1,L1,cl,M1,u,g1,g2,g3,g4,h⟩:=DC hs he ht (hz k (by simp[ef])) h;obtain⟨F2,L2,cf,M2,da,k1,k2,k3,k4,k5⟩:=cM (fun j hj=>hz j (by simp only[aaU,aaV,ef];exact abb _ hj)) g1 g2 g4 h;exact⟨F2,L2,cf,M2,da,k1,k2,g3.trans k3,k4,k5⟩
  have bm:uP G PS (ef z):=fun j hj=>bz j (by
   rw[mS];refine xo.2 (.inr ?_);cases hp:v9 A.pan r i<;>simp only[oH,ef]<;>exact hj)
  obtain⟨F1,L1,cl,M1,u,bu,am,an,m,q⟩:=av _ bz hs he ht q
  clear av he ht
  revert am m
  generalize cl=ρ;intro am m;have hd:∀k,o.dst=some k->k<a.tmps.size:=by
   intro k hk;rw[hk] at bs;rw[hn];have h2:Nat.blt k A.n=true:=bs;simpa using h2
  have bx:dstsOf l (i::is)=match o.dst with | some d=>d::dstsOf l is | none=>dstsOf l is:=by
   simp only[dstsOf,hi,Option.bind_some];rfl
  have ad:∀j,j∉dstsOf l (i::is)->o.dst≠some j/\j∉dstsOf l is:=by
   intro j hj;rw[bx] at hj;cases ho:o.dst with
   | none=>rw[ho] at hj;exact⟨by simp,hj⟩
   | some d =>
    rw[ho] at hj;simp only[aaQ,not_or] at hj;exact⟨by simp;exact fun e=>hj.1 e.symm,hj.2⟩
  have after:∀{KK:Prop},o.wp P a w (fun a' w'=>bC F1 L1 w a (Both G fun M' ae=>d9 P PS false z M' (sV o.dst ae) K) a' w') Q->o.wp P a w (wpOps P l Q is) Q:=by
   intro _ this;refine Oper.wp_mono ?_ (qW (asg:=[]) this);rintro a' w' ⟨⟨F',L',ρ',g1,g2,g3,g4,g5,M',ae,g6,g7⟩,ci⟩;obtain⟨cf,n1,n2⟩:=Fe g2 g6 o.dst;refine ih aw bm g1 n1 n2 (by rw[g3,hn]) g7 ?_ ?_
   ·rintro ao ar ⟨F'',L'',ay,k1,k2,k3,k4,k5,k6,k7⟩;refine hQ ao ar ⟨F'',L'',ay,k1,k2,k3,k4.trans g4,(an.trans g5).trans k5,fun j hj=>?_,k7⟩;obtain⟨n1,n2⟩:=ad j hj;rw[k6 j n2,ci j n1]
   ·rintro v ch ao ar kc ⟨F'',L'',k1,k2,k3,k4,k5,k6⟩;refine bc v ch ao ar kc ⟨F'',L'',k1,(an.trans g5).trans k2,k3,k4.trans g4,fun j hj=>?_,k6⟩;obtain⟨n1,n2⟩:=ad j hj;rw[k5 j n2,ci j n1]
  have ax:∀{u:aY},TS G F1 L1 ρ M1 u->bS P s o.dst M1 u (fun M' ae=>d9 P PS false z M' (sV o.dst ae) K)->o.wp P a w (wpOps P l Q is) Q:=by
   intro u m q;exact after (KK:=True) (HY (Q:=Q) bu am m hd co q)
  have ap:∀{u:aY},TS G F1 L1 ρ M1 u->vE P PS s o.dst M1 u (fun M' ae=>d9 P PS false z M' (sV o.dst ae) K)->o.wp P a w (wpOps P l Q is) Q:=by
   intro u m q;exact after (KK:=True) (HZ (Q:=Q) bu am m hd co q fun v ch w' F' L' qc q1 q2 q3=>bc v ch a w' qc ⟨F',L',q1,an.trans q2,hn,rfl,fun _ _=>rfl,q3⟩)
  have skip:∀{u:aY},TS G F1 L1 ρ M1 u->d9 P PS false z M1 (bL o.dst .und u) K->wpOps P l Q is (a.put o.dst undef) w:=by
   intro u m q;have cY:=am.put hd (v:=undef) (x:=.v undef) rfl bY dV (rW L1);refine ih aw bm bu cY (m.put (c:=.und) (sv:=.v undef) ⟨_,rfl,by simp only[Rel]⟩ o.dst) (by rw[lT,hn]) q ?_ ?_
   ·rintro ao ar ⟨F'',L'',ay,k1,k2,k3,k4,k5,k6,k7⟩;refine hQ ao ar ⟨F'',L'',ay,k1,k2,k3,k4.trans (iD _ _ _),an.trans k5,fun j hj=>?_,k7⟩;obtain⟨n1,n2⟩:=ad j hj;rw[k6 j n2,lf n1]
   ·rintro v ch ao ar kc ⟨F'',L'',k1,k2,k3,k4,k5,k6⟩;refine bc v ch ao ar kc ⟨F'',L'',k1,an.trans k2,k3,k4.trans (iD _ _ _),fun j hj=>?_,k6⟩;obtain⟨n1,n2⟩:=ad j hj;rw[k5 j n2,lf n1]
  simp only[wpOps,hi];cases cp:v9 A.pan r i with
  | false =>
   rw[cp] at q;cases aa:o.guard with
   | none =>
    rw[aa] at hg;simp only[iZ,w7] at hg;subst hg;simp only[oH,fV,stepT] at q;rw[o6 (by simp[Region.wanted,aa])];exact .inl (ax m q)
   | some p =>
    obtain⟨j,y⟩:=p;rw[aa] at hg;simp only[iZ] at hg;split at hg
    case h_2=>cases hg
    rename_i d aE;injection hg with hg
    subst hg;simp only[oH,fV,stepT] at q;split at q
    ·rename_i b hb;have ac:ρ d=.v (.bool b):=jc (x:=.t d) m.env hb;have f:=am.eq d;rw[ac] at f;have hy:yielded l a.tmps j=some b:=by
      simp only[yielded,aE,Option.bind_some,rX f]
     have hw:Region.wanted o (yielded l a.tmps)=(b == y):=by
      simp only[Region.wanted,aa,hy];cases b<;>cases y<;>rfl
     have ag:TS G F1 L1 ρ M1 (bL (some d) (.bool b) u):=by
      have:=m.put (c:=.bool b) (sv:=.v (.bool b)) ⟨_,rfl,by simp only[Rel]⟩ (some d)
      rwa [lU ac] at this
     rw[hw];cases b<;>simp only[xS] at q
     ·cases y
      ·exact .inl (ax ag q)
      ·exact skip ag q
     ·cases y
      ·exact skip ag q
      ·exact .inl (ax ag q)
    ·rename_i hb;have hr:=m.env d;rw[hb] at hr;simp only[aT,Rel] at hr;obtain⟨v,ac,rfl⟩:=hr;have f:=am.eq d;rw[ac] at f;have hy:yielded l a.tmps j=none:=by
      simp only[yielded,aE,Option.bind_some];rw[abg] at f;cases e:a.tmps[d]? with
      | none=>rfl
      | some v=>rw[e] at f;simp only[Option.getD_some,conc] at f;rw[f];rfl
     have hw:Region.wanted o (yielded l a.tmps)=false:=by
      simp only[Region.wanted,aa,hy];rfl
     rw[hw];exact skip m q
    ·exact q.elim
  | true =>
   rw[cp] at q;cases aa:o.guard with
   | none =>
    rw[aa] at hg;simp only[iZ,w7] at hg;subst hg;simp only[oH,fV,stepT] at q;rw[o6 (by simp[Region.wanted,aa])];exact .inl (ap m q)
   | some p =>
    obtain⟨j,y⟩:=p;rw[aa] at hg;simp only[iZ] at hg;split at hg
    case h_2=>cases hg
    rename_i d aE;injection hg with hg
    subst hg;simp only[oH,fV,stepT] at q;split at q
    ·rename_i b _ hb;have ac:ρ d=.v (.bool b):=jc (x:=.t d) m.env hb;have f:=am.eq d;rw[ac] at f;have hy:yielded l a.tmps j=some b:=by
      simp only[yielded,aE,Option.bind_some,rX f]
     have hw:Region.wanted o (yielded l a.tmps)=(b == y):=by
      simp only[Region.wanted,aa,hy];cases b<;>cases y<;>rfl
     have ag:TS G F1 L1 ρ M1 (bL (some d) (.bool b) u):=by
      have:=m.put (c:=.bool b) (sv:=.v (.bool b)) ⟨_,rfl,by simp only[Rel]⟩ (some d)
      rwa [lU ac] at this
     rw[hw];cases b<;>simp only[xS] at q
     ·cases y
      ·exact .inl (ap ag q)
      ·exact skip ag q
     ·cases y
      ·exact skip ag q
      ·exact .inl (ap ag q)
    ·rename_i hb;have hr:=m.env d;rw[hb] at hr;simp only[aT,Rel] at hr;obtain⟨v,ac,rfl⟩:=hr;have f:=am.eq d;rw[ac] at f;have hy:yielded l a.tmps j=none:=by
      simp only[yielded,aE,Option.bind_some];rw[abg] at f;cases e:a.tmps[d]? with
      | none=>rfl
      | some v=>rw[e] at f;simp only[Option.getD_some,conc] at f;rw[f];rfl
     have hw:Region.wanted o (yielded l a.tmps)=false:=by
      simp only[Region.wanted,aa,hy];rfl
     rw[hw];exact skip m q
    ·exact q.elim
theorem rE:aT F L .und (.v undef):=⟨_,rfl,by simp only[Rel]⟩
theorem yT {o:eY}{d:Option Nat}{F:aF}{L:Loc}{ρ:Env}{K K':dm}(h:evalOp P o d F L ρ K) (p:∀F' L' ρ',K F' L' ρ'->K' F' L' ρ'):evalOp P o d F L ρ K':=by
 cases o
 case box t x =>
  simp only[evalOp] at h ⊢;cases d with
  | none=>exact h.elim
  | some k =>
   simp only[] at h ⊢;generalize L.get k=z at h ⊢;cases z with
   | none=>exact fun g=>p _ _ _ (h g)
   | some _=>exact h.elim
 case boxD t x =>
  simp only[evalOp] at h ⊢;cases d with
  | none=>exact h.elim
  | some k =>
   simp only[] at h ⊢;generalize L.get k=z at h ⊢;cases z with
   | none=>exact fun g r=>p _ _ _ (h g r)
   | some _=>exact h.elim
 case boxF t x=>exact fun g F' a b=>p _ _ _ (h g F' a b)
 case alloc t z =>
  simp only[evalOp] at h ⊢;cases d with
  | none=>exact h.elim
  | some k =>
   simp only[] at h ⊢;generalize L.get k=z at h ⊢;cases z with
   | none=>exact fun g=>p _ _ _ (h g)
   | some _=>exact h.elim
 case allocD t z =>
  simp only[evalOp] at h ⊢;cases d with
  | none=>exact h.elim
  | some k =>
   simp only[] at h ⊢;generalize L.get k=z at h ⊢;cases z with
   | none=>exact fun g r=>p _ _ _ (h g r)
   | some _=>exact h.elim
 case mkF e n sz xs =>
  simp only[evalOp] at h ⊢;generalize ga L ρ sz xs=z at h ⊢;cases z with
  | true=>exact fun g F' a b=>p _ _ _ (h g F' a b)
  | false=>exact h.elim
 case mkFD e n sz xs =>
  simp only[evalOp] at h ⊢;generalize ga L ρ sz xs=z at h ⊢;cases z with
  | true=>exact fun g F' a b c=>p _ _ _ (h g F' a b c)
  | false=>exact h.elim
 case mkR e n sz xs =>
  simp only[evalOp] at h ⊢;generalize ga L ρ sz xs=z at h ⊢;cases z with
  | false=>exact h.elim
  | true =>
   cases d with
   | none=>exact h.elim
   | some k =>
    simp only[] at h ⊢;generalize L.get k=z at h ⊢;cases z with
    | none=>exact fun g=>p _ _ _ (h g)
    | some _=>exact h.elim
 case s2b e x =>
  simp only[evalOp] at h ⊢;generalize ev ρ x=z at h ⊢;split at h
  ·exact fun g c F' a b e=>p _ _ _ (h g c F' a b e)
  ·exact h.elim
 case makeS e sz b zs l c =>
  simp only[evalOp] at h ⊢;generalize ev ρ l=z1 at h ⊢;generalize ev ρ c=z2 at h ⊢;split at h
  ·rename_i k;generalize L.get k=z at h ⊢;cases z with
   | none=>exact⟨h.lo,h.le,h.hi,h.max,fun g=>p _ _ _ (h.out g)⟩
   | some _=>exact h.elim
  ·exact h.elim
 case storeX n a x =>
  simp only[evalOp] at h ⊢;generalize fZ (aM (val L ρ x)) n=z1 at h ⊢;generalize jQ (aM (val L ρ x))=z2 at h ⊢;generalize ev ρ a=z3 at h ⊢;split at h
  ·rename_i k off;generalize L.get k=z at h ⊢;split at h
   ·rename_i t cs;generalize jz t ((cs.drop off).take n) n=b at h ⊢;cases b
    ·exact h.elim
    ·exact fun r=>p _ _ _ (h r)
   ·exact h.elim
  ·exact⟨let⟨k,v,t,sz,m,xs,ad,c,u,q,y,h4,h5,h6⟩:=h.out;⟨k,v,t,sz,m,xs,ad,c,u,q,y,h4,h5,fun r=>p _ _ _ (h6 r)⟩⟩
  ·exact⟨let⟨k,v,t,sz,m,xs,ad,c,u,q,y,h4,h5,h6⟩:=h.out;⟨k,v,t,sz,m,xs,ad,c,u,q,y,h4,h5,fun r=>p _ _ _ (h6 r)⟩⟩
  ·exact h.elim
 case store n a x =>
  simp only[evalOp] at h ⊢;generalize fZ (aM (val L ρ x)) n=z1 at h ⊢;generalize jQ (aM (val L ρ x))=z2 at h ⊢;generalize ev ρ a=z3 at h ⊢;split at h
  ·rename_i k off;generalize L.get k=z at h ⊢;split at h
   ·rename_i t cs;generalize jz t ((cs.drop off).take n) n=b at h ⊢;cases b
    ·exact h.elim
    ·exact p _ _ _ h
   ·exact h.elim
  ·exact⟨h.out.imp (fun h=>⟨let⟨k,v,t,sz,m,xs,ad,c,u,q,y,h4,h5,h6⟩:=h.out;⟨k,v,t,sz,m,xs,ad,c,u,q,y,h4,h5,p _ _ _ h6⟩⟩) fun⟨q1,q2,q3⟩=>⟨q1,q2,p _ _ _ q3⟩⟩
  ·exact⟨h.out.imp (fun h=>⟨let⟨k,v,t,sz,m,xs,ad,c,u,q,y,h4,h5,h6⟩:=h.out;⟨k,v,t,sz,m,xs,ad,c,u,q,y,h4,h5,p _ _ _ h6⟩⟩) fun⟨q1,q2,q3⟩=>⟨q1,q2,p _ _ _ q3⟩⟩
  ·exact h.elim
 case storeD n a x =>
  simp only[evalOp] at h ⊢;generalize fZ (aM (val L ρ x)) n=z1 at h ⊢;generalize jQ (aM (val L ρ x))=z2 at h ⊢;generalize ev ρ a=z3 at h ⊢;split at h
  ·rename_i k off;generalize L.get k=z at h ⊢;split at h
   ·rename_i t cs;generalize jz t ((cs.drop off).take n) n=b at h ⊢;cases b
    ·exact h.elim
    ·exact p _ _ _ h
   ·exact h.elim
  ·exact h.elim
 case storeK key n a x =>
  obtain⟨n',a',x',k,off,g,t,cs,ho,e1,e2,e3,e4,e5,h⟩:=jl rfl h;exact i9 ho e1 e2 e3 e4 e5 (p _ _ _ h)
 case makeSD e sz n zs =>
  simp only[evalOp] at h ⊢;cases d with
  | none=>exact h.elim
  | some k =>
   simp only[] at h ⊢;split at h
   ·exact fun g r=>p _ _ _ (h g r)
   ·exact h.elim
 case makeSV e sz b zs x =>
  simp only[evalOp] at h ⊢;cases d with
  | none=>exact h.elim
  | some k =>
   simp only[] at h ⊢;split at h
   ·exact fun g r=>p _ _ _ (h g r)
   ·exact h.elim
 case call f args =>
  simp only[evalOp] at h ⊢;exact dQ.imp h fun _ _ _ h=>p _ _ _ h
 case callV f args =>
  simp only[evalOp] at h ⊢;generalize mK P (ev ρ f)=z at h ⊢;split at h
  ·exact dQ.imp h fun _ _ _ h=>p _ _ _ h
  ·generalize Am P (ev ρ f) (bE L ρ args)=z at h ⊢;split at h
   ·exact dQ.imp h fun _ _ _ h=>p _ _ _ h
   ·exact h.elim
 case look x i =>
  simp only[evalOp] at h ⊢;generalize ev ρ x=z1 at h ⊢;generalize ev ρ i=z2 at h ⊢;split at h
  ·exact⟨let⟨k,r,b,u,q,y⟩:=h.out;⟨k,r,b,u,q,p _ _ _ y⟩⟩
  ·exact h.elim
 case callO f args =>
  simp only[evalOp] at h ⊢;exact dQ.imp h fun _ _ _ h r=>p _ _ _ (h r)
 case callVO f args =>
  simp only[evalOp] at h ⊢;generalize mK P (ev ρ f)=z at h ⊢;split at h
  ·exact dQ.imp h fun _ _ _ h r=>p _ _ _ (h r)
  ·exact h.elim
 case callD f args =>
  simp only[evalOp] at h ⊢;exact eV.imp' h fun _ _ _ h=>p _ _ _ h
 case callVD f args =>
  simp only[evalOp] at h ⊢;generalize mK P (ev ρ f)=z at h ⊢;split at h
  ·exact eV.imp' h fun _ _ _ h=>p _ _ _ h
  ·exact h.elim
 case app e sz b zs s x =>
  simp only[evalOp] at h ⊢;generalize ev ρ s=z1 at h ⊢;generalize ev ρ x=z2 at h ⊢;split at h
  ·exact⟨let⟨kd,n,xs,m,news,u,q,y,h4,h5,h6⟩:=h.out;⟨kd,n,xs,m,news,u,q,y,h4,h5,fun v hv=>p _ _ _ (h6 v hv)⟩⟩
  ·exact h.elim
 case appX e sz b zs s x =>
  simp only[evalOp] at h ⊢;generalize ev ρ s=z1 at h ⊢;generalize ev ρ x=z2 at h ⊢;split at h
  ·exact⟨let⟨kd,n,xs,m,news,u,q,y,h4,h5,h6⟩:=h.out;⟨kd,n,xs,m,news,u,q,y,h4,h5,fun v hv r=>p _ _ _ (h6 v hv r)⟩⟩
  ·exact h.elim
 case appD e sz b zs s x =>
  simp only[evalOp] at h ⊢;generalize ev ρ s=z1 at h ⊢;generalize ev ρ x=z2 at h ⊢;split at h
  ·exact⟨let⟨kd,n,xs,m,news,u,q,y,h4,h5,h6⟩:=h.out;⟨kd,n,xs,m,news,u,q,y,h4,h5,fun v hv r=>p _ _ _ (h6 v hv r)⟩⟩
  ·exact h.elim
 case appS e s x =>
  simp only[evalOp] at h ⊢;generalize ev ρ s=z1 at h ⊢;generalize ev ρ x=z2 at h ⊢;split at h
  ·exact⟨let⟨kd,n,xs,u,q,y,h4⟩:=h.out;⟨kd,n,xs,u,q,y,fun v hv=>p _ _ _ (h4 v hv)⟩⟩
  ·exact h.elim
 case appZ e b ki s x =>
  simp only[evalOp] at h ⊢;generalize ev ρ s=z1 at h ⊢;generalize ev ρ x=z2 at h ⊢;split at h
  ·split at h
   ·exact⟨let⟨kd,n,xs,u,q,y,h4⟩:=h.out;⟨kd,n,xs,u,q,y,fun v hv=>p _ _ _ (h4 v hv)⟩⟩
   ·exact h.elim
  ·exact h.elim
 case copy e sz dd x =>
  simp only[evalOp] at h ⊢;generalize ev ρ dd=z1 at h ⊢;generalize ev ρ x=z2 at h ⊢;split at h
  ·exact⟨let⟨k,n,v,nr,xs,ad,cr,cd,j,u,q,y,h4,h5⟩:=h.out;⟨k,n,v,nr,xs,ad,cr,cd,j,u,q,y,h4,p _ _ _ h5⟩⟩
  ·obtain⟨⟨k,n,v,nr,xs,ad,cr,cd,j,m,a,c,news,u,q,y,h4,h5,h6,h7,h8,h9⟩ | ⟨da,n,cd,a,m,c,u,q,y,h9⟩⟩:=h
   ·exact⟨.inl ⟨k,n,v,nr,xs,ad,cr,cd,j,m,a,c,news,u,q,y,h4,h5,h6,h7,h8,p _ _ _ h9⟩⟩
   ·exact⟨.inr ⟨da,n,cd,a,m,c,u,q,y,p _ _ _ h9⟩⟩
  ·exact h.elim
 case copyX e sz dd x =>
  simp only[evalOp] at h ⊢;generalize ev ρ dd=z1 at h ⊢;generalize ev ρ x=z2 at h ⊢;split at h
  ·obtain⟨⟨k,n,v,nr,xs,ad,cr,cd,j,m,a,c,news,u,q,y,h4,h5,h6,h7,h8,h9⟩ | ⟨da,n,cd,a,m,c,u,q,y,h9⟩⟩:=h
   ·exact⟨.inl ⟨k,n,v,nr,xs,ad,cr,cd,j,m,a,c,news,u,q,y,h4,h5,h6,h7,h8,fun r=>p _ _ _ (h9 r)⟩⟩
   ·exact⟨.inr ⟨da,n,cd,a,m,c,u,q,y,fun r=>p _ _ _ (h9 r)⟩⟩
  ·exact h.elim
 case pan x=>simp only[evalOp] at h
 case dead=>simp only[evalOp] at h
 case mkmap =>
  simp only[evalOp] at h ⊢;cases d with
  | none=>exact h.elim
  | some k =>
   simp only[] at h ⊢;generalize L.get k=z at h ⊢;cases z with
   | none=>exact fun g=>p _ _ _ (h g)
   | some _=>exact h.elim
 case mupd str x i v =>
  simp only[evalOp] at h ⊢;generalize ev ρ x=z1 at h ⊢;split at h
  ·obtain⟨k,cs,u,q,y,cs',h4,h5⟩:=h;exact⟨k,cs,u,q,y,cs',h4,p _ _ _ h5⟩
  ·exact h.elim
 case mrange x =>
  simp only[evalOp] at h ⊢;generalize ev ρ x=z1 at h ⊢;split at h
  ·rename_i g k;generalize L.get k=z at h ⊢;cases z with
   | none =>
    obtain⟨km,cs,u,q,y⟩:=h;exact⟨km,cs,u,q,fun gi=>p _ _ _ (y gi)⟩
   | some _=>exact h.elim
  ·exact h.elim
 case mnext x =>
  simp only[evalOp] at h ⊢;generalize ev ρ x=z1 at h ⊢;split at h
  ·split at h
   ·rename_i hL;obtain⟨km,cs,u,q,y,h4,h5⟩:=h.out;exact⟨km,cs,u,q,y,fun j e a b=>p _ _ _ (h4 j e a b),fun a=>p _ _ _ (h5 a)⟩
   ·exact h.elim
  ·exact h.elim
 case mentry x =>
  simp only[evalOp] at h ⊢;generalize ev ρ x=z1 at h ⊢;split at h
  ·split at h
   ·obtain⟨km,cs,j,e,u,q,y,h4,h5,h6⟩:=h.out;exact⟨km,cs,j,e,u,q,y,h4,h5,p _ _ _ h6⟩
   ·exact h.elim
  ·exact h.elim
 all_goals
  simp only[evalOp] at h ⊢;exact DA h fun v h=>p _ _ _ h
theorem Ff {s s':eY}(h:drawn s=some s'):lF s'=false:=by
 cases s<;>simp only[drawn,w7,reduceCtorEq] at h<;>subst h<;>rfl
theorem DE {bx:List Nat}{s s':eY}(h:oI bx s=some s'):lF s'=false:=by
 unfold oI at h;split at h
 ·split at h
  ·split at h
   ·injection h with h;subst h;rfl
   ·cases h
  ·split at h
   ·split at h
    ·injection h with h;subst h;rfl
    ·cases h
   ·cases h
 ·injection h with h;subst h;rfl
 ·split at h<;>(injection h with h;subst h;rfl)
 ·split at h<;>(injection h with h;subst h;rfl)
 ·exact Ff h
theorem DF {fl bx:List Nat}{bk:List (Nat×Nat)}{s s':eY}(h:vo fl bk bx s=some s'):lF s'=false:=by
 rcases yd h with h | ⟨a,n,i,rfl,rfl⟩ | ⟨a,n,i,key,rfl,rfl⟩ | ⟨a,n,i,rfl,rfl⟩ | ⟨i,rfl,rfl⟩
 ·exact DE h
 ·rfl
 ·rfl
 ·rfl
 ·rfl
theorem DG {s s':eY}(h:x9 s=some s'):lF s'=false:=by
 cases s<;>simp only[x9,w7,reduceCtorEq] at h<;>subst h<;>rfl
theorem wu {A:cF}{f:Array Oper}:∀{is:List Nat}{ss:List aB},fL P A f is=some ss->∀s∈ss,(∃d o g,s=.op d o g/\lF o=false)\/∃d o,s=.pc d o none/\Dg o=true:=by
 intro is
 induction is with
 | nil=>intro ss h s e;simp only[fL,w7] at h;subst h;cases e
 | cons i is k =>
  intro ss h s e;simp only[fL] at h;split at h
  case h_2=>cases h
  rename_i m l b j;injection h with h
  subst h;rcases aaQ.1 e with rfl | e
  ·unfold BH at b;split at b
   case h_1=>cases b
   split at b
   case h_2=>cases b
   split at b
   ·split at b
    case h_3=>cases b
    ·injection b with b
     exact .inr ⟨_,_,b.symm,rfl⟩
    ·injection b with b
     exact .inr ⟨_,_,b.symm,rfl⟩
   ·split at b
    ·split at b
     case h_2=>cases b
     rename_i s' c;injection b with b
     exact .inl ⟨_,s',_,b.symm,DG c⟩
    ·split at b
     case h_2=>cases b
     rename_i s' c;split at b
     case h_2=>cases b
     injection b with b
     exact .inl ⟨_,s',_,b.symm,DF c⟩
  ·exact k j s e
theorem DH:∀{ss:List aB},FY ss=true->∀d o g,aB.pc d o g∉ss
 | [],_,d,o,g,h=>by cases h
 | .op _ _ _::l,b,d,o,g,h=>by
  rcases aaQ.1 h with h | h
  ·cases h
  ·exact DH (ss:=l) b d o g h
 | .frz _::l,b,d,o,g,h=>by cases b
 | .pc _ _ _::l,b,d,o,g,h=>by cases b
theorem H6 {A:cF}{b:Array Oper}{is:List Nat}{ss:List aB}(e:fL P A b is=some ss) (f:FY ss=true):∀s∈ss,∃d o g,s=.op d o g/\lF o=false:=by
 intro s c;rcases wu e s c with h | ⟨d,o,rfl,_⟩
 ·exact h
 ·exact p7 c (DH f _ _ _)
theorem yU {K:TK}:∀(ss:List aB),(∀s∈ss,∃d o g,s=aB.op d o g/\lF o=false)->∀{F:aF}{L:Loc}{ρ:Env}{M:TL}{τ:aY},TS G F L ρ M τ->d9 P PS true ss M τ K->bh P ss F L ρ (Both G K)
 | [],_,F,L,ρ,M,τ,e,h=>⟨M,τ,e,h⟩
 | s::ss,r,F,L,ρ,M,τ,e,h=>by
  obtain⟨d,o,g,rfl,ho⟩:=r s (by simp);have j:∀s∈ss,∃d o g,s=aB.op d o g/\lF o=false:=fun s z=>r s (by simp[z]);have c:∀{ρ:Env}{τ:aY},TS G F L ρ M τ->bS P o d M τ (fun M' m=>d9 P PS true ss M' m K)->evalOp P o d F L ρ (fun F' L' ρ'=>bh P ss F' L' ρ' (Both G K)):=by
   intro ρ τ e h;have:=Kk ho e h;exact yT this fun F' L' ρ' ⟨M',m,h1,y⟩=>yU ss j h1 y
  cases g with
  | none =>
   simp only[fV,stepT] at h;simp only[bh];exact c e h
  | some p =>
   obtain⟨s,l⟩:=p;simp only[fV,stepT] at h;simp only[bh];split at h
   ·rename_i b hb;have k:ρ s=.v (.bool b):=jc (x:=.t s) e.env hb;simp only[k];have f:∀n,b=n->TS G F L (Fr.put (some s) (.v (.bool n)) ρ) M (bL (some s) (.bool n) τ):=fun n _=>e.put cW (some s);have u:∀{ρ:Env}{τ:aY},TS G F L ρ M τ->TS G F L (Fr.put d (.v undef) ρ) M (bL d .und τ):=fun e=>e.put rE d;cases b<;>simp only[xS] at h ⊢<;>cases l<;>simp only[] at h ⊢
    ·exact c (f _ rfl) h
    ·exact yU ss j (u (f _ rfl)) h
    ·exact yU ss j (u (f _ rfl)) h
    ·exact c (f _ rfl) h
   ·rename_i hb;have q:=e.env s;rw[hb] at q;simp only[aT,Rel] at q;obtain⟨v,k,rfl⟩:=q;simp only[k,undef];exact yU ss j (e.put rE d) h
   ·exact h.elim
theorem sw:∀{ss:List aB},AO ss M=true->∀s∈ss,∀k,uy s=some k->M.get k=none
 | [],_,s,b,_,_=>by cases b
 | x::l,h,s,b,k,e=>by
  unfold AO at h;rcases aaQ.1 b with rfl | b
  ·rw[e] at h;simp only[] at h;cases c:M.get k with
   | none=>rfl
   | some o=>rw[c] at h;cases h
  ·split at h
   ·exact sw h s b k e
   ·split at h
    ·exact sw h s b k e
    ·cases h
theorem mT {K:TK}{fb:List Nat}:∀(ss:List aB),(∀s∈ss,(∃d o g,s=aB.op d o g/\lF o=false)\/∃d o,s=aB.pc d o none/\Dg o=true)->∀{F:aF}{L:Loc}{ρ:Env}{M:TL}{τ:aY},TS G F L ρ M τ->lp P PS fb ss M τ K->bF P (zK G PS) fb ss F L ρ (Both G K)
 | [],_,F,L,ρ,M,τ,e,h=>⟨M,τ,e,h⟩
 | s::ss,hc,F,L,ρ,M,τ,e,h=>by
  have n:∀s∈ss,(∃d o g,s=aB.op d o g/\lF o=false)\/∃d o,s=aB.pc d o none/\Dg o=true:=fun s hs=>hc s (by simp[hs]);rcases hc s (by simp) with⟨d,o,g,rfl,ho⟩ | ⟨d,o,rfl,ho⟩
  case inr =>
   cases o<;>simp only[Dg,aaZ] at ho
   ·rename_i f l;simp only[kI,AP,EZ,fI,fk,eI] at h;simp only[bF,sH];split at h
    case h_1 =>
     rename_i st j;refine(rB e (dD e.env l) (show PS=⟨PS.ps,PS.hb,some st⟩ by rw[<-j]) h).imp fun F' L' v _ _ _ _ _ h=>?_;obtain⟨M',m,c,r,q,y⟩:=h;exact mT ss n (r.put q d) y
    rename_i j;refine(qm e (dD e.env l) h j).imp fun F' L' v _ _ _ _ _ h=>?_;obtain⟨M',m,c,r,q,y⟩:=h;exact mT ss n (r.put q d) y
   ·rename_i fx l;simp only[kI,AP,EZ] at h;split at h
    ·rename_i f fi ca hx;simp only[fI,fk,eI] at h;obtain⟨av,ay,e1,r,q⟩:=tP e.env hx;simp only[bF,sH,e1,mK];split at h
     case h_1 =>
      rename_i st j;refine(rB e (jW e.env r q l) (show PS=⟨PS.ps,PS.hb,some st⟩ by rw[<-j]) h).imp fun F' L' v _ _ _ _ _ h=>?_;obtain⟨M',m,c,r,q,y⟩:=h;exact mT ss n (r.put q d) y
     rename_i j;refine(qm e (jW e.env r q l) h j).imp fun F' L' v _ _ _ _ _ h=>?_;obtain⟨M',m,c,r,q,y⟩:=h;exact mT ss n (r.put q d) y
    ·rename_i nm t k off hx;simp only[fI,fk,eI] at h;obtain⟨g,t',cs,hg,e1⟩:=qg e.env hx;obtain⟨f',hm,h⟩:=h;have z:aG F L (.own k off::eP τ l) ([.pointer (some ⟨g,off,none⟩)]++bE L ρ l++[]):=by
      rw[aaX];simp only[aaV,aa5,aG,Rel];exact⟨_,_,rfl,⟨g,t',cs,hg,rfl⟩,dD e.env l⟩
     simp only[bF,sH,e1,Dn,mK,hm];split at h
     case h_1 =>
      rename_i st j;refine(rB e z (show PS=⟨PS.ps,PS.hb,some st⟩ by rw[<-j]) h).imp fun F' L' v _ _ _ _ _ h=>?_;obtain⟨M',m,c,r,q,y⟩:=h;exact mT ss n (r.put q d) y
     rename_i j;refine(qm e z h j).imp fun F' L' v _ _ _ _ _ h=>?_;obtain⟨M',m,c,r,q,y⟩:=h;exact mT ss n (r.put q d) y
    ·exact h.elim
  have u:∀{ρ:Env}{τ:aY},TS G F L ρ M τ->bS P o d M τ (fun M' m=>lp P PS fb ss M' m K)->evalOp P o d F L ρ (fun F' L' ρ'=>bF P (zK G PS) fb ss F' L' ρ' (Both G K)):=by
   intro ρ τ e h;have:=Kk ho e h;exact yT this fun F' L' ρ' ⟨M',m,r,q⟩=>mT ss n r q
  cases g with
  | none =>
   simp only[kI,AP,stepT] at h;exact⟨o,rfl,u e h⟩
  | some p =>
   obtain⟨s,ad⟩:=p;simp only[kI,AP,stepT] at h;simp only[bF,res];have hu:∀{ρ:Env}{τ:aY},TS G F L ρ M τ->TS G F L (Fr.put d (.v undef) ρ) M (bL d .und τ):=fun e=>e.put rE d;have skip:∀{ρ:Env}{τ:aY},TS G F L ρ M τ->lp P PS fb ss M (bL d .und τ) K->evalOp P ja d F L ρ (fun F' L' ρ'=>bF P (zK G PS) fb ss F' L' ρ' (Both G K)):=by
    intro ρ τ e h;simp only[ja,evalOp,aN,ev];exact mT ss n (hu e) h
   split at h
   ·rename_i b hb;have ab:ρ s=.v (.bool b):=jc (x:=.t s) e.env hb;have aa:TS G F L ρ M (bL (some s) (.bool b) τ):=by
     have:=e.put (cW (b:=b)) (some s)
     rwa [Fr.lU ab] at this
    simp only[ab];cases b<;>simp only[xS] at h ⊢<;>cases ad<;>simp only[reduceCtorEq,↓reduceIte,w7,exists_eq_left'] at h ⊢
    ·exact u aa h
    ·exact skip aa h
    ·exact skip aa h
    ·exact u aa h
   ·rename_i hb;have hr:=e.env s;rw[hb] at hr;simp only[aT,Rel] at hr;obtain⟨v,ab,rfl⟩:=hr;simp only[ab,undef,w7,exists_eq_left'];exact skip e h
   ·exact h.elim
theorem DI:∀(b:List Nat) (vs:List C) (τ:aY) (j:Nat),rm b vs τ j=τ j\/∃(i:Nat) (c:C),b[i]?=some j/\vs[i]?=some c/\rm b vs τ j=c
 | [],vs,τ,j=>.inl rfl
 | k::b,[],τ,j=>.inl rfl
 | k::b,v::vs,τ,j=>by
  simp only[rm,Cb];split
  ·rename_i h;subst h;exact .inr ⟨0,v,by simp,by simp,rfl⟩
  ·rcases DI b vs τ j with h | ⟨i,c,f,e,d⟩
   ·exact .inl h
   ·exact .inr ⟨i+1,c,by simpa using f,by simpa using e,d⟩
theorem Ba {M1:TL}:∀{b:List Nat}{vs:List C}{τ:aY},oJ M M1 b vs τ->∀{i j:Nat}{c:C},b[i]?=some j->vs[i]?=some c->Mw M M1 (τ j) c
 | [],vs,τ,h,i,j,c,e,_=>by simp at e
 | k::b,[],τ,h,i,j,c,_,e=>by simp at e
 | k::b,v::vs,τ,h,i,j,c,d,f=>by
  simp only[oJ] at h;cases i with
  | zero=>simp at d f;subst d f;exact h.1
  | succ i=>exact Ba h.2 (by simpa using d) (by simpa using f)
theorem Bb {M1:TL}(l:TS G F L ρ M τ):∀{d:List Nat}{vs:List C},vs.length=d.length->oJ M M1 d vs τ->gives M M1 M1->sU vs
 | [],[],_,_,_=>by simp only[sU]
 | [],v::vs,b,_,_=>by simp at b
 | k::d,[],b,_,_=>by simp at b
 | k::d,v::vs,b,h,m=>by
  simp only[oJ] at h;simp only[sU];refine⟨?_,Bb l (by simpa using b) h.2 m⟩;have f:=mh (l.env k);rcases h.1 with e | ⟨e,_⟩ | ⟨j,c⟩ | ⟨j,n,t,sz,c,_⟩ | ⟨els,j,c⟩
  ·rw[e];simp only[Wf]
  ·rw[e] at f;have:=f.wf
   revert this
   cases v<;>simp[C.cel,Wf]
  ·rw[c];simp[Wf,uF]
  ·rw[c];simp only[Wf]
  ·rw[j] at f;have:=(vF f).wf;rw[c];exact this
theorem RN {M:TL}(d:dH F L M):∀{l:TL},(∀k o,l.get k=some o->M.get k=some o)->∀k o,l.get k=some o->o.Wf:=by
 intro l h k o e;rcases eX (d k) with⟨b,_⟩ | ⟨q,p,b,f,c⟩
 ·rw[h k o e] at b;cases b
 ·rw[h k o e] at b;injection b with b
  subst b;exact c.wf
theorem H7 {L':Loc}{F':aF}(l:F.le F') (u:∀k g t cs,L.get k=some (.box g t cs)->∃cs',L'.get k=some (.box g t cs')) :
  (∀c v,C.leaf c=true->Rel F L c v->Rel F' L' (ri c) v)/\(∀c sv,C.leaf c=true->aT F L c sv->aT F' L' (ri c) sv):=by
 have hb:∀{k:Nat},(∃g t cs,L.get k=some (.box g t cs))->∀o,L.get k=some o->∃o',L'.get k=some o'/\Own.like o o':=by
  intro k n o p;obtain⟨g,t,cs,n⟩:=n;rw[n] at p;injection p with p
  subst p;obtain⟨cs',h⟩:=u k g t cs n;exact⟨_,h,rfl,rfl⟩
 constructor
 ·intro c v q h;cases c<;>simp only[C.leaf,aaZ] at q<;>simp only[ri]
  case rw=>simp only[Rel]
  case elr=>simp only[Rel]
  case own k off =>
   have d:=h;simp only[Rel] at d;obtain⟨g,t,cs,f,_⟩:=d;refine bI l (fun j e=>?_) rfl h;rcases e with⟨off,e⟩ | e | e | ⟨_,_,_,e⟩ | ⟨_,_,e⟩
   ·injection e with e e2;subst e;exact hb ⟨g,t,cs,f⟩
   ·cases e
   ·cases e
   ·cases e
   ·cases e
  case ifo m ti k off =>
   have d:=h;simp only[Rel] at d;obtain⟨g,t,cs,f,_⟩:=d;refine bI l (fun j e=>?_) rfl h;rcases e with⟨off,e⟩ | e | e | ⟨_,_,_,e⟩ | ⟨_,_,e⟩
   ·cases e
   ·cases e
   ·cases e
   ·injection e with _ _ e;subst e;exact hb ⟨g,t,cs,f⟩
   ·cases e
  case slo k a =>
   have d:=h;simp only[Rel] at d;obtain⟨g,t,cs,r,f,_⟩:=d;exact r9 l (hb ⟨g,t,cs,f⟩) h
  case slp=>simp only[Rel]
  case mpr k =>
   have d:=h;simp only[Rel] at d;obtain⟨g,cs,f,_⟩:=d;refine bI l (fun j e=>?_) rfl h;rcases e with⟨off,e⟩ | e | e | ⟨_,_,_,e⟩ | ⟨_,_,e⟩
   ·cases e
   ·cases e
   ·injection e with e;subst e;exact hb ⟨g,0,cs,f⟩
   ·cases e
   ·cases e
  all_goals
   exact bI l (fun s e=>by rcases e with⟨off,e⟩ | e | e | ⟨_,_,_,e⟩ | ⟨_,_,e⟩<;>cases e) rfl h
 ·intro c sv q h;cases c<;>simp only[C.leaf,aaZ] at q<;>simp only[ri]
  case rw=>trivial
  case elr=>trivial
  case own k off =>
   have d:=h;simp only[aT] at d;refine dA l (fun j e=>?_) rfl h;rcases e with⟨off,e⟩ | ⟨off,e⟩ | e | ⟨a,b,e⟩ | e | ⟨_,_,_,e⟩<;>first | cases e;done | skip
   injection e with e e2
   subst e;exact hb d.2
  case ifo m ti k off =>
   have d:=h;simp only[aT,Rel] at d;obtain⟨v,_,g,t,cs,f,_⟩:=d;refine dA l (fun j e=>?_) rfl h;rcases e with⟨off,e⟩ | ⟨off,e⟩ | e | ⟨a,b,e⟩ | e | ⟨_,_,_,e⟩<;>first | cases e;done | skip
   injection e with _ _ e
   subst e;exact hb ⟨g,t,cs,f⟩
  case ownv k off =>
   have d:=h;simp only[aT,Rel] at d;obtain⟨v,_,g,t,cs,f,_⟩:=d;refine dA l (fun j e=>?_) rfl h;rcases e with⟨off,e⟩ | ⟨off,e⟩ | e | ⟨a,b,e⟩ | e | ⟨_,_,_,e⟩<;>first | cases e;done | skip
   injection e with e e2
   subst e;exact hb ⟨g,t,cs,f⟩
  case slo k a =>
   have d:=h;simp only[aT,Rel] at d;obtain⟨v,_,g,t,cs,r,f,_⟩:=d;exact uG l (hb ⟨g,t,cs,f⟩) h
  case slp=>trivial
  case mpr k =>
   have d:=h;simp only[aT,Rel] at d;obtain⟨v,_,g,cs,f,_⟩:=d;refine dA l (fun j e=>?_) rfl h;rcases e with⟨off,e⟩ | ⟨off,e⟩ | e | ⟨a,b,e⟩ | e | ⟨_,_,_,e⟩<;>first | cases e;done | skip
   injection e with e
   subst e;exact hb ⟨g,0,cs,f⟩
  all_goals
   exact dA l (fun s e=>by rcases e with⟨off,e⟩ | ⟨off,e⟩ | e | ⟨a,b,e⟩ | e | ⟨_,_,_,e⟩<;>cases e) rfl h
def H8 (L:Loc) (c:C) (v:Value):SV:=match c with
 | .own k off=>.own k off
 | .elr k j off=>match L.get k with
  | some (.row (.slice a _ _) _ sz _ _)=>.el a (j*sz+off)
  | _=>.v v
 | _=>.v v
theorem Cg {c:C}{v:Value}(h:Rel F L c v):aT F L c (H8 L c v)/\conc L (H8 L c v)=v/\(∀k off,H8 L c v=.own k off->∃g t cs,L.get k=some (.box g t cs))/\(∀f j,H8 L c v=.el f j->f≠none):=by
 cases c
 case own k off =>
  simp only[Rel] at h;obtain⟨g,t,cs,h,rfl⟩:=h;refine⟨⟨rfl,g,t,cs,h⟩,by simp only[H8,conc,h],fun l d e=>?_,fun f j e=>(by cases e)⟩;injection e with e1 e2
  subst e1;exact⟨g,t,cs,h⟩
 case pt es off =>
  simp only[Rel] at h;obtain⟨b,o,vs,rfl,m,q⟩:=h;exact⟨⟨b,o,0,vs,.inl ⟨rfl,rfl⟩,m,q⟩,rfl,fun l d e=>(by cases e),fun f j e=>(by cases e)⟩
 case ownv=>exact h.elim
 case slp=>exact h.elim
 case elr k j off =>
  simp only[Rel] at h;obtain⟨f,t,sz,n,c,xs,rfl,h⟩:=h;simp only[H8,h];exact⟨⟨f,t,sz,n,c,xs,rfl,h⟩,rfl,fun l d e=>(by cases e),fun p r e=>by injection e with e _;subst e;simp⟩
 case any=>exact⟨trivial,rfl,fun l d e=>(by cases e),fun f j e=>(by cases e)⟩
 all_goals
  exact⟨⟨v,rfl,h⟩,rfl,fun l d e=>(by cases e),fun f j e=>(by cases e)⟩
theorem Km {F0:aF}{L0:Loc}{f:Env}{b:aY}{z m:Act}{asg:List Nat}{q:List Nat}{vs:List C}{L1:Loc}{F1:aF}(d:aJ L0 f z) (s:∀j,aT F0 L0 (b j) (f j)) (hF:F0.le F1)
  (hb:∀k g t cs,L0.get k=some (.box g t cs)->∃cs',L1.get k=some (.box g t cs')) (u:∀j,j∉asg->m.tmps.getD j undef=z.tmps.getD j undef)
  (hv:∀(i j:Nat) c,q[i]?=some j->vs[i]?=some c->Rel F1 L1 c (m.tmps.getD j undef)) :
  ∃n,aJ L1 n m/\∀j,aT F1 L1 (rm q vs (uH asg b) j) (n j):=by
 have key:∀j,∃sv,aT F1 L1 (rm q vs (uH asg b) j) sv/\conc L1 sv=m.tmps.getD j undef/\(∀k off,sv=.own k off->∃g t cs,L1.get k=some (.box g t cs))/\(∀p i,sv=.el p i->p≠none):=by
  intro j;rcases DI q vs (uH asg b) j with h | ⟨i,c,h1,h2,h3⟩
  ·rw[h];simp only[uH];split
   ·exact⟨.v (m.tmps.getD j undef),trivial,rfl,fun _ _ e=>(by cases e),fun _ _ e=>(by cases e)⟩
   ·rename_i y;have hj:j∉asg:=fun h=>by rw[dn.2 h] at y;cases y
    obtain⟨u1,u2⟩:=H7 hF hb;refine⟨f j,aT.mp u1 u2 3 (s j),?_,?_,d.el j⟩
    ·rw[u j hj,d.eq j];cases e:f j with
     | v x=>rfl
     | el x i=>rfl
     | own k off =>
      obtain⟨g,t,cs,r⟩:=d.own j k off e;obtain⟨cs',l⟩:=hb _ _ _ _ r;simp only[conc,r,l]
    ·intro k off e;obtain⟨g,t,cs,r⟩:=d.own j k off e;obtain⟨cs',l⟩:=hb _ _ _ _ r;exact⟨g,t,cs',l⟩
  ·rw[h3];obtain⟨s1,s2,s3,s4⟩:=Cg (hv i j c h1 h2);exact⟨_,s1,s2,s3,s4⟩
 refine⟨fun j=>(key j).choose,⟨fun t=>?_,fun t k off e=>?_,fun t p j e=>?_⟩,fun j=>(key j).choose_spec.1⟩
 ·exact(key t).choose_spec.2.1.symm
 ·exact(key t).choose_spec.2.2.1 k off e
 ·exact(key t).choose_spec.2.2.2 p j e
theorem Bc {n:Nat}{F:aF}{L:Loc}{w:World}{a:Act}{asg:List Nat}{K K':dm}{b:Act}{w':World}(h:fw n F L w a asg K b w') (j:∀{F' L' ρ'},K F' L' ρ'->K' F' L' ρ'):fw n F L w a asg K' b w':=by
 obtain⟨F',L',ρ',f,c,k,m,l,d,e⟩:=h;exact⟨F',L',ρ',f,c,k,m,l,d,j e⟩
theorem zU {P:Program}{PS:qJ}{G:Nat->Option (Nat×TypeId)}{a:Act}{w:World}{b:List aB}{K:TK}:∀(ks:List Nat) {F:aF}{L:Loc}{ρ:Env}{M:TL}{τ:aY},uP G PS ks->St F L w->aJ L ρ a->TS G F L ρ M τ->d9 P PS false (ks.map aB.frz++b) M τ K ->
  ∃F' L' ρ' M' c,St F' L' w/\aJ L' ρ' a/\Step F L w F' L' w/\TS G F' L' ρ' M' c/\d9 P PS false b M' c K:=by
 intro ks
 induction ks with
 | nil=>intro F L ρ M τ _ d m n h;exact⟨F,L,ρ,M,τ,d,m,Step.refl _ _ _,n,h⟩
 | cons k ks f =>
  intro F L ρ M τ p d m n h;simp only[aaU,aaV,fV] at h;obtain⟨F1,L1,y,M1,ab,x,g2,q,s,h⟩:=DC d m n (p k (by simp)) h;obtain⟨F2,L2,l,M2,e,k1,z,u,r,v⟩:=f (fun j t=>p j (by simp[t])) x g2 s h;exact⟨F2,L2,l,M2,e,k1,z,q.trans u,r,v⟩
theorem H9:∀{ks:List Nat}{ss:List aB},∀k∈ks,k∈jq (zT ks (.regD ss))
 | [],_,k,h=>by cases h
 | j::l,ss,k,h=>by
  have:∀(l:List Nat),∀k∈l,k∈ef (l.map aB.frz):=by
   intro l
   induction l with
   | nil=>intro k h;cases h
   | cons j l b =>
    intro k h;simp only[aaU,ef,aaQ] at h ⊢;exact h.imp id (b k)
  exact xo.2 (.inl (this (j::l) k h))
theorem DJ {P:Program}{PS:qJ}{G:Nat->Option (Nat×TypeId)}{ρ:Env}{a:Act}{w:World}{ss:List aB}{E:Nat->TK}{R N:TK}{F:aF}{L:Loc}{M:TL}{τ:aY}:∀(ks:List Nat),uP G PS (jq (zT ks (.regD ss)))->St F L w->aJ L ρ a->TS G F L ρ M τ->fQ P PS (zT ks (.regD ss)) E R N M τ ->
  ∃F' L' ρ' M' b,St F' L' w/\aJ L' ρ' a/\Step F L w F' L' w/\TS G F' L' ρ' M' b/\d9 P PS true ss M' b N
 | [],_,c,e,f,h=>⟨F,L,ρ,M,τ,c,e,Step.refl _ _ _,f,h⟩
 | k::l,v,c,e,f,h=>by
  have q:d9 P PS false ((k::l).map aB.frz++[]) M τ (fun M τ=>d9 P PS true ss M τ N):=by rw[aaX];exact h
  obtain⟨F1,L1,d,M1,m,r,n,s,u,t⟩:=zU (k::l) (fun j p=>v j (H9 j p)) c e f q;exact⟨F1,L1,d,M1,m,r,n,s,u,t⟩
theorem sA {M:TL}:∀{ks:List Nat},tN M ks=true->∀k∈ks,∀o,M.get k=some o->Cf o=true
 | [],_,k,h,_,_=>by cases h
 | j::ks,b,k,h,o,e=>by
  simp only[tN] at b;split at b
  ·cases b
  ·cases b
  ·cases b
  ·rename_i f c d;rcases aaQ.1 h with rfl | h
   ·cases o with
    | box t cs=>exact p7 e (f _ _)
    | map es=>exact p7 e (c _)
    | win t p cs q=>exact p7 e (d _ _ _ _)
    | row=>rfl
   ·exact sA b k h o e
theorem Ia {M:TL}{ks:List Nat}(b:tN M ks=true) (k:Nat) (h:k∈ks) (t:TypeId) (cs:List C):M.get k≠some (.box t cs):=fun e=>by cases sA b k h _ e
theorem Fg {M:TL}{ks:List Nat}(b:tN M ks=true) (k:Nat) (h:k∈ks) (es:List (C×C)):M.get k≠some (.map es):=fun e=>by cases sA b k h _ e
theorem qt {A:cF}:∀(c:Code) {sc:aI},low P A c=some sc->∀{G:Nat->Option (Nat×TypeId)}{E:Nat->TK}{R N:TK}{F:aF}{L:Loc}{ρ:Env}{M:TL}{τ:aY}{a:Act}{w:World},uP G PS (jq sc)->St F L w->aJ L ρ a->TS G F L ρ M τ->a.tmps.size=A.n ->
  fQ P PS sc E R N M τ->c.wp P (QQ A.n F L w a (dh c) (zK G PS) (fun j=>Both G (E j)) (Both G R) (Both G N)) a w:=by
 intro c
 induction c with
 | skip =>
  intro sc b G E R N F L ρ M τ a w m hs he z hn d;simp only[low,w7] at b;subst b;exact wp_skip ⟨F,L,ρ,hs,he,hn,rfl,Step.refl _ _ _,fun _ _=>rfl,M,τ,z,d⟩
 | label l =>
  intro sc b G E R N F L ρ M τ a w m hs he z hn d;simp only[low,w7] at b;subst b;exact wp_label ⟨F,L,ρ,hs,he,hn,rfl,Step.refl _ _ _,fun _ _=>rfl,M,τ,z,d⟩
 | exit id =>
  intro sc b G E R N F L ρ M τ a w m hs he z hn d;simp only[low,w7] at b;subst b;exact wp_exit ⟨F,L,ρ,hs,he,hn,rfl,Step.refl _ _ _,fun _ _=>rfl,M,τ,z,d⟩
 | ret =>
  intro sc b G E R N F L ρ M τ a w m hs he z hn d;simp only[low,w7] at b;subst b;exact wp_ret ⟨F,L,ρ,hs,he,hn,rfl,Step.refl _ _ _,fun _ _=>rfl,M,τ,z,d⟩
 | region r eN cw =>
  intro sc b G E R N F L ρ M τ a w m hs he z hn d;cases cw with
  | false =>
   simp only[low] at b;split at b
   case h_2=>cases b
   rename_i ss dg;injection b with b;subst b
   simp only[lW,nL,lX,nM,lY,kJ,lZ,l9,nN] at d;exact wp_region (yS _ dg m hs he z hn d (fun a' w' h=>h) fun v ch a' w' hc h=>⟨v,hc,h⟩)
  | true =>
   simp only[low] at b;split at b
   case h_2=>cases b
   rename_i is cl ss h1 h2;have h4:ur A.ord r=is:=by simp only[ur,h1]
   rw[h4] at h2;split at b
   case h_2 =>
    split at b
    case h_2=>cases b
    rename_i h3;injection b with b;subst b
    rw[Dq] at d;split at d
    case h_2=>exact d.elim
    rename_i bo;split at d
    ·exact qZ h2 h3 hs he hn (fun s hs k e=>cu z.tl (sw bo s hs k e)) (d.out G (zK G PS) (fun F L ρ M τ f args vs K h1 h2 h3=>qm h1 h2 h3 d.st) F L ρ ⟨w,hs⟩ z) (fun a' w' h=>h) fun v ch a' w' F' L' gc g1 g2 g3 g4 g5 g6=>⟨v,gc,F',L',g1,g2,g3,g4,g5,g6⟩
    exact qZ h2 h3 hs he hn (fun s hs k e=>cu z.tl (sw bo s hs k e)) (mT ss (wu h2) z d) (fun a' w' h=>h) fun v ch a' w' F' L' gc g1 g2 g3 g4 g5 g6=>⟨v,gc,F',L',g1,g2,g3,g4,g5,g6⟩
   rename_i h0;split at b
   case h_2=>cases b
   rename_i h3;injection b with b;subst b
   obtain⟨F1,L1,ac,M1,ap,ax,az,ag,ad,d⟩:=DJ _ m hs he z d;exact tH h2 h3 ax az hn (yU ss (H6 h2 h0) ad d) fun a' w' h=>fw.after (asg1:=[]) ag rfl (fun _ _=>rfl) h (fun _ h=>p7 h List.not_mem_nil) (fun _ h=>h)
 | seq x y bd bl =>
  intro sc b G E R N F L ρ M τ a w m hs he z hn d;simp only[low] at b;split at b
  case h_2=>cases b
  rename_i h1 h2;injection b with b;subst b
  simp only[lW,nL,lX,nM,lY,kJ,lZ,l9,nN] at d;refine wp_seq (wp_mono (bd h1 m.left hs he z hn d) ?_);intro e a1 w1 u;cases e with
  | normal =>
   obtain⟨F1,L1,ac,g1,g2,g3,g4,g5,g6,M1,ap,g7,g8⟩:=u;refine wp_mono (bl h2 m.right g1 g2 g7 g3 g8) ?_;intro e2 a2 w2 ca;cases e2<;>first
    | exact fw.after g5 g4 g6 ca (fun j h=>xo.2 (.inl h)) (fun j h=>xo.2 (.inr h))
    | exact(let⟨v,e,h⟩:=ca;⟨v,e,sQ.after g5 g4 g6 h (fun j h=>xo.2 (.inl h)) (fun j h=>xo.2 (.inr h)) fun _ _ h=>h⟩)
    | exact ca
  | exit id=>exact u.mono fun j h=>xo.2 (.inl h)
  | ret=>exact u.mono fun j h=>xo.2 (.inl h)
  | goto l=>exact u
  | panic c=>exact(let⟨v,e,h⟩:=u;⟨v,e,h.mono fun j h=>xo.2 (.inl h)⟩)
  | outgrown=>exact u
 | cond c x y bd bl =>
  intro sc b G E R N F L ρ M τ a w m hs he z hn d;simp only[low] at b;split at b
  case h_2=>cases b
  rename_i h0 h1 h2;injection b with b;subst b
  simp only[lW,nL,lX,nM,lY,kJ,lZ,l9,nN] at d;split at d
  case h_2=>exact d.elim
  rename_i t ee;have hc:a.eval c=.bool t:=by rw[aL h0 he,bN (jc z.env ee)]
  refine wp_cond hc ?_;cases t
  ·simp only[xS] at d;refine wp_mono (bl h2 m.right hs he z hn d) ?_;intro e a1 w1 u;cases e<;>first
    | exact u.mono fun j h=>xo.2 (.inr h)
    | exact(let⟨v,e,h⟩:=u;⟨v,e,h.mono fun j h=>xo.2 (.inr h)⟩)
    | exact u
  ·simp only[xS] at d;refine wp_mono (bd h1 m.left hs he z hn d) ?_;intro e a1 w1 u;cases e<;>first
    | exact u.mono fun j h=>xo.2 (.inl h)
    | exact(let⟨v,e,h⟩:=u;⟨v,e,h.mono fun j h=>xo.2 (.inl h)⟩)
    | exact u
 | block id x ih =>
  intro sc b G E R N F L ρ M τ a w m hs he z hn d;simp only[low] at b;split at b
  case h_2=>cases b
  rename_i h1;injection b with b;subst b
  simp only[lW,nL,lX,nM,lY,kJ,lZ,l9,nN] at d;refine wp_block (wp_mono (ih h1 m hs he z hn d) ?_);intro e a1 w1 u;cases e with
  | exit j =>
   simp only[Exit.inBlock];simp only[QQ] at u
   by_cases hj:j=id
   ·subst hj;have hb:Nat.beq j j=true:=by simp
    rw[hb] at u;rw[o6 rfl];exact u
   ·have hb:Nat.beq j id=false:=by
     cases h:Nat.beq j id with
     | true=>exact p7 (v8 h) hj
     | false=>rfl
    rw[hb] at u;rw[vv hj];exact u
  | normal=>exact u
  | ret=>exact u
  | goto l=>exact u
  | panic c=>exact u
  | outgrown=>exact u
 | loop x ih =>
  intro sc b G E R N F L ρ M τ a w m hs he z hn d;simp only[low] at b;split at b
  case h_2=>cases b
  rename_i sx h1;injection b with b;subst b
  simp only[lW,nL,lX,nM,lY,kJ,lZ,l9,nN] at d;split at d
  case h_2=>exact d.elim
  rename_i ce;obtain⟨σ,x0,Inv,ls,lv,Lf,μ,i0,i1,i2,i3,i4,i5⟩:=d
  -- the boxes that there are,with their addresses
  let G1:Nat->Option (Nat×TypeId):=fun k=>match L.get k with | some (.box g t _)=>some (g,t) | _=>none
  have cM:∀k g t cs,L.get k=some (.box g t cs)->G1 k=some (g,t):=fun k g t cs e=>by simp only[G1,e]
  have bs:Kp G1 L:=by
   intro k g t e;simp only[G1] at e;split at e
   ·rename_i g' t' cs h;injection e with e
    injection e with e1 e2
    subst e1 e2;exact⟨cs,h⟩
   ·cases e
  have dd:uP G1 PS (jq sx):=by
   intro k hk cc;exfalso;simp only[G1] at cc;split at cc
   ·rename_i g t cs e;have hr:=z.tl k;rw[e] at hr;cases e2:M.get k with
    | none=>rw[e2] at hr;exact hr
    | some o =>
     rw[e2] at hr;cases o with
     | row=>exact hr
     | box t' cs'=>exact Ia ce k hk t' cs' e2
     | map es=>exact Fg ce k hk es e2
     | win t0 p0 c0 q0=>cases sA ce k hk _ e2
   ·exact cc rfl
  have hG:∀{L':Loc},Kp G1 L'->Kp G L':=fun hk k g t e=>let⟨cs,h⟩:=z.kp k g t e;hk k g t (cM k g t cs h);have db:∀{L':Loc},Kp G1 L'->∀k g t cs,L.get k=some (.box g t cs)->∃cs',L'.get k=some (.box g t cs'):=fun hk k g t cs h=>hk k g t (cM k g t cs h);have bv:∀{K:TK}{F' L' ρ'},Both G1 K F' L' ρ'->Both G K F' L' ρ':=fun⟨M',ds,h1,h2⟩=>⟨M',ds,⟨h1.tl,h1.env,hG h1.kp,h1.glob⟩,h2⟩;have dy:∀{F':aF}{L':Loc}{M':TL},dH F' L' M'->(∀k o,M'.get k=some o->o.Wf):=fun h k o e=>RN h (fun _ _ e=>e) k o e
  -- a round's end,or what is ahead of the first round,is a head
  have ay:∀(y:σ) (F1:aF) (L1:Loc) (ac:Env) (M1:TL) (ap:aY) (a1:Act) (w1:World),F.le F1->St F1 L1 w1->aJ L1 ac a1->TS G1 F1 L1 ac M1 ap->(∀j,j∉dh x->a1.tmps.getD j undef=a.tmps.getD j undef) ->
    oJ M1 (Lf y) ls (lv y) ap->gives M1 (Lf y) (Lf y)->∃L2,St F1 L2 w1/\Step F1 L1 w1 F1 L2 w1/\dH F1 L2 (Lf y)/\Kp G1 L2/\sU (lv y) /\
     ∃bb,aJ L2 bb a1/\∀j,aT F1 L2 (rm ls (lv y) (uH (dh x) τ) j) (bb j):=by
   intro y F1 L1 ac M1 ap a1 w1 bk ax az ad dl hh hg;obtain⟨g1,g2⟩:=uO ax ad.tl hg;have be:Kp G1 (wq L1 (Lf y)):=by
    intro k g t e;obtain⟨cs,cd⟩:=ad.kp k g t e;obtain⟨er,cy⟩:=bs k g t e;refine⟨cs,?_⟩;rcases eX (z.tl k) with⟨c1,c2⟩ | ⟨q,p,c1,c2,hr⟩
    ·rw[cy] at c2;cases c2
    ·rw[cy] at c2;injection c2 with c2
     subst c2;cases q with
     | row=>exact hr.elim
     | box t' cs' =>
      obtain⟨o2,e2⟩:=jP (i3 y) c1 rfl;rw[kQ,e2];simp only[cd]
     | map es =>
      obtain⟨o2,e2⟩:=jP (i3 y) c1 rfl;rw[kQ,e2];simp only[cd]
     | win t0 p0 c0 q0 =>
      obtain⟨o2,e2⟩:=jP (i3 y) c1 rfl;rw[kQ,e2];simp only[cd]
   refine⟨wq L1 (Lf y),g1,g2,uN ad.tl hg,be,Bb ad (i4 y) hh hg,Km he z.env bk (db be) dl ?_⟩;intro i j c e1 e2;have hr:=mh (ad.env j);have hv:a1.tmps.getD j undef=conc L1 (ac j):=az.eq j;rw[hv];have cz:=Ba hh e1 e2;rcases cz with e | ⟨e,hk⟩ | ⟨e,e'⟩ | ⟨e,k',t',dk,e',q1,q2⟩ | ⟨els,e,e'⟩
   ·rw[e];simp only[Rel]
   ·have hc:(ap j).cel=ap j:=by
     rw[e];rw[e] at hr;cases c<;>first | rfl | (simp only[gu,mO,aaZ] at hk;done)
    rw[hc] at hr;exact su ad.tl (.inr (.inl ⟨e,hk⟩)) hr
   ·rw[e] at hr;exact su ad.tl (.inr (.inr (.inl ⟨rfl,e'⟩))) hr
   ·rw[e] at hr;exact su ad.tl (.inr (.inr (.inr (.inl ⟨rfl,k',t',dk,e',q1,q2⟩)))) hr
   ·rw[e] at hr;exact su ad.tl (.inr (.inr (.inr (.inr ⟨els,rfl,e'⟩)))) hr
  refine vn (fun n a1 w1=>∃(y:σ) (F1:aF) (L1:Loc),n=μ y/\F.le F1/\Inv y/\St F1 L1 w1/\a1.tmps.size=A.n/\a1.defers=a.defers/\Step F L w F1 L1 w1/\(∀j,j∉dh x->a1.tmps.getD j undef=a.tmps.getD j undef) /\
   dH F1 L1 (Lf y)/\Kp G1 L1/\sU (lv y)/\∃ac,aJ L1 ac a1/\∀j,aT F1 L1 (rm ls (lv y) (uH (dh x) τ) j) (ac j)) ?_ ?_
  ·obtain⟨L2,k1,k2,k3,k4,k5,k6⟩:=ay x0 F L ρ M τ a w (aF.le_refl F) hs he ⟨z.tl,z.env,bs,z.glob⟩ (fun _ _=>rfl) i1 i2;exact⟨_,x0,F,L2,rfl,aF.le_refl F,i0,k1,hn,rfl,k2,fun _ _=>rfl,k3,k4,k5,k6⟩
  ·rintro n a1 w1 ⟨y,F1,L1,rfl,bk,cx,ax,dE,bc,ag,aw,bt,be,dx,ac,az,bx⟩;refine wp_mono (ih h1 dd ax az (⟨bt,bx,be,ax.glob⟩:TS G1 F1 L1 ac (Lf y) (rm ls (lv y) (uH (dh x) τ))) dE (i5 y cx dx (dy bt))) ?_;intro e a2 w2 u;cases e with
   | normal =>
    obtain⟨F2,L2,bb,g1,g2,g3,g4,g5,g6,M2,ea,g7,y',k1,k2,k3,k4⟩:=u;have bm:∀j,j∉dh x->a2.tmps.getD j undef=a.tmps.getD j undef:=fun j hj=>by rw[g6 j hj,aw j hj]
    obtain⟨L3,q1,q2,q3,q4,q5,q6⟩:=ay y' F2 L2 bb M2 ea a2 w2 (aF.le_trans bk g5.le) g1 g2 g7 bm k2 k3;exact⟨μ y',k4,y',F2,L3,rfl,aF.le_trans bk g5.le,k1,q1,g3,g4.trans bc,(ag.trans g5).trans q2,bm,q3,q4,q5,q6⟩
   | exit j=>exact fw.after ag bc aw (Bc u bv) (fun j h=>h) (fun j h=>h)
   | ret=>exact fw.after ag bc aw (Bc u bv) (fun j h=>h) (fun j h=>h)
   | goto l=>exact u
   | panic c=>exact(let⟨v,e,h⟩:=u;⟨v,e,sQ.after ag bc aw h (fun j h=>h) (fun j h=>h) fun F' L' h=>⟨hG h.1,h.2⟩⟩)
   | outgrown=>exact u
 | rangeFunc f ps x y bd bl=>intro sc b;simp only[low] at b;cases b
 | scope x ih =>
  intro sc b G E R N F L ρ M τ a w m hs he z hn d;simp only[low] at b;refine wp_scope_straight (wp_mono (ih b m hs he z hn d) ?_);intro e a1 w1 u;cases e<;>exact u
 | goto l=>intro sc b;simp only[low] at b;cases b
 | refuse ey=>intro sc b;simp only[low] at b;cases b
end
section
variable {P:Program}{G:Nat->Option (Nat×TypeId)}{F:aF}{L:Loc}{ρ:Env}{M:TL}{τ:aY}{a:Act}{w:World}
theorem vK (d:TS G F L ρ M τ):∀{rs:List RV}{K:List C->Prop},rq M τ rs K->mD L ρ rs (fun vs=>∃cs,aG F L cs vs/\K cs)
 | [],K,h=>⟨[],by simp only[aG],h⟩
 | (t,none)::l,K,h=>by
  simp only[rq] at h;simp only[mD];refine retV_imp (vK d h) ?_;rintro vs ⟨cs,m,f⟩;exact⟨_,by simp only[aG];exact⟨_,_,rfl,mh (d.env t),m⟩,f⟩
 | (t,some (agg,n))::l,K,h=>by
  simp only[rq] at h;simp only[mD];split at h
  case h_2=>exact h.elim
  rename_i k off c;split at h
  case h_2=>exact h.elim
  rename_i ty cs q;split at h
  case h_2=>exact h.elim
  rename_i p;obtain⟨j,_⟩:=fG (x:=.t t) d.env c;have j:ρ t=.own k off:=j;obtain⟨g,ty,vs,r,s,o⟩:=lq d.tl q;have e:=(s.drop off).take n;simp only[j,r,gF o.2.2 (dJ (show((vs.drop off).take n).length=n by rw[e.len];exact bJ p))];refine retV_imp (vK d h) ?_;rintro us ⟨ds,m,f⟩;refine⟨_,?_,f⟩;simp only[aG];have:=mh (cN (agg:=agg) e);exact⟨_,_,rfl,this,m⟩
where
 retV_imp {L:Loc}{ρ:Env}:∀{rs:List RV}{K K':List Value->Prop},mD L ρ rs K->(∀vs,K vs->K' vs)->mD L ρ rs K'
 | [],K,K',h,c=>c _ h
 | (t,none)::l,K,K',h,c=>by
  simp only[mD] at h ⊢;exact retV_imp h fun vs=>c _
 | (t,some (agg,n))::l,K,K',h,c=>by
  simp only[mD] at h ⊢;generalize ρ t=z at h ⊢;split at h
  case h_2=>exact h.elim
  rename_i k off;generalize L.get k=y at h ⊢;split at h
  case h_2=>exact h.elim
  rename_i ty cs;generalize jz ty ((cs.drop off).take n) n=b at h ⊢;cases b
  ·exact h.elim
  ·exact retV_imp h fun vs=>c _
theorem NC {cs:List C}{vs:List Value}(h:aG F L cs vs):Rel F L (tM cs) (iC vs):=by
 match cs,vs,h with
 | [],vs,h =>
  simp only[aG] at h;subst h;simp only[tM,iC,Rel];exact⟨[],rfl,by simp only[aG]⟩
 | [c],vs,h =>
  simp only[aG] at h;obtain⟨v,b,rfl,e,rfl⟩:=h;exact e
 | c1::k::cs,vs,h =>
  have d:=h;simp only[aG] at d;obtain⟨v,b,rfl,e,j,f,rfl,l⟩:=d;simp only[tM,iC,Rel];exact⟨_,rfl,h⟩
theorem yV:∀(l:List C) (k j:Nat),wK k l j=if k<=j then(l[j-k]?).getD .und else .und
 | [],k,j=>by simp[wK]
 | v::l,k,j=>by
  simp only[wK,Cb]
  by_cases h:j=k
  ·subst h;simp
  ·rw[vv h,yV l (k+1) j]
   by_cases b:k<=j
   ·rw[o6 (by omega),o6 b,show j-k=(j-(k+1))+1 by omega,aby]
   ·rw[vv (by omega),vv b]
theorem Kn {c:C}{v:Value}(h:Rel F L c v):Rel F L c.aar v:=by
 cases c<;>first
  | exact h
  | exact uK (c:=.nils) h
  | exact vF h
  | (simp only[Rel] at h
     obtain⟨vs,d,b⟩:=h;simp only[C.aar,Rel]
     first
      | exact⟨vs,d,kO b⟩
      | exact⟨vs,d,b.map fun c _ v=>jd⟩)
theorem yX {F':aF}{L':Loc}{w':World}{Li:List Own}(f:St F' L' w') (c:Step F (inp Li) w F' L' w') (hb:∀(i:Nat) g t cs,Li[i]?=some (.box g t cs)->∃cs',L'.get (1000+i)=some (.box g t cs')) :
  ∃Lo,St F' (inp Lo) w'/\Step F (inp Li) w F' (inp Lo) w'/\Lo.length=Li.length/\∀(i:Nat) g t cs,Li[i]?=some (.box g t cs)->∃cs',Lo[i]?=some (.box g t cs'):=by
 let Lo:List Own:=Li.mapIdx fun i o=>match o with
  | .box _ _ _=>match L'.get (1000+i) with | some p=>p | none=>.row (.slice none 0 0) 0 0 0 []
  | .row _ t sz _ _=>.row (.slice none 0 0) t sz 0 []
 have get:∀k p,(inp Lo).get k=some p->L'.get k=some p\/∃t sz,p=.row (.slice none 0 0) t sz 0 []:=by
  intro k p e;rw[bg] at e;split at e
  case isFalse=>cases e
  rename_i z;simp only[Lo,List.getElem?_mapIdx] at e;cases h:Li[k-1000]? with
  | none=>rw[h] at e;cases e
  | some o =>
   rw[h] at e;simp only[abF,w7] at e;cases o with
   | box g t cs =>
    simp only at e;rw[show 1000+(k-1000)=k by omega] at e;cases l:L'.get k with
    | none=>rw[l] at e;exact .inr ⟨0,0,e.symm⟩
    | some q=>rw[l] at e;exact .inl (by rw[<-e])
   | row v t sz n xs=>exact .inr ⟨t,sz,e.symm⟩
 refine⟨Lo,⟨f.frz,fun k o e=>?_,fun k o g e d=>?_,fun k m o o' g e r d j=>?_,f.glob⟩,⟨c.le,c.os,c.tape,c.output,c.size,c.same,c.frz,fun b x=>c.own b ?_⟩,by simp[Lo],fun i g t cs hi=>?_⟩
 ·rcases get k o e with h | ⟨t,sz,rfl⟩
  ·exact f.own k o h
  ·exact World.ownsRow_nil w' 0 t sz
 ·rcases get k o e with h | ⟨t,sz,rfl⟩
  ·exact f.off k o g h d
  ·cases d
 ·rcases get k o e with h | ⟨t,sz,rfl⟩<;>rcases get m o' r with s | ⟨y,u,rfl⟩
  ·exact f.sep k m o o' g h s d j
  ·cases j
  ·cases d
  ·cases d
 ·obtain⟨k,o,e,d⟩:=x;rcases get k o e with h | ⟨t,sz,rfl⟩
  ·exact⟨k,o,h,d⟩
  ·cases d
 ·obtain⟨cs',h⟩:=hb i g t cs hi;exact⟨cs',by simp only[Lo,List.getElem?_mapIdx,hi,abF,h]⟩
theorem P9 {n:Nat}{asg:List Nat}{fn:Func}{rs:List RV}{Lin:List TO}{Li:List Own}{R:List TO->C->Prop}{a0 a':Act}{w':World}(s:qC P fn.results.toList=some rs) (hl:Li.length=Lin.length) (ae:dH F (inp Li) (jG Lin))
  (ax:∀k g t cs,(inp Li).get k=some (.box g t cs)->G k=some (g,t)) (hq:fw n F (inp Li) w a0 asg (Both G (fun L ρ=>rq L ρ rs fun vs=>pF Lin L (tM vs) R)) a' w') :
  a'.defers=a0.defers/\∃v,(results fn a'.tmps).run P w'=.ok v w'/\∃F' Lo,St F' (inp Lo) w'/\Step F (inp Li) w F' (inp Lo) w'/\iB Li R F' Lo v:=by
 obtain⟨F',L',ρ',g1,g2,g3,g4,g5,g6,M',ci,g7,q⟩:=hq;obtain⟨us,hm,cs,bi,⟨fz,ko,hK⟩⟩:=q9 g1 g2 s (vK g7 q);have am:TS G F' L' ρ' M' (fun _=>.any):=⟨g7.tl,fun _=>trivial,g7.kp,g7.glob⟩;obtain⟨F2,L2,M2,cx,ad,k1,k2,k3,x,k5,M3,c2,c3,Mo,q1,bb,q4,q5,q6,q7⟩:=qo g1 g2 am (by simp only[aG];exact⟨_,[],rfl,NC bi,rfl⟩) hK;subst q1;simp only[aG] at k5;obtain⟨v,co,ev,hv,rfl⟩:=k5;injection ev with ev _
 subst ev;have ap:∃L3,St F2 L3 w'/\Step F2 L2 w' F2 L3 w'/\dH F2 L3 M3/\Rel F2 L3 c3 (iC us)/\∀k g t cs,L2.get k=some (.box g t cs)->M3.get k≠none->L3.get k=some (.box g t cs):=by
  rcases bb with⟨rfl,rfl⟩ | ⟨q2,q3⟩
  ·exact⟨L2,k1,Step.refl _ _ _,x.tl,hv,fun k g t cs h _=>h⟩
  ·obtain⟨b1,b2⟩:=uO k1 x.tl q2;refine⟨_,b1,b2,uN x.tl q2,su x.tl q3 hv,fun k g t cs h l=>?_⟩;rw[kQ];cases e:M3.get k with
   | none=>exact p7 e l
   | some o=>simp only[h]
 obtain⟨L3,b1,b2,f,z,al⟩:=ap;obtain⟨Lo,m,d2,d3⟩:=rA f q4;have ao:=dz q5;have aw:∀k g t,G k=some (g,t)->∃cs,(M3.get k≠none->L3.get k=some (.box g t cs)):=by
  intro k g t e;obtain⟨cs,h⟩:=x.kp k g t e;exact⟨cs,fun l=>al _ _ _ _ h l⟩
 refine⟨g4,iC us,?_,F2,Lo,b1.handed m ao,?_,Mo.map (TO.aag (C.ren (cn ko 1000))),c3.aar.ren (cn ko 1000),by simp[d2],tT f d2 m d3,(Kn z).ren (oz m),?_,q7 (by simp only[sU];exact⟨z.wf,trivial⟩)⟩
 ·rw[tJ];rw[Array.mapM_eq_mapM_toList];simp only[Sem.run_bind,Sem.run_map];rw[hm];simp only[Result.andThen_ok,Sem.run_pure];congr 1
  match us with
  | []=>rfl
  | [t]=>rfl
  | t::u::r =>
   simp only[iC];rw[dif_neg (by simp)]
 ·have c:=(g5.trans k3).trans b2;obtain⟨x1,x2⟩:=fo m;refine⟨c.le,c.os,c.tape,c.output,c.size,c.same,c.frz,fun b hb=>c.own b ?_⟩;obtain⟨j,p,e,hb⟩:=hb;rw[bg] at e;split at e
  case isFalse=>cases e
  have d:j-1000<Lo.length:=(xD.1 e).1;have hk:ko[j-1000]?=some (ko[j-1000]'(by omega)):=w8 (by omega);exact⟨_,p,by rw[x2 _ _ hk];exact e,hb⟩
 ·intro i g t cs hi;have d:i<Lin.length:=by rw[<-hl];exact(xD.1 hi).1
  have aa:(inp Li).get (1000+i)=some (.box g t cs):=by rw[bg,o6 (by omega),show 1000+i-1000=i by omega];exact hi
  have hr:=ae (1000+i);rw[cI,o6 (by omega),show 1000+i-1000=i by omega,aa,w8 d] at hr;have ac:Cf Lin[i]=false:=by
   cases bc:Lin[i] with
   | row=>rw[bc] at hr;exact hr.elim
   | box t' cs'=>rfl
   | map es=>rfl
   | win t0 p0 c0 q0=>rfl
  ·obtain⟨k',y1,y2⟩:=fA q6 i _ (w8 d) ac;rw[List.getElem?_range' d] at y1;injection y1 with y1
   obtain⟨x1,x2⟩:=fo m;obtain⟨z1,z2⟩:=Dt q4;have y:i<Mo.length:=by rw[z1];exact(xD.1 y2).1
   have ag:M3.get k'≠none:=by rw[z2 i k' y2,w8 y];simp
   have ar:k'=1000+i:=by omega
   subst ar;obtain⟨an,h2⟩:=aw _ g t (ax _ _ _ _ aa);exact⟨an,by rw[<-x2 i _ y2];exact h2 ag⟩
theorem au {Pp:Value->Prop}{f:FuncId}{fn:Func}{sc:aI}{A:cF}{rs:List RV}{args:List C}{Lin:List TO}{R:List TO->C->Prop}(hf:P.funcs[f]?=some fn) (b:aC P A fn=some (sc,A.n,rs,false)) (q:Nat.ble args.length A.n=true)
  (h:sU args->(∀o∈Lin,o.Wf)->fQ P ⟨Pp,[],none⟩ sc (fun _ _ _=>False) (fun L ρ=>rq L ρ rs fun vs=>pF Lin L (tM vs) R) (fun L ρ=>rq L ρ rs fun vs=>pF Lin L (tM vs) R) (jG Lin) (wK 0 args)):CallsTX P f args Lin R Pp:=by
 unfold aC at b;split at b
 case h_2=>cases b
 rename_i c hb;split at b
 case h_2=>cases b
 rename_i bj ap x z;injection b with b
 injection b with e1 e2
 injection e2 with e2 e3
 injection e3 with e3 hname
 subst e1 e3;refine⟨fun F Li vs hl r ha=>⟨⟨fn,hf,by rw[hb];rfl,hname⟩,iB.aao,fun w hs=>?_⟩⟩;refine calls_of_wp hf hb ?_;have am:∀o∈Lin,o.Wf:=by
  intro o ho;obtain⟨i,hi⟩:=abf.1 ho;have:=r (1000+i);rw[cI,bg,o6 (by omega),o6 (by omega),show 1000+i-1000=i by omega,hi] at this;cases e:Li[i]? with
  | none=>rw[e] at this;exact this.elim
  | some p=>rw[e] at this;exact dG.wf this
 have h:=h ha.wf am;have ab:=ha.len;have q:=aa3 q
 -- the frame
 have key:∀j,∃sv,aT F (inp Li) (wK 0 args j) sv/\conc (inp Li) sv=(vs.toArray++Array.replicate (fn.ntmps-vs.toArray.size) undef).getD j undef/\(∀k off,sv=.own k off->∃g t cs,(inp Li).get k=some (.box g t cs))/\(∀u i,sv=.el u i->u≠none):=by
  intro j;rw[yV];simp only[abl,abd,Nat.sub_zero,abg];cases e:args[j]? with
  | some c =>
   have s:j<vs.length:=by rw[ab];exact(xD.1 e).1
   obtain⟨s1,s2,s3,s4⟩:=Cg (ha.at e (w8 s));refine⟨_,s1,?_,s3,fun u i e=>s4 u i e⟩;rw[s2,Array.getElem?_append_left (by simpa using s)];simp[s]
  | none =>
   have ao:vs.length<=j:=by rw[ab];exact abE.1 e
   refine⟨.v undef,rE,?_,fun _ _ e=>(by cases e),fun _ _ e=>(by cases e)⟩;rw[Array.getElem?_append_right (by simpa using ao)];simp only[Array.getElem?_replicate,conc];split<;>rfl
 let y:Env:=fun j=>(key j).choose
 have he:aJ (inp Li) y {tmps:=vs.toArray++Array.replicate (fn.ntmps-vs.toArray.size) undef,defers:=[]} :=
  ⟨fun t=>(key t).choose_spec.2.1.symm,fun t k off e=>(key t).choose_spec.2.2.1 k off e,fun t u j e=>(key t).choose_spec.2.2.2 u j e⟩
 let G:Nat->Option (Nat×TypeId):=fun k=>match(inp Li).get k with | some (.box g t _)=>some (g,t) | _=>none
 have aa:∀k g t cs,(inp Li).get k=some (.box g t cs)->G k=some (g,t):=fun k g t cs e=>by simp only[G,e]
 have al:Kp G (inp Li):=by
  intro k g t e;simp only[G] at e;split at e
  ·rename_i g' t' cs h;injection e with e
   injection e with e1 e2
   subst e1 e2;exact⟨cs,h⟩
  ·cases e
 have ac:∀k,G k≠none->1000<=k:=by
  intro k d;simp only[G] at d;split at d
  ·rename_i g t cs h;rw[bg] at h;split at h
   ·assumption
   ·cases h
  ·exact p7 rfl d
 have ht:TS G F (inp Li) y (jG Lin) (wK 0 args):=⟨r,fun j=>(key j).choose_spec.1,al,hs.glob⟩;refine wp_mono (qt c x (fun k _ d=>.inl (ac k d)) hs he ht (by simp[e2];omega) h) ?_;intro e a' w' m;have fin:∀{a0:Act},a0.defers=[]->fw A.n F (inp Li) w a0 (dh c) (Both G (fun L ρ=>rq L ρ ap fun vs=>pF Lin L (tM vs) R)) a' w'->a'.defers=[]/\∃v,(results fn a'.tmps).run P w'=.ok v w' /\
   ∃v' F' Lo,Ending.returned v=.returned v'/\St F' (inp Lo) w'/\Step F (inp Li) w F' (inp Lo) w'/\iB Li R F' Lo v':=by
  intro a0 ae m;obtain⟨k1,v,k2,F',Lo,k3,k4,k5⟩:=P9 z hl r aa m;exact⟨k1.trans ae,v,k2,v,F',Lo,rfl,k3,k4,k5⟩
 cases e with
 | normal=>exact(let⟨h1,v,h2,h3⟩:=fin rfl m;⟨h1,v,h2,.inl h3⟩)
 | ret=>exact(let⟨h1,v,h2,h3⟩:=fin rfl m;⟨h1,v,h2,.inl h3⟩)
 | exit j=>obtain⟨F',L',ρ',_,_,_,_,_,_,M',bc,_,h⟩:=m;exact h.elim
 | goto l=>exact m.elim
 | panic c =>
  obtain⟨v,av,F',L',g1,g2,g3,g4,g5,kp,hp,_⟩:=m;obtain⟨Lo,q1,q2,q3,q4⟩:=yX g1 g2 (fun i g t cs hi=>kp (1000+i) g t (aa _ g t cs (by rw[bg,o6 (by omega),show 1000+i-1000=i by omega];exact hi)));exact⟨g4,.inr ⟨v,_,F',Lo,rfl,av,q1,q2,q3,q4,hp⟩⟩
 | outgrown=>exact m.elim
theorem CallsTX.noPan {f:Nat}{args:List C}{Lin:List TO}{R:List TO->C->Prop}(h:CallsTX P f args Lin R fun _=>False):CallsT P f args Lin R :=
 ⟨fun F Li vs d c b=>let k:=h.out F Li vs d c b;⟨k.ent,k.mono,fun w j=>(k.run w j).mono fun e w' q=>q.elim id fun⟨_,_,_,_,_,_,_,_,_,_,q⟩=>q.elim⟩⟩
theorem aq {f:FuncId}{fn:Func}{sc:aI}{A:cF}{rs:List RV}{args:List C}{Lin:List TO}{R:List TO->C->Prop}(d:P.funcs[f]?=some fn) (b:aC P A fn=some (sc,A.n,rs,false)) (c:Nat.ble args.length A.n=true)
  (h:sU args->(∀o∈Lin,o.Wf)->fQ P ⟨fun _=>False,[],none⟩ sc (fun _ _ _=>False) (fun L ρ=>rq L ρ rs fun vs=>pF Lin L (tM vs) R) (fun L ρ=>rq L ρ rs fun vs=>pF Lin L (tM vs) R) (jG Lin) (wK 0 args)):CallsT P f args Lin R :=
 (au d b c h).noPan
end
section
variable {P:Program}{L:TL}{ρ:aY}
def jv (Lo:List TO) (x:C):List TO->C->Prop:=fun Mo v=>Mo=Lo/\v=x
theorem bM {f:Nat}{args a:List C}{K:TL->aY->C->Prop}{x:C}(h:CallsT P f a [] (jv [] x)) (e:(args.map fun c=>c.aaj.ren (cn [] 1000))=a) (k:Wf x->K L ρ (x.ren (br [])).slt):pE P f args L ρ K:=by
 subst e;exact .mk ⟨[],[],[],L,[],_,.inl rfl,rfl,rfl,rfl,rfl,rfl,h,fun v Mo ⟨d,j⟩ b _=>by subst d j;exact⟨rfl,k b⟩⟩
theorem eK {f:Nat}{args a:List C}{K:TL->aY->C->Prop}{d:Option Nat}{x:C}(h:CallsT P f a [] (jv [] x)) (j:(args.map fun c=>c.aaj.ren (cn [] 1000))=a) (k:Wf x->K L ρ x.slt):tL P f args L ρ d K:=by
 subst j;exact .frz _ h fun v Mo ⟨e,l⟩ b=>by subst e l;exact⟨rfl,k b⟩
theorem callO (ks ko:List Nat) {f:Nat}{args a:List C}{K:TL->aY->C->Prop}{x:C}{Lin Lin' Lo:List TO}(h:CallsT P f a Lin' (jv Lo x)) (e:L.sub ks=some Lin)
  (d:(bP ks&&bP ko&&mP L ks ko&&aW Lin ks ko)=true) (r:(args.map fun c=>c.aaj.ren (cn ks 1000))=a) (m:Lin.map (TO.aag (C.ren (cn ks 1000)))=Lin') (p:ko.length=Lo.length)
  (k:Wf x->(∀o∈Lo,o.Wf)->K (((L.aaf ks).kills (rowsOf L ks)).puts ko (Lo.map (TO.aag (C.ren (br ko))))) (fP (rowsOf L ks) ρ) (x.ren (br ko)).slt):pE P f args L ρ K:=by
 subst r m;simp only[yo] at d;obtain⟨⟨⟨s,q⟩,c3⟩,c4⟩:=d;exact .mk ⟨[],ks,ko,L,Lin,_,.inl rfl,e,s,q,c3,c4,h,fun v Mo ⟨l,n⟩ j b=>by subst l n;exact⟨p,k j b⟩⟩
theorem Ch (ks ko:List Nat) {f:Nat}{args a:List C}{K:TL->aY->C->Prop}{x:C}{Lin Lin' Lo:List TO}(h:CallsT P f a Lin' (jv Lo x)) (e:L.sub ks=some Lin)
  (d:(bP ks&&bP ko&&mP L ks ko&&aW Lin ks ko)=true) (r:(args.map fun c=>c.aaj.ren (cn ks 1000))=a) (m:Lin.map (TO.aag (C.ren (cn ks 1000)))=Lin') (p:ko.length=Lo.length)
  (k:Wf x->(∀o∈Lo,o.Wf)->K (((L.aaf ks).kills (rowsOf L ks)).puts ko (Lo.map (TO.aag (C.ren (br ko))))) (fP (rowsOf L ks) ρ) (x.ren (br ko)).slt):BS P f args L ρ K:=by
 subst r m;simp only[yo] at d;obtain⟨⟨⟨s,q⟩,c3⟩,c4⟩:=d;exact .mk ⟨ks,ko,Lin,_,e,s,q,c3,c4,h,fun v Mo ⟨l,n⟩ j b=>by subst l n;exact⟨p,k j b⟩⟩
theorem TJ (L1:TL) (ks ko:List Nat) {f:Nat}{args a:List C}{K:TL->aY->C->Prop}{x:C}{Lin Lin' Lo:List TO}(h:CallsT P f a Lin' (jv Lo x)) (q:gives L L1 L1) (e:L1.sub ks=some Lin)
  (d:(covers L L1&&bP ks&&bP ko&&mP L1 ks ko&&aW Lin ks ko)=true) (t:(args.map fun c=>c.aaj.ren (cn ks 1000))=a) (m:Lin.map (TO.aag (C.ren (cn ks 1000)))=Lin') (r:ko.length=Lo.length)
  (k:Wf x->(∀o∈Lo,o.Wf)->K (((L1.aaf ks).kills (rowsOf L1 ks)).puts ko (Lo.map (TO.aag (C.ren (br ko))))) (fP (rowsOf L1 ks) ρ) (x.ren (br ko)).slt):pE P f args L ρ K:=by
 subst t m;simp only[yo] at d;obtain⟨⟨⟨⟨n,u⟩,s⟩,c3⟩,c4⟩:=d;exact .mk ⟨[],ks,ko,L1,Lin,_,.inr ⟨q,n⟩,e,u,s,c3,c4,h,fun v Mo ⟨l,p⟩ j b=>by subst l p;exact⟨r,k j b⟩⟩
theorem wz (b ks ko:List Nat) {f:Nat}{args a:List C}{K:TL->aY->C->Prop}{x:C}{Lo Lin':List TO}(h:CallsT P f a Lin' (jv Lo x))
  (q:yw b L ρ args fun L ρ args=>∃Lin,L.sub ks=some Lin/\(bP ks&&bP ko&&mP L ks ko&&aW Lin ks ko)=true/\(args.map fun c=>c.aaj.ren (cn ks 1000))=a/\Lin.map (TO.aag (C.ren (cn ks 1000)))=Lin'/\ko.length=Lo.length /\
   (Wf x->(∀o∈Lo,o.Wf)->K (((L.aaf ks).kills (rowsOf L ks)).puts ko (Lo.map (TO.aag (C.ren (br ko))))) (fP (rowsOf L ks) ρ) (x.ren (br ko)).slt)):pE P f args L ρ K:=by
 refine .mk ⟨b,ks,ko,?_⟩;refine frzK_imp q ?_;rintro L ρ args ⟨Lin,l,j,rfl,rfl,r,k⟩;simp only[yo] at j;obtain⟨⟨⟨t,s⟩,c3⟩,c4⟩:=j;exact⟨L,Lin,_,.inl rfl,l,t,s,c3,c4,h,fun v Mo ⟨n,p⟩ m e=>by subst n p;exact⟨r,k m e⟩⟩
where
 frzK_imp:∀{b:List Nat}{L:TL}{ρ:aY}{args:List C}{K K':TL->aY->List C->Prop},yw b L ρ args K->(∀L ρ args,K L ρ args->K' L ρ args)->yw b L ρ args K'
  | [],L,ρ,args,K,K',h,d=>d _ _ _ h
  | k::b,L,ρ,args,K,K',h,d=>by
   simp only[yw] at h ⊢;generalize L.get k=z at h ⊢;split at h
   ·exact frzK_imp h d
   ·exact h.elim
theorem aO {Lin:List TO}{v x:C}(hb:aW Lin (List.range' 1000 Lin.length) []=true) (e:v.aar.ren (cn [] 1000)=x):pF Lin L v (jv [] x) :=
 ⟨[],[],L,v,v,[],rfl,.inl ⟨rfl,rfl⟩,rfl,rfl,hb,fun _=>⟨rfl,e⟩⟩
theorem zW (ko:List Nat) {Lin Mo Lo:List TO}{v x:C}(c:L.sub ko=some Mo) (a:(bP ko&&aW Lin (List.range' 1000 Lin.length) ko)=true) (b:Mo.map (TO.aag (C.ren (cn ko 1000)))=Lo) (e:v.aar.ren (cn ko 1000)=x):pF Lin L v (jv Lo x):=by
 simp only[yo] at a;exact⟨[],ko,L,v,v,Mo,rfl,.inl ⟨rfl,rfl⟩,c,a.1,a.2,fun _=>⟨b,e⟩⟩
theorem VP (k t sz:Nat) {Lin:List TO}(b:L=[]) (hb:aW Lin (List.range' 1000 Lin.length) [k]=true):pF Lin L .nils (jv [.row t sz []] (.rw 1000)):=by
 subst b;have a:Nat.beq k k=true:=by simp
 refine⟨[],[k],[(k,.row t sz [])],.nils,.rw k,[.row t sz []],rfl,.inr ⟨⟨.inr ⟨rfl,t,sz,rfl⟩,trivial⟩,.inr (.inr (.inr (.inl ⟨rfl,k,t,sz,rfl,rfl,?_⟩)))⟩,?_,rfl,hb,fun _=>⟨rfl,?_⟩⟩
 ·simp only[TL.get,a]
 ·simp only[TL.sub,TL.get,a]
 ·simp only[C.aar,C.ren,C.mp,uE,cn,a]
theorem aZ {d:Type}{b:TL->aY->TK->Prop}{asg:List Nat}(n:Nat) (l:Nat) (f:List Nat) (c:d) (e:d->List C) (Lf:d->TL) (Inv:Nat->d->Prop) (r:Inv 0 c) (v:Mw L (Lf c) (ρ l) (.int .i64 0)) (u:oJ L (Lf c) f (e c) ρ)
  (w:gives L (Lf c) (Lf c)) (hb:∀s,nJ L (Lf s)=true) (t:∀s,(e s).length=f.length)
  (h:∀(k:Nat) s,k<=n->Inv k s->sU (e s)->(∀j o,(Lf s).get j=some o->o.Wf)->(k:Int)<=9223372036854775807->b (Lf s) (rm (l::f) (.int .i64 k::e s) (uH asg ρ)) fun L' ρ' =>
   ∃a:Nat×d,(a.1<=n/\Inv a.1 a.2)/\oJ L' (Lf a.2) (l::f) (.int .i64 a.1::e a.2) ρ'/\gives L' (Lf a.2) (Lf a.2)/\n-a.1<n-k):yE b asg L ρ:=by
 refine⟨Nat×d,(0,c),fun x=>x.1<=n/\Inv x.1 x.2,l::f,fun x=>.int .i64 x.1::e x.2,fun x=>Lf x.2,fun x=>n-x.1,⟨abl _,r⟩,⟨v,u⟩,w,fun x=>hb x.2,fun x=>by simp[t],?_⟩;rintro⟨k,s⟩ ⟨m,hi⟩ p q;simp only[sU,Wf] at p;exact h k s m hi p.2 q (wf_i64 p.1).2
theorem bn {L1:TL}{k:Nat}:Mw L L1 (.int .i64 ((k:Int)+1)) (.int .i64 ((k+1:Nat):Int)):=.inr (.inl ⟨rfl,rfl⟩)
theorem bq {n k:Nat}(h:k<n):n-(k+1)<n-k:=by omega
theorem nS {els:List (List C)}(h:Wf (.sl els)):els.length<=9223372036854775807:=by simp only[Wf,maxLen] at h;omega
theorem bA {a:Type}{f:a->List C}{l:List a}(h:Wf (.sl (l.map f))):l.length<=9223372036854775807:=by have:=nS h;simpa using this
theorem xw {bs:List UInt8}(h:Wf (.sl (ak bs))):bs.length<=9223372036854775807:=bA h
theorem bw {a:Type}{f:a->List C}{l:List a}{k sz:Nat}{x:a}{es:List C}{K:List C->Prop}(d:l[k]?=some x) (c:f x=es) (b:dM es sz=true) (h:K es):BQ (l.map f) (k:Int) sz K :=
 ⟨es,by omega,by simp[d,c],b,h⟩
theorem RO {bs:List UInt8}{k:Nat}{x:UInt8}{K:List C->Prop}(a:bs[k]?=some x) (h:K [jU x]):BQ (ak bs) (k:Int) 1 K :=
 ⟨[jU x],by omega,by simp[ak,a],rfl,h⟩
theorem DK:∀{l:List (List C)},uF l↔∀es∈l,sU es
 | []=>by simp[uF]
 | es::l=>by simp[uF,DK]
theorem aj {L1:TL}{c:C}(h:gu L1 3 c=true):Mw L L1 c c:=.inr (.inl ⟨rfl,h⟩)
theorem drop_cons {a:Type}{l:List a}{k:Nat}(h:k<l.length):∃x,l[k]?=some x/\l.drop k=x::l.drop (k+1):=⟨l[k],by simp[h],abI h⟩
theorem gU {a:Type}{l:List a}{k:Nat}(h:¬k<l.length):l.drop k=[]:=List.drop_eq_nil_iff.2 (by omega)
theorem TM {PS:qJ}{c:C}{v:Value}(b:Dp c=some v) (h:PS.ps v) (a:mF L [] PS.hb=true:=by rfl):TF PS L c:=⟨v,b,a,h⟩
end
def n8:Own->Value
 | .box g _ _=>.pointer (some ⟨g,0,none⟩)
 | .row _ _ _ _ _=>undef
def qI:Own->List Value->Own
 | .box g t _,cs=>.box g t cs
 | .row v t sz n xs,_=>.row v t sz n xs
def RP:Own->Nat->Prop
 | .box _ 0 _,_=>False
 | .box _ (_+1) cs,n=>cs.length=n
 | .row _ _ _ _ _,_=>False
theorem Gg {g:Nat}{t:TypeId}{cs:List Value}{n:Nat}(h:t≠0) (a:cs.length=n):RP (.box g t cs) n:=by
 cases t with
 | zero=>exact p7 rfl h
 | succ t=>exact a
theorem ND {g:Nat}{t:TypeId}{cs:List Value}{n:Nat}(h:RP (.box g t cs) n):t≠0:=by
 cases t with
 | zero=>exact h.elim
 | succ t=>exact Nat.succ_ne_zero t
def EF:List Own->List Nat->Prop
 | [],[]=>True
 | o::bs,n::ns=>RP o n/\EF bs ns
 | _,_=>False
structure qD (P:Program) (H:Nat) (PS:Value->Prop) (ns:List Nat) (out:Value->List (List Value)):Prop where
 inv:∀cap w,(invoke (.fn (.func H) cap) #[]).run P w=.ok (.enter H cap) w
 idle:∀(bs:List Own) (w:World),EF bs ns->CallsD P H (bs.map n8).toArray .returning w fun e u' w'=>e=.returned (.tuple #[])/\u'=.returning/\w'=w
 caught:∀(F:aF) (bs:List Own) (v:Value) (older:List PanicEntry) (w:World),PS v->EF bs ns->St F (inp bs) w ->
  CallsD P H (bs.map n8).toArray (.panicking ({v,recovered:=false}::older)) w fun e u' w'=>e=.returned (.tuple #[])/\u'=.panicking ({v,recovered:=true}::older) /\
   ∃F',St F' (inp (List.zipWith qI bs (out v))) w'/\Step F (inp bs) w F' (inp (List.zipWith qI bs (out v))) w'
theorem wA {P:Program}{F:aF}{L:Loc}{ρ:Env}{a:Act}{w:World}{fn:Func}{rs:List RV}{K:List Value->Prop}(d:St F L w) (f:aJ L ρ a) (b:qC P fn.results.toList=some rs) (h:mD L ρ rs K) :
  ∃vs,(results fn a.tmps).run P w=.ok (iC vs) w/\K vs:=by
 obtain⟨vs,c,e⟩:=q9 d f b h;refine⟨vs,?_,e⟩;rw[tJ,Array.mapM_eq_mapM_toList];simp only[Sem.run_bind,Sem.run_map];rw[c];simp only[Result.andThen_ok,Sem.run_pure];congr 1
 match vs with
 | []=>rfl
 | [t]=>rfl
 | t::u::r =>
  simp only[iC];rw[dif_neg (by simp)]
def sW:List TO->List TO->Prop
 | [],Mo=>Mo=[]
 | .box t _::l,Mo=>∃(n:Nat) (Mo':List TO),Mo=.box t (List.replicate n .any)::Mo'/\sW l Mo'
 | .row t sz _::l,Mo=>∃Mo',Mo=.row t sz []::Mo'/\sW l Mo'
 | .map _::_,_=>False
 | .win _ _ _ _::_,_=>False
def Bd:List TO->Bool
 | []=>true
 | .map _::_=>false
 | .win _ _ _ _::_=>false
 | .box _ _::l=>Bd l
 | .row _ _ _::l=>Bd l
theorem DL {F:aF}{L:Loc}:∀vs:List Value,aG F L (List.replicate vs.length .any) vs
 | []=>by simp only[abe,List.replicate_zero,aG]
 | v::vs=>by
  simp only[aaW,abD,aG];exact⟨v,vs,rfl,trivial,DL vs⟩
theorem Gh {F:aF}:∀(Lin:List TO) (Li Lo:List Own),Bd Lin=true->Li.length=Lin.length->Lo.length=Lin.length->(∀(i:Nat) o p,Lin[i]?=some o->Li[i]?=some p->∃L,dG F L o p) ->
  (∀(i:Nat) g t cs,Li[i]?=some (.box g t cs)->∃cs',Lo[i]?=some (.box g t cs')) ->
  ∃(Mo:List TO) (Lo':List Own),sW Lin Mo/\Mo.length=Lin.length/\Lo'.length=Lin.length/\(∀(i:Nat) o,Lo'[i]?=some o->Lo[i]?=some o\/∃t sz,o=.row (.slice none 0 0) t sz 0 []) /\
   (∀(i:Nat) g t cs,Li[i]?=some (.box g t cs)->∃cs',Lo'[i]?=some (.box g t cs'))/\∀(i:Nat) o p L G,Mo[i]?=some o->Lo'[i]?=some p->dG G L o p
 | [],Li,Lo,c,d,f,h,j=>by
  have:Li=[]:=List.length_eq_zero_iff.1 d;subst this;exact⟨[],[],rfl,rfl,rfl,fun i o e=>by simp at e,fun i g t cs e=>by simp at e,fun i o p L G e=>by simp at e⟩
 | o::Lin,[],Lo,c,d,f,h,j=>by simp at d
 | o::Lin,p::Li,[],c,d,f,h,j=>by simp at f
 | o::Lin,p::Li,q::Lo,c,d,f,h,j=>by
  obtain⟨Mo,Lo',r,m,s,u,w,x⟩:=Gh Lin Li Lo (by cases o<;>first | exact c | cases c) (by simpa using d) (by simpa using f) (fun i o p a b=>h (i+1) o p (by simpa using a) (by simpa using b)) (fun i g t cs e=>by simpa using j (i+1) g t cs (by simpa using e));obtain⟨L,l⟩:=h 0 o p rfl rfl;cases o with
  | map es=>cases c
  | win t0 p0 z q0=>cases c
  | box t cs =>
   cases p with
   | row=>exact l.elim
   | box g k us =>
    obtain⟨cs',e⟩:=j 0 g k us rfl;simp only[aa2,w7] at e;subst e;refine⟨.box t (List.replicate cs'.length .any)::Mo,.box g k cs'::Lo',⟨_,_,rfl,r⟩,by simp[m],by simp[s],fun i o e=>?_,fun i g t cs e=>?_,fun i o p L G a b=>?_⟩
    ·cases i with
     | zero=>exact .inl e
     | succ i=>simpa using u i o (by simpa using e)
    ·cases i with
     | zero=>simp only[aa2,w7] at e;injection e with q1 q2 q3;subst q1 q2;exact⟨_,rfl⟩
     | succ i=>simpa using w i g t cs (by simpa using e)
    ·cases i with
     | zero =>
      simp only[aa2,w7] at a b;subst a b;exact⟨l.1,DL _⟩
     | succ i=>exact x i o p L G (by simpa using a) (by simpa using b)
  | row t sz els =>
   cases p with
   | box=>exact l.elim
   | row v k y n xs =>
    refine⟨.row t sz []::Mo,.row (.slice none 0 0) t sz 0 []::Lo',⟨_,rfl,r⟩,by simp[m],by simp[s],fun i o e=>?_,fun i g t cs e=>?_,fun i o p L G a b=>?_⟩
    ·cases i with
     | zero=>simp only[aa2,w7] at e;subst e;exact .inr ⟨_,_,rfl⟩
     | succ i=>simpa using u i o (by simpa using e)
    ·cases i with
     | zero=>simp only[aa2,w7] at e;cases e
     | succ i=>simpa using w i g t cs (by simpa using e)
    ·cases i with
     | zero =>
      simp only[aa2,w7] at a b;subst a b;exact⟨rfl,rfl,rfl,⟨abl _,none,0,rfl,fun _=>rfl⟩,by simp only[aP]⟩
     | succ i=>exact x i o p L G (by simpa using a) (by simpa using b)
theorem RQ {F F':aF}{Lin:List TO}{Li Lo:List Own}{w w':World}(q:Bd Lin=true) (z:Li.length=Lin.length) (u:dH F (inp Li) (jG Lin)) (f:St F' (inp Lo) w') (c:Step F (inp Li) w F' (inp Lo) w') (x:Lo.length=Li.length)
  (v:∀(i:Nat) g t cs,Li[i]?=some (.box g t cs)->∃cs',Lo[i]?=some (.box g t cs')) :
  ∃Mo Lo',St F' (inp Lo') w'/\Step F (inp Li) w F' (inp Lo') w'/\sW Lin Mo/\Mo.length=Lo'.length/\dH F' (inp Lo') (jG Mo)/\∀(i:Nat) g t cs,Li[i]?=some (.box g t cs)->∃cs',Lo'[i]?=some (.box g t cs'):=by
 have l:∀(i:Nat) o p,Lin[i]?=some o->Li[i]?=some p->∃L,dG F L o p:=by
  intro i o p d s;have hk:=u (1000+i);rw[cI,bg,o6 (by omega),o6 (by omega),show 1000+i-1000=i by omega,d,s] at hk;exact⟨_,hk⟩
 obtain⟨Mo,Lo',a1,n,r,a4,a5,a6⟩:=Gh Lin Li Lo q z (by rw[x,z]) l v;have a:∀j o,(inp Lo').get j=some o->(inp Lo).get j=some o\/∃t sz,o=.row (.slice none 0 0) t sz 0 []:=by
  intro j o e;rw[bg] at e ⊢;split at e
  case isFalse=>cases e
  rename_i hj;rw[o6 hj];exact a4 _ o e
 refine⟨Mo,Lo',⟨f.frz,fun j o e=>?_,fun j o g e hb=>?_,fun j y o o' g e e' hb h=>?_,f.glob⟩,?_,a1,by rw[n,r],fun k=>?_,a5⟩
 ·rcases a j o e with d | ⟨t,sz,rfl⟩
  ·exact f.own j o d
  ·exact World.ownsRow_nil w' 0 t sz
 ·rcases a j o e with d | ⟨t,sz,rfl⟩
  ·exact f.off j o g d hb
  ·cases hb
 ·rcases a j o e with d | ⟨t,sz,rfl⟩
  ·rcases a y o' e' with s | ⟨t,sz,rfl⟩
   ·exact f.sep j y o o' g d s hb h
   ·cases h
  ·cases hb
 ·refine⟨c.le,c.os,c.tape,c.output,c.size,c.same,c.frz,fun b hb=>?_⟩;obtain⟨j,o,e,hb⟩:=hb;rcases a j o e with d | ⟨t,sz,rfl⟩
  ·exact c.own b ⟨j,o,d,hb⟩
  ·cases hb
 ·rw[cI,bg];split
  ·cases d:Mo[k-1000]? with
   | none =>
    have:Lo'[k-1000]?=none:=aa0 (by rw[r,<-n];exact abE.1 d);rw[this];trivial
   | some o =>
    have m:k-1000<Lo'.length:=by rw[r,<-n];exact(xD.1 d).1
    rw[w8 m];exact a6 _ o _ _ _ d (w8 m)
  ·trivial
def yY (M:TL) (τ:aY):List Nat->List Nat->Bool
 | [],[]=>true
 | k::ks,n::ns=>match τ k,M.get k with
  | .own j 0,some (.box _ cs)=>match Nat.beq j k,dM cs n with | true,true=>yY M τ ks ns | _,_=>false
  | _,_=>false
 | _,_=>false
section
variable {G:Nat->Option (Nat×TypeId)}{F:aF}{L:Loc}{ρ:Env}{M:TL}{τ:aY}
theorem DM:∀{ks ns:List Nat},yY M τ ks ns=true->TS G F L ρ M τ->∃bs:List Own,L.sub ks=some bs/\EF bs ns/\ks.map (fun k=>conc L (ρ k))=bs.map n8/\(∀k∈ks,ρ k=.own k 0)
 | [],[],_,_=>⟨[],rfl,trivial,rfl,fun k h=>by cases h⟩
 | [],n::ns,h,_=>by cases h
 | k::ks,[],h,_=>by cases h
 | k::ks,n::ns,h,c=>by
  simp only[yY] at h;split at h
  case h_2=>cases h
  rename_i j t cs o m;split at h
  case h_2=>cases h
  rename_i d s;have d:=v8 d;subst d;obtain⟨bs,r,q,u,l⟩:=DM h c;obtain⟨g,ty,vs,f,p,b⟩:=lq c.tl m;have e:ρ j=.own j 0:=(fG (x:=.t j) c.env o).1;refine⟨.box g ty vs::bs,by simp only[Loc.sub,f,r],⟨Gg b.2.2 (by rw[p.len];exact bJ s),q⟩,?_,?_⟩
  ·rw[aaU,aaU,u];simp only[e,conc,f,n8]
  ·intro k a;rcases aaQ.1 a with rfl | a
   ·exact e
   ·exact l k a
end
theorem xH:∀{bs:List Own}{ns:List Nat},EF bs ns->bs.length=ns.length
 | [],[],_=>rfl
 | [],_::_,h=>h.elim
 | _::_,[],h=>h.elim
 | o::bs,n::ns,h=>by simp[xH h.2]
theorem DN {hb:List (Nat×Nat)}{L L':Loc}:∀{ks ns:List Nat}{bs:List Own},L.sub ks=some bs->EF bs ns->(∀k g t cs,k∈ks->L.get k=some (.box g t cs)->∃cs',L'.get k=some (.box g t cs'))->VN hb L'->(∀x∈ks.zip ns,x∈hb) ->
  ∃a,L'.sub ks=some a/\EF a ns/\a.map n8=bs.map n8
 | [],ns,bs,b,c,f,m,h=>by
  simp only[Loc.sub,w7] at b;subst b;exact⟨[],rfl,c,rfl⟩
 | k::ks,ns,bs,b,c,f,m,h=>by
  simp only[Loc.sub] at b;split at b
  case h_2=>cases b
  rename_i o l u w;injection b with b
  subst b;cases ns with
  | nil=>exact c.elim
  | cons n ns =>
   obtain⟨c,p⟩:=c;cases o with
   | row=>exact c.elim
   | box g t cs =>
    obtain⟨a,q1,z,q3⟩:=DN w p (fun j g t cs v e=>f j g t cs (by simp[v]) e) m (fun x s=>h x (by simp[s]));obtain⟨cs',q⟩:=f k g t cs (by simp) u;obtain⟨g',t',r,d,y⟩:=m k n (h _ (by simp));rw[q] at d;injection d with d
    injection d with x1 x2 x3
    subst x1 x2 x3;exact⟨.box g t cs'::a,by simp only[Loc.sub,q,q1],⟨Gg (ND c) y,z⟩,by simp[q3,n8]⟩
theorem Gi:∀{bs:List Own}{ns:List Nat}{l:List (List Value)},EF bs ns->l.length=ns.length->(List.zipWith qI bs l).length=bs.length/\(∀(i:Nat) g t cs,bs[i]?=some (.box g t cs)->∃cs',(List.zipWith qI bs l)[i]?=some (.box g t cs')) /\
  ∀(i:Nat) cs,l[i]?=some cs->∃g t,(List.zipWith qI bs l)[i]?=some (.box g (t+1) cs)
 | [],[],l,_,h=>by
  have:l=[]:=List.length_eq_zero_iff.1 h;subst this;exact⟨rfl,fun i g t cs e=>by simp at e,fun i cs e=>by simp at e⟩
 | [],n::ns,l,h,_=>h.elim
 | o::bs,[],l,h,_=>h.elim
 | o::bs,n::ns,[],_,h=>by simp at h
 | o::bs,n::ns,c::l,⟨a,b⟩,h=>by
  obtain⟨k,f,m⟩:=Gi (l:=l) b (by simpa using h);cases o with
  | row=>exact a.elim
  | box g t cs =>
   refine⟨by simp[k],fun i j d cs' e=>?_,fun i cs' e=>?_⟩
   ·cases i with
    | zero =>
     simp only[aa2,w7] at e;injection e with x1 x2 x3
     subst x1 x2;exact⟨c,rfl⟩
    | succ i=>simpa using f i j d cs' (by simpa using e)
   ·cases i with
    | zero =>
     simp only[aa2,w7] at e;subst e;cases t with
     | zero=>exact a.elim
     | succ t=>exact⟨g,t,rfl⟩
    | succ i=>simpa using m i cs' (by simpa using e)
theorem vL {a:Act}{ρ:Env}{L:Loc}(b:aJ L ρ a):∀ks:List Nat,(ks.map Operand.tmp).map a.eval=ks.map fun k=>conc L (ρ k)
 | []=>rfl
 | k::ks=>by
  simp only[aaU,vL b ks];exact j3 (·::_) (b.eq k)
theorem Qa:∀(l:List PanicEntry),(∀e∈l,e.goexit=false)->l.dropWhile (!·.goexit)=[]
 | [],_=>rfl
 | e::l,h=>by
  rw[List.dropWhile_cons,o6 (by simp[h e (by simp)])];exact Qa l fun x a=>h x (by simp[a])
theorem Ci {P:Program}{f H d r1:Nat}{fn:Func}{c0 rest:Code}{o1 o2:Oper}{A:cF}{sc0 sc:aI}{rs:List RV}{ks ns:List Nat}{args:List C}{Lin:List TO}{R:List TO->C->Prop}{PS:Value->Prop}{out:Value->List (List Value)}
  (hf:P.funcs[f]?=some fn) (hb:fn.body=some (.seq c0 (.seq (.region r1 #[o1,o2] false) rest))) (hname:(fn.name == "runtime.NumGoroutine")=false) (hnt:fn.ntmps=A.n)
  (ho1:o1.op=.makeFunc (.func H) #[] (ks.map Operand.tmp).toArray) (hd1:o1.dst=some d) (hg1:o1.guard=none) (ho2:o2.op=.defer {callee:=.value (.tmp d),args:=#[],argTypes:=#[]}) (hd2:o2.dst=none) (hg2:o2.guard=none)
  (hl0:low P A c0=some sc0) (hl:low P A rest=some sc) (hres:qC P fn.results.toList=some rs) (hH:qD P H PS ns out) (hd:d<A.n) (hks:bP ks=true) (hkd:(ks.all fun k=>!(gI (dh rest) k)&&!(Nat.beq k d)&&Nat.blt k 1000)=true)
  (hout:∀v,PS v->(out v).length=ns.length) (hlen:Nat.ble args.length A.n=true) (hnm:Bd Lin=true)
  (hcat:∀v,PS v->∃c x,(∀(L:Loc) (ρ:Env),(∀(i:Nat) k cs,ks[i]?=some k->(out v)[i]?=some cs->ρ k=.own k 0/\∃g t,L.get k=some (.box g (t+1) cs))->mD L ρ rs (fun vs=>iC vs=x))/\(∀F L,Rel F L c x)/\∀Mo,sW Lin Mo->R Mo c)
  (h:sU args->(∀o∈Lin,o.Wf)->fQ P ⟨fun _=>False,[],none⟩ sc0 (fun _ _ _=>False) (fun _ _=>False) (fun M τ=>yY M τ ks ns=true /\
   fQ P ⟨PS,ks.zip ns,none⟩ sc (fun _ _ _=>False) (fun L ρ=>rq L ρ rs fun vs=>pF Lin L (tM vs) R) (fun L ρ=>rq L ρ rs fun vs=>pF Lin L (tM vs) R) M (bL (some d) .any τ)) (jG Lin) (wK 0 args)) :
  CallsT P f args Lin R:=by
 refine⟨fun F Li vs hlL htl ha=>⟨⟨fn,hf,by rw[hb];rfl,hname⟩,iB.aao,fun w hs=>?_⟩⟩
 suffices hall:∀RR:Ending->World->Prop,(∀v F' Lo w',St F' (inp Lo) w'->Step F (inp Li) w F' (inp Lo) w'->iB Li R F' Lo v->RR (.returned v) w')->Calls P f vs.toArray w RR from
  hall _ fun v F' Lo w' h1 h2 h3=>⟨v,F',Lo,rfl,h1,h2,h3⟩
 intro RR hRR;refine calls_of_wp_defers hf hb ?_;have hwo:∀o∈Lin,o.Wf:=by
  intro o ho;obtain⟨i,hi⟩:=abf.1 ho;have:=htl (1000+i);rw[cI,bg,o6 (by omega),o6 (by omega),show 1000+i-1000=i by omega,hi] at this;cases e:Li[i]? with
  | none=>rw[e] at this;exact this.elim
  | some p=>rw[e] at this;exact dG.wf this
 have h:=h ha.wf hwo;have hla:=ha.len;have hlen:=aa3 hlen;have key:∀j,∃sv,aT F (inp Li) (wK 0 args j) sv/\conc (inp Li) sv=(vs.toArray++Array.replicate (fn.ntmps-vs.toArray.size) undef).getD j undef/\(∀k off,sv=.own k off->∃g t cs,(inp Li).get k=some (.box g t cs))/\(∀ad i,sv=.el ad i->ad≠none):=by
  intro j;rw[yV];simp only[abl,abd,Nat.sub_zero,abg];cases e:args[j]? with
  | some c =>
   have hlt:j<vs.length:=by rw[hla];exact(xD.1 e).1
   obtain⟨s1,s2,s3,s4⟩:=Cg (ha.at e (w8 hlt));refine⟨_,s1,?_,s3,fun ad i e=>s4 ad i e⟩;rw[s2,Array.getElem?_append_left (by simpa using hlt)];simp[hlt]
  | none =>
   have hge:vs.length<=j:=by rw[hla];exact abE.1 e
   refine⟨.v undef,rE,?_,fun _ _ e=>(by cases e),fun _ _ e=>(by cases e)⟩;rw[Array.getElem?_append_right (by simpa using hge)];simp only[Array.getElem?_replicate,conc];split<;>rfl
 let ρ0:Env:=fun j=>(key j).choose
 have he:aJ (inp Li) ρ0 {tmps:=vs.toArray++Array.replicate (fn.ntmps-vs.toArray.size) undef,defers:=[]} :=
  ⟨fun t=>(key t).choose_spec.2.1.symm,fun t k off e=>(key t).choose_spec.2.2.1 k off e,fun t ad j e=>(key t).choose_spec.2.2.2 ad j e⟩
 let G:Nat->Option (Nat×TypeId):=fun k=>match(inp Li).get k with | some (.box g t _)=>some (g,t) | _=>none
 have hG1:∀k g t cs,(inp Li).get k=some (.box g t cs)->G k=some (g,t):=fun k g t cs e=>by simp only[G,e]
 have hkp:Kp G (inp Li):=by
  intro k g t e;simp only[G] at e;split at e
  ·rename_i g' t' cs h;injection e with e
   injection e with e1 e2
   subst e1 e2;exact⟨cs,h⟩
  ·cases e
 have ht:TS G F (inp Li) ρ0 (jG Lin) (wK 0 args):=⟨htl,fun j=>(key j).choose_spec.1,hkp,hs.glob⟩;have hGd:∀k,G k≠none->1000<=k:=by
  intro k hne;simp only[G] at hne;split at hne
  ·rename_i g t cs h;rw[bg] at h;split at h
   ·assumption
   ·cases h
  ·exact p7 rfl hne
 refine wp_seq (wp_mono (qt c0 hl0 (fun k _ hne=>.inl (hGd k hne)) hs he ht (by simp[hnt];omega) h) ?_);intro e a1 w1 hq;cases e with
 | exit j=>obtain⟨F',L',ρ',_,_,_,_,_,_,M',τ',_,h⟩:=hq;exact h.elim
 | goto l=>exact hq.elim
 | outgrown=>exact hq.elim
 | ret=>obtain⟨F',L',ρ',_,_,_,_,_,_,M',τ',_,h⟩:=hq;exact h.elim
 | panic c=>obtain⟨v,hch,F',L',_,_,_,_,_,_,hp,_⟩:=hq;exact hp.elim
 | normal =>
 obtain⟨F1,L1,ρ1,hs1,he1,hn1,hd1',hst1,_,M1,τ1,ht1,hcaps,hrest⟩:=hq;obtain⟨bs,hsub,hbx,hptr,hown⟩:=DM hcaps ht1;simp only[Exit.then]
 -- the deferred function is named
 generalize hfv:Value.func (.func H) #[] (bs.map n8).toArray=fv;have hev:(ks.map Operand.tmp).toArray.map a1.eval=(bs.map n8).toArray:=by
  rw[List.map_toArray,vL he1,hptr]
 have he2:=he1.put (L':=L1) (d:=some d) (v:=fv) (x:=.v fv) (fun k e=>by injection e with e;subst e;omega) rfl bY dV (fun k g ty cs e=>⟨cs,e⟩);have ht2:TS G F1 L1 (put (some d) (.v fv) ρ1) M1 (bL (some d) .any τ1):=ht1.put (c:=.any) (sv:=.v fv) trivial (some d);obtain⟨tm,df⟩:=a1;simp only at hd1';subst hd1';have hdt:(tm.setIfInBounds d fv).getD d undef=fv:=by
  have:d<tm.size:=by simpa[hn1] using hd
  simp[abg,this]
 refine wp_seq (wp_region ?_);generalize hd0:({target:=.fn (.func H) (bs.map n8).toArray,args:=#[]}:Deferred)=d0;have hsz:d<tm.size:=by simpa[hn1] using hd
 simp[wpOps,go_sem,ho1,hd1,hg1,ho2,hd2,hg2,Exit.then,Region.wanted,hsz,Instr.makeFunc];have hml:List.map (Act.eval {tmps:=tm,defers:=[]}∘Operand.tmp) ks=bs.map n8:=by
  rw[<-hptr,<-vL he1,abG]
 rw[hml,hfv,hd0];refine .inl (.inl ?_)
 let G1:Nat->Option (Nat×TypeId):=fun k=>match Nat.ble 1000 k||gI ks k with | true=>(match L1.get k with | some (.box g t _)=>some (g,t) | _=>none) | false=>none
 have hGL:∀k g t cs,(1000<=k\/k∈ks)->L1.get k=some (.box g t cs)->G1 k=some (g,t):=fun k g t cs hk e=>by
  have:(Nat.ble 1000 k||gI ks k)=true:=by
   rw[abn];exact hk.imp (fun h=>by rw[Nat.ble_eq];exact h) dn.2
  simp only[G1,this,e]
 have hfz1:uP G1 ⟨PS,ks.zip ns,none⟩ (jq sc):=by
  intro k _ hne;simp only[G1] at hne;split at hne
  ·rename_i hb;rw[abn] at hb;rcases hb with hb | hb
   ·rw[Nat.ble_eq] at hb;exact .inl hb
   ·refine .inr ?_;have hl2:ks.length=ns.length:=by rw[(fo hsub).1.symm];exact xH hbx
    show gI ((ks.zip ns).map (·.1)) k=true;rw[List.map_fst_zip (by omega)];exact hb
  ·exact p7 rfl hne
 have hkp1:Kp G1 L1:=by
  intro k g t e;simp only[G1] at e;split at e
  case h_2=>cases e
  split at e
  ·rename_i g' t' cs h;injection e with e
   injection e with e1 e2
   subst e1 e2;exact⟨cs,h⟩
  ·cases e
 have hGG:∀k g t,G k=some (g,t)->G1 k=some (g,t):=fun k g t e=>let⟨cs,h⟩:=ht1.kp k g t e;hGL k g t cs (.inl (hGd k (by rw[e];simp))) h;have ht3:TS G1 F1 L1 (put (some d) (.v fv) ρ1) M1 (bL (some d) .any τ1):=⟨ht2.tl,ht2.env,hkp1,ht2.glob⟩;have he3:aJ L1 (put (some d) (.v fv) ρ1) {tmps:=tm.setIfInBounds d fv,defers:=[d0]}:=⟨he2.eq,he2.own,he2.el⟩;refine wp_mono (qt rest hl hfz1 hs1 he3 ht3 (by simpa using hn1) hrest) ?_;intro e a' w' hq;have hnd:=dz hks;have hGI:∀k g t cs,(inp Li).get k=some (.box g t cs)->G1 k=some (g,t):=fun k g t cs e=>hGG k g t (hG1 k g t cs e);have back:∀(u:FrameMode) (w:World),u=.returning->Leaves P fn a'.tmps RR [] .returning w->Leaves P fn a'.tmps RR [d0] u w:=by
  rintro u w rfl hlv;rw[<-hd0];refine leaves_cons (f:=H) (args:=(bs.map n8).toArray) (by simp) (hH.inv _ w) ?_;refine(hH.idle bs w hbx).mono ?_;rintro e u' w6 ⟨rfl,rfl,rfl⟩;exact hlv
 have fin:fw A.n F1 L1 w1 {tmps:=tm.setIfInBounds d fv,defers:=[d0]} (dh rest) (Both G1 (fun L ρ=>rq L ρ rs fun vs=>pF Lin L (tM vs) R)) a' w'->Leaves P fn a'.tmps RR a'.defers .returning w':=by
  intro hq;have hq':fw A.n F (inp Li) w {tmps:=tm.setIfInBounds d fv,defers:=[d0]} (dh rest) (Both G1 (fun L ρ=>rq L ρ rs fun vs=>pF Lin L (tM vs) R)) a' w':=by
   obtain⟨F',L',ρ',g1,g2,g3,g4,g5,g6,g7⟩:=hq;exact⟨F',L',ρ',g1,g2,g3,g4,hst1.trans g5,g6,g7⟩
  obtain⟨k1,v,k2,F',Lo,k3,k4,k5⟩:=P9 hres hlL htl hGI hq';rw[k1];exact back _ _ rfl ⟨v,k2,hRR v F' Lo w' k3 k4 k5⟩
 cases e with
 | normal=>exact fin hq
 | ret=>exact fin hq
 | exit j=>obtain⟨F',L',ρ',_,_,_,_,_,_,M',τ',_,h⟩:=hq;exact h.elim
 | goto l=>exact hq.elim
 | outgrown=>exact hq.elim
 | panic ch =>
  obtain⟨v,⟨older,rfl,hold⟩,F',L',g1,g2,g3,g4,g5,kp,hp,hbL,_⟩:=hq;show Leaves P fn a'.tmps RR a'.defers _ w';rw[g4,<-hd0];obtain⟨bs',q1,q2,q3⟩:=DN hsub hbx (fun k g t cs hk e=>kp k g t (hGL k g t cs (.inr hk) e)) hbL (fun x hx=>hx);refine leaves_cons (f:=H) (args:=(bs.map n8).toArray) (by simp) (hH.inv _ w') ?_;rw[<-q3];refine(hH.caught F' bs' v older w' hp q2 (g1.handed q1 hnd)).mono ?_;rintro e u' w6 ⟨rfl,rfl,F6,hs6,hst6⟩;show Leaves P fn a'.tmps RR [] (settle _) w6;have hset:settle (.panicking ({v,recovered:=true}::older))=.returning:=by
   have:older.dropWhile (!·.goexit)=[]:=by
    exact Qa older hold
   simp only[settle,this]
  rw[hset];obtain⟨z1,z2,z3⟩:=Gi (l:=out v) q2 (hout v hp);obtain⟨sl,sg⟩:=fo q1;have hkl:ks.length=(List.zipWith qI bs' (out v)).length:=by rw[z1,sl]
  obtain⟨c1,c2⟩:=jT g1 q1 hnd hnd (fun k hk=>.inl hk) hs6 hst6 hkl;generalize hL6:(L'.aaf ks).puts ks (List.zipWith qI bs' (out v))=L6 at c1 c2;have hget:∀(i:Nat) k cs,ks[i]?=some k->(out v)[i]?=some cs->∃g t,L6.get k=some (.box g (t+1) cs)/\(∃cs',L'.get k=some (.box g (t+1) cs')):=by
   intro i k cs e1 e2;obtain⟨g,t,e3⟩:=z3 i cs e2;refine⟨g,t,by rw[<-hL6];exact cZ hnd hkl e1 e3,?_⟩;have e4:=sg i k e1;have hlt:i<bs'.length:=by rw[<-z1];exact(xD.1 e3).1
   rw[w8 hlt] at e4;have e5:(List.zipWith qI bs' (out v))[i]?=some (qI bs'[i] cs):=by
    rw[List.getElem?_zipWith,w8 hlt,e2]
   rw[e3] at e5;injection e5 with e5
   cases hb:bs'[i] with
   | row=>rw[hb] at e5;cases e5
   | box g' t' cs' =>
    rw[hb] at e5 e4;injection e5 with x1 x2
    subst x1 x2;exact⟨cs',e4⟩
  -- the slots that name the boxes
  let ρ6:Env:=fun j=>match gI ks j with | true=>.own j 0 | false=>.v (a'.tmps.getD j undef)
  have hkd':∀k∈ks,k∉dh rest/\k≠d:=by
   intro k hk;have:=aa1.1 hkd k hk;simp only[yo,Bool.not_eq_true'] at this;refine⟨fun hm=>?_,fun e=>?_⟩
   ·rw[dn.2 hm] at this;exact p7 this.1.1 (by simp)
   ·subst e;simp at this
  have hslot:∀k∈ks,∃g t cs,L6.get k=some (.box g t cs)/\a'.tmps.getD k undef=.pointer (some ⟨g,0,none⟩):=by
   intro k hk;obtain⟨i,hi⟩:=abf.1 hk;have hlt:i<(out v).length:=by
    have:=(xD.1 hi).1;have hl2:ks.length=ns.length:=by rw[<-sl];exact xH q2
    rw[hout v hp];omega
   obtain⟨g,t,e1,cs',e2⟩:=hget i k _ hi (w8 hlt);refine⟨g,t+1,_,e1,?_⟩;obtain⟨y1,y2⟩:=hkd' k hk;rw[g5 k y1];have:=he3.eq k;rw[this,put_eq];simp only[];rw[vv y2,hown k hk];simp only[conc];obtain⟨g0,t0,cs0,e0⟩:=he1.own k k 0 (hown k hk);obtain⟨cs1,e3⟩:=kp k g0 t0 (hGL k g0 t0 cs0 (.inr hk) e0);rw[e2] at e3;injection e3 with e3
   injection e3 with x1 x2 _
   subst x1;rw[e0]
  have he6:aJ L6 ρ6 a':=by
   refine⟨fun j=>?_,fun j k off e=>?_,fun j ad i e=>?_⟩
   ·simp only[ρ6];cases hm:gI ks j with
    | false=>rfl
    | true =>
     obtain⟨g,t,cs,e1,e2⟩:=hslot j (dn.1 hm);rw[e2];simp only[conc,e1]
   ·simp only[ρ6] at e;cases hm:gI ks j with
    | false=>rw[hm] at e;cases e
    | true =>
     rw[hm] at e;injection e with x1 x2
     subst x1;obtain⟨g,t,cs,e1,_⟩:=hslot j (dn.1 hm);exact⟨g,t,cs,e1⟩
   ·simp only[ρ6] at e;cases hm:gI ks j<;>rw[hm] at e<;>cases e
  obtain⟨c,x,hrv,hrel,hlost⟩:=hcat v hp;obtain⟨us,h5,h6⟩:=wA (K:=fun vs=>iC vs=x) c1 he6 hres (hrv L6 ρ6 fun i k cs e1 e2=>by
   obtain⟨g,t,e3,_⟩:=hget i k cs e1 e2;refine⟨?_,g,t,e3⟩;simp only[ρ6,dn.2 (aaS e1)])
  have hst:Step F (inp Li) w F6 L6 w6:=(hst1.trans g2).trans c2;obtain⟨Lo,p1,p2,p3,p4⟩:=yX c1 hst (fun i g t cs e=>by
   have e0:(inp Li).get (1000+i)=some (.box g t cs):=by rw[bg,o6 (by omega),show 1000+i-1000=i by omega];exact e
   obtain⟨cs1,e1⟩:=kp (1000+i) g t (hGI _ g t cs e0);refine⟨cs1,?_⟩;rw[<-hL6];have hni:1000+i∉ks:=by
    intro hm;have:=aa1.1 hkd _ hm;simp only[yo] at this;have:=this.2;rw[Nat.blt_eq] at this;omega
   rcases dR ks (List.zipWith qI bs' (out v)) (L'.aaf ks) (1000+i) hnd hkl with⟨q1,q2⟩ | ⟨i',q1,q2,q3⟩
   ·rw[q1,gk,vv hni];exact e1
   ·exact p7 (aaS q1) hni)
  obtain⟨Mo,Lo',l1,l2,l3,l4,l5,l6⟩:=RQ hnm hlL htl p1 p2 p3 p4;refine⟨_,h5,hRR _ F6 Lo' w6 l1 l2 ⟨Mo,c,l4,l5,?_,l6,hlost Mo l3⟩⟩;rw[h6];exact hrel _ _
def tmpsOf:List Operand->Option (List Nat)
 | []=>some []
 | .tmp k::l=>match tmpsOf l with | some ks=>some (k::ks) | none=>none
 | _::_=>none
theorem Be:∀{l:List Operand}{ks:List Nat},tmpsOf l=some ks->l=ks.map Operand.tmp
 | [],ks,h=>by simp only[tmpsOf,w7] at h;subst h;rfl
 | o::l,ks,h=>by
  cases o<;>simp only[tmpsOf,reduceCtorEq] at h;split at h
  case h_2=>cases h
  rename_i a e;injection h with h
  subst h;rw[Be e];rfl
def Cj (op:Op) (d:Nat):Bool :=
 match op with
 | .defer c=>match c.callee,c.args.toList,c.argTypes.toList with
  | .value (.tmp a),[],[]=>Nat.beq d a
  | _,_,_=>false
 | _=>false
theorem Fh {op:Op}{d:Nat}(h:Cj op d=true):op=.defer {callee:=.value (.tmp d),args:=#[],argTypes:=#[]}:=by
 unfold Cj at h;split at h
 case h_2=>cases h
 rename_i c;split at h
 case h_2=>cases h
 rename_i m f e b;have:=v8 h;subst this;obtain⟨ca,j,a⟩:=c;simp only at f e b;subst f;have l:j=#[]:=by apply Array.ext';exact e
 have k:a=#[]:=by apply Array.ext';exact b
 rw[l,k]
def Fj (P:Program) (A:cF) (fn:Func):Option (aI×aI×Nat×List Nat×Nat×List RV) :=
 match fn.body with
 | some (.seq c0 (.seq (.region _ ⟨[o1,o2]⟩ false) rest))=>match o1.op,o1.dst,o1.guard with
  | .makeFunc (.func H) ⟨[]⟩ ca,some d,none=>match Cj o2.op d,o2.dst,o2.guard,tmpsOf ca.toList with
   | true,none,none,some ks=>match low P A c0,low P A rest,qC P fn.results.toList with
    | some sc0,some sc,some rs=>match fn.name == "runtime.NumGoroutine",Nat.beq fn.ntmps A.n&&Nat.blt d A.n&&bP ks,ks.all fun k=>!(gI (dh rest) k)&&!(Nat.beq k d)&&Nat.blt k 1000 with
     | false,true,true=>some (sc0,sc,H,ks,d,rs)
     | _,_,_=>none
    | _,_,_=>none
   | _,_,_,_=>none
  | _,_,_=>none
 | _=>none
theorem iE {P:Program}{f H d:Nat}{fn:Func}{A:cF}{p sc:aI}{rs:List RV}{ks ns:List Nat}{args:List C}{Lin:List TO}{R:List TO->C->Prop}{PS:Value->Prop}{out:Value->List (List Value)}
  (hf:P.funcs[f]?=some fn) (a:Fj P A fn=some (p,sc,H,ks,d,rs)) (hH:qD P H PS ns out)
  (j:∀v,PS v->(out v).length=ns.length) (e:Nat.ble args.length A.n=true) (w:Bd Lin=true)
  (l:∀v,PS v->∃c x,(∀(L:Loc) (ρ:Env),(∀(i:Nat) k cs,ks[i]?=some k->(out v)[i]?=some cs->ρ k=.own k 0/\∃g t,L.get k=some (.box g (t+1) cs))->mD L ρ rs (fun vs=>iC vs=x))/\(∀F L,Rel F L c x)/\∀Mo,sW Lin Mo->R Mo c)
  (h:sU args->(∀o∈Lin,o.Wf)->fQ P ⟨fun _=>False,[],none⟩ p (fun _ _ _=>False) (fun _ _=>False) (fun M τ=>yY M τ ks ns=true /\
   fQ P ⟨PS,ks.zip ns,none⟩ sc (fun _ _ _=>False) (fun L ρ=>rq L ρ rs fun vs=>pF Lin L (tM vs) R) (fun L ρ=>rq L ρ rs fun vs=>pF Lin L (tM vs) R) M (bL (some d) .any τ)) (jG Lin) (wK 0 args)) :
  CallsT P f args Lin R:=by
 unfold Fj at a;split at a
 case h_2=>cases a
 rename_i c0 r o1 o2 ab hb;split at a
 case h_2=>cases a
 rename_i H' ca d' e1 e2 e3;split at a
 case h_2=>cases a
 rename_i q e4 e5 e6 e7;split at a
 case h_2=>cases a
 rename_i ad ay ae e8 e9 aa;split at a
 case h_2=>cases a
 rename_i u b y;simp only[w7,Prod.mk.injEq] at a;obtain⟨rfl,rfl,rfl,rfl,rfl,rfl⟩:=a;simp only[yo] at b;obtain⟨⟨b,m⟩,z⟩:=b;have s:ca=(q.map Operand.tmp).toArray:=by
  have:=Be e7;rw[<-this]
 rw[s] at e1;rw[Nat.blt_eq] at m;exact Ci hf hb u (v8 b) e1 e2 e3 (Fh e4) e5 e6 e8 e9 aa hH m z y j e w l h
end Go.Fr.T
namespace Go.Fr
open Go Go.RowKit
section
variable {P:Program}{Q:Exit->Act->World->Prop}{K:dm}
theorem noPan {n:Nat}{F:aF}{L:Loc}{w:World}{a:Act}{asg:List Nat}{E:Nat->dm}{R N:dm}{c} {b:Act}{w':World}(h:QQ n F L w a asg (fun _ _ _=>False) E R N (.panic c) b w'):False:=by
 obtain⟨v,_,F',L',_,_,_,_,_,h⟩:=h;exact h
theorem oK {A:cF}{r:Nat}{c:Array Oper}:∀(is:List Nat) {ss:List aB}{F:aF}{L:Loc}{ρ:Env}{a:Act}{w:World},qV P A r c is=some ss->St F L w->aJ L ρ a->a.tmps.size=A.n ->
  bh P ss F L ρ K->(∀a' w',fw A.n F L w a (dstsOf c is) K a' w'->Q .normal a' w')->wpOps P c Q is a w:=by
 intro is
 induction is with
 | nil =>
  intro ss F L ρ a w hl hs he hn l hQ;simp only[qV,w7] at hl;subst hl;exact hQ a w ⟨F,L,ρ,hs,he,hn,rfl,Step.refl _ _ _,fun _ _=>rfl,l⟩
 | cons i is ih =>
  intro ss F L ρ a w hl hs he hn l hQ;simp only[qV] at hl;split at hl
  case h_1=>cases hl
  rename_i o hi;split at hl
  case h_2=>cases hl
  rename_i g s y hg ca ar ab;injection hl with hl
  subst hl
  -- the q
  have q:∀(ks:List Nat) {F:aF}{L:Loc}{ρ:Env},St F L w->aJ L ρ a->bh P (ks.map aB.frz++oH (v9 A.pan r i) o.dst s g::y) F L ρ K ->
    ∃F' L' ρ',St F' L' w/\aJ L' ρ' a/\Step F L w F' L' w/\bh P (oH (v9 A.pan r i) o.dst s g::y) F' L' ρ' K:=by
   intro ks
   induction ks with
   | nil=>intro F L ρ hs he h;exact⟨F,L,ρ,hs,he,Step.refl _ _ _,h⟩
   | cons k ks bc =>
    intro F L ρ hs he h;simp only[aaU,aaV,bh] at h;split at h
    ·rename_i g' t' cs' hk;obtain⟨F1,cd,bu,z,t,m⟩:=tC hs he hk;obtain⟨F2,L2,av,ax,aE,ac,h2⟩:=bc z t (h F1 cd bu);exact⟨F2,L2,av,ax,aE,m.trans ac,h2⟩
    ·obtain⟨F1,L1,z,t,m,h1⟩:=pq hs he h;obtain⟨F2,L2,av,ax,aE,ac,h2⟩:=bc z t h1;exact⟨F2,L2,av,ax,aE,m.trans ac,h2⟩
  obtain⟨F1,L1,bb,z,t,m,l⟩:=q _ hs he l
  clear q
  have bp:v9 A.pan r i=false:=by
   cases hb:v9 A.pan r i with
   | false=>rfl
   | true=>rw[hb] at l;simp only[oH,bh] at l
  rw[bp] at l;simp only[oH] at l
  clear he
  have he:=t;have hd:∀k,o.dst=some k->k<a.tmps.size:=by
   intro k hk;rw[hk] at ar;rw[hn];have h2:Nat.blt k A.n=true:=ar;simpa using h2
  have ay:dstsOf c (i::is)=match o.dst with | some d=>d::dstsOf c is | none=>dstsOf c is:=by
   simp only[dstsOf,hi,Option.bind_some];cases o.dst<;>rfl
  have aa:∀j,j∉dstsOf c (i::is)->o.dst≠some j/\j∉dstsOf c is:=by
   intro j hj;rw[ay] at hj;cases ho:o.dst with
   | none=>rw[ho] at hj;exact⟨by simp,hj⟩
   | some d =>
    rw[ho] at hj;simp only[aaQ,not_or] at hj;exact⟨by simp;exact fun e=>hj.1 e.symm,hj.2⟩
  have ad:evalOp P s o.dst F1 L1 bb (fun F' L' ρ'=>bh P y F' L' ρ' K)->o.wp P a w (wpOps P c Q is) Q:=by
   intro l;have:=fK (Q:=Q) z t hd ca l;refine Oper.wp_mono ?_ (qW (asg:=[]) this);rintro a' w' ⟨⟨F',L',ρ',g1,g2,g3,g4,g5,g6⟩,bl⟩;refine ih ab g1 g2 (by rw[g3,hn]) g6 ?_;rintro aw az ⟨F'',L'',ag,k1,k2,k3,k4,k5,k6,k7⟩;refine hQ aw az ⟨F'',L'',ag,k1,k2,k3,k4.trans g4,(m.trans g5).trans k5,fun j hj=>?_,k7⟩;obtain⟨n1,n2⟩:=aa j hj;rw[k6 j n2,bl j n1]
  have skip:bh P y F1 L1 (put o.dst (.v undef) bb) K->wpOps P c Q is (a.put o.dst undef) w:=by
   intro l;refine ih ab z (t.put hd (v:=undef) (x:=.v undef) rfl bY dV (rW L1)) (by rw[lT,hn]) l ?_;rintro aw az ⟨F'',L'',ag,k1,k2,k3,k4,k5,k6,k7⟩;refine hQ aw az ⟨F'',L'',ag,k1,k2,k3,k4.trans (iD _ _ _),m.trans k5,fun j hj=>?_,k7⟩;obtain⟨n1,n2⟩:=aa j hj;rw[k6 j n2,lf n1]
  simp only[wpOps,hi];cases ae:o.guard with
  | none =>
   rw[ae] at hg;simp only[iZ,w7] at hg;subst hg;simp only[bh] at l;rw[o6 (by simp[Region.wanted,ae])];exact .inl (ad l)
  | some p =>
   obtain⟨j,u⟩:=p;rw[ae] at hg;simp only[iZ] at hg;split at hg
   case h_2=>cases hg
   rename_i d be;injection hg with hg
   subst hg;simp only[bh] at l;split at l
   ·rename_i b hb;have f:=t.eq d;rw[hb] at f;have hy:yielded c a.tmps j=some b:=by
     simp only[yielded,be,Option.bind_some,rX f]
    have hw:Region.wanted o (yielded c a.tmps)=(b == u):=by
     simp only[Region.wanted,ae,hy];cases b<;>cases u<;>rfl
    rw[hw];cases b<;>simp only[xS] at l
    ·rw[lU hb] at l;cases u
     ·exact .inl (ad l)
     ·exact skip l
    ·rw[lU hb] at l;cases u
     ·exact skip l
     ·exact .inl (ad l)
   ·rename_i vs hb;have f:=t.eq d;rw[hb] at f;have hy:yielded c a.tmps j=none:=by
     simp only[yielded,be,Option.bind_some];rw[abg] at f;cases e:a.tmps[d]? with
     | none=>rfl
     | some v=>rw[e] at f;simp only[Option.getD_some,conc] at f;rw[f]
    have hw:Region.wanted o (yielded c a.tmps)=false:=by
     simp only[Region.wanted,ae,hy];rfl
    rw[hw];exact skip l
   ·exact l.elim
theorem uQ {a:Act}{w:World}{d:List aB}{K:dm}:∀(ks:List Nat) {F:aF}{L:Loc}{ρ:Env},St F L w->aJ L ρ a->bh P (ks.map aB.frz++d) F L ρ K ->
  ∃F' L' ρ',St F' L' w/\aJ L' ρ' a/\Step F L w F' L' w/\bh P d F' L' ρ' K:=by
 intro ks
 induction ks with
 | nil=>intro F L ρ o p h;exact⟨F,L,ρ,o,p,Step.refl _ _ _,h⟩
 | cons k ks n =>
  intro F L ρ o p h;simp only[aaU,aaV,bh] at h;split at h
  ·rename_i x v cs' u;obtain⟨F1,s,r,e,l,b⟩:=tC o p u;obtain⟨F2,L2,j,m,f,c,q⟩:=n e l (h F1 s r);exact⟨F2,L2,j,m,f,b.trans c,q⟩
  ·obtain⟨F1,L1,e,l,b,t⟩:=pq o p h;obtain⟨F2,L2,j,m,f,c,q⟩:=n e l t;exact⟨F2,L2,j,m,f,b.trans c,q⟩
theorem Fl {ss:List aB}{E:Nat->dm}{R N:dm}{F:aF}{L:Loc}{ρ:Env}{a:Act}{w:World}:∀(ks:List Nat),St F L w->aJ L ρ a->kY P (zT ks (.regD ss)) E R N F L ρ ->
  ∃F' L' ρ',St F' L' w/\aJ L' ρ' a/\Step F L w F' L' w/\bh P ss F' L' ρ' N
 | [],b,d,h=>⟨F,L,ρ,b,d,Step.refl _ _ _,by simpa only[zT,kY] using h⟩
 | k::l,b,d,h=>by
  simp only[zT,kY] at h;have j:bh P ((k::l).map aB.frz++[]) F L ρ (fun F L ρ=>bh P ss F L ρ N):=by simpa only[aaU,aaX] using h
  obtain⟨F1,L1,c,m,f,n,e⟩:=uQ (k::l) b d j;simp only[bh] at e;exact⟨F1,L1,c,m,f,n,e⟩
theorem DP {A:cF}:∀(c:Code) {sc:aI},low P A c=some sc->∀{E:Nat->dm}{R N:dm}{F:aF}{L:Loc}{ρ:Env}{a:Act}{w:World},St F L w->aJ L ρ a->a.tmps.size=A.n ->
  kY P sc E R N F L ρ->c.wp P (QQ A.n F L w a (dh c) (fun _ _ _=>False) E R N) a w:=by
 intro c
 induction c with
 | skip =>
  intro sc b E R N F L ρ a w q o s m;simp only[low,w7] at b;subst b;exact wp_skip ⟨F,L,ρ,q,o,s,rfl,Step.refl _ _ _,fun _ _=>rfl,m⟩
 | label l =>
  intro sc b E R N F L ρ a w q o s m;simp only[low,w7] at b;subst b;exact wp_label ⟨F,L,ρ,q,o,s,rfl,Step.refl _ _ _,fun _ _=>rfl,m⟩
 | exit id =>
  intro sc b E R N F L ρ a w q o s m;simp only[low,w7] at b;subst b;exact wp_exit ⟨F,L,ρ,q,o,s,rfl,Step.refl _ _ _,fun _ _=>rfl,m⟩
 | ret =>
  intro sc b E R N F L ρ a w q o s m;simp only[low,w7] at b;subst b;exact wp_ret ⟨F,L,ρ,q,o,s,rfl,Step.refl _ _ _,fun _ _=>rfl,m⟩
 | region r dd bb =>
  intro sc b E R N F L ρ a w q o s m;cases bb with
  | false =>
   simp only[low] at b;split at b
   case h_2=>cases b
   rename_i ss bm;injection b with b;subst b
   simp only[kY] at m;exact wp_region (oK _ bm q o s m fun a' w' h=>h)
  | true =>
   simp only[low] at b;split at b
   case h_2=>cases b
   rename_i is cl ss h1 z;split at b
   case h_2 =>
    split at b
    case h_2=>cases b
    injection b with b;subst b
    simp only[kY] at m
   rename_i h0;split at b
   case h_2=>cases b
   rename_i h3;injection b with b;subst b
   obtain⟨F1,L1,ab,aw,ay,aa,m⟩:=Fl _ q o m;have h4:ur A.ord r=is:=by simp only[ur,h1]
   rw[h4] at z;exact tH z h3 aw ay s m fun a' w' h=>fw.after (asg1:=[]) aa rfl (fun _ _=>rfl) h (fun _ h=>p7 h List.not_mem_nil) (fun _ h=>h)
 | seq x y am an =>
  intro sc b E R N F L ρ a w q o s m;simp only[low] at b;split at b
  case h_2=>cases b
  rename_i h1 z;injection b with b;subst b
  simp only[kY] at m;refine wp_seq (wp_mono (am h1 q o s m) ?_);intro e p w1 d;cases e with
  | normal =>
   obtain⟨F1,L1,ab,g1,g2,g3,g4,g5,g6,g7⟩:=d;refine wp_mono (an z g1 g2 g3 g7) ?_;intro e2 a2 w2 ax;cases e2<;>first
    | exact fw.after g5 g4 g6 ax (fun j h=>xo.2 (.inl h)) (fun j h=>xo.2 (.inr h))
    | exact ax
    | exact(noPan ax).elim
  | exit id=>exact d.mono fun j h=>xo.2 (.inl h)
  | ret=>exact d.mono fun j h=>xo.2 (.inl h)
  | goto l=>exact d
  | panic c=>exact(noPan d).elim
  | outgrown=>exact d
 | cond c x y am an =>
  intro sc b E R N F L ρ a w q o s m;simp only[low] at b;split at b
  case h_2=>cases b
  rename_i h0 h1 z;injection b with b;subst b
  simp only[kY] at m;split at m
  case h_2=>exact m.elim
  rename_i t ht;have hc:a.eval c=.bool t:=by rw[aL h0 o,bN ht]
  refine wp_cond hc ?_;cases t
  ·simp only[xS] at m;refine wp_mono (an z q o s m) ?_;intro e p w1 d;cases e<;>first
    | exact d.mono fun j h=>xo.2 (.inr h)
    | exact(noPan d).elim
    | exact d
  ·simp only[xS] at m;refine wp_mono (am h1 q o s m) ?_;intro e p w1 d;cases e<;>first
    | exact d.mono fun j h=>xo.2 (.inl h)
    | exact(noPan d).elim
    | exact d
 | block id x ih =>
  intro sc b E R N F L ρ a w q o s m;simp only[low] at b;split at b
  case h_2=>cases b
  rename_i h1;injection b with b;subst b
  simp only[kY] at m;refine wp_block (wp_mono (ih h1 q o s m) ?_);intro e p w1 d;cases e with
  | exit j =>
   simp only[Exit.inBlock];simp only[QQ] at d
   by_cases hj:j=id
   ·subst hj;have hb:Nat.beq j j=true:=by simp
    rw[hb] at d;rw[o6 rfl];exact d
   ·have hb:Nat.beq j id=false:=by
     cases h:Nat.beq j id with
     | true=>exact p7 (v8 h) hj
     | false=>rfl
    rw[hb] at d;rw[vv hj];exact d
  | normal=>exact d
  | ret=>exact d
  | goto l=>exact d
  | panic c=>exact(noPan d).elim
  | outgrown=>exact d
 | loop x ih =>
  intro sc b E R N F L ρ a w q o s m;simp only[low] at b;split at b
  case h_2=>cases b
  rename_i sx h1;injection b with b;subst b
  simp only[kY] at m;obtain⟨σ,x0,Inv,ls,lv,Lf,μ,i0,i1,i2,i3,i4⟩:=m
  -- the frame at a loop's ae
  have ae:∀(y:σ) (F1:aF) (L1:Loc) (ab:Env) (p:Act) (w1:World),(∀t,p.tmps.getD t undef=conc L1 (ab t))->(∀j,j∉dh x->p.tmps.getD j undef=a.tmps.getD j undef)->holds ls ((lv y).map .v) ab ->
    aJ (Lf y) (puts ls ((lv y).map .v) (iK (dh x) (fun j=>p.tmps.getD j undef) ρ)) p:=by
   intro y F1 L1 ab p w1 ce bs hh;have bi:∀j k off,iK (dh x) (fun j=>p.tmps.getD j undef) ρ j=.own k off->j∉dh x/\ρ j=.own k off:=by
    intro j k off e;simp only[iK] at e;split at e
    ·cases e
    ·rename_i hm;exact⟨fun h=>(by rw[dn.2 h] at hm;cases hm),e⟩
   have bx:∀j ad i,iK (dh x) (fun j=>p.tmps.getD j undef) ρ j=.el ad i->ρ j=.el ad i:=by
    intro j ad i e;simp only[iK] at e;split at e
    ·cases e
    ·exact e
   refine⟨fun j=>?_,fun j k off e=>?_,fun j ad i e=>?_⟩
   ·rcases tE ls (lv y) ab (iK (dh x) (fun j=>p.tmps.getD j undef) ρ) ce hh j with⟨v,z,h3⟩ | z
    ·rw[z,h3];rfl
    ·rw[z];simp only[iK];split
     ·rfl
     ·rename_i hm;have hj:j∉dh x:=fun h=>by rw[dn.2 h] at hm;cases hm
      rw[bs j hj,o.eq j];cases e:ρ j with
      | v u=>rfl
      | el u i=>rfl
      | own k off =>
       obtain⟨g,ty,cs,hg⟩:=o.own j k off e;obtain⟨cs',av⟩:=m7 (i3 y) hg;simp only[conc,hg,av]
   ·rcases ku ls (lv y) (iK (dh x) (fun j=>p.tmps.getD j undef) ρ) j with z | ⟨v,z⟩
    ·rw[z] at e;obtain⟨_,e'⟩:=bi j k off e;obtain⟨g,ty,cs,hg⟩:=o.own j k off e';obtain⟨cs',av⟩:=m7 (i3 y) hg;exact⟨g,ty,cs',av⟩
    ·rw[z] at e;cases e
   ·rcases ku ls (lv y) (iK (dh x) (fun j=>p.tmps.getD j undef) ρ) j with z | ⟨v,z⟩
    ·rw[z] at e;exact o.el j ad i (bx j ad i e)
    ·rw[z] at e;cases e
  refine vn (fun n p w1=>∃(y:σ) (F1:aF),n=μ y/\F.le F1/\Inv y F1/\St F1 (Lf y) w1/\p.tmps.size=A.n/\p.defers=a.defers/\Step F L w F1 (Lf y) w1/\(∀j,j∉dh x->p.tmps.getD j undef=a.tmps.getD j undef) /\
   aJ (Lf y) (puts ls ((lv y).map .v) (iK (dh x) (fun j=>p.tmps.getD j undef) ρ)) p) ?_ ?_
  ·exact⟨_,x0,F,rfl,aF.le_refl F,i0,q.gives i2,s,rfl,tD i2,fun _ _=>rfl,ae x0 F L ρ a w o.eq (fun _ _=>rfl) i1⟩
  ·rintro n p w1 ⟨y,F1,rfl,bj,bd,aw,cb,ar,aa,ac,ay⟩;refine wp_mono (ih h1 aw ay cb (i4 y F1 _ bj bd)) ?_;intro e a2 w2 d;cases e with
   | normal =>
    obtain⟨F2,L2,bp,g1,g2,g3,g4,g5,g6,⟨y',k1,k2,k3,k4⟩⟩:=d;have ao:∀j,j∉dh x->a2.tmps.getD j undef=a.tmps.getD j undef:=fun j hj=>by rw[g6 j hj,ac j hj]
    exact⟨μ y',k4,y',F2,rfl,aF.le_trans bj g5.le,k1,g1.gives k3,g3,g4.trans ar,(aa.trans g5).trans (tD k3),ao,ae y' F2 L2 bp a2 w2 g2.eq ao k2⟩
   | exit j=>exact fw.after aa ar ac d (fun j h=>h) (fun j h=>h)
   | ret=>exact fw.after aa ar ac d (fun j h=>h) (fun j h=>h)
   | goto l=>exact d
   | panic c=>exact(noPan d).elim
   | outgrown=>exact d
 | rangeFunc f ps x y am an=>intro sc b;simp only[low] at b;cases b
 | scope x ih =>
  intro sc b E R N F L ρ a w q o s m;simp only[low] at b;refine wp_scope_straight (wp_mono (ih b q o s m) ?_);intro e p w1 d;cases e<;>exact d
 | goto l=>intro sc b;simp only[low] at b;cases b
 | refuse cz=>intro sc b;simp only[low] at b;cases b
end
end Go.Fr
namespace Go.Fr.T
open Go Go.RowKit Go.Fr
theorem Ko:∀{bs:List Own}{ns:List Nat}{i:Nat}{o:Own},EF bs ns->bs[i]?=some o->∃g t cs,o=.box g t cs
 | [],ns,i,o,h,e=>by simp at e
 | b::bs,[],i,o,h,e=>h.elim
 | b::bs,n::ns,i,o,h,e=>by
  cases i with
  | zero =>
   simp only[aa2,w7] at e;subst e;cases b with
   | row=>exact h.1.elim
   | box g t cs=>exact⟨g,t,cs,rfl⟩
  | succ i=>exact Ko h.2 (by simpa using e)
def Ib (n:Nat):Env:=fun j=>match Nat.blt j n with | true=>.own (1000+j) 0 | false=>.v undef
theorem NE {bs:List Own}{ns:List Nat}{m:Nat}(h:EF bs ns):aJ (inp bs) (Ib bs.length) {tmps:=(bs.map n8).toArray++Array.replicate m undef,defers:=[]}:=by
 have d:∀j,j<bs.length->∃g t cs,bs[j]?=some (.box g t cs):=fun j c=>by
  obtain⟨g,t,cs,e⟩:=Ko h (w8 c);exact⟨g,t,cs,by rw[w8 c,e]⟩
 have hi:∀j,(inp bs).get (1000+j)=bs[j]?:=fun j=>by rw[bg,o6 (by omega),show 1000+j-1000=j by omega]
 refine⟨fun j=>?_,fun j k off e=>?_,fun j f i e=>?_⟩
 ·simp only[Ib,abg];cases hb:Nat.blt j bs.length with
  | true =>
   have a:j<bs.length:=by simpa using hb
   obtain⟨g,t,cs,e⟩:=d j a;rw[Array.getElem?_append_left (by simpa using a)];simp only[conc,hi,e,List.getElem?_toArray,abt,abF,Option.getD_some,n8]
  | false =>
   have b:¬j<bs.length:=fun h=>by rw[(Nat.blt_eq ..).mpr h] at hb;cases hb
   rw[Array.getElem?_append_right (by simpa using b)];simp only[Array.getElem?_replicate,conc];split<;>rfl
 ·simp only[Ib] at e;split at e
  ·rename_i hb;have a:j<bs.length:=by simpa using hb
   injection e with e1 e2
   subst e1;obtain⟨g,t,cs,e⟩:=d j a;exact⟨g,t,cs,by rw[hi,e]⟩
  ·cases e
 ·simp only[Ib] at e;split at e<;>cases e
def Qb:Op->Bool
 | .call {callee:=.builtin .recover,args:=⟨[]⟩,argTypes:=⟨[]⟩}=>true
 | _=>false
theorem Ic {P:Program}{H d d2 r0:Nat}{fn:Func}{o o2:Oper}{rest:Code}{A:cF}{sc:aI}{PS:Value->Prop}{ns:List Nat}{out:Value->List (List Value)}
  (hf:P.funcs[H]?=some fn) (hb:fn.body=some (.seq (.region r0 #[o,o2] false) rest)) (hname:(fn.name == "runtime.NumGoroutine")=false) (ho:o.op=.call {callee:=.builtin .recover,args:=#[],argTypes:=#[]}) (hd:o.dst=some d) (hg:o.guard=none) (ho2:o2.op=.assign (.tmp d)) (hd2:o2.dst=some d2) (hg2:o2.guard=none) (hdn2:d2<A.n)
  (hnt:fn.ntmps=A.n) (hres:fn.results=#[]) (hl:low P A rest=some sc) (hdn:d<A.n) (hns:ns.length<=A.n)
  (hidle:∀(bs:List Own) (w:World),EF bs ns->CallsD P H (bs.map n8).toArray .returning w fun e u' w'=>e=.returned (.tuple #[])/\u'=.returning/\w'=w)
  (hcat:∀(F:aF) (bs:List Own) (v:Value),PS v->EF bs ns->kY P sc (fun _ _ _ _=>False) (fun _ L' _=>L'.sub (List.range' 1000 bs.length)=some (List.zipWith qI bs (out v))) (fun _ L' _=>L'.sub (List.range' 1000 bs.length)=some (List.zipWith qI bs (out v))) F (inp bs) (put (some d2) (.v v) (put (some d) (.v v) (Ib bs.length)))) :
  qD P H PS ns out:=by
 refine⟨fun cap w=>?_,hidle,fun F bs v older w hv hbx hs=>?_⟩
 ·simp[invoke];rw[kg ⟨fn,hf,by rw[hb];rfl,hname⟩]
 refine callsD_of_wpS hf hb fun c₀ cs hu=>?_;have hlen:=xH hbx;have he0:=NE (m:=fn.ntmps-(bs.map n8).toArray.size) hbx;generalize htm:(bs.map n8).toArray++Array.replicate (fn.ntmps-(bs.map n8).toArray.size) undef=tm at he0 ⊢;have hsz:tm.size=A.n:=by
  rw[<-htm,<-hnt];simp;omega
 refine wpS_seq (wpS_region ?_);simp[wpOpsS,go_sem,recoverD,hu,ho,hd,hg,ho2,hd2,hg2,Region.wanted,Exit.thenS,hsz,hdn,Act.eval];have he1:=he0.put (L':=inp bs) (d:=some d) (v:=v) (x:=.v v) (fun k e=>by injection e with e;subst e;simpa[hsz] using hdn) rfl bY dV (fun k g ty cs e=>⟨cs,e⟩);have he2:=he1.put (L':=inp bs) (d:=some d2) (v:=v) (x:=.v v) (fun k e=>by injection e with e;subst e;simp[Act.put,hsz];exact hdn2) rfl bY dV (fun k g ty cs e=>⟨cs,e⟩);refine wpS_of_wp (wp_mono (DP rest hl hs ⟨he2.eq,he2.own,he2.el⟩ (by simpa using hsz) (hcat F bs v hv hbx)) ?_);have fin:∀(a':Act) (w':World),fw A.n F (inp bs) w {tmps:=(tm.setIfInBounds d v).setIfInBounds d2 v,defers:=[]} (dh rest) (fun _ L' _=>L'.sub (List.range' 1000 bs.length)=some (List.zipWith qI bs (out v))) a' w' ->
   a'.defers=[]/\∃u',({c₀ with mode:=FrameMode.panicking ({v,recovered:=true}::older)}::cs:List Frame)={c₀ with mode:=u'}::cs/\∃x,(results fn a'.tmps).run P w'=.ok x w' /\
    ((Ending.returned x=.returned (.tuple #[])/\u'=.panicking ({v,recovered:=true}::older))/\∃F',St F' (inp (List.zipWith qI bs (out v))) w'/\Step F (inp bs) w F' (inp (List.zipWith qI bs (out v))) w'):=by
  rintro a' w' ⟨F',L',ρ',g1,g2,g3,g4,g5,g6,k1⟩;obtain⟨e1,e2⟩:=fo k1;refine⟨g4,_,rfl,.tuple #[],by simp[results,hres],⟨rfl,rfl⟩,F',g1.handed k1 List.nodup_range',?_⟩;refine⟨g5.le,g5.os,g5.tape,g5.output,g5.size,g5.same,g5.frz,fun b hb=>g5.own b ?_⟩;obtain⟨j,p,e,hb⟩:=hb;rw[bg] at e;split at e
  case isFalse=>cases e
  have hlt:j-1000<(List.zipWith qI bs (out v)).length:=(xD.1 e).1;have hk:(List.range' 1000 bs.length)[j-1000]?=some ((List.range' 1000 bs.length)[j-1000]'(by omega)):=w8 (by omega);exact⟨_,p,by rw[e2 _ _ hk];exact e,hb⟩
 intro e a' w' hq;cases e with
 | normal =>
  obtain⟨k1,u',k2,x,k3,⟨k4,k5⟩,k6⟩:=fin a' w' hq;exact⟨k1,u',k2,x,k3,k4,k5,k6⟩
 | ret =>
  obtain⟨k1,u',k2,x,k3,⟨k4,k5⟩,k6⟩:=fin a' w' hq;exact⟨k1,u',k2,x,k3,k4,k5,k6⟩
 | exit j=>obtain⟨F',L',ρ',_,_,_,_,_,_,h⟩:=hq;exact h.elim
 | goto l=>exact hq.elim
 | outgrown=>exact hq.elim
 | panic ch=>obtain⟨v,hch,hp⟩:=hq;obtain⟨F',L',_,_,_,_,_,hp⟩:=hp;exact hp.elim
def Ck (P:Program) (A:cF) (fn:Func):Option (aI×Nat×Nat) :=
 match fn.body with
 | some (.seq (.region _ ⟨[o,o2]⟩ false) rest)=>match Qb o.op,o.dst,o.guard,low P A rest,fn.results with
  | true,some d,none,some sc,⟨[]⟩=>match o2.op,o2.dst,o2.guard with
   | .assign (.tmp d'),some d2,none=>match fn.name == "runtime.NumGoroutine",Nat.beq fn.ntmps A.n&&Nat.blt d A.n&&Nat.beq d d'&&Nat.blt d2 A.n with
    | false,true=>some (sc,d,d2)
    | _,_=>none
   | _,_,_=>none
  | _,_,_,_,_=>none
 | _=>none
theorem Cl {P:Program}{H d m:Nat}{fn:Func}{A:cF}{sc:aI}{PS:Value->Prop}{ns:List Nat}{out:Value->List (List Value)}(hf:P.funcs[H]?=some fn) (a:Ck P A fn=some (sc,d,m)) (h:Nat.ble ns.length A.n=true)
  (b:∀(bs:List Own) (w:World),EF bs ns->CallsD P H (bs.map n8).toArray .returning w fun e u' w'=>e=.returned (.tuple #[])/\u'=.returning/\w'=w)
  (c:∀(F:aF) (bs:List Own) (v:Value),PS v->EF bs ns->kY P sc (fun _ _ _ _=>False) (fun _ L' _=>L'.sub (List.range' 1000 bs.length)=some (List.zipWith qI bs (out v))) (fun _ L' _=>L'.sub (List.range' 1000 bs.length)=some (List.zipWith qI bs (out v))) F (inp bs) (put (some m) (.v v) (put (some d) (.v v) (Ib bs.length)))) :
  qD P H PS ns out:=by
 unfold Ck at a;split at a
 case h_2=>cases a
 rename_i r o o2 l hb;split at a
 case h_2=>cases a
 rename_i d' ao k q h3 h4 h5;split at a
 case h_2=>cases a
 rename_i x y z dd p k1 k2 k3;split at a
 case h_2=>cases a
 rename_i s f;simp only[w7,Prod.mk.injEq] at a;obtain⟨rfl,rfl,rfl⟩:=a;simp only[yo] at f;obtain⟨⟨⟨f,t⟩,u⟩,j⟩:=f;obtain rfl:=v8 u;have ho:o.op=.call {callee:=.builtin .recover,args:=#[],argTypes:=#[]}:=by
  unfold Qb at k;split at k
  ·assumption
  ·cases k
 exact Ic hf hb s ho q h3 k1 k2 k3 (by simpa using j) (v8 f) h5 h4 (by simpa using t) (aa3 h) b c
end Go.Fr.T
namespace Go.Fr
open Go Go.RowKit
mutual
def G.bulk:G->Nat
 | .int _ _=>1
 | .bool _=>1
 | .str s=>s.size+1
 | .sl _ l=>G.aae l+1
 | .st l=>G.aae l+1
def G.aae:List G->Nat
 | []=>0
 | x::l=>G.bulk x+G.aae l
end
mutual
def jf {H:Type}:DataW H->Nat
 | .lit (.string bytes)=>bytes.length+1
 | .lit _=>1
 | .nil=>1
 | .ptr d=>jf d+1
 | .slice elems spare=>fJ elems+fJ spare+1
 | .agg parts=>fJ parts+1
 | .iface _ d=>jf d+1
 | .map entries=>mW entries+1
 | .held _=>1
def fJ {H:Type}:List (DataW H)->Nat
 | []=>0
 | d::r=>jf d+fJ r
def mW {H:Type}:List (Lit×DataW H)->Nat
 | []=>0
 | x::r=>tW x+mW r
def tW {H:Type}:Lit×DataW H->Nat
 | (.string bytes,d)=>bytes.length+jf d+1
 | (_,d)=>jf d+1
end
def Ok (P:Program):Nat->TypeId->G->Prop
 | 0,_,_=>False
 | n+1,t,g=>match P.underlying t with
  | some .bool=>∃b,g=.bool b
  | some (.int k)=>∃x,g=.int k x/\(Lit.int k x).wf=true
  | some .string=>∃s,g=.str s
  | some (.slice e)=>∃l,g=.sl (P.cellsOf e) l/\∀x∈l,Ok P n e x
  | some (.struct fs)=>∃l,g=.st l/\l.length=fs.size/\∀(i:Nat) (f:Field) (x:G),fs[i]?=some f->l[i]?=some x->Ok P n f.type x
  | _=>False
def y7 (P:Program):Nat->List Field->Nat->Bool
 | o,[],n=>Nat.beq o n
 | o,f::fs,n=>Nat.beq f.offset o&&y7 P (o+P.cellsOf f.type) fs n
def Lb (P:Program) (S:List TypeId) (t:TypeId):Bool :=
 match P.underlying t with
 | some .bool=>true
 | some (.int _)=>true
 | some .string=>true
 | some (.slice e)=>gI S e&&Nat.blt 0 (P.cellsOf e)
 | some (.struct fs)=>y7 P 0 fs.toList (P.cellsOf t)&&fs.toList.all fun f=>gI S f.type
 | _=>false
def flat (P:Program) (S:List TypeId):Bool:=S.all (Lb P S)
theorem wB {Q:Nat->G->Prop}:∀(n:Nat),(∀i,i<n->∃g,Q i g)->∃l:List G,l.length=n/\∀i g,l[i]?=some g->Q i g
 | 0,_=>⟨[],rfl,fun i g h=>by simp at h⟩
 | n+1,h=>by
  obtain⟨l,d,c⟩:=wB n (fun i hi=>h i (by omega));obtain⟨g,b⟩:=h n (by omega);refine⟨l++[g],by simp[d],fun i x a=>?_⟩
  by_cases hi:i<l.length
  ·rw[aaY hi] at a;exact c i x a
  ·rw[aa4 (by omega)] at a;have:i-l.length=0:=by
    cases e:i-l.length with
    | zero=>rfl
    | succ k=>rw[e] at a;simp at a
   rw[this] at a;simp only[aa2,w7] at a;subst a;have:i=n:=by omega
   subst this;exact b
theorem y8 {H:Type}:∀{l:List G}{ds:List (DataW H)},l.length=ds.length->(∀(i:Nat) g d,l[i]?=some g->ds[i]?=some d->g.bulk<=jf d)->G.aae l<=fJ ds
 | [],_,_,_=>by simp[G.aae]
 | x::l,[],h,_=>by simp at h
 | x::l,d::ds,h,hb=>by
  simp only[G.aae,fJ];have f:=hb 0 x d (by simp) (by simp);have e:=y8 (l:=l) (ds:=ds) (by simpa using h) (fun i g c b a=>hb (i+1) g c (by simpa using b) (by simpa using a));omega
section
variable {H:Type}{enc:TypeId×Value->H}{P:Program}{w:World}{base:Nat}{spare:Nat->Bool}{held:Bool}
def qE (w:World):aF:=fun b=>w.heap[b]?
theorem Iq {a:Addr}{n:Nat}{cs:List Value}(h:w.cells? base a n=some cs) (s:0<n) (y:a.spot=none->∀i,i<n->w.frozen? ⟨a.block,a.off+i,none⟩=false):cs.length=n/\cg (qE w) (some a) 0 cs:=by
 obtain⟨_,f,p⟩:=World.cells?_some h;refine⟨f,?_⟩;have l:=p 0 s;rw[w8 (by omega)] at l;have d:a.spot=none:=by simpa[Addr.add] using World.cell?_spot l
 have m:∃j t k,w.heap[a.block]?=some (.cells j t k):=by
  simp only[World.cell?,Addr.add] at l;split at l
  ·rename_i c t k e;exact⟨c,t,k,e⟩
  ·cases l
 obtain⟨j,t,k,hb⟩:=m;refine⟨a,j,t,k,rfl,hb,d,fun i v q=>?_⟩;have hi:i<n:=by rw[<-f];exact(xD.1 q).1
 have:=p i hi;obtain⟨b,o,z⟩:=a;simp only at d;subst d;rw[q,cA] at this;simp only[World.cell?] at this;simp only at hb;rw[hb] at this;refine⟨by simpa using this,fun x=>?_⟩;have r:=y rfl i hi;obtain⟨lo,u⟩:=k;simp only[World.frozen?,hb,Bool.and_eq_false_iff,decide_eq_false_iff_not] at r;simp only[Nat.add_zero] at x;omega
theorem Cp {F:aF}{a:Addr}{n:Nat}{cs:List Value}(d:a.spot=none) (h:cg F (some (a.add n)) 0 cs):cg F (some a) n cs:=by
 obtain⟨b,o,p⟩:=a;simp only at d;subst d;rw[cA] at h;obtain⟨m,c,t,k,e,hb,f,j⟩:=h;injection e with e
 subst e;exact⟨_,c,t,k,rfl,hb,rfl,fun i v l=>by have:=j i v l;simpa[Nat.add_assoc] using this⟩
theorem O0 {S:List TypeId}(hS:flat P S=true):∀(fuel:Nat) (t:TypeId) (cs:List Value) (x:DataW H×List MemPlace),t∈S->DataW.trod enc P w base spare held fuel t cs=some x->w.noneFrozen x.2 ->
  ∃g,Ok P fuel t g/\Rd (qE w) g cs/\g.bulk<=jf x.1:=by
 intro fuel
 induction fuel with
 | zero=>intro t cs x _ h;simp[DataW.trod] at h
 | succ n ih =>
  intro t cs x ht h hz;have u:=aa1.1 hS t ht;simp only[Lb] at u;split at u
  ·rename_i c;obtain⟨b,rfl,rfl⟩:=DataW.trod_bool c h;exact⟨.bool b,by simp[Ok,c],by simp[Rd],by simp[G.bulk,jf]⟩
  ·rename_i k c;obtain⟨m,rfl,rfl,hw⟩:=DataW.trod_int c h;exact⟨.int k m,by simp[Ok,c,hw],by simp[Rd,hw],by simp[G.bulk,jf]⟩
  ·rename_i c;obtain⟨s,rfl,rfl,hw⟩:=DataW.trod_string c h;exact⟨.str s,by simp[Ok,c],by simp[Rd],by simp[G.bulk,jf]⟩
  ·rename_i e c;simp only[yo] at u;have he:e∈S:=dn.1 u.1;have z:0<P.cellsOf e:=by simpa using u.2
   rcases DataW.trod_slice c h with⟨rfl,rfl⟩ | ⟨a,len,cap,elems,ar,m,e1,rfl,rfl,hb,hl,hm,aa,aE,_,_⟩
   ·refine⟨.sl (P.cellsOf e) [],by simp[Ok,c],?_,by simp[G.bulk,G.aae,jf]⟩;rw[P7];exact⟨none,0,rfl,by simp,by simp,fun _=>⟨rfl,rfl⟩,fun j x hx=>by simp at hx⟩
   ·obtain rfl:m=n:=by omega
    have r:0<len->a.spot=none:=by
     intro h0;have h1:=aE 0 h0;rw[w8 (by omega)] at h1;obtain⟨es,h2,h3⟩:=Option.bind_eq_some_iff.1 h1;have h0:=(World.cells?_some h2).2.2 0 z;rw[w8 (by rw[(World.cells?_some h2).2.1];omega)] at h0;simpa[Addr.add] using World.cell?_spot h0
    obtain⟨l,ax,ad⟩:=wB (Q:=fun i g=>Ok P m e g/\(∃es,es.length=P.cellsOf e/\cg (qE w) (some a) (i*P.cellsOf e) es/\Rd (qE w) g es)/\∀y,elems[i]?=some y->g.bulk<=jf y.1) len (by
     intro i hi;have h1:=aE i hi;rw[w8 (by omega)] at h1;obtain⟨es,h2,h3⟩:=Option.bind_eq_some_iff.1 h1;obtain⟨g,g1,g2,g3⟩:=ih e es _ he h3 (fun b off hm=>hz b off (List.mem_append_right _ (List.mem_flatMap.2 ⟨_,List.mem_append_left _ (List.getElem_mem (show i<elems.length by omega)),hm⟩)));obtain⟨g4,g5⟩:=Iq h2 z (fun hs k hk=>by
      have az:a.spot=none:=r (by omega);obtain⟨b,o,sp⟩:=a;simp only at az;subst az;rw[cA];refine hz b _ (List.mem_append_left _ (abk.2 ⟨i*P.cellsOf e+k,List.mem_range.2 ?_,by simp[Nat.add_assoc]⟩));have h5:(i+1)*P.cellsOf e<=(elems.length+ar.length)*P.cellsOf e:=Nat.mul_le_mul_right _ (by omega);rw[Nat.add_mul] at h5;omega)
     refine⟨g,g1,⟨es,g4,Cp (r (by omega)) g5,g2⟩,fun y q=>?_⟩;rw[w8 (by omega)] at q;injection q with q
     subst q;exact g3)
    refine⟨.sl (P.cellsOf e) l,?_,?_,?_⟩
    ·simp only[Ok,c];refine⟨l,rfl,fun x hx=>?_⟩;obtain⟨i,hi⟩:=abf.1 hx;exact(ad i x hi).1
    ·rw[P7];exact⟨some a,cap,by rw[ax],by omega,hm,fun e=>(by cases e),fun j x hx=>(ad j x hx).2.1⟩
    ·simp only[G.bulk,jf];have:=y8 (l:=l) (ds:=elems.map (·.1)) (by simp[ax,aa]) (fun i g d hg hd=>by
      simp only[abt,Option.map_eq_some_iff] at hd;obtain⟨y,q,rfl⟩:=hd;exact(ad i g hg).2.2 y q)
     omega
  ·rename_i fs c;simp only[yo] at u;obtain⟨ag,av⟩:=u;obtain⟨xs,m,e1,rfl,aa,bd,v⟩:=DataW.trod_struct c h;obtain rfl:m=n:=by omega
   have key:∀(fl:List Field) (ys:List (DataW H×List MemPlace)) (o:Nat),y7 P o fl (P.cellsOf t)=true->ys.length=fl.length->(∀f∈fl,f.type∈S) ->
     (∀(i:Nat) f,fl[i]?=some f->DataW.trod enc P w base spare held m f.type ((cs.drop f.offset).take (P.cellsOf f.type))=ys[i]?) ->
     (∀y∈ys,w.noneFrozen y.2) ->
     ∃l,l.length=fl.length/\(∀(i:Nat) f g,fl[i]?=some f->l[i]?=some g->Ok P m f.type g)/\nF (qE w) l (cs.drop o)/\G.aae l<=fJ (ys.map (·.1)):=by
    intro fl
    induction fl with
    | nil =>
     intro ys o hc _ _ _ _;simp only[y7] at hc;have:=v8 hc;refine⟨[],rfl,fun i f g h=>by simp at h,?_,by simp[G.aae]⟩;simp only[nF];rw[List.drop_eq_nil_iff];omega
    | cons f fl bo =>
     intro ys o hc q ab v ao;simp only[y7,yo] at hc;have ay:=v8 hc.1
     match ys,q with
     | y::ys,q =>
      have h0:=v 0 f (by simp);simp only[aa2] at h0;obtain⟨g,g1,g2,g3⟩:=ih f.type _ _ (ab f (by simp)) h0 (ao y (by simp));obtain⟨l,l1,l2,l3,l4⟩:=bo ys (o+P.cellsOf f.type) hc.2 (by simpa using q) (fun f' p=>ab f' (by simp[p])) (fun i f' p=>by
       have:=v (i+1) f' (by simpa using p);simpa using this) (fun y' bb=>ao y' (by simp[bb]))
      refine⟨g::l,by simp[l1],fun i f' g' p ac=>?_,?_,?_⟩
      ·cases i with
       | zero=>simp only[aa2,w7] at p ac;subst p;subst ac;exact g1
       | succ i=>exact l2 i f' g' (by simpa using p) (by simpa using ac)
      ·simp only[nF];refine⟨(cs.drop o).take (P.cellsOf f.type),cs.drop (o+P.cellsOf f.type),?_,by rw[<-ay];exact g2,l3⟩;rw[<-List.drop_drop,List.take_append_drop]
      ·simp only[G.aae,aaU,fJ];omega
   obtain⟨l,l1,l2,l3,l4⟩:=key fs.toList xs 0 ag (by simp[bd]) (fun f u=>dn.1 (aa1.1 av f u)) (fun i f hi=>v i f (by simpa using hi)) (fun y q b off hm=>hz b off (List.mem_flatMap.2 ⟨y,q,hm⟩));refine⟨.st l,?_,?_,?_⟩
   ·simp only[Ok,c];exact⟨l,rfl,by simpa using l1,fun i f x hi hx=>l2 i f x (by simpa using hi) hx⟩
   ·simp only[Rd];simpa using l3
   ·simp only[G.bulk,jf];omega
  ·cases u
end
namespace Api
abbrev I (n:Int):G:=.int .i64 n
inductive Ty where
 | mk (kind id:Int) (args:List Ty)
 deriving Inhabited
def Ty.kind:Ty->Int | .mk k _ _=>k
def Ty.id:Ty->Int | .mk _ i _=>i
def Ty.args:Ty->List Ty | .mk _ _ l=>l
mutual
def Ty.g:Ty->G
 | .mk k i l=>.st [I k,I i,.sl 3 (Ty.gs l)]
def Ty.gs:List Ty->List G
 | []=>[]
 | t::l=>t.g::Ty.gs l
end
theorem Ty.aaD:∀l:List Ty,Ty.gs l=l.map Ty.g
 | []=>rfl
 | t::l=>by simp[Ty.gs,Ty.aaD l]
structure sZ where
 param:Int
 trait:Int
def sZ.g (b:sZ):G:=.st [I b.param,I b.trait]
structure Term where
 kind:Int
 a:Int
 targets:List Int
def Term.g (x:Term):G:=.st [I x.kind,I x.a,.sl 1 (x.targets.map I)]
structure EG where
 op:Int
 dst:Int
 a:Int
 b:Int
 n:Int
 args:List Int
 types:List Ty
def EG.g (x:EG):G:=.st [I x.op,I x.dst,I x.a,I x.b,I x.n,.sl 1 (x.args.map I),.sl 3 (x.types.map Ty.g)]
structure Block where
 code:List EG
 fin:Term
def Block.g (x:Block):G:=.st [.sl 7 (x.code.map EG.g),x.fin.g]
structure Se where
 name:ByteArray
 module:Int
 params:Int
 bounds:List sZ
 arity:Int
 result:Ty
 locals:List Ty
 blocks:List Block
 ties:List Int
def Se.g (f:Se):G:=.st [.str f.name,I f.module,I f.params,.sl 2 (f.bounds.map sZ.g),I f.arity,f.result.g,.sl 3 (f.locals.map Ty.g),.sl 4 (f.blocks.map Block.g),.sl 1 (f.ties.map I)]
structure Variant where
 name:ByteArray
 fields:List Ty
def Variant.g (x:Variant):G:=.st [.str x.name,.sl 3 (x.fields.map Ty.g)]
structure Data where
 name:ByteArray
 module:Int
 params:Int
 variants:List Variant
 drop:Int
def Data.g (d:Data):G:=.st [.str d.name,I d.module,I d.params,.sl 2 (d.variants.map Variant.g),I d.drop]
structure Impl where
 trait:Int
 module:Int
 params:Int
 bounds:List sZ
 type:Ty
 func:Int
def Impl.g (x:Impl):G:=.st [I x.trait,I x.module,I x.params,.sl 2 (x.bounds.map sZ.g),x.type.g,I x.func]
structure Prog where
 modules:List ByteArray
 uses:List (List Int)
 datas:List Data
 traits:List ByteArray
 homes:List Int
 impls:List Impl
 funcs:List Se
 main:Int
def Prog.g (p:Prog):G:=.st [.sl 1 (p.modules.map .str),.sl 1 (p.uses.map fun l=>.sl 1 (l.map I)),.sl 5 (p.datas.map Data.g),.sl 1 (p.traits.map .str),.sl 1 (p.homes.map I),.sl 8 (p.impls.map Impl.g),.sl 11 (p.funcs.map Se.g),I p.main]
section
variable {F:aF}{cs:List Value}
end
end Api
end Go.Fr
namespace Go.Fr
open Go Go.RowKit
namespace Api
section
variable {P:Program}
def Sf (P:Program) (n:Nat):List TypeId->List G->Prop
 | [],[]=>True
 | t::ts,x::l=>Ok P n t x/\Sf P n ts l
 | _,_=>False
theorem Lc {n:Nat}:∀{fl:List Field}{l:List G},l.length=fl.length->(∀(i:Nat) (f:Field) (x:G),fl[i]?=some f->l[i]?=some x->Ok P n f.type x)->Sf P n (fl.map (·.type)) l
 | [],[],_,_=>trivial
 | [],x::l,h,_=>by simp at h
 | f::fl,[],h,_=>by simp at h
 | f::fl,x::l,h,a=>⟨a 0 f x (by simp) (by simp),Lc (by simpa using h) fun i b c d e=>a (i+1) b c (by simpa using d) (by simpa using e)⟩
theorem ok_int {n:Nat}{t:TypeId}{g:G}{k:IntKind}(h:P.underlying t=some (.int k)) (a:Ok P n t g):∃x,g=.int k x:=by
 cases n with
 | zero=>exact a.elim
 | succ n=>simp only[Ok,h] at a;obtain⟨x,b,_⟩:=a;exact⟨x,b⟩
theorem O1 {n:Nat}{t:TypeId}{g:G}(h:P.underlying t=some .bool) (a:Ok P n t g):∃x,g=.bool x:=by
 cases n with
 | zero=>exact a.elim
 | succ n=>simp only[Ok,h] at a;exact a
theorem Sg {n:Nat}{t:TypeId}{g:G}(h:P.underlying t=some .string) (a:Ok P n t g):∃x,g=.str x:=by
 cases n with
 | zero=>exact a.elim
 | succ n=>simp only[Ok,h] at a;exact a
theorem Gz {b:Type}{f:b->G}:∀{l:List G},(∀x∈l,∃y,x=f y)->∃a:List b,l=a.map f
 | [],_=>⟨[],rfl⟩
 | x::l,h=>by
  obtain⟨y,rfl⟩:=h x (by simp);obtain⟨a,rfl⟩:=Gz (l:=l) (fun z c=>h z (by simp[c]));exact⟨y::a,rfl⟩
theorem Sh {n:Nat}{t e:TypeId}{g:G}{sz:Nat}{c:Type}{f:c->G}(h:P.underlying t=some (.slice e)) (a:P.cellsOf e=sz) (b:Ok P n t g) (k:∀m x,m<n->Ok P m e x->∃y,x=f y):∃l:List c,g=.sl sz (l.map f):=by
 cases n with
 | zero=>exact b.elim
 | succ n =>
  simp only[Ok,h] at b;obtain⟨l,rfl,j⟩:=b;obtain⟨o,rfl⟩:=Gz (f:=f) (fun x d=>k n x (by omega) (j x d));exact⟨o,by rw[a]⟩
theorem TR {n:Nat}{t:TypeId}{g:G}{fs:Array Field}{ts:List TypeId}(h:P.underlying t=some (.struct fs)) (a:fs.toList.map (·.type)=ts) (b:Ok P n t g):∃m l,m<n/\g=.st l/\Sf P m ts l:=by
 cases n with
 | zero=>exact b.elim
 | succ n =>
  simp only[Ok,h] at b;obtain⟨l,rfl,d,j⟩:=b;subst a;exact⟨n,l,by omega,rfl,Lc (by simpa using d) fun i f x e c=>j i f x (by simpa using e) c⟩
def vR (P:Program) (t:TypeId) (ts:List TypeId):Bool:=match P.underlying t with | some (.struct fs)=>decide (fs.toList.map (·.type)=ts) | _=>false
def uT (P:Program) (t e sz:Nat):Bool:=match P.underlying t with | some (.slice e')=>Nat.beq e' e&&Nat.beq (P.cellsOf e) sz | _=>false
def Vu (P:Program) (t:TypeId):Bool:=match P.underlying t with | some (.int .i64)=>true | _=>false
def XH (P:Program) (t:TypeId):Bool:=match P.underlying t with | some .string=>true | _=>false
theorem eF {t:TypeId}{ts:List TypeId}(h:vR P t ts=true) {n:Nat}{g:G}(a:Ok P n t g):∃m l,m<n/\g=.st l/\Sf P m ts l:=by
 simp only[vR] at h;split at h
 ·rename_i fs b;exact TR b (by simpa using h) a
 ·cases h
theorem dc {t e sz:Nat}(h:uT P t e sz=true) {n:Nat}{g:G}{a:Type}{f:a->G}(b:Ok P n t g) (k:∀m x,m<n->Ok P m e x->∃y,x=f y):∃l:List a,g=.sl sz (l.map f):=by
 simp only[uT] at h;split at h
 ·rename_i o c;simp only[yo] at h;have j:=v8 h.1;have d:=v8 h.2;subst j;exact Sh c d b k
 ·cases h
theorem cE {t:TypeId}(h:Vu P t=true) {n:Nat}{g:G}(a:Ok P n t g):∃x,g=I x:=by
 simp only[Vu] at h;split at h
 ·rename_i b;exact ok_int b a
 ·cases h
theorem Cq {t:TypeId}(h:XH P t=true) {n:Nat}{g:G}(a:Ok P n t g):∃x,g=.str x:=by
 simp only[XH] at h;split at h
 ·rename_i b;exact Sg b a
 ·cases h
theorem mX {n:Nat}{b:TypeId}{l:List G}(h:Sf P n [b] l):∃a,l=[a]/\Ok P n b a:=by
 match l,h with
 | [a],h=>exact⟨a,rfl,h.1⟩
theorem aH {n:Nat}{b:TypeId}{ts:List TypeId}{l:List G}(h:Sf P n (b::ts) l):∃a r,l=a::r/\Ok P n b a/\Sf P n ts r:=by
 match l,h with
 | a::r,h=>exact⟨a,r,rfl,h.1,h.2⟩
theorem Qk {t ti ts:TypeId}(hi:Vu P ti=true) (q:vR P t [ti,ti,ts]=true) (h:uT P ts t 3=true):∀(n:Nat) (g:G),Ok P n t g->∃x:Ty,g=x.g:=by
 intro n
 induction n using Nat.strongRecOn with
 | _ n r =>
  intro g p;obtain⟨m,l,v,rfl,d⟩:=eF q p;obtain⟨a,l,rfl,s,d⟩:=aH d;obtain⟨b,l,rfl,hb,d⟩:=aH d;obtain⟨c,rfl,o⟩:=mX d;obtain⟨k,rfl⟩:=cE hi s;obtain⟨i,rfl⟩:=cE hi hb;obtain⟨xs,rfl⟩:=dc h o (f:=Ty.g) (fun e x u j=>r e (by omega) x j);exact⟨.mk k i xs,by simp[Ty.g,Ty.aaD]⟩
structure iO where
 int:TypeId
 str:TypeId
 ints:TypeId
 strs:TypeId
 intss:TypeId
 ty:TypeId
 tys:TypeId
 bound:TypeId
 bounds:TypeId
 term:TypeId
 ins:TypeId
 inss:TypeId
 block:TypeId
 blocks:TypeId
 func:TypeId
 funcs:TypeId
 variant:TypeId
 variants:TypeId
 data:TypeId
 datas:TypeId
 impl:TypeId
 impls:TypeId
 prog:TypeId
def iO.tyOk (P:Program) (d:iO):Bool:=Vu P d.int&&vR P d.ty [d.int,d.int,d.tys]&&uT P d.tys d.ty 3
def iO.aam (P:Program) (d:iO):Bool:=d.tyOk P&&XH P d.str&&uT P d.ints d.int 1&&vR P d.bound [d.int,d.int]&&uT P d.bounds d.bound 2&&vR P d.term [d.int,d.int,d.ints] &&
 vR P d.ins [d.int,d.int,d.int,d.int,d.int,d.ints,d.tys]&&uT P d.inss d.ins 7&&vR P d.block [d.inss,d.term]&&uT P d.blocks d.block 4 &&
 vR P d.func [d.str,d.int,d.int,d.bounds,d.int,d.ty,d.tys,d.blocks,d.ints]
def iO.aay (P:Program) (d:iO):Bool:=d.aam P&&uT P d.strs d.str 1&&uT P d.intss d.ints 1&&vR P d.variant [d.str,d.tys]&&uT P d.variants d.variant 2&&vR P d.data [d.str,d.int,d.int,d.variants,d.int] &&
 uT P d.datas d.data 5&&vR P d.impl [d.int,d.int,d.int,d.bounds,d.ty,d.int]&&uT P d.impls d.impl 8&&uT P d.funcs d.func 11&&vR P d.prog [d.strs,d.intss,d.datas,d.strs,d.ints,d.impls,d.funcs,d.int]
theorem iO.aaF {d:iO}(h:d.aay P=true):d.aam P=true:=by
 simp only[iO.aay,yo] at h;exact h.1.1.1.1.1.1.1.1.1.1
theorem iO.aau {d:iO}(h:d.aam P=true):d.tyOk P=true:=by
 simp only[iO.aam,yo] at h;exact h.1.1.1.1.1.1.1.1.1.1
theorem iO.ty' {d:iO}(h:d.tyOk P=true) {n:Nat}{g:G}(a:Ok P n d.ty g):∃x:Ty,g=x.g:=by
 simp only[iO.tyOk,yo] at h;exact Qk h.1.1 h.1.2 h.2 n g a
theorem iO.i {d:iO}(h:d.tyOk P=true) {n:Nat}{g:G}(a:Ok P n d.int g):∃x:Int,g=I x:=by
 simp only[iO.tyOk,yo] at h;exact cE h.1.1 a
theorem iO.aaI {d:iO}(h:d.tyOk P=true) {n:Nat}{g:G}(b:Ok P n d.tys g):∃x:List Ty,g=.sl 3 (x.map Ty.g):=by
 have a:=h;simp only[iO.tyOk,yo] at a;exact dc a.2 b fun m x _ c=>iO.ty' h c
theorem iO.bnd {d:iO}(h:d.aam P=true) {n:Nat}{g:G}(p:Ok P n d.bound g):∃x:sZ,g=x.g:=by
 have e:=h;have f:=iO.aau e;have a:=e;simp only[iO.aam,yo] at a;obtain⟨⟨⟨⟨⟨⟨⟨⟨⟨⟨_,k1⟩,k2⟩,l⟩,u⟩,w⟩,k6⟩,t⟩,z⟩,k9⟩,o⟩:=a;obtain⟨m,v,s,rfl,c⟩:=eF l p;obtain⟨g0,r,rfl,j,b⟩:=aH c;obtain⟨q,rfl⟩:=iO.i f j;obtain⟨y,rfl,k⟩:=mX b;obtain⟨v1,rfl⟩:=iO.i f k;exact⟨⟨q,v1⟩,rfl⟩
theorem iO.trm {d:iO}(h:d.aam P=true) {n:Nat}{g:G}(u:Ok P n d.term g):∃x:Term,g=x.g:=by
 have k:=h;have j:=iO.aau k;have a:=k;simp only[iO.aam,yo] at a;obtain⟨⟨⟨⟨⟨⟨⟨⟨⟨⟨_,k1⟩,v⟩,k3⟩,k4⟩,r⟩,k6⟩,k7⟩,k8⟩,k9⟩,q⟩:=a;obtain⟨m,l0,z,rfl,e⟩:=eF r u;obtain⟨g0,y,rfl,l,b⟩:=aH e;obtain⟨w,rfl⟩:=iO.i j l;obtain⟨g1,l2,rfl,p,c⟩:=aH b;obtain⟨v1,rfl⟩:=iO.i j p;obtain⟨g2,rfl,s⟩:=mX c;obtain⟨t,rfl⟩:=dc v s (f:=I) fun m x _ o=>iO.i j o;exact⟨⟨w,v1,t⟩,rfl⟩
theorem iO.ins' {d:iO}(h:d.aam P=true) {n:Nat}{g:G}(hg:Ok P n d.ins g):∃x:EG,g=x.g:=by
 have q:=h;have a:=iO.aau q;have b:=q;simp only[iO.aam,yo] at b;obtain⟨⟨⟨⟨⟨⟨⟨⟨⟨⟨_,k1⟩,k2⟩,k3⟩,k4⟩,k5⟩,k6⟩,k7⟩,k8⟩,k9⟩,v⟩:=b;obtain⟨m,l0,hm,rfl,o⟩:=eF k6 hg;obtain⟨g0,l1,rfl,r,c⟩:=aH o;obtain⟨v0,rfl⟩:=iO.i a r;obtain⟨g1,l2,rfl,u,l⟩:=aH c;obtain⟨v1,rfl⟩:=iO.i a u;obtain⟨g2,l3,rfl,w,e⟩:=aH l;obtain⟨y,rfl⟩:=iO.i a w;obtain⟨g3,l4,rfl,e3,p⟩:=aH e;obtain⟨v3,rfl⟩:=iO.i a e3;obtain⟨g4,l5,rfl,z,j⟩:=aH p;obtain⟨s,rfl⟩:=iO.i a z;obtain⟨g5,l6,rfl,e5,k⟩:=aH j;obtain⟨v5,rfl⟩:=dc k2 e5 (f:=I) fun m x _ t=>iO.i a t;obtain⟨g6,rfl,e6⟩:=mX k;obtain⟨v6,rfl⟩:=iO.aaI a e6;exact⟨⟨v0,v1,y,v3,s,v5,v6⟩,rfl⟩
theorem iO.blk {d:iO}(h:d.aam P=true) {n:Nat}{g:G}(r:Ok P n d.block g):∃x:Block,g=x.g:=by
 have b:=h;have ht:=iO.aau b;have a:=b;simp only[iO.aam,yo] at a;obtain⟨⟨⟨⟨⟨⟨⟨⟨⟨⟨_,k1⟩,k2⟩,y⟩,v⟩,z⟩,k6⟩,k⟩,q⟩,k9⟩,p⟩:=a;obtain⟨m,w,u,rfl,e⟩:=eF q r;obtain⟨g0,t,rfl,j,c⟩:=aH e;obtain⟨s,rfl⟩:=dc k j (f:=EG.g) fun m x _ l=>iO.ins' b l;obtain⟨g1,rfl,o⟩:=mX c;obtain⟨v1,rfl⟩:=iO.trm b o;exact⟨⟨s,v1⟩,rfl⟩
theorem iO.fn {d:iO}(h:d.aam P=true) {n:Nat}{g:G}(hg:Ok P n d.func g):∃x:Se,g=x.g:=by
 have e:=h;have a:=iO.aau e;have b:=e;simp only[iO.aam,yo] at b;obtain⟨⟨⟨⟨⟨⟨⟨⟨⟨⟨_,k1⟩,k2⟩,k3⟩,z⟩,k5⟩,k6⟩,k7⟩,k8⟩,k9⟩,o⟩:=b;obtain⟨m,l0,hm,rfl,s⟩:=eF o hg;obtain⟨g0,l1,rfl,v,j⟩:=aH s;obtain⟨v0,rfl⟩:=Cq k1 v;obtain⟨g1,l2,rfl,e1,r⟩:=aH j;obtain⟨v1,rfl⟩:=iO.i a e1;obtain⟨g2,l3,rfl,e2,k⟩:=aH r;obtain⟨v2,rfl⟩:=iO.i a e2;obtain⟨g3,l4,rfl,e3,t⟩:=aH k;obtain⟨v3,rfl⟩:=dc z e3 (f:=sZ.g) fun m x _ c=>iO.bnd e c;obtain⟨g4,l5,rfl,e4,p⟩:=aH t;obtain⟨y,rfl⟩:=iO.i a e4;obtain⟨g5,l6,rfl,e5,q⟩:=aH p;obtain⟨v5,rfl⟩:=iO.ty' a e5;obtain⟨g6,l7,rfl,e6,u⟩:=aH q;obtain⟨v6,rfl⟩:=iO.aaI a e6;obtain⟨g7,l8,rfl,e7,l⟩:=aH u;obtain⟨v7,rfl⟩:=dc k9 e7 (f:=Block.g) fun m x _ c=>iO.blk e c;obtain⟨g8,rfl,e8⟩:=mX l;obtain⟨w,rfl⟩:=dc k2 e8 (f:=I) fun m x _ c=>iO.i a c;exact⟨⟨v0,v1,v2,v3,y,v5,v6,v7,w⟩,rfl⟩
theorem iO.imp {d:iO}(h:d.aay P=true) {n:Nat}{g:G}(hg:Ok P n d.impl g):∃x:Impl,g=x.g:=by
 have h0:=h;have j:=iO.aaF h;have b:=iO.aau j;have a:=j;simp only[iO.aam,yo] at a;obtain⟨⟨⟨⟨⟨⟨⟨⟨⟨⟨_,k1⟩,k2⟩,k3⟩,u⟩,k5⟩,k6⟩,k7⟩,k8⟩,k9⟩,w⟩:=a;simp only[iO.aay,yo] at h;obtain⟨⟨⟨⟨⟨⟨⟨⟨⟨⟨h,p1⟩,p2⟩,p3⟩,p4⟩,p5⟩,p6⟩,q⟩,p8⟩,p9⟩,ag⟩:=h;obtain⟨m,l0,hm,rfl,o⟩:=eF q hg;obtain⟨g0,l1,rfl,r,c⟩:=aH o;obtain⟨v0,rfl⟩:=iO.i b r;obtain⟨g1,l2,rfl,v,l⟩:=aH c;obtain⟨v1,rfl⟩:=iO.i b v;obtain⟨g2,l3,rfl,y,e⟩:=aH l;obtain⟨z,rfl⟩:=iO.i b y;obtain⟨g3,l4,rfl,e3,p⟩:=aH e;obtain⟨v3,rfl⟩:=dc u e3 (f:=sZ.g) fun m x _ t=>iO.bnd j t;obtain⟨g4,l5,rfl,e4,k⟩:=aH p;obtain⟨s,rfl⟩:=iO.ty' b e4;obtain⟨g5,rfl,e5⟩:=mX k;obtain⟨v5,rfl⟩:=iO.i b e5;exact⟨⟨v0,v1,z,v3,s,v5⟩,rfl⟩
end
end Api
end Go.Fr
namespace Go.Fr.T
open Go Go.RowKit Go.Fr
mutual
def mY:G->List C
 | .int k n=>[.int k n]
 | .bool b=>[.bool b]
 | .str s=>[.str s]
 | .sl _ l=>[.sl (sI l)]
 | .st l=>jH l
def sI:List G->List (List C)
 | []=>[]
 | x::l=>mY x::sI l
def jH:List G->List C
 | []=>[]
 | x::l=>mY x++jH l
end
theorem y9:∀l:List G,sI l=l.map mY
 | []=>rfl
 | x::l=>by simp only[sI,aaU,y9 l]
theorem Cr {a b:List C}(h:dZ a=true) (k:dZ b=true):dZ (a++b)=true:=by
 rw[jo] at *;intro c d;rcases xo.1 d with d | d
 ·exact h c d
 ·exact k c d
mutual
theorem Cs {F:aF}:∀{g:G}{cs:List Value},Rd F g cs->g.bulk<=maxLen->aG F [] (mY g) cs/\dZ (mY g)=true
 | .int k n,cs,h,hb=>by
  simp only[Rd] at h;obtain⟨rfl,h⟩:=h;simp only[mY,aG,Rel];exact⟨⟨_,_,rfl,⟨rfl,h⟩,rfl⟩,rfl⟩
 | .bool b,cs,h,hb=>by
  simp only[Rd] at h;subst h;simp only[mY,aG,Rel];exact⟨⟨_,_,rfl,rfl,rfl⟩,rfl⟩
 | .str s,cs,h,hb=>by
  simp only[Rd] at h;subst h;simp only[G.bulk] at hb;simp only[mY,aG,Rel];exact⟨⟨_,_,rfl,⟨rfl,by omega⟩,rfl⟩,rfl⟩
 | .sl sz l,cs,h,hb=>by
  simp only[Rd] at h;obtain⟨a,c,rfl,h1,h2,h3,h4⟩:=h;simp only[G.bulk] at hb;have hl:(sI l).length=l.length:=by simp[y9]
  simp only[mY,aG,Rel];refine⟨⟨_,_,rfl,⟨a,c,by rw[hl],by rw[hl];exact h1,by rw[hl];omega,fun e=>?_,sz,Bf h4 (by omega)⟩,rfl⟩,rfl⟩;obtain⟨e1,e2⟩:=h3 e;subst e1;exact⟨rfl,e2⟩
 | .st l,cs,h,hb=>by
  simp only[Rd] at h;simp only[G.bulk] at hb;simp only[mY];exact za h (by omega)
theorem Bf {F:aF}{a:Option Addr}{sz:Nat}:∀{i:Nat}{l:List G},uD F a sz i l->G.aae l<=maxLen->gS F a sz i (sI l)
 | _,[],_,_=>by simp only[sI,gS]
 | i,x::l,h,hb=>by
  simp only[uD] at h;obtain⟨⟨es,h1,h2,h3⟩,h4⟩:=h;simp only[G.aae] at hb;obtain⟨r1,r2⟩:=Cs h3 (by omega);simp only[sI,gS];exact⟨⟨es,h1,h2,r2,r1⟩,Bf h4 (by omega)⟩
theorem za {F:aF}:∀{l:List G}{cs:List Value},nF F l cs->G.aae l<=maxLen->aG F [] (jH l) cs/\dZ (jH l)=true
 | [],cs,h,_=>by simp only[nF] at h;subst h;simp only[jH,aG];exact⟨trivial,rfl⟩
 | x::l,cs,h,hb=>by
  simp only[nF] at h;obtain⟨c1,c2,rfl,h1,h2⟩:=h;simp only[G.aae] at hb;obtain⟨r1,r2⟩:=Cs h1 (by omega);obtain⟨q1,q2⟩:=za h2 (by omega);simp only[jH];exact⟨r1.append q1,Cr r2 q2⟩
end
open Api
abbrev IC (n:Int):C:=.int .i64 n
def qK (l:List Int):List (List C):=l.map fun n=>[IC n]
def Vv (l:List ByteArray):List (List C):=l.map fun s=>[C.str s]
mutual
def s5:Ty->List C
 | .mk k i l=>[IC k,IC i,.sl (Ir l)]
def Ir:List Ty->List (List C)
 | []=>[]
 | t::l=>s5 t::Ir l
end
theorem D6:∀l:List Ty,Ir l=l.map s5
 | []=>rfl
 | t::l=>by simp only[Ir,aaU,D6 l]
theorem Fs (t:Ty):s5 t=[IC t.kind,IC t.id,.sl (t.args.map s5)]:=by
 cases t;simp only[s5,D6,Ty.kind,Ty.id,Ty.args]
def Ld (b:sZ):List C:=[IC b.param,IC b.trait]
def Le (x:Term):List C:=[IC x.kind,IC x.a,.sl (qK x.targets)]
def qw (x:EG):List C:=[IC x.op,IC x.dst,IC x.a,IC x.b,IC x.n,.sl (qK x.args),.sl (x.types.map s5)]
def iF (x:Block):List C:=[.sl (x.code.map qw),IC x.fin.kind,IC x.fin.a,.sl (qK x.fin.targets)]
def XI (f:Se):List C:=[.str f.name,IC f.module,IC f.params,.sl (f.bounds.map Ld),IC f.arity,IC f.result.kind,IC f.result.id,.sl (f.result.args.map s5),.sl (f.locals.map s5),.sl (f.blocks.map iF),.sl (qK f.ties)]
def fB (x:Variant):List C:=[.str x.name,.sl (x.fields.map s5)]
def iL (d:Api.Data):List C:=[.str d.name,IC d.module,IC d.params,.sl (d.variants.map fB),IC d.drop]
def TT (x:Impl):List C:=[IC x.trait,IC x.module,IC x.params,.sl (x.bounds.map Ld),IC x.type.kind,IC x.type.id,.sl (x.type.args.map s5),IC x.func]
def TU (p:Prog):List C:=[.sl (Vv p.modules),.sl (p.uses.map fun l=>[.sl (qK l)]),.sl (p.datas.map iL),.sl (Vv p.traits),.sl (qK p.homes),.sl (p.impls.map TT),.sl (p.funcs.map XI),IC p.main]
theorem fq {a:Type}{f:a->G}{h:a->List C}(b:∀x,mY (f x)=h x) (l:List a):sI (l.map f)=l.map h:=by
 rw[y9,abG];exact abK fun x _=>b x
theorem vS (l:List Int):sI (l.map I)=qK l:=fq (fun _=>rfl) l
mutual
theorem Ct:∀t:Ty,mY t.g=s5 t
 | .mk k i l=>by simp only[Ty.g,mY,jH,s5,GA l,aaX,aaV,aa5]
theorem GA:∀l:List Ty,sI (Ty.gs l)=Ir l
 | []=>rfl
 | t::l=>by simp only[Ty.gs,sI,Ir,Ct t,GA l]
end
theorem Cu (l:List Ty):sI (l.map Ty.g)=l.map s5:=fq Ct l
theorem Lg (x:Term):mY x.g=Le x:=by simp only[Term.g,mY,jH,Le,vS,aaX,aaV,aa5]
theorem O2 (x:EG):mY x.g=qw x:=by simp only[EG.g,mY,jH,qw,vS,Cu,aaX,aaV,aa5]
theorem Iu (x:Block):mY x.g=iF x:=by simp only[Block.g,mY,jH,iF,Lg,Le,fq O2,aaX,aaV,aa5]
theorem D7 (x:Variant):mY x.g=fB x:=by simp only[Variant.g,mY,jH,fB,Cu,aaX,aaV,aa5]
theorem D8 (x:Api.Data):mY x.g=iL x:=by simp only[Data.g,mY,jH,iL,fq D7,aaX,aaV,aa5]
theorem Cv {l:List Int}{k:Nat}{x:Int}{K:List C->Prop}(a:l[k]?=some x) (h:K [IC x]):BQ (qK l) (k:Int) 1 K:=⟨[IC x],by omega,by simp[qK,a],rfl,h⟩
theorem idxS {l:List ByteArray}{k:Nat}{x:ByteArray}{K:List C->Prop}(a:l[k]?=some x) (h:K [.str x]):BQ (Vv l) (k:Int) 1 K:=⟨[.str x],by omega,by simp[Vv,a],rfl,h⟩
theorem wC {l:List Ty}{k:Nat}{x:Ty}{K:List C->Prop}(a:l[k]?=some x) (h:K [IC x.kind,IC x.id,.sl (x.args.map s5)]):BQ (l.map s5) (k:Int) 3 K:=bw a (Fs x) rfl h
end Go.Fr.T
namespace Go.Fr.T
open Go Go.RowKit Go.Fr Go.ChangeShapes Go.WideShapes Go.ChangeAt
def zZ:G->C
 | .int k n=>.int k n
 | .bool b=>.bool b
 | .str s=>.str s
 | .sl _ l=>.sl (sI l)
 | .st l=>.agg (jH l)
def Ql (P:Program):List TypeId->List G->Prop
 | [],[]=>True
 | t::ts,g::gs=>(∃n,Ok P n t g)/\Ql P ts gs
 | _,_=>False
section
variable {H:Type}{enc:TypeId×Value->H}{P:Program}{W:World}
theorem uU {F:aF}{L:Loc}{c:C}{v:Value}(h:aG F L [c] [v]):Rel F L c v:=by
 simp only[aG] at h;obtain⟨x,y,e,a,b⟩:=h;injection e with e1 e2
 subst e1;exact a
theorem O3 {S:List TypeId}(u:flat P S=true) {t:TypeId}(w:t∈S) {r:Reach}{b0:Nat}{sp:Nat->Bool}{z:Bool}{v:Value}{d:DataW H}{ps:List MemPlace}(f:Value.okWide P W r b0 t v)
  (h:DataW.Trod enc P W 0 sp z t v d ps) (hz:W.noneFrozen ps) (hb:jf d<=maxLen):∃n g,Ok P n t g/\Rel (qE W) [] (zZ g) v/\g.bulk<=jf d:=by
 obtain⟨fuel,h⟩:=h;obtain⟨g,o,y,x⟩:=O0 u fuel t _ _ w h hz;refine⟨fuel,g,o,?_,x⟩;have p:=(Cs y (abB x hb)).1;have q:=aa1.1 u t w;cases fuel with
 | zero=>exact o.elim
 | succ n =>
 simp only[Lb] at q;simp only[Ok] at o;split at q
 ·rename_i j;obtain⟨b,rfl⟩:=okWide_bool j f;simp only[j] at o;obtain⟨s,rfl⟩:=o;exact uU p
 ·rename_i k j;obtain⟨m,rfl⟩:=okWide_int j f;simp only[j] at o;obtain⟨s,rfl,_⟩:=o;exact uU p
 ·rename_i j;obtain⟨m,rfl⟩:=okWide_string j f;simp only[j] at o;obtain⟨s,rfl⟩:=o;exact uU p
 ·rename_i e j;obtain⟨a,l,c,rfl⟩:=okWide_slice j f;simp only[j] at o;obtain⟨s,rfl,_⟩:=o;exact uU p
 ·rename_i fs j;simp only[Value.okWide,j] at f;obtain⟨cs,rfl,_,_⟩:=f;simp only[j] at o;obtain⟨l,rfl,_⟩:=o;simp only[zZ,Rel];exact⟨cs.toList,by simp,p⟩
 ·cases q
theorem Bg {S:List TypeId}(k:flat P S=true) {r:Reach}{b0:Nat}{sp:Nat->Bool}{x:Bool}:∀{ts:List TypeId}{vs:List Value}{ds:List (DataW H)}{ps:List MemPlace},(∀t∈ts,t∈S) ->
  (∀(j:Nat) t v,ts[j]?=some t->vs[j]?=some v->Value.okWide P W r b0 t v)->DataW.TrodAll enc P W 0 sp x ts vs ds ps->W.noneFrozen ps->fJ ds<=maxLen ->
  ∃gs,Ql P ts gs/\aG (qE W) [] (gs.map zZ) vs/\G.aae gs<=fJ ds
 | [],[],[],_,_,_,_,_,_=>⟨[],trivial,by simp only[abL,aG],by simp[G.aae]⟩
 | t::ts,v::vs,d::ds,ps,a,l,⟨p,q,u,s,c⟩,m,hb=>by
  subst c;simp only[fJ] at hb ⊢;obtain⟨n,g,w,g2,g3⟩:=O3 k (a t (by simp)) (l 0 t v rfl rfl) u (fun b o a=>m b o (List.mem_append_left _ a)) (by omega);obtain⟨gs,z,y,k3⟩:=Bg k (fun t e=>a t (by simp[e])) (fun j t v e f=>l (j+1) t v (by simpa using e) (by simpa using f)) s (fun b o a=>m b o (List.mem_append_right _ a)) (by omega);refine⟨g::gs,⟨⟨n,w⟩,z⟩,?_,by simp only[G.aae];omega⟩;simp only[aaU,aG];exact⟨v,vs,rfl,g2,y⟩
 | [],_::_,_,_,_,_,h,_,_=>h.elim
 | [],[],_::_,_,_,_,h,_,_=>h.elim
 | _::_,[],_,_,_,_,h,_,_=>h.elim
 | _::_,_::_,[],_,_,_,h,_,_=>h.elim
theorem z5 {ts:List TypeId}(k:laidOutB P=true) (b:ts.all (fun t=>P.readableRec t&&decide (t<P.types.size))=true) {W':World}(hb:Below W.heap.size W W') {j:Nat->Bool} :
  ∀{vs:List Value}{ds:List (DataW H)}{ps:List MemPlace},DataW.TrodAll enc P W 0 (fun _=>true) true ts vs ds ps->(∀x∈ps,x.block<W.heap.size)->(∀x∈ps,j x.block=true)->DataW.TrodAll enc P W' 0 j true ts vs ds ps:=by
 induction ts with
 | nil =>
  intro vs ds ps h _ _
  match vs,ds,h with
  | [],[],h=>exact h
 | cons t ts n =>
  intro vs ds ps h f c
  match vs,ds,h with
  | v::vs,d::ds,⟨p,q,m,l,e⟩ =>
   subst e;simp only[List.all_cons,yo,abw] at b;refine⟨p,q,WideElems.Trod_stays k b.1.1 b.1.2 m (fun x a=>hb.same (f x (by simp[a]))) (fun x a=>c x (by simp[a])),n (by simpa using b.2) l (fun x a=>f x (by simp[a])) (fun x a=>c x (by simp[a])),rfl⟩
theorem z6 {f:Func}{s:ChangeSpec}{W W':World}{args:Array Value}{v:Value}{ds gs:List (DataW H)}{a pa pv:List MemPlace}
  (o:DataW.Whole enc P f.params.toList s.vars false W args.toList ds gs a)
  (k:∀(b:Nat) (m:Nat->Bool) (w:Bool),DataW.TrodAll enc P W' b m w f.resultTypes.toList (v.resultList f.resultTypes.size) (s.fn H (ds++gs)).results [])
  (e:∀m:Nat->Bool,(∀p∈a,m p.block=true)->DataW.TrodAll enc P W' 0 m true f.params.toList args.toList (s.fn H (ds++gs)).args pa)
  (d:∀m:Nat->Bool,(∀p∈a,m p.block=true)->DataW.TrodVars enc P W' m s.vars (s.fn H (ds++gs)).vars pv)
  (l:a=pa++pv) (hb:Below W.heap.size W W')
  (q:∀(j:Nat) (t:TypeId) (r:Value),f.resultTypes[j]?=some t->(v.resultList f.resultTypes.size)[j]?=some r->Value.okWide P W' .any 0 t r) :
  s.post enc P f false true false false W args v W':=by
 have h:∀p∈a,(fun b=>decide (b<W.heap.size)) p.block=true:=fun p c=>by simpa using o.lt p c
 have u:∀p∈a,p.block<W.heap.size:=fun p c=>o.lt p c;refine⟨ds,gs,a,[],pa,pv,o,k _ _ _,e _ h,d _ h,World.keptBut_mono (fun p c=>⟨c,?_⟩) (hb.frame (·∈a)),fun _=>?_⟩
 ·rw[l,xo] at c;exact Or.inr c
 ·obtain⟨_,_,_,_,_,y,z⟩:=o;refine⟨q,_,_,([]++pa)++pv,⟨[]++pa,pv,trodAll_append (e _ (fun _ _=>rfl)) (k _ _ _),d _ (fun _ _=>rfl),rfl,?_,?_⟩,?_⟩
  ·intro b off c;have n:MemPlace.cell b off∈a:=by rw[l];simpa using c
   rw[hb.frozen (p:=⟨b,off,none⟩) (u _ n)];exact y b off n
  ·intro x;cases x
  ·intro p c _;rw[l];simpa using c
theorem entry {f:FuncId}{ts:List TypeId}{S:List TypeId}(w:flat P S=true) (s:∀t∈ts,t∈S) {r:Reach}{b0:Nat}{args:Array Value}{ds:List (DataW H)}{ps:List MemPlace}
  (d:∀(j:Nat) t v,ts[j]?=some t->args.toList[j]?=some v->Value.okWide P W r b0 t v) (h:DataW.TrodAll enc P W 0 (fun _=>true) true ts args.toList ds ps) (u:W.noneFrozen ps) (m:fJ ds<=1048576)
  (q:tj (qE W)) (law:∀gs,Ql P ts gs->G.aae gs<=1048576->CallsT P f (gs.map zZ) [] (jv [] (.bool true))) :
  Calls P f args W fun e W'=>e=.returned (.bool true)/\Below W.heap.size W W':=by
 obtain⟨gs,z,y,k3⟩:=Bg w s d h u (abB m (by decide));have x:=(law gs z (by omega)).out (qE W) [] args.toList rfl (fun k=>by rw[show(inp []).get k=none from rfl,show(jG []).get k=none from rfl];trivial) y;have n:∀k,(inp []).get k=none:=fun _=>rfl;have l:St (qE W) (inp []) W:=⟨fun b o h=>h,fun k o h=>(by rw[n] at h;cases h),fun k o g h=>(by rw[n] at h;cases h),fun k k' o o' g h=>(by rw[n] at h;cases h),q⟩;refine Calls.mono (x.run W l) ?_;rintro e W' ⟨v,F',Lo,rfl,hs,a,Mo,c,q1,q2,p,q4,rfl,rfl⟩;simp only[Rel] at p;subst p;exact⟨rfl,a.os,a.tape,a.output,a.size,fun k m=>a.same k m (by rintro⟨_,_,h,_⟩;cases h)⟩
theorem z7 {f:FuncId}{fn:Func}{s:ChangeSpec}{S:List TypeId}{tb:TypeId}(hl:laidOutB P=true) (hS:flat P S=true) (w:fn.params.toList.all (fun t=>S.contains t&&(P.readableRec t&&decide (t<P.types.size)))=true)
  (d:fn.resultTypes=#[tb]) (m:P.underlying tb=some .bool) (a:s.vars=[])
  (law:∀gs,Ql P fn.params.toList gs->G.aae gs<=1048576->CallsT P f (gs.map zZ) [] (jv [] (.bool true)))
  {r:Reach}{b0:Nat}{args:Array Value}{ds gs:List (DataW H)}{c:List MemPlace}(h:s.fn H ds={results:=[.lit (.bool true)],args:=ds})
  (k:∀(j:Nat) t v,fn.params[j]?=some t->args[j]?=some v->Value.okWide P W r b0 t v)
  (z:DataW.Whole enc P fn.params.toList s.vars false W args.toList ds gs c) (hk:fJ ds<=1048576) (hG:tj (qE W):=by exact trivial) :
  Calls P f args W fun e W'=>∃v,e=.returned v/\s.post enc P fn false true false false W args v W':=by
 have u:=z;rw[a] at z;obtain⟨p,q,hA,hV,rfl,ab,ao⟩:=z;obtain⟨rfl,rfl⟩:=trodVars_none hV;have n:=aa1.1 w;refine(entry hS (fun t ht=>by have:=n t ht;simp only[yo,List.contains_iff_mem] at this;exact this.1) (fun j t v h1 h2=>k j t v (by simpa using h1) (by simpa using h2)) hA (fun b o w=>ab b o (List.mem_append_left _ w)) hk hG law).mono ?_;rintro e W' ⟨rfl,hb⟩;refine⟨_,rfl,z6 (pa:=p) (pv:=[]) u ?_ ?_ ?_ rfl hb (ok_one d rfl (okWide_bool_mk m _))⟩
 ·intro b sp hd;simp only[aaX,h,d];exact trodAll_cons_mk (shut_bool m _) trodAll_mk0
 ·intro sp l;simp only[aaX,h];exact z5 hl (aa1.2 fun t ht=>by have:=n t ht;simp only[yo] at this ⊢;exact this.2) hb hA (fun x y=>u.lt x (by simp[y])) (fun x y=>l x (by simp[y]))
 ·intro sp l;rw[a];simp only[aaX,h];exact rfl
end
end Go.Fr.T
namespace Go.Fr.T
open Go Go.RowKit Go.Fr Go.Fr.Api
def Zo (P:Program) (t:TypeId):Bool:=match P.underlying t with | some .bool=>true | _=>false
theorem rG {P:Program}{t:TypeId}(h:Zo P t=true) {n:Nat}{g:G}(a:Ok P n t g):∃x,g=.bool x:=by
 simp only[Zo] at h;split at h
 ·rename_i b;exact O1 b a
 ·cases h
theorem D9 {P:Program}{t:TypeId}{ts:List TypeId}{gs:List G}(h:Ql P (t::ts) gs):∃g r n,gs=g::r/\Ok P n t g/\Ql P ts r:=by
 cases gs with
 | nil=>exact h.elim
 | cons g r=>obtain⟨⟨n,b⟩,a⟩:=h;exact⟨g,r,n,rfl,b,a⟩
theorem O4 {P:Program}{gs:List G}(h:Ql P [] gs):gs=[]:=by
 cases gs with
 | nil=>rfl
 | cons g r=>exact h.elim
end Go.Fr.T
namespace Go.Fr.T
open Go Go.RowKit Go.Fr
def vT:List TO->List TO->Bool
 | [],[]=>true
 | .row _ sz _::l,.row _ b _::m=>match Nat.beq sz b with | true=>vT l m | false=>false
 | .box _ _::l,.box _ _::m=>vT l m
 | .map _::l,.map _::m=>vT l m
 | .win _ _ _ _::l,.win _ _ _ _::m=>vT l m
 | _,_=>false
structure XJ (j:Nat) (c0:C) (Lin:List TO) (L:TL) (ρ:aY) (v:C) (R:List TO->C->Prop):Prop where
 out:∃Mo,L.sub (List.range' 1000 Lin.length)=some Mo/\ρ j=c0/\vT Lin Mo=true/\(sU [v]->R (Mo.map (TO.aag (C.ren (cn (List.range' 1000 Lin.length) 1000)))) (v.aar.ren (cn (List.range' 1000 Lin.length) 1000)))
section
variable {P:Program}{G:Nat->Option (Nat×TypeId)}{F:aF}{L:Loc}{ρ:Env}{M:TL}{τ:aY}{a:Act}{w:World}
end
section
variable {P:Program}{L:TL}{ρ:aY}
theorem tX (ks:List Nat) {f:Nat}{args b:List C}{K:TL->aY->C->Prop}{x:C}{Lin Lin' Lo:List TO}(h:xh P f b Lin' (jv Lo x)) (e:L.sub ks=some Lin) (n:bP ks=true)
  (o:(args.map fun c=>c.aaj.ren (cn ks 1000))=b) (l:Lin.map (TO.aag (C.ren (cn ks 1000)))=Lin') (d:ks.length=Lo.length)
  (k:K ((L.aaf ks).puts ks (Lo.map (TO.aag (C.ren (br ks))))) ρ (x.ren (br ks)).slt):BS P f args L ρ K:=by
 subst o l;exact .inpl ks Lin _ e n h fun v Mo ⟨j,m⟩ _ _=>by subst j m;exact⟨d,k⟩
theorem zb {j:Nat}{b:C}{Lin Mo Lo:List TO}{v x:C}(h:L.sub (List.range' 1000 Lin.length)=some Mo) (d:ρ j=b) (c:vT Lin Mo=true) (f:Mo.map (TO.aag (C.ren (cn (List.range' 1000 Lin.length) 1000)))=Lo) (e:v.aar.ren (cn (List.range' 1000 Lin.length) 1000)=x) :
  XJ j b Lin L ρ v (jv Lo x):=⟨Mo,h,d,c,fun _=>⟨f,e⟩⟩
end
theorem xJ {Li Li':List Own}(hb:Li.map Own.blk=Li'.map Own.blk) {k:Nat}{o:Own}(h:(inp Li').get k=some o):∃o',(inp Li).get k=some o'/\o'.blk=o.blk:=by
 rw[bg] at h ⊢;split at h
 ·rename_i b;rw[o6 b];have a:(Li'.map Own.blk)[k-1000]?=some o.blk:=by rw[abt,h];rfl
  rw[<-hb,abt] at a;cases e:Li[k-1000]? with
  | none=>rw[e] at a;cases a
  | some o'=>rw[e] at a;injection a with a;exact⟨o',rfl,a⟩
 ·cases h
theorem St.swap {F:aF}{w:World}{Li Li':List Own}(hb:Li.map Own.blk=Li'.map Own.blk) (m:∀o∈Li',o.ok w) (a:St F (inp Li) w):St F (inp Li') w:=by
 refine⟨a.frz,fun k o h=>?_,fun k o g h e=>?_,fun k q o o' g h l e f=>?_,a.glob⟩
 ·rw[bg] at h;split at h
  ·exact m o (aaS h)
  ·cases h
 ·obtain⟨d,c,b⟩:=xJ hb h;exact a.off k d g c (b.trans e)
 ·obtain⟨d,c,b⟩:=xJ hb h;obtain⟨j,n,p⟩:=xJ hb l;exact a.sep k q d j g c n (b.trans e) (p.trans f)
theorem sB {Li Li':List Own}(hb:Li.map Own.blk=Li'.map Own.blk) {b:Nat}(h:(inp Li').owns b):(inp Li).owns b:=by
 obtain⟨k,o,e,c⟩:=h;obtain⟨o',a,d⟩:=xJ hb e;exact⟨k,o',a,d.trans c⟩
theorem Step.swap {F F':aF}{w w':World}{Li Li' Lo Lo':List Own}(hb:Li.map Own.blk=Li'.map Own.blk) (d:Lo.map Own.blk=Lo'.map Own.blk) (h:Step F (inp Li) w F' (inp Lo) w'):Step F (inp Li') w F' (inp Lo') w' :=
 ⟨h.le,h.os,h.tape,h.output,h.size,fun b c a=>h.same b c fun q=>a (sB hb.symm q),fun b a=>(h.frz b a).imp id (Or.imp (sB hb.symm) id),fun b q=>(h.own b (sB d q)).imp (sB hb.symm) id⟩
theorem O5 {w:World}{g m cap t sz:Nat}{xs:List Value}(l:t≠0) (h:Own.ok w (.row (.slice (some ⟨g,0,none⟩) m cap) t sz m xs)):∃a,Own.ok w (.box g t (xs++a))/\xs.length+a.length=cap*sz/\m<=cap/\cap<=maxLen:=by
 obtain⟨p,f | ⟨q,d,b,e,r,o,n,j,k,c⟩⟩:=h
 ·cases f.1
 ·injection e with e1 e2 e3
  injection e1 with e1
  injection e1 with e1
  subst e1 e3;refine⟨b.toList.drop (m*sz),?_,?_,n,j⟩
  ·show w.heap[g]?=some (mC t _);rw[iN l,o,<-c,List.take_append_drop]
  ·rw[<-c,<-aaR,List.take_append_drop,Array.length_toList,k]
theorem O6 {w:World}{g m cap t sz:Nat}{b a:List Value}(j:t≠0) (c:b.length=m*sz) (e:m<=cap) (f:cap<=maxLen) (d:b.length+a.length=cap*sz) (h:Own.ok w (.box g t (b++a))):Own.ok w (.row (.slice (some ⟨g,0,none⟩) m cap) t sz m b):=by
 have h:w.heap[g]?=some (mC t (b++a)):=h;rw[iN j] at h;refine⟨c,.inr ⟨g,cap,_,rfl,abl _,h,e,f,by simpa using d,?_⟩⟩;simp[<-c]
theorem aG.split {F:aF}{L:Loc}:∀{cs ds:List C}{vs:List Value},aG F L (cs++ds) vs->∃us a,vs=us++a/\aG F L cs us/\aG F L ds a
 | [],ds,vs,h=>⟨[],vs,rfl,by simp only[aG],h⟩
 | c::cs,ds,vs,h=>by
  simp only[aaV,aG] at h;obtain⟨v,b,rfl,j,e⟩:=h;obtain⟨us,a,rfl,d,f⟩:=aG.split e;exact⟨v::us,a,rfl,by simp only[aG];exact⟨_,_,rfl,j,d⟩,f⟩
theorem aP.flat {F:aF}{L:Loc}{sz:Nat}:∀{els:List (List C)}{xs:List Value},aP F sz els xs->aG F L els.flatten xs/\xs.length=els.length*sz
 | [],xs,h=>by
  simp only[aP] at h;subst h;exact⟨by simp only[List.flatten_nil,aG],by simp⟩
 | es::l,xs,h=>by
  simp only[aP] at h;obtain⟨vs,a,rfl,e,j,b,d⟩:=h;obtain⟨c,f⟩:=aP.flat (L:=L) d;refine⟨by rw[List.flatten_cons];exact b.lift.append c,?_⟩;rw[aaR,e,f,aaW,Nat.add_mul];omega
theorem aP.of_flat {F:aF}{L:Loc}{sz:Nat}:∀{els:List (List C)}{xs:List Value},(∀es∈els,es.length=sz/\dZ es=true/\eH es=true)->aG F L els.flatten xs->aP F sz els xs
 | [],xs,a,h=>by
  simp only[List.flatten_nil,aG] at h;simp only[aP];exact h
 | es::l,xs,a,h=>by
  rw[List.flatten_cons] at h;obtain⟨us,k,rfl,b,c⟩:=aG.split h;obtain⟨d,f,j⟩:=a es (by simp);simp only[aP];exact⟨us,k,rfl,by rw[b.len,d],f,eZ j b,aP.of_flat (fun e m=>a e (by simp[m])) c⟩
theorem Bh {F:aF}{L:Loc}:∀(vs:List Value),aG F L (List.replicate vs.length .any) vs
 | []=>by simp only[abe,List.replicate_zero,aG]
 | v::vs=>by
  simp only[aaW,abD,aG,Rel];exact⟨v,vs,rfl,trivial,Bh vs⟩
def s6 (k sz:Nat):C->C
 | .elr a j off=>match Nat.beq a k with | true=>.own a (j*sz+off) | false=>.elr a j off
 | c=>c
def ze:TO->Bool
 | .box _ cs=>eH cs
 | .win _ _ _ _=>false
 | _=>true
theorem Iv {F:aF}{L L':Loc}:∀{o:TO}{p:Own},ze o=true->dG F L o p->dG F L' o p
 | .box t cs,.box g b vs,a,r=>⟨r.1,eZ a r.2⟩
 | .row t sz els,.row v b c n xs,_,r=>r
 | .box _ _,.row ..,_,r=>r.elim
 | .row ..,.box ..,_,r=>r.elim
 | .map _,.row ..,_,r=>r.elim
 | .map es,.box g b vs,_,r=>r
 | .win ..,.row ..,_,r=>r.elim
 | .win ..,.box ..,a,r=>by simp[ze] at a
theorem zf {F:aF}{LA:List Own}{A:List TO}{o c:Own}{x f:TO}(d:LA.length=A.length) (l:∀y∈A,ze y=true) (h:dH F (inp (LA++[o])) (jG (A++[x]))) (j:dG F (inp (LA++[c])) f c) :
  dH F (inp (LA++[c])) (jG (A++[f])):=by
 intro k;have a:=h k;rw[cI,bg] at a ⊢;split
 ·rename_i e;rw[o6 e,o6 e] at a
  by_cases b:k-1000<A.length
  ·rw[aaY b,aaY (by omega)] at a ⊢;rw[w8 b,w8 (by omega:k-1000<LA.length)] at a ⊢;exact Iv (l _ (List.getElem_mem _)) a
  ·by_cases m:k-1000=A.length
   ·rw[aa4 (by omega),aa4 (by omega),m,d];simp only[d,Nat.sub_self,aa2];exact j
   ·rw[aa0 (by simp;omega),aa0 (by simp;omega)];trivial
 ·trivial
theorem rH {LB:List Own}{o b p:Own}{k:Nat}(h:(inp (LB++[b])).get k=some p):(inp (LB++[o])).get k=some p\/p=b:=by
 rw[bg] at h ⊢;split at h
 ·rename_i c;rw[o6 c]
  by_cases a:k-1000<LB.length
  ·rw[aaY a] at h ⊢;exact .inl h
  ·by_cases d:k-1000=LB.length
   ·rw[aa4 (by omega),d] at h;simp only[Nat.sub_self,aa2,w7] at h;exact .inr h.symm
   ·rw[aa0 (by simp;omega)] at h;cases h
 ·cases h
theorem St.aaz {F:aF}{w:World}{LB:List Own}{o:Own}{t sz:Nat}(a:St F (inp (LB++[o])) w):St F (inp (LB++[.row (.slice none 0 0) t sz 0 []])) w:=by
 refine⟨a.frz,fun k p h=>?_,fun k p g h e=>?_,fun k f p d g h b e c=>?_,a.glob⟩
 ·rcases rH (o:=o) h with h | rfl
  ·exact a.own k p h
  ·exact World.ownsRow_nil w 0 t sz
 ·rcases rH (o:=o) h with h | rfl
  ·exact a.off k p g h e
  ·cases e
 ·rcases rH (o:=o) h with h | rfl
  ·rcases rH (o:=o) b with b | rfl
   ·exact a.sep k f p d g h b e c
   ·cases c
  ·cases e
theorem Step.aaz {F F':aF}{w w':World}{L:Loc}{LB:List Own}{o:Own}{t sz:Nat}(h:Step F L w F' (inp (LB++[o])) w'):Step F L w F' (inp (LB++[.row (.slice none 0 0) t sz 0 []])) w' :=
 ⟨h.le,h.os,h.tape,h.output,h.size,h.same,h.frz,fun b ⟨k,p,a,c⟩=>by
  rcases rH (o:=o) a with a | rfl
  ·exact h.own b ⟨k,p,a,c⟩
  ·cases c⟩
theorem CallsTX.elem {P:Program}{f:Nat}{args:List C}{A:List TO}{t sz:Nat}{els:List (List C)}{R:Nat->List TO->C->Prop}{R':List TO->C->Prop}{Pp:Value->Prop}(he:nK P f) (ag:Mx t=true) (hA:∀o∈A,ze o=true) (cd:∀o∈A,∃t cs,o=.box t cs)
  (aw:∀c∈args,(∃j off,c=.elr (1000+A.length) j off)\/(c.kill (1000+A.length)=c/\s6 (1000+A.length) sz c=c)) (cM:∃j off,.elr (1000+A.length) j off∈args)
  (h:∀m,CallsTX P f (args.map (s6 (1000+A.length) sz)) (A++[.box t (els.flatten++List.replicate m .any)]) (R m) Pp)
  (hR:∀m Mo c,R m Mo c->∃A' b,Mo=A'++[.box t (b.flatten++List.replicate m .any)]/\A'.length=A.length/\b.length=els.length/\(∀es∈b,es.length=sz/\dZ es=true/\eH es=true)/\(∀o∈A',ze o=true) /\
   (∀(F:aF) (L L':Loc) v,Rel F L c v->Rel F L' c v)/\R' (A'++[.row t sz b]) c):lV P f args (A++[.row t sz els]) R' Pp:=by
 have ht:t≠0:=by
  intro e;subst e;cases ag
 have ca:t<1048576:=by
  simp only[Mx] at ag;split at ag
  ·cases ag
  ·have:=aa3 ag;omega
 refine⟨fun F Li vs hl av hr=>?_⟩;obtain⟨LA,o,rfl⟩:∃LA o,Li=LA++[o]:=by
  have hn:Li≠[]:=by intro e;rw[e] at hl;simp at hl
  exact⟨Li.dropLast,Li.getLast hn,(List.dropLast_concat_getLast hn).symm⟩
 have s:LA.length=A.length:=by simpa using hl
 have x:∀o,(inp (LA++[o])).get (1000+A.length)=some o:=fun o=>by
  rw[bg,o6 (by omega),show 1000+A.length-1000=A.length by omega,aa4 (by omega),s];simp
 have l:=av (1000+A.length);rw[x,cI,o6 (by omega),show 1000+A.length-1000=A.length by omega,aa4 (by omega)] at l;simp only[Nat.sub_self,aa2] at l;cases o with
 | box g t' cs=>exact l.elim
 | row v0 t' ds n xs =>
  obtain⟨rfl,rfl,hn,dd,ap⟩:=l;obtain⟨j,off,hm⟩:=cM;obtain⟨i,hi⟩:=List.getElem?_of_mem hm;obtain⟨ba,cp⟩:=kH.1 hr;have ay:i<vs.length:=by rw[ba];exact(xD.1 hi).1
  have ab:=cp i _ _ hi (w8 ay);simp only[Rel] at ab;obtain⟨ad,t2,dg,n2,c2,cw,ea,q⟩:=ab;rw[x] at q;injection q with q
  injection q with e1 e2 e3 e4 e5
  subst e1 e2 e3 e4 e5;refine⟨he,fun F G L v db r=>⟨iB.aao _ _ _ _ db r.1,r.2⟩,fun w hs=>?_⟩;have bj:Own.ok w (.row (.slice (some ad) n c2) t sz n xs):=hs.own _ _ (x _);have df:∃g,ad=⟨g,0,none⟩:=by
   obtain⟨z,h2 | ⟨g,cap,dq,e,_⟩⟩:=id bj
   ·cases h2.1
   ·injection e with e1 e2 e3
    injection e1 with e1
    exact⟨g,e1⟩
  obtain⟨g,rfl⟩:=df;obtain⟨a,bo,cb,bx,bu⟩:=O5 ht bj;obtain⟨q1,q2⟩:=aP.flat (L:=inp (LA++[.box g t (xs++a)])) ap;have ae:(LA++[Own.row (.slice (some ⟨g,0,none⟩) n c2) t sz n xs]).map Own.blk=(LA++[Own.box g t (xs++a)]).map Own.blk:=by simp[Own.blk,Value.ownBlock]
  have cz:St F (inp (LA++[.box g t (xs++a)])) w:=St.swap ae (fun o l=>by
   rcases xo.1 l with l | l
   ·obtain⟨i,hi⟩:=List.getElem?_of_mem l;have p:=(xD.1 hi).1;exact hs.own (1000+i) o (by rw[bg,o6 (by omega),show 1000+i-1000=i by omega,aaY p];exact hi)
   ·rw[abv.1 l];exact bo) hs
  have bk:dH F (inp (LA++[.box g t (xs++a)])) (jG (A++[.box t (els.flatten++List.replicate a.length .any)])):=zf s hA av ⟨⟨ca,.inl rfl,ht⟩,q1.append (Bh a)⟩;have cX:aG F (inp (LA++[.box g t (xs++a)])) (args.map (s6 (1000+A.length) sz)) vs:=by
   refine aG.map (fun c hc v hv=>?_) hr;rcases aw c hc with⟨j,off,rfl⟩ | ⟨k1,k2⟩
   ·simp only[Rel] at hv;obtain⟨ad,t2,dg,n2,dT,cw,rfl,al⟩:=hv;rw[x] at al;injection al with al
    injection al with e1 e2 e3 e4 e5
    injection e1 with e1 e6 e7
    injection e1 with e1
    subst e1 e3;have:Nat.beq (1000+A.length) (1000+A.length)=true:=Nat.beq_refl _;simp only[s6,this,Rel];exact⟨g,t,_,x _,by rw[cA,Nat.zero_add]⟩
   ·rw[k2,<-k1];refine Rel.mp (lz (k:=1000+A.length) (fun g t cs e=>by rw[x] at e;cases e) (fun j hj o l=>?_) (aF.le_refl F)) 3 hv;refine⟨o,?_,Own.aah o⟩;rw[bg] at l ⊢;split at l
    ·rename_i z;rw[o6 z]
     by_cases p:j-1000<LA.length
     ·rw[aaY p] at l ⊢;exact l
     ·rw[aa0 (by simp;omega)] at l;cases l
    ·cases l
  refine Calls.mono (((h a.length).out F _ vs (by simp[s]) bk cX).run w cz) ?_;rintro e w' (⟨v,F',Lo,rfl,g1,g2,Mo,c',q1,q2,q3,q4,q5⟩ | ⟨v,ch,F',Lo,rfl,hc,g1,g2,g3,g4,g5⟩)
  ·obtain⟨A',b,rfl,l1,l2,p1,p2,p3,p4⟩:=hR _ _ _ q5;obtain⟨LB,o',rfl⟩:∃LB o,Lo=LB++[o]:=by
    have hn:Lo≠[]:=by intro e;rw[e] at q1;simp at q1
    exact⟨Lo.dropLast,Lo.getLast hn,(List.dropLast_concat_getLast hn).symm⟩
   have u:LB.length=A'.length:=by simp at q1;omega
   have bd:∀o,(inp (LB++[o])).get (1000+A.length)=some o:=fun o=>by
    rw[bg,o6 (by omega),show 1000+A.length-1000=A.length by omega,aa4 (by omega),u,l1];simp
   obtain⟨cs',ax⟩:=q4 A.length g t (xs++a) (by rw[aa4 (by omega),s];simp);rw[aa4 (by omega),u,l1] at ax;simp only[Nat.sub_self,aa2,w7] at ax;subst ax;have hk:=q2 (1000+A.length);rw[bd,cI,o6 (by omega),show 1000+A.length-1000=A.length by omega,aa4 (by omega),l1] at hk;simp only[Nat.sub_self,aa2] at hk;obtain⟨_,hk⟩:=hk;obtain⟨us,ws,rfl,r1,r2⟩:=aG.split hk;have ac:=aP.of_flat p1 r1;have bi:=(aP.flat (L:=inp []) ac).2;have cc:ws.length=a.length:=by rw[r2.len,abx]
   have cr:=(aP.flat (L:=inp []) ap).2;have bb:n=b.length:=by omega
   have be:us.length+ws.length=c2*sz:=by rw[bi,cc,l2,<-cr];exact cb
   have bp:Own.ok w' (.row (.slice (some ⟨g,0,none⟩) n c2) t sz n us):=O6 ht (by rw[bi,bb]) bx bu be (g1.own _ _ (bd _));have aa:(LB++[Own.box g t (us++ws)]).map Own.blk=(LB++[Own.row (.slice (some ⟨g,0,none⟩) n c2) t sz n us]).map Own.blk:=by simp[Own.blk,Value.ownBlock]
   have bc:dG F' (inp (LB++[.row (.slice (some ⟨g,0,none⟩) n c2) t sz n us])) (.row t sz b) (.row (.slice (some ⟨g,0,none⟩) n c2) t sz n us):=⟨rfl,rfl,bb,⟨dd.1,_,_,rfl,fun e=>by cases e⟩,ac⟩;refine .inl ⟨v,F',LB++[.row (.slice (some ⟨g,0,none⟩) n c2) t sz n us],rfl,St.swap aa (fun o l=>?_) g1,Step.swap ae.symm aa g2,⟨A'++[.row t sz b],c',by simp[u],zf u p2 q2 bc,p3 _ _ _ _ q3,fun i g0 t0 y d=>?_,p4⟩,by simp[u,l1,s],fun i o0 d=>?_⟩
   ·rcases xo.1 l with l | l
    ·obtain⟨i,hi⟩:=List.getElem?_of_mem l;have p:=(xD.1 hi).1;exact g1.own (1000+i) o (by rw[bg,o6 (by omega),show 1000+i-1000=i by omega,aaY p];exact hi)
    ·rw[abv.1 l];exact bp
   ·by_cases p:i<A.length
    ·rw[aaY (by omega)] at d;obtain⟨an,z⟩:=q4 i g0 t0 y (by rw[aaY (by omega)];exact d);rw[aaY (by omega)] at z ⊢;exact⟨an,z⟩
    ·exfalso;rw[aa4 (by omega)] at d
     by_cases he:i=A.length
     ·rw[he,s] at d;simp at d
     ·rw[aa0 (by simp;omega)] at d;cases d
   ·by_cases p:i<A.length
    ·rw[aaY (by omega)] at d;obtain⟨tb,ec,bv⟩:=cd A[i] (List.getElem_mem _);have ab:=av (1000+i);rw[bg,cI,o6 (by omega),o6 (by omega),show 1000+i-1000=i by omega,aaY (by omega),aaY (by omega),d,w8 p,bv] at ab;cases o0 with
     | row=>exact ab.elim
     | box g0 t0 y =>
      obtain⟨an,z⟩:=q4 i g0 t0 y (by rw[aaY (by omega)];exact d);rw[aaY (by omega)] at z ⊢;exact⟨_,z,rfl,rfl⟩
    ·rw[aa4 (by omega)] at d
     by_cases he:i=A.length
     ·rw[he,s] at d;simp at d;subst d;exact⟨.row (.slice (some ⟨g,0,none⟩) n c2) t sz n us,by rw[he,aa4 (by omega),u,l1];simp,rfl,rfl,rfl⟩
     ·rw[aa0 (by simp;omega)] at d;cases d
  ·obtain⟨LB,o',rfl⟩:∃LB o,Lo=LB++[o]:=by
    have hn:Lo≠[]:=by intro e;rw[e] at g3;simp at g3
    exact⟨Lo.dropLast,Lo.getLast hn,(List.dropLast_concat_getLast hn).symm⟩
   have u:LB.length=LA.length:=by simpa using g3
   refine .inr ⟨v,ch,F',LB++[.row (.slice none 0 0) t sz 0 []],rfl,hc,St.aaz g1,Step.aaz (Step.swap ae.symm rfl g2),by simp[u],fun i g0 t0 y d=>?_,g5⟩
   by_cases p:i<A.length
   ·rw[aaY (by omega)] at d;obtain⟨an,z⟩:=g4 i g0 t0 y (by rw[aaY (by omega)];exact d);rw[aaY (by omega)] at z ⊢;exact⟨an,z⟩
   ·exfalso;rw[aa4 (by omega)] at d
    by_cases he:i=A.length
    ·rw[he,s] at d;simp at d
    ·rw[aa0 (by simp;omega)] at d;cases d
theorem lV.toX {P:Program}{f:Nat}{args:List C}{Lin:List TO}{R:List TO->C->Prop}{Pp:Value->Prop}(h:lV P f args Lin R Pp):CallsTX P f args Lin R Pp :=
 ⟨fun F Li vs e b n=>let q:=h.out F Li vs e b n
  ⟨q.ent,fun F G L v a r=>iB.aao _ _ _ _ a r,fun w c=>(q.run w c).mono fun _ _ k=>k.imp (fun⟨v,F',Lo,d,j,m,l⟩=>⟨v,F',Lo,d,j,m,l.1⟩) id⟩⟩
theorem oN {P:Program}{L:TL}{ρ:aY}(ks:List Nat) {PS:qJ}{Pp:Value->Prop}{f:Nat}{args a:List C}{K:TL->aY->C->Prop}{R:List TO->C->Prop}{Lin Lin':List TO}(h:lV P f a Lin' R Pp) (b:L.sub ks=some Lin) (l:bP ks=true)
  (m:(args.map fun c=>c.aaj.ren (cn ks 1000))=a) (d:Lin.map (TO.aag (C.ren (cn ks 1000)))=Lin') (j:∀v,Pp v->PS.ps v)
  (k:∀v Mo,R Mo v->Wf v->(∀o∈Mo,o.Wf)->ks.length=Mo.length/\K ((L.aaf ks).puts ks (Mo.map (TO.aag (C.ren (br ks))))) ρ (v.ren (br ks)).slt) (e:mF L ks PS.hb=true:=by rfl):qf P PS f args L ρ K:=by
 subst m d;exact .inpl ks Lin R Pp b l e h j k
def vw (l a:List TO):Prop:=l.length=a.length/\∀(i:Nat) (o o':TO),l[i]?=some o->a[i]?=some o'->∀(F:aF) (L:Loc) (p:Own),dG F L o p->dG F L o' p
theorem vw.refl (l:List TO):vw l l:=⟨rfl,fun i o o' b a F L p r=>by rw[b] at a;injection a with a;subst a;exact r⟩
theorem vw.cons {o o':TO}{l e:List TO}(h:∀(F:aF) (L:Loc) (p:Own),dG F L o p->dG F L o' p) (k:vw l e):vw (o::l) (o'::e) :=
 ⟨by simp[k.1],fun i a b d c=>by
  cases i with
  | zero=>simp only[aa2,w7] at d c;subst d c;exact h
  | succ i=>exact k.2 i a b (by simpa using d) (by simpa using c)⟩
theorem vw.same {o:TO}{l a:List TO}(k:vw l a):vw (o::l) (o::a):=.cons (fun _ _ _ r=>r) k
theorem vw.tl {F:aF}{Li:List Own}{l e:List TO}(h:vw l e) (r:dH F (inp Li) (jG l)):dH F (inp Li) (jG e):=by
 intro k;have b:=r k;rw[cI,bg] at b ⊢;split
 ·rename_i f;rw[o6 f,o6 f] at b
  by_cases c:k-1000<l.length
  ·have a:k-1000<e.length:=by rw[<-h.1];exact c
   rw[w8 c] at b;rw[w8 a];cases d:Li[k-1000]? with
   | none=>rw[d] at b;exact b.elim
   | some p =>
    rw[d] at b;exact h.2 _ _ _ (w8 c) (w8 a) _ _ _ b
  ·have a:¬k-1000<e.length:=by rw[<-h.1];exact c
   rw[aa0 (by omega)] at b;rw[aa0 (by omega)];cases d:Li[k-1000]? with
   | none=>trivial
   | some p=>rw[d] at b;exact b.elim
 ·trivial
theorem iB.view {Li:List Own}{R R':List TO->C->Prop}(a:∀Mo c,R Mo c->∃Mo',vw Mo Mo'/\R' Mo' c) {F:aF}{Lo:List Own}{v:Value}(h:iB Li R F Lo v):iB Li R' F Lo v:=by
 obtain⟨Mo,c,f,e,l,d,k⟩:=h;obtain⟨Mo',b,j⟩:=a Mo c k;exact⟨Mo',c,by rw[<-b.1,f],b.tl e,l,d,j⟩
theorem CallsTX.view {P:Program}{f:Nat}{args:List C}{Lin Lin':List TO}{R R':List TO->C->Prop}{Pp Pp':Value->Prop}(h:CallsTX P f args Lin R Pp) (b:vw Lin' Lin) (a:∀Mo c,R Mo c->∃Mo',vw Mo Mo'/\R' Mo' c) (s:∀v,Pp v->Pp' v) :
  CallsTX P f args Lin' R' Pp' :=
 ⟨fun F Li vs p n y=>let q:=h.out F Li vs (by rw[p,b.1]) (b.tl n) y
  ⟨q.ent,fun F G L v l r=>iB.aao _ _ _ _ l r,fun w o=>(q.run w o).mono fun _ _ k=>k.imp (fun⟨v,F',Lo,d,e,m,j⟩=>⟨v,F',Lo,d,e,m,iB.view a j⟩) fun⟨v,z,F',Lo,d,e,m,j,t,u,x⟩=>⟨v,z,F',Lo,d,e,m,j,t,u,s v x⟩⟩⟩
theorem CallsTX.imp {P:Program}{f:Nat}{args:List C}{Lin:List TO}{R R':List TO->C->Prop}{Pp Pp':Value->Prop}(h:CallsTX P f args Lin R Pp) (b:∀Mo c,R Mo c->R' Mo c) (a:∀v,Pp v->Pp' v):CallsTX P f args Lin R' Pp' :=
 h.view (vw.refl _) (fun Mo c r=>⟨Mo,vw.refl _,b Mo c r⟩) a
def cG (l:List C):Prop:=∀c∈l,c.pure=true\/c=.any
theorem cG.rel {F:aF}{L L':Loc}:∀{l:List C}{vs:List Value},cG l->aG F L l vs->aG F L' l vs
 | [],vs,_,h=>by simp only[aG] at h ⊢;exact h
 | c::l,vs,hi,h=>by
  simp only[aG] at h ⊢;obtain⟨v,a,rfl,f,b⟩:=h;refine⟨v,a,rfl,?_,cG.rel (fun c d=>hi c (by simp[d])) b⟩;rcases hi c (by simp) with j | rfl
  ·have:=eZ (L':=L') (cs:=[c]) (vs:=[v]) (by simp only[eH,j]) (by simp only[aG];exact⟨v,[],rfl,f,rfl⟩);simp only[aG] at this;obtain⟨u,us,e,k,_⟩:=this;injection e with e
   rw[e];exact k
  ·simp only[Rel]
theorem cG.append {l m:List C}(h:cG l) (k:cG m):cG (l++m):=fun c a=>by
 rcases xo.1 a with a | a
 ·exact h c a
 ·exact k c a
theorem cG.set {l:List C}{o:Nat}{c:C}(h:cG l) (b:c.pure=true):cG (l.set o c):=fun d a=>by
 rcases List.mem_or_eq_of_mem_set a with a | rfl
 ·exact h d a
 ·exact .inl b
theorem cG.take {l:List C}(h:cG l) (n:Nat):cG (l.take n):=fun c a=>h c (List.mem_of_mem_take a)
theorem cG.drop {l:List C}(h:cG l) (n:Nat):cG (l.drop n):=fun c a=>h c (List.mem_of_mem_drop a)
theorem aU {l:List C}(h:eH l=true):cG l:=fun c a=>.inl (qe.1 h c a)
theorem Bj (n:Nat):cG (List.replicate n .any):=fun c a=>.inr (List.eq_of_mem_replicate a)
theorem oC {t:TypeId}{pre cs post pre' cs' post':List C}(h:pre++(cs++post)=pre'++(cs'++post')) (j:cG pre') (c:cG post') (F:aF) (L:Loc) (p:Own) (r:dG F L (.win t pre cs post) p):dG F L (.win t pre' cs' post') p:=by
 cases p with
 | row=>exact r.elim
 | box g w vs =>
  obtain⟨s,v1,m,v3,rfl,q,n,f⟩:=r;have b:aG F L (pre++(cs++post)) (v1++(m++v3)):=q.lift.append (n.append f.lift);rw[h] at b;obtain⟨d,o,e,u,a⟩:=aG.split b;obtain⟨l,k,rfl,a,v⟩:=aG.split a;exact⟨s,d,l,k,e,j.rel u,a,c.rel v⟩
theorem xK {t:TypeId}{cs pre' cs' post':List C}(h:cs=pre'++(cs'++post')) (e:cG pre') (c:cG post') (F:aF) (L:Loc) (p:Own) (r:dG F L (.box t cs) p):dG F L (.win t pre' cs' post') p:=by
 cases p with
 | row=>exact r.elim
 | box g o vs =>
  obtain⟨l,b⟩:=r;rw[h] at b;obtain⟨d,k,rfl,m,a⟩:=aG.split b;obtain⟨j,f,rfl,a,n⟩:=aG.split a;exact⟨l,d,j,f,rfl,e.rel m,a,c.rel n⟩
theorem Cw {t:TypeId}{cs pre' cs' post':List C}(h:cs=pre'++(cs'++post')) (F:aF) (L:Loc) (p:Own) (r:dG F L (.win t pre' cs' post') p):dG F L (.box t cs) p:=by
 cases p with
 | row=>exact r.elim
 | box g e vs =>
  obtain⟨d,v1,f,v3,rfl,c,b,a⟩:=r;subst h;exact⟨d,c.lift.append (b.append a.lift)⟩
theorem wD {sz:Nat}:∀{l:List (List C)},(∀es∈l,es.length=sz)->l.flatten.length=l.length*sz
 | [],_=>by simp
 | es::l,h=>by
  rw[List.flatten_cons,aaR,h es (by simp),wD (fun e a=>h e (by simp[a])),aaW,Nat.add_mul];omega
theorem zh {l:List (List C)}{j:Nat}{es:List C}(h:l[j]?=some es):l.flatten=(l.take j).flatten++(es++(l.drop (j+1)).flatten):=by
 have a:=(xD.1 h).1;have b:=(xD.1 h).2
 conv=>lhs;rw[<-List.take_append_drop j l,List.flatten_append,abI a,List.flatten_cons,b]
theorem Ea {l:List (List C)}{j:Nat}{es es':List C}(h:l[j]?=some es):(l.set j es').flatten=(l.take j).flatten++(es'++(l.drop (j+1)).flatten):=by
 have a:=(xD.1 h).1;have b:(l.set j es')[j]?=some es':=by simp[a]
 rw[zh b,List.take_set_of_le (aa8 j),List.drop_set_of_lt (by omega)]
theorem CallsTX.aaK {P:Program}{f:Nat}{fi ca:List C}{n:C}{A:TO}{t sz j:Nat}{els:List (List C)}{es:List C}{R:TO->List C->C->Prop}{Pp:Value->Prop}(b:nK P f) (ac:Mx t=true) (hA:ze A=true) (ab:∃t cs,A=.box t cs)
  (d:∀c∈fi++n::ca,c.kill 1001=c/\s6 1001 sz c=c) (z:els[j]?=some es) (k:∀e∈els,e.length=sz/\dZ e=true/\eH e=true)
  (h:∀pre post,cG pre->cG post->CallsTX P f (fi++n::.own 1001 pre.length::ca) [A,.win t pre es post] (fun Mo c=>∃A' es',Mo=[A',.win t pre es' post]/\R A' es' c) Pp)
  (hR:∀A' es' c,R A' es' c->es'.length=sz/\dZ es'=true/\eH es'=true/\ze A'=true/\∀(F:aF) (L L':Loc) v,Rel F L c v->Rel F L' c v) :
  lV P f (fi++n::.elr 1001 j 0::ca) [A,.row t sz els] (fun Mo c=>∃A' es',Mo=[A',.row t sz (els.set j es')]/\R A' es' c) Pp:=by
 have ap:=(xD.1 z).1;have x:(els.take j).flatten.length=j*sz:=by
  rw[wD (sz:=sz) (fun e b=>(k e (List.mem_of_mem_take b)).1),aa9,Nat.min_eq_left (by omega)]
 have s:∀l:List (List C),(∀e∈l,e∈els)->cG l.flatten:=fun l hl c a=>by
  obtain⟨e,b,a⟩:=List.mem_flatten.1 a;exact .inl (qe.1 (k e (hl e b)).2.2 c a)
 have p:=s (els.take j) fun e b=>List.mem_of_mem_take b;have r:∀m,cG ((els.drop (j+1)).flatten++List.replicate m .any):=fun m=>(s _ fun e b=>List.mem_of_mem_drop b).append (Bj m);have u:(fi++n::C.elr 1001 j 0::ca).map (s6 1001 sz)=fi++n::.own 1001 (els.take j).flatten.length::ca:=by
  have q:∀l:List C,(∀c∈l,s6 1001 sz c=c)->l.map (s6 1001 sz)=l:=fun l hl=>by
   conv=>rhs;rw[<-List.map_id l]
   exact abK fun c a=>hl c a
  rw[List.map_append,aaU,aaU,q fi (fun c a=>(d c (by simp[a])).2),q ca (fun c a=>(d c (by simp[a])).2),(d n (by simp)).2,x];rfl
 refine CallsTX.elem (A:=[A]) (R:=fun m Mo c=>∃A' es',Mo=[A',.box t ((els.set j es').flatten++List.replicate m .any)]/\R A' es' c) b ac (fun o w=>by rw[abv.1 w];exact hA) (fun o w=>by rw[abv.1 w];exact ab) ?_ ⟨j,0,by simp⟩ (fun m=>?_) ?_
 ·intro c a;rcases xo.1 a with a | a
  ·exact .inr (d c (by simp[a]))
  ·rcases aaQ.1 a with rfl | a
   ·exact .inr (d c (by simp))
   ·rcases aaQ.1 a with rfl | a
    ·exact .inl ⟨j,0,rfl⟩
    ·exact .inr (d c (by simp[a]))
 ·show CallsTX P f ((fi++n::C.elr 1001 j 0::ca).map (s6 1001 sz)) _ _ Pp;rw[u];refine(h _ _ p (r m)).view (vw.same (vw.cons (xK (by rw[zh z];simp) p (r m)) (vw.refl []))) ?_ (fun _ h=>h);rintro Mo c ⟨A',es',rfl,y⟩;exact⟨_,vw.same (vw.cons (Cw rfl) (vw.refl [])),A',es',by rw[Ea z];simp,y⟩
 ·rintro m Mo c ⟨A',es',rfl,y⟩;obtain⟨r1,r2,r3,r4,r5⟩:=hR A' es' c y;refine⟨[A'],els.set j es',rfl,rfl,by simp,fun e b=>?_,fun o w=>by rw[abv.1 w];exact r4,r5,A',es',rfl,y⟩;rcases List.mem_or_eq_of_mem_set b with b | rfl
  ·exact k e b
  ·exact⟨r1,r2,r3⟩
end Go.Fr.T
namespace Go.Fr.T
open Go Go.RowKit Go.Fr Go.Fr.Api
theorem GD {l:List G}:zZ (.st l)=.agg (mY (.st l)):=by simp only[zZ,mY]
theorem rI {a:Sort _}{p:a->Prop}{K:Prop}(h:∃x,p x) (H:∀x,p x->K):K:=h.elim H
theorem fC {a:Type}{l:List a}{k:Nat}{K:Prop}(h:k<l.length) (H:∀x,l[k]?=some x->x∈l->l.drop k=x::l.drop (k+1)->K):K:=H l[k] (w8 h) (List.getElem_mem h) (abI h)
section
variable {P:Program}{L:TL}{ρ:aY}
def Such (p:Prop):List TO->C->Prop:=fun Mo v=>Mo=[]/\∃b,v=.bool b/\(b=true->p)
theorem qF {f:Nat}{args a:List C}{K:TL->aY->C->Prop}{p:Prop}(h:CallsT P f a [] (Such p)) (j:(args.map fun c=>c.aaj.ren (cn [] 1000))=a) (k:∀b:Bool,(b=true->p)->K L ρ (.bool b)):pE P f args L ρ K:=by
 subst j;exact .mk ⟨[],[],[],L,[],_,.inl rfl,rfl,rfl,rfl,rfl,rfl,h,fun v Mo ⟨d,b,l,e⟩ m _=>by subst d l;exact⟨rfl,k b e⟩⟩
theorem Si {f:Nat}{args a:List C}{K:TL->aY->C->Prop}{d:Option Nat}{p:Prop}(h:CallsT P f a [] (Such p)) (l:(args.map fun c=>c.aaj.ren (cn [] 1000))=a) (k:∀b:Bool,(b=true->p)->K L ρ (.bool b)):tL P f args L ρ d K:=by
 subst l;exact .frz _ h fun v Mo ⟨e,b,m,j⟩ n=>by subst e m;exact⟨rfl,k b j⟩
theorem iG {Lin:List TO}{v:C}{p:Prop}(b:Bool) (hb:aW Lin (List.range' 1000 Lin.length) []=true) (e:v.aar.ren (cn [] 1000)=.bool b) (a:b=true->p):pF Lin L v (Such p) :=
 ⟨[],[],L,v,v,[],rfl,.inl ⟨rfl,rfl⟩,rfl,rfl,hb,fun _=>⟨rfl,b,e,a⟩⟩
end
end Go.Fr.T
namespace Go.Fr.T
open Go Go.RowKit Go.Fr
theorem CallsT.give {P:Program}{f:Nat}{args:List C}{t sz:Nat}{els:List (List C)}(h:CallsT P f args [] (jv [.row t sz els] (.rw 1000))):CallsT P f args [] (jv [] (.sl els)):=by
 refine⟨fun F Li vs u n y=>?_⟩;obtain rfl:Li=[]:=List.length_eq_zero_iff.1 u;have q:=h.out F [] vs rfl n y;refine⟨q.ent,iB.aao,fun w s=>Calls.mono (q.run w s) ?_⟩;rintro e w' ⟨v,F',Lo,rfl,l,p,Mo,c,q1,z,q3,q4,rfl,rfl⟩;have m:aJ (inp Lo) (fun _=>.v undef) (⟨#[],[]⟩:Act):=by
  refine⟨fun j=>?_,fun j k off e=>(by cases e),fun j a i e=>(by cases e)⟩;simp[conc]
 obtain⟨F2,L2,x,g2,r,g4,g5⟩:=tV (G:=fun _=>none) (k:=1000) l m (τ:=fun _=>.any) ⟨z,fun j=>trivial,fun k g t e=>(by cases e),l.glob⟩ (show(jG [TO.row t sz els]).get 1000=some (.row t sz els) from rfl);refine⟨v,F2,[],rfl,x.part (fun k o e=>by cases e),?_,[],.sl els,rfl,fun k=>trivial,?_,fun i g t cs e=>(by cases e),rfl,rfl⟩
 ·have d:=p.trans r;exact⟨d.le,d.os,d.tape,d.output,d.size,d.same,d.frz,fun b ⟨k,o,e,_⟩=>(by cases e)⟩
 ·have:=g5 q3;have e:(C.rw 1000).frz 1000 els=.sl els:=rfl;rw[e] at this;simp only[Rel] at this ⊢;exact this
end Go.Fr.T
namespace Go.Fr
open Go Go.RowKit
def Loc.aap (L L':Loc):Prop:=∃r:Nat->Nat,(∀k o,L'.get k=some o->L.get (r k)=some o\/∃t sz,o=.row (.slice none 0 0) t sz 0 [])/\∀k a,(L'.get k).isSome=true->(L'.get a).isSome=true->r k=r a->k=a
section
variable {F:aF}{L:Loc}{w:World}
theorem St.aap {L':Loc}(a:St F L w) (h:L.aap L'):St F L' w:=by
 obtain⟨r,h,hi⟩:=h;refine⟨a.frz,fun k o e=>?_,fun k o g e hb=>?_,fun k j o o' g e f hb b=>?_,a.glob⟩
 ·rcases h k o e with c | ⟨t,sz,rfl⟩
  ·exact a.own _ o c
  ·exact World.ownsRow_nil w 0 t sz
 ·rcases h k o e with c | ⟨t,sz,rfl⟩
  ·exact a.off _ o g c hb
  ·cases hb
 ·rcases h k o e with c | ⟨t,sz,rfl⟩
  ·rcases h j o' f with d | ⟨m,l,rfl⟩
   ·exact hi k j (by rw[e];rfl) (by rw[f];rfl) (a.sep _ _ o o' g c d hb b)
   ·cases b
  ·cases hb
theorem wE {L':Loc}(h:L.aap L'):Step F L w F L' w:=by
 obtain⟨r,h,hi⟩:=h;exact⟨aF.le_refl F,rfl,rfl,rfl,aa8 _,fun _ _ _=>rfl,fun b h=>.inl h,fun b ⟨k,o,e,hb⟩=>by
  rcases h k o e with a | ⟨t,sz,rfl⟩
  ·exact .inl ⟨_,o,a,hb⟩
  ·cases hb⟩
end
structure Pd (body:aF->Loc->Env->dm->Prop) (asg:List Nat) (F:aF) (L:Loc) (ρ:Env):Prop where
 out:∃(σ:Type) (x0:σ) (Inv:σ->aF->Prop) (ls:List Nat) (lv:σ->List Value) (Lf:σ->Loc) (μ:σ->Nat),
  Inv x0 F/\holds ls ((lv x0).map .v) ρ/\L.aap (Lf x0)/\(∀x,L.keeps (Lf x)) /\
  ∀x F' jk,F.le F'->Inv x F'->Real F' (Lf x)->body F' (Lf x) (puts ls ((lv x).map .v) (iK asg jk ρ)) fun F'' L'' ρ'' =>
   ∃x',Inv x' F''/\holds ls ((lv x').map .v) ρ''/\L''.aap (Lf x')/\μ x'<μ x
def iI (P:Program):aI->(Nat->dm)->dm->dm->dm
 | .skip,_,_,N,F,L,ρ=>N F L ρ
 | .reg d,_,_,N,F,L,ρ=>bh P d F L ρ N
 | .regD d,_,_,N,F,L,ρ=>bh P d F L ρ N
 | .regX ss,_,_,N,F,L,ρ=>(∀s∈ss,∀k,uy s=some k->L.get k=none)/\bF P (fun _ _ _=>False) (BM ss) ss F L ρ N
 | .seq a b,E,R,N,F,L,ρ=>iI P a E R (fun F L ρ=>iI P b E R N F L ρ) F L ρ
 | .cond c a b,E,R,N,F,L,ρ=>match ev ρ c with
  | .v (.bool t)=>xS t (iI P a E R N F L ρ) (iI P b E R N F L ρ)
  | _=>False
 | .block id c,E,R,N,F,L,ρ=>iI P c (fun j=>match Nat.beq j id with | true=>N | false=>E j) R N F L ρ
 | .loop asg c,E,R,_,F,L,ρ=>Pd (fun F L ρ K=>iI P c E R K F L ρ) asg F L ρ
 | .exit id,E,_,_,F,L,ρ=>E id F L ρ
 | .ret,_,R,_,F,L,ρ=>R F L ρ
section
variable {P:Program}{Q:Exit->Act->World->Prop}{K:dm}
theorem Ed {ss:List aB}{E:Nat->dm}{R N:dm}{F:aF}{L:Loc}{ρ:Env}{a:Act}{w:World}:∀(ks:List Nat),St F L w->aJ L ρ a->iI P (zT ks (.regD ss)) E R N F L ρ ->
  ∃F' L' ρ',St F' L' w/\aJ L' ρ' a/\Step F L w F' L' w/\bh P ss F' L' ρ' N
 | [],b,d,h=>⟨F,L,ρ,b,d,Step.refl _ _ _,by simpa only[zT,iI] using h⟩
 | k::l,b,d,h=>by
  simp only[zT,iI] at h;have j:bh P ((k::l).map aB.frz++[]) F L ρ (fun F L ρ=>bh P ss F L ρ N):=by simpa only[aaU,aaX] using h
  obtain⟨F1,L1,c,m,f,n,e⟩:=uQ (k::l) b d j;simp only[bh] at e;exact⟨F1,L1,c,m,f,n,e⟩
theorem qx {A:cF}:∀(c:Code) {sc:aI},low P A c=some sc->∀{E:Nat->dm}{R N:dm}{F:aF}{L:Loc}{ρ:Env}{a:Act}{w:World},St F L w->aJ L ρ a->a.tmps.size=A.n ->
  iI P sc E R N F L ρ->c.wp P (QQ A.n F L w a (dh c) (fun _ _ _=>False) E R N) a w:=by
 intro c
 induction c with
 | skip =>
  intro sc b E R N F L ρ a w q o s d;simp only[low,w7] at b;subst b;exact wp_skip ⟨F,L,ρ,q,o,s,rfl,Step.refl _ _ _,fun _ _=>rfl,d⟩
 | label l =>
  intro sc b E R N F L ρ a w q o s d;simp only[low,w7] at b;subst b;exact wp_label ⟨F,L,ρ,q,o,s,rfl,Step.refl _ _ _,fun _ _=>rfl,d⟩
 | exit id =>
  intro sc b E R N F L ρ a w q o s d;simp only[low,w7] at b;subst b;exact wp_exit ⟨F,L,ρ,q,o,s,rfl,Step.refl _ _ _,fun _ _=>rfl,d⟩
 | ret =>
  intro sc b E R N F L ρ a w q o s d;simp only[low,w7] at b;subst b;exact wp_ret ⟨F,L,ρ,q,o,s,rfl,Step.refl _ _ _,fun _ _=>rfl,d⟩
 | region r df bb =>
  intro sc b E R N F L ρ a w q o s d;cases bb with
  | false =>
   simp only[low] at b;split at b
   case h_2=>cases b
   rename_i ss bo;injection b with b;subst b
   simp only[iI] at d;exact wp_region (oK _ bo q o s d fun a' w' h=>h)
  | true =>
   simp only[low] at b;split at b
   case h_2=>cases b
   rename_i is cl ss h1 z;split at b
   case h_2 =>
    split at b
    case h_2=>cases b
    rename_i h3;injection b with b;subst b
    simp only[iI] at d;have h4:ur A.ord r=is:=by simp only[ur,h1]
    rw[h4] at z;exact qZ z h3 q o s d.1 d.2 (fun a' w' h=>h) fun v ch a' w' F' L' _ _ _ _ _ _ h=>h.elim
   rename_i h0;split at b
   case h_2=>cases b
   rename_i h3;injection b with b;subst b
   obtain⟨F1,L1,ab,am,ay,aa,d⟩:=Ed _ q o d;have h4:ur A.ord r=is:=by simp only[ur,h1]
   rw[h4] at z;exact tH z h3 am ay s d fun a' w' h=>fw.after (asg1:=[]) aa rfl (fun _ _=>rfl) h (fun _ h=>p7 h List.not_mem_nil) (fun _ h=>h)
 | seq x y an ao =>
  intro sc b E R N F L ρ a w q o s d;simp only[low] at b;split at b
  case h_2=>cases b
  rename_i h1 z;injection b with b;subst b
  simp only[iI] at d;refine wp_seq (wp_mono (an h1 q o s d) ?_);intro e p w1 m;cases e with
  | normal =>
   obtain⟨F1,L1,ab,g1,g2,g3,g4,g5,g6,g7⟩:=m;refine wp_mono (ao z g1 g2 g3 g7) ?_;intro e2 a2 w2 ax;cases e2<;>first
    | exact fw.after g5 g4 g6 ax (fun j h=>xo.2 (.inl h)) (fun j h=>xo.2 (.inr h))
    | exact ax
    | exact(noPan ax).elim
  | exit id=>exact m.mono fun j h=>xo.2 (.inl h)
  | ret=>exact m.mono fun j h=>xo.2 (.inl h)
  | goto l=>exact m
  | panic c=>exact(noPan m).elim
  | outgrown=>exact m
 | cond c x y an ao =>
  intro sc b E R N F L ρ a w q o s d;simp only[low] at b;split at b
  case h_2=>cases b
  rename_i h0 h1 z;injection b with b;subst b
  simp only[iI] at d;split at d
  case h_2=>exact d.elim
  rename_i t ht;have hc:a.eval c=.bool t:=by rw[aL h0 o,bN ht]
  refine wp_cond hc ?_;cases t
  ·simp only[xS] at d;refine wp_mono (ao z q o s d) ?_;intro e p w1 m;cases e<;>first
    | exact m.mono fun j h=>xo.2 (.inr h)
    | exact(noPan m).elim
    | exact m
  ·simp only[xS] at d;refine wp_mono (an h1 q o s d) ?_;intro e p w1 m;cases e<;>first
    | exact m.mono fun j h=>xo.2 (.inl h)
    | exact(noPan m).elim
    | exact m
 | block id x ih =>
  intro sc b E R N F L ρ a w q o s d;simp only[low] at b;split at b
  case h_2=>cases b
  rename_i h1;injection b with b;subst b
  simp only[iI] at d;refine wp_block (wp_mono (ih h1 q o s d) ?_);intro e p w1 m;cases e with
  | exit j =>
   simp only[Exit.inBlock];simp only[QQ] at m
   by_cases hj:j=id
   ·subst hj;have hb:Nat.beq j j=true:=by simp
    rw[hb] at m;rw[o6 rfl];exact m
   ·have hb:Nat.beq j id=false:=by
     cases h:Nat.beq j id with
     | true=>exact p7 (v8 h) hj
     | false=>rfl
    rw[hb] at m;rw[vv hj];exact m
  | normal=>exact m
  | ret=>exact m
  | goto l=>exact m
  | panic c=>exact(noPan m).elim
  | outgrown=>exact m
 | loop x ih =>
  intro sc b E R N F L ρ a w q o s d;simp only[low] at b;split at b
  case h_2=>cases b
  rename_i sx h1;injection b with b;subst b
  simp only[iI] at d;obtain⟨σ,x0,Inv,ls,lv,Lf,μ,i0,i1,i2,i3,i4⟩:=d
  -- the frame at a loop's ag
  have ag:∀(y:σ) (F1:aF) (L1:Loc) (ab:Env) (p:Act) (w1:World),(∀t,p.tmps.getD t undef=conc L1 (ab t))->(∀j,j∉dh x->p.tmps.getD j undef=a.tmps.getD j undef)->holds ls ((lv y).map .v) ab ->
    aJ (Lf y) (puts ls ((lv y).map .v) (iK (dh x) (fun j=>p.tmps.getD j undef) ρ)) p:=by
   intro y F1 L1 ab p w1 ci bt hh;have bi:∀j k off,iK (dh x) (fun j=>p.tmps.getD j undef) ρ j=.own k off->j∉dh x/\ρ j=.own k off:=by
    intro j k off e;simp only[iK] at e;split at e
    ·cases e
    ·rename_i hm;exact⟨fun h=>(by rw[dn.2 h] at hm;cases hm),e⟩
   have cb:∀j ad i,iK (dh x) (fun j=>p.tmps.getD j undef) ρ j=.el ad i->ρ j=.el ad i:=by
    intro j ad i e;simp only[iK] at e;split at e
    ·cases e
    ·exact e
   refine⟨fun j=>?_,fun j k off e=>?_,fun j ad i e=>?_⟩
   ·rcases tE ls (lv y) ab (iK (dh x) (fun j=>p.tmps.getD j undef) ρ) ci hh j with⟨v,z,h3⟩ | z
    ·rw[z,h3];rfl
    ·rw[z];simp only[iK];split
     ·rfl
     ·rename_i hm;have hj:j∉dh x:=fun h=>by rw[dn.2 h] at hm;cases hm
      rw[bt j hj,o.eq j];cases e:ρ j with
      | v u=>rfl
      | el u i=>rfl
      | own k off =>
       obtain⟨g,ty,cs,hg⟩:=o.own j k off e;obtain⟨cs',aw⟩:=m7 (i3 y) hg;simp only[conc,hg,aw]
   ·rcases ku ls (lv y) (iK (dh x) (fun j=>p.tmps.getD j undef) ρ) j with z | ⟨v,z⟩
    ·rw[z] at e;obtain⟨_,e'⟩:=bi j k off e;obtain⟨g,ty,cs,hg⟩:=o.own j k off e';obtain⟨cs',aw⟩:=m7 (i3 y) hg;exact⟨g,ty,cs',aw⟩
    ·rw[z] at e;cases e
   ·rcases ku ls (lv y) (iK (dh x) (fun j=>p.tmps.getD j undef) ρ) j with z | ⟨v,z⟩
    ·rw[z] at e;exact o.el j ad i (cb j ad i e)
    ·rw[z] at e;cases e
  refine vn (fun n p w1=>∃(y:σ) (F1:aF),n=μ y/\F.le F1/\Inv y F1/\St F1 (Lf y) w1/\p.tmps.size=A.n/\p.defers=a.defers/\Step F L w F1 (Lf y) w1/\(∀j,j∉dh x->p.tmps.getD j undef=a.tmps.getD j undef) /\
   aJ (Lf y) (puts ls ((lv y).map .v) (iK (dh x) (fun j=>p.tmps.getD j undef) ρ)) p) ?_ ?_
  ·exact⟨_,x0,F,rfl,aF.le_refl F,i0,q.aap i2,s,rfl,wE i2,fun _ _=>rfl,ag x0 F L ρ a w o.eq (fun _ _=>rfl) i1⟩
  ·rintro n p w1 ⟨y,F1,rfl,bk,bd,am,cd,av,aa,ae,ay⟩;refine wp_mono (ih h1 am ay cd (i4 y F1 _ bk bd ⟨w1,am⟩)) ?_;intro e a2 w2 m;cases e with
   | normal =>
    obtain⟨F2,L2,bs,g1,g2,g3,g4,g5,g6,⟨y',k1,k2,k3,k4⟩⟩:=m;have ap:∀j,j∉dh x->a2.tmps.getD j undef=a.tmps.getD j undef:=fun j hj=>by rw[g6 j hj,ae j hj]
    exact⟨μ y',k4,y',F2,rfl,aF.le_trans bk g5.le,k1,g1.aap k3,g3,g4.trans av,(aa.trans g5).trans (wE k3),ap,ag y' F2 L2 bs a2 w2 g2.eq ap k2⟩
   | exit j=>exact fw.after aa av ae m (fun j h=>h) (fun j h=>h)
   | ret=>exact fw.after aa av ae m (fun j h=>h) (fun j h=>h)
   | goto l=>exact m
   | panic c=>exact(noPan m).elim
   | outgrown=>exact m
 | rangeFunc f ps x y an ao=>intro sc b;simp only[low] at b;cases b
 | scope x ih =>
  intro sc b E R N F L ρ a w q o s d;simp only[low] at b;refine wp_scope_straight (wp_mono (ih b q o s d) ?_);intro e p w1 m;cases e<;>exact m
 | goto l=>intro sc b;simp only[low] at b;cases b
 | refuse cY=>intro sc b;simp only[low] at b;cases b
theorem Fw {f:FuncId}{fn:Func}{c:Code}{sc:aI}{A:cF}{rs:List RV}{F:aF}{Lin:List Own}{R:aF->List Own->Value->Prop}(svs:List SV)
  (hf:P.funcs[f]?=some fn) (hb:fn.body=some c) (hname:(fn.name == "runtime.NumGoroutine")=false) (hl:low P A c=some sc) (hn:fn.ntmps=A.n) (hres:qC P fn.results.toList=some rs) (hlen:svs.length<=A.n)
  (hown:∀v∈svs,(∀k off,v=.own k off->∃g ty cs,(inp Lin).get k=some (.box g ty cs))/\(∀ad j,v=.el ad j->ad≠none))
  (hmono:∀F G L v,F.le G->R F L v->R G L v)
  (h:iI P sc (fun _ _ _ _=>False) (fun F' L' ρ'=>mD L' ρ' rs fun vs=>CW F' L' (iC vs) R) (fun F' L' ρ'=>mD L' ρ' rs fun vs=>CW F' L' (iC vs) R) F (inp Lin) (uj 0 svs)) :
  CallsA P f (svs.map (conc (inp Lin))).toArray F Lin R:=by
 refine⟨⟨fn,hf,by rw[hb];rfl,hname⟩,hmono,fun w hs=>?_⟩;refine calls_of_wp hf hb ?_;have he:aJ (inp Lin) (uj 0 svs) {tmps:=(svs.map (conc (inp Lin))).toArray++Array.replicate (fn.ntmps-(svs.map (conc (inp Lin))).toArray.size) undef,defers:=[]}:=by
  have hin:∀t,uj 0 svs t=.v undef\/uj 0 svs t∈svs:=by
   intro t;rw[rf];simp only[abl,abd,Nat.sub_zero];cases e:svs[t]? with
   | none=>exact .inl rfl
   | some v=>exact .inr (aaS e)
  refine⟨fun t=>?_,fun t k off e=>?_,fun t ad j e=>?_⟩
  ·rw[rf];simp only[abl,abd,Nat.sub_zero,abg];cases e:svs[t]? with
   | some v =>
    have hlt:t<svs.length:=(xD.1 e).1;rw[Array.getElem?_append_left (by simpa using hlt)];simp[e]
   | none =>
    have hge:svs.length<=t:=abE.1 e;rw[Array.getElem?_append_right (by simpa using hge)];simp only[Array.getElem?_replicate,Option.getD_none,conc];split<;>rfl
  ·rcases hin t with h1 | h1
   ·rw[h1] at e;cases e
   ·exact(hown _ h1).1 k off e
  ·rcases hin t with h1 | h1
   ·rw[h1] at e;cases e
   ·exact(hown _ h1).2 ad j e
 refine wp_mono (qx c hl hs he (by simp[hn];omega) h) ?_;intro e a' w' hq;have fin:∀{a0:Act},fw A.n F (inp Lin) w a0 (dh c) (fun F' L' ρ'=>mD L' ρ' rs fun vs=>CW F' L' (iC vs) R) a' w'->a'.defers=a0.defers/\∃v,(results fn a'.tmps).run P w'=.ok v w' /\
   ∃v' F' Lo,Ending.returned v=.returned v'/\St F' (inp Lo) w'/\Step F (inp Lin) w F' (inp Lo) w'/\R F' Lo v':=by
  rintro a0 ⟨F',L',ρ',g1,g2,g3,g4,g5,g6,hret⟩;obtain⟨vs,hm,⟨ko,Lo,k1,k2,k3⟩⟩:=q9 g1 g2 hres hret;refine⟨g4,iC vs,?_,iC vs,F',Lo,rfl,g1.handed k1 k2,?_,k3⟩
  ·rw[tJ];rw[Array.mapM_eq_mapM_toList];simp only[Sem.run_bind,Sem.run_map];rw[hm];simp only[Result.andThen_ok,Sem.run_pure];congr 1
   match vs with
   | []=>rfl
   | [t]=>rfl
   | t::u::r =>
    simp only[iC];rw[dif_neg (by simp)]
  ·obtain⟨e1,e2⟩:=fo k1;refine⟨g5.le,g5.os,g5.tape,g5.output,g5.size,g5.same,g5.frz,fun b hb=>g5.own b ?_⟩;obtain⟨j,p,e,hb⟩:=hb;rw[bg] at e;split at e
   case isFalse=>cases e
   have hlt:j-1000<Lo.length:=(xD.1 e).1;have hk:ko[j-1000]?=some (ko[j-1000]'(by omega)):=w8 (by omega);exact⟨_,p,by rw[e2 _ _ hk];exact e,hb⟩
 cases e with
 | normal=>exact fin hq
 | ret=>exact fin hq
 | exit j=>obtain⟨F',L',ρ',_,_,_,_,_,_,h⟩:=hq;exact h.elim
 | goto l=>exact hq.elim
 | panic c=>exact(noPan hq).elim
 | outgrown=>exact hq.elim
theorem gY {f:FuncId}{fn:Func}{sc:aI}{A:cF}{rs:List RV}{F:aF}{Lin:List Own}{R:aF->List Own->Value->Prop}{args:Array Value}(svs:List SV)
  (r:P.funcs[f]?=some fn) (a:aC P A fn=some (sc,A.n,rs,false)) (e:Nat.ble svs.length A.n=true) (b:args=(svs.map (conc (inp Lin))).toArray)
  (l:∀v∈svs,(∀k off,v=.own k off->∃g ty cs,(inp Lin).get k=some (.box g ty cs))/\(∀m j,v=.el m j->m≠none))
  (d:∀F G L v,F.le G->R F L v->R G L v)
  (h:iI P sc (fun _ _ _ _=>False) (fun F' L' ρ'=>mD L' ρ' rs fun vs=>CW F' L' (iC vs) R) (fun F' L' ρ'=>mD L' ρ' rs fun vs=>CW F' L' (iC vs) R) F (inp Lin) (uj 0 svs)) :
  CallsA P f args F Lin R:=by
 subst b;unfold aC at a;split at a
 case h_2=>cases a
 rename_i c hb;split at a
 case h_2=>cases a
 rename_i s o q p;injection a with a
 injection a with e1 e2
 injection e2 with e2 e3
 injection e3 with e3 e4
 subst e1 e3;exact Fw svs r hb e4 q e2 p (aa3 e) l d h
end
end Go.Fr
namespace Go.Fr.T
open Go Go.RowKit Go.Fr
def eD (p:List UInt8):List Value:=p.map fun b=>Value.int .u8 b.toNat
theorem pK (p:List UInt8):(eD p).length=p.length:=by simp[eD]
theorem Iz (p q:List UInt8):eD (p++q)=eD p++eD q:=by simp[eD]
theorem nT (p:List UInt8):∀u∈eD p,u.oneCell'=true:=by
 intro u h;simp only[eD,abk] at h;obtain⟨b,_,rfl⟩:=h;rfl
section
variable {F:aF}{L:Loc}
theorem mZ:∀{p:List UInt8}{xs:List Value},aP F 1 (ak p) xs->xs=eD p
 | [],xs,h=>by simpa[ak,aP,eD] using h
 | b::p,xs,h=>by
  simp only[ak,aaU,aP] at h;obtain⟨vs,d,rfl,k,j,a,e⟩:=h;simp only[aG,Rel] at a;obtain⟨v,c,rfl,⟨rfl,_⟩,rfl⟩:=a;rw[mZ (p:=p) e];rfl
theorem qG (p:List UInt8):aP F 1 (ak p) (eD p):=mQ p
theorem zj {p:List UInt8}{v:Value}(h:Rel F L (.sl (ak p)) v):∃a c,v=.slice a p.length c/\p.length<=c/\p.length<=maxLen/\(cg F a 0 (eD p)\/(p.length=0/\eD p=[])):=by
 have o:(ak p).length=p.length:=by simp[ak]
 have d:=h;simp only[Rel] at d;obtain⟨a,c,j,e,m,t,sz,r⟩:=d;obtain⟨xs,s,k,q⟩:=jr (sz:=1) r (fun es l=>by simp only[ak,abk] at l;obtain⟨b,_,rfl⟩:=l;rfl);have n:=mZ q;subst n;rw[o] at j e m k;exact⟨a,c,j,e,m,k⟩
theorem vW:Rel F L (.sl []) (.slice none 0 0):=by
 simp only[Rel];exact⟨none,0,rfl,aa8 _,abl _,fun _=>by simp,0,by simp[gS]⟩
theorem Ee {a:Option Addr}{xs:List Value}{m:Nat}(h:cg F a 0 xs):cg F a 0 (xs.take m):=by
 obtain⟨j,d,t,k,e,hb,c,l⟩:=h;refine⟨j,d,t,k,e,hb,c,fun i v b=>l i v ?_⟩;rw[abo] at b;split at b
 ·exact b
 ·cases b
theorem m9 {asg:List Nat}{c:Nat->Value}{ρ:Env}:∀{us:List Nat}{b:List SV},holds us b ρ->(us.all fun j=>!gI asg j)=true->puts us b (iK asg c ρ)=iK asg c ρ
 | [],_,_,_=>rfl
 | _::_,[],_,_=>rfl
 | k::ks,v::vs,h,a=>by
  simp only[List.all_cons,yo] at a;simp only[puts];rw[m9 h.2 a.2];have d:gI asg k=false:=by simpa using a.1
  funext j
  simp only[put];cases hb:Nat.beq j k with
  | false=>rfl
  | true =>
   have:=v8 hb;subst this;simp only[iK,d];exact h.1.symm
variable {P:Program}{f:Nat}{vs:List Value}{K:aF->Loc->Value->Prop}
end
end Go.Fr.T
namespace Go.Fr.Dm
open Go Go.RowKit Go.Fr Go.Fr.T Go.Fr.Api
def s9 (h x:Int):Int:=(h*1000003+x+1).tmod 2147483647
def UK (l:List Int):Int:=l.foldl s9 7
theorem zo {h x:Int}(a:0<=h) (b:0<=x):0<=s9 h x/\s9 h x<2147483647:=by
 have:0<=h*1000003+x+1:=by omega
 rw[s9,Int.tmod_eq_emod_of_nonneg this];exact⟨Int.emod_nonneg _ (by omega),Int.emod_lt_of_pos _ (by omega)⟩
def CF (bs:List UInt8):List Int:=bs.map fun b=>(b.toNat:Int)
theorem Fit.to {k:IntKind}{n m:Int}{K:Int->Prop}(h:k.wrap n=m) (a:K m):Fit k n K:=⟨by rw[h];exact a⟩
def UL (n:Nat):List UInt8:=if h:n<128 then[UInt8.ofNat n] else UInt8.ofNat (128+n % 128)::UL (n / 128)
def zig (n:Int):Nat:=if n<0 then(-2*n-1).toNat else(2*n).toNat
def Yp (n:Int):List UInt8:=UL (zig n)
def SG (s:ByteArray):List UInt8:=Yp s.size++s.data.toList
def QA (l:List ByteArray):List UInt8:=l.flatMap SG
inductive Zr:Option Prog->C->Prop
 | nil:Zr none .nilp
 | prog (q:Prog):Zr (some q) (.pt (TU q) 0)
theorem aQ (a:List UInt8):(ak a).length=a.length:=by simp[ak]
theorem gO {a:List UInt8}:∀es∈ak a,es.length=1:=by
 intro es h;simp only[ak,abk] at h;obtain⟨b,_,rfl⟩:=h;rfl
def elem {a:Type}(l:List a) (i:Int):Option a:=if i<0 then none else l[i.toNat]?
def nm (l:List ByteArray) (i:Int):ByteArray:=(elem l i).getD ⟨#[]⟩
def GV (a:Option Prog) (k i:Int):Option (List UInt8) :=
 match a with
 | none=>none
 | some q=>if k=2 then(elem q.datas i).map fun d=>QA [nm q.modules d.module,d.name] else none
def zp:Se:=⟨⟨#[]⟩,0,0,[],0,.mk 0 0 [],[],[],[]⟩
theorem sJ {a b:List UInt8}{K:Prop}(h:a.length+b.length<=140737488355328) (k:K):tK (ak a) (ak b) 1 1 K :=
 ⟨gO,by rw[aQ,aQ];simp[maxLen];omega,by rw[aQ,aQ];simp;omega,k⟩
theorem UD {a b:List UInt8}{n:Nat}(h:(a++b).length<=n):a.length<=n/\b.length<=n:=by
 simp only[aaR] at h;omega
theorem Ai {a b:List (List C)}{m n:Nat}(h:a.length=m) (k:b.length=n):(a++b).length=m+n:=by rw[aaR,h,k]
theorem FA {q:Prog}{k i:Int}{d:Api.Data}(a:k=2) (h:elem q.datas i=some d):GV (some q) k i=some (SG (nm q.modules d.module)++SG d.name):=by
 unfold GV;simp only[a,abd,h,abF,QA,List.flatMap_cons,List.flatMap_nil,aaX]
theorem LF {els:List (List C)}{j off n:Nat}{es0:List C}{K:List C->Prop}(h:els[j]?=some es0) (b:dM ((es0.drop off).take n) n=true) (k:K es0):Nh els j off n fun _=>∀es,els[j]?=some es->K es :=
 ⟨es0,h,b,fun es a=>by rw[h] at a;injection a with a;rw[<-a];exact k⟩
theorem iw {a:Type}{g:a->G}{x:a}:∀{l:List a},x∈l->(g x).bulk<=G.aae (l.map g)
 | y::l,h=>by
  simp only[aaU,G.aae];rcases aaQ.1 h with rfl | h
  ·omega
  ·have:=iw (g:=g) h;omega
end Go.Fr.Dm
namespace Go.Fr.T
open Go Go.RowKit Go.Fr
section
variable {F:aF}{w:World}
end
theorem GW (L:Loc):∀(l:List TO) (n:Nat),∃Lo:List Own,wq L (jF n l)=lK n Lo/\Lo.length=l.length/\∀i p,i<l.length->L.get (n+i)=some p->Lo[i]?=some p
 | [],n=>⟨[],rfl,rfl,fun i p h _=>p7 h (by simp)⟩
 | o::l,n=>by
  obtain⟨Lo,c,b,d⟩:=GW L l (n+1);cases o with
  | row t sz els =>
   cases e:L.get n with
   | none=>exact⟨.row (.slice none 0 0) t sz 0 []::Lo,by simp only[jF,wq,lK,c,e],by simp[b],fun i p hi a=>by
     cases i with
     | zero=>rw[Nat.add_zero,e] at a;cases a
     | succ i=>exact d i p (by simpa using hi) (by rw[<-a];congr 1;omega)⟩
   | some q=>exact⟨q::Lo,by simp only[jF,wq,lK,c,e],by simp[b],fun i p hi a=>by
     cases i with
     | zero=>rw[Nat.add_zero,e] at a;exact a
     | succ i=>exact d i p (by simpa using hi) (by rw[<-a];congr 1;omega)⟩
  | _ =>
   cases e:L.get n with
   | none=>exact⟨.row (.slice none 0 0) 0 0 0 []::Lo,by simp only[jF,wq,lK,c,e],by simp[b],fun i p hi a=>by
     cases i with
     | zero=>rw[Nat.add_zero,e] at a;cases a
     | succ i=>exact d i p (by simpa using hi) (by rw[<-a];congr 1;omega)⟩
   | some q=>exact⟨q::Lo,by simp only[jF,wq,lK,c,e],by simp[b],fun i p hi a=>by
     cases i with
     | zero=>rw[Nat.add_zero,e] at a;exact a
     | succ i=>exact d i p (by simpa using hi) (by rw[<-a];congr 1;omega)⟩
theorem CallsT.gives {P:Program}{f:Nat}{args:List C}{Lin Lin1:List TO}{R:List TO->C->Prop}(h:CallsT P f args Lin1 R) (n:gives (jG Lin) (jG Lin1) (jG Lin1)) (hl:Lin.length<=Lin1.length):CallsT P f args Lin R:=by
 refine⟨fun F Li vs h1 j h3=>?_⟩;obtain⟨Li1,d,k2,x⟩:=GW (inp Li) Lin1 1000;have d:wq (inp Li) (jG Lin1)=inp Li1:=d;have a:∀(i:Nat) p,Li[i]?=some p->Li1[i]?=some p:=by
  intro i p e;have hi:=(xD.1 e).1;exact x i p (by omega) (by rw[bg,o6 (by omega),show 1000+i-1000=i by omega];exact e)
 have b:Ext (inp Li) (inp Li1):=by
  intro k o e;rw[bg] at e;split at e
  case isFalse=>cases e
  rename_i z;exact⟨o,by rw[bg,o6 z];exact a _ _ e,Own.aah o⟩
 have q:=uN j n;rw[d] at q;have l:=h.out F Li1 vs k2 q (h3.ext (aF.le_refl F) b);refine⟨l.ent,iB.aao,fun w u=>?_⟩;obtain⟨m,r⟩:=uO u j n;rw[d] at m r;refine Calls.mono (l.run w m) ?_;rintro e w' ⟨v,F',Lo,rfl,q1,q2,Mo,c,r1,s,r3,y,r5⟩;exact⟨v,F',Lo,rfl,q1,r.trans q2,Mo,c,r1,s,r3,fun i g t cs e=>y i g t cs (a _ _ e),r5⟩
theorem UN {L:TL}(k t sz:Nat) {Lin:List TO}{Lo:List TO}(b:L.get k=none) (hb:aW Lin (List.range' 1000 Lin.length) [k]=true) (c:Lo=[.row t sz []]):pF Lin L .nils (jv Lo (.rw 1000)):=by
 subst c;have a:Nat.beq k k=true:=by simp
 refine⟨[],[k],[(k,.row t sz [])],.nils,.rw k,[.row t sz []],rfl,.inr ⟨⟨.inr ⟨b,t,sz,rfl⟩,trivial⟩,.inr (.inr (.inr (.inl ⟨rfl,k,t,sz,rfl,b,?_⟩)))⟩,?_,rfl,hb,fun _=>⟨rfl,?_⟩⟩
 ·simp only[TL.get,a]
 ·simp only[TL.sub,TL.get,a]
 ·simp only[C.aar,C.ren,C.mp,uE,cn,a]
end Go.Fr.T
