/- Part of the proofs of the statements of this seat. -/
import Derived.Test.YtnlegbokpofcaaaGreatDoorFW2
import Derived.Test.YtnlegbokpofcaaaGreatDoorFW1
import Derived.Tactics
import Derived.Tactics2
import Derived.Defers
import Derived.Recover
import Derived.OneCell
import Derived.ChangeArms
import Derived.DataReads
import Derived.Carry
import Derived.ChangeSame
import Derived.WalkKit
import Derived.ProofKit
import Derived.OpenShut
set_option maxRecDepth 10000
set_option linter.unusedVariables false
set_option linter.unusedSimpArgs false
namespace Go.Fr.T
open Go Go.RowKit Go.Fr
section
variable {P:Program}{PS:qd}{G:Nat->Option (Nat×TypeId)}{F:aD}{L:Loc}{ρ:Env}{M:TL}{τ:aX}{a:Act}{w:World}{Q:Exit->Act->World->Prop}{o:Oper}
theorem ja {L2:Loc}(d:aG L ρ a) (b:aG L2 ρ a):∀xs:List X,bq L2 ρ xs=bq L ρ xs
 | []=>rfl
 | x::xs=>by
  have:val L2 ρ x=val L ρ x:=by
   cases x with
   | t n=>exact(b.eq n).symm.trans (d.eq n)
   | c v=>rfl
   | fn f=>rfl
   | mt nm n =>
    simp only[val,ev];cases ρ n<;>rfl
  simp only[bq,this,ja d b xs]
theorem lI {f:Nat}{args:List C}{vs:List Value}{K:TL->aX->C->Prop}(n:St F L w) (l:aG L ρ a) (r:TS G F L ρ M τ) (ha:aF F L args vs) (h:qB P f args M τ K) :
  ∃F' L',St F' L' w/\aG L' ρ a/\Step F L w F' L' w/\dH P f vs F' L' (fun F' L' v=>∃M' b c,TS G F' L' ρ M' b/\aQ F' L' c (.v v)/\K M' b c):=by
 cases h with
 | inpl ks Lin R h1 h2 h3 h4=>exact⟨F,L,n,l,Step.refl _ _ _,uO r ha h1 h2 h3 h4⟩
 | mk h =>
 obtain⟨fz,ks,ko,h⟩:=h;obtain⟨F1,L1,M1,am,d,u,x,t,s,g5,M2,Lin,R,e,k,z,p,y,q,j,m⟩:=pF n l r ha h;rcases e with rfl | ⟨e,k2⟩
 ·exact⟨F1,_,u,x,t,ru s g5 k z p y q j m⟩
 ·obtain⟨e1,e2,e3,e4,e5⟩:=qI u x s e k2;exact⟨F1,_,e1,e2,t.trans e3,ru e4 (g5.ext (aD.le_refl F1) e5) k z p y q j m⟩
theorem pG {f:Nat}{args:List C}{vs:List Value}{K:TL->aX->C->Prop}(r:St F L w) (p:aG L ρ a) (u:TS G F L ρ M τ) (ha:aF F L args vs) (h:pq P PS f args M τ K) (b:PS.st=none) :
  ∃F' L',St F' L' w/\aG L' ρ a/\Step F L w F' L' w/\fD P (yE G PS) f vs F' L' (fun F' L' v=>∃M' e c,TS G F' L' ρ M' e/\aQ F' L' c (.v v)/\K M' e c):=by
 cases h with
 | inpl ks Lin R Pp h1 h2 hh h3 hp h4=>exact⟨F,L,r,p,Step.refl _ _ _,DQ u ha h1 h2 h3 hp b hh h4⟩
 | mk h =>
 obtain⟨fz,ks,ko,h⟩:=h;obtain⟨F1,L1,M1,ap,k,z,g2,y,x,g5,M2,Lin,R,Pp,l,n,k4,s,k6,t,d,m,j,q⟩:=pF r p u ha h;rcases l with rfl | ⟨l,k2⟩
 ·exact⟨F1,_,z,g2,y,zI x g5 n k4 s k6 t d m j b q⟩
 ·obtain⟨e1,e2,e3,e4,e5⟩:=qI z g2 x l k2;exact⟨F1,_,e1,e2,y.trans e3,zI e4 (g5.ext (aD.le_refl F1) e5) n k4 s k6 t d m j b q⟩
theorem pH {f:Nat}{args:List C}{vs:List Value}{K:TL->aX->C->Prop}{st:TL->Value->Prop}(r:St F L w) (p:aG L ρ a) (u:TS G F L ρ M τ) (z:aF F L args vs) (h:AF P PS.ps PS.hb st f args M τ K) (l:PS.st=some st) :
  ∃F' L',St F' L' w/\aG L' ρ a/\Step F L w F' L' w/\fD P (yE G PS) f vs F' L' (fun F' L' v=>∃M' e c,TS G F' L' ρ M' e/\aQ F' L' c (.v v)/\K M' e c):=by
 obtain⟨ks,ko,M2,Lin,R,Pp,k,n,y,s,x,t,d,m,j,q⟩:=h;have b:PS=⟨PS.ps,PS.hb,some st⟩:=by rw[<-l]
 rcases k with rfl | ⟨k,k2⟩
 ·exact⟨F,_,r,p,Step.refl _ _ _,zJ u z b n y s x t d m j q⟩
 ·obtain⟨e1,e2,e3,e4,e5⟩:=qI r p u k k2;exact⟨F,_,e1,e2,e3,zJ e4 (z.ext (aD.le_refl F) e5) b n y s x t d m j q⟩
theorem zK:∀{cs:List C}{vs us:List Value},wZ cs=some us->aF F L cs vs->vs=us
 | [],vs,us,h,r=>by simp only[wZ,yo] at h;simp only[aF] at r;rw[r,<-h]
 | c::cs,vs,us,h,r=>by
  simp only[aF] at r;obtain⟨v,j,rfl,b,f⟩:=r;cases c<;>simp only[wZ,reduceCtorEq] at h
  all_goals
   split at h
   case h_2=>cases h
   rename_i e d;injection h with h
   subst h;rw[zK d f];simp only[Rel] at b
   first
    | rw[b.1]
    | rw[b]
theorem IQ {c:C}{u v:Value}(h:Cd c=some u) (r:Rel F L c v):v=u/\∃t x,u=.iface t x:=by
 cases c<;>simp only[Cd,reduceCtorEq] at h
 case ifc t c =>
  simp only[Rel] at r;obtain⟨x,rfl,r⟩:=r;cases c<;>simp only[Cd,reduceCtorEq] at h
  case agg cs =>
   split at h
   case h_2=>cases h
   rename_i us b;injection h with h
   subst h;simp only[Rel] at r;obtain⟨vs,rfl,r⟩:=r;rw[zK b r];exact⟨rfl,_,_,rfl⟩
  all_goals
   injection h with h
   subst h;simp only[Rel] at r
   first
    | (obtain⟨rfl,_⟩:=r;exact⟨rfl,_,_,rfl⟩)
    | (subst r;exact⟨rfl,_,_,rfl⟩)
theorem bh.from {F1:aD}{L1:Loc}{K:cS}{c:Act}{w':World}(b:Step F L w F1 L1 w) (h:bh F1 L1 w a K c w'):bh F L w a K c w':=by
 obtain⟨F',L',ρ',l,f,e,k,d,j⟩:=h;exact⟨F',L',ρ',l,f,e,k,b.trans d,j⟩
theorem Gm {own:Bool}{s:eP}{K:TK}(hs:St F L w) (l:aG L ρ a) (e:TS G F L ρ M τ) (hd:∀k,o.dst=some k->k<a.tmps.size) (hl:iI P own o.op=some s)
  (d:bN P s o.dst M τ K):o.wp P a w (bh F L w a (Both G K)) Q:=by
 by_cases hc:kS s=true
 ·cases s<;>simp only[kS,aaq] at hc
  ·rename_i f args;simp only[bN,fu,eV,dX] at d;obtain⟨F1,L1,r,h,q,p⟩:=lI hs l e (cZ e.env args) d;refine Oper.wp_mono (fun a' w'=>bh.from q) (fB r h hd hl ?_);simp only[evalOp];rw[ja l h];exact dH.imp p fun F' L' v ⟨M',x,c,m,n,y⟩=>m.ZK n y
  ·rename_i fx args;simp only[bN,fu,eV,dX] at d;split at d
   ·rename_i f fi ca hx;obtain⟨bi,bd,e1,m,n⟩:=sP e.env hx;obtain⟨F1,L1,r,h,q,p⟩:=lI hs l e (jG e.env m n args) d;refine Oper.wp_mono (fun a' w'=>bh.from q) (fB r h hd hl ?_);simp only[evalOp,e1,lZ];rw[ja l h];exact dH.imp p fun F' L' v ⟨M',x,c,m,n,y⟩=>m.ZK n y
   ·rename_i nm c hx;split at d
    case h_2=>exact d.elim
    rename_i t c;obtain⟨u,e1,hr⟩:=xj e.env hx;simp only[Rel] at hr;obtain⟨u',rfl,hu⟩:=hr;obtain⟨f',hm,d⟩:=d;have b:aF F L (c::eD τ args) ([u']++bq L ρ args++[]):=by
     rw[aaA];simp only[aay,aaP,aF];exact⟨_,_,rfl,hu.lift,cZ e.env args⟩
    obtain⟨F1,L1,r,h,q,p⟩:=lI hs l e b d;refine Oper.wp_mono (fun a' w'=>bh.from q) (fB r h hd hl ?_);have e2:lZ P (ev ρ fx)=some (f',[u'],[]):=by rw[e1];simp only[lZ,hm]
    simp only[evalOp,e2];rw[ja l h];exact dH.imp p fun F' L' v ⟨M',x,c,m,n,y⟩=>m.ZK n y
   ·rename_i nm t k off hx;obtain⟨g,t',cs,hg,e1⟩:=pu e.env hx;obtain⟨f',hm,d⟩:=d;have b:aF F L (.own k off::eD τ args) ([.pointer (some ⟨g,off,none⟩)]++bq L ρ args++[]):=by
     rw[aaA];simp only[aay,aaP,aF,Rel];exact⟨_,_,rfl,⟨g,t',cs,hg,rfl⟩,cZ e.env args⟩
    obtain⟨F1,L1,r,h,q,p⟩:=lI hs l e b d;refine Oper.wp_mono (fun a' w'=>bh.from q) (fB r h hd hl ?_);have e2:lZ P (ev ρ fx)=some (f',[.pointer (some ⟨g,off,none⟩)],[]):=by rw[e1];simp only[Cc,lZ,hm]
    simp only[evalOp,e2];rw[ja l h];exact dH.imp p fun F' L' v ⟨M',x,c,m,n,y⟩=>m.ZK n y
   ·rename_i t nm hx;split at d
    case h_2=>exact d.elim
    rename_i t' c ap ac z;have e1:=LC e.env hx;obtain⟨f',hm,d⟩:=d;have ab:=cZ e.env args;rw[z] at ab;simp only[aF,Rel] at ab;obtain⟨v0,j,ax,⟨u,rfl,hu⟩,ad⟩:=ab;have b:aF F L (c::ap) (u::j):=by
     simp only[aF];exact⟨_,_,rfl,hu.lift,ad⟩
    obtain⟨F1,L1,r,h,q,p⟩:=lI hs l e b d;refine Oper.wp_mono (fun a' w'=>bh.from q) (fB r h hd hl ?_);have hi:∃ms,P.underlying t=some (.interface ms):=by
     unfold NG at ac;split at ac
     ·exact⟨_,by assumption⟩
     ·cases ac
    obtain⟨ms,hi⟩:=hi;have e2:lZ P (ev ρ fx)=none:=by rw[e1];rfl
    have e3:za P (ev ρ fx) (bq L1 ρ args)=some (f',u::j):=by
     rw[ja l h,ax,e1];simp only[za,hi,hm]
    simp only[evalOp,e2,e3];exact dH.imp p fun F' L' v ⟨M',x,c,m,n,y⟩=>m.ZK n y
   ·exact d.elim
 ·exact fB hs l hd hl (IL (by simpa using hc) e d)
theorem Gn {own:Bool}{s:eP}{K:TK}(hs:St F L w) (q:aG L ρ a) (j:TS G F L ρ M τ) (hd:∀k,o.dst=some k->k<a.tmps.size) (hl:iI P own o.op=some s)
  (d:uL P PS s o.dst M τ K) (hQ:∀v z w' F' L',Dj v z->St F' L' w'->Step F L w F' L' w'->yE G PS F' L' v->Q (.panic z) a w'):o.wp P a w (bh F L w a (Both G K)) Q:=by
 cases s<;>simp only[uL] at d<;>try (exact d.elim)
 ·rename_i f args;simp only[fu,eV,dX] at d;have key:∃F' L',St F' L' w/\aG L' ρ a/\Step F L w F' L' w/\fD P (yE G PS) f (bq L ρ args) F' L' (fun F' L' v=>∃M' h c,TS G F' L' ρ M' h/\aQ F' L' c (.v v)/\K M' (bE o.dst c h)):=by
   split at d
   ·rename_i b;exact pG hs q j (cZ j.env args) d b
   ·rename_i st b;exact pH hs q j (cZ j.env args) d b
  obtain⟨F1,L1,g1,g2,g3,g4⟩:=key;refine Oper.wp_mono (fun a' w'=>bh.from g3) (vk (PX:=yE G PS) g1 g2 hd hl ?_ fun v z w' F' L' qc q1 q2 q3=>hQ v z w' F' L' qc q1 (g3.trans q2) q3);rw[ja q g2];exact fD.imp g4 fun F' L' v ⟨M',h,c,l,m,r⟩=>l.ZK m r
 ·rename_i fx args;split at d
  ·rename_i f fi ca hx;simp only[fu,eV,dX] at d;obtain⟨ao,ae,e1,l,m⟩:=sP j.env hx;have key:∃F' L',St F' L' w/\aG L' ρ a/\Step F L w F' L' w/\fD P (yE G PS) f (ao++bq L ρ args++ae) F' L' (fun F' L' v=>∃M' h c,TS G F' L' ρ M' h/\aQ F' L' c (.v v)/\K M' (bE o.dst c h)):=by
    split at d
    ·rename_i b;exact pG hs q j (jG j.env l m args) d b
    ·rename_i st b;exact pH hs q j (jG j.env l m args) d b
   obtain⟨F1,L1,g1,g2,g3,g4⟩:=key;refine Oper.wp_mono (fun a' w'=>bh.from g3) (o8 (PX:=yE G PS) (f:=f) (fi:=ao) (ca:=ae) g1 g2 hd hl (by rw[e1];simp only[lZ]) ?_ fun v z w' F' L' qc q1 q2 q3=>hQ v z w' F' L' qc q1 (g3.trans q2) q3);rw[ja q g2];exact fD.imp g4 fun F' L' v ⟨M',h,c,l,m,r⟩=>l.ZK m r
  ·rename_i nm t k off hx;simp only[fu,eV,dX] at d;obtain⟨g,t',cs,hg,e1⟩:=pu j.env hx;obtain⟨f',hm,d⟩:=d;have n:aF F L (.own k off::eD τ args) ([.pointer (some ⟨g,off,none⟩)]++bq L ρ args++[]):=by
    rw[aaA];simp only[aay,aaP,aF,Rel];exact⟨_,_,rfl,⟨g,t',cs,hg,rfl⟩,cZ j.env args⟩
   have key:∃F' L',St F' L' w/\aG L' ρ a/\Step F L w F' L' w/\fD P (yE G PS) f' ([.pointer (some ⟨g,off,none⟩)]++bq L ρ args++[]) F' L' (fun F' L' v=>∃M' h c,TS G F' L' ρ M' h/\aQ F' L' c (.v v)/\K M' (bE o.dst c h)):=by
    split at d
    ·rename_i b;exact pG hs q j n d b
    ·rename_i st b;exact pH hs q j n d b
   obtain⟨F1,L1,g1,g2,g3,g4⟩:=key;refine Oper.wp_mono (fun a' w'=>bh.from g3) (o8 (PX:=yE G PS) (f:=f') (fi:=[.pointer (some ⟨g,off,none⟩)]) (ca:=[]) g1 g2 hd hl (by rw[e1];simp only[Cc,lZ,hm]) ?_ fun v z w' F' L' qc q1 q2 q3=>hQ v z w' F' L' qc q1 (g3.trans q2) q3);rw[ja q g2];exact fD.imp g4 fun F' L' v ⟨M',h,c,l,m,r⟩=>l.ZK m r
  ·exact d.elim
 ·rename_i x;have d:∃u,Cd (cn τ x)=some u/\lT M [] PS.hb=true/\PS.ps u/\∀s,PS.st=some s->s M u:=by
   split at d
   ·rename_i b;obtain⟨u,l,p,m⟩:=d;exact⟨u,l,p,m,fun s e=>by rw[b] at e;cases e⟩
   ·rename_i st b;obtain⟨u,l,p,m,r⟩:=d;exact⟨u,l,p,m,fun s e=>by rw[b] at e;injection e with e;subst e;exact r⟩
  obtain⟨u,l,p,m,r⟩:=d;have hr:=lG (dJ j.env x);have hc:(cn τ x).cel=cn τ x:=by
   cases e:cn τ x<;>rw[e] at l<;>first | rfl | (simp only[Cd,reduceCtorEq] at l;done)
  rw[hc] at hr;obtain⟨e1,t,y,e2⟩:=IQ l hr;refine F9 (PX:=yE G PS) hs q hl (t:=t) (u:=y) (e1.trans e2) ⟨j.kp,by rw[<-e2];exact m,IB j.tl p fun k g t cs _ e=>e,fun s e=>⟨M,zH j.tl,by rw[<-e2];exact r s e⟩⟩ hQ
theorem DT (f:aG L ρ a) (b:TS G F L ρ M τ) (d:Option Nat):∃ρ',aG L ρ' a/\TS G F L ρ' M (rV d τ):=by
 cases d with
 | none=>exact⟨ρ,f,b⟩
 | some k =>
  have r:∀j,rV (some k) τ j=if j=k then(τ k).Z0 else τ j:=by
   intro j;simp only[rV];cases h:Nat.beq j k with
   | true=>have:=xo h;simp[this]
   | false=>have:=fP h;simp[this]
  by_cases c:∃p off,τ k=.ownv p off
  ·obtain⟨p,off,c⟩:=c;have q:=b.env k;rw[c] at q;simp only[aQ,Rel] at q;obtain⟨v,l,g,t,cs,m,rfl⟩:=q;have s:conc L (ρ k)=.pointer (some ⟨g,off,none⟩):=l.conc;refine⟨Fr.put (some k) (.own p off) ρ,⟨fun n=>?_,fun n j o e=>?_,fun n u j e=>?_⟩,b.tl,fun j=>?_,b.kp,b.glob⟩
   ·rw[f.eq n,put_eq];simp only[];split
    ·rename_i h;subst h;rw[s];simp only[conc,m]
    ·rfl
   ·rw[put_eq] at e;simp only[] at e;split at e
    ·injection e with q1 q2;subst q1;exact⟨g,t,cs,m⟩
    ·exact f.own _ _ _ e
   ·rw[put_eq] at e;simp only[] at e;split at e
    ·cases e
    ·exact f.el _ _ _ e
   ·rw[r,put_eq];simp only[];split
    ·rw[c];exact⟨rfl,g,t,cs,m⟩
    ·exact b.env j
  ·refine⟨ρ,f,b.tl,fun j=>?_,b.kp,b.glob⟩;rw[r];split
   ·rename_i h;subst h;have:(τ j).Z0=τ j:=by
     cases e:τ j<;>first | rfl | exact vv ⟨_,_,e⟩ c
    rw[this];exact b.env j
   ·exact b.env j
def tX (G:Nat->Option (Nat×TypeId)) (PS:qd) (ks:List Nat):Prop:=∀k∈ks,G k≠none->1000<=k\/ga (PS.hb.map (·.1)) k=true
theorem tX.left {ks b:List Nat}(h:tX G PS (ks++b)):tX G PS ks:=fun k c=>h k (aah.2 (.inl c))
theorem tX.right {ks b:List Nat}(h:tX G PS (ks++b)):tX G PS b:=fun k c=>h k (aah.2 (.inr c))
theorem mB:∀(a b:List aA),dR (a++b)=dR a++dR b
 | [],b=>rfl
 | .frz k::a,b=>by simp only[aay,dR,mB a b]
 | .op _ _ _::a,b=>by simp only[aay,dR,mB a b]
 | .pc _ _ _::a,b=>by simp only[aay,dR,mB a b]
theorem Cp {k:Nat}{K:TK}{r:TL->aX->TK->Prop}(q:St F L w) (p:aG L ρ a) (s:TS G F L ρ M τ) (y:G k≠none->1000<=k\/ga (PS.hb.map (·.1)) k=true) (h:stepT P PS false (.frz k) r M τ K) :
  ∃F' L' ρ' M' b,St F' L' w/\aG L' ρ' a/\Step F L w F' L' w/\TS G F' L' ρ' M' b/\r M' b K:=by
 simp only[stepT,fu] at h;split at h
 ·rename_i t sz els n;obtain⟨F1,L1,f,j,d,c,_⟩:=sV q p s n;exact⟨F1,L1,ρ,_,_,f,j,d,c,h⟩
 ·rename_i t cs n;split at h
  case h_2=>exact h.elim
  rename_i v u e3 z;have l:G k=none:=by
   cases e:G k with
   | none=>rfl
   | some x =>
    rcases y (by rw[e];simp) with h1 | h1
    ·rw[Nat.blt_eq] at e3;omega
    ·rw[z] at h1;cases h1
  obtain⟨F1,L1,m,f,j,d,c⟩:=DR q p s n v u l;exact⟨F1,L1,m,_,_,f,j,d,c,h⟩
 ·exact h.elim
theorem xL {A:cH}{r:Nat}{l:Array Oper}{K:TK}:∀(is:List Nat) {ss:List aA}{F:aD}{L:Loc}{ρ:Env}{M:TL}{τ:aX}{a:Act}{w:World},qm P A r l is=some ss->tX G PS (dR ss)->St F L w->aG L ρ a->TS G F L ρ M τ->a.tmps.size=A.n ->
  dQ P PS false ss M τ K->(∀a' w',eY A.n F L w a (dstsOf l is) (Both G K) a' w'->Q .normal a' w') ->
  (∀v ch a' w',Dj v ch->rT A.n F L w a (dstsOf l is) (yE G PS) v a' w'->Q (.panic ch) a' w')->wpOps P l Q is a w:=by
 intro is
 induction is with
 | nil =>
  intro ss F L ρ M τ a w hl bv hs he ht hn q hQ bc;simp only[qm,yo] at hl;subst hl;exact hQ a w ⟨F,L,ρ,hs,he,hn,rfl,Step.refl _ _ _,fun _ _=>rfl,M,τ,ht,q⟩
 | cons i is ih =>
  intro ss F L ρ M τ a w hl bv hs he ht hn q hQ bc;simp only[qm] at hl;split at hl
  case h_1=>cases hl
  rename_i o hi;split at hl
  case h_2=>cases hl
  rename_i g s z hg cf bo ay;injection hl with hl
  subst hl;have av:∀(ks:List Nat) {x:aA}{F:aD}{L:Loc}{ρ:Env}{M:TL}{τ:aX},tX G PS (dR (ks.map aA.frz++x::z))->St F L w->aG L ρ a->TS G F L ρ M τ->dQ P PS false (ks.map aA.frz++x::z) M τ K ->
    ∃F' L' ρ' M' ad,St F' L' w/\aG L' ρ' a/\Step F L w F' L' w/\TS G F' L' ρ' M' ad/\dQ P PS false (x::z) M' ad K:=by
   intro ks
   induction ks with
   | nil=>intro x F L ρ M τ _ hs he ht h;exact⟨F,L,ρ,M,τ,hs,he,Step.refl _ _ _,ht,h⟩
   | cons k ks cw =>
    intro x F L ρ M τ hz hs he ht h;simp only[aao,aay,fK] at h;obtain⟨F1,L1,ci,M1,u,g1,g2,g3,g4,h⟩:=Cp hs he ht (hz k (by simp[dR])) h;obtain⟨F2,L2,cp,M2,cx,k1,k2,k3,k4,k5⟩:=cw (fun j hj=>hz j (by simp only[aao,aay,dR];exact aaH _ hj)) g1 g2 g4 h;exact⟨F2,L2,cp,M2,cx,k1,k2,g3.trans k3,k4,k5⟩
  have bl:tX G PS (dR z):=fun j hj=>bv j (by
   rw[mB];refine aah.2 (.inr ?_);cases hp:u9 A.pan r i<;>simp only[nQ,dR]<;>exact hj)
  obtain⟨F1,L1,ci,M1,u,cd,ag,an,m,q⟩:=av _ bv hs he ht q
  clear av he ht
  revert ag m
  generalize ci=ρ;intro ag m;have hd:∀k,o.dst=some k->k<a.tmps.size:=by
   intro k hk;rw[hk] at bo;rw[hn];have h2:Nat.blt k A.n=true:=bo;simpa using h2
  have cb:dstsOf l (i::is)=match o.dst with | some d=>d::dstsOf l is | none=>dstsOf l is:=by
   simp only[dstsOf,hi,Option.bind_some];rfl
  have ac:∀j,j∉dstsOf l (i::is)->o.dst≠some j/\j∉dstsOf l is:=by
   intro j hj;rw[cb] at hj;cases ho:o.dst with
   | none=>rw[ho] at hj;exact⟨by simp,hj⟩
   | some d =>
    rw[ho] at hj;simp only[aal,not_or] at hj;exact⟨by simp;exact fun e=>hj.1 e.symm,hj.2⟩
  have after:∀{KK:Prop},o.wp P a w (fun a' w'=>bh F1 L1 w a (Both G fun M' ad=>dQ P PS false z M' (rV o.dst ad) K) a' w') Q->o.wp P a w (wpOps P l Q is) Q:=by
   intro _ this;refine Oper.wp_mono ?_ (qo (asg:=[]) this);rintro a' w' ⟨⟨F',L',ρ',g1,g2,g3,g4,g5,M',ad,g6,g7⟩,co⟩;obtain⟨cp,n1,n2⟩:=DT g2 g6 o.dst;refine ih ay bl g1 n1 n2 (by rw[g3,hn]) g7 ?_ ?_
   ·rintro ar ao ⟨F'',L'',aw,k1,k2,k3,k4,k5,k6,k7⟩;refine hQ ar ao ⟨F'',L'',aw,k1,k2,k3,k4.trans g4,(an.trans g5).trans k5,fun j hj=>?_,k7⟩;obtain⟨n1,n2⟩:=ac j hj;rw[k6 j n2,co j n1]
   ·rintro v ch ar ao kc ⟨F'',L'',k1,k2,k3,k4,k5,k6⟩;refine bc v ch ar ao kc ⟨F'',L'',k1,(an.trans g5).trans k2,k3,k4.trans g4,fun j hj=>?_,k6⟩;obtain⟨n1,n2⟩:=ac j hj;rw[k5 j n2,co j n1]
  have aE:∀{u:aX},TS G F1 L1 ρ M1 u->bN P s o.dst M1 u (fun M' ad=>dQ P PS false z M' (rV o.dst ad) K)->o.wp P a w (wpOps P l Q is) Q:=by
   intro u m q;exact after (KK:=True) (Gm (Q:=Q) cd ag m hd cf q)
  have ap:∀{u:aX},TS G F1 L1 ρ M1 u->uL P PS s o.dst M1 u (fun M' ad=>dQ P PS false z M' (rV o.dst ad) K)->o.wp P a w (wpOps P l Q is) Q:=by
   intro u m q;exact after (KK:=True) (Gn (Q:=Q) cd ag m hd cf q fun v ch w' F' L' qc q1 q2 q3=>bc v ch a w' qc ⟨F',L',q1,an.trans q2,hn,rfl,fun _ _=>rfl,q3⟩)
  have skip:∀{u:aX},TS G F1 L1 ρ M1 u->dQ P PS false z M1 (bE o.dst .und u) K->wpOps P l Q is (a.put o.dst undef) w:=by
   intro u m q;have cM:=ag.put hd (v:=undef) (x:=.v undef) rfl bT dK (rf L1);refine ih ay bl cd cM (m.put (c:=.und) (sv:=.v undef) ⟨_,rfl,by simp only[Rel]⟩ o.dst) (by rw[lp,hn]) q ?_ ?_
   ·rintro ar ao ⟨F'',L'',aw,k1,k2,k3,k4,k5,k6,k7⟩;refine hQ ar ao ⟨F'',L'',aw,k1,k2,k3,k4.trans (ic _ _ _),an.trans k5,fun j hj=>?_,k7⟩;obtain⟨n1,n2⟩:=ac j hj;rw[k6 j n2,kJ n1]
   ·rintro v ch ar ao kc ⟨F'',L'',k1,k2,k3,k4,k5,k6⟩;refine bc v ch ar ao kc ⟨F'',L'',k1,an.trans k2,k3,k4.trans (ic _ _ _),fun j hj=>?_,k6⟩;obtain⟨n1,n2⟩:=ac j hj;rw[k5 j n2,kJ n1]
  simp only[wpOps,hi];cases cl:u9 A.pan r i with
  | false =>
   rw[cl] at q;cases aa:o.guard with
   | none =>
    rw[aa] at hg;simp only[iK,yo] at hg;subst hg;simp only[nQ,fK,stepT] at q;rw[o6 (by simp[Region.wanted,aa])];exact .inl (aE m q)
   | some p =>
    obtain⟨j,y⟩:=p;rw[aa] at hg;simp only[iK] at hg;split at hg
    case h_2=>cases hg
    rename_i d ax;injection hg with hg
    subst hg;simp only[nQ,fK,stepT] at q;split at q
    ·rename_i b hb;have am:ρ d=.v (.bool b):=iO (x:=.t d) m.env hb;have f:=ag.eq d;rw[am] at f;have hy:yielded l a.tmps j=some b:=by
      simp only[yielded,ax,Option.bind_some,ri f]
     have hw:Region.wanted o (yielded l a.tmps)=(b == y):=by
      simp only[Region.wanted,aa,hy];cases b<;>cases y<;>rfl
     have al:TS G F1 L1 ρ M1 (bE (some d) (.bool b) u):=by
      have:=m.put (c:=.bool b) (sv:=.v (.bool b)) ⟨_,rfl,by simp only[Rel]⟩ (some d)
      rwa [lq am] at this
     rw[hw];cases b<;>simp only[wD] at q
     ·cases y
      ·exact .inl (aE al q)
      ·exact skip al q
     ·cases y
      ·exact skip al q
      ·exact .inl (aE al q)
    ·rename_i hb;have hr:=m.env d;rw[hb] at hr;simp only[aQ,Rel] at hr;obtain⟨v,am,rfl⟩:=hr;have f:=ag.eq d;rw[am] at f;have hy:yielded l a.tmps j=none:=by
      simp only[yielded,ax,Option.bind_some];rw[aaF] at f;cases e:a.tmps[d]? with
      | none=>rfl
      | some v=>rw[e] at f;simp only[Option.getD_some,conc] at f;rw[f];rfl
     have hw:Region.wanted o (yielded l a.tmps)=false:=by
      simp only[Region.wanted,aa,hy];rfl
     rw[hw];exact skip m q
    ·exact q.elim
  | true =>
   rw[cl] at q;cases aa:o.guard with
   | none =>
    rw[aa] at hg;simp only[iK,yo] at hg;subst hg;simp only[nQ,fK,stepT] at q;rw[o6 (by simp[Region.wanted,aa])];exact .inl (ap m q)
   | some p =>
    obtain⟨j,y⟩:=p;rw[aa] at hg;simp only[iK] at hg;split at hg
    case h_2=>cases hg
    rename_i d ax;injection hg with hg
    subst hg;simp only[nQ,fK,stepT] at q;split at q
    ·rename_i b _ hb;have am:ρ d=.v (.bool b):=iO (x:=.t d) m.env hb;have f:=ag.eq d;rw[am] at f;have hy:yielded l a.tmps j=some b:=by
      simp only[yielded,ax,Option.bind_some,ri f]
     have hw:Region.wanted o (yielded l a.tmps)=(b == y):=by
      simp only[Region.wanted,aa,hy];cases b<;>cases y<;>rfl
     have al:TS G F1 L1 ρ M1 (bE (some d) (.bool b) u):=by
      have:=m.put (c:=.bool b) (sv:=.v (.bool b)) ⟨_,rfl,by simp only[Rel]⟩ (some d)
      rwa [lq am] at this
     rw[hw];cases b<;>simp only[wD] at q
     ·cases y
      ·exact .inl (ap al q)
      ·exact skip al q
     ·cases y
      ·exact skip al q
      ·exact .inl (ap al q)
    ·rename_i hb;have hr:=m.env d;rw[hb] at hr;simp only[aQ,Rel] at hr;obtain⟨v,am,rfl⟩:=hr;have f:=ag.eq d;rw[am] at f;have hy:yielded l a.tmps j=none:=by
      simp only[yielded,ax,Option.bind_some];rw[aaF] at f;cases e:a.tmps[d]? with
      | none=>rfl
      | some v=>rw[e] at f;simp only[Option.getD_some,conc] at f;rw[f];rfl
     have hw:Region.wanted o (yielded l a.tmps)=false:=by
      simp only[Region.wanted,aa,hy];rfl
     rw[hw];exact skip m q
    ·exact q.elim
theorem qJ:aQ F L .und (.v undef):=⟨_,rfl,by simp only[Rel]⟩
theorem xM {o:eP}{d:Option Nat}{F:aD}{L:Loc}{ρ:Env}{K K':cS}(h:evalOp P o d F L ρ K) (p:∀F' L' ρ',K F' L' ρ'->K' F' L' ρ'):evalOp P o d F L ρ K':=by
 cases o
 case box t x =>
  simp only[evalOp] at h ⊢;cases d with
  | none=>exact h.elim
  | some k =>
   simp only[] at h ⊢;generalize L.get k=z at h ⊢;cases z with
   | none=>exact fun g=>p _ _ _ (h g)
   | some _=>exact h.elim
 case boxD t x =>
  simp only[evalOp] at h ⊢;cases d with
  | none=>exact h.elim
  | some k =>
   simp only[] at h ⊢;generalize L.get k=z at h ⊢;cases z with
   | none=>exact fun g r=>p _ _ _ (h g r)
   | some _=>exact h.elim
 case boxF t x=>exact fun g F' a b=>p _ _ _ (h g F' a b)
 case alloc t z =>
  simp only[evalOp] at h ⊢;cases d with
  | none=>exact h.elim
  | some k =>
   simp only[] at h ⊢;generalize L.get k=z at h ⊢;cases z with
   | none=>exact fun g=>p _ _ _ (h g)
   | some _=>exact h.elim
 case allocD t z =>
  simp only[evalOp] at h ⊢;cases d with
  | none=>exact h.elim
  | some k =>
   simp only[] at h ⊢;generalize L.get k=z at h ⊢;cases z with
   | none=>exact fun g r=>p _ _ _ (h g r)
   | some _=>exact h.elim
 case mkF e n sz xs =>
  simp only[evalOp] at h ⊢;generalize fN L ρ sz xs=z at h ⊢;cases z with
  | true=>exact fun g F' a b=>p _ _ _ (h g F' a b)
  | false=>exact h.elim
 case mkFD e n sz xs =>
  simp only[evalOp] at h ⊢;generalize fN L ρ sz xs=z at h ⊢;cases z with
  | true=>exact fun g F' a b c=>p _ _ _ (h g F' a b c)
  | false=>exact h.elim
 case mkR e n sz xs =>
  simp only[evalOp] at h ⊢;generalize fN L ρ sz xs=z at h ⊢;cases z with
  | false=>exact h.elim
  | true =>
   cases d with
   | none=>exact h.elim
   | some k =>
    simp only[] at h ⊢;generalize L.get k=z at h ⊢;cases z with
    | none=>exact fun g=>p _ _ _ (h g)
    | some _=>exact h.elim
 case s2b e x =>
  simp only[evalOp] at h ⊢;generalize ev ρ x=z at h ⊢;split at h
  ·exact fun g c F' a b e=>p _ _ _ (h g c F' a b e)
  ·exact h.elim
 case makeS e sz b zs l c =>
  simp only[evalOp] at h ⊢;generalize ev ρ l=z1 at h ⊢;generalize ev ρ c=z2 at h ⊢;split at h
  ·rename_i k;generalize L.get k=z at h ⊢;cases z with
   | none=>exact⟨h.lo,h.le,h.hi,h.max,fun g=>p _ _ _ (h.out g)⟩
   | some _=>exact h.elim
  ·exact h.elim
 case storeX n a x =>
  simp only[evalOp] at h ⊢;generalize fM (aJ (val L ρ x)) n=z1 at h ⊢;generalize jA (aJ (val L ρ x))=z2 at h ⊢;generalize ev ρ a=z3 at h ⊢;split at h
  ·rename_i k off;generalize L.get k=z at h ⊢;split at h
   ·rename_i t cs;generalize jg t ((cs.drop off).take n) n=b at h ⊢;cases b
    ·exact h.elim
    ·exact fun r=>p _ _ _ (h r)
   ·exact h.elim
  ·exact⟨let⟨k,v,t,sz,m,xs,ad,c,q,u,y,h4,h5,h6⟩:=h.out;⟨k,v,t,sz,m,xs,ad,c,q,u,y,h4,h5,fun r=>p _ _ _ (h6 r)⟩⟩
  ·exact⟨let⟨k,v,t,sz,m,xs,ad,c,q,u,y,h4,h5,h6⟩:=h.out;⟨k,v,t,sz,m,xs,ad,c,q,u,y,h4,h5,fun r=>p _ _ _ (h6 r)⟩⟩
  ·exact h.elim
 case store n a x =>
  simp only[evalOp] at h ⊢;generalize fM (aJ (val L ρ x)) n=z1 at h ⊢;generalize jA (aJ (val L ρ x))=z2 at h ⊢;generalize ev ρ a=z3 at h ⊢;split at h
  ·rename_i k off;generalize L.get k=z at h ⊢;split at h
   ·rename_i t cs;generalize jg t ((cs.drop off).take n) n=b at h ⊢;cases b
    ·exact h.elim
    ·exact p _ _ _ h
   ·exact h.elim
  ·exact⟨h.out.imp (fun h=>⟨let⟨k,v,t,sz,m,xs,ad,c,q,u,y,h4,h5,h6⟩:=h.out;⟨k,v,t,sz,m,xs,ad,c,q,u,y,h4,h5,p _ _ _ h6⟩⟩) fun⟨q1,q2,q3⟩=>⟨q1,q2,p _ _ _ q3⟩⟩
  ·exact⟨h.out.imp (fun h=>⟨let⟨k,v,t,sz,m,xs,ad,c,q,u,y,h4,h5,h6⟩:=h.out;⟨k,v,t,sz,m,xs,ad,c,q,u,y,h4,h5,p _ _ _ h6⟩⟩) fun⟨q1,q2,q3⟩=>⟨q1,q2,p _ _ _ q3⟩⟩
  ·exact h.elim
 case storeD n a x =>
  simp only[evalOp] at h ⊢;generalize fM (aJ (val L ρ x)) n=z1 at h ⊢;generalize jA (aJ (val L ρ x))=z2 at h ⊢;generalize ev ρ a=z3 at h ⊢;split at h
  ·rename_i k off;generalize L.get k=z at h ⊢;split at h
   ·rename_i t cs;generalize jg t ((cs.drop off).take n) n=b at h ⊢;cases b
    ·exact h.elim
    ·exact p _ _ _ h
   ·exact h.elim
  ·exact h.elim
 case storeK key n a x =>
  obtain⟨n',a',x',k,off,g,t,cs,ho,e1,e2,e3,e4,e5,h⟩:=iV rfl h;exact iL ho e1 e2 e3 e4 e5 (p _ _ _ h)
 case makeSD e sz n zs =>
  simp only[evalOp] at h ⊢;cases d with
  | none=>exact h.elim
  | some k =>
   simp only[] at h ⊢;split at h
   ·exact fun g r=>p _ _ _ (h g r)
   ·exact h.elim
 case makeSV e sz b zs x =>
  simp only[evalOp] at h ⊢;cases d with
  | none=>exact h.elim
  | some k =>
   simp only[] at h ⊢;split at h
   ·exact fun g r=>p _ _ _ (h g r)
   ·exact h.elim
 case call f args =>
  simp only[evalOp] at h ⊢;exact dH.imp h fun _ _ _ h=>p _ _ _ h
 case callV f args =>
  simp only[evalOp] at h ⊢;generalize lZ P (ev ρ f)=z at h ⊢;split at h
  ·exact dH.imp h fun _ _ _ h=>p _ _ _ h
  ·generalize za P (ev ρ f) (bq L ρ args)=z at h ⊢;split at h
   ·exact dH.imp h fun _ _ _ h=>p _ _ _ h
   ·exact h.elim
 case look x i =>
  simp only[evalOp] at h ⊢;generalize ev ρ x=z1 at h ⊢;generalize ev ρ i=z2 at h ⊢;split at h
  ·exact⟨let⟨k,r,b,q,u,y⟩:=h.out;⟨k,r,b,q,u,p _ _ _ y⟩⟩
  ·exact h.elim
 case callO f args =>
  simp only[evalOp] at h ⊢;exact dH.imp h fun _ _ _ h r=>p _ _ _ (h r)
 case callVO f args =>
  simp only[evalOp] at h ⊢;generalize lZ P (ev ρ f)=z at h ⊢;split at h
  ·exact dH.imp h fun _ _ _ h r=>p _ _ _ (h r)
  ·exact h.elim
 case callD f args =>
  simp only[evalOp] at h ⊢;exact eI.imp' h fun _ _ _ h=>p _ _ _ h
 case callVD f args =>
  simp only[evalOp] at h ⊢;generalize lZ P (ev ρ f)=z at h ⊢;split at h
  ·exact eI.imp' h fun _ _ _ h=>p _ _ _ h
  ·exact h.elim
 case app e sz b zs s x =>
  simp only[evalOp] at h ⊢;generalize ev ρ s=z1 at h ⊢;generalize ev ρ x=z2 at h ⊢;split at h
  ·exact⟨let⟨kd,n,xs,m,news,q,u,y,h4,h5,h6⟩:=h.out;⟨kd,n,xs,m,news,q,u,y,h4,h5,fun v hv=>p _ _ _ (h6 v hv)⟩⟩
  ·exact h.elim
 case appX e sz b zs s x =>
  simp only[evalOp] at h ⊢;generalize ev ρ s=z1 at h ⊢;generalize ev ρ x=z2 at h ⊢;split at h
  ·exact⟨let⟨kd,n,xs,m,news,q,u,y,h4,h5,h6⟩:=h.out;⟨kd,n,xs,m,news,q,u,y,h4,h5,fun v hv r=>p _ _ _ (h6 v hv r)⟩⟩
  ·exact h.elim
 case appD e sz b zs s x =>
  simp only[evalOp] at h ⊢;generalize ev ρ s=z1 at h ⊢;generalize ev ρ x=z2 at h ⊢;split at h
  ·exact⟨let⟨kd,n,xs,m,news,q,u,y,h4,h5,h6⟩:=h.out;⟨kd,n,xs,m,news,q,u,y,h4,h5,fun v hv r=>p _ _ _ (h6 v hv r)⟩⟩
  ·exact h.elim
 case appS e s x =>
  simp only[evalOp] at h ⊢;generalize ev ρ s=z1 at h ⊢;generalize ev ρ x=z2 at h ⊢;split at h
  ·exact⟨let⟨kd,n,xs,q,u,y,h4⟩:=h.out;⟨kd,n,xs,q,u,y,fun v hv=>p _ _ _ (h4 v hv)⟩⟩
  ·exact h.elim
 case appZ e b ki s x =>
  simp only[evalOp] at h ⊢;generalize ev ρ s=z1 at h ⊢;generalize ev ρ x=z2 at h ⊢;split at h
  ·split at h
   ·exact⟨let⟨kd,n,xs,q,u,y,h4⟩:=h.out;⟨kd,n,xs,q,u,y,fun v hv=>p _ _ _ (h4 v hv)⟩⟩
   ·exact h.elim
  ·exact h.elim
 case copy e sz dd x =>
  simp only[evalOp] at h ⊢;generalize ev ρ dd=z1 at h ⊢;generalize ev ρ x=z2 at h ⊢;split at h
  ·exact⟨let⟨k,n,v,nr,xs,ad,cr,cd,j,q,u,y,h4,h5⟩:=h.out;⟨k,n,v,nr,xs,ad,cr,cd,j,q,u,y,h4,p _ _ _ h5⟩⟩
  ·obtain⟨⟨k,n,v,nr,xs,ad,cr,cd,j,m,a,c,news,q,u,y,h4,h5,h6,h7,h8,h9⟩ | ⟨da,n,cd,a,m,c,q,u,y,h9⟩⟩:=h
   ·exact⟨.inl ⟨k,n,v,nr,xs,ad,cr,cd,j,m,a,c,news,q,u,y,h4,h5,h6,h7,h8,p _ _ _ h9⟩⟩
   ·exact⟨.inr ⟨da,n,cd,a,m,c,q,u,y,p _ _ _ h9⟩⟩
  ·exact h.elim
 case copyX e sz dd x =>
  simp only[evalOp] at h ⊢;generalize ev ρ dd=z1 at h ⊢;generalize ev ρ x=z2 at h ⊢;split at h
  ·obtain⟨⟨k,n,v,nr,xs,ad,cr,cd,j,m,a,c,news,q,u,y,h4,h5,h6,h7,h8,h9⟩ | ⟨da,n,cd,a,m,c,q,u,y,h9⟩⟩:=h
   ·exact⟨.inl ⟨k,n,v,nr,xs,ad,cr,cd,j,m,a,c,news,q,u,y,h4,h5,h6,h7,h8,fun r=>p _ _ _ (h9 r)⟩⟩
   ·exact⟨.inr ⟨da,n,cd,a,m,c,q,u,y,fun r=>p _ _ _ (h9 r)⟩⟩
  ·exact h.elim
 case pan x=>simp only[evalOp] at h
 case dead=>simp only[evalOp] at h
 case mkmap =>
  simp only[evalOp] at h ⊢;cases d with
  | none=>exact h.elim
  | some k =>
   simp only[] at h ⊢;generalize L.get k=z at h ⊢;cases z with
   | none=>exact fun g=>p _ _ _ (h g)
   | some _=>exact h.elim
 case mupd str x i v =>
  simp only[evalOp] at h ⊢;generalize ev ρ x=z1 at h ⊢;split at h
  ·obtain⟨k,cs,q,u,y,cs',h4,h5⟩:=h;exact⟨k,cs,q,u,y,cs',h4,p _ _ _ h5⟩
  ·exact h.elim
 case mrange x =>
  simp only[evalOp] at h ⊢;generalize ev ρ x=z1 at h ⊢;split at h
  ·rename_i g k;generalize L.get k=z at h ⊢;cases z with
   | none =>
    obtain⟨km,cs,q,u,y⟩:=h;exact⟨km,cs,q,u,fun gi=>p _ _ _ (y gi)⟩
   | some _=>exact h.elim
  ·exact h.elim
 case mnext x =>
  simp only[evalOp] at h ⊢;generalize ev ρ x=z1 at h ⊢;split at h
  ·split at h
   ·rename_i hL;obtain⟨km,cs,q,u,y,h4,h5⟩:=h.out;exact⟨km,cs,q,u,y,fun j e a b=>p _ _ _ (h4 j e a b),fun a=>p _ _ _ (h5 a)⟩
   ·exact h.elim
  ·exact h.elim
 case mentry x =>
  simp only[evalOp] at h ⊢;generalize ev ρ x=z1 at h ⊢;split at h
  ·split at h
   ·obtain⟨km,cs,j,e,q,u,y,h4,h5,h6⟩:=h.out;exact⟨km,cs,j,e,q,u,y,h4,h5,p _ _ _ h6⟩
   ·exact h.elim
  ·exact h.elim
 all_goals
  simp only[evalOp] at h ⊢;exact Co h fun v h=>p _ _ _ h
theorem DU {s s':eP}(h:drawn s=some s'):kS s'=false:=by
 cases s<;>simp only[drawn,yo,reduceCtorEq] at h<;>subst h<;>rfl
theorem Cq {bx:List Nat}{s s':eP}(h:nR bx s=some s'):kS s'=false:=by
 unfold nR at h;split at h
 ·split at h
  ·split at h
   ·injection h with h;subst h;rfl
   ·cases h
  ·split at h
   ·split at h
    ·injection h with h;subst h;rfl
    ·cases h
   ·cases h
 ·injection h with h;subst h;rfl
 ·split at h<;>(injection h with h;subst h;rfl)
 ·split at h<;>(injection h with h;subst h;rfl)
 ·exact DU h
theorem Cr {fl bx:List Nat}{bk:List (Nat×Nat)}{s s':eP}(h:uD fl bk bx s=some s'):kS s'=false:=by
 rcases wP h with h | ⟨a,n,i,rfl,rfl⟩ | ⟨a,n,i,key,rfl,rfl⟩ | ⟨a,n,i,rfl,rfl⟩ | ⟨i,rfl,rfl⟩
 ·exact Cq h
 ·rfl
 ·rfl
 ·rfl
 ·rfl
theorem Cs {s s':eP}(h:wN s=some s'):kS s'=false:=by
 cases s<;>simp only[wN,yo,reduceCtorEq] at h<;>subst h<;>rfl
theorem vq {A:cH}{f:Array Oper}:∀{is:List Nat}{ss:List aA},fC P A f is=some ss->∀s∈ss,(∃d o g,s=.op d o g/\kS o=false)\/∃d o,s=.pc d o none/\BX o=true:=by
 intro is
 induction is with
 | nil=>intro ss h s e;simp only[fC,yo] at h;subst h;cases e
 | cons i is j =>
  intro ss h s e;simp only[fC] at h;split at h
  case h_2=>cases h
  rename_i m l b k;injection h with h
  subst h;rcases aal.1 e with rfl | e
  ·unfold Aq at b;split at b
   case h_1=>cases b
   split at b
   case h_2=>cases b
   split at b
   ·split at b
    case h_3=>cases b
    ·injection b with b
     exact .inr ⟨_,_,b.symm,rfl⟩
    ·injection b with b
     exact .inr ⟨_,_,b.symm,rfl⟩
   ·split at b
    ·split at b
     case h_2=>cases b
     rename_i s' c;injection b with b
     exact .inl ⟨_,s',_,b.symm,Cs c⟩
    ·split at b
     case h_2=>cases b
     rename_i s' c;split at b
     case h_2=>cases b
     injection b with b
     exact .inl ⟨_,s',_,b.symm,Cr c⟩
  ·exact j k s e
theorem Ct:∀{ss:List aA},ED ss=true->∀d o g,aA.pc d o g∉ss
 | [],_,d,o,g,h=>by cases h
 | .op _ _ _::l,b,d,o,g,h=>by
  rcases aal.1 h with h | h
  ·cases h
  ·exact Ct (ss:=l) b d o g h
 | .frz _::l,b,d,o,g,h=>by cases b
 | .pc _ _ _::l,b,d,o,g,h=>by cases b
theorem Gp {A:cH}{b:Array Oper}{is:List Nat}{ss:List aA}(e:fC P A b is=some ss) (f:ED ss=true):∀s∈ss,∃d o g,s=.op d o g/\kS o=false:=by
 intro s c;rcases vq e s c with h | ⟨d,o,rfl,_⟩
 ·exact h
 ·exact vv c (Ct f _ _ _)
theorem xN {K:TK}:∀(ss:List aA),(∀s∈ss,∃d o g,s=aA.op d o g/\kS o=false)->∀{F:aD}{L:Loc}{ρ:Env}{M:TL}{τ:aX},TS G F L ρ M τ->dQ P PS true ss M τ K->aY P ss F L ρ (Both G K)
 | [],_,F,L,ρ,M,τ,c,h=>⟨M,τ,c,h⟩
 | s::ss,u,F,L,ρ,M,τ,c,h=>by
  obtain⟨d,o,g,rfl,y⟩:=u s (by simp);have f:∀s∈ss,∃d o g,s=aA.op d o g/\kS o=false:=fun s z=>u s (by simp[z]);have e:∀{ρ:Env}{τ:aX},TS G F L ρ M τ->bN P o d M τ (fun M' m=>dQ P PS true ss M' m K)->evalOp P o d F L ρ (fun F' L' ρ'=>aY P ss F' L' ρ' (Both G K)):=by
   intro ρ τ c h;have:=IL y c h;exact xM this fun F' L' ρ' ⟨M',m,h1,h2⟩=>xN ss f h1 h2
  cases g with
  | none =>
   simp only[fK,stepT] at h;simp only[aY];exact e c h
  | some p =>
   obtain⟨s,l⟩:=p;simp only[fK,stepT] at h;simp only[aY];split at h
   ·rename_i b hb;have k:ρ s=.v (.bool b):=iO (x:=.t s) c.env hb;simp only[k];have j:∀n,b=n->TS G F L (Fr.put (some s) (.v (.bool n)) ρ) M (bE (some s) (.bool n) τ):=fun n _=>c.put cN (some s);have r:∀{ρ:Env}{τ:aX},TS G F L ρ M τ->TS G F L (Fr.put d (.v undef) ρ) M (bE d .und τ):=fun c=>c.put qJ d;cases b<;>simp only[wD] at h ⊢<;>cases l<;>simp only[] at h ⊢
    ·exact e (j _ rfl) h
    ·exact xN ss f (r (j _ rfl)) h
    ·exact xN ss f (r (j _ rfl)) h
    ·exact e (j _ rfl) h
   ·rename_i hb;have q:=c.env s;rw[hb] at q;simp only[aQ,Rel] at q;obtain⟨v,k,rfl⟩:=q;simp only[k,undef];exact xN ss f (c.put qJ d) h
   ·exact h.elim
theorem rB:∀{ss:List aA},zB ss M=true->∀s∈ss,∀k,tH s=some k->M.get k=none
 | [],_,s,b,_,_=>by cases b
 | x::l,h,s,b,k,e=>by
  unfold zB at h;rcases aal.1 b with rfl | b
  ·rw[e] at h;simp only[] at h;cases c:M.get k with
   | none=>rfl
   | some o=>rw[c] at h;cases h
  ·split at h
   ·exact rB h s b k e
   ·split at h
    ·exact rB h s b k e
    ·cases h
theorem mC {K:TK}{fb:List Nat}:∀(ss:List aA),(∀s∈ss,(∃d o g,s=aA.op d o g/\kS o=false)\/∃d o,s=aA.pc d o none/\BX o=true)->∀{F:aD}{L:Loc}{ρ:Env}{M:TL}{τ:aX},TS G F L ρ M τ->kO P PS fb ss M τ K->br P (yE G PS) fb ss F L ρ (Both G K)
 | [],_,F,L,ρ,M,τ,e,h=>⟨M,τ,e,h⟩
 | s::ss,hc,F,L,ρ,M,τ,e,h=>by
  have m:∀s∈ss,(∃d o g,s=aA.op d o g/\kS o=false)\/∃d o,s=aA.pc d o none/\BX o=true:=fun s hs=>hc s (by simp[hs]);rcases hc s (by simp) with⟨d,o,g,rfl,ho⟩ | ⟨d,o,rfl,ho⟩
  case inr =>
   cases o<;>simp only[BX,aaq] at ho
   ·rename_i f l;simp only[jV,zC,DI,fu,eV,dX] at h;simp only[br,rI];split at h
    case h_1 =>
     rename_i st j;refine(qG e (cZ e.env l) (show PS=⟨PS.ps,PS.hb,some st⟩ by rw[<-j]) h).imp fun F' L' v _ _ _ _ _ h=>?_;obtain⟨M',n,c,q,r,y⟩:=h;exact mC ss m (q.put r d) y
    rename_i j;refine(pE e (cZ e.env l) h j).imp fun F' L' v _ _ _ _ _ h=>?_;obtain⟨M',n,c,q,r,y⟩:=h;exact mC ss m (q.put r d) y
   ·rename_i fx l;simp only[jV,zC,DI] at h;split at h
    ·rename_i f fi ca hx;simp only[fu,eV,dX] at h;obtain⟨ax,ao,e1,q,r⟩:=sP e.env hx;simp only[br,rI,e1,lZ];split at h
     case h_1 =>
      rename_i st j;refine(qG e (jG e.env q r l) (show PS=⟨PS.ps,PS.hb,some st⟩ by rw[<-j]) h).imp fun F' L' v _ _ _ _ _ h=>?_;obtain⟨M',n,c,q,r,y⟩:=h;exact mC ss m (q.put r d) y
     rename_i j;refine(pE e (jG e.env q r l) h j).imp fun F' L' v _ _ _ _ _ h=>?_;obtain⟨M',n,c,q,r,y⟩:=h;exact mC ss m (q.put r d) y
    ·rename_i nm t k off hx;simp only[fu,eV,dX] at h;obtain⟨g,t',cs,hg,e1⟩:=pu e.env hx;obtain⟨f',hm,h⟩:=h;have u:aF F L (.own k off::eD τ l) ([.pointer (some ⟨g,off,none⟩)]++bq L ρ l++[]):=by
      rw[aaA];simp only[aay,aaP,aF,Rel];exact⟨_,_,rfl,⟨g,t',cs,hg,rfl⟩,cZ e.env l⟩
     simp only[br,rI,e1,Cc,lZ,hm];split at h
     case h_1 =>
      rename_i st j;refine(qG e u (show PS=⟨PS.ps,PS.hb,some st⟩ by rw[<-j]) h).imp fun F' L' v _ _ _ _ _ h=>?_;obtain⟨M',n,c,q,r,y⟩:=h;exact mC ss m (q.put r d) y
     rename_i j;refine(pE e u h j).imp fun F' L' v _ _ _ _ _ h=>?_;obtain⟨M',n,c,q,r,y⟩:=h;exact mC ss m (q.put r d) y
    ·exact h.elim
  have z:∀{ρ:Env}{τ:aX},TS G F L ρ M τ->bN P o d M τ (fun M' n=>kO P PS fb ss M' n K)->evalOp P o d F L ρ (fun F' L' ρ'=>br P (yE G PS) fb ss F' L' ρ' (Both G K)):=by
   intro ρ τ e h;have:=IL ho e h;exact xM this fun F' L' ρ' ⟨M',n,q,r⟩=>mC ss m q r
  cases g with
  | none =>
   simp only[jV,zC,stepT] at h;exact⟨o,rfl,z e h⟩
  | some p =>
   obtain⟨s,ad⟩:=p;simp only[jV,zC,stepT] at h;simp only[br,res];have hu:∀{ρ:Env}{τ:aX},TS G F L ρ M τ->TS G F L (Fr.put d (.v undef) ρ) M (bE d .und τ):=fun e=>e.put qJ d;have skip:∀{ρ:Env}{τ:aX},TS G F L ρ M τ->kO P PS fb ss M (bE d .und τ) K->evalOp P iM d F L ρ (fun F' L' ρ'=>br P (yE G PS) fb ss F' L' ρ' (Both G K)):=by
    intro ρ τ e h;simp only[iM,evalOp,aL,ev];exact mC ss m (hu e) h
   split at h
   ·rename_i b hb;have ab:ρ s=.v (.bool b):=iO (x:=.t s) e.env hb;have aa:TS G F L ρ M (bE (some s) (.bool b) τ):=by
     have:=e.put (cN (b:=b)) (some s)
     rwa [Fr.lq ab] at this
    simp only[ab];cases b<;>simp only[wD] at h ⊢<;>cases ad<;>simp only[reduceCtorEq,↓reduceIte,yo,exists_eq_left'] at h ⊢
    ·exact z aa h
    ·exact skip aa h
    ·exact skip aa h
    ·exact z aa h
   ·rename_i hb;have hr:=e.env s;rw[hb] at hr;simp only[aQ,Rel] at hr;obtain⟨v,ab,rfl⟩:=hr;simp only[ab,undef,yo,exists_eq_left'];exact skip e h
   ·exact h.elim
theorem Cu:∀(b:List Nat) (vs:List C) (τ:aX) (j:Nat),qz b vs τ j=τ j\/∃(i:Nat) (c:C),b[i]?=some j/\vs[i]?=some c/\qz b vs τ j=c
 | [],vs,τ,j=>.inl rfl
 | k::b,[],τ,j=>.inl rfl
 | k::b,v::vs,τ,j=>by
  simp only[qz,AR];split
  ·rename_i h;subst h;exact .inr ⟨0,v,by simp,by simp,rfl⟩
  ·rcases Cu b vs τ j with h | ⟨i,c,f,e,d⟩
   ·exact .inl h
   ·exact .inr ⟨i+1,c,by simpa using f,by simpa using e,d⟩
theorem zL {M1:TL}:∀{b:List Nat}{vs:List C}{τ:aX},nS M M1 b vs τ->∀{i j:Nat}{c:C},b[i]?=some j->vs[i]?=some c->KE M M1 (τ j) c
 | [],vs,τ,h,i,j,c,e,_=>by simp at e
 | k::b,[],τ,h,i,j,c,_,e=>by simp at e
 | k::b,v::vs,τ,h,i,j,c,d,f=>by
  simp only[nS] at h;cases i with
  | zero=>simp at d f;subst d f;exact h.1
  | succ i=>exact zL h.2 (by simpa using d) (by simpa using f)
theorem zM {M1:TL}(l:TS G F L ρ M τ):∀{f:List Nat}{vs:List C},vs.length=f.length->nS M M1 f vs τ->gives M M1 M1->sK vs
 | [],[],_,_,_=>by simp only[sK]
 | [],v::vs,b,_,_=>by simp at b
 | k::f,[],b,_,_=>by simp at b
 | k::f,v::vs,b,h,m=>by
  simp only[nS] at h;simp only[sK];refine⟨?_,zM l (by simpa using b) h.2 m⟩;have d:=lG (l.env k);rcases h.1 with e | ⟨e,_⟩ | ⟨j,c⟩ | ⟨j,n,t,sz,c,_⟩ | ⟨els,j,c⟩
  ·rw[e];simp only[Wf]
  ·rw[e] at d;have:=d.wf
   revert this
   cases v<;>simp[C.cel,Wf]
  ·rw[c];simp[Wf,tL]
  ·rw[c];simp only[Wf]
  ·rw[j] at d;have:=(uM d).wf;rw[c];exact this
theorem Pk {M:TL}(d:dm F L M):∀{l:TL},(∀k o,l.get k=some o->M.get k=some o)->∀k o,l.get k=some o->o.Wf:=by
 intro l h k o e;rcases eK (d k) with⟨b,_⟩ | ⟨q,p,b,f,c⟩
 ·rw[h k o e] at b;cases b
 ·rw[h k o e] at b;injection b with b
  subst b;exact c.wf
theorem Gq {L':Loc}{F':aD}(l:F.le F') (u:∀k g t cs,L.get k=some (.box g t cs)->∃cs',L'.get k=some (.box g t cs')) :
  (∀c v,C.leaf c=true->Rel F L c v->Rel F' L' (qx c) v)/\(∀c sv,C.leaf c=true->aQ F L c sv->aQ F' L' (qx c) sv):=by
 have hb:∀{k:Nat},(∃g t cs,L.get k=some (.box g t cs))->∀o,L.get k=some o->∃o',L'.get k=some o'/\Own.like o o':=by
  intro k p o n;obtain⟨g,t,cs,p⟩:=p;rw[p] at n;injection n with n
  subst n;obtain⟨cs',h⟩:=u k g t cs p;exact⟨_,h,rfl,rfl⟩
 constructor
 ·intro c v q h;cases c<;>simp only[C.leaf,aaq] at q<;>simp only[qx]
  case rw=>simp only[Rel]
  case elr=>simp only[Rel]
  case own k off =>
   have d:=h;simp only[Rel] at d;obtain⟨g,t,cs,f,_⟩:=d;refine bC l (fun j e=>?_) rfl h;rcases e with⟨off,e⟩ | e | e | ⟨_,_,_,e⟩ | ⟨_,_,e⟩
   ·injection e with e e2;subst e;exact hb ⟨g,t,cs,f⟩
   ·cases e
   ·cases e
   ·cases e
   ·cases e
  case ifo m ti k off =>
   have d:=h;simp only[Rel] at d;obtain⟨g,t,cs,f,_⟩:=d;refine bC l (fun j e=>?_) rfl h;rcases e with⟨off,e⟩ | e | e | ⟨_,_,_,e⟩ | ⟨_,_,e⟩
   ·cases e
   ·cases e
   ·cases e
   ·injection e with _ _ e;subst e;exact hb ⟨g,t,cs,f⟩
   ·cases e
  case slo k a =>
   have d:=h;simp only[Rel] at d;obtain⟨g,t,cs,r,f,_⟩:=d;exact rp l (hb ⟨g,t,cs,f⟩) h
  case slp=>simp only[Rel]
  case mpr k =>
   have d:=h;simp only[Rel] at d;obtain⟨g,cs,f,_⟩:=d;refine bC l (fun j e=>?_) rfl h;rcases e with⟨off,e⟩ | e | e | ⟨_,_,_,e⟩ | ⟨_,_,e⟩
   ·cases e
   ·cases e
   ·injection e with e;subst e;exact hb ⟨g,0,cs,f⟩
   ·cases e
   ·cases e
  all_goals
   exact bC l (fun s e=>by rcases e with⟨off,e⟩ | e | e | ⟨_,_,_,e⟩ | ⟨_,_,e⟩<;>cases e) rfl h
 ·intro c sv q h;cases c<;>simp only[C.leaf,aaq] at q<;>simp only[qx]
  case rw=>trivial
  case elr=>trivial
  case own k off =>
   have d:=h;simp only[aQ] at d;refine cW l (fun j e=>?_) rfl h;rcases e with⟨off,e⟩ | ⟨off,e⟩ | e | ⟨a,b,e⟩ | e | ⟨_,_,_,e⟩<;>first | cases e;done | skip
   injection e with e e2
   subst e;exact hb d.2
  case ifo m ti k off =>
   have d:=h;simp only[aQ,Rel] at d;obtain⟨v,_,g,t,cs,f,_⟩:=d;refine cW l (fun j e=>?_) rfl h;rcases e with⟨off,e⟩ | ⟨off,e⟩ | e | ⟨a,b,e⟩ | e | ⟨_,_,_,e⟩<;>first | cases e;done | skip
   injection e with _ _ e
   subst e;exact hb ⟨g,t,cs,f⟩
  case ownv k off =>
   have d:=h;simp only[aQ,Rel] at d;obtain⟨v,_,g,t,cs,f,_⟩:=d;refine cW l (fun j e=>?_) rfl h;rcases e with⟨off,e⟩ | ⟨off,e⟩ | e | ⟨a,b,e⟩ | e | ⟨_,_,_,e⟩<;>first | cases e;done | skip
   injection e with e e2
   subst e;exact hb ⟨g,t,cs,f⟩
  case slo k a =>
   have d:=h;simp only[aQ,Rel] at d;obtain⟨v,_,g,t,cs,r,f,_⟩:=d;exact tM l (hb ⟨g,t,cs,f⟩) h
  case slp=>trivial
  case mpr k =>
   have d:=h;simp only[aQ,Rel] at d;obtain⟨v,_,g,cs,f,_⟩:=d;refine cW l (fun j e=>?_) rfl h;rcases e with⟨off,e⟩ | ⟨off,e⟩ | e | ⟨a,b,e⟩ | e | ⟨_,_,_,e⟩<;>first | cases e;done | skip
   injection e with e
   subst e;exact hb ⟨g,0,cs,f⟩
  all_goals
   exact cW l (fun s e=>by rcases e with⟨off,e⟩ | ⟨off,e⟩ | e | ⟨a,b,e⟩ | e | ⟨_,_,_,e⟩<;>cases e) rfl h
def Gr (L:Loc) (c:C) (v:Value):SV:=match c with
 | .own k off=>.own k off
 | .elr k j off=>match L.get k with
  | some (.row (.slice a _ _) _ sz _ _)=>.el a (j*sz+off)
  | _=>.v v
 | _=>.v v
theorem AX {c:C}{v:Value}(h:Rel F L c v):aQ F L c (Gr L c v)/\conc L (Gr L c v)=v/\(∀k off,Gr L c v=.own k off->∃g t cs,L.get k=some (.box g t cs))/\(∀f j,Gr L c v=.el f j->f≠none):=by
 cases c
 case own k off =>
  simp only[Rel] at h;obtain⟨g,t,cs,h,rfl⟩:=h;refine⟨⟨rfl,g,t,cs,h⟩,by simp only[Gr,conc,h],fun l d e=>?_,fun f j e=>(by cases e)⟩;injection e with e1 e2
  subst e1;exact⟨g,t,cs,h⟩
 case pt es off =>
  simp only[Rel] at h;obtain⟨b,o,vs,rfl,m,p⟩:=h;exact⟨⟨b,o,0,vs,.inl ⟨rfl,rfl⟩,m,p⟩,rfl,fun l d e=>(by cases e),fun f j e=>(by cases e)⟩
 case ownv=>exact h.elim
 case slp=>exact h.elim
 case elr k j off =>
  simp only[Rel] at h;obtain⟨f,t,sz,n,c,xs,rfl,h⟩:=h;simp only[Gr,h];exact⟨⟨f,t,sz,n,c,xs,rfl,h⟩,rfl,fun l d e=>(by cases e),fun q r e=>by injection e with e _;subst e;simp⟩
 case any=>exact⟨trivial,rfl,fun l d e=>(by cases e),fun f j e=>(by cases e)⟩
 all_goals
  exact⟨⟨v,rfl,h⟩,rfl,fun l d e=>(by cases e),fun f j e=>(by cases e)⟩
theorem IU {F0:aD}{L0:Loc}{f:Env}{d:aX}{y m:Act}{asg:List Nat}{r:List Nat}{vs:List C}{L1:Loc}{F1:aD}(b:aG L0 f y) (u:∀j,aQ F0 L0 (d j) (f j)) (hF:F0.le F1)
  (hb:∀k g t cs,L0.get k=some (.box g t cs)->∃cs',L1.get k=some (.box g t cs')) (s:∀j,j∉asg->m.tmps.getD j undef=y.tmps.getD j undef)
  (hv:∀(i j:Nat) c,r[i]?=some j->vs[i]?=some c->Rel F1 L1 c (m.tmps.getD j undef)) :
  ∃n,aG L1 n m/\∀j,aQ F1 L1 (qz r vs (tN asg d) j) (n j):=by
 have key:∀j,∃sv,aQ F1 L1 (qz r vs (tN asg d) j) sv/\conc L1 sv=m.tmps.getD j undef/\(∀k off,sv=.own k off->∃g t cs,L1.get k=some (.box g t cs))/\(∀q i,sv=.el q i->q≠none):=by
  intro j;rcases Cu r vs (tN asg d) j with h | ⟨i,c,h1,h2,h3⟩
  ·rw[h];simp only[tN];split
   ·exact⟨.v (m.tmps.getD j undef),trivial,rfl,fun _ _ e=>(by cases e),fun _ _ e=>(by cases e)⟩
   ·rename_i z;have hj:j∉asg:=fun h=>by rw[cT.2 h] at z;cases z
    obtain⟨u1,u2⟩:=Gq hF hb;refine⟨f j,aQ.mp u1 u2 3 (u j),?_,?_,b.el j⟩
    ·rw[s j hj,b.eq j];cases e:f j with
     | v x=>rfl
     | el x i=>rfl
     | own k off =>
      obtain⟨g,t,cs,p⟩:=b.own j k off e;obtain⟨cs',l⟩:=hb _ _ _ _ p;simp only[conc,p,l]
    ·intro k off e;obtain⟨g,t,cs,p⟩:=b.own j k off e;obtain⟨cs',l⟩:=hb _ _ _ _ p;exact⟨g,t,cs',l⟩
  ·rw[h3];obtain⟨s1,s2,s3,s4⟩:=AX (hv i j c h1 h2);exact⟨_,s1,s2,s3,s4⟩
 refine⟨fun j=>(key j).choose,⟨fun t=>?_,fun t k off e=>?_,fun t q j e=>?_⟩,fun j=>(key j).choose_spec.1⟩
 ·exact(key t).choose_spec.2.1.symm
 ·exact(key t).choose_spec.2.2.1 k off e
 ·exact(key t).choose_spec.2.2.2 q j e
theorem zN {n:Nat}{F:aD}{L:Loc}{w:World}{a:Act}{asg:List Nat}{K K':cS}{b:Act}{w':World}(h:eY n F L w a asg K b w') (m:∀{F' L' ρ'},K F' L' ρ'->K' F' L' ρ'):eY n F L w a asg K' b w':=by
 obtain⟨F',L',ρ',f,k,l,d,e,j,c⟩:=h;exact⟨F',L',ρ',f,k,l,d,e,j,m c⟩
theorem yN {P:Program}{PS:qd}{G:Nat->Option (Nat×TypeId)}{a:Act}{w:World}{b:List aA}{K:TK}:∀(ks:List Nat) {F:aD}{L:Loc}{ρ:Env}{M:TL}{τ:aX},tX G PS ks->St F L w->aG L ρ a->TS G F L ρ M τ->dQ P PS false (ks.map aA.frz++b) M τ K ->
  ∃F' L' ρ' M' c,St F' L' w/\aG L' ρ' a/\Step F L w F' L' w/\TS G F' L' ρ' M' c/\dQ P PS false b M' c K:=by
 intro ks
 induction ks with
 | nil=>intro F L ρ M τ _ f d m h;exact⟨F,L,ρ,M,τ,f,d,Step.refl _ _ _,m,h⟩
 | cons k ks e =>
  intro F L ρ M τ p f d m h;simp only[aao,aay,fK] at h;obtain⟨F1,L1,aa,M1,t,x,y,v,s,h⟩:=Cp f d m (p k (by simp)) h;obtain⟨F2,L2,n,M2,l,u,k2,q,z,r⟩:=e (fun j hj=>p j (by simp[hj])) x y s h;exact⟨F2,L2,n,M2,l,u,k2,v.trans q,z,r⟩
theorem Gs:∀{ks:List Nat}{ss:List aA},∀k∈ks,k∈iY (yM ks (.regD ss))
 | [],_,k,h=>by cases h
 | j::l,ss,k,h=>by
  have:∀(l:List Nat),∀k∈l,k∈dR (l.map aA.frz):=by
   intro l
   induction l with
   | nil=>intro k h;cases h
   | cons j l b =>
    intro k h;simp only[aao,dR,aal] at h ⊢;exact h.imp id (b k)
  exact aah.2 (.inl (this (j::l) k h))
theorem Cv {P:Program}{PS:qd}{G:Nat->Option (Nat×TypeId)}{ρ:Env}{a:Act}{w:World}{ss:List aA}{E:Nat->TK}{R N:TK}{F:aD}{L:Loc}{M:TL}{τ:aX}:∀(ks:List Nat),tX G PS (iY (yM ks (.regD ss)))->St F L w->aG L ρ a->TS G F L ρ M τ->fG P PS (yM ks (.regD ss)) E R N M τ ->
  ∃F' L' ρ' M' b,St F' L' w/\aG L' ρ' a/\Step F L w F' L' w/\TS G F' L' ρ' M' b/\dQ P PS true ss M' b N
 | [],_,d,c,e,h=>⟨F,L,ρ,M,τ,d,c,Step.refl _ _ _,e,h⟩
 | k::l,r,d,c,e,h=>by
  have p:dQ P PS false ((k::l).map aA.frz++[]) M τ (fun M τ=>dQ P PS true ss M τ N):=by rw[aaA];exact h
  obtain⟨F1,L1,m,M1,f,s,t,u,n,q⟩:=yN (k::l) (fun j v=>r j (Gs j v)) d c e p;exact⟨F1,L1,m,M1,f,s,t,u,n,q⟩
theorem rC {M:TL}:∀{ks:List Nat},sN M ks=true->∀k∈ks,∀o,M.get k=some o->AW o=true
 | [],_,k,h,_,_=>by cases h
 | j::ks,b,k,h,o,e=>by
  simp only[sN] at b;split at b
  ·cases b
  ·cases b
  ·cases b
  ·rename_i f c d;rcases aal.1 h with rfl | h
   ·cases o with
    | box t cs=>exact vv e (f _ _)
    | map es=>exact vv e (c _)
    | win t p cs q=>exact vv e (d _ _ _ _)
    | row=>rfl
   ·exact rC b k h o e
theorem Gt {M:TL}{ks:List Nat}(b:sN M ks=true) (k:Nat) (h:k∈ks) (t:TypeId) (cs:List C):M.get k≠some (.box t cs):=fun e=>by cases rC b k h _ e
theorem DV {M:TL}{ks:List Nat}(b:sN M ks=true) (k:Nat) (h:k∈ks) (es:List (C×C)):M.get k≠some (.map es):=fun e=>by cases rC b k h _ e
theorem pI {A:cH}:∀(c:Code) {sc:aH},low P A c=some sc->∀{G:Nat->Option (Nat×TypeId)}{E:Nat->TK}{R N:TK}{F:aD}{L:Loc}{ρ:Env}{M:TL}{τ:aX}{a:Act}{w:World},tX G PS (iY sc)->St F L w->aG L ρ a->TS G F L ρ M τ->a.tmps.size=A.n ->
  fG P PS sc E R N M τ->c.wp P (QQ A.n F L w a (cQ c) (yE G PS) (fun j=>Both G (E j)) (Both G R) (Both G N)) a w:=by
 intro c
 induction c with
 | skip =>
  intro sc b G E R N F L ρ M τ a w m hs he z hn d;simp only[low,yo] at b;subst b;exact wp_skip ⟨F,L,ρ,hs,he,hn,rfl,Step.refl _ _ _,fun _ _=>rfl,M,τ,z,d⟩
 | label l =>
  intro sc b G E R N F L ρ M τ a w m hs he z hn d;simp only[low,yo] at b;subst b;exact wp_label ⟨F,L,ρ,hs,he,hn,rfl,Step.refl _ _ _,fun _ _=>rfl,M,τ,z,d⟩
 | exit id =>
  intro sc b G E R N F L ρ M τ a w m hs he z hn d;simp only[low,yo] at b;subst b;exact wp_exit ⟨F,L,ρ,hs,he,hn,rfl,Step.refl _ _ _,fun _ _=>rfl,M,τ,z,d⟩
 | ret =>
  intro sc b G E R N F L ρ M τ a w m hs he z hn d;simp only[low,yo] at b;subst b;exact wp_ret ⟨F,L,ρ,hs,he,hn,rfl,Step.refl _ _ _,fun _ _=>rfl,M,τ,z,d⟩
 | region r er cY =>
  intro sc b G E R N F L ρ M τ a w m hs he z hn d;cases cY with
  | false =>
   simp only[low] at b;split at b
   case h_2=>cases b
   rename_i ss dq;injection b with b;subst b
   simp only[lz,mZ,lA,m5,lB,jW,lC,lD,m6] at d;exact wp_region (xL _ dq m hs he z hn d (fun a' w' h=>h) fun v ch a' w' hc h=>⟨v,hc,h⟩)
  | true =>
   simp only[low] at b;split at b
   case h_2=>cases b
   rename_i is cl ss h1 h2;have h4:tF A.ord r=is:=by simp only[tF,h1]
   rw[h4] at h2;split at b
   case h_2 =>
    split at b
    case h_2=>cases b
    rename_i h3;injection b with b;subst b
    rw[Cf] at d;split at d
    case h_2=>exact d.elim
    rename_i bu;split at d
    ·exact qt h2 h3 hs he hn (fun s hs k e=>cj z.tl (rB bu s hs k e)) (d.out G (yE G PS) (fun F L ρ M τ f args vs K h1 h2 h3=>pE h1 h2 h3 d.st) F L ρ ⟨w,hs⟩ z) (fun a' w' h=>h) fun v ch a' w' F' L' gc g1 g2 g3 g4 g5 g6=>⟨v,gc,F',L',g1,g2,g3,g4,g5,g6⟩
    exact qt h2 h3 hs he hn (fun s hs k e=>cj z.tl (rB bu s hs k e)) (mC ss (vq h2) z d) (fun a' w' h=>h) fun v ch a' w' F' L' gc g1 g2 g3 g4 g5 g6=>⟨v,gc,F',L',g1,g2,g3,g4,g5,g6⟩
   rename_i h0;split at b
   case h_2=>cases b
   rename_i h3;injection b with b;subst b
   obtain⟨F1,L1,ad,M1,ap,ax,az,ag,ac,d⟩:=Cv _ m hs he z d;exact sH h2 h3 ax az hn (xN ss (Gp h2 h0) ac d) fun a' w' h=>eY.after (asg1:=[]) ag rfl (fun _ _=>rfl) h (fun _ h=>vv h List.not_mem_nil) (fun _ h=>h)
 | seq x y bl be =>
  intro sc b G E R N F L ρ M τ a w m hs he z hn d;simp only[low] at b;split at b
  case h_2=>cases b
  rename_i h1 h2;injection b with b;subst b
  simp only[lz,mZ,lA,m5,lB,jW,lC,lD,m6] at d;refine wp_seq (wp_mono (bl h1 m.left hs he z hn d) ?_);intro e a1 w1 u;cases e with
  | normal =>
   obtain⟨F1,L1,ad,g1,g2,g3,g4,g5,g6,M1,ap,g7,g8⟩:=u;refine wp_mono (be h2 m.right g1 g2 g7 g3 g8) ?_;intro e2 a2 w2 ce;cases e2<;>first
    | exact eY.after g5 g4 g6 ce (fun j h=>aah.2 (.inl h)) (fun j h=>aah.2 (.inr h))
    | exact(let⟨v,e,h⟩:=ce;⟨v,e,rT.after g5 g4 g6 h (fun j h=>aah.2 (.inl h)) (fun j h=>aah.2 (.inr h)) fun _ _ h=>h⟩)
    | exact ce
  | exit id=>exact u.mono fun j h=>aah.2 (.inl h)
  | ret=>exact u.mono fun j h=>aah.2 (.inl h)
  | goto l=>exact u
  | panic c=>exact(let⟨v,e,h⟩:=u;⟨v,e,h.mono fun j h=>aah.2 (.inl h)⟩)
  | outgrown=>exact u
 | cond c x y bl be =>
  intro sc b G E R N F L ρ M τ a w m hs he z hn d;simp only[low] at b;split at b
  case h_2=>cases b
  rename_i h0 h1 h2;injection b with b;subst b
  simp only[lz,mZ,lA,m5,lB,jW,lC,lD,m6] at d;split at d
  case h_2=>exact d.elim
  rename_i t ed;have hc:a.eval c=.bool t:=by rw[aI h0 he,bH (iO z.env ed)]
  refine wp_cond hc ?_;cases t
  ·simp only[wD] at d;refine wp_mono (be h2 m.right hs he z hn d) ?_;intro e a1 w1 u;cases e<;>first
    | exact u.mono fun j h=>aah.2 (.inr h)
    | exact(let⟨v,e,h⟩:=u;⟨v,e,h.mono fun j h=>aah.2 (.inr h)⟩)
    | exact u
  ·simp only[wD] at d;refine wp_mono (bl h1 m.left hs he z hn d) ?_;intro e a1 w1 u;cases e<;>first
    | exact u.mono fun j h=>aah.2 (.inl h)
    | exact(let⟨v,e,h⟩:=u;⟨v,e,h.mono fun j h=>aah.2 (.inl h)⟩)
    | exact u
 | block id x ih =>
  intro sc b G E R N F L ρ M τ a w m hs he z hn d;simp only[low] at b;split at b
  case h_2=>cases b
  rename_i h1;injection b with b;subst b
  simp only[lz,mZ,lA,m5,lB,jW,lC,lD,m6] at d;refine wp_block (wp_mono (ih h1 m hs he z hn d) ?_);intro e a1 w1 u;cases e with
  | exit j =>
   simp only[Exit.inBlock];simp only[QQ] at u
   by_cases hj:j=id
   ·subst hj;have hb:Nat.beq j j=true:=by simp
    rw[hb] at u;rw[o6 rfl];exact u
   ·have hb:Nat.beq j id=false:=by
     cases h:Nat.beq j id with
     | true=>exact vv (xo h) hj
     | false=>rfl
    rw[hb] at u;rw[vz hj];exact u
  | normal=>exact u
  | ret=>exact u
  | goto l=>exact u
  | panic c=>exact u
  | outgrown=>exact u
 | loop x ih =>
  intro sc b G E R N F L ρ M τ a w m hs he z hn d;simp only[low] at b;split at b
  case h_2=>cases b
  rename_i sx h1;injection b with b;subst b
  simp only[lz,mZ,lA,m5,lB,jW,lC,lD,m6] at d;split at d
  case h_2=>exact d.elim
  rename_i bz;obtain⟨σ,x0,Inv,ls,lv,Lf,μ,i0,i1,i2,i3,i4,i5⟩:=d
  -- the boxes that there are,with their addresses
  let G1:Nat->Option (Nat×TypeId):=fun k=>match L.get k with | some (.box g t _)=>some (g,t) | _=>none
  have cw:∀k g t cs,L.get k=some (.box g t cs)->G1 k=some (g,t):=fun k g t cs e=>by simp only[G1,e]
  have bv:Kp G1 L:=by
   intro k g t e;simp only[G1] at e;split at e
   ·rename_i g' t' cs h;injection e with e
    injection e with e1 e2
    subst e1 e2;exact⟨cs,h⟩
   ·cases e
  have cz:tX G1 PS (iY sx):=by
   intro k hk bx;exfalso;simp only[G1] at bx;split at bx
   ·rename_i g t cs e;have hr:=z.tl k;rw[e] at hr;cases e2:M.get k with
    | none=>rw[e2] at hr;exact hr
    | some o =>
     rw[e2] at hr;cases o with
     | row=>exact hr
     | box t' cs'=>exact Gt bz k hk t' cs' e2
     | map es=>exact DV bz k hk es e2
     | win t0 p0 c0 q0=>cases rC bz k hk _ e2
   ·exact bx rfl
  have hG:∀{L':Loc},Kp G1 L'->Kp G L':=fun hk k g t e=>let⟨cs,h⟩:=z.kp k g t e;hk k g t (cw k g t cs h);have db:∀{L':Loc},Kp G1 L'->∀k g t cs,L.get k=some (.box g t cs)->∃cs',L'.get k=some (.box g t cs'):=fun hk k g t cs h=>hk k g t (cw k g t cs h);have bt:∀{K:TK}{F' L' ρ'},Both G1 K F' L' ρ'->Both G K F' L' ρ':=fun⟨M',dk,h1,h2⟩=>⟨M',dk,⟨h1.tl,h1.env,hG h1.kp,h1.glob⟩,h2⟩;have dT:∀{F':aD}{L':Loc}{M':TL},dm F' L' M'->(∀k o,M'.get k=some o->o.Wf):=fun h k o e=>Pk h (fun _ _ e=>e) k o e
  -- a round's end,or what is ahead of the first round,is a head
  have ay:∀(y:σ) (F1:aD) (L1:Loc) (ad:Env) (M1:TL) (ap:aX) (a1:Act) (w1:World),F.le F1->St F1 L1 w1->aG L1 ad a1->TS G1 F1 L1 ad M1 ap->(∀j,j∉cQ x->a1.tmps.getD j undef=a.tmps.getD j undef) ->
    nS M1 (Lf y) ls (lv y) ap->gives M1 (Lf y) (Lf y)->∃L2,St F1 L2 w1/\Step F1 L1 w1 F1 L2 w1/\dm F1 L2 (Lf y)/\Kp G1 L2/\sK (lv y) /\
     ∃bk,aG L2 bk a1/\∀j,aQ F1 L2 (qz ls (lv y) (tN (cQ x) τ) j) (bk j):=by
   intro y F1 L1 ad M1 ap a1 w1 bb ax az ac dl hh hg;obtain⟨g1,g2⟩:=tW ax ac.tl hg;have bc:Kp G1 (vp L1 (Lf y)):=by
    intro k g t e;obtain⟨cs,ca⟩:=ac.kp k g t e;obtain⟨eB,dd⟩:=bv k g t e;refine⟨cs,?_⟩;rcases eK (z.tl k) with⟨c1,c2⟩ | ⟨q,p,c1,c2,hr⟩
    ·rw[dd] at c2;cases c2
    ·rw[dd] at c2;injection c2 with c2
     subst c2;cases q with
     | row=>exact hr.elim
     | box t' cs' =>
      obtain⟨o2,e2⟩:=jz (i3 y) c1 rfl;rw[j7,e2];simp only[ca]
     | map es =>
      obtain⟨o2,e2⟩:=jz (i3 y) c1 rfl;rw[j7,e2];simp only[ca]
     | win t0 p0 c0 q0 =>
      obtain⟨o2,e2⟩:=jz (i3 y) c1 rfl;rw[j7,e2];simp only[ca]
   refine⟨vp L1 (Lf y),g1,g2,tV ac.tl hg,bc,zM ac (i4 y) hh hg,IU he z.env bb (db bc) dl ?_⟩;intro i j c e1 e2;have hr:=lG (ac.env j);have hv:a1.tmps.getD j undef=conc L1 (ad j):=az.eq j;rw[hv];have cy:=zL hh e1 e2;rcases cy with e | ⟨e,hk⟩ | ⟨e,e'⟩ | ⟨e,k',t',du,e',q1,q2⟩ | ⟨els,e,e'⟩
   ·rw[e];simp only[Rel]
   ·have hc:(ap j).cel=ap j:=by
     rw[e];rw[e] at hr;cases c<;>first | rfl | (simp only[fU,mo,aaq] at hk;done)
    rw[hc] at hr;exact rA ac.tl (.inr (.inl ⟨e,hk⟩)) hr
   ·rw[e] at hr;exact rA ac.tl (.inr (.inr (.inl ⟨rfl,e'⟩))) hr
   ·rw[e] at hr;exact rA ac.tl (.inr (.inr (.inr (.inl ⟨rfl,k',t',du,e',q1,q2⟩)))) hr
   ·rw[e] at hr;exact rA ac.tl (.inr (.inr (.inr (.inr ⟨els,rfl,e'⟩)))) hr
  refine uz (fun n a1 w1=>∃(y:σ) (F1:aD) (L1:Loc),n=μ y/\F.le F1/\Inv y/\St F1 L1 w1/\a1.tmps.size=A.n/\a1.defers=a.defers/\Step F L w F1 L1 w1/\(∀j,j∉cQ x->a1.tmps.getD j undef=a.tmps.getD j undef) /\
   dm F1 L1 (Lf y)/\Kp G1 L1/\sK (lv y)/\∃ad,aG L1 ad a1/\∀j,aQ F1 L1 (qz ls (lv y) (tN (cQ x) τ) j) (ad j)) ?_ ?_
  ·obtain⟨L2,k1,k2,k3,k4,k5,k6⟩:=ay x0 F L ρ M τ a w (aD.le_refl F) hs he ⟨z.tl,z.env,bv,z.glob⟩ (fun _ _=>rfl) i1 i2;exact⟨_,x0,F,L2,rfl,aD.le_refl F,i0,k1,hn,rfl,k2,fun _ _=>rfl,k3,k4,k5,k6⟩
  ·rintro n a1 w1 ⟨y,F1,L1,rfl,bb,cM,ax,eb,bi,ag,ar,bs,bc,dx,ad,az,cd⟩;refine wp_mono (ih h1 cz ax az (⟨bs,cd,bc,ax.glob⟩:TS G1 F1 L1 ad (Lf y) (qz ls (lv y) (tN (cQ x) τ))) eb (i5 y cM dx (dT bs))) ?_;intro e a2 w2 u;cases e with
   | normal =>
    obtain⟨F2,L2,bk,g1,g2,g3,g4,g5,g6,M2,dp,g7,y',k1,k2,k3,k4⟩:=u;have bo:∀j,j∉cQ x->a2.tmps.getD j undef=a.tmps.getD j undef:=fun j hj=>by rw[g6 j hj,ar j hj]
    obtain⟨L3,q1,q2,q3,q4,q5,q6⟩:=ay y' F2 L2 bk M2 dp a2 w2 (aD.le_trans bb g5.le) g1 g2 g7 bo k2 k3;exact⟨μ y',k4,y',F2,L3,rfl,aD.le_trans bb g5.le,k1,q1,g3,g4.trans bi,(ag.trans g5).trans q2,bo,q3,q4,q5,q6⟩
   | exit j=>exact eY.after ag bi ar (zN u bt) (fun j h=>h) (fun j h=>h)
   | ret=>exact eY.after ag bi ar (zN u bt) (fun j h=>h) (fun j h=>h)
   | goto l=>exact u
   | panic c=>exact(let⟨v,e,h⟩:=u;⟨v,e,rT.after ag bi ar h (fun j h=>h) (fun j h=>h) fun F' L' h=>⟨hG h.1,h.2⟩⟩)
   | outgrown=>exact u
 | rangeFunc f ps x y bl be=>intro sc b;simp only[low] at b;cases b
 | scope x ih =>
  intro sc b G E R N F L ρ M τ a w m hs he z hn d;simp only[low] at b;refine wp_scope_straight (wp_mono (ih b m hs he z hn d) ?_);intro e a1 w1 u;cases e<;>exact u
 | goto l=>intro sc b;simp only[low] at b;cases b
 | refuse fi=>intro sc b;simp only[low] at b;cases b
end
section
variable {P:Program}{G:Nat->Option (Nat×TypeId)}{F:aD}{L:Loc}{ρ:Env}{M:TL}{τ:aX}{a:Act}{w:World}
theorem uR (e:TS G F L ρ M τ):∀{rs:List RV}{K:List C->Prop},qC M τ rs K->lR L ρ rs (fun vs=>∃cs,aF F L cs vs/\K cs)
 | [],K,h=>⟨[],by simp only[aF],h⟩
 | (t,none)::l,K,h=>by
  simp only[qC] at h;simp only[lR];refine retV_imp (uR e h) ?_;rintro vs ⟨cs,f,m⟩;exact⟨_,by simp only[aF];exact⟨_,_,rfl,lG (e.env t),f⟩,m⟩
 | (t,some (agg,n))::l,K,h=>by
  simp only[qC] at h;simp only[lR];split at h
  case h_2=>exact h.elim
  rename_i k off c;split at h
  case h_2=>exact h.elim
  rename_i ty cs r;split at h
  case h_2=>exact h.elim
  rename_i s;obtain⟨j,_⟩:=fo (x:=.t t) e.env c;have j:ρ t=.own k off:=j;obtain⟨g,ty,vs,p,q,o⟩:=kP e.tl r;have d:=(q.drop off).take n;simp only[j,p,f8 o.2.2 (dw (show((vs.drop off).take n).length=n by rw[d.len];exact bD s))];refine retV_imp (uR e h) ?_;rintro us ⟨ds,f,m⟩;refine⟨_,?_,m⟩;simp only[aF];have:=lG (cG (agg:=agg) d);exact⟨_,_,rfl,this,f⟩
where
 retV_imp {L:Loc}{ρ:Env}:∀{rs:List RV}{K K':List Value->Prop},lR L ρ rs K->(∀vs,K vs->K' vs)->lR L ρ rs K'
 | [],K,K',h,c=>c _ h
 | (t,none)::l,K,K',h,c=>by
  simp only[lR] at h ⊢;exact retV_imp h fun vs=>c _
 | (t,some (agg,n))::l,K,K',h,c=>by
  simp only[lR] at h ⊢;generalize ρ t=z at h ⊢;split at h
  case h_2=>exact h.elim
  rename_i k off;generalize L.get k=y at h ⊢;split at h
  case h_2=>exact h.elim
  rename_i ty cs;generalize jg ty ((cs.drop off).take n) n=b at h ⊢;cases b
  ·exact h.elim
  ·exact retV_imp h fun vs=>c _
theorem LP {cs:List C}{vs:List Value}(h:aF F L cs vs):Rel F L (sM cs) (ia vs):=by
 match cs,vs,h with
 | [],vs,h =>
  simp only[aF] at h;subst h;simp only[sM,ia,Rel];exact⟨[],rfl,by simp only[aF]⟩
 | [c],vs,h =>
  simp only[aF] at h;obtain⟨v,b,rfl,e,rfl⟩:=h;exact e
 | c1::j::cs,vs,h =>
  have d:=h;simp only[aF] at d;obtain⟨v,b,rfl,e,k,f,rfl,l⟩:=d;simp only[sM,ia,Rel];exact⟨_,rfl,h⟩
theorem xO:∀(l:List C) (k j:Nat),vI k l j=if k<=j then(l[j-k]?).getD .und else .und
 | [],k,j=>by simp[vI]
 | v::l,k,j=>by
  simp only[vI,AR]
  by_cases h:j=k
  ·subst h;simp
  ·rw[vz h,xO l (k+1) j]
   by_cases b:k<=j
   ·rw[o6 (by omega),o6 b,show j-k=(j-(k+1))+1 by omega,aaY]
   ·rw[vz (by omega),vz b]
theorem IV {c:C}{v:Value}(h:Rel F L c v):Rel F L c.ZQ v:=by
 cases c<;>first
  | exact h
  | exact tQ (c:=.nils) h
  | exact uM h
  | (simp only[Rel] at h
     obtain⟨vs,d,b⟩:=h;simp only[C.ZQ,Rel]
     first
      | exact⟨vs,d,j5 b⟩
      | exact⟨vs,d,b.map fun c _ v=>iP⟩)
theorem xP {F':aD}{L':Loc}{w':World}{Li:List Own}(j:St F' L' w') (c:Step F (inp Li) w F' L' w') (hb:∀(i:Nat) g t cs,Li[i]?=some (.box g t cs)->∃cs',L'.get (1000+i)=some (.box g t cs')) :
  ∃Lo,St F' (inp Lo) w'/\Step F (inp Li) w F' (inp Lo) w'/\Lo.length=Li.length/\∀(i:Nat) g t cs,Li[i]?=some (.box g t cs)->∃cs',Lo[i]?=some (.box g t cs'):=by
 let Lo:List Own:=Li.mapIdx fun i o=>match o with
  | .box _ _ _=>match L'.get (1000+i) with | some p=>p | none=>.row (.slice none 0 0) 0 0 0 []
  | .row _ t sz _ _=>.row (.slice none 0 0) t sz 0 []
 have get:∀k p,(inp Lo).get k=some p->L'.get k=some p\/∃t sz,p=.row (.slice none 0 0) t sz 0 []:=by
  intro k p e;rw[aW] at e;split at e
  case isFalse=>cases e
  rename_i z;simp only[Lo,List.getElem?_mapIdx] at e;cases h:Li[k-1000]? with
  | none=>rw[h] at e;cases e
  | some o =>
   rw[h] at e;simp only[aa5,yo] at e;cases o with
   | box g t cs =>
    simp only at e;rw[show 1000+(k-1000)=k by omega] at e;cases m:L'.get k with
    | none=>rw[m] at e;exact .inr ⟨0,0,e.symm⟩
    | some q=>rw[m] at e;exact .inl (by rw[<-e])
   | row v t sz n xs=>exact .inr ⟨t,sz,e.symm⟩
 refine⟨Lo,⟨j.frz,fun k o e=>?_,fun k o g e d=>?_,fun k l o o' g e x d f=>?_,j.glob⟩,⟨c.le,c.os,c.tape,c.output,c.size,c.same,c.frz,fun b r=>c.own b ?_⟩,by simp[Lo],fun i g t cs hi=>?_⟩
 ·rcases get k o e with h | ⟨t,sz,rfl⟩
  ·exact j.own k o h
  ·exact World.ownsRow_nil w' 0 t sz
 ·rcases get k o e with h | ⟨t,sz,rfl⟩
  ·exact j.off k o g h d
  ·cases d
 ·rcases get k o e with h | ⟨t,sz,rfl⟩<;>rcases get l o' x with u | ⟨y,s,rfl⟩
  ·exact j.sep k l o o' g h u d f
  ·cases f
  ·cases d
  ·cases d
 ·obtain⟨k,o,e,d⟩:=r;rcases get k o e with h | ⟨t,sz,rfl⟩
  ·exact⟨k,o,h,d⟩
  ·cases d
 ·obtain⟨cs',h⟩:=hb i g t cs hi;exact⟨cs',by simp only[Lo,List.getElem?_mapIdx,hi,aa5,h]⟩
theorem NH {n:Nat}{asg:List Nat}{fn:Func}{rs:List RV}{Lin:List TO}{Li:List Own}{R:List TO->C->Prop}{a0 a':Act}{w':World}(z:pO P fn.results.toList=some rs) (hl:Li.length=Lin.length) (av:dm F (inp Li) (jn Lin))
  (am:∀k g t cs,(inp Li).get k=some (.box g t cs)->G k=some (g,t)) (hq:eY n F (inp Li) w a0 asg (Both G (fun L ρ=>qC L ρ rs fun vs=>pW Lin L (sM vs) R)) a' w') :
  a'.defers=a0.defers/\∃v,(results fn a'.tmps).run P w'=.ok v w'/\∃F' Lo,St F' (inp Lo) w'/\Step F (inp Li) w F' (inp Lo) w'/\hO Li R F' Lo v:=by
 obtain⟨F',L',ρ',g1,g2,g3,g4,g5,g6,M',cc,g7,aa⟩:=hq;obtain⟨us,hm,cs,al,⟨fz,ko,hK⟩⟩:=qu g1 g2 z (uR g7 aa);have ar:TS G F' L' ρ' M' (fun _=>.any):=⟨g7.tl,fun _=>trivial,g7.kp,g7.glob⟩;obtain⟨F2,L2,M2,ce,bc,k1,k2,k3,s,k5,M3,c2,c3,Mo,q1,bi,q4,q5,q6,q7⟩:=pF g1 g2 ar (by simp only[aF];exact⟨_,[],rfl,LP al,rfl⟩) hK;subst q1;simp only[aF] at k5;obtain⟨v,cz,ev,hv,rfl⟩:=k5;injection ev with ev _
 subst ev;have ba:∃L3,St F2 L3 w'/\Step F2 L2 w' F2 L3 w'/\dm F2 L3 M3/\Rel F2 L3 c3 (ia us)/\∀k g t cs,L2.get k=some (.box g t cs)->M3.get k≠none->L3.get k=some (.box g t cs):=by
  rcases bi with⟨rfl,rfl⟩ | ⟨q2,q3⟩
  ·exact⟨L2,k1,Step.refl _ _ _,s.tl,hv,fun k g t cs h _=>h⟩
  ·obtain⟨b1,b2⟩:=tW k1 s.tl q2;refine⟨_,b1,b2,tV s.tl q2,rA s.tl q3 hv,fun k g t cs h l=>?_⟩;rw[j7];cases e:M3.get k with
   | none=>exact vv e l
   | some o=>simp only[h]
 obtain⟨L3,b1,b2,f,q,ap⟩:=ba;obtain⟨Lo,y,d2,d3⟩:=qF f q4;have be:=cV q5;have bj:∀k g t,G k=some (g,t)->∃cs,(M3.get k≠none->L3.get k=some (.box g t cs)):=by
  intro k g t e;obtain⟨cs,h⟩:=s.kp k g t e;exact⟨cs,fun l=>ap _ _ _ _ h l⟩
 refine⟨g4,ia us,?_,F2,Lo,b1.handed y be,?_,Mo.map (TO.ZC (C.ren (cD ko 1000))),c3.ZQ.ren (cD ko 1000),by simp[d2],sS f d2 y d3,(IV q).ren (nJ y),?_,q7 (by simp only[sK];exact⟨q.wf,trivial⟩)⟩
 ·rw[sJ];rw[Array.mapM_eq_mapM_toList];simp only[Sem.run_bind,Sem.run_map];rw[hm];simp only[Result.andThen_ok,Sem.run_pure];congr 1
  match us with
  | []=>rfl
  | [t]=>rfl
  | t::u::r =>
   simp only[ia];rw[dif_neg (by simp)]
 ·have c:=(g5.trans k3).trans b2;obtain⟨x1,x2⟩:=eW y;refine⟨c.le,c.os,c.tape,c.output,c.size,c.same,c.frz,fun b hb=>c.own b ?_⟩;obtain⟨j,p,e,hb⟩:=hb;rw[aW] at e;split at e
  case isFalse=>cases e
  have d:j-1000<Lo.length:=(aai.1 e).1;have hk:ko[j-1000]?=some (ko[j-1000]'(by omega)):=aag (by omega);exact⟨_,p,by rw[x2 _ _ hk];exact e,hb⟩
 ·intro i g t cs hi;have d:i<Lin.length:=by rw[<-hl];exact(aai.1 hi).1
  have x:(inp Li).get (1000+i)=some (.box g t cs):=by rw[aW,o6 (by omega),show 1000+i-1000=i by omega];exact hi
  have hr:=av (1000+i);rw[cA,o6 (by omega),show 1000+i-1000=i by omega,x,aag d] at hr;have ae:AW Lin[i]=false:=by
   cases bd:Lin[i] with
   | row=>rw[bd] at hr;exact hr.elim
   | box t' cs'=>rfl
   | map es=>rfl
   | win t0 p0 c0 q0=>rfl
  ·obtain⟨k',y1,y2⟩:=eZ q6 i _ (aag d) ae;rw[List.getElem?_range' d] at y1;injection y1 with y1
   obtain⟨x1,x2⟩:=eW y;obtain⟨z1,z2⟩:=Ch q4;have m:i<Mo.length:=by rw[z1];exact(aai.1 y2).1
   have ad:M3.get k'≠none:=by rw[z2 i k' y2,aag m];simp
   have aw:k'=1000+i:=by omega
   subst aw;obtain⟨ag,h2⟩:=bj _ g t (am _ _ _ _ x);exact⟨ag,by rw[<-x2 i _ y2];exact h2 ad⟩
theorem aq {Pp:Value->Prop}{f:FuncId}{fn:Func}{sc:aH}{A:cH}{rs:List RV}{args:List C}{Lin:List TO}{R:List TO->C->Prop}(hf:P.funcs[f]?=some fn) (b:aB P A fn=some (sc,A.n,rs,false)) (q:Nat.ble args.length A.n=true)
  (h:sK args->(∀o∈Lin,o.Wf)->fG P ⟨Pp,[],none⟩ sc (fun _ _ _=>False) (fun L ρ=>qC L ρ rs fun vs=>pW Lin L (sM vs) R) (fun L ρ=>qC L ρ rs fun vs=>pW Lin L (sM vs) R) (jn Lin) (vI 0 args)):CallsTX P f args Lin R Pp:=by
 unfold aB at b;split at b
 case h_2=>cases b
 rename_i c hb;split at b
 case h_2=>cases b
 rename_i bl av z y;injection b with b
 injection b with e1 e2
 injection e2 with e2 e3
 injection e3 with e3 hname
 subst e1 e3;refine⟨fun F Li vs hl s ha=>⟨⟨fn,hf,by rw[hb];rfl,hname⟩,hO.ZL,fun w hs=>?_⟩⟩;refine calls_of_wp hf hb ?_;have ao:∀o∈Lin,o.Wf:=by
  intro o ho;obtain⟨i,hi⟩:=aaE.1 ho;have:=s (1000+i);rw[cA,aW,o6 (by omega),o6 (by omega),show 1000+i-1000=i by omega,hi] at this;cases e:Li[i]? with
  | none=>rw[e] at this;exact this.elim
  | some p=>rw[e] at this;exact di.wf this
 have h:=h ha.wf ao;have ab:=ha.len;have q:=aav q
 -- the frame
 have key:∀j,∃sv,aQ F (inp Li) (vI 0 args j) sv/\conc (inp Li) sv=(vs.toArray++Array.replicate (fn.ntmps-vs.toArray.size) undef).getD j undef/\(∀k off,sv=.own k off->∃g t cs,(inp Li).get k=some (.box g t cs))/\(∀u i,sv=.el u i->u≠none):=by
  intro j;rw[xO];simp only[aaK,aaD,Nat.sub_zero,aaF];cases e:args[j]? with
  | some c =>
   have r:j<vs.length:=by rw[ab];exact(aai.1 e).1
   obtain⟨s1,s2,s3,s4⟩:=AX (ha.at e (aag r));refine⟨_,s1,?_,s3,fun u i e=>s4 u i e⟩;rw[s2,Array.getElem?_append_left (by simpa using r)];simp[r]
  | none =>
   have an:vs.length<=j:=by rw[ab];exact aa4.1 e
   refine⟨.v undef,qJ,?_,fun _ _ e=>(by cases e),fun _ _ e=>(by cases e)⟩;rw[Array.getElem?_append_right (by simpa using an)];simp only[Array.getElem?_replicate,conc];split<;>rfl
 let aa:Env:=fun j=>(key j).choose
 have he:aG (inp Li) aa {tmps:=vs.toArray++Array.replicate (fn.ntmps-vs.toArray.size) undef,defers:=[]} :=
  ⟨fun t=>(key t).choose_spec.2.1.symm,fun t k off e=>(key t).choose_spec.2.2.1 k off e,fun t u j e=>(key t).choose_spec.2.2.2 u j e⟩
 let G:Nat->Option (Nat×TypeId):=fun k=>match(inp Li).get k with | some (.box g t _)=>some (g,t) | _=>none
 have x:∀k g t cs,(inp Li).get k=some (.box g t cs)->G k=some (g,t):=fun k g t cs e=>by simp only[G,e]
 have ag:Kp G (inp Li):=by
  intro k g t e;simp only[G] at e;split at e
  ·rename_i g' t' cs h;injection e with e
   injection e with e1 e2
   subst e1 e2;exact⟨cs,h⟩
  ·cases e
 have am:∀k,G k≠none->1000<=k:=by
  intro k d;simp only[G] at d;split at d
  ·rename_i g t cs h;rw[aW] at h;split at h
   ·assumption
   ·cases h
  ·exact vv rfl d
 have ht:TS G F (inp Li) aa (jn Lin) (vI 0 args):=⟨s,fun j=>(key j).choose_spec.1,ag,hs.glob⟩;refine wp_mono (pI c z (fun k _ d=>.inl (am k d)) hs he ht (by simp[e2];omega) h) ?_;intro e a' w' m;have fin:∀{a0:Act},a0.defers=[]->eY A.n F (inp Li) w a0 (cQ c) (Both G (fun L ρ=>qC L ρ av fun vs=>pW Lin L (sM vs) R)) a' w'->a'.defers=[]/\∃v,(results fn a'.tmps).run P w'=.ok v w' /\
   ∃v' F' Lo,Ending.returned v=.returned v'/\St F' (inp Lo) w'/\Step F (inp Li) w F' (inp Lo) w'/\hO Li R F' Lo v':=by
  intro a0 ap m;obtain⟨k1,v,k2,F',Lo,k3,k4,k5⟩:=NH y hl s x m;exact⟨k1.trans ap,v,k2,v,F',Lo,rfl,k3,k4,k5⟩
 cases e with
 | normal=>exact(let⟨h1,v,h2,h3⟩:=fin rfl m;⟨h1,v,h2,.inl h3⟩)
 | ret=>exact(let⟨h1,v,h2,h3⟩:=fin rfl m;⟨h1,v,h2,.inl h3⟩)
 | exit j=>obtain⟨F',L',ρ',_,_,_,_,_,_,M',bc,_,h⟩:=m;exact h.elim
 | goto l=>exact m.elim
 | panic c =>
  obtain⟨v,ac,F',L',g1,g2,g3,g4,g5,kp,hp,_⟩:=m;obtain⟨Lo,q1,q2,q3,q4⟩:=xP g1 g2 (fun i g t cs hi=>kp (1000+i) g t (x _ g t cs (by rw[aW,o6 (by omega),show 1000+i-1000=i by omega];exact hi)));exact⟨g4,.inr ⟨v,_,F',Lo,rfl,ac,q1,q2,q3,q4,hp⟩⟩
 | outgrown=>exact m.elim
theorem CallsTX.noPan {f:Nat}{args:List C}{Lin:List TO}{R:List TO->C->Prop}(h:CallsTX P f args Lin R fun _=>False):CallsT P f args Lin R :=
 ⟨fun F Li vs j d c=>let k:=h.out F Li vs j d c;⟨k.ent,k.mono,fun w b=>(k.run w b).mono fun e w' q=>q.elim id fun⟨_,_,_,_,_,_,_,_,_,_,q⟩=>q.elim⟩⟩
theorem aj {f:FuncId}{fn:Func}{sc:aH}{A:cH}{rs:List RV}{args:List C}{Lin:List TO}{R:List TO->C->Prop}(d:P.funcs[f]?=some fn) (b:aB P A fn=some (sc,A.n,rs,false)) (c:Nat.ble args.length A.n=true)
  (h:sK args->(∀o∈Lin,o.Wf)->fG P ⟨fun _=>False,[],none⟩ sc (fun _ _ _=>False) (fun L ρ=>qC L ρ rs fun vs=>pW Lin L (sM vs) R) (fun L ρ=>qC L ρ rs fun vs=>pW Lin L (sM vs) R) (jn Lin) (vI 0 args)):CallsT P f args Lin R :=
 (aq d b c h).noPan
end
section
variable {P:Program}{L:TL}{ρ:aX}
def iD (Lo:List TO) (x:C):List TO->C->Prop:=fun Mo v=>Mo=Lo/\v=x
theorem bA {f:Nat}{args a:List C}{K:TL->aX->C->Prop}{x:C}(h:CallsT P f a [] (iD [] x)) (d:(args.map fun c=>c.ZG.ren (cD [] 1000))=a) (k:Wf x->K L ρ (x.ren (aZ [])).slt):qB P f args L ρ K:=by
 subst d;exact .mk ⟨[],[],[],L,[],_,.inl rfl,rfl,rfl,rfl,rfl,rfl,h,fun v Mo ⟨b,j⟩ e _=>by subst b j;exact⟨rfl,k e⟩⟩
theorem dW {f:Nat}{args a:List C}{K:TL->aX->C->Prop}{d:Option Nat}{x:C}(h:CallsT P f a [] (iD [] x)) (e:(args.map fun c=>c.ZG.ren (cD [] 1000))=a) (k:Wf x->K L ρ x.slt):w8 P f args L ρ d K:=by
 subst e;exact .frz _ h fun v Mo ⟨b,l⟩ j=>by subst b l;exact⟨rfl,k j⟩
theorem callO (ks ko:List Nat) {f:Nat}{args a:List C}{K:TL->aX->C->Prop}{x:C}{Lin Lin' Lo:List TO}(h:CallsT P f a Lin' (iD Lo x)) (n:L.sub ks=some Lin)
  (d:(bJ ks&&bJ ko&&mq L ks ko&&aU Lin ks ko)=true) (q:(args.map fun c=>c.ZG.ren (cD ks 1000))=a) (s:Lin.map (TO.ZC (C.ren (cD ks 1000)))=Lin') (j:ko.length=Lo.length)
  (k:Wf x->(∀o∈Lo,o.Wf)->K (((L.ZB ks).kills (rowsOf L ks)).puts ko (Lo.map (TO.ZC (C.ren (aZ ko))))) (fF (rowsOf L ks) ρ) (x.ren (aZ ko)).slt):qB P f args L ρ K:=by
 subst q s;simp only[aaj] at d;obtain⟨⟨⟨r,e⟩,c3⟩,c4⟩:=d;exact .mk ⟨[],ks,ko,L,Lin,_,.inl rfl,n,r,e,c3,c4,h,fun v Mo ⟨p,m⟩ l b=>by subst p m;exact⟨j,k l b⟩⟩
theorem AY (ks ko:List Nat) {f:Nat}{args a:List C}{K:TL->aX->C->Prop}{x:C}{Lin Lin' Lo:List TO}(h:CallsT P f a Lin' (iD Lo x)) (n:L.sub ks=some Lin)
  (d:(bJ ks&&bJ ko&&mq L ks ko&&aU Lin ks ko)=true) (q:(args.map fun c=>c.ZG.ren (cD ks 1000))=a) (s:Lin.map (TO.ZC (C.ren (cD ks 1000)))=Lin') (j:ko.length=Lo.length)
  (k:Wf x->(∀o∈Lo,o.Wf)->K (((L.ZB ks).kills (rowsOf L ks)).puts ko (Lo.map (TO.ZC (C.ren (aZ ko))))) (fF (rowsOf L ks) ρ) (x.ren (aZ ko)).slt):DE P f args L ρ K:=by
 subst q s;simp only[aaj] at d;obtain⟨⟨⟨r,e⟩,c3⟩,c4⟩:=d;exact .mk ⟨ks,ko,Lin,_,n,r,e,c3,c4,h,fun v Mo ⟨p,m⟩ l b=>by subst p m;exact⟨j,k l b⟩⟩
theorem Q9 (L1:TL) (ks ko:List Nat) {f:Nat}{args a:List C}{K:TL->aX->C->Prop}{x:C}{Lin Lin' Lo:List TO}(h:CallsT P f a Lin' (iD Lo x)) (l:gives L L1 L1) (q:L1.sub ks=some Lin)
  (d:(covers L L1&&bJ ks&&bJ ko&&mq L1 ks ko&&aU Lin ks ko)=true) (s:(args.map fun c=>c.ZG.ren (cD ks 1000))=a) (u:Lin.map (TO.ZC (C.ren (cD ks 1000)))=Lin') (m:ko.length=Lo.length)
  (k:Wf x->(∀o∈Lo,o.Wf)->K (((L1.ZB ks).kills (rowsOf L1 ks)).puts ko (Lo.map (TO.ZC (C.ren (aZ ko))))) (fF (rowsOf L1 ks) ρ) (x.ren (aZ ko)).slt):qB P f args L ρ K:=by
 subst s u;simp only[aaj] at d;obtain⟨⟨⟨⟨j,t⟩,e⟩,c3⟩,c4⟩:=d;exact .mk ⟨[],ks,ko,L1,Lin,_,.inr ⟨l,j⟩,q,t,e,c3,c4,h,fun v Mo ⟨r,p⟩ n b=>by subst r p;exact⟨m,k n b⟩⟩
theorem vu (b ks ko:List Nat) {f:Nat}{args a:List C}{K:TL->aX->C->Prop}{x:C}{Lo Lin':List TO}(h:CallsT P f a Lin' (iD Lo x))
  (s:wY b L ρ args fun L ρ args=>∃Lin,L.sub ks=some Lin/\(bJ ks&&bJ ko&&mq L ks ko&&aU Lin ks ko)=true/\(args.map fun c=>c.ZG.ren (cD ks 1000))=a/\Lin.map (TO.ZC (C.ren (cD ks 1000)))=Lin'/\ko.length=Lo.length /\
   (Wf x->(∀o∈Lo,o.Wf)->K (((L.ZB ks).kills (rowsOf L ks)).puts ko (Lo.map (TO.ZC (C.ren (aZ ko))))) (fF (rowsOf L ks) ρ) (x.ren (aZ ko)).slt)):qB P f args L ρ K:=by
 refine .mk ⟨b,ks,ko,?_⟩;refine frzK_imp s ?_;rintro L ρ args ⟨Lin,q,j,rfl,rfl,m,k⟩;simp only[aaj] at j;obtain⟨⟨⟨t,l⟩,c3⟩,c4⟩:=j;exact⟨L,Lin,_,.inl rfl,q,t,l,c3,c4,h,fun v Mo ⟨r,p⟩ n d=>by subst r p;exact⟨m,k n d⟩⟩
where
 frzK_imp:∀{b:List Nat}{L:TL}{ρ:aX}{args:List C}{K K':TL->aX->List C->Prop},wY b L ρ args K->(∀L ρ args,K L ρ args->K' L ρ args)->wY b L ρ args K'
  | [],L,ρ,args,K,K',h,e=>e _ _ _ h
  | k::b,L,ρ,args,K,K',h,e=>by
   simp only[wY] at h ⊢;generalize L.get k=z at h ⊢;split at h
   ·exact frzK_imp h e
   ·exact h.elim
theorem aK {Lin:List TO}{v x:C}(hb:aU Lin (List.range' 1000 Lin.length) []=true) (e:v.ZQ.ren (cD [] 1000)=x):pW Lin L v (iD [] x) :=
 ⟨[],[],L,v,v,[],rfl,.inl ⟨rfl,rfl⟩,rfl,rfl,hb,fun _=>⟨rfl,e⟩⟩
theorem yO (ko:List Nat) {Lin Mo Lo:List TO}{v x:C}(b:L.sub ko=some Mo) (a:(bJ ko&&aU Lin (List.range' 1000 Lin.length) ko)=true) (c:Mo.map (TO.ZC (C.ren (cD ko 1000)))=Lo) (e:v.ZQ.ren (cD ko 1000)=x):pW Lin L v (iD Lo x):=by
 simp only[aaj] at a;exact⟨[],ko,L,v,v,Mo,rfl,.inl ⟨rfl,rfl⟩,b,a.1,a.2,fun _=>⟨c,e⟩⟩
theorem Tc (k t sz:Nat) {Lin:List TO}(b:L=[]) (hb:aU Lin (List.range' 1000 Lin.length) [k]=true):pW Lin L .nils (iD [.row t sz []] (.rw 1000)):=by
 subst b;have a:Nat.beq k k=true:=by simp
 refine⟨[],[k],[(k,.row t sz [])],.nils,.rw k,[.row t sz []],rfl,.inr ⟨⟨.inr ⟨rfl,t,sz,rfl⟩,trivial⟩,.inr (.inr (.inr (.inl ⟨rfl,k,t,sz,rfl,rfl,?_⟩)))⟩,?_,rfl,hb,fun _=>⟨rfl,?_⟩⟩
 ·simp only[TL.get,a]
 ·simp only[TL.sub,TL.get,a]
 ·simp only[C.ZQ,C.ren,C.mp,tK,cD,a]
theorem bF {d:Type}{b:TL->aX->TK->Prop}{asg:List Nat}(n:Nat) (l:Nat) (f:List Nat) (c:d) (e:d->List C) (Lf:d->TL) (Inv:Nat->d->Prop) (t:Inv 0 c) (w:KE L (Lf c) (ρ l) (.int .i64 0)) (u:nS L (Lf c) f (e c) ρ)
  (r:gives L (Lf c) (Lf c)) (hb:∀s,mX L (Lf s)=true) (v:∀s,(e s).length=f.length)
  (h:∀(k:Nat) s,k<=n->Inv k s->sK (e s)->(∀j o,(Lf s).get j=some o->o.Wf)->(k:Int)<=9223372036854775807->b (Lf s) (qz (l::f) (.int .i64 k::e s) (tN asg ρ)) fun L' ρ' =>
   ∃a:Nat×d,(a.1<=n/\Inv a.1 a.2)/\nS L' (Lf a.2) (l::f) (.int .i64 a.1::e a.2) ρ'/\gives L' (Lf a.2) (Lf a.2)/\n-a.1<n-k):xg b asg L ρ:=by
 refine⟨Nat×d,(0,c),fun x=>x.1<=n/\Inv x.1 x.2,l::f,fun x=>.int .i64 x.1::e x.2,fun x=>Lf x.2,fun x=>n-x.1,⟨aaK _,t⟩,⟨w,u⟩,r,fun x=>hb x.2,fun x=>by simp[v],?_⟩;rintro⟨k,s⟩ ⟨q,hi⟩ p m;simp only[sK,Wf] at p;exact h k s q hi p.2 m (wf_i64 p.1).2
theorem bL {L1:TL}{k:Nat}:KE L L1 (.int .i64 ((k:Int)+1)) (.int .i64 ((k+1:Nat):Int)):=.inr (.inl ⟨rfl,rfl⟩)
theorem bM {n k:Nat}(h:k<n):n-(k+1)<n-k:=by omega
theorem nj {els:List (List C)}(h:Wf (.sl els)):els.length<=9223372036854775807:=by simp only[Wf,maxLen] at h;omega
theorem dL {a:Type}{f:a->List C}{l:List a}(h:Wf (.sl (l.map f))):l.length<=9223372036854775807:=by have:=nj h;simpa using this
theorem wh {bs:List UInt8}(h:Wf (.sl (af bs))):bs.length<=9223372036854775807:=dL h
theorem ck {a:Type}{f:a->List C}{l:List a}{k sz:Nat}{x:a}{es:List C}{K:List C->Prop}(b:l[k]?=some x) (d:f x=es) (c:dD es sz=true) (h:K es):AB (l.map f) (k:Int) sz K :=
 ⟨es,by omega,by simp[b,d],c,h⟩
theorem Pm {bs:List UInt8}{k:Nat}{x:UInt8}{K:List C->Prop}(a:bs[k]?=some x) (h:K [jo x]):AB (af bs) (k:Int) 1 K :=
 ⟨[jo x],by omega,by simp[af,a],rfl,h⟩
theorem Cw:∀{l:List (List C)},tL l↔∀es∈l,sK es
 | []=>by simp[tL]
 | es::l=>by simp[tL,Cw]
theorem ak {L1:TL}{c:C}(h:fU L1 3 c=true):KE L L1 c c:=.inr (.inl ⟨rfl,h⟩)
theorem drop_cons {a:Type}{l:List a}{k:Nat}(h:k<l.length):∃x,l[k]?=some x/\l.drop k=x::l.drop (k+1):=⟨l[k],by simp[h],aa7 h⟩
theorem gH {a:Type}{l:List a}{k:Nat}(h:¬k<l.length):l.drop k=[]:=List.drop_eq_nil_iff.2 (by omega)
theorem Ra {PS:qd}{c:C}{v:Value}(a:Cd c=some v) (h:PS.ps v) (b:lT L [] PS.hb=true:=by rfl):Q5 PS L c:=⟨v,a,b,h⟩
end
def nB:Own->Value
 | .box g _ _=>.pointer (some ⟨g,0,none⟩)
 | .row _ _ _ _ _=>undef
def pX:Own->List Value->Own
 | .box g t _,cs=>.box g t cs
 | .row v t sz n xs,_=>.row v t sz n xs
def Pn:Own->Nat->Prop
 | .box _ 0 _,_=>False
 | .box _ (_+1) cs,n=>cs.length=n
 | .row _ _ _ _ _,_=>False
theorem EQ {g:Nat}{t:TypeId}{cs:List Value}{n:Nat}(h:t≠0) (a:cs.length=n):Pn (.box g t cs) n:=by
 cases t with
 | zero=>exact vv rfl h
 | succ t=>exact a
theorem LQ {g:Nat}{t:TypeId}{cs:List Value}{n:Nat}(h:Pn (.box g t cs) n):t≠0:=by
 cases t with
 | zero=>exact h.elim
 | succ t=>exact Nat.succ_ne_zero t
def Dl:List Own->List Nat->Prop
 | [],[]=>True
 | o::bs,n::ns=>Pn o n/\Dl bs ns
 | _,_=>False
structure pQ (P:Program) (H:Nat) (PS:Value->Prop) (ns:List Nat) (out:Value->List (List Value)):Prop where
 inv:∀cap w,(invoke (.fn (.func H) cap) #[]).run P w=.ok (.enter H cap) w
 idle:∀(bs:List Own) (w:World),Dl bs ns->CallsD P H (bs.map nB).toArray .returning w fun e u' w'=>e=.returned (.tuple #[])/\u'=.returning/\w'=w
 caught:∀(F:aD) (bs:List Own) (v:Value) (older:List PanicEntry) (w:World),PS v->Dl bs ns->St F (inp bs) w ->
  CallsD P H (bs.map nB).toArray (.panicking ({v,recovered:=false}::older)) w fun e u' w'=>e=.returned (.tuple #[])/\u'=.panicking ({v,recovered:=true}::older) /\
   ∃F',St F' (inp (List.zipWith pX bs (out v))) w'/\Step F (inp bs) w F' (inp (List.zipWith pX bs (out v))) w'
theorem vA {P:Program}{F:aD}{L:Loc}{ρ:Env}{a:Act}{w:World}{fn:Func}{rs:List RV}{K:List Value->Prop}(d:St F L w) (c:aG L ρ a) (b:pO P fn.results.toList=some rs) (h:lR L ρ rs K) :
  ∃vs,(results fn a.tmps).run P w=.ok (ia vs) w/\K vs:=by
 obtain⟨vs,e,f⟩:=qu d c b h;refine⟨vs,?_,f⟩;rw[sJ,Array.mapM_eq_mapM_toList];simp only[Sem.run_bind,Sem.run_map];rw[e];simp only[Result.andThen_ok,Sem.run_pure];congr 1
 match vs with
 | []=>rfl
 | [t]=>rfl
 | t::u::r =>
  simp only[ia];rw[dif_neg (by simp)]
def rW:List TO->List TO->Prop
 | [],Mo=>Mo=[]
 | .box t _::l,Mo=>∃(n:Nat) (Mo':List TO),Mo=.box t (List.replicate n .any)::Mo'/\rW l Mo'
 | .row t sz _::l,Mo=>∃Mo',Mo=.row t sz []::Mo'/\rW l Mo'
 | .map _::_,_=>False
 | .win _ _ _ _::_,_=>False
def zO:List TO->Bool
 | []=>true
 | .map _::_=>false
 | .win _ _ _ _::_=>false
 | .box _ _::l=>zO l
 | .row _ _ _::l=>zO l
theorem Cx {F:aD}{L:Loc}:∀vs:List Value,aF F L (List.replicate vs.length .any) vs
 | []=>by simp only[aaQ,List.replicate_zero,aF]
 | v::vs=>by
  simp only[aau,aa3,aF];exact⟨v,vs,rfl,trivial,Cx vs⟩
theorem ER {F:aD}:∀(Lin:List TO) (Li Lo:List Own),zO Lin=true->Li.length=Lin.length->Lo.length=Lin.length->(∀(i:Nat) o p,Lin[i]?=some o->Li[i]?=some p->∃L,di F L o p) ->
  (∀(i:Nat) g t cs,Li[i]?=some (.box g t cs)->∃cs',Lo[i]?=some (.box g t cs')) ->
  ∃(Mo:List TO) (Lo':List Own),rW Lin Mo/\Mo.length=Lin.length/\Lo'.length=Lin.length/\(∀(i:Nat) o,Lo'[i]?=some o->Lo[i]?=some o\/∃t sz,o=.row (.slice none 0 0) t sz 0 []) /\
   (∀(i:Nat) g t cs,Li[i]?=some (.box g t cs)->∃cs',Lo'[i]?=some (.box g t cs'))/\∀(i:Nat) o p L G,Mo[i]?=some o->Lo'[i]?=some p->di G L o p
 | [],Li,Lo,c,d,h,j,f=>by
  have:Li=[]:=List.length_eq_zero_iff.1 d;subst this;exact⟨[],[],rfl,rfl,rfl,fun i o e=>by simp at e,fun i g t cs e=>by simp at e,fun i o p L G e=>by simp at e⟩
 | o::Lin,[],Lo,c,d,h,j,f=>by simp at d
 | o::Lin,p::Li,[],c,d,h,j,f=>by simp at h
 | o::Lin,p::Li,q::Lo,c,d,h,j,f=>by
  obtain⟨Mo,Lo',m,w,u,s,r,x⟩:=ER Lin Li Lo (by cases o<;>first | exact c | cases c) (by simpa using d) (by simpa using h) (fun i o p b a=>j (i+1) o p (by simpa using b) (by simpa using a)) (fun i g t cs e=>by simpa using f (i+1) g t cs (by simpa using e));obtain⟨L,l⟩:=j 0 o p rfl rfl;cases o with
  | map es=>cases c
  | win t0 p0 z q0=>cases c
  | box t cs =>
   cases p with
   | row=>exact l.elim
   | box g k us =>
    obtain⟨cs',e⟩:=f 0 g k us rfl;simp only[aat,yo] at e;subst e;refine⟨.box t (List.replicate cs'.length .any)::Mo,.box g k cs'::Lo',⟨_,_,rfl,m⟩,by simp[w],by simp[u],fun i o e=>?_,fun i g t cs e=>?_,fun i o p L G b a=>?_⟩
    ·cases i with
     | zero=>exact .inl e
     | succ i=>simpa using s i o (by simpa using e)
    ·cases i with
     | zero=>simp only[aat,yo] at e;injection e with q1 q2 q3;subst q1 q2;exact⟨_,rfl⟩
     | succ i=>simpa using r i g t cs (by simpa using e)
    ·cases i with
     | zero =>
      simp only[aat,yo] at b a;subst b a;exact⟨l.1,Cx _⟩
     | succ i=>exact x i o p L G (by simpa using b) (by simpa using a)
  | row t sz els =>
   cases p with
   | box=>exact l.elim
   | row v k y n xs =>
    refine⟨.row t sz []::Mo,.row (.slice none 0 0) t sz 0 []::Lo',⟨_,rfl,m⟩,by simp[w],by simp[u],fun i o e=>?_,fun i g t cs e=>?_,fun i o p L G b a=>?_⟩
    ·cases i with
     | zero=>simp only[aat,yo] at e;subst e;exact .inr ⟨_,_,rfl⟩
     | succ i=>simpa using s i o (by simpa using e)
    ·cases i with
     | zero=>simp only[aat,yo] at e;cases e
     | succ i=>simpa using r i g t cs (by simpa using e)
    ·cases i with
     | zero =>
      simp only[aat,yo] at b a;subst b a;exact⟨rfl,rfl,rfl,⟨aaK _,none,0,rfl,fun _=>rfl⟩,by simp only[aO]⟩
     | succ i=>exact x i o p L G (by simpa using b) (by simpa using a)
theorem Po {F F':aD}{Lin:List TO}{Li Lo:List Own}{w w':World}(s:zO Lin=true) (z:Li.length=Lin.length) (u:dm F (inp Li) (jn Lin)) (f:St F' (inp Lo) w') (a:Step F (inp Li) w F' (inp Lo) w') (x:Lo.length=Li.length)
  (q:∀(i:Nat) g t cs,Li[i]?=some (.box g t cs)->∃cs',Lo[i]?=some (.box g t cs')) :
  ∃Mo Lo',St F' (inp Lo') w'/\Step F (inp Li) w F' (inp Lo') w'/\rW Lin Mo/\Mo.length=Lo'.length/\dm F' (inp Lo') (jn Mo)/\∀(i:Nat) g t cs,Li[i]?=some (.box g t cs)->∃cs',Lo'[i]?=some (.box g t cs'):=by
 have m:∀(i:Nat) o p,Lin[i]?=some o->Li[i]?=some p->∃L,di F L o p:=by
  intro i o p d n;have hk:=u (1000+i);rw[cA,aW,o6 (by omega),o6 (by omega),show 1000+i-1000=i by omega,d,n] at hk;exact⟨_,hk⟩
 obtain⟨Mo,Lo',a1,v,r,a4,a5,a6⟩:=ER Lin Li Lo s z (by rw[x,z]) m q;have c:∀j o,(inp Lo').get j=some o->(inp Lo).get j=some o\/∃t sz,o=.row (.slice none 0 0) t sz 0 []:=by
  intro j o e;rw[aW] at e ⊢;split at e
  case isFalse=>cases e
  rename_i hj;rw[o6 hj];exact a4 _ o e
 refine⟨Mo,Lo',⟨f.frz,fun j o e=>?_,fun j o g e hb=>?_,fun j y o o' g e e' hb h=>?_,f.glob⟩,?_,a1,by rw[v,r],fun k=>?_,a5⟩
 ·rcases c j o e with d | ⟨t,sz,rfl⟩
  ·exact f.own j o d
  ·exact World.ownsRow_nil w' 0 t sz
 ·rcases c j o e with d | ⟨t,sz,rfl⟩
  ·exact f.off j o g d hb
  ·cases hb
 ·rcases c j o e with d | ⟨t,sz,rfl⟩
  ·rcases c y o' e' with n | ⟨t,sz,rfl⟩
   ·exact f.sep j y o o' g d n hb h
   ·cases h
  ·cases hb
 ·refine⟨a.le,a.os,a.tape,a.output,a.size,a.same,a.frz,fun b hb=>?_⟩;obtain⟨j,o,e,hb⟩:=hb;rcases c j o e with d | ⟨t,sz,rfl⟩
  ·exact a.own b ⟨j,o,d,hb⟩
  ·cases hb
 ·rw[cA,aW];split
  ·cases d:Mo[k-1000]? with
   | none =>
    have:Lo'[k-1000]?=none:=aar (by rw[r,<-v];exact aa4.1 d);rw[this];trivial
   | some o =>
    have l:k-1000<Lo'.length:=by rw[r,<-v];exact(aai.1 d).1
    rw[aag l];exact a6 _ o _ _ _ d (aag l)
  ·trivial
def xQ (M:TL) (τ:aX):List Nat->List Nat->Bool
 | [],[]=>true
 | k::ks,n::ns=>match τ k,M.get k with
  | .own j 0,some (.box _ cs)=>match Nat.beq j k,dD cs n with | true,true=>xQ M τ ks ns | _,_=>false
  | _,_=>false
 | _,_=>false
section
variable {G:Nat->Option (Nat×TypeId)}{F:aD}{L:Loc}{ρ:Env}{M:TL}{τ:aX}
theorem Cy:∀{ks ns:List Nat},xQ M τ ks ns=true->TS G F L ρ M τ->∃bs:List Own,L.sub ks=some bs/\Dl bs ns/\ks.map (fun k=>conc L (ρ k))=bs.map nB/\(∀k∈ks,ρ k=.own k 0)
 | [],[],_,_=>⟨[],rfl,trivial,rfl,fun k h=>by cases h⟩
 | [],n::ns,h,_=>by cases h
 | k::ks,[],h,_=>by cases h
 | k::ks,n::ns,h,a=>by
  simp only[xQ] at h;split at h
  case h_2=>cases h
  rename_i j t cs p s;split at h
  case h_2=>cases h
  rename_i b m;have b:=xo b;subst b;obtain⟨bs,o,u,l,q⟩:=Cy h a;obtain⟨g,ty,vs,e,r,c⟩:=kP a.tl s;have f:ρ j=.own j 0:=(fo (x:=.t j) a.env p).1;refine⟨.box g ty vs::bs,by simp only[Loc.sub,e,o],⟨EQ c.2.2 (by rw[r.len];exact bD m),u⟩,?_,?_⟩
  ·rw[aao,aao,l];simp only[f,conc,e,nB]
  ·intro k d;rcases aal.1 d with rfl | d
   ·exact f
   ·exact q k d
end
theorem wj:∀{bs:List Own}{ns:List Nat},Dl bs ns->bs.length=ns.length
 | [],[],_=>rfl
 | [],_::_,h=>h.elim
 | _::_,[],h=>h.elim
 | o::bs,n::ns,h=>by simp[wj h.2]
theorem Cz {hb:List (Nat×Nat)}{L L':Loc}:∀{ks ns:List Nat}{bs:List Own},L.sub ks=some bs->Dl bs ns->(∀k g t cs,k∈ks->L.get k=some (.box g t cs)->∃cs',L'.get k=some (.box g t cs'))->S9 hb L'->(∀x∈ks.zip ns,x∈hb) ->
  ∃a,L'.sub ks=some a/\Dl a ns/\a.map nB=bs.map nB
 | [],ns,bs,b,c,p,h,m=>by
  simp only[Loc.sub,yo] at b;subst b;exact⟨[],rfl,c,rfl⟩
 | k::ks,ns,bs,b,c,p,h,m=>by
  simp only[Loc.sub] at b;split at b
  case h_2=>cases b
  rename_i o l y v;injection b with b
  subst b;cases ns with
  | nil=>exact c.elim
  | cons n ns =>
   obtain⟨c,f⟩:=c;cases o with
   | row=>exact c.elim
   | box g t cs =>
    obtain⟨a,u,z,s⟩:=Cz v f (fun j g t cs hj e=>p j g t cs (by simp[hj]) e) h (fun x hx=>m x (by simp[hx]));obtain⟨cs',q⟩:=p k g t cs (by simp) y;obtain⟨g',t',w,d,r⟩:=h k n (m _ (by simp));rw[q] at d;injection d with d
    injection d with x1 x2 x3
    subst x1 x2 x3;exact⟨.box g t cs'::a,by simp only[Loc.sub,q,u],⟨EQ (LQ c) r,z⟩,by simp[s,nB]⟩
theorem ES:∀{bs:List Own}{ns:List Nat}{l:List (List Value)},Dl bs ns->l.length=ns.length->(List.zipWith pX bs l).length=bs.length/\(∀(i:Nat) g t cs,bs[i]?=some (.box g t cs)->∃cs',(List.zipWith pX bs l)[i]?=some (.box g t cs')) /\
  ∀(i:Nat) cs,l[i]?=some cs->∃g t,(List.zipWith pX bs l)[i]?=some (.box g (t+1) cs)
 | [],[],l,_,h=>by
  have:l=[]:=List.length_eq_zero_iff.1 h;subst this;exact⟨rfl,fun i g t cs e=>by simp at e,fun i cs e=>by simp at e⟩
 | [],n::ns,l,h,_=>h.elim
 | o::bs,[],l,h,_=>h.elim
 | o::bs,n::ns,[],_,h=>by simp at h
 | o::bs,n::ns,c::l,⟨a,j⟩,h=>by
  obtain⟨d,k,b⟩:=ES (l:=l) j (by simpa using h);cases o with
  | row=>exact a.elim
  | box g t cs =>
   refine⟨by simp[d],fun i m f cs' e=>?_,fun i cs' e=>?_⟩
   ·cases i with
    | zero =>
     simp only[aat,yo] at e;injection e with x1 x2 x3
     subst x1 x2;exact⟨c,rfl⟩
    | succ i=>simpa using k i m f cs' (by simpa using e)
   ·cases i with
    | zero =>
     simp only[aat,yo] at e;subst e;cases t with
     | zero=>exact a.elim
     | succ t=>exact⟨g,t,rfl⟩
    | succ i=>simpa using b i cs' (by simpa using e)
theorem uS {a:Act}{ρ:Env}{L:Loc}(b:aG L ρ a):∀ks:List Nat,(ks.map Operand.tmp).map a.eval=ks.map fun k=>conc L (ρ k)
 | []=>rfl
 | k::ks=>by
  simp only[aao,uS b ks];exact j3 (·::_) (b.eq k)
theorem NI:∀(l:List PanicEntry),(∀e∈l,e.goexit=false)->l.dropWhile (!·.goexit)=[]
 | [],_=>rfl
 | e::l,h=>by
  rw[List.dropWhile_cons,o6 (by simp[h e (by simp)])];exact NI l fun x a=>h x (by simp[a])
theorem AZ {P:Program}{f H d r1:Nat}{fn:Func}{c0 rest:Code}{o1 o2:Oper}{A:cH}{sc0 sc:aH}{rs:List RV}{ks ns:List Nat}{args:List C}{Lin:List TO}{R:List TO->C->Prop}{PS:Value->Prop}{out:Value->List (List Value)}
  (hf:P.funcs[f]?=some fn) (hb:fn.body=some (.seq c0 (.seq (.region r1 #[o1,o2] false) rest))) (hname:(fn.name == "runtime.NumGoroutine")=false) (hnt:fn.ntmps=A.n)
  (ho1:o1.op=.makeFunc (.func H) #[] (ks.map Operand.tmp).toArray) (hd1:o1.dst=some d) (hg1:o1.guard=none) (ho2:o2.op=.defer {callee:=.value (.tmp d),args:=#[],argTypes:=#[]}) (hd2:o2.dst=none) (hg2:o2.guard=none)
  (hl0:low P A c0=some sc0) (hl:low P A rest=some sc) (hres:pO P fn.results.toList=some rs) (hH:pQ P H PS ns out) (hd:d<A.n) (hks:bJ ks=true) (hkd:(ks.all fun k=>!(ga (cQ rest) k)&&!(Nat.beq k d)&&Nat.blt k 1000)=true)
  (hout:∀v,PS v->(out v).length=ns.length) (hlen:Nat.ble args.length A.n=true) (hnm:zO Lin=true)
  (hcat:∀v,PS v->∃c x,(∀(L:Loc) (ρ:Env),(∀(i:Nat) k cs,ks[i]?=some k->(out v)[i]?=some cs->ρ k=.own k 0/\∃g t,L.get k=some (.box g (t+1) cs))->lR L ρ rs (fun vs=>ia vs=x))/\(∀F L,Rel F L c x)/\∀Mo,rW Lin Mo->R Mo c)
  (h:sK args->(∀o∈Lin,o.Wf)->fG P ⟨fun _=>False,[],none⟩ sc0 (fun _ _ _=>False) (fun _ _=>False) (fun M τ=>xQ M τ ks ns=true /\
   fG P ⟨PS,ks.zip ns,none⟩ sc (fun _ _ _=>False) (fun L ρ=>qC L ρ rs fun vs=>pW Lin L (sM vs) R) (fun L ρ=>qC L ρ rs fun vs=>pW Lin L (sM vs) R) M (bE (some d) .any τ)) (jn Lin) (vI 0 args)) :
  CallsT P f args Lin R:=by
 refine⟨fun F Li vs hlL htl ha=>⟨⟨fn,hf,by rw[hb];rfl,hname⟩,hO.ZL,fun w hs=>?_⟩⟩
 suffices hall:∀RR:Ending->World->Prop,(∀v F' Lo w',St F' (inp Lo) w'->Step F (inp Li) w F' (inp Lo) w'->hO Li R F' Lo v->RR (.returned v) w')->Calls P f vs.toArray w RR from
  hall _ fun v F' Lo w' h1 h2 h3=>⟨v,F',Lo,rfl,h1,h2,h3⟩
 intro RR hRR;refine calls_of_wp_defers hf hb ?_;have hwo:∀o∈Lin,o.Wf:=by
  intro o ho;obtain⟨i,hi⟩:=aaE.1 ho;have:=htl (1000+i);rw[cA,aW,o6 (by omega),o6 (by omega),show 1000+i-1000=i by omega,hi] at this;cases e:Li[i]? with
  | none=>rw[e] at this;exact this.elim
  | some p=>rw[e] at this;exact di.wf this
 have h:=h ha.wf hwo;have hla:=ha.len;have hlen:=aav hlen;have key:∀j,∃sv,aQ F (inp Li) (vI 0 args j) sv/\conc (inp Li) sv=(vs.toArray++Array.replicate (fn.ntmps-vs.toArray.size) undef).getD j undef/\(∀k off,sv=.own k off->∃g t cs,(inp Li).get k=some (.box g t cs))/\(∀ad i,sv=.el ad i->ad≠none):=by
  intro j;rw[xO];simp only[aaK,aaD,Nat.sub_zero,aaF];cases e:args[j]? with
  | some c =>
   have hlt:j<vs.length:=by rw[hla];exact(aai.1 e).1
   obtain⟨s1,s2,s3,s4⟩:=AX (ha.at e (aag hlt));refine⟨_,s1,?_,s3,fun ad i e=>s4 ad i e⟩;rw[s2,Array.getElem?_append_left (by simpa using hlt)];simp[hlt]
  | none =>
   have hge:vs.length<=j:=by rw[hla];exact aa4.1 e
   refine⟨.v undef,qJ,?_,fun _ _ e=>(by cases e),fun _ _ e=>(by cases e)⟩;rw[Array.getElem?_append_right (by simpa using hge)];simp only[Array.getElem?_replicate,conc];split<;>rfl
 let ρ0:Env:=fun j=>(key j).choose
 have he:aG (inp Li) ρ0 {tmps:=vs.toArray++Array.replicate (fn.ntmps-vs.toArray.size) undef,defers:=[]} :=
  ⟨fun t=>(key t).choose_spec.2.1.symm,fun t k off e=>(key t).choose_spec.2.2.1 k off e,fun t ad j e=>(key t).choose_spec.2.2.2 ad j e⟩
 let G:Nat->Option (Nat×TypeId):=fun k=>match(inp Li).get k with | some (.box g t _)=>some (g,t) | _=>none
 have hG1:∀k g t cs,(inp Li).get k=some (.box g t cs)->G k=some (g,t):=fun k g t cs e=>by simp only[G,e]
 have hkp:Kp G (inp Li):=by
  intro k g t e;simp only[G] at e;split at e
  ·rename_i g' t' cs h;injection e with e
   injection e with e1 e2
   subst e1 e2;exact⟨cs,h⟩
  ·cases e
 have ht:TS G F (inp Li) ρ0 (jn Lin) (vI 0 args):=⟨htl,fun j=>(key j).choose_spec.1,hkp,hs.glob⟩;have hGd:∀k,G k≠none->1000<=k:=by
  intro k hne;simp only[G] at hne;split at hne
  ·rename_i g t cs h;rw[aW] at h;split at h
   ·assumption
   ·cases h
  ·exact vv rfl hne
 refine wp_seq (wp_mono (pI c0 hl0 (fun k _ hne=>.inl (hGd k hne)) hs he ht (by simp[hnt];omega) h) ?_);intro e a1 w1 hq;cases e with
 | exit j=>obtain⟨F',L',ρ',_,_,_,_,_,_,M',τ',_,h⟩:=hq;exact h.elim
 | goto l=>exact hq.elim
 | outgrown=>exact hq.elim
 | ret=>obtain⟨F',L',ρ',_,_,_,_,_,_,M',τ',_,h⟩:=hq;exact h.elim
 | panic c=>obtain⟨v,hch,F',L',_,_,_,_,_,_,hp,_⟩:=hq;exact hp.elim
 | normal =>
 obtain⟨F1,L1,ρ1,hs1,he1,hn1,hd1',hst1,_,M1,τ1,ht1,hcaps,hrest⟩:=hq;obtain⟨bs,hsub,hbx,hptr,hown⟩:=Cy hcaps ht1;simp only[Exit.then]
 -- the deferred function is named
 generalize hfv:Value.func (.func H) #[] (bs.map nB).toArray=fv;have hev:(ks.map Operand.tmp).toArray.map a1.eval=(bs.map nB).toArray:=by
  rw[List.map_toArray,uS he1,hptr]
 have he2:=he1.put (L':=L1) (d:=some d) (v:=fv) (x:=.v fv) (fun k e=>by injection e with e;subst e;omega) rfl bT dK (fun k g ty cs e=>⟨cs,e⟩);have ht2:TS G F1 L1 (put (some d) (.v fv) ρ1) M1 (bE (some d) .any τ1):=ht1.put (c:=.any) (sv:=.v fv) trivial (some d);obtain⟨tm,df⟩:=a1;simp only at hd1';subst hd1';have hdt:(tm.setIfInBounds d fv).getD d undef=fv:=by
  have:d<tm.size:=by simpa[hn1] using hd
  simp[aaF,this]
 refine wp_seq (wp_region ?_);generalize hd0:({target:=.fn (.func H) (bs.map nB).toArray,args:=#[]}:Deferred)=d0;have hsz:d<tm.size:=by simpa[hn1] using hd
 simp[wpOps,go_sem,ho1,hd1,hg1,ho2,hd2,hg2,Exit.then,Region.wanted,hsz,Instr.makeFunc];have hml:List.map (Act.eval {tmps:=tm,defers:=[]}∘Operand.tmp) ks=bs.map nB:=by
  rw[<-hptr,<-uS he1,aa6]
 rw[hml,hfv,hd0];refine .inl (.inl ?_)
 let G1:Nat->Option (Nat×TypeId):=fun k=>match Nat.ble 1000 k||ga ks k with | true=>(match L1.get k with | some (.box g t _)=>some (g,t) | _=>none) | false=>none
 have hGL:∀k g t cs,(1000<=k\/k∈ks)->L1.get k=some (.box g t cs)->G1 k=some (g,t):=fun k g t cs hk e=>by
  have:(Nat.ble 1000 k||ga ks k)=true:=by
   rw[aaM];exact hk.imp (fun h=>by rw[Nat.ble_eq];exact h) cT.2
  simp only[G1,this,e]
 have hfz1:tX G1 ⟨PS,ks.zip ns,none⟩ (iY sc):=by
  intro k _ hne;simp only[G1] at hne;split at hne
  ·rename_i hb;rw[aaM] at hb;rcases hb with hb | hb
   ·rw[Nat.ble_eq] at hb;exact .inl hb
   ·refine .inr ?_;have hl2:ks.length=ns.length:=by rw[(eW hsub).1.symm];exact wj hbx
    show ga ((ks.zip ns).map (·.1)) k=true;rw[List.map_fst_zip (by omega)];exact hb
  ·exact vv rfl hne
 have hkp1:Kp G1 L1:=by
  intro k g t e;simp only[G1] at e;split at e
  case h_2=>cases e
  split at e
  ·rename_i g' t' cs h;injection e with e
   injection e with e1 e2
   subst e1 e2;exact⟨cs,h⟩
  ·cases e
 have hGG:∀k g t,G k=some (g,t)->G1 k=some (g,t):=fun k g t e=>let⟨cs,h⟩:=ht1.kp k g t e;hGL k g t cs (.inl (hGd k (by rw[e];simp))) h;have ht3:TS G1 F1 L1 (put (some d) (.v fv) ρ1) M1 (bE (some d) .any τ1):=⟨ht2.tl,ht2.env,hkp1,ht2.glob⟩;have he3:aG L1 (put (some d) (.v fv) ρ1) {tmps:=tm.setIfInBounds d fv,defers:=[d0]}:=⟨he2.eq,he2.own,he2.el⟩;refine wp_mono (pI rest hl hfz1 hs1 he3 ht3 (by simpa using hn1) hrest) ?_;intro e a' w' hq;have hnd:=cV hks;have hGI:∀k g t cs,(inp Li).get k=some (.box g t cs)->G1 k=some (g,t):=fun k g t cs e=>hGG k g t (hG1 k g t cs e);have back:∀(u:FrameMode) (w:World),u=.returning->Leaves P fn a'.tmps RR [] .returning w->Leaves P fn a'.tmps RR [d0] u w:=by
  rintro u w rfl hlv;rw[<-hd0];refine leaves_cons (f:=H) (args:=(bs.map nB).toArray) (by simp) (hH.inv _ w) ?_;refine(hH.idle bs w hbx).mono ?_;rintro e u' w6 ⟨rfl,rfl,rfl⟩;exact hlv
 have fin:eY A.n F1 L1 w1 {tmps:=tm.setIfInBounds d fv,defers:=[d0]} (cQ rest) (Both G1 (fun L ρ=>qC L ρ rs fun vs=>pW Lin L (sM vs) R)) a' w'->Leaves P fn a'.tmps RR a'.defers .returning w':=by
  intro hq;have hq':eY A.n F (inp Li) w {tmps:=tm.setIfInBounds d fv,defers:=[d0]} (cQ rest) (Both G1 (fun L ρ=>qC L ρ rs fun vs=>pW Lin L (sM vs) R)) a' w':=by
   obtain⟨F',L',ρ',g1,g2,g3,g4,g5,g6,g7⟩:=hq;exact⟨F',L',ρ',g1,g2,g3,g4,hst1.trans g5,g6,g7⟩
  obtain⟨k1,v,k2,F',Lo,k3,k4,k5⟩:=NH hres hlL htl hGI hq';rw[k1];exact back _ _ rfl ⟨v,k2,hRR v F' Lo w' k3 k4 k5⟩
 cases e with
 | normal=>exact fin hq
 | ret=>exact fin hq
 | exit j=>obtain⟨F',L',ρ',_,_,_,_,_,_,M',τ',_,h⟩:=hq;exact h.elim
 | goto l=>exact hq.elim
 | outgrown=>exact hq.elim
 | panic ch =>
  obtain⟨v,⟨older,rfl,hold⟩,F',L',g1,g2,g3,g4,g5,kp,hp,hbL,_⟩:=hq;show Leaves P fn a'.tmps RR a'.defers _ w';rw[g4,<-hd0];obtain⟨bs',q1,q2,q3⟩:=Cz hsub hbx (fun k g t cs hk e=>kp k g t (hGL k g t cs (.inr hk) e)) hbL (fun x hx=>hx);refine leaves_cons (f:=H) (args:=(bs.map nB).toArray) (by simp) (hH.inv _ w') ?_;rw[<-q3];refine(hH.caught F' bs' v older w' hp q2 (g1.handed q1 hnd)).mono ?_;rintro e u' w6 ⟨rfl,rfl,F6,hs6,hst6⟩;show Leaves P fn a'.tmps RR [] (settle _) w6;have hset:settle (.panicking ({v,recovered:=true}::older))=.returning:=by
   have:older.dropWhile (!·.goexit)=[]:=by
    exact NI older hold
   simp only[settle,this]
  rw[hset];obtain⟨z1,z2,z3⟩:=ES (l:=out v) q2 (hout v hp);obtain⟨sl,sg⟩:=eW q1;have hkl:ks.length=(List.zipWith pX bs' (out v)).length:=by rw[z1,sl]
  obtain⟨c1,c2⟩:=jE g1 q1 hnd hnd (fun k hk=>.inl hk) hs6 hst6 hkl;generalize hL6:(L'.ZB ks).puts ks (List.zipWith pX bs' (out v))=L6 at c1 c2;have hget:∀(i:Nat) k cs,ks[i]?=some k->(out v)[i]?=some cs->∃g t,L6.get k=some (.box g (t+1) cs)/\(∃cs',L'.get k=some (.box g (t+1) cs')):=by
   intro i k cs e1 e2;obtain⟨g,t,e3⟩:=z3 i cs e2;refine⟨g,t,by rw[<-hL6];exact cO hnd hkl e1 e3,?_⟩;have e4:=sg i k e1;have hlt:i<bs'.length:=by rw[<-z1];exact(aai.1 e3).1
   rw[aag hlt] at e4;have e5:(List.zipWith pX bs' (out v))[i]?=some (pX bs'[i] cs):=by
    rw[List.getElem?_zipWith,aag hlt,e2]
   rw[e3] at e5;injection e5 with e5
   cases hb:bs'[i] with
   | row=>rw[hb] at e5;cases e5
   | box g' t' cs' =>
    rw[hb] at e5 e4;injection e5 with x1 x2
    subst x1 x2;exact⟨cs',e4⟩
  -- the slots that name the boxes
  let ρ6:Env:=fun j=>match ga ks j with | true=>.own j 0 | false=>.v (a'.tmps.getD j undef)
  have hkd':∀k∈ks,k∉cQ rest/\k≠d:=by
   intro k hk;have:=aas.1 hkd k hk;simp only[aaj,Bool.not_eq_true'] at this;refine⟨fun hm=>?_,fun e=>?_⟩
   ·rw[cT.2 hm] at this;exact vv this.1.1 (by simp)
   ·subst e;simp at this
  have hslot:∀k∈ks,∃g t cs,L6.get k=some (.box g t cs)/\a'.tmps.getD k undef=.pointer (some ⟨g,0,none⟩):=by
   intro k hk;obtain⟨i,hi⟩:=aaE.1 hk;have hlt:i<(out v).length:=by
    have:=(aai.1 hi).1;have hl2:ks.length=ns.length:=by rw[<-sl];exact wj q2
    rw[hout v hp];omega
   obtain⟨g,t,e1,cs',e2⟩:=hget i k _ hi (aag hlt);refine⟨g,t+1,_,e1,?_⟩;obtain⟨y1,y2⟩:=hkd' k hk;rw[g5 k y1];have:=he3.eq k;rw[this,put_eq];simp only[];rw[vz y2,hown k hk];simp only[conc];obtain⟨g0,t0,cs0,e0⟩:=he1.own k k 0 (hown k hk);obtain⟨cs1,e3⟩:=kp k g0 t0 (hGL k g0 t0 cs0 (.inr hk) e0);rw[e2] at e3;injection e3 with e3
   injection e3 with x1 x2 _
   subst x1;rw[e0]
  have he6:aG L6 ρ6 a':=by
   refine⟨fun j=>?_,fun j k off e=>?_,fun j ad i e=>?_⟩
   ·simp only[ρ6];cases hm:ga ks j with
    | false=>rfl
    | true =>
     obtain⟨g,t,cs,e1,e2⟩:=hslot j (cT.1 hm);rw[e2];simp only[conc,e1]
   ·simp only[ρ6] at e;cases hm:ga ks j with
    | false=>rw[hm] at e;cases e
    | true =>
     rw[hm] at e;injection e with x1 x2
     subst x1;obtain⟨g,t,cs,e1,_⟩:=hslot j (cT.1 hm);exact⟨g,t,cs,e1⟩
   ·simp only[ρ6] at e;cases hm:ga ks j<;>rw[hm] at e<;>cases e
  obtain⟨c,x,hrv,hrel,hlost⟩:=hcat v hp;obtain⟨us,h5,h6⟩:=vA (K:=fun vs=>ia vs=x) c1 he6 hres (hrv L6 ρ6 fun i k cs e1 e2=>by
   obtain⟨g,t,e3,_⟩:=hget i k cs e1 e2;refine⟨?_,g,t,e3⟩;simp only[ρ6,cT.2 (aam e1)])
  have hst:Step F (inp Li) w F6 L6 w6:=(hst1.trans g2).trans c2;obtain⟨Lo,p1,p2,p3,p4⟩:=xP c1 hst (fun i g t cs e=>by
   have e0:(inp Li).get (1000+i)=some (.box g t cs):=by rw[aW,o6 (by omega),show 1000+i-1000=i by omega];exact e
   obtain⟨cs1,e1⟩:=kp (1000+i) g t (hGI _ g t cs e0);refine⟨cs1,?_⟩;rw[<-hL6];have hni:1000+i∉ks:=by
    intro hm;have:=aas.1 hkd _ hm;simp only[aaj] at this;have:=this.2;rw[Nat.blt_eq] at this;omega
   rcases dI ks (List.zipWith pX bs' (out v)) (L'.ZB ks) (1000+i) hnd hkl with⟨q1,q2⟩ | ⟨i',q1,q2,q3⟩
   ·rw[q1,fR,vz hni];exact e1
   ·exact vv (aam q1) hni)
  obtain⟨Mo,Lo',l1,l2,l3,l4,l5,l6⟩:=Po hnm hlL htl p1 p2 p3 p4;refine⟨_,h5,hRR _ F6 Lo' w6 l1 l2 ⟨Mo,c,l4,l5,?_,l6,hlost Mo l3⟩⟩;rw[h6];exact hrel _ _
def tmpsOf:List Operand->Option (List Nat)
 | []=>some []
 | .tmp k::l=>match tmpsOf l with | some ks=>some (k::ks) | none=>none
 | _::_=>none
theorem zP:∀{l:List Operand}{ks:List Nat},tmpsOf l=some ks->l=ks.map Operand.tmp
 | [],ks,h=>by simp only[tmpsOf,yo] at h;subst h;rfl
 | o::l,ks,h=>by
  cases o<;>simp only[tmpsOf,reduceCtorEq] at h;split at h
  case h_2=>cases h
  rename_i a e;injection h with h
  subst h;rw[zP e];rfl
def A8 (op:Op) (d:Nat):Bool :=
 match op with
 | .defer c=>match c.callee,c.args.toList,c.argTypes.toList with
  | .value (.tmp a),[],[]=>Nat.beq d a
  | _,_,_=>false
 | _=>false
theorem DW {op:Op}{d:Nat}(h:A8 op d=true):op=.defer {callee:=.value (.tmp d),args:=#[],argTypes:=#[]}:=by
 unfold A8 at h;split at h
 case h_2=>cases h
 rename_i c;split at h
 case h_2=>cases h
 rename_i m f e b;have:=xo h;subst this;obtain⟨ca,j,a⟩:=c;simp only at f e b;subst f;have l:j=#[]:=by apply Array.ext';exact e
 have k:a=#[]:=by apply Array.ext';exact b
 rw[l,k]
def DX (P:Program) (A:cH) (fn:Func):Option (aH×aH×Nat×List Nat×Nat×List RV) :=
 match fn.body with
 | some (.seq c0 (.seq (.region _ ⟨[o1,o2]⟩ false) rest))=>match o1.op,o1.dst,o1.guard with
  | .makeFunc (.func H) ⟨[]⟩ ca,some d,none=>match A8 o2.op d,o2.dst,o2.guard,tmpsOf ca.toList with
   | true,none,none,some ks=>match low P A c0,low P A rest,pO P fn.results.toList with
    | some sc0,some sc,some rs=>match fn.name == "runtime.NumGoroutine",Nat.beq fn.ntmps A.n&&Nat.blt d A.n&&bJ ks,ks.all fun k=>!(ga (cQ rest) k)&&!(Nat.beq k d)&&Nat.blt k 1000 with
     | false,true,true=>some (sc0,sc,H,ks,d,rs)
     | _,_,_=>none
    | _,_,_=>none
   | _,_,_,_=>none
  | _,_,_=>none
 | _=>none
theorem ig {P:Program}{f H d:Nat}{fn:Func}{A:cH}{e sc:aH}{rs:List RV}{ks ns:List Nat}{args:List C}{Lin:List TO}{R:List TO->C->Prop}{PS:Value->Prop}{out:Value->List (List Value)}
  (hf:P.funcs[f]?=some fn) (a:DX P A fn=some (e,sc,H,ks,d,rs)) (hH:pQ P H PS ns out)
  (l:∀v,PS v->(out v).length=ns.length) (j:Nat.ble args.length A.n=true) (aa:zO Lin=true)
  (p:∀v,PS v->∃c x,(∀(L:Loc) (ρ:Env),(∀(i:Nat) k cs,ks[i]?=some k->(out v)[i]?=some cs->ρ k=.own k 0/\∃g t,L.get k=some (.box g (t+1) cs))->lR L ρ rs (fun vs=>ia vs=x))/\(∀F L,Rel F L c x)/\∀Mo,rW Lin Mo->R Mo c)
  (h:sK args->(∀o∈Lin,o.Wf)->fG P ⟨fun _=>False,[],none⟩ e (fun _ _ _=>False) (fun _ _=>False) (fun M τ=>xQ M τ ks ns=true /\
   fG P ⟨PS,ks.zip ns,none⟩ sc (fun _ _ _=>False) (fun L ρ=>qC L ρ rs fun vs=>pW Lin L (sM vs) R) (fun L ρ=>qC L ρ rs fun vs=>pW Lin L (sM vs) R) M (bE (some d) .any τ)) (jn Lin) (vI 0 args)) :
  CallsT P f args Lin R:=by
 unfold DX at a;split at a
 case h_2=>cases a
 rename_i c0 r o1 o2 ab hb;split at a
 case h_2=>cases a
 rename_i H' ca d' e1 e2 e3;split at a
 case h_2=>cases a
 rename_i u e4 e5 e6 e7;split at a
 case h_2=>cases a
 rename_i ad av ar e8 e9 q;split at a
 case h_2=>cases a
 rename_i z b w;simp only[yo,Prod.mk.injEq] at a;obtain⟨rfl,rfl,rfl,rfl,rfl,rfl⟩:=a;simp only[aaj] at b;obtain⟨⟨b,m⟩,y⟩:=b;have s:ca=(u.map Operand.tmp).toArray:=by
  have:=zP e7;rw[<-this]
 rw[s] at e1;rw[Nat.blt_eq] at m;exact AZ hf hb z (xo b) e1 e2 e3 (DW e4) e5 e6 e8 e9 q hH m y w l j aa p h
end Go.Fr.T
namespace Go.Fr
open Go Go.RowKit
section
variable {P:Program}{Q:Exit->Act->World->Prop}{K:cS}
theorem noPan {n:Nat}{F:aD}{L:Loc}{w:World}{a:Act}{asg:List Nat}{E:Nat->cS}{R N:cS}{c} {b:Act}{w':World}(h:QQ n F L w a asg (fun _ _ _=>False) E R N (.panic c) b w'):False:=by
 obtain⟨v,_,F',L',_,_,_,_,_,h⟩:=h;exact h
theorem nT {A:cH}{r:Nat}{c:Array Oper}:∀(is:List Nat) {ss:List aA}{F:aD}{L:Loc}{ρ:Env}{a:Act}{w:World},qm P A r c is=some ss->St F L w->aG L ρ a->a.tmps.size=A.n ->
  aY P ss F L ρ K->(∀a' w',eY A.n F L w a (dstsOf c is) K a' w'->Q .normal a' w')->wpOps P c Q is a w:=by
 intro is
 induction is with
 | nil =>
  intro ss F L ρ a w hl hs he hn l hQ;simp only[qm,yo] at hl;subst hl;exact hQ a w ⟨F,L,ρ,hs,he,hn,rfl,Step.refl _ _ _,fun _ _=>rfl,l⟩
 | cons i is ih =>
  intro ss F L ρ a w hl hs he hn l hQ;simp only[qm] at hl;split at hl
  case h_1=>cases hl
  rename_i o hi;split at hl
  case h_2=>cases hl
  rename_i g s u hg bl ar ad;injection hl with hl
  subst hl
  -- the q
  have q:∀(ks:List Nat) {F:aD}{L:Loc}{ρ:Env},St F L w->aG L ρ a->aY P (ks.map aA.frz++nQ (u9 A.pan r i) o.dst s g::u) F L ρ K ->
    ∃F' L' ρ',St F' L' w/\aG L' ρ' a/\Step F L w F' L' w/\aY P (nQ (u9 A.pan r i) o.dst s g::u) F' L' ρ' K:=by
   intro ks
   induction ks with
   | nil=>intro F L ρ hs he h;exact⟨F,L,ρ,hs,he,Step.refl _ _ _,h⟩
   | cons k ks ba =>
    intro F L ρ hs he h;simp only[aao,aay,aY] at h;split at h
    ·rename_i g' t' cs' hk;obtain⟨F1,bk,cd,z,t,m⟩:=sA hs he hk;obtain⟨F2,L2,az,aE,aw,ab,h2⟩:=ba z t (h F1 bk cd);exact⟨F2,L2,az,aE,aw,m.trans ab,h2⟩
    ·obtain⟨F1,L1,z,t,m,h1⟩:=oq hs he h;obtain⟨F2,L2,az,aE,aw,ab,h2⟩:=ba z t h1;exact⟨F2,L2,az,aE,aw,m.trans ab,h2⟩
  obtain⟨F1,L1,bb,z,t,m,l⟩:=q _ hs he l
  clear q
  have bo:u9 A.pan r i=false:=by
   cases hb:u9 A.pan r i with
   | false=>rfl
   | true=>rw[hb] at l;simp only[nQ,aY] at l
  rw[bo] at l;simp only[nQ] at l
  clear he
  have he:=t;have hd:∀k,o.dst=some k->k<a.tmps.size:=by
   intro k hk;rw[hk] at ar;rw[hn];have h2:Nat.blt k A.n=true:=ar;simpa using h2
  have ay:dstsOf c (i::is)=match o.dst with | some d=>d::dstsOf c is | none=>dstsOf c is:=by
   simp only[dstsOf,hi,Option.bind_some];cases o.dst<;>rfl
  have aa:∀j,j∉dstsOf c (i::is)->o.dst≠some j/\j∉dstsOf c is:=by
   intro j hj;rw[ay] at hj;cases ho:o.dst with
   | none=>rw[ho] at hj;exact⟨by simp,hj⟩
   | some d =>
    rw[ho] at hj;simp only[aal,not_or] at hj;exact⟨by simp;exact fun e=>hj.1 e.symm,hj.2⟩
  have al:evalOp P s o.dst F1 L1 bb (fun F' L' ρ'=>aY P u F' L' ρ' K)->o.wp P a w (wpOps P c Q is) Q:=by
   intro l;have:=fB (Q:=Q) z t hd bl l;refine Oper.wp_mono ?_ (qo (asg:=[]) this);rintro a' w' ⟨⟨F',L',ρ',g1,g2,g3,g4,g5,g6⟩,bs⟩;refine ih ad g1 g2 (by rw[g3,hn]) g6 ?_;rintro ax av ⟨F'',L'',ac,k1,k2,k3,k4,k5,k6,k7⟩;refine hQ ax av ⟨F'',L'',ac,k1,k2,k3,k4.trans g4,(m.trans g5).trans k5,fun j hj=>?_,k7⟩;obtain⟨n1,n2⟩:=aa j hj;rw[k6 j n2,bs j n1]
  have skip:aY P u F1 L1 (put o.dst (.v undef) bb) K->wpOps P c Q is (a.put o.dst undef) w:=by
   intro l;refine ih ad z (t.put hd (v:=undef) (x:=.v undef) rfl bT dK (rf L1)) (by rw[lp,hn]) l ?_;rintro ax av ⟨F'',L'',ac,k1,k2,k3,k4,k5,k6,k7⟩;refine hQ ax av ⟨F'',L'',ac,k1,k2,k3,k4.trans (ic _ _ _),m.trans k5,fun j hj=>?_,k7⟩;obtain⟨n1,n2⟩:=aa j hj;rw[k6 j n2,kJ n1]
  simp only[wpOps,hi];cases am:o.guard with
  | none =>
   rw[am] at hg;simp only[iK,yo] at hg;subst hg;simp only[aY] at l;rw[o6 (by simp[Region.wanted,am])];exact .inl (al l)
  | some p =>
   obtain⟨j,y⟩:=p;rw[am] at hg;simp only[iK] at hg;split at hg
   case h_2=>cases hg
   rename_i d bc;injection hg with hg
   subst hg;simp only[aY] at l;split at l
   ·rename_i b hb;have f:=t.eq d;rw[hb] at f;have hy:yielded c a.tmps j=some b:=by
     simp only[yielded,bc,Option.bind_some,ri f]
    have hw:Region.wanted o (yielded c a.tmps)=(b == y):=by
     simp only[Region.wanted,am,hy];cases b<;>cases y<;>rfl
    rw[hw];cases b<;>simp only[wD] at l
    ·rw[lq hb] at l;cases y
     ·exact .inl (al l)
     ·exact skip l
    ·rw[lq hb] at l;cases y
     ·exact skip l
     ·exact .inl (al l)
   ·rename_i vs hb;have f:=t.eq d;rw[hb] at f;have hy:yielded c a.tmps j=none:=by
     simp only[yielded,bc,Option.bind_some];rw[aaF] at f;cases e:a.tmps[d]? with
     | none=>rfl
     | some v=>rw[e] at f;simp only[Option.getD_some,conc] at f;rw[f]
    have hw:Region.wanted o (yielded c a.tmps)=false:=by
     simp only[Region.wanted,am,hy];rfl
    rw[hw];exact skip l
   ·exact l.elim
theorem tY {a:Act}{w:World}{d:List aA}{K:cS}:∀(ks:List Nat) {F:aD}{L:Loc}{ρ:Env},St F L w->aG L ρ a->aY P (ks.map aA.frz++d) F L ρ K ->
  ∃F' L' ρ',St F' L' w/\aG L' ρ' a/\Step F L w F' L' w/\aY P d F' L' ρ' K:=by
 intro ks
 induction ks with
 | nil=>intro F L ρ p o h;exact⟨F,L,ρ,p,o,Step.refl _ _ _,h⟩
 | cons k ks n =>
  intro F L ρ p o h;simp only[aao,aay,aY] at h;split at h
  ·rename_i x v cs' u;obtain⟨F1,q,r,j,e,b⟩:=sA p o u;obtain⟨F2,L2,l,m,f,c,s⟩:=n j e (h F1 q r);exact⟨F2,L2,l,m,f,b.trans c,s⟩
  ·obtain⟨F1,L1,j,e,b,t⟩:=oq p o h;obtain⟨F2,L2,l,m,f,c,s⟩:=n j e t;exact⟨F2,L2,l,m,f,b.trans c,s⟩
theorem DY {ss:List aA}{E:Nat->cS}{R N:cS}{F:aD}{L:Loc}{ρ:Env}{a:Act}{w:World}:∀(ks:List Nat),St F L w->aG L ρ a->kG P (yM ks (.regD ss)) E R N F L ρ ->
  ∃F' L' ρ',St F' L' w/\aG L' ρ' a/\Step F L w F' L' w/\aY P ss F' L' ρ' N
 | [],c,b,h=>⟨F,L,ρ,c,b,Step.refl _ _ _,by simpa only[yM,kG] using h⟩
 | k::l,c,b,h=>by
  simp only[yM,kG] at h;have f:aY P ((k::l).map aA.frz++[]) F L ρ (fun F L ρ=>aY P ss F L ρ N):=by simpa only[aao,aaA] using h
  obtain⟨F1,L1,d,j,m,n,e⟩:=tY (k::l) c b f;simp only[aY] at e;exact⟨F1,L1,d,j,m,n,e⟩
theorem CA {A:cH}:∀(c:Code) {sc:aH},low P A c=some sc->∀{E:Nat->cS}{R N:cS}{F:aD}{L:Loc}{ρ:Env}{a:Act}{w:World},St F L w->aG L ρ a->a.tmps.size=A.n ->
  kG P sc E R N F L ρ->c.wp P (QQ A.n F L w a (cQ c) (fun _ _ _=>False) E R N) a w:=by
 intro c
 induction c with
 | skip =>
  intro sc b E R N F L ρ a w q o s m;simp only[low,yo] at b;subst b;exact wp_skip ⟨F,L,ρ,q,o,s,rfl,Step.refl _ _ _,fun _ _=>rfl,m⟩
 | label l =>
  intro sc b E R N F L ρ a w q o s m;simp only[low,yo] at b;subst b;exact wp_label ⟨F,L,ρ,q,o,s,rfl,Step.refl _ _ _,fun _ _=>rfl,m⟩
 | exit id =>
  intro sc b E R N F L ρ a w q o s m;simp only[low,yo] at b;subst b;exact wp_exit ⟨F,L,ρ,q,o,s,rfl,Step.refl _ _ _,fun _ _=>rfl,m⟩
 | ret =>
  intro sc b E R N F L ρ a w q o s m;simp only[low,yo] at b;subst b;exact wp_ret ⟨F,L,ρ,q,o,s,rfl,Step.refl _ _ _,fun _ _=>rfl,m⟩
 | region r cy bj =>
  intro sc b E R N F L ρ a w q o s m;cases bj with
  | false =>
   simp only[low] at b;split at b
   case h_2=>cases b
   rename_i ss bs;injection b with b;subst b
   simp only[kG] at m;exact wp_region (nT _ bs q o s m fun a' w' h=>h)
  | true =>
   simp only[low] at b;split at b
   case h_2=>cases b
   rename_i is cl ss h1 z;split at b
   case h_2 =>
    split at b
    case h_2=>cases b
    injection b with b;subst b
    simp only[kG] at m
   rename_i h0;split at b
   case h_2=>cases b
   rename_i h3;injection b with b;subst b
   obtain⟨F1,L1,ab,ax,aw,aa,m⟩:=DY _ q o m;have h4:tF A.ord r=is:=by simp only[tF,h1]
   rw[h4] at z;exact sH z h3 ax aw s m fun a' w' h=>eY.after (asg1:=[]) aa rfl (fun _ _=>rfl) h (fun _ h=>vv h List.not_mem_nil) (fun _ h=>h)
 | seq x y an al =>
  intro sc b E R N F L ρ a w q o s m;simp only[low] at b;split at b
  case h_2=>cases b
  rename_i h1 z;injection b with b;subst b
  simp only[kG] at m;refine wp_seq (wp_mono (an h1 q o s m) ?_);intro e p w1 d;cases e with
  | normal =>
   obtain⟨F1,L1,ab,g1,g2,g3,g4,g5,g6,g7⟩:=d;refine wp_mono (al z g1 g2 g3 g7) ?_;intro e2 a2 w2 ay;cases e2<;>first
    | exact eY.after g5 g4 g6 ay (fun j h=>aah.2 (.inl h)) (fun j h=>aah.2 (.inr h))
    | exact ay
    | exact(noPan ay).elim
  | exit id=>exact d.mono fun j h=>aah.2 (.inl h)
  | ret=>exact d.mono fun j h=>aah.2 (.inl h)
  | goto l=>exact d
  | panic c=>exact(noPan d).elim
  | outgrown=>exact d
 | cond c x y an al =>
  intro sc b E R N F L ρ a w q o s m;simp only[low] at b;split at b
  case h_2=>cases b
  rename_i h0 h1 z;injection b with b;subst b
  simp only[kG] at m;split at m
  case h_2=>exact m.elim
  rename_i t ht;have hc:a.eval c=.bool t:=by rw[aI h0 o,bH ht]
  refine wp_cond hc ?_;cases t
  ·simp only[wD] at m;refine wp_mono (al z q o s m) ?_;intro e p w1 d;cases e<;>first
    | exact d.mono fun j h=>aah.2 (.inr h)
    | exact(noPan d).elim
    | exact d
  ·simp only[wD] at m;refine wp_mono (an h1 q o s m) ?_;intro e p w1 d;cases e<;>first
    | exact d.mono fun j h=>aah.2 (.inl h)
    | exact(noPan d).elim
    | exact d
 | block id x ih =>
  intro sc b E R N F L ρ a w q o s m;simp only[low] at b;split at b
  case h_2=>cases b
  rename_i h1;injection b with b;subst b
  simp only[kG] at m;refine wp_block (wp_mono (ih h1 q o s m) ?_);intro e p w1 d;cases e with
  | exit j =>
   simp only[Exit.inBlock];simp only[QQ] at d
   by_cases hj:j=id
   ·subst hj;have hb:Nat.beq j j=true:=by simp
    rw[hb] at d;rw[o6 rfl];exact d
   ·have hb:Nat.beq j id=false:=by
     cases h:Nat.beq j id with
     | true=>exact vv (xo h) hj
     | false=>rfl
    rw[hb] at d;rw[vz hj];exact d
  | normal=>exact d
  | ret=>exact d
  | goto l=>exact d
  | panic c=>exact(noPan d).elim
  | outgrown=>exact d
 | loop x ih =>
  intro sc b E R N F L ρ a w q o s m;simp only[low] at b;split at b
  case h_2=>cases b
  rename_i sx h1;injection b with b;subst b
  simp only[kG] at m;obtain⟨σ,x0,Inv,ls,lv,Lf,μ,i0,i1,i2,i3,i4⟩:=m
  -- the frame at a loop's ae
  have ae:∀(y:σ) (F1:aD) (L1:Loc) (ab:Env) (p:Act) (w1:World),(∀t,p.tmps.getD t undef=conc L1 (ab t))->(∀j,j∉cQ x->p.tmps.getD j undef=a.tmps.getD j undef)->holds ls ((lv y).map .v) ab ->
    aG (Lf y) (puts ls ((lv y).map .v) (iy (cQ x) (fun j=>p.tmps.getD j undef) ρ)) p:=by
   intro y F1 L1 ab p w1 bv bp hh;have be:∀j k off,iy (cQ x) (fun j=>p.tmps.getD j undef) ρ j=.own k off->j∉cQ x/\ρ j=.own k off:=by
    intro j k off e;simp only[iy] at e;split at e
    ·cases e
    ·rename_i hm;exact⟨fun h=>(by rw[cT.2 h] at hm;cases hm),e⟩
   have bo:∀j ad i,iy (cQ x) (fun j=>p.tmps.getD j undef) ρ j=.el ad i->ρ j=.el ad i:=by
    intro j ad i e;simp only[iy] at e;split at e
    ·cases e
    ·exact e
   refine⟨fun j=>?_,fun j k off e=>?_,fun j ad i e=>?_⟩
   ·rcases sD ls (lv y) ab (iy (cQ x) (fun j=>p.tmps.getD j undef) ρ) bv hh j with⟨v,z,h3⟩ | z
    ·rw[z,h3];rfl
    ·rw[z];simp only[iy];split
     ·rfl
     ·rename_i hm;have hj:j∉cQ x:=fun h=>by rw[cT.2 h] at hm;cases hm
      rw[bp j hj,o.eq j];cases e:ρ j with
      | v u=>rfl
      | el u i=>rfl
      | own k off =>
       obtain⟨g,ty,cs,hg⟩:=o.own j k off e;obtain⟨cs',ar⟩:=mI (i3 y) hg;simp only[conc,hg,ar]
   ·rcases jQ ls (lv y) (iy (cQ x) (fun j=>p.tmps.getD j undef) ρ) j with z | ⟨v,z⟩
    ·rw[z] at e;obtain⟨_,e'⟩:=be j k off e;obtain⟨g,ty,cs,hg⟩:=o.own j k off e';obtain⟨cs',ar⟩:=mI (i3 y) hg;exact⟨g,ty,cs',ar⟩
    ·rw[z] at e;cases e
   ·rcases jQ ls (lv y) (iy (cQ x) (fun j=>p.tmps.getD j undef) ρ) j with z | ⟨v,z⟩
    ·rw[z] at e;exact o.el j ad i (bo j ad i e)
    ·rw[z] at e;cases e
  refine uz (fun n p w1=>∃(y:σ) (F1:aD),n=μ y/\F.le F1/\Inv y F1/\St F1 (Lf y) w1/\p.tmps.size=A.n/\p.defers=a.defers/\Step F L w F1 (Lf y) w1/\(∀j,j∉cQ x->p.tmps.getD j undef=a.tmps.getD j undef) /\
   aG (Lf y) (puts ls ((lv y).map .v) (iy (cQ x) (fun j=>p.tmps.getD j undef) ρ)) p) ?_ ?_
  ·exact⟨_,x0,F,rfl,aD.le_refl F,i0,q.gives i2,s,rfl,sB i2,fun _ _=>rfl,ae x0 F L ρ a w o.eq (fun _ _=>rfl) i1⟩
  ·rintro n p w1 ⟨y,F1,rfl,bb,bi,ax,ca,av,aa,ac,aw⟩;refine wp_mono (ih h1 ax aw ca (i4 y F1 _ bb bi)) ?_;intro e a2 w2 d;cases e with
   | normal =>
    obtain⟨F2,L2,cc,g1,g2,g3,g4,g5,g6,⟨y',k1,k2,k3,k4⟩⟩:=d;have ao:∀j,j∉cQ x->a2.tmps.getD j undef=a.tmps.getD j undef:=fun j hj=>by rw[g6 j hj,ac j hj]
    exact⟨μ y',k4,y',F2,rfl,aD.le_trans bb g5.le,k1,g1.gives k3,g3,g4.trans av,(aa.trans g5).trans (sB k3),ao,ae y' F2 L2 cc a2 w2 g2.eq ao k2⟩
   | exit j=>exact eY.after aa av ac d (fun j h=>h) (fun j h=>h)
   | ret=>exact eY.after aa av ac d (fun j h=>h) (fun j h=>h)
   | goto l=>exact d
   | panic c=>exact(noPan d).elim
   | outgrown=>exact d
 | rangeFunc f ps x y an al=>intro sc b;simp only[low] at b;cases b
 | scope x ih =>
  intro sc b E R N F L ρ a w q o s m;simp only[low] at b;refine wp_scope_straight (wp_mono (ih b q o s m) ?_);intro e p w1 d;cases e<;>exact d
 | goto l=>intro sc b;simp only[low] at b;cases b
 | refuse dl=>intro sc b;simp only[low] at b;cases b
end
end Go.Fr
namespace Go.Fr.T
open Go Go.RowKit Go.Fr
theorem IW:∀{bs:List Own}{ns:List Nat}{i:Nat}{o:Own},Dl bs ns->bs[i]?=some o->∃g t cs,o=.box g t cs
 | [],ns,i,o,h,e=>by simp at e
 | b::bs,[],i,o,h,e=>h.elim
 | b::bs,n::ns,i,o,h,e=>by
  cases i with
  | zero =>
   simp only[aat,yo] at e;subst e;cases b with
   | row=>exact h.1.elim
   | box g t cs=>exact⟨g,t,cs,rfl⟩
  | succ i=>exact IW h.2 (by simpa using e)
def Gu (n:Nat):Env:=fun j=>match Nat.blt j n with | true=>.own (1000+j) 0 | false=>.v undef
theorem LR {bs:List Own}{ns:List Nat}{m:Nat}(h:Dl bs ns):aG (inp bs) (Gu bs.length) {tmps:=(bs.map nB).toArray++Array.replicate m undef,defers:=[]}:=by
 have c:∀j,j<bs.length->∃g t cs,bs[j]?=some (.box g t cs):=fun j d=>by
  obtain⟨g,t,cs,e⟩:=IW h (aag d);exact⟨g,t,cs,by rw[aag d,e]⟩
 have hi:∀j,(inp bs).get (1000+j)=bs[j]?:=fun j=>by rw[aW,o6 (by omega),show 1000+j-1000=j by omega]
 refine⟨fun j=>?_,fun j k off e=>?_,fun j f i e=>?_⟩
 ·simp only[Gu,aaF];cases hb:Nat.blt j bs.length with
  | true =>
   have a:j<bs.length:=by simpa using hb
   obtain⟨g,t,cs,e⟩:=c j a;rw[Array.getElem?_append_left (by simpa using a)];simp only[conc,hi,e,List.getElem?_toArray,aaT,aa5,Option.getD_some,nB]
  | false =>
   have b:¬j<bs.length:=fun h=>by rw[(Nat.blt_eq ..).mpr h] at hb;cases hb
   rw[Array.getElem?_append_right (by simpa using b)];simp only[Array.getElem?_replicate,conc];split<;>rfl
 ·simp only[Gu] at e;split at e
  ·rename_i hb;have a:j<bs.length:=by simpa using hb
   injection e with e1 e2
   subst e1;obtain⟨g,t,cs,e⟩:=c j a;exact⟨g,t,cs,by rw[hi,e]⟩
  ·cases e
 ·simp only[Gu] at e;split at e<;>cases e
def NJ:Op->Bool
 | .call {callee:=.builtin .recover,args:=⟨[]⟩,argTypes:=⟨[]⟩}=>true
 | _=>false
theorem Gv {P:Program}{H d d2 r0:Nat}{fn:Func}{o o2:Oper}{rest:Code}{A:cH}{sc:aH}{PS:Value->Prop}{ns:List Nat}{out:Value->List (List Value)}
  (hf:P.funcs[H]?=some fn) (hb:fn.body=some (.seq (.region r0 #[o,o2] false) rest)) (hname:(fn.name == "runtime.NumGoroutine")=false) (ho:o.op=.call {callee:=.builtin .recover,args:=#[],argTypes:=#[]}) (hd:o.dst=some d) (hg:o.guard=none) (ho2:o2.op=.assign (.tmp d)) (hd2:o2.dst=some d2) (hg2:o2.guard=none) (hdn2:d2<A.n)
  (hnt:fn.ntmps=A.n) (hres:fn.results=#[]) (hl:low P A rest=some sc) (hdn:d<A.n) (hns:ns.length<=A.n)
  (hidle:∀(bs:List Own) (w:World),Dl bs ns->CallsD P H (bs.map nB).toArray .returning w fun e u' w'=>e=.returned (.tuple #[])/\u'=.returning/\w'=w)
  (hcat:∀(F:aD) (bs:List Own) (v:Value),PS v->Dl bs ns->kG P sc (fun _ _ _ _=>False) (fun _ L' _=>L'.sub (List.range' 1000 bs.length)=some (List.zipWith pX bs (out v))) (fun _ L' _=>L'.sub (List.range' 1000 bs.length)=some (List.zipWith pX bs (out v))) F (inp bs) (put (some d2) (.v v) (put (some d) (.v v) (Gu bs.length)))) :
  pQ P H PS ns out:=by
 refine⟨fun cap w=>?_,hidle,fun F bs v older w hv hbx hs=>?_⟩
 ·simp[invoke];rw[jO ⟨fn,hf,by rw[hb];rfl,hname⟩]
 refine callsD_of_wpS hf hb fun c₀ cs hu=>?_;have hlen:=wj hbx;have he0:=LR (m:=fn.ntmps-(bs.map nB).toArray.size) hbx;generalize htm:(bs.map nB).toArray++Array.replicate (fn.ntmps-(bs.map nB).toArray.size) undef=tm at he0 ⊢;have hsz:tm.size=A.n:=by
  rw[<-htm,<-hnt];simp;omega
 refine wpS_seq (wpS_region ?_);simp[wpOpsS,go_sem,recoverD,hu,ho,hd,hg,ho2,hd2,hg2,Region.wanted,Exit.thenS,hsz,hdn,Act.eval];have he1:=he0.put (L':=inp bs) (d:=some d) (v:=v) (x:=.v v) (fun k e=>by injection e with e;subst e;simpa[hsz] using hdn) rfl bT dK (fun k g ty cs e=>⟨cs,e⟩);have he2:=he1.put (L':=inp bs) (d:=some d2) (v:=v) (x:=.v v) (fun k e=>by injection e with e;subst e;simp[Act.put,hsz];exact hdn2) rfl bT dK (fun k g ty cs e=>⟨cs,e⟩);refine wpS_of_wp (wp_mono (CA rest hl hs ⟨he2.eq,he2.own,he2.el⟩ (by simpa using hsz) (hcat F bs v hv hbx)) ?_);have fin:∀(a':Act) (w':World),eY A.n F (inp bs) w {tmps:=(tm.setIfInBounds d v).setIfInBounds d2 v,defers:=[]} (cQ rest) (fun _ L' _=>L'.sub (List.range' 1000 bs.length)=some (List.zipWith pX bs (out v))) a' w' ->
   a'.defers=[]/\∃u',({c₀ with mode:=FrameMode.panicking ({v,recovered:=true}::older)}::cs:List Frame)={c₀ with mode:=u'}::cs/\∃x,(results fn a'.tmps).run P w'=.ok x w' /\
    ((Ending.returned x=.returned (.tuple #[])/\u'=.panicking ({v,recovered:=true}::older))/\∃F',St F' (inp (List.zipWith pX bs (out v))) w'/\Step F (inp bs) w F' (inp (List.zipWith pX bs (out v))) w'):=by
  rintro a' w' ⟨F',L',ρ',g1,g2,g3,g4,g5,g6,k1⟩;obtain⟨e1,e2⟩:=eW k1;refine⟨g4,_,rfl,.tuple #[],by simp[results,hres],⟨rfl,rfl⟩,F',g1.handed k1 List.nodup_range',?_⟩;refine⟨g5.le,g5.os,g5.tape,g5.output,g5.size,g5.same,g5.frz,fun b hb=>g5.own b ?_⟩;obtain⟨j,p,e,hb⟩:=hb;rw[aW] at e;split at e
  case isFalse=>cases e
  have hlt:j-1000<(List.zipWith pX bs (out v)).length:=(aai.1 e).1;have hk:(List.range' 1000 bs.length)[j-1000]?=some ((List.range' 1000 bs.length)[j-1000]'(by omega)):=aag (by omega);exact⟨_,p,by rw[e2 _ _ hk];exact e,hb⟩
 intro e a' w' hq;cases e with
 | normal =>
  obtain⟨k1,u',k2,x,k3,⟨k4,k5⟩,k6⟩:=fin a' w' hq;exact⟨k1,u',k2,x,k3,k4,k5,k6⟩
 | ret =>
  obtain⟨k1,u',k2,x,k3,⟨k4,k5⟩,k6⟩:=fin a' w' hq;exact⟨k1,u',k2,x,k3,k4,k5,k6⟩
 | exit j=>obtain⟨F',L',ρ',_,_,_,_,_,_,h⟩:=hq;exact h.elim
 | goto l=>exact hq.elim
 | outgrown=>exact hq.elim
 | panic ch=>obtain⟨v,hch,hp⟩:=hq;obtain⟨F',L',_,_,_,_,_,hp⟩:=hp;exact hp.elim
def A9 (P:Program) (A:cH) (fn:Func):Option (aH×Nat×Nat) :=
 match fn.body with
 | some (.seq (.region _ ⟨[o,o2]⟩ false) rest)=>match NJ o.op,o.dst,o.guard,low P A rest,fn.results with
  | true,some d,none,some sc,⟨[]⟩=>match o2.op,o2.dst,o2.guard with
   | .assign (.tmp d'),some d2,none=>match fn.name == "runtime.NumGoroutine",Nat.beq fn.ntmps A.n&&Nat.blt d A.n&&Nat.beq d d'&&Nat.blt d2 A.n with
    | false,true=>some (sc,d,d2)
    | _,_=>none
   | _,_,_=>none
  | _,_,_,_,_=>none
 | _=>none
theorem Ba {P:Program}{H d m:Nat}{fn:Func}{A:cH}{sc:aH}{PS:Value->Prop}{ns:List Nat}{out:Value->List (List Value)}(hf:P.funcs[H]?=some fn) (a:A9 P A fn=some (sc,d,m)) (k:Nat.ble ns.length A.n=true)
  (b:∀(bs:List Own) (w:World),Dl bs ns->CallsD P H (bs.map nB).toArray .returning w fun e u' w'=>e=.returned (.tuple #[])/\u'=.returning/\w'=w)
  (c:∀(F:aD) (bs:List Own) (v:Value),PS v->Dl bs ns->kG P sc (fun _ _ _ _=>False) (fun _ L' _=>L'.sub (List.range' 1000 bs.length)=some (List.zipWith pX bs (out v))) (fun _ L' _=>L'.sub (List.range' 1000 bs.length)=some (List.zipWith pX bs (out v))) F (inp bs) (put (some m) (.v v) (put (some d) (.v v) (Gu bs.length)))) :
  pQ P H PS ns out:=by
 unfold A9 at a;split at a
 case h_2=>cases a
 rename_i r o o2 l hb;split at a
 case h_2=>cases a
 rename_i d' al h h2 h3 s t;split at a
 case h_2=>cases a
 rename_i x y z dd u k1 k2 q;split at a
 case h_2=>cases a
 rename_i h6 f;simp only[yo,Prod.mk.injEq] at a;obtain⟨rfl,rfl,rfl⟩:=a;simp only[aaj] at f;obtain⟨⟨⟨f,h8⟩,h9⟩,j⟩:=f;obtain rfl:=xo h9;have p:o.op=.call {callee:=.builtin .recover,args:=#[],argTypes:=#[]}:=by
  unfold NJ at h;split at h
  ·assumption
  ·cases h
 exact Gv hf hb h6 p h2 h3 k1 k2 q (by simpa using j) (xo f) t s (by simpa using h8) (aav k) b c
end Go.Fr.T
namespace Go.Fr
open Go Go.RowKit
mutual
def G.bulk:G->Nat
 | .int _ _=>1
 | .bool _=>1
 | .str s=>s.size+1
 | .sl _ l=>G.ZF l+1
 | .st l=>G.ZF l+1
def G.ZF:List G->Nat
 | []=>0
 | x::l=>G.bulk x+G.ZF l
end
mutual
def iR {H:Type}:DataW H->Nat
 | .lit (.string bytes)=>bytes.length+1
 | .lit _=>1
 | .nil=>1
 | .ptr d=>iR d+1
 | .slice elems spare=>fA elems+fA spare+1
 | .agg parts=>fA parts+1
 | .iface _ d=>iR d+1
 | .map entries=>mD entries+1
 | .held _=>1
def fA {H:Type}:List (DataW H)->Nat
 | []=>0
 | d::r=>iR d+fA r
def mD {H:Type}:List (Lit×DataW H)->Nat
 | []=>0
 | x::r=>sW x+mD r
def sW {H:Type}:Lit×DataW H->Nat
 | (.string bytes,d)=>bytes.length+iR d+1
 | (_,d)=>iR d+1
end
def Ok (P:Program):Nat->TypeId->G->Prop
 | 0,_,_=>False
 | n+1,t,g=>match P.underlying t with
  | some .bool=>∃b,g=.bool b
  | some (.int k)=>∃x,g=.int k x/\(Lit.int k x).wf=true
  | some .string=>∃s,g=.str s
  | some (.slice e)=>∃l,g=.sl (P.cellsOf e) l/\∀x∈l,Ok P n e x
  | some (.struct fs)=>∃l,g=.st l/\l.length=fs.size/\∀(i:Nat) (f:Field) (x:G),fs[i]?=some f->l[i]?=some x->Ok P n f.type x
  | _=>False
def xS (P:Program):Nat->List Field->Nat->Bool
 | o,[],n=>Nat.beq o n
 | o,f::fs,n=>Nat.beq f.offset o&&xS P (o+P.cellsOf f.type) fs n
def JN (P:Program) (S:List TypeId) (t:TypeId):Bool :=
 match P.underlying t with
 | some .bool=>true
 | some (.int _)=>true
 | some .string=>true
 | some (.slice e)=>ga S e&&Nat.blt 0 (P.cellsOf e)
 | some (.struct fs)=>xS P 0 fs.toList (P.cellsOf t)&&fs.toList.all fun f=>ga S f.type
 | _=>false
def flat (P:Program) (S:List TypeId):Bool:=S.all (JN P S)
theorem vB {Q:Nat->G->Prop}:∀(n:Nat),(∀i,i<n->∃g,Q i g)->∃l:List G,l.length=n/\∀i g,l[i]?=some g->Q i g
 | 0,_=>⟨[],rfl,fun i g h=>by simp at h⟩
 | n+1,h=>by
  obtain⟨l,d,b⟩:=vB n (fun i hi=>h i (by omega));obtain⟨g,c⟩:=h n (by omega);refine⟨l++[g],by simp[d],fun i x a=>?_⟩
  by_cases hi:i<l.length
  ·rw[aap hi] at a;exact b i x a
  ·rw[aaw (by omega)] at a;have:i-l.length=0:=by
    cases e:i-l.length with
    | zero=>rfl
    | succ k=>rw[e] at a;simp at a
   rw[this] at a;simp only[aat,yo] at a;subst a;have:i=n:=by omega
   subst this;exact c
theorem xT {H:Type}:∀{l:List G}{ds:List (DataW H)},l.length=ds.length->(∀(i:Nat) g d,l[i]?=some g->ds[i]?=some d->g.bulk<=iR d)->G.ZF l<=fA ds
 | [],_,_,_=>by simp[G.ZF]
 | x::l,[],h,_=>by simp at h
 | x::l,d::ds,h,hb=>by
  simp only[G.ZF,fA];have f:=hb 0 x d (by simp) (by simp);have e:=xT (l:=l) (ds:=ds) (by simpa using h) (fun i g b c a=>hb (i+1) g b (by simpa using c) (by simpa using a));omega
section
variable {H:Type}{enc:TypeId×Value->H}{P:Program}{w:World}{base:Nat}{spare:Nat->Bool}{held:Bool}
def pR (w:World):aD:=fun b=>w.heap[b]?
theorem GF {a:Addr}{n:Nat}{cs:List Value}(h:w.cells? base a n=some cs) (s:0<n) (u:a.spot=none->∀i,i<n->w.frozen? ⟨a.block,a.off+i,none⟩=false):cs.length=n/\bV (pR w) (some a) 0 cs:=by
 obtain⟨_,f,q⟩:=World.cells?_some h;refine⟨f,?_⟩;have m:=q 0 s;rw[aag (by omega)] at m;have d:a.spot=none:=by simpa[Addr.add] using World.cell?_spot m
 have l:∃j t k,w.heap[a.block]?=some (.cells j t k):=by
  simp only[World.cell?,Addr.add] at m;split at m
  ·rename_i c t k e;exact⟨c,t,k,e⟩
  ·cases m
 obtain⟨j,t,k,hb⟩:=l;refine⟨a,j,t,k,rfl,hb,d,fun i v p=>?_⟩;have hi:i<n:=by rw[<-f];exact(aai.1 p).1
 have:=q i hi;obtain⟨b,o,z⟩:=a;simp only at d;subst d;rw[p,cm] at this;simp only[World.cell?] at this;simp only at hb;rw[hb] at this;refine⟨by simpa using this,fun x=>?_⟩;have y:=u rfl i hi;obtain⟨lo,r⟩:=k;simp only[World.frozen?,hb,Bool.and_eq_false_iff,decide_eq_false_iff_not] at y;simp only[Nat.add_zero] at x;omega
theorem Be {F:aD}{a:Addr}{n:Nat}{cs:List Value}(d:a.spot=none) (h:bV F (some (a.add n)) 0 cs):bV F (some a) n cs:=by
 obtain⟨b,o,p⟩:=a;simp only at d;subst d;rw[cm] at h;obtain⟨m,c,t,j,e,hb,l,k⟩:=h;injection e with e
 subst e;exact⟨_,c,t,j,rfl,hb,rfl,fun i v f=>by have:=k i v f;simpa[Nat.add_assoc] using this⟩
theorem MR {S:List TypeId}(hS:flat P S=true):∀(fuel:Nat) (t:TypeId) (cs:List Value) (x:DataW H×List MemPlace),t∈S->DataW.trod enc P w base spare held fuel t cs=some x->w.noneFrozen x.2 ->
  ∃g,Ok P fuel t g/\Rd (pR w) g cs/\g.bulk<=iR x.1:=by
 intro fuel
 induction fuel with
 | zero=>intro t cs x _ h;simp[DataW.trod] at h
 | succ n ih =>
  intro t cs x ht h hz;have u:=aas.1 hS t ht;simp only[JN] at u;split at u
  ·rename_i c;obtain⟨b,rfl,rfl⟩:=DataW.trod_bool c h;exact⟨.bool b,by simp[Ok,c],by simp[Rd],by simp[G.bulk,iR]⟩
  ·rename_i k c;obtain⟨m,rfl,rfl,hw⟩:=DataW.trod_int c h;exact⟨.int k m,by simp[Ok,c,hw],by simp[Rd,hw],by simp[G.bulk,iR]⟩
  ·rename_i c;obtain⟨s,rfl,rfl,hw⟩:=DataW.trod_string c h;exact⟨.str s,by simp[Ok,c],by simp[Rd],by simp[G.bulk,iR]⟩
  ·rename_i e c;simp only[aaj] at u;have he:e∈S:=cT.1 u.1;have ab:0<P.cellsOf e:=by simpa using u.2
   rcases DataW.trod_slice c h with⟨rfl,rfl⟩ | ⟨a,len,cap,elems,an,m,e1,rfl,rfl,hb,hl,hm,aa,ay,_,_⟩
   ·refine⟨.sl (P.cellsOf e) [],by simp[Ok,c],?_,by simp[G.bulk,G.ZF,iR]⟩;rw[NF];exact⟨none,0,rfl,by simp,by simp,fun _=>⟨rfl,rfl⟩,fun j x hx=>by simp at hx⟩
   ·obtain rfl:m=n:=by omega
    have r:0<len->a.spot=none:=by
     intro h0;have h1:=ay 0 h0;rw[aag (by omega)] at h1;obtain⟨es,h2,h3⟩:=Option.bind_eq_some_iff.1 h1;have h0:=(World.cells?_some h2).2.2 0 ab;rw[aag (by rw[(World.cells?_some h2).2.1];omega)] at h0;simpa[Addr.add] using World.cell?_spot h0
    obtain⟨l,az,ag⟩:=vB (Q:=fun i g=>Ok P m e g/\(∃es,es.length=P.cellsOf e/\bV (pR w) (some a) (i*P.cellsOf e) es/\Rd (pR w) g es)/\∀y,elems[i]?=some y->g.bulk<=iR y.1) len (by
     intro i hi;have h1:=ay i hi;rw[aag (by omega)] at h1;obtain⟨es,h2,h3⟩:=Option.bind_eq_some_iff.1 h1;obtain⟨g,g1,g2,g3⟩:=ih e es _ he h3 (fun b off hm=>hz b off (List.mem_append_right _ (List.mem_flatMap.2 ⟨_,List.mem_append_left _ (List.getElem_mem (show i<elems.length by omega)),hm⟩)));obtain⟨g4,g5⟩:=GF h2 ab (fun hs k hk=>by
      have ax:a.spot=none:=r (by omega);obtain⟨b,o,sp⟩:=a;simp only at ax;subst ax;rw[cm];refine hz b _ (List.mem_append_left _ (aaJ.2 ⟨i*P.cellsOf e+k,List.mem_range.2 ?_,by simp[Nat.add_assoc]⟩));have h5:(i+1)*P.cellsOf e<=(elems.length+an.length)*P.cellsOf e:=Nat.mul_le_mul_right _ (by omega);rw[Nat.add_mul] at h5;omega)
     refine⟨g,g1,⟨es,g4,Be (r (by omega)) g5,g2⟩,fun y q=>?_⟩;rw[aag (by omega)] at q;injection q with q
     subst q;exact g3)
    refine⟨.sl (P.cellsOf e) l,?_,?_,?_⟩
    ·simp only[Ok,c];refine⟨l,rfl,fun x hx=>?_⟩;obtain⟨i,hi⟩:=aaE.1 hx;exact(ag i x hi).1
    ·rw[NF];exact⟨some a,cap,by rw[az],by omega,hm,fun e=>(by cases e),fun j x hx=>(ag j x hx).2.1⟩
    ·simp only[G.bulk,iR];have:=xT (l:=l) (ds:=elems.map (·.1)) (by simp[az,aa]) (fun i g d hg hd=>by
      simp only[aaT,Option.map_eq_some_iff] at hd;obtain⟨y,q,rfl⟩:=hd;exact(ag i g hg).2.2 y q)
     omega
  ·rename_i fs c;simp only[aaj] at u;obtain⟨ad,aw⟩:=u;obtain⟨xs,m,e1,rfl,aa,bi,v⟩:=DataW.trod_struct c h;obtain rfl:m=n:=by omega
   have key:∀(fl:List Field) (ys:List (DataW H×List MemPlace)) (o:Nat),xS P o fl (P.cellsOf t)=true->ys.length=fl.length->(∀f∈fl,f.type∈S) ->
     (∀(i:Nat) f,fl[i]?=some f->DataW.trod enc P w base spare held m f.type ((cs.drop f.offset).take (P.cellsOf f.type))=ys[i]?) ->
     (∀y∈ys,w.noneFrozen y.2) ->
     ∃l,l.length=fl.length/\(∀(i:Nat) f g,fl[i]?=some f->l[i]?=some g->Ok P m f.type g)/\mU (pR w) l (cs.drop o)/\G.ZF l<=fA (ys.map (·.1)):=by
    intro fl
    induction fl with
    | nil =>
     intro ys o hc _ _ _ _;simp only[xS] at hc;have:=xo hc;refine⟨[],rfl,fun i f g h=>by simp at h,?_,by simp[G.ZF]⟩;simp only[mU];rw[List.drop_eq_nil_iff];omega
    | cons f fl bc =>
     intro ys o hc q z v ar;simp only[xS,aaj] at hc;have av:=xo hc.1
     match ys,q with
     | y::ys,q =>
      have h0:=v 0 f (by simp);simp only[aat] at h0;obtain⟨g,g1,g2,g3⟩:=ih f.type _ _ (z f (by simp)) h0 (ar y (by simp));obtain⟨l,l1,l2,l3,l4⟩:=bc ys (o+P.cellsOf f.type) hc.2 (by simpa using q) (fun f' p=>z f' (by simp[p])) (fun i f' p=>by
       have:=v (i+1) f' (by simpa using p);simpa using this) (fun y' bb=>ar y' (by simp[bb]))
      refine⟨g::l,by simp[l1],fun i f' g' p ac=>?_,?_,?_⟩
      ·cases i with
       | zero=>simp only[aat,yo] at p ac;subst p;subst ac;exact g1
       | succ i=>exact l2 i f' g' (by simpa using p) (by simpa using ac)
      ·simp only[mU];refine⟨(cs.drop o).take (P.cellsOf f.type),cs.drop (o+P.cellsOf f.type),?_,by rw[<-av];exact g2,l3⟩;rw[<-List.drop_drop,List.take_append_drop]
      ·simp only[G.ZF,aao,fA];omega
   obtain⟨l,l1,l2,l3,l4⟩:=key fs.toList xs 0 ad (by simp[bi]) (fun f u=>cT.1 (aas.1 aw f u)) (fun i f hi=>v i f (by simpa using hi)) (fun y q b off hm=>hz b off (List.mem_flatMap.2 ⟨y,q,hm⟩));refine⟨.st l,?_,?_,?_⟩
   ·simp only[Ok,c];exact⟨l,rfl,by simpa using l1,fun i f x hi hx=>l2 i f x (by simpa using hi) hx⟩
   ·simp only[Rd];simpa using l3
   ·simp only[G.bulk,iR];omega
  ·cases u
end
namespace Api
abbrev I (n:Int):G:=.int .i64 n
inductive Ty where
 | mk (kind id:Int) (args:List Ty)
 deriving Inhabited
def Ty.kind:Ty->Int | .mk k _ _=>k
def Ty.id:Ty->Int | .mk _ i _=>i
def Ty.args:Ty->List Ty | .mk _ _ l=>l
mutual
def Ty.g:Ty->G
 | .mk k i l=>.st [I k,I i,.sl 3 (Ty.gs l)]
def Ty.gs:List Ty->List G
 | []=>[]
 | t::l=>t.g::Ty.gs l
end
theorem Ty.Z1:∀l:List Ty,Ty.gs l=l.map Ty.g
 | []=>rfl
 | t::l=>by simp[Ty.gs,Ty.Z1 l]
structure rX where
 param:Int
 trait:Int
def rX.g (b:rX):G:=.st [I b.param,I b.trait]
structure Term where
 kind:Int
 a:Int
 targets:List Int
def Term.g (x:Term):G:=.st [I x.kind,I x.a,.sl 1 (x.targets.map I)]
structure G5 where
 op:Int
 dst:Int
 a:Int
 b:Int
 n:Int
 args:List Int
 types:List Ty
def G5.g (x:G5):G:=.st [I x.op,I x.dst,I x.a,I x.b,I x.n,.sl 1 (x.args.map I),.sl 3 (x.types.map Ty.g)]
structure Block where
 code:List G5
 fin:Term
def Block.g (x:Block):G:=.st [.sl 7 (x.code.map G5.g),x.fin.g]
structure PK where
 name:ByteArray
 module:Int
 params:Int
 bounds:List rX
 arity:Int
 result:Ty
 locals:List Ty
 blocks:List Block
 ties:List Int
def PK.g (f:PK):G:=.st [.str f.name,I f.module,I f.params,.sl 2 (f.bounds.map rX.g),I f.arity,f.result.g,.sl 3 (f.locals.map Ty.g),.sl 4 (f.blocks.map Block.g),.sl 1 (f.ties.map I)]
structure Variant where
 name:ByteArray
 fields:List Ty
def Variant.g (x:Variant):G:=.st [.str x.name,.sl 3 (x.fields.map Ty.g)]
structure Data where
 name:ByteArray
 module:Int
 params:Int
 variants:List Variant
 drop:Int
def Data.g (d:Data):G:=.st [.str d.name,I d.module,I d.params,.sl 2 (d.variants.map Variant.g),I d.drop]
structure Impl where
 trait:Int
 module:Int
 params:Int
 bounds:List rX
 type:Ty
 func:Int
def Impl.g (x:Impl):G:=.st [I x.trait,I x.module,I x.params,.sl 2 (x.bounds.map rX.g),x.type.g,I x.func]
structure Prog where
 modules:List ByteArray
 uses:List (List Int)
 datas:List Data
 traits:List ByteArray
 homes:List Int
 impls:List Impl
 funcs:List PK
 main:Int
def Prog.g (p:Prog):G:=.st [.sl 1 (p.modules.map .str),.sl 1 (p.uses.map fun l=>.sl 1 (l.map I)),.sl 5 (p.datas.map Data.g),.sl 1 (p.traits.map .str),.sl 1 (p.homes.map I),.sl 8 (p.impls.map Impl.g),.sl 11 (p.funcs.map PK.g),I p.main]
section
variable {F:aD}{cs:List Value}
end
end Api
end Go.Fr
namespace Go.Fr
open Go Go.RowKit
namespace Api
section
variable {P:Program}
def PL (P:Program) (n:Nat):List TypeId->List G->Prop
 | [],[]=>True
 | t::a,x::l=>Ok P n t x/\PL P n a l
 | _,_=>False
theorem JO {n:Nat}:∀{fl:List Field}{l:List G},l.length=fl.length->(∀(i:Nat) (f:Field) (x:G),fl[i]?=some f->l[i]?=some x->Ok P n f.type x)->PL P n (fl.map (·.type)) l
 | [],[],_,_=>trivial
 | [],x::l,h,_=>by simp at h
 | f::fl,[],h,_=>by simp at h
 | f::fl,x::l,h,a=>⟨a 0 f x (by simp) (by simp),JO (by simpa using h) fun i b e d c=>a (i+1) b e (by simpa using d) (by simpa using c)⟩
theorem ok_int {n:Nat}{t:TypeId}{g:G}{k:IntKind}(h:P.underlying t=some (.int k)) (a:Ok P n t g):∃x,g=.int k x:=by
 cases n with
 | zero=>exact a.elim
 | succ n=>simp only[Ok,h] at a;obtain⟨x,b,_⟩:=a;exact⟨x,b⟩
theorem PN {n:Nat}{t:TypeId}{g:G}(h:P.underlying t=some .string) (a:Ok P n t g):∃x,g=.str x:=by
 cases n with
 | zero=>exact a.elim
 | succ n=>simp only[Ok,h] at a;exact a
theorem Fc {b:Type}{f:b->G}:∀{l:List G},(∀x∈l,∃y,x=f y)->∃a:List b,l=a.map f
 | [],_=>⟨[],rfl⟩
 | x::l,h=>by
  obtain⟨y,rfl⟩:=h x (by simp);obtain⟨a,rfl⟩:=Fc (l:=l) (fun z c=>h z (by simp[c]));exact⟨y::a,rfl⟩
theorem PO {n:Nat}{t e:TypeId}{g:G}{sz:Nat}{c:Type}{f:c->G}(h:P.underlying t=some (.slice e)) (b:P.cellsOf e=sz) (a:Ok P n t g) (d:∀m x,m<n->Ok P m e x->∃y,x=f y):∃l:List c,g=.sl sz (l.map f):=by
 cases n with
 | zero=>exact a.elim
 | succ n =>
  simp only[Ok,h] at a;obtain⟨l,rfl,o⟩:=a;obtain⟨j,rfl⟩:=Fc (f:=f) (fun x k=>d n x (by omega) (o x k));exact⟨j,by rw[b]⟩
theorem Rl {n:Nat}{t:TypeId}{g:G}{fs:Array Field}{c:List TypeId}(h:P.underlying t=some (.struct fs)) (b:fs.toList.map (·.type)=c) (a:Ok P n t g):∃m l,m<n/\g=.st l/\PL P m c l:=by
 cases n with
 | zero=>exact a.elim
 | succ n =>
  simp only[Ok,h] at a;obtain⟨l,rfl,j,k⟩:=a;subst b;exact⟨n,l,by omega,rfl,JO (by simpa using j) fun i f x d e=>k i f x (by simpa using d) e⟩
def uX (P:Program) (t:TypeId) (a:List TypeId):Bool:=match P.underlying t with | some (.struct fs)=>decide (fs.toList.map (·.type)=a) | _=>false
def sZ (P:Program) (t e sz:Nat):Bool:=match P.underlying t with | some (.slice e')=>Nat.beq e' e&&Nat.beq (P.cellsOf e) sz | _=>false
def SN (P:Program) (t:TypeId):Bool:=match P.underlying t with | some (.int .i64)=>true | _=>false
def Vj (P:Program) (t:TypeId):Bool:=match P.underlying t with | some .string=>true | _=>false
theorem pJ {t:TypeId}{a:List TypeId}(h:uX P t a=true) {n:Nat}{g:G}(c:Ok P n t g):∃m l,m<n/\g=.st l/\PL P m a l:=by
 simp only[uX] at h;split at h
 ·rename_i fs b;exact Rl b (by simpa using h) c
 ·cases h
theorem ld {t e sz:Nat}(h:sZ P t e sz=true) {n:Nat}{g:G}{a:Type}{f:a->G}(j:Ok P n t g) (c:∀m x,m<n->Ok P m e x->∃y,x=f y):∃l:List a,g=.sl sz (l.map f):=by
 simp only[sZ] at h;split at h
 ·rename_i o b;simp only[aaj] at h;have k:=xo h.1;have d:=xo h.2;subst k;exact PO b d j c
 ·cases h
theorem D4 {t:TypeId}(h:SN P t=true) {n:Nat}{g:G}(b:Ok P n t g):∃x,g=I x:=by
 simp only[SN] at h;split at h
 ·rename_i a;exact ok_int a b
 ·cases h
theorem PU {t:TypeId}(h:Vj P t=true) {n:Nat}{g:G}(b:Ok P n t g):∃x,g=.str x:=by
 simp only[Vj] at h;split at h
 ·rename_i a;exact PN a b
 ·cases h
theorem D5 {n:Nat}{b:TypeId}{l:List G}(h:PL P n [b] l):∃a,l=[a]/\Ok P n b a:=by
 match l,h with
 | [a],h=>exact⟨a,rfl,h.1⟩
theorem cF {n:Nat}{b:TypeId}{c:List TypeId}{l:List G}(h:PL P n (b::c) l):∃a r,l=a::r/\Ok P n b a/\PL P n c r:=by
 match l,h with
 | a::r,h=>exact⟨a,r,rfl,h.1,h.2⟩
theorem Rm {t e h:TypeId}(hi:SN P e=true) (s:uX P t [e,e,h]=true) (p:sZ P h t 3=true):∀(n:Nat) (g:G),Ok P n t g->∃x:Ty,g=x.g:=by
 intro n
 induction n using Nat.strongRecOn with
 | _ n r =>
  intro g o;obtain⟨m,l,y,rfl,d⟩:=pJ s o;obtain⟨a,l,rfl,u,d⟩:=cF d;obtain⟨b,l,rfl,hb,d⟩:=cF d;obtain⟨c,rfl,q⟩:=D5 d;obtain⟨k,rfl⟩:=D4 hi u;obtain⟨i,rfl⟩:=D4 hi hb;obtain⟨xs,rfl⟩:=ld p q (f:=Ty.g) (fun j x v w=>r j (by omega) x w);exact⟨.mk k i xs,by simp[Ty.g,Ty.Z1]⟩
structure iA where
 int:TypeId
 str:TypeId
 ints:TypeId
 strs:TypeId
 intss:TypeId
 ty:TypeId
 tys:TypeId
 bound:TypeId
 bounds:TypeId
 term:TypeId
 ins:TypeId
 inss:TypeId
 block:TypeId
 blocks:TypeId
 func:TypeId
 funcs:TypeId
 variant:TypeId
 variants:TypeId
 data:TypeId
 datas:TypeId
 impl:TypeId
 impls:TypeId
 prog:TypeId
def iA.tyOk (P:Program) (d:iA):Bool:=SN P d.int&&uX P d.ty [d.int,d.int,d.tys]&&sZ P d.tys d.ty 3
def iA.ZJ (P:Program) (d:iA):Bool:=d.tyOk P&&Vj P d.str&&sZ P d.ints d.int 1&&uX P d.bound [d.int,d.int]&&sZ P d.bounds d.bound 2&&uX P d.term [d.int,d.int,d.ints] &&
 uX P d.ins [d.int,d.int,d.int,d.int,d.int,d.ints,d.tys]&&sZ P d.inss d.ins 7&&uX P d.block [d.inss,d.term]&&sZ P d.blocks d.block 4 &&
 uX P d.func [d.str,d.int,d.int,d.bounds,d.int,d.ty,d.tys,d.blocks,d.ints]
def iA.ZV (P:Program) (d:iA):Bool:=d.ZJ P&&sZ P d.strs d.str 1&&sZ P d.intss d.ints 1&&uX P d.variant [d.str,d.tys]&&sZ P d.variants d.variant 2&&uX P d.data [d.str,d.int,d.int,d.variants,d.int] &&
 sZ P d.datas d.data 5&&uX P d.impl [d.int,d.int,d.int,d.bounds,d.ty,d.int]&&sZ P d.impls d.impl 8&&sZ P d.funcs d.func 11&&uX P d.prog [d.strs,d.intss,d.datas,d.strs,d.ints,d.impls,d.funcs,d.int]
theorem iA.Z3 {d:iA}(h:d.ZV P=true):d.ZJ P=true:=by
 simp only[iA.ZV,aaj] at h;exact h.1.1.1.1.1.1.1.1.1.1
theorem iA.ZR {d:iA}(h:d.ZJ P=true):d.tyOk P=true:=by
 simp only[iA.ZJ,aaj] at h;exact h.1.1.1.1.1.1.1.1.1.1
theorem iA.ty' {d:iA}(h:d.tyOk P=true) {n:Nat}{g:G}(a:Ok P n d.ty g):∃x:Ty,g=x.g:=by
 simp only[iA.tyOk,aaj] at h;exact Rm h.1.1 h.1.2 h.2 n g a
theorem iA.i {d:iA}(h:d.tyOk P=true) {n:Nat}{g:G}(a:Ok P n d.int g):∃x:Int,g=I x:=by
 simp only[iA.tyOk,aaj] at h;exact D4 h.1.1 a
theorem iA.Z6 {d:iA}(h:d.tyOk P=true) {n:Nat}{g:G}(c:Ok P n d.tys g):∃x:List Ty,g=.sl 3 (x.map Ty.g):=by
 have a:=h;simp only[iA.tyOk,aaj] at a;exact ld a.2 c fun m x _ b=>iA.ty' h b
theorem iA.bnd {d:iA}(h:d.ZJ P=true) {n:Nat}{g:G}(k:Ok P n d.bound g):∃x:rX,g=x.g:=by
 have f:=h;have e:=iA.ZR f;have a:=f;simp only[iA.ZJ,aaj] at a;obtain⟨⟨⟨⟨⟨⟨⟨⟨⟨⟨_,y⟩,k2⟩,j⟩,k4⟩,v⟩,k6⟩,w⟩,r⟩,s⟩,l⟩:=a;obtain⟨m,l0,hm,rfl,c⟩:=pJ j k;obtain⟨t,u,rfl,p,b⟩:=cF c;obtain⟨q,rfl⟩:=iA.i e p;obtain⟨z,rfl,o⟩:=D5 b;obtain⟨v1,rfl⟩:=iA.i e o;exact⟨⟨q,v1⟩,rfl⟩
theorem iA.trm {d:iA}(h:d.ZJ P=true) {n:Nat}{g:G}(l:Ok P n d.term g):∃x:Term,g=x.g:=by
 have k:=h;have c:=iA.ZR k;have a:=k;simp only[iA.ZJ,aaj] at a;obtain⟨⟨⟨⟨⟨⟨⟨⟨⟨⟨_,k1⟩,w⟩,z⟩,k4⟩,p⟩,k6⟩,k7⟩,y⟩,k9⟩,q⟩:=a;obtain⟨m,l0,hm,rfl,j⟩:=pJ p l;obtain⟨g0,l1,rfl,t,b⟩:=cF j;obtain⟨v,rfl⟩:=iA.i c t;obtain⟨g1,l2,rfl,r,e⟩:=cF b;obtain⟨v1,rfl⟩:=iA.i c r;obtain⟨g2,rfl,o⟩:=D5 e;obtain⟨s,rfl⟩:=ld w o (f:=I) fun m x _ u=>iA.i c u;exact⟨⟨v,v1,s⟩,rfl⟩
theorem iA.ins' {d:iA}(h:d.ZJ P=true) {n:Nat}{g:G}(t:Ok P n d.ins g):∃x:G5,g=x.g:=by
 have q:=h;have a:=iA.ZR q;have b:=q;simp only[iA.ZJ,aaj] at b;obtain⟨⟨⟨⟨⟨⟨⟨⟨⟨⟨_,k1⟩,k2⟩,k3⟩,k4⟩,k5⟩,k6⟩,k7⟩,k8⟩,k9⟩,z⟩:=b;obtain⟨m,l0,hm,rfl,o⟩:=pJ k6 t;obtain⟨g0,l1,rfl,e0,e⟩:=cF o;obtain⟨v0,rfl⟩:=iA.i a e0;obtain⟨g1,l2,rfl,e1,k⟩:=cF e;obtain⟨v1,rfl⟩:=iA.i a e1;obtain⟨g2,l3,rfl,w,l⟩:=cF k;obtain⟨v2,rfl⟩:=iA.i a w;obtain⟨g3,l4,rfl,y,c⟩:=cF l;obtain⟨v3,rfl⟩:=iA.i a y;obtain⟨g4,l5,rfl,e4,p⟩:=cF c;obtain⟨s,rfl⟩:=iA.i a e4;obtain⟨g5,l6,rfl,r,j⟩:=cF p;obtain⟨v5,rfl⟩:=ld k2 r (f:=I) fun m x _ hx=>iA.i a hx;obtain⟨g6,rfl,u⟩:=D5 j;obtain⟨v,rfl⟩:=iA.Z6 a u;exact⟨⟨v0,v1,v2,v3,s,v5,v⟩,rfl⟩
theorem iA.blk {d:iA}(h:d.ZJ P=true) {n:Nat}{g:G}(k:Ok P n d.block g):∃x:Block,g=x.g:=by
 have b:=h;have z:=iA.ZR b;have a:=b;simp only[iA.ZJ,aaj] at a;obtain⟨⟨⟨⟨⟨⟨⟨⟨⟨⟨_,k1⟩,k2⟩,t⟩,k4⟩,y⟩,k6⟩,l⟩,j⟩,u⟩,o⟩:=a;obtain⟨m,l0,hm,rfl,e⟩:=pJ j k;obtain⟨v,w,rfl,q,c⟩:=cF e;obtain⟨s,rfl⟩:=ld l q (f:=G5.g) fun m x _ r=>iA.ins' b r;obtain⟨g1,rfl,p⟩:=D5 c;obtain⟨v1,rfl⟩:=iA.trm b p;exact⟨⟨s,v1⟩,rfl⟩
theorem iA.fn {d:iA}(h:d.ZJ P=true) {n:Nat}{g:G}(y:Ok P n d.func g):∃x:PK,g=x.g:=by
 have e:=h;have a:=iA.ZR e;have c:=e;simp only[iA.ZJ,aaj] at c;obtain⟨⟨⟨⟨⟨⟨⟨⟨⟨⟨_,k1⟩,k2⟩,k3⟩,k4⟩,k5⟩,k6⟩,k7⟩,k8⟩,k9⟩,o⟩:=c;obtain⟨m,l0,hm,rfl,t⟩:=pJ o y;obtain⟨g0,l1,rfl,e0,k⟩:=cF t;obtain⟨v0,rfl⟩:=PU k1 e0;obtain⟨g1,l2,rfl,e1,r⟩:=cF k;obtain⟨v1,rfl⟩:=iA.i a e1;obtain⟨g2,l3,rfl,e2,s⟩:=cF r;obtain⟨v2,rfl⟩:=iA.i a e2;obtain⟨g3,l4,rfl,e3,j⟩:=cF s;obtain⟨v3,rfl⟩:=ld k4 e3 (f:=rX.g) fun m x _ b=>iA.bnd e b;obtain⟨g4,l5,rfl,e4,u⟩:=cF j;obtain⟨w,rfl⟩:=iA.i a e4;obtain⟨g5,l6,rfl,v,q⟩:=cF u;obtain⟨v5,rfl⟩:=iA.ty' a v;obtain⟨g6,l7,rfl,z,p⟩:=cF q;obtain⟨v6,rfl⟩:=iA.Z6 a z;obtain⟨g7,l8,rfl,e7,l⟩:=cF p;obtain⟨v7,rfl⟩:=ld k9 e7 (f:=Block.g) fun m x _ b=>iA.blk e b;obtain⟨g8,rfl,e8⟩:=D5 l;obtain⟨v8,rfl⟩:=ld k2 e8 (f:=I) fun m x _ b=>iA.i a b;exact⟨⟨v0,v1,v2,v3,w,v5,v6,v7,v8⟩,rfl⟩
theorem iA.imp {d:iA}(h:d.ZV P=true) {n:Nat}{g:G}(s:Ok P n d.impl g):∃x:Impl,g=x.g:=by
 have h0:=h;have j:=iA.Z3 h;have a:=iA.ZR j;have b:=j;simp only[iA.ZJ,aaj] at b;obtain⟨⟨⟨⟨⟨⟨⟨⟨⟨⟨_,k1⟩,k2⟩,k3⟩,z⟩,k5⟩,k6⟩,k7⟩,k8⟩,k9⟩,v⟩:=b;simp only[iA.ZV,aaj] at h;obtain⟨⟨⟨⟨⟨⟨⟨⟨⟨⟨h,p1⟩,p2⟩,p3⟩,p4⟩,p5⟩,p6⟩,p7⟩,p8⟩,p9⟩,aa⟩:=h;obtain⟨m,l0,hm,rfl,o⟩:=pJ p7 s;obtain⟨g0,l1,rfl,e0,e⟩:=cF o;obtain⟨v0,rfl⟩:=iA.i a e0;obtain⟨g1,l2,rfl,y,k⟩:=cF e;obtain⟨v1,rfl⟩:=iA.i a y;obtain⟨g2,l3,rfl,t,l⟩:=cF k;obtain⟨v2,rfl⟩:=iA.i a t;obtain⟨g3,l4,rfl,u,c⟩:=cF l;obtain⟨v3,rfl⟩:=ld z u (f:=rX.g) fun m x _ hx=>iA.bnd j hx;obtain⟨g4,l5,rfl,e4,p⟩:=cF c;obtain⟨r,rfl⟩:=iA.ty' a e4;obtain⟨g5,rfl,q⟩:=D5 p;obtain⟨w,rfl⟩:=iA.i a q;exact⟨⟨v0,v1,v2,v3,r,w⟩,rfl⟩
end
end Api
end Go.Fr
namespace Go.Fr.T
open Go Go.RowKit Go.Fr
mutual
def JP:G->List C
 | .int k n=>[.int k n]
 | .bool b=>[.bool b]
 | .str s=>[.str s]
 | .sl _ l=>[.sl (yR l)]
 | .st l=>xU l
def yR:List G->List (List C)
 | []=>[]
 | x::l=>JP x::yR l
def xU:List G->List C
 | []=>[]
 | x::l=>JP x++xU l
end
theorem xV:∀l:List G,yR l=l.map JP
 | []=>rfl
 | x::l=>by simp only[yR,aao,xV l]
theorem Bf {a b:List C}(h:dP a=true) (k:dP b=true):dP (a++b)=true:=by
 rw[iX] at *;intro c d;rcases aah.1 d with d | d
 ·exact h c d
 ·exact k c d
mutual
theorem Bg {F:aD}:∀{g:G}{cs:List Value},Rd F g cs->g.bulk<=maxLen->aF F [] (JP g) cs/\dP (JP g)=true
 | .int k n,cs,h,hb=>by
  simp only[Rd] at h;obtain⟨rfl,h⟩:=h;simp only[JP,aF,Rel];exact⟨⟨_,_,rfl,⟨rfl,h⟩,rfl⟩,rfl⟩
 | .bool b,cs,h,hb=>by
  simp only[Rd] at h;subst h;simp only[JP,aF,Rel];exact⟨⟨_,_,rfl,rfl,rfl⟩,rfl⟩
 | .str s,cs,h,hb=>by
  simp only[Rd] at h;subst h;simp only[G.bulk] at hb;simp only[JP,aF,Rel];exact⟨⟨_,_,rfl,⟨rfl,by omega⟩,rfl⟩,rfl⟩
 | .sl sz l,cs,h,hb=>by
  simp only[Rd] at h;obtain⟨a,c,rfl,h1,h2,h3,h4⟩:=h;simp only[G.bulk] at hb;have hl:(yR l).length=l.length:=by simp[xV]
  simp only[JP,aF,Rel];refine⟨⟨_,_,rfl,⟨a,c,by rw[hl],by rw[hl];exact h1,by rw[hl];omega,fun e=>?_,sz,zQ h4 (by omega)⟩,rfl⟩,rfl⟩;obtain⟨e1,e2⟩:=h3 e;subst e1;exact⟨rfl,e2⟩
 | .st l,cs,h,hb=>by
  simp only[Rd] at h;simp only[G.bulk] at hb;simp only[JP];exact xW h (by omega)
theorem zQ {F:aD}{a:Option Addr}{sz:Nat}:∀{i:Nat}{l:List G},tJ F a sz i l->G.ZF l<=maxLen->gF F a sz i (yR l)
 | _,[],_,_=>by simp only[yR,gF]
 | i,x::l,h,hb=>by
  simp only[tJ] at h;obtain⟨⟨es,h1,h2,h3⟩,h4⟩:=h;simp only[G.ZF] at hb;obtain⟨r1,r2⟩:=Bg h3 (by omega);simp only[yR,gF];exact⟨⟨es,h1,h2,r2,r1⟩,zQ h4 (by omega)⟩
theorem xW {F:aD}:∀{l:List G}{cs:List Value},mU F l cs->G.ZF l<=maxLen->aF F [] (xU l) cs/\dP (xU l)=true
 | [],cs,h,_=>by simp only[mU] at h;subst h;simp only[xU,aF];exact⟨trivial,rfl⟩
 | x::l,cs,h,hb=>by
  simp only[mU] at h;obtain⟨c1,c2,rfl,h1,h2⟩:=h;simp only[G.ZF] at hb;obtain⟨r1,r2⟩:=Bg h1 (by omega);obtain⟨q1,q2⟩:=xW h2 (by omega);simp only[xU];exact⟨r1.append q1,Bf r2 q2⟩
end
open Api
abbrev IC (n:Int):C:=.int .i64 n
def rK (l:List Int):List (List C):=l.map fun n=>[IC n]
def SQ (l:List ByteArray):List (List C):=l.map fun s=>[C.str s]
mutual
def uY:Ty->List C
 | .mk k i l=>[IC k,IC i,.sl (MS l)]
def MS:List Ty->List (List C)
 | []=>[]
 | t::l=>uY t::MS l
end
theorem CQ:∀l:List Ty,MS l=l.map uY
 | []=>rfl
 | t::l=>by simp only[MS,aao,CQ l]
theorem PV (t:Ty):uY t=[IC t.kind,IC t.id,.sl (t.args.map uY)]:=by
 cases t;simp only[uY,CQ,Ty.kind,Ty.id,Ty.args]
def JQ (b:rX):List C:=[IC b.param,IC b.trait]
def rL (x:G5):List C:=[IC x.op,IC x.dst,IC x.a,IC x.b,IC x.n,.sl (rK x.args),.sl (x.types.map uY)]
def jf (x:Block):List C:=[.sl (x.code.map rL),IC x.fin.kind,IC x.fin.a,.sl (rK x.fin.targets)]
def Vk (f:PK):List C:=[.str f.name,IC f.module,IC f.params,.sl (f.bounds.map JQ),IC f.arity,IC f.result.kind,IC f.result.id,.sl (f.result.args.map uY),.sl (f.locals.map uY),.sl (f.blocks.map jf),.sl (rK f.ties)]
def gJ (x:Variant):List C:=[.str x.name,.sl (x.fields.map uY)]
def jr (d:Api.Data):List C:=[.str d.name,IC d.module,IC d.params,.sl (d.variants.map gJ),IC d.drop]
def Rn (x:Impl):List C:=[IC x.trait,IC x.module,IC x.params,.sl (x.bounds.map JQ),IC x.type.kind,IC x.type.id,.sl (x.type.args.map uY),IC x.func]
def Ro (p:Prog):List C:=[.sl (SQ p.modules),.sl (p.uses.map fun l=>[.sl (rK l)]),.sl (p.datas.map jr),.sl (SQ p.traits),.sl (rK p.homes),.sl (p.impls.map Rn),.sl (p.funcs.map Vk),IC p.main]
theorem MT {a:Type}{f:a->G}{h:a->List C}(b:∀x,JP (f x)=h x) (l:List a):yR (l.map f)=l.map h:=by
 rw[xV,aa6];exact aa9 fun x _=>b x
theorem D6 {l:List Int}{k:Nat}{x:Int}{K:List C->Prop}(a:l[k]?=some x) (h:K [IC x]):AB (rK l) (k:Int) 1 K:=⟨[IC x],by omega,by simp[rK,a],rfl,h⟩
theorem idxS {l:List ByteArray}{k:Nat}{x:ByteArray}{K:List C->Prop}(a:l[k]?=some x) (h:K [.str x]):AB (SQ l) (k:Int) 1 K:=⟨[.str x],by omega,by simp[SQ,a],rfl,h⟩
theorem zR {l:List Ty}{k:Nat}{x:Ty}{K:List C->Prop}(a:l[k]?=some x) (h:K [IC x.kind,IC x.id,.sl (x.args.map uY)]):AB (l.map uY) (k:Int) 3 K:=ck a (PV x) rfl h
end Go.Fr.T
namespace Go.Fr.T
open Go Go.RowKit Go.Fr Go.ChangeShapes Go.WideShapes Go.ChangeAt
def CR:G->C
 | .int k n=>.int k n
 | .bool b=>.bool b
 | .str s=>.str s
 | .sl _ l=>.sl (yR l)
 | .st l=>.agg (xU l)
def NR (P:Program):List TypeId->List G->Prop
 | [],[]=>True
 | t::a,g::gs=>(∃n,Ok P n t g)/\NR P a gs
 | _,_=>False
section
variable {H:Type}{enc:TypeId×Value->H}{P:Program}{W:World}
theorem uf {F:aD}{L:Loc}{c:C}{v:Value}(h:aF F L [c] [v]):Rel F L c v:=by
 simp only[aF] at h;obtain⟨x,y,e,a,b⟩:=h;injection e with e1 e2
 subst e1;exact a
theorem MU {S:List TypeId}(u:flat P S=true) {t:TypeId}(w:t∈S) {r:Reach}{y:Nat}{sp:Nat->Bool}{z:Bool}{v:Value}{d:DataW H}{ps:List MemPlace}(f:Value.okWide P W r y t v)
  (h:DataW.Trod enc P W 0 sp z t v d ps) (hz:W.noneFrozen ps) (hb:iR d<=maxLen):∃n g,Ok P n t g/\Rel (pR W) [] (CR g) v/\g.bulk<=iR d:=by
 obtain⟨fuel,h⟩:=h;obtain⟨g,o,h2,x⟩:=MR u fuel t _ _ w h hz;refine⟨fuel,g,o,?_,x⟩;have p:=(Bg h2 (aa1 x hb)).1;have s:=aas.1 u t w;cases fuel with
 | zero=>exact o.elim
 | succ n =>
 simp only[JN] at s;simp only[Ok] at o;split at s
 ·rename_i j;obtain⟨b,rfl⟩:=okWide_bool j f;simp only[j] at o;obtain⟨q,rfl⟩:=o;exact uf p
 ·rename_i k j;obtain⟨m,rfl⟩:=okWide_int j f;simp only[j] at o;obtain⟨q,rfl,_⟩:=o;exact uf p
 ·rename_i j;obtain⟨m,rfl⟩:=okWide_string j f;simp only[j] at o;obtain⟨q,rfl⟩:=o;exact uf p
 ·rename_i e j;obtain⟨a,l,c,rfl⟩:=okWide_slice j f;simp only[j] at o;obtain⟨q,rfl,_⟩:=o;exact uf p
 ·rename_i fs j;simp only[Value.okWide,j] at f;obtain⟨cs,rfl,_,_⟩:=f;simp only[j] at o;obtain⟨l,rfl,_⟩:=o;simp only[CR,Rel];exact⟨cs.toList,by simp,p⟩
 ·cases s
theorem zS {S:List TypeId}(m:flat P S=true) {r:Reach}{u:Nat}{sp:Nat->Bool}{w:Bool}:∀{c:List TypeId}{vs:List Value}{ds:List (DataW H)}{ps:List MemPlace},(∀t∈c,t∈S) ->
  (∀(j:Nat) t v,c[j]?=some t->vs[j]?=some v->Value.okWide P W r u t v)->DataW.TrodAll enc P W 0 sp w c vs ds ps->W.noneFrozen ps->fA ds<=maxLen ->
  ∃gs,NR P c gs/\aF (pR W) [] (gs.map CR) vs/\G.ZF gs<=fA ds
 | [],[],[],_,_,_,_,_,_=>⟨[],trivial,by simp only[abb,aF],by simp[G.ZF]⟩
 | t::c,v::vs,d::ds,ps,a,l,⟨p,q,x,h2,k⟩,s,hb=>by
  subst k;simp only[fA] at hb ⊢;obtain⟨n,g,z,g2,g3⟩:=MU m (a t (by simp)) (l 0 t v rfl rfl) x (fun b o a=>s b o (List.mem_append_left _ a)) (by omega);obtain⟨gs,y,k2,k3⟩:=zS m (fun t f=>a t (by simp[f])) (fun j t v f e=>l (j+1) t v (by simpa using f) (by simpa using e)) h2 (fun b o a=>s b o (List.mem_append_right _ a)) (by omega);refine⟨g::gs,⟨⟨n,z⟩,y⟩,?_,by simp only[G.ZF];omega⟩;simp only[aao,aF];exact⟨v,vs,rfl,g2,k2⟩
 | [],_::_,_,_,_,_,h,_,_=>h.elim
 | [],[],_::_,_,_,_,h,_,_=>h.elim
 | _::_,[],_,_,_,_,h,_,_=>h.elim
 | _::_,_::_,[],_,_,_,h,_,_=>h.elim
theorem yS {b:List TypeId}(n:laidOutB P=true) (c:b.all (fun t=>P.readableRec t&&decide (t<P.types.size))=true) {W':World}(hb:Below W.heap.size W W') {k:Nat->Bool} :
  ∀{vs:List Value}{ds:List (DataW H)}{ps:List MemPlace},DataW.TrodAll enc P W 0 (fun _=>true) true b vs ds ps->(∀x∈ps,x.block<W.heap.size)->(∀x∈ps,k x.block=true)->DataW.TrodAll enc P W' 0 k true b vs ds ps:=by
 induction b with
 | nil =>
  intro vs ds ps h _ _
  match vs,ds,h with
  | [],[],h=>exact h
 | cons t b l =>
  intro vs ds ps h f j
  match vs,ds,h with
  | v::vs,d::ds,⟨p,q,m,o,e⟩ =>
   subst e;simp only[List.all_cons,aaj,aaU] at c;refine⟨p,q,WideElems.Trod_stays n c.1.1 c.1.2 m (fun x a=>hb.same (f x (by simp[a]))) (fun x a=>j x (by simp[a])),l (by simpa using c.2) o (fun x a=>f x (by simp[a])) (fun x a=>j x (by simp[a])),rfl⟩
theorem yT {f:Func}{s:ChangeSpec}{W W':World}{args:Array Value}{v:Value}{ds gs:List (DataW H)}{a pa pv:List MemPlace}
  (o:DataW.Whole enc P f.params.toList s.vars false W args.toList ds gs a)
  (h:∀(b:Nat) (m:Nat->Bool) (w:Bool),DataW.TrodAll enc P W' b m w f.resultTypes.toList (v.resultList f.resultTypes.size) (s.fn H (ds++gs)).results [])
  (c:∀m:Nat->Bool,(∀p∈a,m p.block=true)->DataW.TrodAll enc P W' 0 m true f.params.toList args.toList (s.fn H (ds++gs)).args pa)
  (d:∀m:Nat->Bool,(∀p∈a,m p.block=true)->DataW.TrodVars enc P W' m s.vars (s.fn H (ds++gs)).vars pv)
  (l:a=pa++pv) (hb:Below W.heap.size W W')
  (u:∀(j:Nat) (t:TypeId) (r:Value),f.resultTypes[j]?=some t->(v.resultList f.resultTypes.size)[j]?=some r->Value.okWide P W' .any 0 t r) :
  s.post enc P f false true false false W args v W':=by
 have k:∀p∈a,(fun b=>decide (b<W.heap.size)) p.block=true:=fun p e=>by simpa using o.lt p e
 have q:∀p∈a,p.block<W.heap.size:=fun p e=>o.lt p e;refine⟨ds,gs,a,[],pa,pv,o,h _ _ _,c _ k,d _ k,World.keptBut_mono (fun p e=>⟨e,?_⟩) (hb.frame (·∈a)),fun _=>?_⟩
 ·rw[l,aah] at e;exact Or.inr e
 ·obtain⟨_,_,_,_,_,x,z⟩:=o;refine⟨u,_,_,([]++pa)++pv,⟨[]++pa,pv,trodAll_append (c _ (fun _ _=>rfl)) (h _ _ _),d _ (fun _ _=>rfl),rfl,?_,?_⟩,?_⟩
  ·intro b off e;have n:MemPlace.cell b off∈a:=by rw[l];simpa using e
   rw[hb.frozen (p:=⟨b,off,none⟩) (q _ n)];exact x b off n
  ·intro y;cases y
  ·intro p e _;rw[l];simpa using e
theorem entry {f:FuncId}{l:List TypeId}{S:List TypeId}(u:flat P S=true) (hm:∀t∈l,t∈S) {r:Reach}{s:Nat}{args:Array Value}{ds:List (DataW H)}{ps:List MemPlace}
  (d:∀(j:Nat) t v,l[j]?=some t->args.toList[j]?=some v->Value.okWide P W r s t v) (h:DataW.TrodAll enc P W 0 (fun _=>true) true l args.toList ds ps) (w:W.noneFrozen ps) (p:fA ds<=1048576)
  (z:si (pR W)) (law:∀gs,NR P l gs->G.ZF gs<=1048576->CallsT P f (gs.map CR) [] (iD [] (.bool true))) :
  Calls P f args W fun e W'=>e=.returned (.bool true)/\Below W.heap.size W W':=by
 obtain⟨gs,y,k2,k3⟩:=zS u hm d h w (aa1 p (by decide));have x:=(law gs y (by omega)).out (pR W) [] args.toList rfl (fun k=>by rw[show(inp []).get k=none from rfl,show(jn []).get k=none from rfl];trivial) k2;have m:∀k,(inp []).get k=none:=fun _=>rfl;have n:St (pR W) (inp []) W:=⟨fun b o h=>h,fun k o h=>(by rw[m] at h;cases h),fun k o g h=>(by rw[m] at h;cases h),fun k k' o o' g h=>(by rw[m] at h;cases h),z⟩;refine Calls.mono (x.run W n) ?_;rintro e W' ⟨v,F',Lo,rfl,hs,a,Mo,c,q1,q2,q,q4,rfl,rfl⟩;simp only[Rel] at q;subst q;exact⟨rfl,a.os,a.tape,a.output,a.size,fun k p=>a.same k p (by rintro⟨_,_,h,_⟩;cases h)⟩
theorem yU {f:FuncId}{fn:Func}{s:ChangeSpec}{S:List TypeId}{tb:TypeId}(hl:laidOutB P=true) (hS:flat P S=true) (hm:fn.params.toList.all (fun t=>S.contains t&&(P.readableRec t&&decide (t<P.types.size)))=true)
  (d:fn.resultTypes=#[tb]) (n:P.underlying tb=some .bool) (a:s.vars=[])
  (law:∀gs,NR P fn.params.toList gs->G.ZF gs<=1048576->CallsT P f (gs.map CR) [] (iD [] (.bool true)))
  {r:Reach}{b0:Nat}{args:Array Value}{ds gs:List (DataW H)}{c:List MemPlace}(h:s.fn H ds={results:=[.lit (.bool true)],args:=ds})
  (l:∀(j:Nat) t v,fn.params[j]?=some t->args[j]?=some v->Value.okWide P W r b0 t v)
  (z:DataW.Whole enc P fn.params.toList s.vars false W args.toList ds gs c) (hk:fA ds<=1048576) (hG:si (pR W):=by exact trivial) :
  Calls P f args W fun e W'=>∃v,e=.returned v/\s.post enc P fn false true false false W args v W':=by
 have k:=z;rw[a] at z;obtain⟨p,q,hA,hV,rfl,y,ag⟩:=z;obtain⟨rfl,rfl⟩:=trodVars_none hV;have u:=aas.1 hm;refine(entry hS (fun t w=>by have:=u t w;simp only[aaj,List.contains_iff_mem] at this;exact this.1) (fun j t v h1 h2=>l j t v (by simpa using h1) (by simpa using h2)) hA (fun b o hm=>y b o (List.mem_append_left _ hm)) hk hG law).mono ?_;rintro e W' ⟨rfl,hb⟩;refine⟨_,rfl,yT (pa:=p) (pv:=[]) k ?_ ?_ ?_ rfl hb (ok_one d rfl (okWide_bool_mk n _))⟩
 ·intro b sp hd;simp only[aaA,h,d];exact trodAll_cons_mk (shut_bool n _) trodAll_mk0
 ·intro sp m;simp only[aaA,h];exact yS hl (aas.2 fun t w=>by have:=u t w;simp only[aaj] at this ⊢;exact this.2) hb hA (fun x hx=>k.lt x (by simp[hx])) (fun x hx=>m x (by simp[hx]))
 ·intro sp m;rw[a];simp only[aaA,h];exact rfl
end
end Go.Fr.T
namespace Go.Fr.T
open Go Go.RowKit Go.Fr Go.Fr.Api
def bG (b:UInt8):G:=.int .u8 b.toNat
def SR (P:Program) (t:TypeId) (k:IntKind):Bool:=match P.underlying t with | some (.int k')=>decide (k'=k) | _=>false
theorem PW {P:Program}{t:TypeId}{k:IntKind}(h:SR P t k=true) {n:Nat}{g:G}(a:Ok P n t g):∃x,g=.int k x/\(Lit.int k x).wf=true:=by
 simp only[SR] at h;split at h
 ·rename_i c b;have e:=aaz h;subst e;cases n with
  | zero=>exact a.elim
  | succ n=>simp only[Ok,b] at a;exact a
 ·cases h
theorem Rp {P:Program}{t:TypeId}(h:SR P t .u8=true) {n:Nat}{g:G}(c:Ok P n t g):∃b:UInt8,g=bG b:=by
 obtain⟨x,rfl,a⟩:=PW h c;simp only[Lit.wf,aaj,aaU] at a;have e:0<=x:=a.1;have d:x<=255:=a.2;refine⟨UInt8.ofNat x.toNat,?_⟩;simp only[bG,UInt8.toNat_ofNat'];congr 1;omega
theorem JR {P:Program}{t e:TypeId}(a:sZ P t e 1=true) (h:SR P e .u8=true) {n:Nat}{g:G}(c:Ok P n t g):∃bs:List UInt8,g=.sl 1 (bs.map bG) :=
 ld a c fun _ _ _ b=>Rp h b
theorem D7 (bs:List UInt8):CR (.sl 1 (bs.map bG))=.sl (af bs):=by
 simp only[CR,MT (f:=bG) (h:=fun b=>[jo b]) (fun _=>rfl),af]
theorem JS {a:Type}{f:a->G}(l:List a):l.length<=G.ZF (l.map f):=by
 induction l with
 | nil=>simp
 | cons x l b =>
  simp only[aao,G.ZF,aau];have:1<=(f x).bulk:=by cases f x<;>simp only[G.bulk]<;>omega
  omega
theorem MV {a:Type}{f:a->G}(l:List a) {sz:Nat}:l.length+1<=(G.sl sz (l.map f)).bulk:=by
 have:=JS (f:=f) l;simp only[G.bulk];omega
theorem JT {P:Program}{t:TypeId}{a:List TypeId}{gs:List G}(h:NR P (t::a) gs):∃g r n,gs=g::r/\Ok P n t g/\NR P a r:=by
 cases gs with
 | nil=>exact h.elim
 | cons g r=>obtain⟨⟨n,c⟩,b⟩:=h;exact⟨g,r,n,rfl,c,b⟩
theorem MW {P:Program}{gs:List G}(h:NR P [] gs):gs=[]:=by
 cases gs with
 | nil=>rfl
 | cons g r=>exact h.elim
end Go.Fr.T
namespace Go.Fr.T
open Go Go.RowKit Go.Fr
def xX:List TO->List TO->Bool
 | [],[]=>true
 | .row _ sz _::l,.row _ b _::m=>match Nat.beq sz b with | true=>xX l m | false=>false
 | .box _ _::l,.box _ _::m=>xX l m
 | .map _::l,.map _::m=>xX l m
 | .win _ _ _ _::l,.win _ _ _ _::m=>xX l m
 | _,_=>false
structure Zb (j:Nat) (c0:C) (Lin:List TO) (L:TL) (ρ:aX) (v:C) (R:List TO->C->Prop):Prop where
 out:∃Mo,L.sub (List.range' 1000 Lin.length)=some Mo/\ρ j=c0/\xX Lin Mo=true/\(sK [v]->R (Mo.map (TO.ZC (C.ren (cD (List.range' 1000 Lin.length) 1000)))) (v.ZQ.ren (cD (List.range' 1000 Lin.length) 1000)))
section
variable {P:Program}{G:Nat->Option (Nat×TypeId)}{F:aD}{L:Loc}{ρ:Env}{M:TL}{τ:aX}{a:Act}{w:World}
end
section
variable {P:Program}{L:TL}{ρ:aX}
end
theorem wm {Li Li':List Own}(hb:Li.map Own.blk=Li'.map Own.blk) {k:Nat}{o:Own}(h:(inp Li').get k=some o):∃o',(inp Li).get k=some o'/\o'.blk=o.blk:=by
 rw[aW] at h ⊢;split at h
 ·rename_i b;rw[o6 b];have a:(Li'.map Own.blk)[k-1000]?=some o.blk:=by rw[aaT,h];rfl
  rw[<-hb,aaT] at a;cases e:Li[k-1000]? with
  | none=>rw[e] at a;cases a
  | some o'=>rw[e] at a;injection a with a;exact⟨o',rfl,a⟩
 ·cases h
theorem St.swap {F:aD}{w:World}{Li Li':List Own}(hb:Li.map Own.blk=Li'.map Own.blk) (j:∀o∈Li',o.ok w) (a:St F (inp Li) w):St F (inp Li') w:=by
 refine⟨a.frz,fun k o h=>?_,fun k o g h e=>?_,fun k n o o' g h m e p=>?_,a.glob⟩
 ·rw[aW] at h;split at h
  ·exact j o (aam h)
  ·cases h
 ·obtain⟨d,b,c⟩:=wm hb h;exact a.off k d g b (c.trans e)
 ·obtain⟨d,b,c⟩:=wm hb h;obtain⟨f,q,l⟩:=wm hb m;exact a.sep k n d f g b q (c.trans e) (l.trans p)
theorem rD {Li Li':List Own}(hb:Li.map Own.blk=Li'.map Own.blk) {b:Nat}(h:(inp Li').owns b):(inp Li).owns b:=by
 obtain⟨k,o,e,c⟩:=h;obtain⟨o',a,d⟩:=wm hb e;exact⟨k,o',a,d.trans c⟩
theorem Step.swap {F F':aD}{w w':World}{Li Li' Lo Lo':List Own}(hb:Li.map Own.blk=Li'.map Own.blk) (d:Lo.map Own.blk=Lo'.map Own.blk) (h:Step F (inp Li) w F' (inp Lo) w'):Step F (inp Li') w F' (inp Lo') w' :=
 ⟨h.le,h.os,h.tape,h.output,h.size,fun b a c=>h.same b a fun q=>c (rD hb.symm q),fun b c=>(h.frz b c).imp id (Or.imp (rD hb.symm) id),fun b q=>(h.own b (rD d q)).imp (rD hb.symm) id⟩
theorem MX {w:World}{g m cap t sz:Nat}{xs:List Value}(l:t≠0) (h:Own.ok w (.row (.slice (some ⟨g,0,none⟩) m cap) t sz m xs)):∃a,Own.ok w (.box g t (xs++a))/\xs.length+a.length=cap*sz/\m<=cap/\cap<=maxLen:=by
 obtain⟨p,o | ⟨q,d,b,e,r,j,k,n,f,c⟩⟩:=h
 ·cases o.1
 ·injection e with e1 e2 e3
  injection e1 with e1
  injection e1 with e1
  subst e1 e3;refine⟨b.toList.drop (m*sz),?_,?_,k,n⟩
  ·show w.heap[g]?=some (lQ t _);rw[iz l,j,<-c,List.take_append_drop]
  ·rw[<-c,<-aak,List.take_append_drop,Array.length_toList,f]
theorem MY {w:World}{g m cap t sz:Nat}{b a:List Value}(j:t≠0) (c:b.length=m*sz) (e:m<=cap) (f:cap<=maxLen) (d:b.length+a.length=cap*sz) (h:Own.ok w (.box g t (b++a))):Own.ok w (.row (.slice (some ⟨g,0,none⟩) m cap) t sz m b):=by
 have h:w.heap[g]?=some (lQ t (b++a)):=h;rw[iz j] at h;refine⟨c,.inr ⟨g,cap,_,rfl,aaK _,h,e,f,by simpa using d,?_⟩⟩;simp[<-c]
theorem aF.split {F:aD}{L:Loc}:∀{cs ds:List C}{vs:List Value},aF F L (cs++ds) vs->∃us a,vs=us++a/\aF F L cs us/\aF F L ds a
 | [],ds,vs,h=>⟨[],vs,rfl,by simp only[aF],h⟩
 | c::cs,ds,vs,h=>by
  simp only[aay,aF] at h;obtain⟨v,f,rfl,j,d⟩:=h;obtain⟨us,a,rfl,b,e⟩:=aF.split d;exact⟨v::us,a,rfl,by simp only[aF];exact⟨_,_,rfl,j,b⟩,e⟩
theorem aO.flat {F:aD}{L:Loc}{sz:Nat}:∀{els:List (List C)}{xs:List Value},aO F sz els xs->aF F L els.flatten xs/\xs.length=els.length*sz
 | [],xs,h=>by
  simp only[aO] at h;subst h;exact⟨by simp only[List.flatten_nil,aF],by simp⟩
 | es::l,xs,h=>by
  simp only[aO] at h;obtain⟨vs,a,rfl,d,j,b,c⟩:=h;obtain⟨f,e⟩:=aO.flat (L:=L) c;refine⟨by rw[List.flatten_cons];exact b.lift.append f,?_⟩;rw[aak,d,e,aau,Nat.add_mul];omega
theorem aO.of_flat {F:aD}{L:Loc}{sz:Nat}:∀{els:List (List C)}{xs:List Value},(∀es∈els,es.length=sz/\dP es=true/\dV es=true)->aF F L els.flatten xs->aO F sz els xs
 | [],xs,a,h=>by
  simp only[List.flatten_nil,aF] at h;simp only[aO];exact h
 | es::l,xs,a,h=>by
  rw[List.flatten_cons] at h;obtain⟨us,f,rfl,b,m⟩:=aF.split h;obtain⟨d,k,j⟩:=a es (by simp);simp only[aO];exact⟨us,f,rfl,by rw[b.len,d],k,eS j b,aO.of_flat (fun e c=>a e (by simp[c])) m⟩
theorem zT {F:aD}{L:Loc}:∀(vs:List Value),aF F L (List.replicate vs.length .any) vs
 | []=>by simp only[aaQ,List.replicate_zero,aF]
 | v::vs=>by
  simp only[aau,aa3,aF,Rel];exact⟨v,vs,rfl,trivial,zT vs⟩
def rY (k sz:Nat):C->C
 | .elr a j off=>match Nat.beq a k with | true=>.own a (j*sz+off) | false=>.elr a j off
 | c=>c
def xY:TO->Bool
 | .box _ cs=>dV cs
 | .win _ _ _ _=>false
 | _=>true
theorem GH {F:aD}{L L':Loc}:∀{o:TO}{p:Own},xY o=true->di F L o p->di F L' o p
 | .box t cs,.box g b vs,a,r=>⟨r.1,eS a r.2⟩
 | .row t sz els,.row v b c n xs,_,r=>r
 | .box _ _,.row ..,_,r=>r.elim
 | .row ..,.box ..,_,r=>r.elim
 | .map _,.row ..,_,r=>r.elim
 | .map es,.box g b vs,_,r=>r
 | .win ..,.row ..,_,r=>r.elim
 | .win ..,.box ..,a,r=>by simp[xY] at a
theorem xZ {F:aD}{LA:List Own}{A:List TO}{o c:Own}{x e:TO}(f:LA.length=A.length) (l:∀y∈A,xY y=true) (h:dm F (inp (LA++[o])) (jn (A++[x]))) (m:di F (inp (LA++[c])) e c) :
  dm F (inp (LA++[c])) (jn (A++[e])):=by
 intro k;have b:=h k;rw[cA,aW] at b ⊢;split
 ·rename_i d;rw[o6 d,o6 d] at b
  by_cases a:k-1000<A.length
  ·rw[aap a,aap (by omega)] at b ⊢;rw[aag a,aag (by omega:k-1000<LA.length)] at b ⊢;exact GH (l _ (List.getElem_mem _)) b
  ·by_cases j:k-1000=A.length
   ·rw[aaw (by omega),aaw (by omega),j,f];simp only[f,Nat.sub_self,aat];exact m
   ·rw[aar (by simp;omega),aar (by simp;omega)];trivial
 ·trivial
theorem qM {LB:List Own}{o b p:Own}{k:Nat}(h:(inp (LB++[b])).get k=some p):(inp (LB++[o])).get k=some p\/p=b:=by
 rw[aW] at h ⊢;split at h
 ·rename_i d;rw[o6 d]
  by_cases a:k-1000<LB.length
  ·rw[aap a] at h ⊢;exact .inl h
  ·by_cases c:k-1000=LB.length
   ·rw[aaw (by omega),c] at h;simp only[Nat.sub_self,aat,yo] at h;exact .inr h.symm
   ·rw[aar (by simp;omega)] at h;cases h
 ·cases h
theorem St.ZW {F:aD}{w:World}{LB:List Own}{o:Own}{t sz:Nat}(a:St F (inp (LB++[o])) w):St F (inp (LB++[.row (.slice none 0 0) t sz 0 []])) w:=by
 refine⟨a.frz,fun k p h=>?_,fun k p g h e=>?_,fun k f p d g h b e c=>?_,a.glob⟩
 ·rcases qM (o:=o) h with h | rfl
  ·exact a.own k p h
  ·exact World.ownsRow_nil w 0 t sz
 ·rcases qM (o:=o) h with h | rfl
  ·exact a.off k p g h e
  ·cases e
 ·rcases qM (o:=o) h with h | rfl
  ·rcases qM (o:=o) b with b | rfl
   ·exact a.sep k f p d g h b e c
   ·cases c
  ·cases e
theorem Step.ZW {F F':aD}{w w':World}{L:Loc}{LB:List Own}{o:Own}{t sz:Nat}(h:Step F L w F' (inp (LB++[o])) w'):Step F L w F' (inp (LB++[.row (.slice none 0 0) t sz 0 []])) w' :=
 ⟨h.le,h.os,h.tape,h.output,h.size,h.same,h.frz,fun b ⟨k,p,a,c⟩=>by
  rcases qM (o:=o) a with a | rfl
  ·exact h.own b ⟨k,p,a,c⟩
  ·cases c⟩
theorem CallsTX.elem {P:Program}{f:Nat}{args:List C}{A:List TO}{t sz:Nat}{els:List (List C)}{R:Nat->List TO->C->Prop}{R':List TO->C->Prop}{Pp:Value->Prop}(he:mY P f) (ab:KF t=true) (hA:∀o∈A,xY o=true) (cp:∀o∈A,∃t cs,o=.box t cs)
  (av:∀c∈args,(∃j off,c=.elr (1000+A.length) j off)\/(c.kill (1000+A.length)=c/\rY (1000+A.length) sz c=c)) (bu:∃j off,.elr (1000+A.length) j off∈args)
  (h:∀m,CallsTX P f (args.map (rY (1000+A.length) sz)) (A++[.box t (els.flatten++List.replicate m .any)]) (R m) Pp)
  (hR:∀m Mo c,R m Mo c->∃A' b,Mo=A'++[.box t (b.flatten++List.replicate m .any)]/\A'.length=A.length/\b.length=els.length/\(∀es∈b,es.length=sz/\dP es=true/\dV es=true)/\(∀o∈A',xY o=true) /\
   (∀(F:aD) (L L':Loc) v,Rel F L c v->Rel F L' c v)/\R' (A'++[.row t sz b]) c):lu P f args (A++[.row t sz els]) R' Pp:=by
 have ht:t≠0:=by
  intro e;subst e;cases ab
 have cr:t<1048576:=by
  simp only[KF] at ab;split at ab
  ·cases ab
  ·have:=aav ab;omega
 refine⟨fun F Li vs hl ax hr=>?_⟩;obtain⟨LA,o,rfl⟩:∃LA o,Li=LA++[o]:=by
  have hn:Li≠[]:=by intro e;rw[e] at hl;simp at hl
  exact⟨Li.dropLast,Li.getLast hn,(List.dropLast_concat_getLast hn).symm⟩
 have s:LA.length=A.length:=by simpa using hl
 have x:∀o,(inp (LA++[o])).get (1000+A.length)=some o:=fun o=>by
  rw[aW,o6 (by omega),show 1000+A.length-1000=A.length by omega,aaw (by omega),s];simp
 have l:=ax (1000+A.length);rw[x,cA,o6 (by omega),show 1000+A.length-1000=A.length by omega,aaw (by omega)] at l;simp only[Nat.sub_self,aat] at l;cases o with
 | box g t' cs=>exact l.elim
 | row v0 t' ea n xs =>
  obtain⟨rfl,rfl,hn,cz,ar⟩:=l;obtain⟨j,off,hm⟩:=bu;obtain⟨i,hi⟩:=List.getElem?_of_mem hm;obtain⟨bm,cd⟩:=jU.1 hr;have be:i<vs.length:=by rw[bm];exact(aai.1 hi).1
  have ae:=cd i _ _ hi (aag be);simp only[Rel] at ae;obtain⟨ad,t2,dd,n2,c2,cf,dq,q⟩:=ae;rw[x] at q;injection q with q
  injection q with e1 e2 e3 e4 e5
  subst e1 e2 e3 e4 e5;refine⟨he,fun F G L v bz r=>⟨hO.ZL _ _ _ _ bz r.1,r.2⟩,fun w hs=>?_⟩;have bj:Own.ok w (.row (.slice (some ad) n c2) t sz n xs):=hs.own _ _ (x _);have cc:∃g,ad=⟨g,0,none⟩:=by
   obtain⟨h1,h2 | ⟨g,cap,dt,e,_⟩⟩:=id bj
   ·cases h2.1
   ·injection e with e1 e2 e3
    injection e1 with e1
    exact⟨g,e1⟩
  obtain⟨g,rfl⟩:=cc;obtain⟨a,bt,df,cb,cY⟩:=MX ht bj;obtain⟨q1,q2⟩:=aO.flat (L:=inp (LA++[.box g t (xs++a)])) ar;have y:(LA++[Own.row (.slice (some ⟨g,0,none⟩) n c2) t sz n xs]).map Own.blk=(LA++[Own.box g t (xs++a)]).map Own.blk:=by simp[Own.blk,Value.ownBlock]
  have db:St F (inp (LA++[.box g t (xs++a)])) w:=St.swap y (fun o l=>by
   rcases aah.1 l with l | l
   ·obtain⟨i,hi⟩:=List.getElem?_of_mem l;have p:=(aai.1 hi).1;exact hs.own (1000+i) o (by rw[aW,o6 (by omega),show 1000+i-1000=i by omega,aap p];exact hi)
   ·rw[aaW.1 l];exact bt) hs
  have bl:dm F (inp (LA++[.box g t (xs++a)])) (jn (A++[.box t (els.flatten++List.replicate a.length .any)])):=xZ s hA ax ⟨⟨cr,.inl rfl,ht⟩,q1.append (zT a)⟩;have cx:aF F (inp (LA++[.box g t (xs++a)])) (args.map (rY (1000+A.length) sz)) vs:=by
   refine aF.map (fun c hc v hv=>?_) hr;rcases av c hc with⟨j,off,rfl⟩ | ⟨k1,k2⟩
   ·simp only[Rel] at hv;obtain⟨ad,t2,dd,n2,ek,cf,rfl,an⟩:=hv;rw[x] at an;injection an with an
    injection an with e1 e2 e3 e4 e5
    injection e1 with e1 e6 e7
    injection e1 with e1
    subst e1 e3;have:Nat.beq (1000+A.length) (1000+A.length)=true:=Nat.beq_refl _;simp only[rY,this,Rel];exact⟨g,t,_,x _,by rw[cm,Nat.zero_add]⟩
   ·rw[k2,<-k1];refine Rel.mp (kR (k:=1000+A.length) (fun g t cs e=>by rw[x] at e;cases e) (fun j hj o l=>?_) (aD.le_refl F)) 3 hv;refine⟨o,?_,Own.ZD o⟩;rw[aW] at l ⊢;split at l
    ·rename_i h1;rw[o6 h1]
     by_cases p:j-1000<LA.length
     ·rw[aap p] at l ⊢;exact l
     ·rw[aar (by simp;omega)] at l;cases l
    ·cases l
  refine Calls.mono (((h a.length).out F _ vs (by simp[s]) bl cx).run w db) ?_;rintro e w' (⟨v,F',Lo,rfl,g1,g2,Mo,c',q1,q2,q3,q4,q5⟩ | ⟨v,ch,F',Lo,rfl,hc,g1,g2,g3,g4,g5⟩)
  ·obtain⟨A',b,rfl,l1,l2,p1,p2,p3,p4⟩:=hR _ _ _ q5;obtain⟨LB,o',rfl⟩:∃LB o,Lo=LB++[o]:=by
    have hn:Lo≠[]:=by intro e;rw[e] at q1;simp at q1
    exact⟨Lo.dropLast,Lo.getLast hn,(List.dropLast_concat_getLast hn).symm⟩
   have u:LB.length=A'.length:=by simp at q1;omega
   have bi:∀o,(inp (LB++[o])).get (1000+A.length)=some o:=fun o=>by
    rw[aW,o6 (by omega),show 1000+A.length-1000=A.length by omega,aaw (by omega),u,l1];simp
   obtain⟨cs',aw⟩:=q4 A.length g t (xs++a) (by rw[aaw (by omega),s];simp);rw[aaw (by omega),u,l1] at aw;simp only[Nat.sub_self,aat,yo] at aw;subst aw;have hk:=q2 (1000+A.length);rw[bi,cA,o6 (by omega),show 1000+A.length-1000=A.length by omega,aaw (by omega),l1] at hk;simp only[Nat.sub_self,aat] at hk;obtain⟨_,hk⟩:=hk;obtain⟨us,ws,rfl,r1,r2⟩:=aF.split hk;have ac:=aO.of_flat p1 r1;have bk:=(aO.flat (L:=inp []) ac).2;have bx:ws.length=a.length:=by rw[r2.len,aaX]
   have cw:=(aO.flat (L:=inp []) ar).2;have ba:n=b.length:=by omega
   have bp:us.length+ws.length=c2*sz:=by rw[bk,bx,l2,<-cw];exact df
   have bs:Own.ok w' (.row (.slice (some ⟨g,0,none⟩) n c2) t sz n us):=MY ht (by rw[bk,ba]) cb cY bp (g1.own _ _ (bi _));have aa:(LB++[Own.box g t (us++ws)]).map Own.blk=(LB++[Own.row (.slice (some ⟨g,0,none⟩) n c2) t sz n us]).map Own.blk:=by simp[Own.blk,Value.ownBlock]
   have az:di F' (inp (LB++[.row (.slice (some ⟨g,0,none⟩) n c2) t sz n us])) (.row t sz b) (.row (.slice (some ⟨g,0,none⟩) n c2) t sz n us):=⟨rfl,rfl,ba,⟨cz.1,_,_,rfl,fun e=>by cases e⟩,ac⟩;refine .inl ⟨v,F',LB++[.row (.slice (some ⟨g,0,none⟩) n c2) t sz n us],rfl,St.swap aa (fun o l=>?_) g1,Step.swap y.symm aa g2,⟨A'++[.row t sz b],c',by simp[u],xZ u p2 q2 az,p3 _ _ _ _ q3,fun i g0 t0 z d=>?_,p4⟩,by simp[u,l1,s],fun i o0 d=>?_⟩
   ·rcases aah.1 l with l | l
    ·obtain⟨i,hi⟩:=List.getElem?_of_mem l;have p:=(aai.1 hi).1;exact g1.own (1000+i) o (by rw[aW,o6 (by omega),show 1000+i-1000=i by omega,aap p];exact hi)
    ·rw[aaW.1 l];exact bs
   ·by_cases p:i<A.length
    ·rw[aap (by omega)] at d;obtain⟨am,h1⟩:=q4 i g0 t0 z (by rw[aap (by omega)];exact d);rw[aap (by omega)] at h1 ⊢;exact⟨am,h1⟩
    ·exfalso;rw[aaw (by omega)] at d
     by_cases he:i=A.length
     ·rw[he,s] at d;simp at d
     ·rw[aar (by simp;omega)] at d;cases d
   ·by_cases p:i<A.length
    ·rw[aap (by omega)] at d;obtain⟨tb,dr,cl⟩:=cp A[i] (List.getElem_mem _);have ae:=ax (1000+i);rw[aW,cA,o6 (by omega),o6 (by omega),show 1000+i-1000=i by omega,aap (by omega),aap (by omega),d,aag p,cl] at ae;cases o0 with
     | row=>exact ae.elim
     | box g0 t0 z =>
      obtain⟨am,h1⟩:=q4 i g0 t0 z (by rw[aap (by omega)];exact d);rw[aap (by omega)] at h1 ⊢;exact⟨_,h1,rfl,rfl⟩
    ·rw[aaw (by omega)] at d
     by_cases he:i=A.length
     ·rw[he,s] at d;simp at d;subst d;exact⟨.row (.slice (some ⟨g,0,none⟩) n c2) t sz n us,by rw[he,aaw (by omega),u,l1];simp,rfl,rfl,rfl⟩
     ·rw[aar (by simp;omega)] at d;cases d
  ·obtain⟨LB,o',rfl⟩:∃LB o,Lo=LB++[o]:=by
    have hn:Lo≠[]:=by intro e;rw[e] at g3;simp at g3
    exact⟨Lo.dropLast,Lo.getLast hn,(List.dropLast_concat_getLast hn).symm⟩
   have u:LB.length=LA.length:=by simpa using g3
   refine .inr ⟨v,ch,F',LB++[.row (.slice none 0 0) t sz 0 []],rfl,hc,St.ZW g1,Step.ZW (Step.swap y.symm rfl g2),by simp[u],fun i g0 t0 z d=>?_,g5⟩
   by_cases p:i<A.length
   ·rw[aap (by omega)] at d;obtain⟨am,h1⟩:=g4 i g0 t0 z (by rw[aap (by omega)];exact d);rw[aap (by omega)] at h1 ⊢;exact⟨am,h1⟩
   ·exfalso;rw[aaw (by omega)] at d
    by_cases he:i=A.length
    ·rw[he,s] at d;simp at d
    ·rw[aar (by simp;omega)] at d;cases d
theorem lu.toX {P:Program}{f:Nat}{args:List C}{Lin:List TO}{R:List TO->C->Prop}{Pp:Value->Prop}(h:lu P f args Lin R Pp):CallsTX P f args Lin R Pp :=
 ⟨fun F Li vs d j l=>let q:=h.out F Li vs d j l
  ⟨q.ent,fun F G L v a r=>hO.ZL _ _ _ _ a r,fun w c=>(q.run w c).mono fun _ _ k=>k.imp (fun⟨v,F',Lo,e,b,n,m⟩=>⟨v,F',Lo,e,b,n,m.1⟩) id⟩⟩
theorem nV {P:Program}{L:TL}{ρ:aX}(ks:List Nat) {PS:qd}{Pp:Value->Prop}{f:Nat}{args a:List C}{K:TL->aX->C->Prop}{R:List TO->C->Prop}{Lin Lin':List TO}(h:lu P f a Lin' R Pp) (d:L.sub ks=some Lin) (b:bJ ks=true)
  (e:(args.map fun c=>c.ZG.ren (cD ks 1000))=a) (m:Lin.map (TO.ZC (C.ren (cD ks 1000)))=Lin') (j:∀v,Pp v->PS.ps v)
  (k:∀v Mo,R Mo v->Wf v->(∀o∈Mo,o.Wf)->ks.length=Mo.length/\K ((L.ZB ks).puts ks (Mo.map (TO.ZC (C.ren (aZ ks))))) ρ (v.ren (aZ ks)).slt) (l:lT L ks PS.hb=true:=by rfl):pq P PS f args L ρ K:=by
 subst e m;exact .inpl ks Lin R Pp d b l h j k
def vw (l a:List TO):Prop:=l.length=a.length/\∀(i:Nat) (o o':TO),l[i]?=some o->a[i]?=some o'->∀(F:aD) (L:Loc) (p:Own),di F L o p->di F L o' p
theorem vw.refl (l:List TO):vw l l:=⟨rfl,fun i o o' b a F L p r=>by rw[b] at a;injection a with a;subst a;exact r⟩
theorem vw.cons {o o':TO}{l e:List TO}(h:∀(F:aD) (L:Loc) (p:Own),di F L o p->di F L o' p) (k:vw l e):vw (o::l) (o'::e) :=
 ⟨by simp[k.1],fun i a b d c=>by
  cases i with
  | zero=>simp only[aat,yo] at d c;subst d c;exact h
  | succ i=>exact k.2 i a b (by simpa using d) (by simpa using c)⟩
theorem vw.same {o:TO}{l a:List TO}(k:vw l a):vw (o::l) (o::a):=.cons (fun _ _ _ r=>r) k
theorem vw.tl {F:aD}{Li:List Own}{l d:List TO}(h:vw l d) (r:dm F (inp Li) (jn l)):dm F (inp Li) (jn d):=by
 intro k;have b:=r k;rw[cA,aW] at b ⊢;split
 ·rename_i f;rw[o6 f,o6 f] at b
  by_cases c:k-1000<l.length
  ·have a:k-1000<d.length:=by rw[<-h.1];exact c
   rw[aag c] at b;rw[aag a];cases e:Li[k-1000]? with
   | none=>rw[e] at b;exact b.elim
   | some p =>
    rw[e] at b;exact h.2 _ _ _ (aag c) (aag a) _ _ _ b
  ·have a:¬k-1000<d.length:=by rw[<-h.1];exact c
   rw[aar (by omega)] at b;rw[aar (by omega)];cases e:Li[k-1000]? with
   | none=>trivial
   | some p=>rw[e] at b;exact b.elim
 ·trivial
theorem hO.view {Li:List Own}{R R':List TO->C->Prop}(a:∀Mo c,R Mo c->∃Mo',vw Mo Mo'/\R' Mo' c) {F:aD}{Lo:List Own}{v:Value}(h:hO Li R F Lo v):hO Li R' F Lo v:=by
 obtain⟨Mo,c,l,k,d,e,f⟩:=h;obtain⟨Mo',b,j⟩:=a Mo c f;exact⟨Mo',c,by rw[<-b.1,l],b.tl k,d,e,j⟩
theorem CallsTX.view {P:Program}{f:Nat}{args:List C}{Lin Lin':List TO}{R R':List TO->C->Prop}{Pp Pp':Value->Prop}(h:CallsTX P f args Lin R Pp) (b:vw Lin' Lin) (a:∀Mo c,R Mo c->∃Mo',vw Mo Mo'/\R' Mo' c) (y:∀v,Pp v->Pp' v) :
  CallsTX P f args Lin' R' Pp' :=
 ⟨fun F Li vs t x z=>let q:=h.out F Li vs (by rw[t,b.1]) (b.tl x) z
  ⟨q.ent,fun F G L v e r=>hO.ZL _ _ _ _ e r,fun w s=>(q.run w s).mono fun _ _ k=>k.imp (fun⟨v,F',Lo,j,d,m,l⟩=>⟨v,F',Lo,j,d,m,hO.view a l⟩) fun⟨v,o,F',Lo,j,d,m,l,n,p,u⟩=>⟨v,o,F',Lo,j,d,m,l,n,p,y v u⟩⟩⟩
theorem CallsTX.imp {P:Program}{f:Nat}{args:List C}{Lin:List TO}{R R':List TO->C->Prop}{Pp Pp':Value->Prop}(h:CallsTX P f args Lin R Pp) (a:∀Mo c,R Mo c->R' Mo c) (b:∀v,Pp v->Pp' v):CallsTX P f args Lin R' Pp' :=
 h.view (vw.refl _) (fun Mo c r=>⟨Mo,vw.refl _,a Mo c r⟩) b
def ct (l:List C):Prop:=∀c∈l,c.pure=true\/c=.any
theorem ct.rel {F:aD}{L L':Loc}:∀{l:List C}{vs:List Value},ct l->aF F L l vs->aF F L' l vs
 | [],vs,_,h=>by simp only[aF] at h ⊢;exact h
 | c::l,vs,hi,h=>by
  simp only[aF] at h ⊢;obtain⟨v,a,rfl,d,f⟩:=h;refine⟨v,a,rfl,?_,ct.rel (fun c b=>hi c (by simp[b])) f⟩;rcases hi c (by simp) with j | rfl
  ·have:=eS (L':=L') (cs:=[c]) (vs:=[v]) (by simp only[dV,j]) (by simp only[aF];exact⟨v,[],rfl,d,rfl⟩);simp only[aF] at this;obtain⟨u,us,e,k,_⟩:=this;injection e with e
   rw[e];exact k
  ·simp only[Rel]
theorem ct.append {l m:List C}(h:ct l) (k:ct m):ct (l++m):=fun c a=>by
 rcases aah.1 a with a | a
 ·exact h c a
 ·exact k c a
theorem ct.set {l:List C}{o:Nat}{c:C}(h:ct l) (b:c.pure=true):ct (l.set o c):=fun d a=>by
 rcases List.mem_or_eq_of_mem_set a with a | rfl
 ·exact h d a
 ·exact .inl b
theorem ct.take {l:List C}(h:ct l) (n:Nat):ct (l.take n):=fun c a=>h c (List.mem_of_mem_take a)
theorem ct.drop {l:List C}(h:ct l) (n:Nat):ct (l.drop n):=fun c a=>h c (List.mem_of_mem_drop a)
theorem aR {l:List C}(h:dV l=true):ct l:=fun c a=>.inl (o9.1 h c a)
theorem zU (n:Nat):ct (List.replicate n .any):=fun c a=>.inr (List.eq_of_mem_replicate a)
theorem nK {t:TypeId}{pre cs post pre' cs' post':List C}(h:pre++(cs++post)=pre'++(cs'++post')) (k:ct pre') (n:ct post') (F:aD) (L:Loc) (p:Own) (r:di F L (.win t pre cs post) p):di F L (.win t pre' cs' post') p:=by
 cases p with
 | row=>exact r.elim
 | box g w vs =>
  obtain⟨v,v1,s,v3,rfl,l,u,c⟩:=r;have b:aF F L (pre++(cs++post)) (v1++(s++v3)):=l.lift.append (u.append c.lift);rw[h] at b;obtain⟨m,q,e,f,a⟩:=aF.split b;obtain⟨o,j,rfl,a,d⟩:=aF.split a;exact⟨v,m,o,j,e,k.rel f,a,n.rel d⟩
theorem wo {t:TypeId}{cs pre' cs' post':List C}(h:cs=pre'++(cs'++post')) (f:ct pre') (k:ct post') (F:aD) (L:Loc) (p:Own) (r:di F L (.box t cs) p):di F L (.win t pre' cs' post') p:=by
 cases p with
 | row=>exact r.elim
 | box g o vs =>
  obtain⟨n,b⟩:=r;rw[h] at b;obtain⟨j,m,rfl,d,a⟩:=aF.split b;obtain⟨l,e,rfl,a,c⟩:=aF.split a;exact⟨n,j,l,e,rfl,f.rel d,a,k.rel c⟩
theorem Bh {t:TypeId}{cs pre' cs' post':List C}(h:cs=pre'++(cs'++post')) (F:aD) (L:Loc) (p:Own) (r:di F L (.win t pre' cs' post') p):di F L (.box t cs) p:=by
 cases p with
 | row=>exact r.elim
 | box g e vs =>
  obtain⟨d,v1,f,v3,rfl,b,c,a⟩:=r;subst h;exact⟨d,b.lift.append (c.append a.lift)⟩
theorem vC {sz:Nat}:∀{l:List (List C)},(∀es∈l,es.length=sz)->l.flatten.length=l.length*sz
 | [],_=>by simp
 | es::l,h=>by
  rw[List.flatten_cons,aak,h es (by simp),vC (fun e a=>h e (by simp[a])),aau,Nat.add_mul];omega
theorem x6 {l:List (List C)}{j:Nat}{es:List C}(h:l[j]?=some es):l.flatten=(l.take j).flatten++(es++(l.drop (j+1)).flatten):=by
 have a:=(aai.1 h).1;have b:=(aai.1 h).2
 conv=>lhs;rw[<-List.take_append_drop j l,List.flatten_append,aa7 a,List.flatten_cons,b]
theorem CS {l:List (List C)}{j:Nat}{es es':List C}(h:l[j]?=some es):(l.set j es').flatten=(l.take j).flatten++(es'++(l.drop (j+1)).flatten):=by
 have a:=(aai.1 h).1;have b:(l.set j es')[j]?=some es':=by simp[a]
 rw[x6 b,List.take_set_of_le (aaB j),List.drop_set_of_lt (by omega)]
theorem CallsTX.Z8 {P:Program}{f:Nat}{fi ca:List C}{n:C}{A:TO}{t sz j:Nat}{els:List (List C)}{es:List C}{R:TO->List C->C->Prop}{Pp:Value->Prop}(b:mY P f) (ab:KF t=true) (hA:xY A=true) (z:∃t cs,A=.box t cs)
  (d:∀c∈fi++n::ca,c.kill 1001=c/\rY 1001 sz c=c) (hj:els[j]?=some es) (k:∀e∈els,e.length=sz/\dP e=true/\dV e=true)
  (h:∀pre post,ct pre->ct post->CallsTX P f (fi++n::.own 1001 pre.length::ca) [A,.win t pre es post] (fun Mo c=>∃A' es',Mo=[A',.win t pre es' post]/\R A' es' c) Pp)
  (hR:∀A' es' c,R A' es' c->es'.length=sz/\dP es'=true/\dV es'=true/\xY A'=true/\∀(F:aD) (L L':Loc) v,Rel F L c v->Rel F L' c v) :
  lu P f (fi++n::.elr 1001 j 0::ca) [A,.row t sz els] (fun Mo c=>∃A' es',Mo=[A',.row t sz (els.set j es')]/\R A' es' c) Pp:=by
 have ae:=(aai.1 hj).1;have x:(els.take j).flatten.length=j*sz:=by
  rw[vC (sz:=sz) (fun e b=>(k e (List.mem_of_mem_take b)).1),aaC,Nat.min_eq_left (by omega)]
 have s:∀l:List (List C),(∀e∈l,e∈els)->ct l.flatten:=fun l hl c a=>by
  obtain⟨e,b,a⟩:=List.mem_flatten.1 a;exact .inl (o9.1 (k e (hl e b)).2.2 c a)
 have w:=s (els.take j) fun e b=>List.mem_of_mem_take b;have r:∀m,ct ((els.drop (j+1)).flatten++List.replicate m .any):=fun m=>(s _ fun e b=>List.mem_of_mem_drop b).append (zU m);have u:(fi++n::C.elr 1001 j 0::ca).map (rY 1001 sz)=fi++n::.own 1001 (els.take j).flatten.length::ca:=by
  have q:∀l:List C,(∀c∈l,rY 1001 sz c=c)->l.map (rY 1001 sz)=l:=fun l hl=>by
   conv=>rhs;rw[<-List.map_id l]
   exact aa9 fun c a=>hl c a
  rw[List.map_append,aao,aao,q fi (fun c a=>(d c (by simp[a])).2),q ca (fun c a=>(d c (by simp[a])).2),(d n (by simp)).2,x];rfl
 refine CallsTX.elem (A:=[A]) (R:=fun m Mo c=>∃A' es',Mo=[A',.box t ((els.set j es').flatten++List.replicate m .any)]/\R A' es' c) b ab (fun o p=>by rw[aaW.1 p];exact hA) (fun o p=>by rw[aaW.1 p];exact z) ?_ ⟨j,0,by simp⟩ (fun m=>?_) ?_
 ·intro c a;rcases aah.1 a with a | a
  ·exact .inr (d c (by simp[a]))
  ·rcases aal.1 a with rfl | a
   ·exact .inr (d c (by simp))
   ·rcases aal.1 a with rfl | a
    ·exact .inl ⟨j,0,rfl⟩
    ·exact .inr (d c (by simp[a]))
 ·show CallsTX P f ((fi++n::C.elr 1001 j 0::ca).map (rY 1001 sz)) _ _ Pp;rw[u];refine(h _ _ w (r m)).view (vw.same (vw.cons (wo (by rw[x6 hj];simp) w (r m)) (vw.refl []))) ?_ (fun _ h=>h);rintro Mo c ⟨A',es',rfl,y⟩;exact⟨_,vw.same (vw.cons (Bh rfl) (vw.refl [])),A',es',by rw[CS hj];simp,y⟩
 ·rintro m Mo c ⟨A',es',rfl,y⟩;obtain⟨r1,r2,r3,r4,r5⟩:=hR A' es' c y;refine⟨[A'],els.set j es',rfl,rfl,by simp,fun e b=>?_,fun o p=>by rw[aaW.1 p];exact r4,r5,A',es',rfl,y⟩;rcases List.mem_or_eq_of_mem_set b with b | rfl
  ·exact k e b
  ·exact⟨r1,r2,r3⟩
end Go.Fr.T
namespace Go.Fr.T
open Go Go.RowKit Go.Fr Go.Fr.Api
theorem qN {a:Sort _}{p:a->Prop}{K:Prop}(h:∃x,p x) (H:∀x,p x->K):K:=h.elim H
theorem fj {a:Type}{l:List a}{k:Nat}{K:Prop}(h:k<l.length) (H:∀x,l[k]?=some x->x∈l->l.drop k=x::l.drop (k+1)->K):K:=H l[k] (aag h) (List.getElem_mem h) (aa7 h)
section
variable {P:Program}{L:TL}{ρ:aX}
end
end Go.Fr.T
namespace Go.Fr.T
open Go Go.RowKit Go.Fr
theorem CallsT.give {P:Program}{f:Nat}{args:List C}{t sz:Nat}{els:List (List C)}(h:CallsT P f args [] (iD [.row t sz els] (.rw 1000))):CallsT P f args [] (iD [] (.sl els)):=by
 refine⟨fun F Li vs hl p y=>?_⟩;obtain rfl:Li=[]:=List.length_eq_zero_iff.1 hl;have q:=h.out F [] vs rfl p y;refine⟨q.ent,hO.ZL,fun w s=>Calls.mono (q.run w s) ?_⟩;rintro e w' ⟨v,F',Lo,rfl,l,n,Mo,c,q1,z,r,q4,rfl,rfl⟩;have m:aG (inp Lo) (fun _=>.v undef) (⟨#[],[]⟩:Act):=by
  refine⟨fun j=>?_,fun j k off e=>(by cases e),fun j a i e=>(by cases e)⟩;simp[conc]
 obtain⟨F2,L2,x,g2,u,g4,g5⟩:=sV (G:=fun _=>none) (k:=1000) l m (τ:=fun _=>.any) ⟨z,fun j=>trivial,fun k g t e=>(by cases e),l.glob⟩ (show(jn [TO.row t sz els]).get 1000=some (.row t sz els) from rfl);refine⟨v,F2,[],rfl,x.part (fun k o e=>by cases e),?_,[],.sl els,rfl,fun k=>trivial,?_,fun i g t cs e=>(by cases e),rfl,rfl⟩
 ·have d:=n.trans u;exact⟨d.le,d.os,d.tape,d.output,d.size,d.same,d.frz,fun b ⟨k,o,e,_⟩=>(by cases e)⟩
 ·have:=g5 r;have e:(C.rw 1000).frz 1000 els=.sl els:=rfl;rw[e] at this;simp only[Rel] at this ⊢;exact this
end Go.Fr.T
namespace Go.Fr
open Go Go.RowKit
def Loc.ZM (L L':Loc):Prop:=∃r:Nat->Nat,(∀k o,L'.get k=some o->L.get (r k)=some o\/∃t sz,o=.row (.slice none 0 0) t sz 0 [])/\∀k a,(L'.get k).isSome=true->(L'.get a).isSome=true->r k=r a->k=a
section
variable {F:aD}{L:Loc}{w:World}
theorem St.ZM {L':Loc}(a:St F L w) (h:L.ZM L'):St F L' w:=by
 obtain⟨r,h,hi⟩:=h;refine⟨a.frz,fun k o e=>?_,fun k o g e hb=>?_,fun k f o o' g e j hb b=>?_,a.glob⟩
 ·rcases h k o e with c | ⟨t,sz,rfl⟩
  ·exact a.own _ o c
  ·exact World.ownsRow_nil w 0 t sz
 ·rcases h k o e with c | ⟨t,sz,rfl⟩
  ·exact a.off _ o g c hb
  ·cases hb
 ·rcases h k o e with c | ⟨t,sz,rfl⟩
  ·rcases h f o' j with d | ⟨m,l,rfl⟩
   ·exact hi k f (by rw[e];rfl) (by rw[j];rfl) (a.sep _ _ o o' g c d hb b)
   ·cases b
  ·cases hb
theorem vE {L':Loc}(h:L.ZM L'):Step F L w F L' w:=by
 obtain⟨r,h,hi⟩:=h;exact⟨aD.le_refl F,rfl,rfl,rfl,aaB _,fun _ _ _=>rfl,fun b h=>.inl h,fun b ⟨k,o,e,hb⟩=>by
  rcases h k o e with a | ⟨t,sz,rfl⟩
  ·exact .inl ⟨_,o,a,hb⟩
  ·cases hb⟩
end
structure M6 (body:aD->Loc->Env->cS->Prop) (asg:List Nat) (F:aD) (L:Loc) (ρ:Env):Prop where
 out:∃(σ:Type) (x0:σ) (Inv:σ->aD->Prop) (ls:List Nat) (lv:σ->List Value) (Lf:σ->Loc) (μ:σ->Nat),
  Inv x0 F/\holds ls ((lv x0).map .v) ρ/\L.ZM (Lf x0)/\(∀x,L.keeps (Lf x)) /\
  ∀x F' jk,F.le F'->Inv x F'->Real F' (Lf x)->body F' (Lf x) (puts ls ((lv x).map .v) (iy asg jk ρ)) fun F'' L'' ρ'' =>
   ∃x',Inv x' F''/\holds ls ((lv x').map .v) ρ''/\L''.ZM (Lf x')/\μ x'<μ x
def iq (P:Program):aH->(Nat->cS)->cS->cS->cS
 | .skip,_,_,N,F,L,ρ=>N F L ρ
 | .reg d,_,_,N,F,L,ρ=>aY P d F L ρ N
 | .regD d,_,_,N,F,L,ρ=>aY P d F L ρ N
 | .regX ss,_,_,N,F,L,ρ=>(∀s∈ss,∀k,tH s=some k->L.get k=none)/\br P (fun _ _ _=>False) (Ay ss) ss F L ρ N
 | .seq a b,E,R,N,F,L,ρ=>iq P a E R (fun F L ρ=>iq P b E R N F L ρ) F L ρ
 | .cond c a b,E,R,N,F,L,ρ=>match ev ρ c with
  | .v (.bool t)=>wD t (iq P a E R N F L ρ) (iq P b E R N F L ρ)
  | _=>False
 | .block id c,E,R,N,F,L,ρ=>iq P c (fun j=>match Nat.beq j id with | true=>N | false=>E j) R N F L ρ
 | .loop asg c,E,R,_,F,L,ρ=>M6 (fun F L ρ K=>iq P c E R K F L ρ) asg F L ρ
 | .exit id,E,_,_,F,L,ρ=>E id F L ρ
 | .ret,_,R,_,F,L,ρ=>R F L ρ
section
variable {P:Program}{Q:Exit->Act->World->Prop}{K:cS}
theorem CW {ss:List aA}{E:Nat->cS}{R N:cS}{F:aD}{L:Loc}{ρ:Env}{a:Act}{w:World}:∀(ks:List Nat),St F L w->aG L ρ a->iq P (yM ks (.regD ss)) E R N F L ρ ->
  ∃F' L' ρ',St F' L' w/\aG L' ρ' a/\Step F L w F' L' w/\aY P ss F' L' ρ' N
 | [],c,b,h=>⟨F,L,ρ,c,b,Step.refl _ _ _,by simpa only[yM,iq] using h⟩
 | k::l,c,b,h=>by
  simp only[yM,iq] at h;have f:aY P ((k::l).map aA.frz++[]) F L ρ (fun F L ρ=>aY P ss F L ρ N):=by simpa only[aao,aaA] using h
  obtain⟨F1,L1,d,j,m,n,e⟩:=tY (k::l) c b f;simp only[aY] at e;exact⟨F1,L1,d,j,m,n,e⟩
theorem pK {A:cH}:∀(c:Code) {sc:aH},low P A c=some sc->∀{E:Nat->cS}{R N:cS}{F:aD}{L:Loc}{ρ:Env}{a:Act}{w:World},St F L w->aG L ρ a->a.tmps.size=A.n ->
  iq P sc E R N F L ρ->c.wp P (QQ A.n F L w a (cQ c) (fun _ _ _=>False) E R N) a w:=by
 intro c
 induction c with
 | skip =>
  intro sc b E R N F L ρ a w p o s d;simp only[low,yo] at b;subst b;exact wp_skip ⟨F,L,ρ,p,o,s,rfl,Step.refl _ _ _,fun _ _=>rfl,d⟩
 | label l =>
  intro sc b E R N F L ρ a w p o s d;simp only[low,yo] at b;subst b;exact wp_label ⟨F,L,ρ,p,o,s,rfl,Step.refl _ _ _,fun _ _=>rfl,d⟩
 | exit id =>
  intro sc b E R N F L ρ a w p o s d;simp only[low,yo] at b;subst b;exact wp_exit ⟨F,L,ρ,p,o,s,rfl,Step.refl _ _ _,fun _ _=>rfl,d⟩
 | ret =>
  intro sc b E R N F L ρ a w p o s d;simp only[low,yo] at b;subst b;exact wp_ret ⟨F,L,ρ,p,o,s,rfl,Step.refl _ _ _,fun _ _=>rfl,d⟩
 | region r cX bj =>
  intro sc b E R N F L ρ a w p o s d;cases bj with
  | false =>
   simp only[low] at b;split at b
   case h_2=>cases b
   rename_i ss bu;injection b with b;subst b
   simp only[iq] at d;exact wp_region (nT _ bu p o s d fun a' w' h=>h)
  | true =>
   simp only[low] at b;split at b
   case h_2=>cases b
   rename_i is cl ss h1 z;split at b
   case h_2 =>
    split at b
    case h_2=>cases b
    rename_i h3;injection b with b;subst b
    simp only[iq] at d;have h4:tF A.ord r=is:=by simp only[tF,h1]
    rw[h4] at z;exact qt z h3 p o s d.1 d.2 (fun a' w' h=>h) fun v ch a' w' F' L' _ _ _ _ _ _ h=>h.elim
   rename_i h0;split at b
   case h_2=>cases b
   rename_i h3;injection b with b;subst b
   obtain⟨F1,L1,ab,an,ax,aa,d⟩:=CW _ p o d;have h4:tF A.ord r=is:=by simp only[tF,h1]
   rw[h4] at z;exact sH z h3 an ax s d fun a' w' h=>eY.after (asg1:=[]) aa rfl (fun _ _=>rfl) h (fun _ h=>vv h List.not_mem_nil) (fun _ h=>h)
 | seq x y ao am =>
  intro sc b E R N F L ρ a w p o s d;simp only[low] at b;split at b
  case h_2=>cases b
  rename_i h1 z;injection b with b;subst b
  simp only[iq] at d;refine wp_seq (wp_mono (ao h1 p o s d) ?_);intro e q w1 m;cases e with
  | normal =>
   obtain⟨F1,L1,ab,g1,g2,g3,g4,g5,g6,g7⟩:=m;refine wp_mono (am z g1 g2 g3 g7) ?_;intro e2 a2 w2 ay;cases e2<;>first
    | exact eY.after g5 g4 g6 ay (fun j h=>aah.2 (.inl h)) (fun j h=>aah.2 (.inr h))
    | exact ay
    | exact(noPan ay).elim
  | exit id=>exact m.mono fun j h=>aah.2 (.inl h)
  | ret=>exact m.mono fun j h=>aah.2 (.inl h)
  | goto l=>exact m
  | panic c=>exact(noPan m).elim
  | outgrown=>exact m
 | cond c x y ao am =>
  intro sc b E R N F L ρ a w p o s d;simp only[low] at b;split at b
  case h_2=>cases b
  rename_i h0 h1 z;injection b with b;subst b
  simp only[iq] at d;split at d
  case h_2=>exact d.elim
  rename_i t ht;have hc:a.eval c=.bool t:=by rw[aI h0 o,bH ht]
  refine wp_cond hc ?_;cases t
  ·simp only[wD] at d;refine wp_mono (am z p o s d) ?_;intro e q w1 m;cases e<;>first
    | exact m.mono fun j h=>aah.2 (.inr h)
    | exact(noPan m).elim
    | exact m
  ·simp only[wD] at d;refine wp_mono (ao h1 p o s d) ?_;intro e q w1 m;cases e<;>first
    | exact m.mono fun j h=>aah.2 (.inl h)
    | exact(noPan m).elim
    | exact m
 | block id x ih =>
  intro sc b E R N F L ρ a w p o s d;simp only[low] at b;split at b
  case h_2=>cases b
  rename_i h1;injection b with b;subst b
  simp only[iq] at d;refine wp_block (wp_mono (ih h1 p o s d) ?_);intro e q w1 m;cases e with
  | exit j =>
   simp only[Exit.inBlock];simp only[QQ] at m
   by_cases hj:j=id
   ·subst hj;have hb:Nat.beq j j=true:=by simp
    rw[hb] at m;rw[o6 rfl];exact m
   ·have hb:Nat.beq j id=false:=by
     cases h:Nat.beq j id with
     | true=>exact vv (xo h) hj
     | false=>rfl
    rw[hb] at m;rw[vz hj];exact m
  | normal=>exact m
  | ret=>exact m
  | goto l=>exact m
  | panic c=>exact(noPan m).elim
  | outgrown=>exact m
 | loop x ih =>
  intro sc b E R N F L ρ a w p o s d;simp only[low] at b;split at b
  case h_2=>cases b
  rename_i sx h1;injection b with b;subst b
  simp only[iq] at d;obtain⟨σ,x0,Inv,ls,lv,Lf,μ,i0,i1,i2,i3,i4⟩:=d
  -- the frame at a loop's ag
  have ag:∀(y:σ) (F1:aD) (L1:Loc) (ab:Env) (q:Act) (w1:World),(∀t,q.tmps.getD t undef=conc L1 (ab t))->(∀j,j∉cQ x->q.tmps.getD j undef=a.tmps.getD j undef)->holds ls ((lv y).map .v) ab ->
    aG (Lf y) (puts ls ((lv y).map .v) (iy (cQ x) (fun j=>q.tmps.getD j undef) ρ)) q:=by
   intro y F1 L1 ab q w1 ca bs hh;have be:∀j k off,iy (cQ x) (fun j=>q.tmps.getD j undef) ρ j=.own k off->j∉cQ x/\ρ j=.own k off:=by
    intro j k off e;simp only[iy] at e;split at e
    ·cases e
    ·rename_i hm;exact⟨fun h=>(by rw[cT.2 h] at hm;cases hm),e⟩
   have bp:∀j ad i,iy (cQ x) (fun j=>q.tmps.getD j undef) ρ j=.el ad i->ρ j=.el ad i:=by
    intro j ad i e;simp only[iy] at e;split at e
    ·cases e
    ·exact e
   refine⟨fun j=>?_,fun j k off e=>?_,fun j ad i e=>?_⟩
   ·rcases sD ls (lv y) ab (iy (cQ x) (fun j=>q.tmps.getD j undef) ρ) ca hh j with⟨v,z,h3⟩ | z
    ·rw[z,h3];rfl
    ·rw[z];simp only[iy];split
     ·rfl
     ·rename_i hm;have hj:j∉cQ x:=fun h=>by rw[cT.2 h] at hm;cases hm
      rw[bs j hj,o.eq j];cases e:ρ j with
      | v u=>rfl
      | el u i=>rfl
      | own k off =>
       obtain⟨g,ty,cs,hg⟩:=o.own j k off e;obtain⟨cs',av⟩:=mI (i3 y) hg;simp only[conc,hg,av]
   ·rcases jQ ls (lv y) (iy (cQ x) (fun j=>q.tmps.getD j undef) ρ) j with z | ⟨v,z⟩
    ·rw[z] at e;obtain⟨_,e'⟩:=be j k off e;obtain⟨g,ty,cs,hg⟩:=o.own j k off e';obtain⟨cs',av⟩:=mI (i3 y) hg;exact⟨g,ty,cs',av⟩
    ·rw[z] at e;cases e
   ·rcases jQ ls (lv y) (iy (cQ x) (fun j=>q.tmps.getD j undef) ρ) j with z | ⟨v,z⟩
    ·rw[z] at e;exact o.el j ad i (bp j ad i e)
    ·rw[z] at e;cases e
  refine uz (fun n q w1=>∃(y:σ) (F1:aD),n=μ y/\F.le F1/\Inv y F1/\St F1 (Lf y) w1/\q.tmps.size=A.n/\q.defers=a.defers/\Step F L w F1 (Lf y) w1/\(∀j,j∉cQ x->q.tmps.getD j undef=a.tmps.getD j undef) /\
   aG (Lf y) (puts ls ((lv y).map .v) (iy (cQ x) (fun j=>q.tmps.getD j undef) ρ)) q) ?_ ?_
  ·exact⟨_,x0,F,rfl,aD.le_refl F,i0,p.ZM i2,s,rfl,vE i2,fun _ _=>rfl,ag x0 F L ρ a w o.eq (fun _ _=>rfl) i1⟩
  ·rintro n q w1 ⟨y,F1,rfl,bb,bi,an,cd,aw,aa,ac,ax⟩;refine wp_mono (ih h1 an ax cd (i4 y F1 _ bb bi ⟨w1,an⟩)) ?_;intro e a2 w2 m;cases e with
   | normal =>
    obtain⟨F2,L2,cf,g1,g2,g3,g4,g5,g6,⟨y',k1,k2,k3,k4⟩⟩:=m;have ap:∀j,j∉cQ x->a2.tmps.getD j undef=a.tmps.getD j undef:=fun j hj=>by rw[g6 j hj,ac j hj]
    exact⟨μ y',k4,y',F2,rfl,aD.le_trans bb g5.le,k1,g1.ZM k3,g3,g4.trans aw,(aa.trans g5).trans (vE k3),ap,ag y' F2 L2 cf a2 w2 g2.eq ap k2⟩
   | exit j=>exact eY.after aa aw ac m (fun j h=>h) (fun j h=>h)
   | ret=>exact eY.after aa aw ac m (fun j h=>h) (fun j h=>h)
   | goto l=>exact m
   | panic c=>exact(noPan m).elim
   | outgrown=>exact m
 | rangeFunc f ps x y ao am=>intro sc b;simp only[low] at b;cases b
 | scope x ih =>
  intro sc b E R N F L ρ a w p o s d;simp only[low] at b;refine wp_scope_straight (wp_mono (ih b p o s d) ?_);intro e q w1 m;cases e<;>exact m
 | goto l=>intro sc b;simp only[low] at b;cases b
 | refuse dp=>intro sc b;simp only[low] at b;cases b
theorem Ec {f:FuncId}{fn:Func}{c:Code}{sc:aH}{A:cH}{rs:List RV}{F:aD}{Lin:List Own}{R:aD->List Own->Value->Prop}(svs:List SV)
  (hf:P.funcs[f]?=some fn) (hb:fn.body=some c) (hname:(fn.name == "runtime.NumGoroutine")=false) (hl:low P A c=some sc) (hn:fn.ntmps=A.n) (hres:pO P fn.results.toList=some rs) (hlen:svs.length<=A.n)
  (hown:∀v∈svs,(∀k off,v=.own k off->∃g ty cs,(inp Lin).get k=some (.box g ty cs))/\(∀ad j,v=.el ad j->ad≠none))
  (hmono:∀F G L v,F.le G->R F L v->R G L v)
  (h:iq P sc (fun _ _ _ _=>False) (fun F' L' ρ'=>lR L' ρ' rs fun vs=>BF F' L' (ia vs) R) (fun F' L' ρ'=>lR L' ρ' rs fun vs=>BF F' L' (ia vs) R) F (inp Lin) (tv 0 svs)) :
  CallsA P f (svs.map (conc (inp Lin))).toArray F Lin R:=by
 refine⟨⟨fn,hf,by rw[hb];rfl,hname⟩,hmono,fun w hs=>?_⟩;refine calls_of_wp hf hb ?_;have he:aG (inp Lin) (tv 0 svs) {tmps:=(svs.map (conc (inp Lin))).toArray++Array.replicate (fn.ntmps-(svs.map (conc (inp Lin))).toArray.size) undef,defers:=[]}:=by
  have hin:∀t,tv 0 svs t=.v undef\/tv 0 svs t∈svs:=by
   intro t;rw[qw];simp only[aaK,aaD,Nat.sub_zero];cases e:svs[t]? with
   | none=>exact .inl rfl
   | some v=>exact .inr (aam e)
  refine⟨fun t=>?_,fun t k off e=>?_,fun t ad j e=>?_⟩
  ·rw[qw];simp only[aaK,aaD,Nat.sub_zero,aaF];cases e:svs[t]? with
   | some v =>
    have hlt:t<svs.length:=(aai.1 e).1;rw[Array.getElem?_append_left (by simpa using hlt)];simp[e]
   | none =>
    have hge:svs.length<=t:=aa4.1 e;rw[Array.getElem?_append_right (by simpa using hge)];simp only[Array.getElem?_replicate,Option.getD_none,conc];split<;>rfl
  ·rcases hin t with h1 | h1
   ·rw[h1] at e;cases e
   ·exact(hown _ h1).1 k off e
  ·rcases hin t with h1 | h1
   ·rw[h1] at e;cases e
   ·exact(hown _ h1).2 ad j e
 refine wp_mono (pK c hl hs he (by simp[hn];omega) h) ?_;intro e a' w' hq;have fin:∀{a0:Act},eY A.n F (inp Lin) w a0 (cQ c) (fun F' L' ρ'=>lR L' ρ' rs fun vs=>BF F' L' (ia vs) R) a' w'->a'.defers=a0.defers/\∃v,(results fn a'.tmps).run P w'=.ok v w' /\
   ∃v' F' Lo,Ending.returned v=.returned v'/\St F' (inp Lo) w'/\Step F (inp Lin) w F' (inp Lo) w'/\R F' Lo v':=by
  rintro a0 ⟨F',L',ρ',g1,g2,g3,g4,g5,g6,hret⟩;obtain⟨vs,hm,⟨ko,Lo,k1,k2,k3⟩⟩:=qu g1 g2 hres hret;refine⟨g4,ia vs,?_,ia vs,F',Lo,rfl,g1.handed k1 k2,?_,k3⟩
  ·rw[sJ];rw[Array.mapM_eq_mapM_toList];simp only[Sem.run_bind,Sem.run_map];rw[hm];simp only[Result.andThen_ok,Sem.run_pure];congr 1
   match vs with
   | []=>rfl
   | [t]=>rfl
   | t::u::r =>
    simp only[ia];rw[dif_neg (by simp)]
  ·obtain⟨e1,e2⟩:=eW k1;refine⟨g5.le,g5.os,g5.tape,g5.output,g5.size,g5.same,g5.frz,fun b hb=>g5.own b ?_⟩;obtain⟨j,p,e,hb⟩:=hb;rw[aW] at e;split at e
   case isFalse=>cases e
   have hlt:j-1000<Lo.length:=(aai.1 e).1;have hk:ko[j-1000]?=some (ko[j-1000]'(by omega)):=aag (by omega);exact⟨_,p,by rw[e2 _ _ hk];exact e,hb⟩
 cases e with
 | normal=>exact fin hq
 | ret=>exact fin hq
 | exit j=>obtain⟨F',L',ρ',_,_,_,_,_,_,h⟩:=hq;exact h.elim
 | goto l=>exact hq.elim
 | panic c=>exact(noPan hq).elim
 | outgrown=>exact hq.elim
theorem gN {f:FuncId}{fn:Func}{sc:aH}{A:cH}{rs:List RV}{F:aD}{Lin:List Own}{R:aD->List Own->Value->Prop}{args:Array Value}(svs:List SV)
  (p:P.funcs[f]?=some fn) (a:aB P A fn=some (sc,A.n,rs,false)) (e:Nat.ble svs.length A.n=true) (b:args=(svs.map (conc (inp Lin))).toArray)
  (l:∀v∈svs,(∀k off,v=.own k off->∃g ty cs,(inp Lin).get k=some (.box g ty cs))/\(∀m j,v=.el m j->m≠none))
  (d:∀F G L v,F.le G->R F L v->R G L v)
  (h:iq P sc (fun _ _ _ _=>False) (fun F' L' ρ'=>lR L' ρ' rs fun vs=>BF F' L' (ia vs) R) (fun F' L' ρ'=>lR L' ρ' rs fun vs=>BF F' L' (ia vs) R) F (inp Lin) (tv 0 svs)) :
  CallsA P f args F Lin R:=by
 subst b;unfold aB at a;split at a
 case h_2=>cases a
 rename_i c hb;split at a
 case h_2=>cases a
 rename_i s q o r;injection a with a
 injection a with e1 e2
 injection e2 with e2 e3
 injection e3 with e3 e4
 subst e1 e3;exact Ec svs p hb e4 o e2 r (aav e) l d h
end
end Go.Fr
namespace Go.Fr.T
open Go Go.RowKit Go.Fr
def dS (p:List UInt8):List Value:=p.map fun b=>Value.int .u8 b.toNat
theorem oJ (p:List UInt8):(dS p).length=p.length:=by simp[dS]
theorem GI (p q:List UInt8):dS (p++q)=dS p++dS q:=by simp[dS]
theorem nk (p:List UInt8):∀u∈dS p,u.oneCell'=true:=by
 intro u h;simp only[dS,aaJ] at h;obtain⟨b,_,rfl⟩:=h;rfl
section
variable {F:aD}{L:Loc}
theorem mE:∀{p:List UInt8}{xs:List Value},aO F 1 (af p) xs->xs=dS p
 | [],xs,h=>by simpa[af,aO,dS] using h
 | b::p,xs,h=>by
  simp only[af,aao,aO] at h;obtain⟨vs,c,rfl,k,j,a,d⟩:=h;simp only[aF,Rel] at a;obtain⟨v,e,rfl,⟨rfl,_⟩,rfl⟩:=a;rw[mE (p:=p) d];rfl
theorem pU (p:List UInt8):aO F 1 (af p) (dS p):=mr p
theorem x9 {p:List UInt8}{v:Value}(h:Rel F L (.sl (af p)) v):∃a c,v=.slice a p.length c/\p.length<=c/\p.length<=maxLen/\(bV F a 0 (dS p)\/(p.length=0/\dS p=[])):=by
 have n:(af p).length=p.length:=by simp[af]
 have j:=h;simp only[Rel] at j;obtain⟨a,c,k,l,m,s,sz,o⟩:=j;obtain⟨xs,t,e,r⟩:=iZ (sz:=1) o (fun es d=>by simp only[af,aaJ] at d;obtain⟨b,_,rfl⟩:=d;rfl);have q:=mE r;subst q;rw[n] at k l m e;exact⟨a,c,k,l,m,e⟩
theorem u5:Rel F L (.sl []) (.slice none 0 0):=by
 simp only[Rel];exact⟨none,0,rfl,aaB _,aaK _,fun _=>by simp,0,by simp[gF]⟩
theorem CX {a:Option Addr}{xs:List Value}{m:Nat}(h:bV F a 0 xs):bV F a 0 (xs.take m):=by
 obtain⟨k,d,t,j,e,hb,c,l⟩:=h;refine⟨k,d,t,j,e,hb,c,fun i v b=>l i v ?_⟩;rw[aaN] at b;split at b
 ·exact b
 ·cases b
theorem mK {asg:List Nat}{c:Nat->Value}{ρ:Env}:∀{us:List Nat}{b:List SV},holds us b ρ->(us.all fun j=>!ga asg j)=true->puts us b (iy asg c ρ)=iy asg c ρ
 | [],_,_,_=>rfl
 | _::_,[],_,_=>rfl
 | k::ks,v::vs,h,a=>by
  simp only[List.all_cons,aaj] at a;simp only[puts];rw[mK h.2 a.2];have d:ga asg k=false:=by simpa using a.1
  funext j
  simp only[put];cases hb:Nat.beq j k with
  | false=>rfl
  | true =>
   have:=xo hb;subst this;simp only[iy,d];exact h.1.symm
variable {P:Program}{f:Nat}{vs:List Value}{K:aD->Loc->Value->Prop}
end
end Go.Fr.T
namespace Go.Fr.Dm
open Go Go.RowKit Go.Fr Go.Fr.T Go.Fr.Api
def r9 (h x:Int):Int:=(h*1000003+x+1).tmod 2147483647
def Sg (l:List Int):Int:=l.foldl r9 7
theorem yh {h x:Int}(a:0<=h) (b:0<=x):0<=r9 h x/\r9 h x<2147483647:=by
 have:0<=h*1000003+x+1:=by omega
 rw[r9,Int.tmod_eq_emod_of_nonneg this];exact⟨Int.emod_nonneg _ (by omega),Int.emod_lt_of_pos _ (by omega)⟩
def Br (bs:List UInt8):List Int:=bs.map fun b=>(b.toNat:Int)
theorem Fit.to {k:IntKind}{n m:Int}{K:Int->Prop}(h:k.wrap n=m) (a:K m):Fit k n K:=⟨by rw[h];exact a⟩
def Sh (n:Nat):List UInt8:=if h:n<128 then[UInt8.ofNat n] else UInt8.ofNat (128+n % 128)::Sh (n / 128)
def zig (n:Int):Nat:=if n<0 then(-2*n-1).toNat else(2*n).toNat
def V2 (n:Int):List UInt8:=Sh (zig n)
def Qg (s:ByteArray):List UInt8:=V2 s.size++s.data.toList
def Oa (l:List ByteArray):List UInt8:=l.flatMap Qg
inductive W5:Option Prog->C->Prop
 | nil:W5 none .nilp
 | prog (q:Prog):W5 (some q) (.pt (Ro q) 0)
theorem aM (a:List UInt8):(af a).length=a.length:=by simp[af]
theorem gA {a:List UInt8}:∀es∈af a,es.length=1:=by
 intro es h;simp only[af,aaJ] at h;obtain⟨b,_,rfl⟩:=h;rfl
def elem {a:Type}(l:List a) (i:Int):Option a:=if i<0 then none else l[i.toNat]?
def nm (l:List ByteArray) (i:Int):ByteArray:=(elem l i).getD ⟨#[]⟩
def Fx (a:Option Prog) (k i:Int):Option (List UInt8) :=
 match a with
 | none=>none
 | some q=>if k=2 then(elem q.datas i).map fun d=>Oa [nm q.modules d.module,d.name] else none
def yj:PK:=⟨⟨#[]⟩,0,0,[],0,.mk 0 0 [],[],[],[]⟩
theorem rM {a b:List UInt8}{K:Prop}(h:a.length+b.length<=140737488355328) (k:K):sL (af a) (af b) 1 1 K :=
 ⟨gA,by rw[aM,aM];simp[maxLen];omega,by rw[aM,aM];simp;omega,k⟩
theorem R8 {a b:List UInt8}{n:Nat}(h:(a++b).length<=n):a.length<=n/\b.length<=n:=by
 simp only[aak] at h;omega
theorem y8 {a b:List (List C)}{m n:Nat}(h:a.length=m) (k:b.length=n):(a++b).length=m+n:=by rw[aak,h,k]
theorem Eg {q:Prog}{k i:Int}{d:Api.Data}(a:k=2) (h:elem q.datas i=some d):Fx (some q) k i=some (Qg (nm q.modules d.module)++Qg d.name):=by
 unfold Fx;simp only[a,aaD,h,aa5,Oa,List.flatMap_cons,List.flatMap_nil,aaA]
theorem J8 {els:List (List C)}{j off n:Nat}{es0:List C}{K:List C->Prop}(h:els[j]?=some es0) (b:dD ((es0.drop off).take n) n=true) (k:K es0):Lr els j off n fun _=>∀es,els[j]?=some es->K es :=
 ⟨es0,h,b,fun es a=>by rw[h] at a;injection a with a;rw[<-a];exact k⟩
end Go.Fr.Dm
namespace Go.Fr.T
open Go Go.RowKit Go.Fr
section
variable {F:aD}{w:World}
end
theorem Fy (L:Loc):∀(l:List TO) (n:Nat),∃Lo:List Own,vp L (jl n l)=kV n Lo/\Lo.length=l.length/\∀i p,i<l.length->L.get (n+i)=some p->Lo[i]?=some p
 | [],n=>⟨[],rfl,rfl,fun i p h _=>vv h (by simp)⟩
 | o::l,n=>by
  obtain⟨Lo,b,c,d⟩:=Fy L l (n+1);cases o with
  | row t sz els =>
   cases e:L.get n with
   | none=>exact⟨.row (.slice none 0 0) t sz 0 []::Lo,by simp only[jl,vp,kV,b,e],by simp[c],fun i p hi a=>by
     cases i with
     | zero=>rw[Nat.add_zero,e] at a;cases a
     | succ i=>exact d i p (by simpa using hi) (by rw[<-a];congr 1;omega)⟩
   | some q=>exact⟨q::Lo,by simp only[jl,vp,kV,b,e],by simp[c],fun i p hi a=>by
     cases i with
     | zero=>rw[Nat.add_zero,e] at a;exact a
     | succ i=>exact d i p (by simpa using hi) (by rw[<-a];congr 1;omega)⟩
  | _ =>
   cases e:L.get n with
   | none=>exact⟨.row (.slice none 0 0) 0 0 0 []::Lo,by simp only[jl,vp,kV,b,e],by simp[c],fun i p hi a=>by
     cases i with
     | zero=>rw[Nat.add_zero,e] at a;cases a
     | succ i=>exact d i p (by simpa using hi) (by rw[<-a];congr 1;omega)⟩
   | some q=>exact⟨q::Lo,by simp only[jl,vp,kV,b,e],by simp[c],fun i p hi a=>by
     cases i with
     | zero=>rw[Nat.add_zero,e] at a;exact a
     | succ i=>exact d i p (by simpa using hi) (by rw[<-a];congr 1;omega)⟩
theorem CallsT.gives {P:Program}{f:Nat}{args:List C}{Lin Lin1:List TO}{R:List TO->C->Prop}(h:CallsT P f args Lin1 R) (j:gives (jn Lin) (jn Lin1) (jn Lin1)) (hl:Lin.length<=Lin1.length):CallsT P f args Lin R:=by
 refine⟨fun F Li vs h1 r h3=>?_⟩;obtain⟨Li1,d,k2,s⟩:=Fy (inp Li) Lin1 1000;have d:vp (inp Li) (jn Lin1)=inp Li1:=d;have b:∀(i:Nat) p,Li[i]?=some p->Li1[i]?=some p:=by
  intro i p e;have hi:=(aai.1 e).1;exact s i p (by omega) (by rw[aW,o6 (by omega),show 1000+i-1000=i by omega];exact e)
 have a:Ext (inp Li) (inp Li1):=by
  intro k o e;rw[aW] at e;split at e
  case isFalse=>cases e
  rename_i z;exact⟨o,by rw[aW,o6 z];exact b _ _ e,Own.ZD o⟩
 have m:=tV r j;rw[d] at m;have l:=h.out F Li1 vs k2 m (h3.ext (aD.le_refl F) a);refine⟨l.ent,hO.ZL,fun w x=>?_⟩;obtain⟨n,q⟩:=tW x r j;rw[d] at n q;refine Calls.mono (l.run w n) ?_;rintro e w' ⟨v,F',Lo,rfl,u,q2,Mo,c,r1,y,r3,r4,r5⟩;exact⟨v,F',Lo,rfl,u,q.trans q2,Mo,c,r1,y,r3,fun i g t cs e=>r4 i g t cs (b _ _ e),r5⟩
theorem Sj {L:TL}(k t sz:Nat) {Lin:List TO}{Lo:List TO}(b:L.get k=none) (hb:aU Lin (List.range' 1000 Lin.length) [k]=true) (c:Lo=[.row t sz []]):pW Lin L .nils (iD Lo (.rw 1000)):=by
 subst c;have a:Nat.beq k k=true:=by simp
 refine⟨[],[k],[(k,.row t sz [])],.nils,.rw k,[.row t sz []],rfl,.inr ⟨⟨.inr ⟨b,t,sz,rfl⟩,trivial⟩,.inr (.inr (.inr (.inl ⟨rfl,k,t,sz,rfl,b,?_⟩)))⟩,?_,rfl,hb,fun _=>⟨rfl,?_⟩⟩
 ·simp only[TL.get,a]
 ·simp only[TL.sub,TL.get,a]
 ·simp only[C.ZQ,C.ren,C.mp,tK,cD,a]
end Go.Fr.T
