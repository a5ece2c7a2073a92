/- Part of the proofs of the statements of this seat. -/
import Derived.Test.YtnlegbokpofcaaaGreatDoorFW1
import Derived.Test.YtnlegbokpofcaaaGreatDoorFW2
import Derived.ChangeArms
import Derived.DataReads
import Derived.Carry
import Derived.ChangeSame
import Derived.WalkKit
import Derived.ProofKit
import Derived.OpenShut
set_option maxRecDepth 10000
set_option linter.unusedVariables false
set_option linter.unusedSimpArgs false
namespace Go.Fr
open Go Go.RowKit
section
variable {P:Program}{Q:Exit->Act->World->Prop}{K:dP}
theorem noPan {n:Nat}{F:aJ}{L:Loc}{w:World}{a:Act}{asg:List Nat}{E:Nat->dP}{R N:dP}{c} {b:Act}{w':World}(h:QQ n F L w a asg (fun _ _ _=>False) E R N (.panic c) b w'):False:=by
 obtain⟨v,_,F',L',_,_,_,_,_,h⟩:=h;exact h
theorem o8 {A:cE}{r:Nat}{c:Array Oper}:∀(is:List Nat) {ss:List aB}{F:aJ}{L:Loc}{ρ:Env}{a:Act}{w:World},rC P A r c is=some ss->St F L w->aN L ρ a->a.tmps.size=A.n ->
  bH P ss F L ρ K->(∀a' w',fH A.n F L w a (dstsOf c is) K a' w'->Q .normal a' w')->wpOps P c Q is a w:=by
 intro is
 induction is with
 | nil =>
  intro ss F L ρ a w hl hs he hn l hQ;simp only[rC,w7] at hl;subst hl;exact hQ a w ⟨F,L,ρ,hs,he,hn,rfl,Step.refl _ _ _,fun _ _=>rfl,l⟩
 | cons i is ih =>
  intro ss F L ρ a w hl hs he hn l hQ;simp only[rC] at hl;split at hl
  case h_1=>cases hl
  rename_i o hi;split at hl
  case h_2=>cases hl
  rename_i g s y hg bi ao ab;injection hl with hl
  subst hl
  -- the t
  have t:∀(ks:List Nat) {F:aJ}{L:Loc}{ρ:Env},St F L w->aN L ρ a->bH P (ks.map aB.frz++oW (wS A.pan r i) o.dst s g::y) F L ρ K ->
    ∃F' L' ρ',St F' L' w/\aN L' ρ' a/\Step F L w F' L' w/\bH P (oW (wS A.pan r i) o.dst s g::y) F' L' ρ' K:=by
   intro ks
   induction ks with
   | nil=>intro F L ρ hs he h;exact⟨F,L,ρ,hs,he,Step.refl _ _ _,h⟩
   | cons k ks bd =>
    intro F L ρ hs he h;simp only[acU,acW,bH] at h;split at h
    ·rename_i g' t' cs' hk;obtain⟨F1,bt,bl,z,q,m⟩:=um hs he hk;obtain⟨F2,L2,az,ar,ay,ak,h2⟩:=bd z q (h F1 bt bl);exact⟨F2,L2,az,ar,ay,m.trans ak,h2⟩
    ·obtain⟨F1,L1,z,q,m,h1⟩:=pI hs he h;obtain⟨F2,L2,az,ar,ay,ak,h2⟩:=bd z q h1;exact⟨F2,L2,az,ar,ay,m.trans ak,h2⟩
  obtain⟨F1,L1,ba,z,q,m,l⟩:=t _ hs he l
  clear t
  have bz:wS A.pan r i=false:=by
   cases hb:wS A.pan r i with
   | false=>rfl
   | true=>rw[hb] at l;simp only[oW,bH] at l
  rw[bz] at l;simp only[oW] at l
  clear he
  have he:=q;have hd:∀k,o.dst=some k->k<a.tmps.size:=by
   intro k hk;rw[hk] at ao;rw[hn];have h2:Nat.blt k A.n=true:=ao;simpa using h2
  have av:dstsOf c (i::is)=match o.dst with | some d=>d::dstsOf c is | none=>dstsOf c is:=by
   simp only[dstsOf,hi,Option.bind_some];cases o.dst<;>rfl
  have ag:∀j,j∉dstsOf c (i::is)->o.dst≠some j/\j∉dstsOf c is:=by
   intro j hj;rw[av] at hj;cases ho:o.dst with
   | none=>rw[ho] at hj;exact⟨by simp,hj⟩
   | some d =>
    rw[ho] at hj;simp only[acQ,not_or] at hj;exact⟨by simp;exact fun e=>hj.1 e.symm,hj.2⟩
  have aa:evalOp P s o.dst F1 L1 ba (fun F' L' ρ'=>bH P y F' L' ρ' K)->o.wp P a w (wpOps P c Q is) Q:=by
   intro l;have:=fW (Q:=Q) z q hd bi l;refine Oper.wp_mono ?_ (rD (asg:=[]) this);rintro a' w' ⟨⟨F',L',ρ',g1,g2,g3,g4,g5,g6⟩,ca⟩;refine ih ab g1 g2 (by rw[g3,hn]) g6 ?_;rintro aw ax ⟨F'',L'',ad,k1,k2,k3,k4,k5,k6,k7⟩;refine hQ aw ax ⟨F'',L'',ad,k1,k2,k3,k4.trans g4,(m.trans g5).trans k5,fun j hj=>?_,k7⟩;obtain⟨n1,n2⟩:=ag j hj;rw[k6 j n2,ca j n1]
  have skip:bH P y F1 L1 (put o.dst (.v undef) ba) K->wpOps P c Q is (a.put o.dst undef) w:=by
   intro l;refine ih ab z (q.put hd (v:=undef) (x:=.v undef) rfl dA fS (u9 L1)) (by rw[mD,hn]) l ?_;rintro aw ax ⟨F'',L'',ad,k1,k2,k3,k4,k5,k6,k7⟩;refine hQ aw ax ⟨F'',L'',ad,k1,k2,k3,k4.trans (iL _ _ _),m.trans k5,fun j hj=>?_,k7⟩;obtain⟨n1,n2⟩:=ag j hj;rw[k6 j n2,lT n1]
  simp only[wpOps,hi];cases al:o.guard with
  | none =>
   rw[al] at hg;simp only[jl,w7] at hg;subst hg;simp only[bH] at l;rw[o6 (by simp[Region.wanted,al])];exact .inl (aa l)
  | some p =>
   obtain⟨j,u⟩:=p;rw[al] at hg;simp only[jl] at hg;split at hg
   case h_2=>cases hg
   rename_i d aE;injection hg with hg
   subst hg;simp only[bH] at l;split at l
   ·rename_i b hb;have f:=q.eq d;rw[hb] at f;have hy:yielded c a.tmps j=some b:=by
     simp only[yielded,aE,Option.bind_some,sN f]
    have hw:Region.wanted o (yielded c a.tmps)=(b == u):=by
     simp only[Region.wanted,al,hy];cases b<;>cases u<;>rfl
    rw[hw];cases b<;>simp only[yU] at l
    ·rw[mE hb] at l;cases u
     ·exact .inl (aa l)
     ·exact skip l
    ·rw[mE hb] at l;cases u
     ·exact skip l
     ·exact .inl (aa l)
   ·rename_i vs hb;have f:=q.eq d;rw[hb] at f;have hy:yielded c a.tmps j=none:=by
     simp only[yielded,aE,Option.bind_some];rw[adf] at f;cases e:a.tmps[d]? with
     | none=>rfl
     | some v=>rw[e] at f;simp only[Option.getD_some,conc] at f;rw[f]
    have hw:Region.wanted o (yielded c a.tmps)=false:=by
     simp only[Region.wanted,al,hy];rfl
    rw[hw];exact skip l
   ·exact l.elim
theorem vI {a:Act}{w:World}{d:List aB}{K:dP}:∀(ks:List Nat) {F:aJ}{L:Loc}{ρ:Env},St F L w->aN L ρ a->bH P (ks.map aB.frz++d) F L ρ K ->
  ∃F' L' ρ',St F' L' w/\aN L' ρ' a/\Step F L w F' L' w/\bH P d F' L' ρ' K:=by
 intro ks
 induction ks with
 | nil=>intro F L ρ o p h;exact⟨F,L,ρ,o,p,Step.refl _ _ _,h⟩
 | cons k ks n =>
  intro F L ρ o p h;simp only[acU,acW,bH] at h;split at h
  ·rename_i v x cs' t;obtain⟨F1,s,r,m,f,c⟩:=um o p t;obtain⟨F2,L2,l,e,j,b,q⟩:=n m f (h F1 s r);exact⟨F2,L2,l,e,j,c.trans b,q⟩
  ·obtain⟨F1,L1,m,f,c,u⟩:=pI o p h;obtain⟨F2,L2,l,e,j,b,q⟩:=n m f u;exact⟨F2,L2,l,e,j,c.trans b,q⟩
theorem GA {ss:List aB}{E:Nat->dP}{R N:dP}{F:aJ}{L:Loc}{ρ:Env}{a:Act}{w:World}:∀(ks:List Nat),St F L w->aN L ρ a->lQ P (AY ks (.regD ss)) E R N F L ρ ->
  ∃F' L' ρ',St F' L' w/\aN L' ρ' a/\Step F L w F' L' w/\bH P ss F' L' ρ' N
 | [],c,d,h=>⟨F,L,ρ,c,d,Step.refl _ _ _,by simpa only[AY,lQ] using h⟩
 | k::l,c,d,h=>by
  simp only[AY,lQ] at h;have j:bH P ((k::l).map aB.frz++[]) F L ρ (fun F L ρ=>bH P ss F L ρ N):=by simpa only[acU,acT] using h
  obtain⟨F1,L1,b,m,f,n,e⟩:=vI (k::l) c d j;simp only[bH] at e;exact⟨F1,L1,b,m,f,n,e⟩
theorem EW {A:cE}:∀(c:Code) {sc:aI},low P A c=some sc->∀{E:Nat->dP}{R N:dP}{F:aJ}{L:Loc}{ρ:Env}{a:Act}{w:World},St F L w->aN L ρ a->a.tmps.size=A.n ->
  lQ P sc E R N F L ρ->c.wp P (QQ A.n F L w a (dN c) (fun _ _ _=>False) E R N) a w:=by
 intro c
 induction c with
 | skip =>
  intro sc b E R N F L ρ a w s o q m;simp only[low,w7] at b;subst b;exact wp_skip ⟨F,L,ρ,s,o,q,rfl,Step.refl _ _ _,fun _ _=>rfl,m⟩
 | label l =>
  intro sc b E R N F L ρ a w s o q m;simp only[low,w7] at b;subst b;exact wp_label ⟨F,L,ρ,s,o,q,rfl,Step.refl _ _ _,fun _ _=>rfl,m⟩
 | exit id =>
  intro sc b E R N F L ρ a w s o q m;simp only[low,w7] at b;subst b;exact wp_exit ⟨F,L,ρ,s,o,q,rfl,Step.refl _ _ _,fun _ _=>rfl,m⟩
 | ret =>
  intro sc b E R N F L ρ a w s o q m;simp only[low,w7] at b;subst b;exact wp_ret ⟨F,L,ρ,s,o,q,rfl,Step.refl _ _ _,fun _ _=>rfl,m⟩
 | region r cr be =>
  intro sc b E R N F L ρ a w s o q m;cases be with
  | false =>
   simp only[low] at b;split at b
   case h_2=>cases b
   rename_i ss bx;injection b with b;subst b
   simp only[lQ] at m;exact wp_region (o8 _ bx s o q m fun a' w' h=>h)
  | true =>
   simp only[low] at b;split at b
   case h_2=>cases b
   rename_i is cl ss h1 z;split at b
   case h_2 =>
    split at b
    case h_2=>cases b
    injection b with b;subst b
    simp only[lQ] at m
   rename_i h0;split at b
   case h_2=>cases b
   rename_i h3;injection b with b;subst b
   obtain⟨F1,L1,ab,ax,av,aa,m⟩:=GA _ s o m;have h4:vh A.ord r=is:=by simp only[vh,h1]
   rw[h4] at z;exact uy z h3 ax av q m fun a' w' h=>fH.after (asg1:=[]) aa rfl (fun _ _=>rfl) h (fun _ h=>s6 h List.not_mem_nil) (fun _ h=>h)
 | seq x y ak am =>
  intro sc b E R N F L ρ a w s o q m;simp only[low] at b;split at b
  case h_2=>cases b
  rename_i h1 z;injection b with b;subst b
  simp only[lQ] at m;refine wp_seq (wp_mono (ak h1 s o q m) ?_);intro e p w1 d;cases e with
  | normal =>
   obtain⟨F1,L1,ab,g1,g2,g3,g4,g5,g6,g7⟩:=d;refine wp_mono (am z g1 g2 g3 g7) ?_;intro e2 a2 w2 aw;cases e2<;>first
    | exact fH.after g5 g4 g6 aw (fun j h=>acN.2 (.inl h)) (fun j h=>acN.2 (.inr h))
    | exact aw
    | exact(noPan aw).elim
  | exit id=>exact d.mono fun j h=>acN.2 (.inl h)
  | ret=>exact d.mono fun j h=>acN.2 (.inl h)
  | goto l=>exact d
  | panic c=>exact(noPan d).elim
  | outgrown=>exact d
 | cond c x y ak am =>
  intro sc b E R N F L ρ a w s o q m;simp only[low] at b;split at b
  case h_2=>cases b
  rename_i h0 h1 z;injection b with b;subst b
  simp only[lQ] at m;split at m
  case h_2=>exact m.elim
  rename_i t ht;have hc:a.eval c=.bool t:=by rw[aX h0 o,dc ht]
  refine wp_cond hc ?_;cases t
  ·simp only[yU] at m;refine wp_mono (am z s o q m) ?_;intro e p w1 d;cases e<;>first
    | exact d.mono fun j h=>acN.2 (.inr h)
    | exact(noPan d).elim
    | exact d
  ·simp only[yU] at m;refine wp_mono (ak h1 s o q m) ?_;intro e p w1 d;cases e<;>first
    | exact d.mono fun j h=>acN.2 (.inl h)
    | exact(noPan d).elim
    | exact d
 | block id x ih =>
  intro sc b E R N F L ρ a w s o q m;simp only[low] at b;split at b
  case h_2=>cases b
  rename_i h1;injection b with b;subst b
  simp only[lQ] at m;refine wp_block (wp_mono (ih h1 s o q m) ?_);intro e p w1 d;cases e with
  | exit j =>
   simp only[Exit.inBlock];simp only[QQ] at d
   by_cases hj:j=id
   ·subst hj;have hb:Nat.beq j j=true:=by simp
    rw[hb] at d;rw[o6 rfl];exact d
   ·have hb:Nat.beq j id=false:=by
     cases h:Nat.beq j id with
     | true=>exact s6 (vz h) hj
     | false=>rfl
    rw[hb] at d;rw[s8 hj];exact d
  | normal=>exact d
  | ret=>exact d
  | goto l=>exact d
  | panic c=>exact(noPan d).elim
  | outgrown=>exact d
 | loop x ih =>
  intro sc b E R N F L ρ a w s o q m;simp only[low] at b;split at b
  case h_2=>cases b
  rename_i sx h1;injection b with b;subst b
  simp only[lQ] at m;obtain⟨σ,x0,Inv,ls,lv,Lf,μ,i0,i1,i2,i3,i4⟩:=m
  -- the frame at a loop's ae
  have ae:∀(y:σ) (F1:aJ) (L1:Loc) (ab:Env) (p:Act) (w1:World),(∀t,p.tmps.getD t undef=conc L1 (ab t))->(∀j,j∉dN x->p.tmps.getD j undef=a.tmps.getD j undef)->holds ls ((lv y).map .v) ab ->
    aN (Lf y) (puts ls ((lv y).map .v) (iW (dN x) (fun j=>p.tmps.getD j undef) ρ)) p:=by
   intro y F1 L1 ab p w1 bs bA hh;have ba:∀j k off,iW (dN x) (fun j=>p.tmps.getD j undef) ρ j=.own k off->j∉dN x/\ρ j=.own k off:=by
    intro j k off e;simp only[iW] at e;split at e
    ·cases e
    ·rename_i hm;exact⟨fun h=>(by rw[dQ.2 h] at hm;cases hm),e⟩
   have bl:∀j ad i,iW (dN x) (fun j=>p.tmps.getD j undef) ρ j=.el ad i->ρ j=.el ad i:=by
    intro j ad i e;simp only[iW] at e;split at e
    ·cases e
    ·exact e
   refine⟨fun j=>?_,fun j k off e=>?_,fun j ad i e=>?_⟩
   ·rcases uq ls (lv y) ab (iW (dN x) (fun j=>p.tmps.getD j undef) ρ) bs hh j with⟨v,z,h3⟩ | z
    ·rw[z,h3];rfl
    ·rw[z];simp only[iW];split
     ·rfl
     ·rename_i hm;have hj:j∉dN x:=fun h=>by rw[dQ.2 h] at hm;cases hm
      rw[bA j hj,o.eq j];cases e:ρ j with
      | v u=>rfl
      | el u i=>rfl
      | own k off =>
       obtain⟨g,ty,cs,hg⟩:=o.own j k off e;obtain⟨cs',ar⟩:=nP (i3 y) hg;simp only[conc,hg,ar]
   ·rcases kT ls (lv y) (iW (dN x) (fun j=>p.tmps.getD j undef) ρ) j with z | ⟨v,z⟩
    ·rw[z] at e;obtain⟨_,e'⟩:=ba j k off e;obtain⟨g,ty,cs,hg⟩:=o.own j k off e';obtain⟨cs',ar⟩:=nP (i3 y) hg;exact⟨g,ty,cs',ar⟩
    ·rw[z] at e;cases e
   ·rcases kT ls (lv y) (iW (dN x) (fun j=>p.tmps.getD j undef) ρ) j with z | ⟨v,z⟩
    ·rw[z] at e;exact o.el j ad i (bl j ad i e)
    ·rw[z] at e;cases e
  refine vZ (fun n p w1=>∃(y:σ) (F1:aJ),n=μ y/\F.le F1/\Inv y F1/\St F1 (Lf y) w1/\p.tmps.size=A.n/\p.defers=a.defers/\Step F L w F1 (Lf y) w1/\(∀j,j∉dN x->p.tmps.getD j undef=a.tmps.getD j undef) /\
   aN (Lf y) (puts ls ((lv y).map .v) (iW (dN x) (fun j=>p.tmps.getD j undef) ρ)) p) ?_ ?_
  ·exact⟨_,x0,F,rfl,aJ.le_refl F,i0,s.gives i2,q,rfl,uo i2,fun _ _=>rfl,ae x0 F L ρ a w o.eq (fun _ _=>rfl) i1⟩
  ·rintro n p w1 ⟨y,F1,rfl,bd,bb,ax,bz,ap,aa,ac,av⟩;refine wp_mono (ih h1 ax av bz (i4 y F1 _ bd bb)) ?_;intro e a2 w2 d;cases e with
   | normal =>
    obtain⟨F2,L2,bB,g1,g2,g3,g4,g5,g6,⟨y',k1,k2,k3,k4⟩⟩:=d;have an:∀j,j∉dN x->a2.tmps.getD j undef=a.tmps.getD j undef:=fun j hj=>by rw[g6 j hj,ac j hj]
    exact⟨μ y',k4,y',F2,rfl,aJ.le_trans bd g5.le,k1,g1.gives k3,g3,g4.trans ap,(aa.trans g5).trans (uo k3),an,ae y' F2 L2 bB a2 w2 g2.eq an k2⟩
   | exit j=>exact fH.after aa ap ac d (fun j h=>h) (fun j h=>h)
   | ret=>exact fH.after aa ap ac d (fun j h=>h) (fun j h=>h)
   | goto l=>exact d
   | panic c=>exact(noPan d).elim
   | outgrown=>exact d
 | rangeFunc f ps x y ak am=>intro sc b;simp only[low] at b;cases b
 | scope x ih =>
  intro sc b E R N F L ρ a w s o q m;simp only[low] at b;refine wp_scope_straight (wp_mono (ih b s o q m) ?_);intro e p w1 d;cases e<;>exact d
 | goto l=>intro sc b;simp only[low] at b;cases b
 | refuse dd=>intro sc b;simp only[low] at b;cases b
end
end Go.Fr
namespace Go.Fr.T
open Go Go.RowKit Go.Fr
theorem LO:∀{bs:List Own}{ns:List Nat}{i:Nat}{o:Own},F7 bs ns->bs[i]?=some o->∃g t cs,o=.box g t cs
 | [],ns,i,o,h,e=>by simp at e
 | b::bs,[],i,o,h,e=>h.elim
 | b::bs,n::ns,i,o,h,e=>by
  cases i with
  | zero =>
   simp only[ac6,w7] at e;subst e;cases b with
   | row=>exact h.1.elim
   | box g t cs=>exact⟨g,t,cs,rfl⟩
  | succ i=>exact LO h.2 (by simpa using e)
def JT (n:Nat):Env:=fun j=>match Nat.blt j n with | true=>.own (1000+j) 0 | false=>.v undef
theorem Ps {bs:List Own}{ns:List Nat}{m:Nat}(h:F7 bs ns):aN (inp bs) (JT bs.length) {tmps:=(bs.map oG).toArray++Array.replicate m undef,defers:=[]}:=by
 have d:∀j,j<bs.length->∃g t cs,bs[j]?=some (.box g t cs):=fun j c=>by
  obtain⟨g,t,cs,e⟩:=LO h (w8 c);exact⟨g,t,cs,by rw[w8 c,e]⟩
 have hi:∀j,(inp bs).get (1000+j)=bs[j]?:=fun j=>by rw[bE,o6 (by omega),show 1000+j-1000=j by omega]
 refine⟨fun j=>?_,fun j k off e=>?_,fun j f i e=>?_⟩
 ·simp only[JT,adf];cases hb:Nat.blt j bs.length with
  | true =>
   have a:j<bs.length:=by simpa using hb
   obtain⟨g,t,cs,e⟩:=d j a;rw[Array.getElem?_append_left (by simpa using a)];simp only[conc,hi,e,List.getElem?_toArray,adp,adK,Option.getD_some,oG]
  | false =>
   have b:¬j<bs.length:=fun h=>by rw[(Nat.blt_eq ..).mpr h] at hb;cases hb
   rw[Array.getElem?_append_right (by simpa using b)];simp only[Array.getElem?_replicate,conc];split<;>rfl
 ·simp only[JT] at e;split at e
  ·rename_i hb;have a:j<bs.length:=by simpa using hb
   injection e with e1 e2
   subst e1;obtain⟨g,t,cs,e⟩:=d j a;exact⟨g,t,cs,by rw[hi,e]⟩
  ·cases e
 ·simp only[JT] at e;split at e<;>cases e
def Sv:Op->Bool
 | .call {callee:=.builtin .recover,args:=⟨[]⟩,argTypes:=⟨[]⟩}=>true
 | _=>false
theorem JU {P:Program}{H d d2 r0:Nat}{fn:Func}{o o2:Oper}{rest:Code}{A:cE}{sc:aI}{PS:Value->Prop}{ns:List Nat}{out:Value->List (List Value)}
  (hf:P.funcs[H]?=some fn) (hb:fn.body=some (.seq (.region r0 #[o,o2] false) rest)) (hname:(fn.name == "runtime.NumGoroutine")=false) (ho:o.op=.call {callee:=.builtin .recover,args:=#[],argTypes:=#[]}) (hd:o.dst=some d) (hg:o.guard=none) (ho2:o2.op=.assign (.tmp d)) (hd2:o2.dst=some d2) (hg2:o2.guard=none) (hdn2:d2<A.n)
  (hnt:fn.ntmps=A.n) (hres:fn.results=#[]) (hl:low P A rest=some sc) (hdn:d<A.n) (hns:ns.length<=A.n)
  (hidle:∀(bs:List Own) (w:World),F7 bs ns->CallsD P H (bs.map oG).toArray .returning w fun e u' w'=>e=.returned (.tuple #[])/\u'=.returning/\w'=w)
  (hcat:∀(F:aJ) (bs:List Own) (v:Value),PS v->F7 bs ns->lQ P sc (fun _ _ _ _=>False) (fun _ L' _=>L'.sub (List.range' 1000 bs.length)=some (List.zipWith qY bs (out v))) (fun _ L' _=>L'.sub (List.range' 1000 bs.length)=some (List.zipWith qY bs (out v))) F (inp bs) (put (some d2) (.v v) (put (some d) (.v v) (JT bs.length)))) :
  qP P H PS ns out:=by
 refine⟨fun cap w=>?_,hidle,fun F bs v older w hv hbx hs=>?_⟩
 ·simp[invoke];rw[kR ⟨fn,hf,by rw[hb];rfl,hname⟩]
 refine callsD_of_wpS hf hb fun c₀ cs hu=>?_;have hlen:=yt hbx;have he0:=Ps (m:=fn.ntmps-(bs.map oG).toArray.size) hbx;generalize htm:(bs.map oG).toArray++Array.replicate (fn.ntmps-(bs.map oG).toArray.size) undef=tm at he0 ⊢;have hsz:tm.size=A.n:=by
  rw[<-htm,<-hnt];simp;omega
 refine wpS_seq (wpS_region ?_);simp[wpOpsS,go_sem,recoverD,hu,ho,hd,hg,ho2,hd2,hg2,Region.wanted,Exit.thenS,hsz,hdn,Act.eval];have he1:=he0.put (L':=inp bs) (d:=some d) (v:=v) (x:=.v v) (fun k e=>by injection e with e;subst e;simpa[hsz] using hdn) rfl dA fS (fun k g ty cs e=>⟨cs,e⟩);have he2:=he1.put (L':=inp bs) (d:=some d2) (v:=v) (x:=.v v) (fun k e=>by injection e with e;subst e;simp[Act.put,hsz];exact hdn2) rfl dA fS (fun k g ty cs e=>⟨cs,e⟩);refine wpS_of_wp (wp_mono (EW rest hl hs ⟨he2.eq,he2.own,he2.el⟩ (by simpa using hsz) (hcat F bs v hv hbx)) ?_);have fin:∀(a':Act) (w':World),fH A.n F (inp bs) w {tmps:=(tm.setIfInBounds d v).setIfInBounds d2 v,defers:=[]} (dN rest) (fun _ L' _=>L'.sub (List.range' 1000 bs.length)=some (List.zipWith qY bs (out v))) a' w' ->
   a'.defers=[]/\∃u',({c₀ with mode:=FrameMode.panicking ({v,recovered:=true}::older)}::cs:List Frame)={c₀ with mode:=u'}::cs/\∃x,(results fn a'.tmps).run P w'=.ok x w' /\
    ((Ending.returned x=.returned (.tuple #[])/\u'=.panicking ({v,recovered:=true}::older))/\∃F',St F' (inp (List.zipWith qY bs (out v))) w'/\Step F (inp bs) w F' (inp (List.zipWith qY bs (out v))) w'):=by
  rintro a' w' ⟨F',L',ρ',g1,g2,g3,g4,g5,g6,k1⟩;obtain⟨e1,e2⟩:=fE k1;refine⟨g4,_,rfl,.tuple #[],by simp[results,hres],⟨rfl,rfl⟩,F',g1.handed k1 List.nodup_range',?_⟩;refine⟨g5.le,g5.os,g5.tape,g5.output,g5.size,g5.same,g5.frz,fun b hb=>g5.own b ?_⟩;obtain⟨j,p,e,hb⟩:=hb;rw[bE] at e;split at e
  case isFalse=>cases e
  have hlt:j-1000<(List.zipWith qY bs (out v)).length:=(acP.1 e).1;have hk:(List.range' 1000 bs.length)[j-1000]?=some ((List.range' 1000 bs.length)[j-1000]'(by omega)):=w8 (by omega);exact⟨_,p,by rw[e2 _ _ hk];exact e,hb⟩
 intro e a' w' hq;cases e with
 | normal =>
  obtain⟨k1,u',k2,x,k3,⟨k4,k5⟩,k6⟩:=fin a' w' hq;exact⟨k1,u',k2,x,k3,k4,k5,k6⟩
 | ret =>
  obtain⟨k1,u',k2,x,k3,⟨k4,k5⟩,k6⟩:=fin a' w' hq;exact⟨k1,u',k2,x,k3,k4,k5,k6⟩
 | exit j=>obtain⟨F',L',ρ',_,_,_,_,_,_,h⟩:=hq;exact h.elim
 | goto l=>exact hq.elim
 | outgrown=>exact hq.elim
 | panic ch=>obtain⟨v,hch,hp⟩:=hq;obtain⟨F',L',_,_,_,_,_,hp⟩:=hp;exact hp.elim
def Dc (P:Program) (A:cE) (fn:Func):Option (aI×Nat×Nat) :=
 match fn.body with
 | some (.seq (.region _ ⟨[o,o2]⟩ false) rest)=>match Sv o.op,o.dst,o.guard,low P A rest,fn.results with
  | true,some d,none,some sc,⟨[]⟩=>match o2.op,o2.dst,o2.guard with
   | .assign (.tmp d'),some d2,none=>match fn.name == "runtime.NumGoroutine",Nat.beq fn.ntmps A.n&&Nat.blt d A.n&&Nat.beq d d'&&Nat.blt d2 A.n with
    | false,true=>some (sc,d,d2)
    | _,_=>none
   | _,_,_=>none
  | _,_,_,_,_=>none
 | _=>none
theorem Df {P:Program}{H d m:Nat}{fn:Func}{A:cE}{sc:aI}{PS:Value->Prop}{ns:List Nat}{out:Value->List (List Value)}(hf:P.funcs[H]?=some fn) (a:Dc P A fn=some (sc,d,m)) (j:Nat.ble ns.length A.n=true)
  (b:∀(bs:List Own) (w:World),F7 bs ns->CallsD P H (bs.map oG).toArray .returning w fun e u' w'=>e=.returned (.tuple #[])/\u'=.returning/\w'=w)
  (c:∀(F:aJ) (bs:List Own) (v:Value),PS v->F7 bs ns->lQ P sc (fun _ _ _ _=>False) (fun _ L' _=>L'.sub (List.range' 1000 bs.length)=some (List.zipWith qY bs (out v))) (fun _ L' _=>L'.sub (List.range' 1000 bs.length)=some (List.zipWith qY bs (out v))) F (inp bs) (put (some m) (.v v) (put (some d) (.v v) (JT bs.length)))) :
  qP P H PS ns out:=by
 unfold Dc at a;split at a
 case h_2=>cases a
 rename_i r o o2 l hb;split at a
 case h_2=>cases a
 rename_i d' ac k p h3 h4 h5;split at a
 case h_2=>cases a
 rename_i x y z dd t k1 s k3;split at a
 case h_2=>cases a
 rename_i h6 f;simp only[w7,Prod.mk.injEq] at a;obtain⟨rfl,rfl,rfl⟩:=a;simp only[acR] at f;obtain⟨⟨⟨f,q⟩,h9⟩,h⟩:=f;obtain rfl:=vz h9;have u:o.op=.call {callee:=.builtin .recover,args:=#[],argTypes:=#[]}:=by
  unfold Sv at k;split at k
  ·assumption
  ·cases k
 exact JU hf hb h6 u p h3 k1 s k3 (by simpa using h) (vz f) h5 h4 (by simpa using q) (ac8 j) b c
end Go.Fr.T
namespace Go.Fr
open Go Go.RowKit
mutual
def G.bulk:G->Nat
 | .int _ _=>1
 | .bool _=>1
 | .str s=>s.size+1
 | .sl _ l=>G.aaL l+1
 | .st l=>G.aaL l+1
def G.aaL:List G->Nat
 | []=>0
 | x::l=>G.bulk x+G.aaL l
end
mutual
def jr {H:Type}:DataW H->Nat
 | .lit (.string bytes)=>bytes.length+1
 | .lit _=>1
 | .nil=>1
 | .ptr d=>jr d+1
 | .slice elems spare=>fU elems+fU spare+1
 | .agg parts=>fU parts+1
 | .iface _ d=>jr d+1
 | .map entries=>nL entries+1
 | .held _=>1
def fU {H:Type}:List (DataW H)->Nat
 | []=>0
 | d::r=>jr d+fU r
def nL {H:Type}:List (Lit×DataW H)->Nat
 | []=>0
 | x::r=>uM x+nL r
def uM {H:Type}:Lit×DataW H->Nat
 | (.string bytes,d)=>bytes.length+jr d+1
 | (_,d)=>jr d+1
end
def Ok (P:Program):Nat->TypeId->G->Prop
 | 0,_,_=>False
 | n+1,t,g=>match P.underlying t with
  | some .bool=>∃b,g=.bool b
  | some (.int k)=>∃x,g=.int k x/\(Lit.int k x).wf=true
  | some .string=>∃s,g=.str s
  | some (.slice e)=>∃l,g=.sl (P.cellsOf e) l/\∀x∈l,Ok P n e x
  | some (.struct fs)=>∃l,g=.st l/\l.length=fs.size/\∀(i:Nat) (f:Field) (x:G),fs[i]?=some f->l[i]?=some x->Ok P n f.type x
  | _=>False
def z5 (P:Program):Nat->List Field->Nat->Bool
 | o,[],n=>Nat.beq o n
 | o,f::fs,n=>Nat.beq f.offset o&&z5 P (o+P.cellsOf f.type) fs n
def M0 (P:Program) (S:List TypeId) (t:TypeId):Bool :=
 match P.underlying t with
 | some .bool=>true
 | some (.int _)=>true
 | some .string=>true
 | some (.slice e)=>gS S e&&Nat.blt 0 (P.cellsOf e)
 | some (.struct fs)=>z5 P 0 fs.toList (P.cellsOf t)&&fs.toList.all fun f=>gS S f.type
 | _=>false
def flat (P:Program) (S:List TypeId):Bool:=S.all (M0 P S)
theorem xq {Q:Nat->G->Prop}:∀(n:Nat),(∀i,i<n->∃g,Q i g)->∃l:List G,l.length=n/\∀i g,l[i]?=some g->Q i g
 | 0,_=>⟨[],rfl,fun i g h=>by simp at h⟩
 | n+1,h=>by
  obtain⟨l,b,c⟩:=xq n (fun i hi=>h i (by omega));obtain⟨g,d⟩:=h n (by omega);refine⟨l++[g],by simp[b],fun i x a=>?_⟩
  by_cases hi:i<l.length
  ·rw[acY hi] at a;exact c i x a
  ·rw[ac7 (by omega)] at a;have:i-l.length=0:=by
    cases e:i-l.length with
    | zero=>rfl
    | succ k=>rw[e] at a;simp at a
   rw[this] at a;simp only[ac6,w7] at a;subst a;have:i=n:=by omega
   subst this;exact d
theorem z6 {H:Type}:∀{l:List G}{ds:List (DataW H)},l.length=ds.length->(∀(i:Nat) g d,l[i]?=some g->ds[i]?=some d->g.bulk<=jr d)->G.aaL l<=fU ds
 | [],_,_,_=>by simp[G.aaL]
 | x::l,[],h,_=>by simp at h
 | x::l,d::ds,h,hb=>by
  simp only[G.aaL,fU];have e:=hb 0 x d (by simp) (by simp);have f:=z6 (l:=l) (ds:=ds) (by simpa using h) (fun i g b a c=>hb (i+1) g b (by simpa using a) (by simpa using c));omega
section
variable {H:Type}{enc:TypeId×Value->H}{P:Program}{w:World}{base:Nat}{spare:Nat->Bool}{held:Bool}
def qQ (w:World):aJ:=fun b=>w.heap[b]?
theorem J5 {a:Addr}{n:Nat}{cs:List Value}(h:w.cells? base a n=some cs) (s:0<n) (u:a.spot=none->∀i,i<n->w.frozen? ⟨a.block,a.off+i,none⟩=false):cs.length=n/\cC (qQ w) (some a) 0 cs:=by
 obtain⟨_,f,q⟩:=World.cells?_some h;refine⟨f,?_⟩;have l:=q 0 s;rw[w8 (by omega)] at l;have d:a.spot=none:=by simpa[Addr.add] using World.cell?_spot l
 have m:∃j t k,w.heap[a.block]?=some (.cells j t k):=by
  simp only[World.cell?,Addr.add] at l;split at l
  ·rename_i c t k e;exact⟨c,t,k,e⟩
  ·cases l
 obtain⟨j,t,k,hb⟩:=m;refine⟨a,j,t,k,rfl,hb,d,fun i v p=>?_⟩;have hi:i<n:=by rw[<-f];exact(acP.1 p).1
 have:=q i hi;obtain⟨b,o,z⟩:=a;simp only at d;subst d;rw[p,cZ] at this;simp only[World.cell?] at this;simp only at hb;rw[hb] at this;refine⟨by simpa using this,fun r=>?_⟩;have x:=u rfl i hi;obtain⟨lo,y⟩:=k;simp only[World.frozen?,hb,Bool.and_eq_false_iff,decide_eq_false_iff_not] at x;simp only[Nat.add_zero] at r;omega
theorem Dl {F:aJ}{a:Addr}{n:Nat}{cs:List Value}(d:a.spot=none) (h:cC F (some (a.add n)) 0 cs):cC F (some a) n cs:=by
 obtain⟨b,o,m⟩:=a;simp only at d;subst d;rw[cZ] at h;obtain⟨p,c,t,k,e,hb,f,l⟩:=h;injection e with e
 subst e;exact⟨_,c,t,k,rfl,hb,rfl,fun i v j=>by have:=l i v j;simpa[Nat.add_assoc] using this⟩
theorem Q6 {S:List TypeId}(hS:flat P S=true):∀(fuel:Nat) (t:TypeId) (cs:List Value) (x:DataW H×List MemPlace),t∈S->DataW.trod enc P w base spare held fuel t cs=some x->w.noneFrozen x.2 ->
  ∃g,Ok P fuel t g/\Rd (qQ w) g cs/\g.bulk<=jr x.1:=by
 intro fuel
 induction fuel with
 | zero=>intro t cs x _ h;simp[DataW.trod] at h
 | succ n ih =>
  intro t cs x ht h hz;have u:=ac5.1 hS t ht;simp only[M0] at u;split at u
  ·rename_i p;obtain⟨b,rfl,rfl⟩:=DataW.trod_bool p h;exact⟨.bool b,by simp[Ok,p],by simp[Rd],by simp[G.bulk,jr]⟩
  ·rename_i k p;obtain⟨m,rfl,rfl,hw⟩:=DataW.trod_int p h;exact⟨.int k m,by simp[Ok,p,hw],by simp[Rd,hw],by simp[G.bulk,jr]⟩
  ·rename_i p;obtain⟨s,rfl,rfl,hw⟩:=DataW.trod_string p h;exact⟨.str s,by simp[Ok,p],by simp[Rd],by simp[G.bulk,jr]⟩
  ·rename_i e p;simp only[acR] at u;have he:e∈S:=dQ.1 u.1;have aa:0<P.cellsOf e:=by simpa using u.2
   rcases DataW.trod_slice p h with⟨rfl,rfl⟩ | ⟨a,len,cap,elems,ap,m,e1,rfl,rfl,hb,hl,hm,ab,ay,_,_⟩
   ·refine⟨.sl (P.cellsOf e) [],by simp[Ok,p],?_,by simp[G.bulk,G.aaL,jr]⟩;rw[Sn];exact⟨none,0,rfl,by simp,by simp,fun _=>⟨rfl,rfl⟩,fun j x hx=>by simp at hx⟩
   ·obtain rfl:m=n:=by omega
    have r:0<len->a.spot=none:=by
     intro h0;have h1:=ay 0 h0;rw[w8 (by omega)] at h1;obtain⟨es,h2,h3⟩:=Option.bind_eq_some_iff.1 h1;have h0:=(World.cells?_some h2).2.2 0 aa;rw[w8 (by rw[(World.cells?_some h2).2.1];omega)] at h0;simpa[Addr.add] using World.cell?_spot h0
    obtain⟨l,ao,ak⟩:=xq (Q:=fun i g=>Ok P m e g/\(∃es,es.length=P.cellsOf e/\cC (qQ w) (some a) (i*P.cellsOf e) es/\Rd (qQ w) g es)/\∀y,elems[i]?=some y->g.bulk<=jr y.1) len (by
     intro i hi;have h1:=ay i hi;rw[w8 (by omega)] at h1;obtain⟨es,h2,h3⟩:=Option.bind_eq_some_iff.1 h1;obtain⟨g,g1,g2,g3⟩:=ih e es _ he h3 (fun b off hm=>hz b off (List.mem_append_right _ (List.mem_flatMap.2 ⟨_,List.mem_append_left _ (List.getElem_mem (show i<elems.length by omega)),hm⟩)));obtain⟨g4,g5⟩:=J5 h2 aa (fun hs k hk=>by
      have av:a.spot=none:=r (by omega);obtain⟨b,o,sp⟩:=a;simp only at av;subst av;rw[cZ];refine hz b _ (List.mem_append_left _ (adi.2 ⟨i*P.cellsOf e+k,List.mem_range.2 ?_,by simp[Nat.add_assoc]⟩));have h5:(i+1)*P.cellsOf e<=(elems.length+ap.length)*P.cellsOf e:=Nat.mul_le_mul_right _ (by omega);rw[Nat.add_mul] at h5;omega)
     refine⟨g,g1,⟨es,g4,Dl (r (by omega)) g5,g2⟩,fun y q=>?_⟩;rw[w8 (by omega)] at q;injection q with q
     subst q;exact g3)
    refine⟨.sl (P.cellsOf e) l,?_,?_,?_⟩
    ·simp only[Ok,p];refine⟨l,rfl,fun x hx=>?_⟩;obtain⟨i,hi⟩:=adh.1 hx;exact(ak i x hi).1
    ·rw[Sn];exact⟨some a,cap,by rw[ao],by omega,hm,fun e=>(by cases e),fun j x hx=>(ak j x hx).2.1⟩
    ·simp only[G.bulk,jr];have:=z6 (l:=l) (ds:=elems.map (·.1)) (by simp[ao,ab]) (fun i g d hg hd=>by
      simp only[adp,Option.map_eq_some_iff] at hd;obtain⟨y,q,rfl⟩:=hd;exact(ak i g hg).2.2 y q)
     omega
  ·rename_i fs p;simp only[acR] at u;obtain⟨ac,az⟩:=u;obtain⟨xs,m,e1,rfl,ab,bm,v⟩:=DataW.trod_struct p h;obtain rfl:m=n:=by omega
   have key:∀(fl:List Field) (ys:List (DataW H×List MemPlace)) (o:Nat),z5 P o fl (P.cellsOf t)=true->ys.length=fl.length->(∀f∈fl,f.type∈S) ->
     (∀(i:Nat) f,fl[i]?=some f->DataW.trod enc P w base spare held m f.type ((cs.drop f.offset).take (P.cellsOf f.type))=ys[i]?) ->
     (∀y∈ys,w.noneFrozen y.2) ->
     ∃l,l.length=fl.length/\(∀(i:Nat) f g,fl[i]?=some f->l[i]?=some g->Ok P m f.type g)/\wX (qQ w) l (cs.drop o)/\G.aaL l<=fU (ys.map (·.1)):=by
    intro fl
    induction fl with
    | nil =>
     intro ys o hc _ _ _ _;simp only[z5] at hc;have:=vz hc;refine⟨[],rfl,fun i f g h=>by simp at h,?_,by simp[G.aaL]⟩;simp only[wX];rw[List.drop_eq_nil_iff];omega
    | cons f fl bl =>
     intro ys o hc q z v am;simp only[z5,acR] at hc;have ar:=vz hc.1
     match ys,q with
     | y::ys,q =>
      have h0:=v 0 f (by simp);simp only[ac6] at h0;obtain⟨g,g1,g2,g3⟩:=ih f.type _ _ (z f (by simp)) h0 (am y (by simp));obtain⟨l,l1,l2,l3,l4⟩:=bl ys (o+P.cellsOf f.type) hc.2 (by simpa using q) (fun f' c=>z f' (by simp[c])) (fun i f' c=>by
       have:=v (i+1) f' (by simpa using c);simpa using this) (fun y' bj=>am y' (by simp[bj]))
      refine⟨g::l,by simp[l1],fun i f' g' c ad=>?_,?_,?_⟩
      ·cases i with
       | zero=>simp only[ac6,w7] at c ad;subst c;subst ad;exact g1
       | succ i=>exact l2 i f' g' (by simpa using c) (by simpa using ad)
      ·simp only[wX];refine⟨(cs.drop o).take (P.cellsOf f.type),cs.drop (o+P.cellsOf f.type),?_,by rw[<-ar];exact g2,l3⟩;rw[<-List.drop_drop,List.take_append_drop]
      ·simp only[G.aaL,acU,fU];omega
   obtain⟨l,l1,l2,l3,l4⟩:=key fs.toList xs 0 ac (by simp[bm]) (fun f u=>dQ.1 (ac5.1 az f u)) (fun i f hi=>v i f (by simpa using hi)) (fun y q b off hm=>hz b off (List.mem_flatMap.2 ⟨y,q,hm⟩));refine⟨.st l,?_,?_,?_⟩
   ·simp only[Ok,p];exact⟨l,rfl,by simpa using l1,fun i f x hi hx=>l2 i f x (by simpa using hi) hx⟩
   ·simp only[Rd];simpa using l3
   ·simp only[G.bulk,jr];omega
  ·cases u
end
namespace Api
abbrev I (n:Int):G:=.int .i64 n
inductive Ty where
 | mk (kind id:Int) (args:List Ty)
 deriving Inhabited
def Ty.kind:Ty->Int | .mk k _ _=>k
def Ty.id:Ty->Int | .mk _ i _=>i
def Ty.args:Ty->List Ty | .mk _ _ l=>l
mutual
def Ty.g:Ty->G
 | .mk k i l=>.st [I k,I i,.sl 3 (Ty.gs l)]
def Ty.gs:List Ty->List G
 | []=>[]
 | t::l=>t.g::Ty.gs l
end
theorem Ty.acC:∀l:List Ty,Ty.gs l=l.map Ty.g
 | []=>rfl
 | t::l=>by simp[Ty.gs,Ty.acC l]
structure z7 where
 param:Int
 trait:Int
def z7.g (b:z7):G:=.st [I b.param,I b.trait]
structure Term where
 kind:Int
 a:Int
 targets:List Int
def Term.g (x:Term):G:=.st [I x.kind,I x.a,.sl 1 (x.targets.map I)]
structure Ip where
 op:Int
 dst:Int
 a:Int
 b:Int
 n:Int
 args:List Int
 types:List Ty
def Ip.g (x:Ip):G:=.st [I x.op,I x.dst,I x.a,I x.b,I x.n,.sl 1 (x.args.map I),.sl 3 (x.types.map Ty.g)]
structure Block where
 code:List Ip
 fin:Term
def Block.g (x:Block):G:=.st [.sl 7 (x.code.map Ip.g),x.fin.g]
structure Wc where
 name:ByteArray
 module:Int
 params:Int
 bounds:List z7
 arity:Int
 result:Ty
 locals:List Ty
 blocks:List Block
 ties:List Int
def Wc.g (f:Wc):G:=.st [.str f.name,I f.module,I f.params,.sl 2 (f.bounds.map z7.g),I f.arity,f.result.g,.sl 3 (f.locals.map Ty.g),.sl 4 (f.blocks.map Block.g),.sl 1 (f.ties.map I)]
structure Variant where
 name:ByteArray
 fields:List Ty
def Variant.g (x:Variant):G:=.st [.str x.name,.sl 3 (x.fields.map Ty.g)]
structure Data where
 name:ByteArray
 module:Int
 params:Int
 variants:List Variant
 drop:Int
def Data.g (d:Data):G:=.st [.str d.name,I d.module,I d.params,.sl 2 (d.variants.map Variant.g),I d.drop]
structure Impl where
 trait:Int
 module:Int
 params:Int
 bounds:List z7
 type:Ty
 func:Int
def Impl.g (x:Impl):G:=.st [I x.trait,I x.module,I x.params,.sl 2 (x.bounds.map z7.g),x.type.g,I x.func]
structure Prog where
 modules:List ByteArray
 uses:List (List Int)
 datas:List Data
 traits:List ByteArray
 homes:List Int
 impls:List Impl
 funcs:List Wc
 main:Int
def Prog.g (p:Prog):G:=.st [.sl 1 (p.modules.map .str),.sl 1 (p.uses.map fun l=>.sl 1 (l.map I)),.sl 5 (p.datas.map Data.g),.sl 1 (p.traits.map .str),.sl 1 (p.homes.map I),.sl 8 (p.impls.map Impl.g),.sl 11 (p.funcs.map Wc.g),I p.main]
section
variable {F:aJ}{cs:List Value}
end
end Api
end Go.Fr
namespace Go.Fr
open Go Go.RowKit
namespace Api
section
variable {P:Program}
def UJ (P:Program) (n:Nat):List TypeId->List G->Prop
 | [],[]=>True
 | t::ts,x::l=>Ok P n t x/\UJ P n ts l
 | _,_=>False
theorem M5 {n:Nat}:∀{fl:List Field}{l:List G},l.length=fl.length->(∀(i:Nat) (f:Field) (x:G),fl[i]?=some f->l[i]?=some x->Ok P n f.type x)->UJ P n (fl.map (·.type)) l
 | [],[],_,_=>trivial
 | [],x::l,h,_=>by simp at h
 | f::fl,[],h,_=>by simp at h
 | f::fl,x::l,h,a=>⟨a 0 f x (by simp) (by simp),M5 (by simpa using h) fun i c b d e=>a (i+1) c b (by simpa using d) (by simpa using e)⟩
theorem ok_int {n:Nat}{t:TypeId}{g:G}{k:IntKind}(h:P.underlying t=some (.int k)) (a:Ok P n t g):∃x,g=.int k x:=by
 cases n with
 | zero=>exact a.elim
 | succ n=>simp only[Ok,h] at a;obtain⟨x,b,_⟩:=a;exact⟨x,b⟩
theorem Q7 {n:Nat}{t:TypeId}{g:G}(h:P.underlying t=some .bool) (a:Ok P n t g):∃x,g=.bool x:=by
 cases n with
 | zero=>exact a.elim
 | succ n=>simp only[Ok,h] at a;exact a
theorem UK {n:Nat}{t:TypeId}{g:G}(h:P.underlying t=some .string) (a:Ok P n t g):∃x,g=.str x:=by
 cases n with
 | zero=>exact a.elim
 | succ n=>simp only[Ok,h] at a;exact a
theorem Iq {b:Type}{f:b->G}:∀{l:List G},(∀x∈l,∃y,x=f y)->∃a:List b,l=a.map f
 | [],_=>⟨[],rfl⟩
 | x::l,h=>by
  obtain⟨y,rfl⟩:=h x (by simp);obtain⟨a,rfl⟩:=Iq (l:=l) (fun z c=>h z (by simp[c]));exact⟨y::a,rfl⟩
theorem UL {n:Nat}{t e:TypeId}{g:G}{sz:Nat}{c:Type}{f:c->G}(h:P.underlying t=some (.slice e)) (b:P.cellsOf e=sz) (a:Ok P n t g) (k:∀m x,m<n->Ok P m e x->∃y,x=f y):∃l:List c,g=.sl sz (l.map f):=by
 cases n with
 | zero=>exact a.elim
 | succ n =>
  simp only[Ok,h] at a;obtain⟨l,rfl,j⟩:=a;obtain⟨d,rfl⟩:=Iq (f:=f) (fun x o=>k n x (by omega) (j x o));exact⟨d,by rw[b]⟩
theorem WC {n:Nat}{t:TypeId}{g:G}{fs:Array Field}{ts:List TypeId}(h:P.underlying t=some (.struct fs)) (a:fs.toList.map (·.type)=ts) (b:Ok P n t g):∃m l,m<n/\g=.st l/\UJ P m ts l:=by
 cases n with
 | zero=>exact b.elim
 | succ n =>
  simp only[Ok,h] at b;obtain⟨l,rfl,d,c⟩:=b;subst a;exact⟨n,l,by omega,rfl,M5 (by simpa using d) fun i f x e j=>c i f x (by simpa using e) j⟩
def Q8 (P:Program) (t:TypeId) (ts:List TypeId):Bool:=match P.underlying t with | some (.struct fs)=>decide (fs.toList.map (·.type)=ts) | _=>false
def M6 (P:Program) (t e sz:Nat):Bool:=match P.underlying t with | some (.slice e')=>Nat.beq e' e&&Nat.beq (P.cellsOf e) sz | _=>false
def Yh (P:Program) (t:TypeId):Bool:=match P.underlying t with | some (.int .i64)=>true | _=>false
def isS (P:Program) (t:TypeId):Bool:=match P.underlying t with | some .string=>true | _=>false
theorem gQ {t:TypeId}{ts:List TypeId}(h:Q8 P t ts=true) {n:Nat}{g:G}(b:Ok P n t g):∃m l,m<n/\g=.st l/\UJ P m ts l:=by
 simp only[Q8] at h;split at h
 ·rename_i fs a;exact WC a (by simpa using h) b
 ·cases h
theorem fF {t e sz:Nat}(h:M6 P t e sz=true) {n:Nat}{g:G}{a:Type}{f:a->G}(j:Ok P n t g) (k:∀m x,m<n->Ok P m e x->∃y,x=f y):∃l:List a,g=.sl sz (l.map f):=by
 simp only[M6] at h;split at h
 ·rename_i e' d;simp only[acR] at h;have b:=vz h.1;have c:=vz h.2;subst b;exact UL d c j k
 ·cases h
theorem cU {t:TypeId}(h:Yh P t=true) {n:Nat}{g:G}(b:Ok P n t g):∃x,g=I x:=by
 simp only[Yh] at h;split at h
 ·rename_i a;exact ok_int a b
 ·cases h
theorem GN {t:TypeId}(h:isS P t=true) {n:Nat}{g:G}(b:Ok P n t g):∃x,g=.str x:=by
 simp only[isS] at h;split at h
 ·rename_i a;exact UK a b
 ·cases h
theorem qZ {n:Nat}{b:TypeId}{l:List G}(h:UJ P n [b] l):∃a,l=[a]/\Ok P n b a:=by
 match l,h with
 | [a],h=>exact⟨a,rfl,h.1⟩
theorem aQ {n:Nat}{b:TypeId}{ts:List TypeId}{l:List G}(h:UJ P n (b::ts) l):∃a r,l=a::r/\Ok P n b a/\UJ P n ts r:=by
 match l,h with
 | a::r,h=>exact⟨a,r,rfl,h.1,h.2⟩
theorem WD {t ti ts:TypeId}(hi:Yh P ti=true) (e:Q8 P t [ti,ti,ts]=true) (q:M6 P ts t 3=true):∀(n:Nat) (g:G),Ok P n t g->∃x:Ty,g=x.g:=by
 intro n
 induction n using Nat.strongRecOn with
 | _ n j =>
  intro g h;obtain⟨m,l,v,rfl,d⟩:=gQ e h;obtain⟨a,l,rfl,p,d⟩:=aQ d;obtain⟨b,l,rfl,hb,d⟩:=aQ d;obtain⟨c,rfl,s⟩:=qZ d;obtain⟨k,rfl⟩:=cU hi p;obtain⟨i,rfl⟩:=cU hi hb;obtain⟨xs,rfl⟩:=fF q s (f:=Ty.g) (fun r x o u=>j r (by omega) x u);exact⟨.mk k i xs,by simp[Ty.g,Ty.acC]⟩
structure WE where
 int:TypeId
 str:TypeId
 ints:TypeId
 strs:TypeId
 intss:TypeId
 ty:TypeId
 tys:TypeId
 bound:TypeId
 bounds:TypeId
 term:TypeId
 ins:TypeId
 inss:TypeId
 block:TypeId
 blocks:TypeId
 func:TypeId
 funcs:TypeId
 variant:TypeId
 variants:TypeId
 data:TypeId
 datas:TypeId
 impl:TypeId
 impls:TypeId
 prog:TypeId
def WE.tyOk (P:Program) (d:WE):Bool:=Yh P d.int&&Q8 P d.ty [d.int,d.int,d.tys]&&M6 P d.tys d.ty 3
theorem WE.i {d:WE}(h:d.tyOk P=true) {n:Nat}{g:G}(a:Ok P n d.int g):∃x:Int,g=I x:=by
 simp only[WE.tyOk,acR] at h;exact cU h.1.1 a
end
end Api
end Go.Fr
namespace Go.Fr.T
open Go Go.RowKit Go.Fr
mutual
def nM:G->List C
 | .int k n=>[.int k n]
 | .bool b=>[.bool b]
 | .str s=>[.str s]
 | .sl _ l=>[.sl (tI l)]
 | .st l=>jT l
def tI:List G->List (List C)
 | []=>[]
 | x::l=>nM x::tI l
def jT:List G->List C
 | []=>[]
 | x::l=>nM x++jT l
end
theorem z8:∀l:List G,tI l=l.map nM
 | []=>rfl
 | x::l=>by simp only[tI,acU,z8 l]
theorem Dn {a b:List C}(h:eP a=true) (k:eP b=true):eP (a++b)=true:=by
 rw[jA] at *;intro c d;rcases acN.1 d with d | d
 ·exact h c d
 ·exact k c d
mutual
theorem Dp {F:aJ}:∀{g:G}{cs:List Value},Rd F g cs->g.bulk<=maxLen->aK F [] (nM g) cs/\eP (nM g)=true
 | .int k n,cs,h,hb=>by
  simp only[Rd] at h;obtain⟨rfl,h⟩:=h;simp only[nM,aK,Rel];exact⟨⟨_,_,rfl,⟨rfl,h⟩,rfl⟩,rfl⟩
 | .bool b,cs,h,hb=>by
  simp only[Rd] at h;subst h;simp only[nM,aK,Rel];exact⟨⟨_,_,rfl,rfl,rfl⟩,rfl⟩
 | .str s,cs,h,hb=>by
  simp only[Rd] at h;subst h;simp only[G.bulk] at hb;simp only[nM,aK,Rel];exact⟨⟨_,_,rfl,⟨rfl,by omega⟩,rfl⟩,rfl⟩
 | .sl sz l,cs,h,hb=>by
  simp only[Rd] at h;obtain⟨a,c,rfl,h1,h2,h3,h4⟩:=h;simp only[G.bulk] at hb;have hl:(tI l).length=l.length:=by simp[z8]
  simp only[nM,aK,Rel];refine⟨⟨_,_,rfl,⟨a,c,by rw[hl],by rw[hl];exact h1,by rw[hl];omega,fun e=>?_,sz,Cd h4 (by omega)⟩,rfl⟩,rfl⟩;obtain⟨e1,e2⟩:=h3 e;subst e1;exact⟨rfl,e2⟩
 | .st l,cs,h,hb=>by
  simp only[Rd] at h;simp only[G.bulk] at hb;simp only[nM];exact z9 h (by omega)
theorem Cd {F:aJ}{a:Option Addr}{sz:Nat}:∀{i:Nat}{l:List G},Gl F a sz i l->G.aaL l<=maxLen->ij F a sz i (tI l)
 | _,[],_,_=>by simp only[tI,ij]
 | i,x::l,h,hb=>by
  simp only[Gl] at h;obtain⟨⟨es,h1,h2,h3⟩,h4⟩:=h;simp only[G.aaL] at hb;obtain⟨r1,r2⟩:=Dp h3 (by omega);simp only[tI,ij];exact⟨⟨es,h1,h2,r2,r1⟩,Cd h4 (by omega)⟩
theorem z9 {F:aJ}:∀{l:List G}{cs:List Value},wX F l cs->G.aaL l<=maxLen->aK F [] (jT l) cs/\eP (jT l)=true
 | [],cs,h,_=>by simp only[wX] at h;subst h;simp only[jT,aK];exact⟨trivial,rfl⟩
 | x::l,cs,h,hb=>by
  simp only[wX] at h;obtain⟨c1,c2,rfl,h1,h2⟩:=h;simp only[G.aaL] at hb;obtain⟨r1,r2⟩:=Dp h1 (by omega);obtain⟨q1,q2⟩:=z9 h2 (by omega);simp only[jT];exact⟨r1.append q1,Dn r2 q2⟩
end
open Api
abbrev IC (n:Int):C:=.int .i64 n
def oO (l:List Int):List (List C):=l.map fun n=>[IC n]
def scs (l:List ByteArray):List (List C):=l.map fun s=>[C.str s]
mutual
def tW:Ty->List C
 | .mk k i l=>[IC k,IC i,.sl (J6 l)]
def J6:List Ty->List (List C)
 | []=>[]
 | t::l=>tW t::J6 l
end
theorem Fg:∀l:List Ty,J6 l=l.map tW
 | []=>rfl
 | t::l=>by simp only[J6,acU,Fg l]
theorem GP (t:Ty):tW t=[IC t.kind,IC t.id,.sl (t.args.map tW)]:=by
 cases t;simp only[tW,Fg,Ty.kind,Ty.id,Ty.args]
def M7 (b:z7):List C:=[IC b.param,IC b.trait]
def M8 (x:Term):List C:=[IC x.kind,IC x.a,.sl (oO x.targets)]
def qG (x:Ip):List C:=[IC x.op,IC x.dst,IC x.a,IC x.b,IC x.n,.sl (oO x.args),.sl (x.types.map tW)]
def iQ (x:Block):List C:=[.sl (x.code.map qG),IC x.fin.kind,IC x.fin.a,.sl (oO x.fin.targets)]
def aaw (f:Wc):List C:=[.str f.name,IC f.module,IC f.params,.sl (f.bounds.map M7),IC f.arity,IC f.result.kind,IC f.result.id,.sl (f.result.args.map tW),.sl (f.locals.map tW),.sl (f.blocks.map iQ),.sl (oO f.ties)]
def fK (x:Variant):List C:=[.str x.name,.sl (x.fields.map tW)]
def iC (d:Api.Data):List C:=[.str d.name,IC d.module,IC d.params,.sl (d.variants.map fK),IC d.drop]
def WG (x:Impl):List C:=[IC x.trait,IC x.module,IC x.params,.sl (x.bounds.map M7),IC x.type.kind,IC x.type.id,.sl (x.type.args.map tW),IC x.func]
def WH (p:Prog):List C:=[.sl (scs p.modules),.sl (p.uses.map fun l=>[.sl (oO l)]),.sl (p.datas.map iC),.sl (scs p.traits),.sl (oO p.homes),.sl (p.impls.map WG),.sl (p.funcs.map aaw),IC p.main]
theorem fu {a:Type}{f:a->G}{h:a->List C}(b:∀x,nM (f x)=h x) (l:List a):tI (l.map f)=l.map h:=by
 rw[z8,adI];exact adJ fun x _=>b x
theorem wF (l:List Int):tI (l.map I)=oO l:=fu (fun _=>rfl) l
mutual
theorem Dq:∀t:Ty,nM t.g=tW t
 | .mk k i l=>by simp only[Ty.g,nM,jT,tW,Ir l,acT,acW,acX]
theorem Ir:∀l:List Ty,tI (Ty.gs l)=J6 l
 | []=>rfl
 | t::l=>by simp only[Ty.gs,tI,J6,Dq t,Ir l]
end
theorem Dr (l:List Ty):tI (l.map Ty.g)=l.map tW:=fu Dq l
theorem M9 (x:Term):nM x.g=M8 x:=by simp only[Term.g,nM,jT,M8,wF,acT,acW,acX]
theorem Q9 (x:Ip):nM x.g=qG x:=by simp only[Ip.g,nM,jT,qG,wF,Dr,acT,acW,acX]
theorem J7 (x:Block):nM x.g=iQ x:=by simp only[Block.g,nM,jT,iQ,M9,M8,fu Q9,acT,acW,acX]
theorem Fh (x:Variant):nM x.g=fK x:=by simp only[Variant.g,nM,jT,fK,Dr,acT,acW,acX]
theorem Fj (x:Api.Data):nM x.g=iC x:=by simp only[Data.g,nM,jT,iC,fu Fh,acT,acW,acX]
theorem wG {l:List Int}{k:Nat}{x:Int}{K:List C->Prop}(a:l[k]?=some x) (h:K [IC x]):Eu (oO l) (k:Int) 1 K:=⟨[IC x],by omega,by simp[oO,a],rfl,h⟩
theorem xu {l:List Ty}{k:Nat}{x:Ty}{K:List C->Prop}(a:l[k]?=some x) (h:K [IC x.kind,IC x.id,.sl (x.args.map tW)]):Eu (l.map tW) (k:Int) 3 K:=bK a (GP x) rfl h
theorem WI {n:Int}(h:Wf (IC n)):-9223372036854775808<=n/\n<=9223372036854775807:=by simp only[Wf] at h;exact wf_i64 h
end Go.Fr.T
namespace Go.Fr.T
open Go Go.RowKit Go.Fr Go.ChangeShapes Go.WideShapes Go.ChangeAt
def xT:G->C
 | .int k n=>.int k n
 | .bool b=>.bool b
 | .str s=>.str s
 | .sl _ l=>.sl (tI l)
 | .st l=>.agg (jT l)
def SR (P:Program):List TypeId->List G->Prop
 | [],[]=>True
 | t::ts,g::gs=>(∃n,Ok P n t g)/\SR P ts gs
 | _,_=>False
section
variable {H:Type}{enc:TypeId×Value->H}{P:Program}{W:World}
theorem vL {F:aJ}{L:Loc}{c:C}{v:Value}(h:aK F L [c] [v]):Rel F L c v:=by
 simp only[aK] at h;obtain⟨x,y,e,a,b⟩:=h;injection e with e1 e2
 subst e1;exact a
theorem Ra {S:List TypeId}(u:flat P S=true) {t:TypeId}(s:t∈S) {r:Reach}{b0:Nat}{z:Nat->Bool}{y:Bool}{v:Value}{d:DataW H}{ps:List MemPlace}(f:Value.okWide P W r b0 t v)
  (h:DataW.Trod enc P W 0 z y t v d ps) (hz:W.noneFrozen ps) (hb:jr d<=maxLen):∃n g,Ok P n t g/\Rel (qQ W) [] (xT g) v/\g.bulk<=jr d:=by
 obtain⟨fuel,h⟩:=h;obtain⟨g,o,x,w⟩:=Q6 u fuel t _ _ s h hz;refine⟨fuel,g,o,?_,w⟩;have p:=(Dp x (acO w hb)).1;have q:=ac5.1 u t s;cases fuel with
 | zero=>exact o.elim
 | succ n =>
 simp only[M0] at q;simp only[Ok] at o;split at q
 ·rename_i j;obtain⟨b,rfl⟩:=okWide_bool j f;simp only[j] at o;obtain⟨b',rfl⟩:=o;exact vL p
 ·rename_i k j;obtain⟨m,rfl⟩:=okWide_int j f;simp only[j] at o;obtain⟨b',rfl,_⟩:=o;exact vL p
 ·rename_i j;obtain⟨m,rfl⟩:=okWide_string j f;simp only[j] at o;obtain⟨b',rfl⟩:=o;exact vL p
 ·rename_i e j;obtain⟨a,l,c,rfl⟩:=okWide_slice j f;simp only[j] at o;obtain⟨b',rfl,_⟩:=o;exact vL p
 ·rename_i fs j;simp only[Value.okWide,j] at f;obtain⟨cs,rfl,_,_⟩:=f;simp only[j] at o;obtain⟨l,rfl,_⟩:=o;simp only[xT,Rel];exact⟨cs.toList,by simp,p⟩
 ·cases q
theorem Cf {S:List TypeId}(k:flat P S=true) {r:Reach}{b0:Nat}{z:Nat->Bool}{w:Bool}:∀{ts:List TypeId}{vs:List Value}{ds:List (DataW H)}{ps:List MemPlace},(∀t∈ts,t∈S) ->
  (∀(j:Nat) t v,ts[j]?=some t->vs[j]?=some v->Value.okWide P W r b0 t v)->DataW.TrodAll enc P W 0 z w ts vs ds ps->W.noneFrozen ps->fU ds<=maxLen ->
  ∃gs,SR P ts gs/\aK (qQ W) [] (gs.map xT) vs/\G.aaL gs<=fU ds
 | [],[],[],_,_,_,_,_,_=>⟨[],trivial,by simp only[adA,aK],by simp[G.aaL]⟩
 | t::ts,v::vs,d::ds,ps,a,l,⟨p,q,h1,s,e⟩,m,hb=>by
  subst e;simp only[fU] at hb ⊢;obtain⟨n,g,y,x,g3⟩:=Ra k (a t (by simp)) (l 0 t v rfl rfl) h1 (fun b o a=>m b o (List.mem_append_left _ a)) (by omega);obtain⟨gs,k1,u,k3⟩:=Cf k (fun t c=>a t (by simp[c])) (fun j t v c f=>l (j+1) t v (by simpa using c) (by simpa using f)) s (fun b o a=>m b o (List.mem_append_right _ a)) (by omega);refine⟨g::gs,⟨⟨n,y⟩,k1⟩,?_,by simp only[G.aaL];omega⟩;simp only[acU,aK];exact⟨v,vs,rfl,x,u⟩
 | [],_::_,_,_,_,_,h,_,_=>h.elim
 | [],[],_::_,_,_,_,h,_,_=>h.elim
 | _::_,[],_,_,_,_,h,_,_=>h.elim
 | _::_,_::_,[],_,_,_,h,_,_=>h.elim
theorem Be {ts:List TypeId}(n:laidOutB P=true) (b:ts.all (fun t=>P.readableRec t&&decide (t<P.types.size))=true) {W':World}(hb:Below W.heap.size W W') {f:Nat->Bool} :
  ∀{vs:List Value}{ds:List (DataW H)}{ps:List MemPlace},DataW.TrodAll enc P W 0 (fun _=>true) true ts vs ds ps->(∀x∈ps,x.block<W.heap.size)->(∀x∈ps,f x.block=true)->DataW.TrodAll enc P W' 0 f true ts vs ds ps:=by
 induction ts with
 | nil =>
  intro vs ds ps h _ _
  match vs,ds,h with
  | [],[],h=>exact h
 | cons t ts l =>
  intro vs ds ps h j c
  match vs,ds,h with
  | v::vs,d::ds,⟨p,q,m,k,e⟩ =>
   subst e;simp only[List.all_cons,acR,ado] at b;refine⟨p,q,WideElems.Trod_stays n b.1.1 b.1.2 m (fun x a=>hb.same (j x (by simp[a]))) (fun x a=>c x (by simp[a])),l (by simpa using b.2) k (fun x a=>j x (by simp[a])) (fun x a=>c x (by simp[a])),rfl⟩
theorem Bf {f:Func}{s:ChangeSpec}{W W':World}{args:Array Value}{v:Value}{ds gs:List (DataW H)}{a pa pv:List MemPlace}
  (o:DataW.Whole enc P f.params.toList s.vars false W args.toList ds gs a)
  (k:∀(b:Nat) (m:Nat->Bool) (w:Bool),DataW.TrodAll enc P W' b m w f.resultTypes.toList (v.resultList f.resultTypes.size) (s.fn H (ds++gs)).results [])
  (c:∀m:Nat->Bool,(∀p∈a,m p.block=true)->DataW.TrodAll enc P W' 0 m true f.params.toList args.toList (s.fn H (ds++gs)).args pa)
  (e:∀m:Nat->Bool,(∀p∈a,m p.block=true)->DataW.TrodVars enc P W' m s.vars (s.fn H (ds++gs)).vars pv)
  (l:a=pa++pv) (hb:Below W.heap.size W W')
  (q:∀(j:Nat) (t:TypeId) (r:Value),f.resultTypes[j]?=some t->(v.resultList f.resultTypes.size)[j]?=some r->Value.okWide P W' .any 0 t r) :
  s.post enc P f false true false false W args v W':=by
 have h:∀p∈a,(fun b=>decide (b<W.heap.size)) p.block=true:=fun p d=>by simpa using o.lt p d
 have u:∀p∈a,p.block<W.heap.size:=fun p d=>o.lt p d;refine⟨ds,gs,a,[],pa,pv,o,k _ _ _,c _ h,e _ h,World.keptBut_mono (fun p d=>⟨d,?_⟩) (hb.frame (·∈a)),fun _=>?_⟩
 ·rw[l,acN] at d;exact Or.inr d
 ·obtain⟨_,_,_,_,_,y,z⟩:=o;refine⟨q,_,_,([]++pa)++pv,⟨[]++pa,pv,trodAll_append (c _ (fun _ _=>rfl)) (k _ _ _),e _ (fun _ _=>rfl),rfl,?_,?_⟩,?_⟩
  ·intro b off d;have n:MemPlace.cell b off∈a:=by rw[l];simpa using d
   rw[hb.frozen (p:=⟨b,off,none⟩) (u _ n)];exact y b off n
  ·intro x;cases x
  ·intro p d _;rw[l];simpa using d
theorem entry {f:FuncId}{ts:List TypeId}{S:List TypeId}(s:flat P S=true) (x:∀t∈ts,t∈S) {r:Reach}{b0:Nat}{args:Array Value}{ds:List (DataW H)}{ps:List MemPlace}
  (d:∀(j:Nat) t v,ts[j]?=some t->args.toList[j]?=some v->Value.okWide P W r b0 t v) (h:DataW.TrodAll enc P W 0 (fun _=>true) true ts args.toList ds ps) (z:W.noneFrozen ps) (l:fU ds<=1048576)
  (u:uV (qQ W)) (law:∀gs,SR P ts gs->G.aaL gs<=1048576->CallsT P f (gs.map xT) [] (gL [] (.bool true))) :
  Calls P f args W fun e W'=>e=.returned (.bool true)/\Below W.heap.size W W':=by
 obtain⟨gs,w,q,k3⟩:=Cf s x d h z (acO l (by decide));have y:=(law gs w (by omega)).out (qQ W) [] args.toList rfl (fun k=>by rw[show(inp []).get k=none from rfl,show(jQ []).get k=none from rfl];trivial) q;have n:∀k,(inp []).get k=none:=fun _=>rfl;have m:St (qQ W) (inp []) W:=⟨fun b o h=>h,fun k o h=>(by rw[n] at h;cases h),fun k o g h=>(by rw[n] at h;cases h),fun k k' o o' g h=>(by rw[n] at h;cases h),u⟩;refine Calls.mono (y.run W m) ?_;rintro e W' ⟨v,F',Lo,rfl,hs,a,Mo,c,q1,q2,p,q4,rfl,rfl⟩;simp only[Rel] at p;subst p;exact⟨rfl,a.os,a.tape,a.output,a.size,fun k l=>a.same k l (by rintro⟨_,_,h,_⟩;cases h)⟩
theorem Bg {f:FuncId}{fn:Func}{s:ChangeSpec}{S:List TypeId}{tb:TypeId}(hl:laidOutB P=true) (hS:flat P S=true) (z:fn.params.toList.all (fun t=>S.contains t&&(P.readableRec t&&decide (t<P.types.size)))=true)
  (d:fn.resultTypes=#[tb]) (m:P.underlying tb=some .bool) (a:s.vars=[])
  (law:∀gs,SR P fn.params.toList gs->G.aaL gs<=1048576->CallsT P f (gs.map xT) [] (gL [] (.bool true)))
  {r:Reach}{b0:Nat}{args:Array Value}{ds gs:List (DataW H)}{c:List MemPlace}(h:s.fn H ds={results:=[.lit (.bool true)],args:=ds})
  (k:∀(j:Nat) t v,fn.params[j]?=some t->args[j]?=some v->Value.okWide P W r b0 t v)
  (hW:DataW.Whole enc P fn.params.toList s.vars false W args.toList ds gs c) (hk:fU ds<=1048576) (hG:uV (qQ W):=by exact trivial) :
  Calls P f args W fun e W'=>∃v,e=.returned v/\s.post enc P fn false true false false W args v W':=by
 have n:=hW;rw[a] at hW;obtain⟨p,q,hA,hV,rfl,y,ap⟩:=hW;obtain⟨rfl,rfl⟩:=trodVars_none hV;have u:=ac5.1 z;refine(entry hS (fun t w=>by have:=u t w;simp only[acR,List.contains_iff_mem] at this;exact this.1) (fun j t v h1 h2=>k j t v (by simpa using h1) (by simpa using h2)) hA (fun b o z=>y b o (List.mem_append_left _ z)) hk hG law).mono ?_;rintro e W' ⟨rfl,hb⟩;refine⟨_,rfl,Bf (pa:=p) (pv:=[]) n ?_ ?_ ?_ rfl hb (ok_one d rfl (okWide_bool_mk m _))⟩
 ·intro b sp hd;simp only[acT,h,d];exact trodAll_cons_mk (shut_bool m _) trodAll_mk0
 ·intro sp l;simp only[acT,h];exact Be hl (ac5.2 fun t w=>by have:=u t w;simp only[acR] at this ⊢;exact this.2) hb hA (fun x hx=>n.lt x (by simp[hx])) (fun x hx=>l x (by simp[hx]))
 ·intro sp l;rw[a];simp only[acT,h];exact rfl
end
end Go.Fr.T
namespace Go.Fr.T
open Go Go.RowKit Go.Fr Go.Fr.Api
def bG (b:UInt8):G:=.int .u8 b.toNat
def Yi (P:Program) (t:TypeId) (k:IntKind):Bool:=match P.underlying t with | some (.int k')=>decide (k'=k) | _=>false
def isB (P:Program) (t:TypeId):Bool:=match P.underlying t with | some .bool=>true | _=>false
theorem UM {P:Program}{t:TypeId}{k:IntKind}(h:Yi P t k=true) {n:Nat}{g:G}(a:Ok P n t g):∃x,g=.int k x/\(Lit.int k x).wf=true:=by
 simp only[Yi] at h;split at h
 ·rename_i c b;have e:=ada h;subst e;cases n with
  | zero=>exact a.elim
  | succ n=>simp only[Ok,b] at a;exact a
 ·cases h
theorem rX {P:Program}{t:TypeId}(h:isB P t=true) {n:Nat}{g:G}(b:Ok P n t g):∃x,g=.bool x:=by
 simp only[isB] at h;split at h
 ·rename_i a;exact Q7 a b
 ·cases h
theorem WJ {P:Program}{t:TypeId}(h:Yi P t .u8=true) {n:Nat}{g:G}(c:Ok P n t g):∃b:UInt8,g=bG b:=by
 obtain⟨x,rfl,a⟩:=UM h c;simp only[Lit.wf,acR,ado] at a;have d:0<=x:=a.1;have e:x<=255:=a.2;refine⟨UInt8.ofNat x.toNat,?_⟩;simp only[bG,UInt8.toNat_ofNat'];congr 1;omega
theorem Na {P:Program}{t e:TypeId}(b:M6 P t e 1=true) (h:Yi P e .u8=true) {n:Nat}{g:G}(a:Ok P n t g):∃bs:List UInt8,g=.sl 1 (bs.map bG) :=
 fF b a fun _ _ _ c=>WJ h c
theorem GQ (bs:List UInt8):xT (.sl 1 (bs.map bG))=.sl (ah bs):=by
 simp only[xT,fu (f:=bG) (h:=fun b=>[iX b]) (fun _=>rfl),ah]
theorem Nb {a:Type}{f:a->G}(l:List a):l.length<=G.aaL (l.map f):=by
 induction l with
 | nil=>simp
 | cons x l b =>
  simp only[acU,G.aaL,xo];have:1<=(f x).bulk:=by cases f x<;>simp only[G.bulk]<;>omega
  omega
theorem Iu {a:Type}{f:a->G}(l:List a) {sz:Nat}:l.length+1<=(G.sl sz (l.map f)).bulk:=by
 have:=Nb (f:=f) l;simp only[G.bulk];omega
theorem rY {P:Program}{t:TypeId}{ts:List TypeId}{gs:List G}(h:SR P (t::ts) gs):∃g r n,gs=g::r/\Ok P n t g/\SR P ts r:=by
 cases gs with
 | nil=>exact h.elim
 | cons g r=>obtain⟨⟨n,a⟩,b⟩:=h;exact⟨g,r,n,rfl,a,b⟩
theorem Rb {P:Program}{gs:List G}(h:SR P [] gs):gs=[]:=by
 cases gs with
 | nil=>rfl
 | cons g r=>exact h.elim
end Go.Fr.T
namespace Go.Fr.T
open Go Go.RowKit Go.Fr
def wH:List TO->List TO->Bool
 | [],[]=>true
 | .row _ sz _::l,.row _ b _::m=>match Nat.beq sz b with | true=>wH l m | false=>false
 | .box _ _::l,.box _ _::m=>wH l m
 | .map _::l,.map _::m=>wH l m
 | .win _ _ _ _::l,.win _ _ _ _::m=>wH l m
 | _,_=>false
structure aax (j:Nat) (c0:C) (Lin:List TO) (L:TL) (ρ:bg) (v:C) (R:List TO->C->Prop):Prop where
 out:∃Mo,L.sub (List.range' 1000 Lin.length)=some Mo/\ρ j=c0/\wH Lin Mo=true/\(tE [v]->R (Mo.map (TO.aa8 (C.ren (cn (List.range' 1000 Lin.length) 1000)))) (v.abF.ren (cn (List.range' 1000 Lin.length) 1000)))
section
variable {P:Program}{G:Nat->Option (Nat×TypeId)}{F:aJ}{L:Loc}{ρ:Env}{M:TL}{τ:bg}{a:Act}{w:World}
end
section
variable {P:Program}{L:TL}{ρ:bg}
theorem uN (ks:List Nat) {f:Nat}{args b:List C}{K:TL->bg->C->Prop}{x:C}{Lin Lin' Lo:List TO}(h:yg P f b Lin' (gL Lo x)) (m:L.sub ks=some Lin) (e:bR ks=true)
  (l:(args.map fun c=>c.abk.ren (cn ks 1000))=b) (o:Lin.map (TO.aa8 (C.ren (cn ks 1000)))=Lin') (d:ks.length=Lo.length)
  (k:K ((L.aa7 ks).puts ks (Lo.map (TO.aa8 (C.ren (bF ks))))) ρ (x.ren (bF ks)).slt):CU P f args L ρ K:=by
 subst l o;exact .inpl ks Lin _ m e h fun v Mo ⟨j,n⟩ _ _=>by subst j n;exact⟨d,k⟩
theorem Aa {j:Nat}{b:C}{Lin Mo Lo:List TO}{v x:C}(d:L.sub (List.range' 1000 Lin.length)=some Mo) (f:ρ j=b) (h:wH Lin Mo=true) (c:Mo.map (TO.aa8 (C.ren (cn (List.range' 1000 Lin.length) 1000)))=Lo) (e:v.abF.ren (cn (List.range' 1000 Lin.length) 1000)=x) :
  aax j b Lin L ρ v (gL Lo x):=⟨Mo,d,f,h,fun _=>⟨c,e⟩⟩
end
theorem yw {Li Li':List Own}(hb:Li.map Own.blk=Li'.map Own.blk) {k:Nat}{o:Own}(h:(inp Li').get k=some o):∃o',(inp Li).get k=some o'/\o'.blk=o.blk:=by
 rw[bE] at h ⊢;split at h
 ·rename_i b;rw[o6 b];have a:(Li'.map Own.blk)[k-1000]?=some o.blk:=by rw[adp,h];rfl
  rw[<-hb,adp] at a;cases e:Li[k-1000]? with
  | none=>rw[e] at a;cases a
  | some o'=>rw[e] at a;injection a with a;exact⟨o',rfl,a⟩
 ·cases h
theorem St.swap {F:aJ}{w:World}{Li Li':List Own}(hb:Li.map Own.blk=Li'.map Own.blk) (l:∀o∈Li',o.ok w) (a:St F (inp Li) w):St F (inp Li') w:=by
 refine⟨a.frz,fun k o h=>?_,fun k o g h e=>?_,fun k j o o' g h n e e'=>?_,a.glob⟩
 ·rw[bE] at h;split at h
  ·exact l o (acS h)
  ·cases h
 ·obtain⟨d,c,b⟩:=yw hb h;exact a.off k d g c (b.trans e)
 ·obtain⟨d,c,b⟩:=yw hb h;obtain⟨f,p,m⟩:=yw hb n;exact a.sep k j d f g c p (b.trans e) (m.trans e')
theorem tq {Li Li':List Own}(hb:Li.map Own.blk=Li'.map Own.blk) {b:Nat}(h:(inp Li').owns b):(inp Li).owns b:=by
 obtain⟨k,o,c,a⟩:=h;obtain⟨o',e,d⟩:=yw hb c;exact⟨k,o',e,d.trans a⟩
theorem Step.swap {F F':aJ}{w w':World}{Li Li' Lo Lo':List Own}(hb:Li.map Own.blk=Li'.map Own.blk) (d:Lo.map Own.blk=Lo'.map Own.blk) (h:Step F (inp Li) w F' (inp Lo) w'):Step F (inp Li') w F' (inp Lo') w' :=
 ⟨h.le,h.os,h.tape,h.output,h.size,fun b a c=>h.same b a fun q=>c (tq hb.symm q),fun b c=>(h.frz b c).imp id (Or.imp (tq hb.symm) id),fun b q=>(h.own b (tq d q)).imp (tq hb.symm) id⟩
theorem Rc {w:World}{g m cap t sz:Nat}{xs:List Value}(j:t≠0) (h:Own.ok w (.row (.slice (some ⟨g,0,none⟩) m cap) t sz m xs)):∃a,Own.ok w (.box g t (xs++a))/\xs.length+a.length=cap*sz/\m<=cap/\cap<=maxLen:=by
 obtain⟨q,f | ⟨p,d,b,e,r,l,n,o,k,c⟩⟩:=h
 ·cases f.1
 ·injection e with e1 e2 e3
  injection e1 with e1
  injection e1 with e1
  subst e1 e3;refine⟨b.toList.drop (m*sz),?_,?_,n,o⟩
  ·show w.heap[g]?=some (rm t _);rw[ja j,l,<-c,List.take_append_drop]
  ·rw[<-c,<-yo,List.take_append_drop,Array.length_toList,k]
theorem Rf {w:World}{g m cap t sz:Nat}{b a:List Value}(e:t≠0) (c:b.length=m*sz) (j:m<=cap) (d:cap<=maxLen) (f:b.length+a.length=cap*sz) (h:Own.ok w (.box g t (b++a))):Own.ok w (.row (.slice (some ⟨g,0,none⟩) m cap) t sz m b):=by
 have h:w.heap[g]?=some (rm t (b++a)):=h;rw[ja e] at h;refine⟨c,.inr ⟨g,cap,_,rfl,adg _,h,j,d,by simpa using f,?_⟩⟩;simp[<-c]
theorem aK.split {F:aJ}{L:Loc}:∀{cs ds:List C}{vs:List Value},aK F L (cs++ds) vs->∃us a,vs=us++a/\aK F L cs us/\aK F L ds a
 | [],ds,vs,h=>⟨[],vs,rfl,by simp only[aK],h⟩
 | c::cs,ds,vs,h=>by
  simp only[acW,aK] at h;obtain⟨v,f,rfl,d,b⟩:=h;obtain⟨us,a,rfl,j,e⟩:=aK.split b;exact⟨v::us,a,rfl,by simp only[aK];exact⟨_,_,rfl,d,j⟩,e⟩
theorem aT.flat {F:aJ}{L:Loc}{sz:Nat}:∀{els:List (List C)}{xs:List Value},aT F sz els xs->aK F L els.flatten xs/\xs.length=els.length*sz
 | [],xs,h=>by
  simp only[aT] at h;subst h;exact⟨by simp only[List.flatten_nil,aK],by simp⟩
 | es::l,xs,h=>by
  simp only[aT] at h;obtain⟨vs,d,rfl,b,j,f,e⟩:=h;obtain⟨c,a⟩:=aT.flat (L:=L) e;refine⟨by rw[List.flatten_cons];exact f.lift.append c,?_⟩;rw[yo,b,a,xo,Nat.add_mul];omega
theorem aT.of_flat {F:aJ}{L:Loc}{sz:Nat}:∀{els:List (List C)}{xs:List Value},(∀es∈els,es.length=sz/\eP es=true/\gJ es=true)->aK F L els.flatten xs->aT F sz els xs
 | [],xs,a,h=>by
  simp only[List.flatten_nil,aK] at h;simp only[aT];exact h
 | es::l,xs,a,h=>by
  rw[List.flatten_cons] at h;obtain⟨us,k,rfl,b,c⟩:=aK.split h;obtain⟨j,d,f⟩:=a es (by simp);simp only[aT];exact⟨us,k,rfl,by rw[b.len,j],d,jb f b,aT.of_flat (fun e m=>a e (by simp[m])) c⟩
theorem Cg {F:aJ}{L:Loc}:∀(vs:List Value),aK F L (List.replicate vs.length .any) vs
 | []=>by simp only[acV,List.replicate_zero,aK]
 | v::vs=>by
  simp only[xo,adB,aK,Rel];exact⟨v,vs,rfl,trivial,Cg vs⟩
def tX (k sz:Nat):C->C
 | .elr a j off=>match Nat.beq a k with | true=>.own a (j*sz+off) | false=>.elr a j off
 | c=>c
def Ab:TO->Bool
 | .box _ cs=>gJ cs
 | .win _ _ _ _=>false
 | _=>true
theorem J8 {F:aJ}{L L':Loc}:∀{o:TO}{p:Own},Ab o=true->dW F L o p->dW F L' o p
 | .box t cs,.box g b vs,a,r=>⟨r.1,jb a r.2⟩
 | .row t sz els,.row v b c n xs,_,r=>r
 | .box _ _,.row ..,_,r=>r.elim
 | .row ..,.box ..,_,r=>r.elim
 | .map _,.row ..,_,r=>r.elim
 | .map es,.box g b vs,_,r=>r
 | .win ..,.row ..,_,r=>r.elim
 | .win ..,.box ..,a,r=>by simp[Ab] at a
theorem Ad {F:aJ}{LA:List Own}{A:List TO}{o c:Own}{x d:TO}(e:LA.length=A.length) (j:∀y∈A,Ab y=true) (h:ep F (inp (LA++[o])) (jQ (A++[x]))) (m:dW F (inp (LA++[c])) d c) :
  ep F (inp (LA++[c])) (jQ (A++[d])):=by
 intro k;have a:=h k;rw[dh,bE] at a ⊢;split
 ·rename_i f;rw[o6 f,o6 f] at a
  by_cases b:k-1000<A.length
  ·rw[acY b,acY (by omega)] at a ⊢;rw[w8 b,w8 (by omega:k-1000<LA.length)] at a ⊢;exact J8 (j _ (List.getElem_mem _)) a
  ·by_cases l:k-1000=A.length
   ·rw[ac7 (by omega),ac7 (by omega),l,e];simp only[e,Nat.sub_self,ac6];exact m
   ·rw[ac3 (by simp;omega),ac3 (by simp;omega)];trivial
 ·trivial
theorem rZ {LB:List Own}{o b p:Own}{k:Nat}(h:(inp (LB++[b])).get k=some p):(inp (LB++[o])).get k=some p\/p=b:=by
 rw[bE] at h ⊢;split at h
 ·rename_i c;rw[o6 c]
  by_cases a:k-1000<LB.length
  ·rw[acY a] at h ⊢;exact .inl h
  ·by_cases d:k-1000=LB.length
   ·rw[ac7 (by omega),d] at h;simp only[Nat.sub_self,ac6,w7] at h;exact .inr h.symm
   ·rw[ac3 (by simp;omega)] at h;cases h
 ·cases h
theorem St.acw {F:aJ}{w:World}{LB:List Own}{o:Own}{t sz:Nat}(a:St F (inp (LB++[o])) w):St F (inp (LB++[.row (.slice none 0 0) t sz 0 []])) w:=by
 refine⟨a.frz,fun k p h=>?_,fun k p g h e=>?_,fun k d p c g h b e e'=>?_,a.glob⟩
 ·rcases rZ (o:=o) h with h | rfl
  ·exact a.own k p h
  ·exact World.ownsRow_nil w 0 t sz
 ·rcases rZ (o:=o) h with h | rfl
  ·exact a.off k p g h e
  ·cases e
 ·rcases rZ (o:=o) h with h | rfl
  ·rcases rZ (o:=o) b with b | rfl
   ·exact a.sep k d p c g h b e e'
   ·cases e'
  ·cases e
theorem Step.acw {F F':aJ}{w w':World}{L:Loc}{LB:List Own}{o:Own}{t sz:Nat}(h:Step F L w F' (inp (LB++[o])) w'):Step F L w F' (inp (LB++[.row (.slice none 0 0) t sz 0 []])) w' :=
 ⟨h.le,h.os,h.tape,h.output,h.size,h.same,h.frz,fun b ⟨k,p,a,c⟩=>by
  rcases rZ (o:=o) a with a | rfl
  ·exact h.own b ⟨k,p,a,c⟩
  ·cases c⟩
theorem CallsTX.elem {P:Program}{f:Nat}{args:List C}{A:List TO}{t sz:Nat}{els:List (List C)}{R:Nat->List TO->C->Prop}{R':List TO->C->Prop}{Pp:Value->Prop}(he:n9 P f) (ae:Om t=true) (hA:∀o∈A,Ab o=true) (bz:∀o∈A,∃t cs,o=.box t cs)
  (aw:∀c∈args,(∃j off,c=.elr (1000+A.length) j off)\/(c.kill (1000+A.length)=c/\tX (1000+A.length) sz c=c)) (cw:∃j off,.elr (1000+A.length) j off∈args)
  (h:∀m,CallsTX P f (args.map (tX (1000+A.length) sz)) (A++[.box t (els.flatten++List.replicate m .any)]) (R m) Pp)
  (hR:∀m Mo c,R m Mo c->∃A' b,Mo=A'++[.box t (b.flatten++List.replicate m .any)]/\A'.length=A.length/\b.length=els.length/\(∀es∈b,es.length=sz/\eP es=true/\gJ es=true)/\(∀o∈A',Ab o=true) /\
   (∀(F:aJ) (L L':Loc) v,Rel F L c v->Rel F L' c v)/\R' (A'++[.row t sz b]) c):pQ P f args (A++[.row t sz els]) R' Pp:=by
 have ht:t≠0:=by
  intro e;subst e;cases ae
 have cd:t<1048576:=by
  simp only[Om] at ae;split at ae
  ·cases ae
  ·have:=ac8 ae;omega
 refine⟨fun F Li vs hl av hr=>?_⟩;obtain⟨LA,o,rfl⟩:∃LA o,Li=LA++[o]:=by
  have hn:Li≠[]:=by intro e;rw[e] at hl;simp at hl
  exact⟨Li.dropLast,Li.getLast hn,(List.dropLast_concat_getLast hn).symm⟩
 have u:LA.length=A.length:=by simpa using hl
 have x:∀o,(inp (LA++[o])).get (1000+A.length)=some o:=fun o=>by
  rw[bE,o6 (by omega),show 1000+A.length-1000=A.length by omega,ac7 (by omega),u];simp
 have l:=av (1000+A.length);rw[x,dh,o6 (by omega),show 1000+A.length-1000=A.length by omega,ac7 (by omega)] at l;simp only[Nat.sub_self,ac6] at l;cases o with
 | box g t' cs=>exact l.elim
 | row v0 t' ds n xs =>
  obtain⟨rfl,rfl,hn,cp,ao⟩:=l;obtain⟨j,off,hm⟩:=cw;obtain⟨i,hi⟩:=List.getElem?_of_mem hm;obtain⟨bk,cl⟩:=kV.1 hr;have bp:i<vs.length:=by rw[bk];exact(acP.1 hi).1
  have ab:=cl i _ _ hi (w8 bp);simp only[Rel] at ab;obtain⟨ad,t2,ca,n2,c2,bv,dB,p⟩:=ab;rw[x] at p;injection p with p
  injection p with e1 e2 e3 e4 e5
  subst e1 e2 e3 e4 e5;refine⟨he,fun F G L v cb r=>⟨iN.abM _ _ _ _ cb r.1,r.2⟩,fun w hs=>?_⟩;have bc:Own.ok w (.row (.slice (some ad) n c2) t sz n xs):=hs.own _ _ (x _);have cr:∃g,ad=⟨g,0,none⟩:=by
   obtain⟨z,h2 | ⟨g,cap,dk,e,_⟩⟩:=id bc
   ·cases h2.1
   ·injection e with e1 e2 e3
    injection e1 with e1
    exact⟨g,e1⟩
  obtain⟨g,rfl⟩:=cr;obtain⟨a,aE,ce,cf,bD⟩:=Rc ht bc;obtain⟨q1,q2⟩:=aT.flat (L:=inp (LA++[.box g t (xs++a)])) ao;have ac:(LA++[Own.row (.slice (some ⟨g,0,none⟩) n c2) t sz n xs]).map Own.blk=(LA++[Own.box g t (xs++a)]).map Own.blk:=by simp[Own.blk,Value.ownBlock]
  have co:St F (inp (LA++[.box g t (xs++a)])) w:=St.swap ac (fun o l=>by
   rcases acN.1 l with l | l
   ·obtain⟨i,hi⟩:=List.getElem?_of_mem l;have q:=(acP.1 hi).1;exact hs.own (1000+i) o (by rw[bE,o6 (by omega),show 1000+i-1000=i by omega,acY q];exact hi)
   ·rw[adr.1 l];exact aE) hs
  have ba:ep F (inp (LA++[.box g t (xs++a)])) (jQ (A++[.box t (els.flatten++List.replicate a.length .any)])):=Ad u hA av ⟨⟨cd,.inl rfl,ht⟩,q1.append (Cg a)⟩;have bB:aK F (inp (LA++[.box g t (xs++a)])) (args.map (tX (1000+A.length) sz)) vs:=by
   refine aK.map (fun c hc v hv=>?_) hr;rcases aw c hc with⟨j,off,rfl⟩ | ⟨k1,k2⟩
   ·simp only[Rel] at hv;obtain⟨ad,t2,ca,n2,dg,bv,rfl,am⟩:=hv;rw[x] at am;injection am with am
    injection am with e1 e2 e3 e4 e5
    injection e1 with e1 e6 e7
    injection e1 with e1
    subst e1 e3;have:Nat.beq (1000+A.length) (1000+A.length)=true:=Nat.beq_refl _;simp only[tX,this,Rel];exact⟨g,t,_,x _,by rw[cZ,Nat.zero_add]⟩
   ·rw[k2,<-k1];refine Rel.mp (lZ (k:=1000+A.length) (fun g t cs e=>by rw[x] at e;cases e) (fun j hj o l=>?_) (aJ.le_refl F)) 3 hv;refine⟨o,?_,Own.abf o⟩;rw[bE] at l ⊢;split at l
    ·rename_i z;rw[o6 z]
     by_cases q:j-1000<LA.length
     ·rw[acY q] at l ⊢;exact l
     ·rw[ac3 (by simp;omega)] at l;cases l
    ·cases l
  refine Calls.mono (((h a.length).out F _ vs (by simp[u]) ba bB).run w co) ?_;rintro e w' (⟨v,F',Lo,rfl,g1,g2,Mo,c',q1,q2,q3,q4,q5⟩ | ⟨v,ch,F',Lo,rfl,hc,g1,g2,g3,g4,g5⟩)
  ·obtain⟨A',b,rfl,l1,l2,p1,p2,p3,p4⟩:=hR _ _ _ q5;obtain⟨LB,o',rfl⟩:∃LB o,Lo=LB++[o]:=by
    have hn:Lo≠[]:=by intro e;rw[e] at q1;simp at q1
    exact⟨Lo.dropLast,Lo.getLast hn,(List.dropLast_concat_getLast hn).symm⟩
   have s:LB.length=A'.length:=by simp at q1;omega
   have bo:∀o,(inp (LB++[o])).get (1000+A.length)=some o:=fun o=>by
    rw[bE,o6 (by omega),show 1000+A.length-1000=A.length by omega,ac7 (by omega),s,l1];simp
   obtain⟨cs',ar⟩:=q4 A.length g t (xs++a) (by rw[ac7 (by omega),u];simp);rw[ac7 (by omega),s,l1] at ar;simp only[Nat.sub_self,ac6,w7] at ar;subst ar;have hk:=q2 (1000+A.length);rw[bo,dh,o6 (by omega),show 1000+A.length-1000=A.length by omega,ac7 (by omega),l1] at hk;simp only[Nat.sub_self,ac6] at hk;obtain⟨_,hk⟩:=hk;obtain⟨us,ws,rfl,r1,r2⟩:=aK.split hk;have aa:=aT.of_flat p1 r1;have bl:=(aT.flat (L:=inp []) aa).2;have cx:ws.length=a.length:=by rw[r2.len,adw]
   have da:=(aT.flat (L:=inp []) ao).2;have bi:n=b.length:=by omega
   have ay:us.length+ws.length=c2*sz:=by rw[bl,cx,l2,<-da];exact ce
   have bm:Own.ok w' (.row (.slice (some ⟨g,0,none⟩) n c2) t sz n us):=Rf ht (by rw[bl,bi]) cf bD ay (g1.own _ _ (bo _));have y:(LB++[Own.box g t (us++ws)]).map Own.blk=(LB++[Own.row (.slice (some ⟨g,0,none⟩) n c2) t sz n us]).map Own.blk:=by simp[Own.blk,Value.ownBlock]
   have az:dW F' (inp (LB++[.row (.slice (some ⟨g,0,none⟩) n c2) t sz n us])) (.row t sz b) (.row (.slice (some ⟨g,0,none⟩) n c2) t sz n us):=⟨rfl,rfl,bi,⟨cp.1,_,_,rfl,fun e=>by cases e⟩,aa⟩;refine .inl ⟨v,F',LB++[.row (.slice (some ⟨g,0,none⟩) n c2) t sz n us],rfl,St.swap y (fun o l=>?_) g1,Step.swap ac.symm y g2,⟨A'++[.row t sz b],c',by simp[s],Ad s p2 q2 az,p3 _ _ _ _ q3,fun i g0 t0 ag d=>?_,p4⟩,by simp[s,l1,u],fun i o0 d=>?_⟩
   ·rcases acN.1 l with l | l
    ·obtain⟨i,hi⟩:=List.getElem?_of_mem l;have q:=(acP.1 hi).1;exact g1.own (1000+i) o (by rw[bE,o6 (by omega),show 1000+i-1000=i by omega,acY q];exact hi)
    ·rw[adr.1 l];exact bm
   ·by_cases q:i<A.length
    ·rw[acY (by omega)] at d;obtain⟨al,z⟩:=q4 i g0 t0 ag (by rw[acY (by omega)];exact d);rw[acY (by omega)] at z ⊢;exact⟨al,z⟩
    ·exfalso;rw[ac7 (by omega)] at d
     by_cases he:i=A.length
     ·rw[he,u] at d;simp at d
     ·rw[ac3 (by simp;omega)] at d;cases d
   ·by_cases q:i<A.length
    ·rw[acY (by omega)] at d;obtain⟨tb,dl,db⟩:=bz A[i] (List.getElem_mem _);have ab:=av (1000+i);rw[bE,dh,o6 (by omega),o6 (by omega),show 1000+i-1000=i by omega,acY (by omega),acY (by omega),d,w8 q,db] at ab;cases o0 with
     | row=>exact ab.elim
     | box g0 t0 ag =>
      obtain⟨al,z⟩:=q4 i g0 t0 ag (by rw[acY (by omega)];exact d);rw[acY (by omega)] at z ⊢;exact⟨_,z,rfl,rfl⟩
    ·rw[ac7 (by omega)] at d
     by_cases he:i=A.length
     ·rw[he,u] at d;simp at d;subst d;exact⟨.row (.slice (some ⟨g,0,none⟩) n c2) t sz n us,by rw[he,ac7 (by omega),s,l1];simp,rfl,rfl,rfl⟩
     ·rw[ac3 (by simp;omega)] at d;cases d
  ·obtain⟨LB,o',rfl⟩:∃LB o,Lo=LB++[o]:=by
    have hn:Lo≠[]:=by intro e;rw[e] at g3;simp at g3
    exact⟨Lo.dropLast,Lo.getLast hn,(List.dropLast_concat_getLast hn).symm⟩
   have s:LB.length=LA.length:=by simpa using g3
   refine .inr ⟨v,ch,F',LB++[.row (.slice none 0 0) t sz 0 []],rfl,hc,St.acw g1,Step.acw (Step.swap ac.symm rfl g2),by simp[s],fun i g0 t0 ag d=>?_,g5⟩
   by_cases q:i<A.length
   ·rw[acY (by omega)] at d;obtain⟨al,z⟩:=g4 i g0 t0 ag (by rw[acY (by omega)];exact d);rw[acY (by omega)] at z ⊢;exact⟨al,z⟩
   ·exfalso;rw[ac7 (by omega)] at d
    by_cases he:i=A.length
    ·rw[he,u] at d;simp at d
    ·rw[ac3 (by simp;omega)] at d;cases d
theorem pq {P:Program}{L:TL}{ρ:bg}(ks:List Nat) {PS:qX}{Pp:Value->Prop}{f:Nat}{args a:List C}{K:TL->bg->C->Prop}{R:List TO->C->Prop}{Lin Lin':List TO}(h:pQ P f a Lin' R Pp) (j:L.sub ks=some Lin) (b:bR ks=true)
  (e:(args.map fun c=>c.abk.ren (cn ks 1000))=a) (l:Lin.map (TO.aa8 (C.ren (cn ks 1000)))=Lin') (d:∀v,Pp v->PS.ps v)
  (k:∀v Mo,R Mo v->Wf v->(∀o∈Mo,o.Wf)->ks.length=Mo.length/\K ((L.aa7 ks).puts ks (Mo.map (TO.aa8 (C.ren (bF ks))))) ρ (v.ren (bF ks)).slt) (m:mF L ks PS.hb=true:=by rfl):qo P PS f args L ρ K:=by
 subst e l;exact .inpl ks Lin R Pp j b m h d k
def vw (l a:List TO):Prop:=l.length=a.length/\∀(i:Nat) (o o':TO),l[i]?=some o->a[i]?=some o'->∀(F:aJ) (L:Loc) (p:Own),dW F L o p->dW F L o' p
theorem vw.refl (l:List TO):vw l l:=⟨rfl,fun i o o' b a F L p r=>by rw[b] at a;injection a with a;subst a;exact r⟩
theorem vw.cons {o o':TO}{l e:List TO}(h:∀(F:aJ) (L:Loc) (p:Own),dW F L o p->dW F L o' p) (k:vw l e):vw (o::l) (o'::e) :=
 ⟨by simp[k.1],fun i a b c d=>by
  cases i with
  | zero=>simp only[ac6,w7] at c d;subst c d;exact h
  | succ i=>exact k.2 i a b (by simpa using c) (by simpa using d)⟩
theorem vw.same {o:TO}{l a:List TO}(k:vw l a):vw (o::l) (o::a):=.cons (fun _ _ _ r=>r) k
theorem vw.tl {F:aJ}{Li:List Own}{l d:List TO}(h:vw l d) (r:ep F (inp Li) (jQ l)):ep F (inp Li) (jQ d):=by
 intro k;have b:=r k;rw[dh,bE] at b ⊢;split
 ·rename_i f;rw[o6 f,o6 f] at b
  by_cases c:k-1000<l.length
  ·have a:k-1000<d.length:=by rw[<-h.1];exact c
   rw[w8 c] at b;rw[w8 a];cases e:Li[k-1000]? with
   | none=>rw[e] at b;exact b.elim
   | some p =>
    rw[e] at b;exact h.2 _ _ _ (w8 c) (w8 a) _ _ _ b
  ·have a:¬k-1000<d.length:=by rw[<-h.1];exact c
   rw[ac3 (by omega)] at b;rw[ac3 (by omega)];cases e:Li[k-1000]? with
   | none=>trivial
   | some p=>rw[e] at b;exact b.elim
 ·trivial
theorem iN.view {Li:List Own}{R R':List TO->C->Prop}(a:∀Mo c,R Mo c->∃Mo',vw Mo Mo'/\R' Mo' c) {F:aJ}{Lo:List Own}{v:Value}(h:iN Li R F Lo v):iN Li R' F Lo v:=by
 obtain⟨Mo,c,e,d,j,f,l⟩:=h;obtain⟨Mo',b,k⟩:=a Mo c l;exact⟨Mo',c,by rw[<-b.1,e],b.tl d,j,f,k⟩
theorem CallsTX.view {P:Program}{f:Nat}{args:List C}{Lin Lin':List TO}{R R':List TO->C->Prop}{Pp Pp':Value->Prop}(h:CallsTX P f args Lin R Pp) (b:vw Lin' Lin) (a:∀Mo c,R Mo c->∃Mo',vw Mo Mo'/\R' Mo' c) (t:∀v,Pp v->Pp' v) :
  CallsTX P f args Lin' R' Pp' :=
 ⟨fun F Li vs x n z=>let q:=h.out F Li vs (by rw[x,b.1]) (b.tl n) z
  ⟨q.ent,fun F G L v m r=>iN.abM _ _ _ _ m r,fun w u=>(q.run w u).mono fun _ _ k=>k.imp (fun⟨v,F',Lo,e,j,d,l⟩=>⟨v,F',Lo,e,j,d,iN.view a l⟩) fun⟨v,o,F',Lo,e,j,d,l,p,s,y⟩=>⟨v,o,F',Lo,e,j,d,l,p,s,t v y⟩⟩⟩
theorem CallsTX.imp {P:Program}{f:Nat}{args:List C}{Lin:List TO}{R R':List TO->C->Prop}{Pp Pp':Value->Prop}(h:CallsTX P f args Lin R Pp) (a:∀Mo c,R Mo c->R' Mo c) (b:∀v,Pp v->Pp' v):CallsTX P f args Lin R' Pp' :=
 h.view (vw.refl _) (fun Mo c r=>⟨Mo,vw.refl _,a Mo c r⟩) b
def cW (l:List C):Prop:=∀c∈l,c.pure=true\/c=.any
theorem cW.rel {F:aJ}{L L':Loc}:∀{l:List C}{vs:List Value},cW l->aK F L l vs->aK F L' l vs
 | [],vs,_,h=>by simp only[aK] at h ⊢;exact h
 | c::l,vs,hi,h=>by
  simp only[aK] at h ⊢;obtain⟨v,a,rfl,f,b⟩:=h;refine⟨v,a,rfl,?_,cW.rel (fun c j=>hi c (by simp[j])) b⟩;rcases hi c (by simp) with d | rfl
  ·have:=jb (L':=L') (cs:=[c]) (vs:=[v]) (by simp only[gJ,d]) (by simp only[aK];exact⟨v,[],rfl,f,rfl⟩);simp only[aK] at this;obtain⟨u,us,e,k,_⟩:=this;injection e with e
   rw[e];exact k
  ·simp only[Rel]
theorem cW.append {l m:List C}(h:cW l) (k:cW m):cW (l++m):=fun c a=>by
 rcases acN.1 a with a | a
 ·exact h c a
 ·exact k c a
theorem cW.set {l:List C}{o:Nat}{c:C}(h:cW l) (b:c.pure=true):cW (l.set o c):=fun d a=>by
 rcases List.mem_or_eq_of_mem_set a with a | rfl
 ·exact h d a
 ·exact .inl b
theorem cW.take {l:List C}(h:cW l) (n:Nat):cW (l.take n):=fun c a=>h c (List.mem_of_mem_take a)
theorem cW.drop {l:List C}(h:cW l) (n:Nat):cW (l.drop n):=fun c a=>h c (List.mem_of_mem_drop a)
theorem aW {l:List C}(h:gJ l=true):cW l:=fun c a=>.inl (qm.1 h c a)
theorem Ch (n:Nat):cW (List.replicate n .any):=fun c a=>.inr (List.eq_of_mem_replicate a)
theorem oP {t:TypeId}{pre cs post pre' cs' post':List C}(h:pre++(cs++post)=pre'++(cs'++post')) (u:cW pre') (c:cW post') (F:aJ) (L:Loc) (p:Own) (r:dW F L (.win t pre cs post) p):dW F L (.win t pre' cs' post') p:=by
 cases p with
 | row=>exact r.elim
 | box g w vs =>
  obtain⟨q,v1,v,v3,rfl,o,k,n⟩:=r;have b:aK F L (pre++(cs++post)) (v1++(v++v3)):=o.lift.append (k.append n.lift);rw[h] at b;obtain⟨m,f,e,s,a⟩:=aK.split b;obtain⟨j,d,rfl,a,l⟩:=aK.split a;exact⟨q,m,j,d,e,u.rel s,a,c.rel l⟩
theorem yx {t:TypeId}{cs pre' cs' post':List C}(h:cs=pre'++(cs'++post')) (n:cW pre') (c:cW post') (F:aJ) (L:Loc) (p:Own) (r:dW F L (.box t cs) p):dW F L (.win t pre' cs' post') p:=by
 cases p with
 | row=>exact r.elim
 | box g o vs =>
  obtain⟨l,b⟩:=r;rw[h] at b;obtain⟨k,e,rfl,m,a⟩:=aK.split b;obtain⟨f,d,rfl,a,j⟩:=aK.split a;exact⟨l,k,f,d,rfl,n.rel m,a,c.rel j⟩
theorem Dt {t:TypeId}{cs pre' cs' post':List C}(h:cs=pre'++(cs'++post')) (F:aJ) (L:Loc) (p:Own) (r:dW F L (.win t pre' cs' post') p):dW F L (.box t cs) p:=by
 cases p with
 | row=>exact r.elim
 | box g f vs =>
  obtain⟨d,v1,e,v3,rfl,c,a,b⟩:=r;subst h;exact⟨d,c.lift.append (a.append b.lift)⟩
theorem xw {sz:Nat}:∀{l:List (List C)},(∀es∈l,es.length=sz)->l.flatten.length=l.length*sz
 | [],_=>by simp
 | es::l,h=>by
  rw[List.flatten_cons,yo,h es (by simp),xw (fun e a=>h e (by simp[a])),xo,Nat.add_mul];omega
theorem Ae {l:List (List C)}{j:Nat}{es:List C}(h:l[j]?=some es):l.flatten=(l.take j).flatten++(es++(l.drop (j+1)).flatten):=by
 have a:=(acP.1 h).1;have b:=(acP.1 h).2
 conv=>lhs;rw[<-List.take_append_drop j l,List.flatten_append,adG a,List.flatten_cons,b]
theorem Fl {l:List (List C)}{j:Nat}{es es':List C}(h:l[j]?=some es):(l.set j es').flatten=(l.take j).flatten++(es'++(l.drop (j+1)).flatten):=by
 have a:=(acP.1 h).1;have b:(l.set j es')[j]?=some es':=by simp[a]
 rw[Ae b,List.take_set_of_le (ac4 j),List.drop_set_of_lt (by omega)]
theorem CallsTX.acG {P:Program}{f:Nat}{fi ca:List C}{n:C}{A:TO}{t sz j:Nat}{els:List (List C)}{es:List C}{R:TO->List C->C->Prop}{Pp:Value->Prop}(d:n9 P f) (ab:Om t=true) (hA:Ab A=true) (z:∃t cs,A=.box t cs)
  (b:∀c∈fi++n::ca,c.kill 1001=c/\tX 1001 sz c=c) (hj:els[j]?=some es) (k:∀e∈els,e.length=sz/\eP e=true/\gJ e=true)
  (h:∀pre post,cW pre->cW post->CallsTX P f (fi++n::.own 1001 pre.length::ca) [A,.win t pre es post] (fun Mo c=>∃A' es',Mo=[A',.win t pre es' post]/\R A' es' c) Pp)
  (hR:∀A' es' c,R A' es' c->es'.length=sz/\eP es'=true/\gJ es'=true/\Ab A'=true/\∀(F:aJ) (L L':Loc) v,Rel F L c v->Rel F L' c v) :
  pQ P f (fi++n::.elr 1001 j 0::ca) [A,.row t sz els] (fun Mo c=>∃A' es',Mo=[A',.row t sz (els.set j es')]/\R A' es' c) Pp:=by
 have ao:=(acP.1 hj).1;have x:(els.take j).flatten.length=j*sz:=by
  rw[xw (sz:=sz) (fun e d=>(k e (List.mem_of_mem_take d)).1),ac2,Nat.min_eq_left (by omega)]
 have r:∀l:List (List C),(∀e∈l,e∈els)->cW l.flatten:=fun l hl c a=>by
  obtain⟨e,d,a⟩:=List.mem_flatten.1 a;exact .inl (qm.1 (k e (hl e d)).2.2 c a)
 have w:=r (els.take j) fun e d=>List.mem_of_mem_take d;have q:∀m,cW ((els.drop (j+1)).flatten++List.replicate m .any):=fun m=>(r _ fun e d=>List.mem_of_mem_drop d).append (Ch m);have u:(fi++n::C.elr 1001 j 0::ca).map (tX 1001 sz)=fi++n::.own 1001 (els.take j).flatten.length::ca:=by
  have p:∀l:List C,(∀c∈l,tX 1001 sz c=c)->l.map (tX 1001 sz)=l:=fun l hl=>by
   conv=>rhs;rw[<-List.map_id l]
   exact adJ fun c a=>hl c a
  rw[adm,acU,acU,p fi (fun c a=>(b c (by simp[a])).2),p ca (fun c a=>(b c (by simp[a])).2),(b n (by simp)).2,x];rfl
 refine CallsTX.elem (A:=[A]) (R:=fun m Mo c=>∃A' es',Mo=[A',.box t ((els.set j es').flatten++List.replicate m .any)]/\R A' es' c) d ab (fun o s=>by rw[adr.1 s];exact hA) (fun o s=>by rw[adr.1 s];exact z) ?_ ⟨j,0,by simp⟩ (fun m=>?_) ?_
 ·intro c a;rcases acN.1 a with a | a
  ·exact .inr (b c (by simp[a]))
  ·rcases acQ.1 a with rfl | a
   ·exact .inr (b c (by simp))
   ·rcases acQ.1 a with rfl | a
    ·exact .inl ⟨j,0,rfl⟩
    ·exact .inr (b c (by simp[a]))
 ·show CallsTX P f ((fi++n::C.elr 1001 j 0::ca).map (tX 1001 sz)) _ _ Pp;rw[u];refine(h _ _ w (q m)).view (vw.same (vw.cons (yx (by rw[Ae hj];simp) w (q m)) (vw.refl []))) ?_ (fun _ h=>h);rintro Mo c ⟨A',es',rfl,y⟩;exact⟨_,vw.same (vw.cons (Dt rfl) (vw.refl [])),A',es',by rw[Fl hj];simp,y⟩
 ·rintro m Mo c ⟨A',es',rfl,y⟩;obtain⟨r1,r2,r3,r4,r5⟩:=hR A' es' c y;refine⟨[A'],els.set j es',rfl,rfl,by simp,fun e d=>?_,fun o s=>by rw[adr.1 s];exact r4,r5,A',es',rfl,y⟩;rcases List.mem_or_eq_of_mem_set d with d | rfl
  ·exact k e d
  ·exact⟨r1,r2,r3⟩
end Go.Fr.T
namespace Go.Fr.T
open Go Go.RowKit Go.Fr Go.Fr.Api
theorem Iv {l:List G}:xT (.st l)=.agg (nM (.st l)):=by simp only[xT,nM]
theorem r9 {a:Sort _}{p:a->Prop}{K:Prop}(h:∃x,p x) (H:∀x,p x->K):K:=h.elim H
theorem yD {a:Type}{l:List a}{k:Nat}{K:Prop}(h:k<l.length) (H:∀x,l[k]?=some x->x∈l->K):K:=H l[k] (w8 h) (List.getElem_mem h)
theorem eZ {a:Type}{l:List a}{k:Nat}{K:Prop}(h:k<l.length) (H:∀x,l[k]?=some x->x∈l->l.drop k=x::l.drop (k+1)->K):K:=H l[k] (w8 h) (List.getElem_mem h) (adG h)
section
variable {P:Program}{L:TL}{ρ:bg}
def Such (p:Prop):List TO->C->Prop:=fun Mo v=>Mo=[]/\∃b,v=.bool b/\(b=true->p)
theorem pW {f:Nat}{args a:List C}{K:TL->bg->C->Prop}{p:Prop}(h:CallsT P f a [] (Such p)) (e:(args.map fun c=>c.abk.ren (cn [] 1000))=a) (k:∀b:Bool,(b=true->p)->K L ρ (.bool b)):nA P f args L ρ K:=by
 subst e;exact .mk ⟨[],[],[],L,[],_,.inl rfl,rfl,rfl,rfl,rfl,rfl,h,fun v Mo ⟨j,b,l,d⟩ m _=>by subst j l;exact⟨rfl,k b d⟩⟩
theorem UN {f:Nat}{args a:List C}{K:TL->bg->C->Prop}{d:Option Nat}{p:Prop}(h:CallsT P f a [] (Such p)) (j:(args.map fun c=>c.abk.ren (cn [] 1000))=a) (k:∀b:Bool,(b=true->p)->K L ρ (.bool b)):rM P f args L ρ d K:=by
 subst j;exact .frz _ h fun v Mo ⟨l,b,m,e⟩ n=>by subst l m;exact⟨rfl,k b e⟩
theorem iR {Lin:List TO}{v:C}{p:Prop}(b:Bool) (hb:aY Lin (List.range' 1000 Lin.length) []=true) (e:v.abF.ren (cn [] 1000)=.bool b) (a:b=true->p):o7 Lin L v (Such p) :=
 ⟨[],[],L,v,v,[],rfl,.inl ⟨rfl,rfl⟩,rfl,rfl,hb,fun _=>⟨rfl,b,e,a⟩⟩
end
end Go.Fr.T
namespace Go.Fr.T
open Go Go.RowKit Go.Fr
theorem CallsT.give {P:Program}{f:Nat}{args:List C}{t sz:Nat}{els:List (List C)}(h:CallsT P f args [] (gL [.row t sz els] (.rw 1000))):CallsT P f args [] (gL [] (.sl els)):=by
 refine⟨fun F Li vs z p s=>?_⟩;obtain rfl:Li=[]:=List.length_eq_zero_iff.1 z;have q:=h.out F [] vs rfl p s;refine⟨q.ent,iN.abM,fun w y=>Calls.mono (q.run w y) ?_⟩;rintro e w' ⟨v,F',Lo,rfl,l,m,Mo,c,q1,u,r,q4,rfl,rfl⟩;have n:aN (inp Lo) (fun _=>.v undef) (⟨#[],[]⟩:Act):=by
  refine⟨fun j=>?_,fun j k off e=>(by cases e),fun j a i e=>(by cases e)⟩;simp[conc]
 obtain⟨F2,L2,x,g2,g3,g4,g5⟩:=uK (G:=fun _=>none) (k:=1000) l n (τ:=fun _=>.any) ⟨u,fun j=>trivial,fun k g t e=>(by cases e),l.glob⟩ (show(jQ [TO.row t sz els]).get 1000=some (.row t sz els) from rfl);refine⟨v,F2,[],rfl,x.part (fun k o e=>by cases e),?_,[],.sl els,rfl,fun k=>trivial,?_,fun i g t cs e=>(by cases e),rfl,rfl⟩
 ·have d:=m.trans g3;exact⟨d.le,d.os,d.tape,d.output,d.size,d.same,d.frz,fun b ⟨k,o,e,_⟩=>(by cases e)⟩
 ·have:=g5 r;have e:(C.rw 1000).frz 1000 els=.sl els:=rfl;rw[e] at this;simp only[Rel] at this ⊢;exact this
end Go.Fr.T
namespace Go.Fr
open Go Go.RowKit
def Loc.abH (L L':Loc):Prop:=∃r:Nat->Nat,(∀k o,L'.get k=some o->L.get (r k)=some o\/∃t sz,o=.row (.slice none 0 0) t sz 0 [])/\∀k a,(L'.get k).isSome=true->(L'.get a).isSome=true->r k=r a->k=a
theorem Cj {L L':Loc}(h:L.gives L'):L.abH L' :=
 ⟨id,fun k o e=>(lU h e).imp id fun h=>h.2,fun _ _ _ _ h=>h⟩
section
variable {F:aJ}{L:Loc}{w:World}
theorem St.abH {L':Loc}(a:St F L w) (h:L.abH L'):St F L' w:=by
 obtain⟨r,h,hi⟩:=h;refine⟨a.frz,fun k o e=>?_,fun k o g e hb=>?_,fun k f o o' g e e' hb b=>?_,a.glob⟩
 ·rcases h k o e with c | ⟨t,sz,rfl⟩
  ·exact a.own _ o c
  ·exact World.ownsRow_nil w 0 t sz
 ·rcases h k o e with c | ⟨t,sz,rfl⟩
  ·exact a.off _ o g c hb
  ·cases hb
 ·rcases h k o e with c | ⟨t,sz,rfl⟩
  ·rcases h f o' e' with d | ⟨l,j,rfl⟩
   ·exact hi k f (by rw[e];rfl) (by rw[e'];rfl) (a.sep _ _ o o' g c d hb b)
   ·cases b
  ·cases hb
theorem xH {L':Loc}(h:L.abH L'):Step F L w F L' w:=by
 obtain⟨r,h,hi⟩:=h;exact⟨aJ.le_refl F,rfl,rfl,rfl,ac4 _,fun _ _ _=>rfl,fun b h=>.inl h,fun b ⟨k,o,e,hb⟩=>by
  rcases h k o e with a | ⟨t,sz,rfl⟩
  ·exact .inl ⟨_,o,a,hb⟩
  ·cases hb⟩
end
structure Iz (body:aJ->Loc->Env->dP->Prop) (asg:List Nat) (F:aJ) (L:Loc) (ρ:Env):Prop where
 out:∃(σ:Type) (x0:σ) (Inv:σ->aJ->Prop) (ls:List Nat) (lv:σ->List Value) (Lf:σ->Loc) (μ:σ->Nat),
  Inv x0 F/\holds ls ((lv x0).map .v) ρ/\L.abH (Lf x0)/\(∀x,L.keeps (Lf x)) /\
  ∀x F' jk,F.le F'->Inv x F'->Real F' (Lf x)->body F' (Lf x) (puts ls ((lv x).map .v) (iW asg jk ρ)) fun F'' L'' ρ'' =>
   ∃x',Inv x' F''/\holds ls ((lv x').map .v) ρ''/\L''.abH (Lf x')/\μ x'<μ x
def iT (P:Program):aI->(Nat->dP)->dP->dP->dP
 | .skip,_,_,N,F,L,ρ=>N F L ρ
 | .reg d,_,_,N,F,L,ρ=>bH P d F L ρ N
 | .regD d,_,_,N,F,L,ρ=>bH P d F L ρ N
 | .regX ss,_,_,N,F,L,ρ=>(∀s∈ss,∀k,vn s=some k->L.get k=none)/\bO P (fun _ _ _=>False) (CR ss) ss F L ρ N
 | .seq a b,E,R,N,F,L,ρ=>iT P a E R (fun F L ρ=>iT P b E R N F L ρ) F L ρ
 | .cond c a b,E,R,N,F,L,ρ=>match ev ρ c with
  | .v (.bool t)=>yU t (iT P a E R N F L ρ) (iT P b E R N F L ρ)
  | _=>False
 | .block id c,E,R,N,F,L,ρ=>iT P c (fun j=>match Nat.beq j id with | true=>N | false=>E j) R N F L ρ
 | .loop asg c,E,R,_,F,L,ρ=>Iz (fun F L ρ K=>iT P c E R K F L ρ) asg F L ρ
 | .exit id,E,_,_,F,L,ρ=>E id F L ρ
 | .ret,_,R,_,F,L,ρ=>R F L ρ
section
variable {P:Program}{Q:Exit->Act->World->Prop}{K:dP}
theorem Fu {ss:List aB}{E:Nat->dP}{R N:dP}{F:aJ}{L:Loc}{ρ:Env}{a:Act}{w:World}:∀(ks:List Nat),St F L w->aN L ρ a->iT P (AY ks (.regD ss)) E R N F L ρ ->
  ∃F' L' ρ',St F' L' w/\aN L' ρ' a/\Step F L w F' L' w/\bH P ss F' L' ρ' N
 | [],c,d,h=>⟨F,L,ρ,c,d,Step.refl _ _ _,by simpa only[AY,iT] using h⟩
 | k::l,c,d,h=>by
  simp only[AY,iT] at h;have j:bH P ((k::l).map aB.frz++[]) F L ρ (fun F L ρ=>bH P ss F L ρ N):=by simpa only[acU,acT] using h
  obtain⟨F1,L1,b,m,f,n,e⟩:=vI (k::l) c d j;simp only[bH] at e;exact⟨F1,L1,b,m,f,n,e⟩
theorem qH {A:cE}:∀(c:Code) {sc:aI},low P A c=some sc->∀{E:Nat->dP}{R N:dP}{F:aJ}{L:Loc}{ρ:Env}{a:Act}{w:World},St F L w->aN L ρ a->a.tmps.size=A.n ->
  iT P sc E R N F L ρ->c.wp P (QQ A.n F L w a (dN c) (fun _ _ _=>False) E R N) a w:=by
 intro c
 induction c with
 | skip =>
  intro sc b E R N F L ρ a w s o q d;simp only[low,w7] at b;subst b;exact wp_skip ⟨F,L,ρ,s,o,q,rfl,Step.refl _ _ _,fun _ _=>rfl,d⟩
 | label l =>
  intro sc b E R N F L ρ a w s o q d;simp only[low,w7] at b;subst b;exact wp_label ⟨F,L,ρ,s,o,q,rfl,Step.refl _ _ _,fun _ _=>rfl,d⟩
 | exit id =>
  intro sc b E R N F L ρ a w s o q d;simp only[low,w7] at b;subst b;exact wp_exit ⟨F,L,ρ,s,o,q,rfl,Step.refl _ _ _,fun _ _=>rfl,d⟩
 | ret =>
  intro sc b E R N F L ρ a w s o q d;simp only[low,w7] at b;subst b;exact wp_ret ⟨F,L,ρ,s,o,q,rfl,Step.refl _ _ _,fun _ _=>rfl,d⟩
 | region r cy bi =>
  intro sc b E R N F L ρ a w s o q d;cases bi with
  | false =>
   simp only[low] at b;split at b
   case h_2=>cases b
   rename_i ss bA;injection b with b;subst b
   simp only[iT] at d;exact wp_region (o8 _ bA s o q d fun a' w' h=>h)
  | true =>
   simp only[low] at b;split at b
   case h_2=>cases b
   rename_i is cl ss h1 z;split at b
   case h_2 =>
    split at b
    case h_2=>cases b
    rename_i h3;injection b with b;subst b
    simp only[iT] at d;have h4:vh A.ord r=is:=by simp only[vh,h1]
    rw[h4] at z;exact rG z h3 s o q d.1 d.2 (fun a' w' h=>h) fun v ch a' w' F' L' _ _ _ _ _ _ h=>h.elim
   rename_i h0;split at b
   case h_2=>cases b
   rename_i h3;injection b with b;subst b
   obtain⟨F1,L1,ab,an,aw,aa,d⟩:=Fu _ s o d;have h4:vh A.ord r=is:=by simp only[vh,h1]
   rw[h4] at z;exact uy z h3 an aw q d fun a' w' h=>fH.after (asg1:=[]) aa rfl (fun _ _=>rfl) h (fun _ h=>s6 h List.not_mem_nil) (fun _ h=>h)
 | seq x y al am =>
  intro sc b E R N F L ρ a w s o q d;simp only[low] at b;split at b
  case h_2=>cases b
  rename_i h1 z;injection b with b;subst b
  simp only[iT] at d;refine wp_seq (wp_mono (al h1 s o q d) ?_);intro e p w1 m;cases e with
  | normal =>
   obtain⟨F1,L1,ab,g1,g2,g3,g4,g5,g6,g7⟩:=m;refine wp_mono (am z g1 g2 g3 g7) ?_;intro e2 a2 w2 ax;cases e2<;>first
    | exact fH.after g5 g4 g6 ax (fun j h=>acN.2 (.inl h)) (fun j h=>acN.2 (.inr h))
    | exact ax
    | exact(noPan ax).elim
  | exit id=>exact m.mono fun j h=>acN.2 (.inl h)
  | ret=>exact m.mono fun j h=>acN.2 (.inl h)
  | goto l=>exact m
  | panic c=>exact(noPan m).elim
  | outgrown=>exact m
 | cond c x y al am =>
  intro sc b E R N F L ρ a w s o q d;simp only[low] at b;split at b
  case h_2=>cases b
  rename_i h0 h1 z;injection b with b;subst b
  simp only[iT] at d;split at d
  case h_2=>exact d.elim
  rename_i t ht;have hc:a.eval c=.bool t:=by rw[aX h0 o,dc ht]
  refine wp_cond hc ?_;cases t
  ·simp only[yU] at d;refine wp_mono (am z s o q d) ?_;intro e p w1 m;cases e<;>first
    | exact m.mono fun j h=>acN.2 (.inr h)
    | exact(noPan m).elim
    | exact m
  ·simp only[yU] at d;refine wp_mono (al h1 s o q d) ?_;intro e p w1 m;cases e<;>first
    | exact m.mono fun j h=>acN.2 (.inl h)
    | exact(noPan m).elim
    | exact m
 | block id x ih =>
  intro sc b E R N F L ρ a w s o q d;simp only[low] at b;split at b
  case h_2=>cases b
  rename_i h1;injection b with b;subst b
  simp only[iT] at d;refine wp_block (wp_mono (ih h1 s o q d) ?_);intro e p w1 m;cases e with
  | exit j =>
   simp only[Exit.inBlock];simp only[QQ] at m
   by_cases hj:j=id
   ·subst hj;have hb:Nat.beq j j=true:=by simp
    rw[hb] at m;rw[o6 rfl];exact m
   ·have hb:Nat.beq j id=false:=by
     cases h:Nat.beq j id with
     | true=>exact s6 (vz h) hj
     | false=>rfl
    rw[hb] at m;rw[s8 hj];exact m
  | normal=>exact m
  | ret=>exact m
  | goto l=>exact m
  | panic c=>exact(noPan m).elim
  | outgrown=>exact m
 | loop x ih =>
  intro sc b E R N F L ρ a w s o q d;simp only[low] at b;split at b
  case h_2=>cases b
  rename_i sx h1;injection b with b;subst b
  simp only[iT] at d;obtain⟨σ,x0,Inv,ls,lv,Lf,μ,i0,i1,i2,i3,i4⟩:=d
  -- the frame at a loop's ag
  have ag:∀(y:σ) (F1:aJ) (L1:Loc) (ab:Env) (p:Act) (w1:World),(∀t,p.tmps.getD t undef=conc L1 (ab t))->(∀j,j∉dN x->p.tmps.getD j undef=a.tmps.getD j undef)->holds ls ((lv y).map .v) ab ->
    aN (Lf y) (puts ls ((lv y).map .v) (iW (dN x) (fun j=>p.tmps.getD j undef) ρ)) p:=by
   intro y F1 L1 ab p w1 bu bD hh;have ba:∀j k off,iW (dN x) (fun j=>p.tmps.getD j undef) ρ j=.own k off->j∉dN x/\ρ j=.own k off:=by
    intro j k off e;simp only[iW] at e;split at e
    ·cases e
    ·rename_i hm;exact⟨fun h=>(by rw[dQ.2 h] at hm;cases hm),e⟩
   have bo:∀j ad i,iW (dN x) (fun j=>p.tmps.getD j undef) ρ j=.el ad i->ρ j=.el ad i:=by
    intro j ad i e;simp only[iW] at e;split at e
    ·cases e
    ·exact e
   refine⟨fun j=>?_,fun j k off e=>?_,fun j ad i e=>?_⟩
   ·rcases uq ls (lv y) ab (iW (dN x) (fun j=>p.tmps.getD j undef) ρ) bu hh j with⟨v,z,h3⟩ | z
    ·rw[z,h3];rfl
    ·rw[z];simp only[iW];split
     ·rfl
     ·rename_i hm;have hj:j∉dN x:=fun h=>by rw[dQ.2 h] at hm;cases hm
      rw[bD j hj,o.eq j];cases e:ρ j with
      | v u=>rfl
      | el u i=>rfl
      | own k off =>
       obtain⟨g,ty,cs,hg⟩:=o.own j k off e;obtain⟨cs',av⟩:=nP (i3 y) hg;simp only[conc,hg,av]
   ·rcases kT ls (lv y) (iW (dN x) (fun j=>p.tmps.getD j undef) ρ) j with z | ⟨v,z⟩
    ·rw[z] at e;obtain⟨_,e'⟩:=ba j k off e;obtain⟨g,ty,cs,hg⟩:=o.own j k off e';obtain⟨cs',av⟩:=nP (i3 y) hg;exact⟨g,ty,cs',av⟩
    ·rw[z] at e;cases e
   ·rcases kT ls (lv y) (iW (dN x) (fun j=>p.tmps.getD j undef) ρ) j with z | ⟨v,z⟩
    ·rw[z] at e;exact o.el j ad i (bo j ad i e)
    ·rw[z] at e;cases e
  refine vZ (fun n p w1=>∃(y:σ) (F1:aJ),n=μ y/\F.le F1/\Inv y F1/\St F1 (Lf y) w1/\p.tmps.size=A.n/\p.defers=a.defers/\Step F L w F1 (Lf y) w1/\(∀j,j∉dN x->p.tmps.getD j undef=a.tmps.getD j undef) /\
   aN (Lf y) (puts ls ((lv y).map .v) (iW (dN x) (fun j=>p.tmps.getD j undef) ρ)) p) ?_ ?_
  ·exact⟨_,x0,F,rfl,aJ.le_refl F,i0,s.abH i2,q,rfl,xH i2,fun _ _=>rfl,ag x0 F L ρ a w o.eq (fun _ _=>rfl) i1⟩
  ·rintro n p w1 ⟨y,F1,rfl,be,bc,an,bB,ar,aa,ae,aw⟩;refine wp_mono (ih h1 an aw bB (i4 y F1 _ be bc ⟨w1,an⟩)) ?_;intro e a2 w2 m;cases e with
   | normal =>
    obtain⟨F2,L2,ca,g1,g2,g3,g4,g5,g6,⟨y',k1,k2,k3,k4⟩⟩:=m;have ao:∀j,j∉dN x->a2.tmps.getD j undef=a.tmps.getD j undef:=fun j hj=>by rw[g6 j hj,ae j hj]
    exact⟨μ y',k4,y',F2,rfl,aJ.le_trans be g5.le,k1,g1.abH k3,g3,g4.trans ar,(aa.trans g5).trans (xH k3),ao,ag y' F2 L2 ca a2 w2 g2.eq ao k2⟩
   | exit j=>exact fH.after aa ar ae m (fun j h=>h) (fun j h=>h)
   | ret=>exact fH.after aa ar ae m (fun j h=>h) (fun j h=>h)
   | goto l=>exact m
   | panic c=>exact(noPan m).elim
   | outgrown=>exact m
 | rangeFunc f ps x y al am=>intro sc b;simp only[low] at b;cases b
 | scope x ih =>
  intro sc b E R N F L ρ a w s o q d;simp only[low] at b;refine wp_scope_straight (wp_mono (ih b s o q d) ?_);intro e p w1 m;cases e<;>exact m
 | goto l=>intro sc b;simp only[low] at b;cases b
 | refuse de=>intro sc b;simp only[low] at b;cases b
theorem GX {f:FuncId}{fn:Func}{c:Code}{sc:aI}{A:cE}{rs:List RV}{F:aJ}{Lin:List Own}{R:aJ->List Own->Value->Prop}(svs:List SV)
  (hf:P.funcs[f]?=some fn) (hb:fn.body=some c) (hname:(fn.name == "runtime.NumGoroutine")=false) (hl:low P A c=some sc) (hn:fn.ntmps=A.n) (hres:qN P fn.results.toList=some rs) (hlen:svs.length<=A.n)
  (hown:∀v∈svs,(∀k off,v=.own k off->∃g ty cs,(inp Lin).get k=some (.box g ty cs))/\(∀ad j,v=.el ad j->ad≠none))
  (hmono:∀F G L v,F.le G->R F L v->R G L v)
  (h:iT P sc (fun _ _ _ _=>False) (fun F' L' ρ'=>mU L' ρ' rs fun vs=>D9 F' L' (iK vs) R) (fun F' L' ρ'=>mU L' ρ' rs fun vs=>D9 F' L' (iK vs) R) F (inp Lin) (uY 0 svs)) :
  CallsA P f (svs.map (conc (inp Lin))).toArray F Lin R:=by
 refine⟨⟨fn,hf,by rw[hb];rfl,hname⟩,hmono,fun w hs=>?_⟩;refine calls_of_wp hf hb ?_;have he:aN (inp Lin) (uY 0 svs) {tmps:=(svs.map (conc (inp Lin))).toArray++Array.replicate (fn.ntmps-(svs.map (conc (inp Lin))).toArray.size) undef,defers:=[]}:=by
  have hin:∀t,uY 0 svs t=.v undef\/uY 0 svs t∈svs:=by
   intro t;rw[rI];simp only[adg,adk,Nat.sub_zero];cases e:svs[t]? with
   | none=>exact .inl rfl
   | some v=>exact .inr (acS e)
  refine⟨fun t=>?_,fun t k off e=>?_,fun t ad j e=>?_⟩
  ·rw[rI];simp only[adg,adk,Nat.sub_zero,adf];cases e:svs[t]? with
   | some v =>
    have hlt:t<svs.length:=(acP.1 e).1;rw[Array.getElem?_append_left (by simpa using hlt)];simp[e]
   | none =>
    have hge:svs.length<=t:=adC.1 e;rw[Array.getElem?_append_right (by simpa using hge)];simp only[Array.getElem?_replicate,Option.getD_none,conc];split<;>rfl
  ·rcases hin t with h1 | h1
   ·rw[h1] at e;cases e
   ·exact(hown _ h1).1 k off e
  ·rcases hin t with h1 | h1
   ·rw[h1] at e;cases e
   ·exact(hown _ h1).2 ad j e
 refine wp_mono (qH c hl hs he (by simp[hn];omega) h) ?_;intro e a' w' hq;have fin:∀{a0:Act},fH A.n F (inp Lin) w a0 (dN c) (fun F' L' ρ'=>mU L' ρ' rs fun vs=>D9 F' L' (iK vs) R) a' w'->a'.defers=a0.defers/\∃v,(results fn a'.tmps).run P w'=.ok v w' /\
   ∃v' F' Lo,Ending.returned v=.returned v'/\St F' (inp Lo) w'/\Step F (inp Lin) w F' (inp Lo) w'/\R F' Lo v':=by
  rintro a0 ⟨F',L',ρ',g1,g2,g3,g4,g5,g6,hret⟩;obtain⟨vs,hm,⟨ko,Lo,k1,k2,k3⟩⟩:=rH g1 g2 hres hret;refine⟨g4,iK vs,?_,iK vs,F',Lo,rfl,g1.handed k1 k2,?_,k3⟩
  ·rw[uD];rw[Array.mapM_eq_mapM_toList];simp only[Sem.run_bind,Sem.run_map];rw[hm];simp only[Result.andThen_ok,Sem.run_pure];congr 1
   match vs with
   | []=>rfl
   | [t]=>rfl
   | t::u::r =>
    simp only[iK];rw[dif_neg (by simp)]
  ·obtain⟨e1,e2⟩:=fE k1;refine⟨g5.le,g5.os,g5.tape,g5.output,g5.size,g5.same,g5.frz,fun b hb=>g5.own b ?_⟩;obtain⟨j,p,e,hb⟩:=hb;rw[bE] at e;split at e
   case isFalse=>cases e
   have hlt:j-1000<Lo.length:=(acP.1 e).1;have hk:ko[j-1000]?=some (ko[j-1000]'(by omega)):=w8 (by omega);exact⟨_,p,by rw[e2 _ _ hk];exact e,hb⟩
 cases e with
 | normal=>exact fin hq
 | ret=>exact fin hq
 | exit j=>obtain⟨F',L',ρ',_,_,_,_,_,_,h⟩:=hq;exact h.elim
 | goto l=>exact hq.elim
 | panic c=>exact(noPan hq).elim
 | outgrown=>exact hq.elim
theorem fG {f:FuncId}{fn:Func}{sc:aI}{A:cE}{rs:List RV}{F:aJ}{Lin:List Own}{R:aJ->List Own->Value->Prop}{args:Array Value}(svs:List SV)
  (s:P.funcs[f]?=some fn) (a:aA P A fn=some (sc,A.n,rs,false)) (l:Nat.ble svs.length A.n=true) (b:args=(svs.map (conc (inp Lin))).toArray)
  (e:∀v∈svs,(∀k off,v=.own k off->∃g ty cs,(inp Lin).get k=some (.box g ty cs))/\(∀m j,v=.el m j->m≠none))
  (d:∀F G L v,F.le G->R F L v->R G L v)
  (h:iT P sc (fun _ _ _ _=>False) (fun F' L' ρ'=>mU L' ρ' rs fun vs=>D9 F' L' (iK vs) R) (fun F' L' ρ'=>mU L' ρ' rs fun vs=>D9 F' L' (iK vs) R) F (inp Lin) (uY 0 svs)) :
  CallsA P f args F Lin R:=by
 subst b;unfold aA at a;split at a
 case h_2=>cases a
 rename_i c hb;split at a
 case h_2=>cases a
 rename_i q p r o;injection a with a
 injection a with e1 e2
 injection e2 with e2 e3
 injection e3 with e3 e4
 subst e1 e3;exact GX svs s hb e4 r e2 o (ac8 l) e d h
end
end Go.Fr
namespace Go.Fr.T
open Go Go.RowKit Go.Fr
abbrev aay (b:UInt8):Value:=.int .u8 b.toNat
def dX (p:List UInt8):List Value:=p.map fun b=>Value.int .u8 b.toNat
theorem pX (p:List UInt8):(dX p).length=p.length:=by simp[dX]
theorem Ka (p q:List UInt8):dX (p++q)=dX p++dX q:=by simp[dX]
theorem ow (p:List UInt8):∀u∈dX p,u.oneCell'=true:=by
 intro u h;simp only[dX,adi] at h;obtain⟨b,_,rfl⟩:=h;rfl
section
variable {F:aJ}{L:Loc}
theorem lq:∀{p:List UInt8}{xs:List Value},aT F 1 (ah p) xs->xs=dX p
 | [],xs,h=>by simpa[ah,aT,dX] using h
 | b::p,xs,h=>by
  simp only[ah,acU,aT] at h;obtain⟨vs,c,rfl,j,k,a,d⟩:=h;simp only[aK,Rel] at a;obtain⟨v,e,rfl,⟨rfl,_⟩,rfl⟩:=a;rw[lq (p:=p) d];rfl
theorem qR (p:List UInt8):aT F 1 (ah p) (dX p):=vC p
theorem Ah {p:List UInt8}{v:Value}(h:Rel F L (.sl (ah p)) v):∃a c,v=.slice a p.length c/\p.length<=c/\p.length<=maxLen/\(cC F a 0 (dX p)\/(p.length=0/\dX p=[])):=by
 have n:(ah p).length=p.length:=by simp[ah]
 have j:=h;simp only[Rel] at j;obtain⟨a,c,k,d,l,t,sz,q⟩:=j;obtain⟨xs,s,e,o⟩:=jF (sz:=1) q (fun es m=>by simp only[ah,adi] at m;obtain⟨b,_,rfl⟩:=m;rfl);have r:=lq o;subst r;rw[n] at k d l e;exact⟨a,c,k,d,l,e⟩
theorem Nd {p:List UInt8}{a:Addr}{c:Nat}(h:cC F (some a) 0 (dX p)) (d:p.length<=c) (j:p.length<=maxLen):Rel F L (.sl (ah p)) (.slice (some a) p.length c):=by
 have b:(ah p).length=p.length:=by simp[ah]
 simp only[Rel];exact⟨some a,c,by rw[b],by omega,by omega,fun e=>(by cases e),1,(vC p).frz h⟩
theorem wL:Rel F L (.sl []) (.slice none 0 0):=by
 simp only[Rel];exact⟨none,0,rfl,ac4 _,adg _,fun _=>by simp,0,by simp[ij]⟩
theorem Fv {a:Option Addr}{xs:List Value}{m:Nat}(h:cC F a 0 xs):cC F a 0 (xs.take m):=by
 obtain⟨l,d,t,k,e,hb,c,j⟩:=h;refine⟨l,d,t,k,e,hb,c,fun i v b=>j i v ?_⟩;rw[adn] at b;split at b
 ·exact b
 ·cases b
theorem nQ {asg:List Nat}{c:Nat->Value}{ρ:Env}:∀{us:List Nat}{b:List SV},holds us b ρ->(us.all fun j=>!gS asg j)=true->puts us b (iW asg c ρ)=iW asg c ρ
 | [],_,_,_=>rfl
 | _::_,[],_,_=>rfl
 | k::ks,v::vs,h,a=>by
  simp only[List.all_cons,acR] at a;simp only[puts];rw[nQ h.2 a.2];have d:gS asg k=false:=by simpa using a.1
  funext j
  simp only[put];cases hb:Nat.beq j k with
  | false=>rfl
  | true =>
   have:=vz hb;subst this;simp only[iW,d];exact h.1.symm
variable {P:Program}{f:Nat}{vs:List Value}{K:aJ->Loc->Value->Prop}
end
end Go.Fr.T
namespace Go.Fr.Dm
open Go Go.RowKit Go.Fr Go.Fr.T Go.Fr.Api
def qU (h x:Int):Int:=(h*1000003+x+1).tmod 2147483647
def Xu (l:List Int):Int:=l.foldl qU 7
theorem vP {h x:Int}(b:0<=h) (a:0<=x):0<=qU h x/\qU h x<2147483647:=by
 have:0<=h*1000003+x+1:=by omega
 rw[qU,Int.tmod_eq_emod_of_nonneg this];exact⟨Int.emod_nonneg _ (by omega),Int.emod_lt_of_pos _ (by omega)⟩
def Am (bs:List UInt8):List Int:=bs.map fun b=>(b.toNat:Int)
theorem Fit.to {k:IntKind}{n m:Int}{K:Int->Prop}(h:k.wrap n=m) (a:K m):Fit k n K:=⟨by rw[h];exact a⟩
def Xv (n:Nat):List UInt8:=if h:n<128 then[UInt8.ofNat n] else UInt8.ofNat (128+n % 128)::Xv (n / 128)
def zig (n:Int):Nat:=if n<0 then(-2*n-1).toNat else(2*n).toNat
def abe (n:Int):List UInt8:=Xv (zig n)
def U8 (s:ByteArray):List UInt8:=abe s.size++s.data.toList
def S8 (l:List ByteArray):List UInt8:=l.flatMap U8
inductive Dpc:Option Prog->C->Prop
 | nil:Dpc none .nilp
 | prog (q:Prog):Dpc (some q) (.pt (WH q) 0)
theorem uP (a b:List UInt8):ah (a++b)=ah a++ah b:=by simp[ah]
theorem aG (a:List UInt8):(ah a).length=a.length:=by simp[ah]
theorem dM {a:List UInt8}:∀es∈ah a,es.length=1:=by
 intro es h;simp only[ah,adi] at h;obtain⟨b,_,rfl⟩:=h;rfl
def elem {a:Type}(l:List a) (i:Int):Option a:=if i<0 then none else l[i.toNat]?
def nm (l:List ByteArray) (i:Int):ByteArray:=(elem l i).getD ⟨#[]⟩
def IW (a:Option Prog) (k i:Int):Option (List UInt8) :=
 match a with
 | none=>none
 | some q=>if k=2 then(elem q.datas i).map fun d=>S8 [nm q.modules d.module,d.name] else none
def mn (n:Nat) (a:Int):Int:=if(n:Int)<a then(n:Int) else a
def Ao:Wc:=⟨⟨#[]⟩,0,0,[],0,.mk 0 0 [],[],[],[]⟩
theorem m9 {a b:List UInt8}{K:Prop}(h:a.length+b.length<=140737488355328) (k:K):uE (ah a) (ah b) 1 1 K :=
 ⟨dM,by rw[aG,aG];simp[maxLen];omega,by rw[aG,aG];simp;omega,k⟩
theorem Xm {a b:List UInt8}{n:Nat}(h:(a++b).length<=n):a.length<=n/\b.length<=n:=by
 simp only[yo] at h;omega
theorem sn {a b:List (List C)}{m n:Nat}(h:a.length=m) (k:b.length=n):(a++b).length=m+n:=by rw[yo,h,k]
theorem G3 {q:Prog}{k i:Int}{d:Api.Data}(a:k=2) (h:elem q.datas i=some d):IW (some q) k i=some (U8 (nm q.modules d.module)++U8 d.name):=by
 unfold IW;simp only[a,adk,h,adK,S8,List.flatMap_cons,List.flatMap_nil,acT]
theorem Nt {els:List (List C)}{j off n:Nat}{es0:List C}{K:List C->Prop}(h:els[j]?=some es0) (b:eI ((es0.drop off).take n) n=true) (k:K es0):K7 els j off n fun _=>∀es,els[j]?=some es->K es :=
 ⟨es0,h,b,fun es a=>by rw[h] at a;injection a with a;rw[<-a];exact k⟩
theorem iE {a:Type}{g:a->G}{x:a}:∀{l:List a},x∈l->(g x).bulk<=G.aaL (l.map g)
 | y::l,h=>by
  simp only[acU,G.aaL];rcases acQ.1 h with rfl | h
  ·omega
  ·have:=iE (g:=g) h;omega
end Go.Fr.Dm
namespace Go.Fr.T
open Go Go.RowKit Go.Fr
section
variable {F:aJ}{w:World}
end
theorem IY (L:Loc):∀(l:List TO) (n:Nat),∃Lo:List Own,xh L (jP n l)=mg n Lo/\Lo.length=l.length/\∀i p,i<l.length->L.get (n+i)=some p->Lo[i]?=some p
 | [],n=>⟨[],rfl,rfl,fun i p h _=>s6 h (by simp)⟩
 | o::l,n=>by
  obtain⟨Lo,c,b,d⟩:=IY L l (n+1);cases o with
  | row t sz els =>
   cases e:L.get n with
   | none=>exact⟨.row (.slice none 0 0) t sz 0 []::Lo,by simp only[jP,xh,mg,c,e],by simp[b],fun i p hi a=>by
     cases i with
     | zero=>rw[Nat.add_zero,e] at a;cases a
     | succ i=>exact d i p (by simpa using hi) (by rw[<-a];congr 1;omega)⟩
   | some q=>exact⟨q::Lo,by simp only[jP,xh,mg,c,e],by simp[b],fun i p hi a=>by
     cases i with
     | zero=>rw[Nat.add_zero,e] at a;exact a
     | succ i=>exact d i p (by simpa using hi) (by rw[<-a];congr 1;omega)⟩
  | _ =>
   cases e:L.get n with
   | none=>exact⟨.row (.slice none 0 0) 0 0 0 []::Lo,by simp only[jP,xh,mg,c,e],by simp[b],fun i p hi a=>by
     cases i with
     | zero=>rw[Nat.add_zero,e] at a;cases a
     | succ i=>exact d i p (by simpa using hi) (by rw[<-a];congr 1;omega)⟩
   | some q=>exact⟨q::Lo,by simp only[jP,xh,mg,c,e],by simp[b],fun i p hi a=>by
     cases i with
     | zero=>rw[Nat.add_zero,e] at a;exact a
     | succ i=>exact d i p (by simpa using hi) (by rw[<-a];congr 1;omega)⟩
theorem CallsT.gives {P:Program}{f:Nat}{args:List C}{Lin Lin1:List TO}{R:List TO->C->Prop}(h:CallsT P f args Lin1 R) (m:gives (jQ Lin) (jQ Lin1) (jQ Lin1)) (hl:Lin.length<=Lin1.length):CallsT P f args Lin R:=by
 refine⟨fun F Li vs h1 j h3=>?_⟩;obtain⟨Li1,d,s,k3⟩:=IY (inp Li) Lin1 1000;have d:xh (inp Li) (jQ Lin1)=inp Li1:=d;have a:∀(i:Nat) p,Li[i]?=some p->Li1[i]?=some p:=by
  intro i p e;have hi:=(acP.1 e).1;exact k3 i p (by omega) (by rw[bE,o6 (by omega),show 1000+i-1000=i by omega];exact e)
 have b:Ext (inp Li) (inp Li1):=by
  intro k o e;rw[bE] at e;split at e
  case isFalse=>cases e
  rename_i u;exact⟨o,by rw[bE,o6 u];exact a _ _ e,Own.abf o⟩
 have l:=vD j m;rw[d] at l;have r:=h.out F Li1 vs s l (h3.ext (aJ.le_refl F) b);refine⟨r.ent,iN.abM,fun w hs=>?_⟩;obtain⟨q,n⟩:=vE hs j m;rw[d] at q n;refine Calls.mono (r.run w q) ?_;rintro e w' ⟨v,F',Lo,rfl,q1,y,Mo,c,r1,z,r3,x,r5⟩;exact⟨v,F',Lo,rfl,q1,n.trans y,Mo,c,r1,z,r3,fun i g t cs e=>x i g t cs (a _ _ e),r5⟩
theorem Xx {L:TL}(k t sz:Nat) {Lin:List TO}{Lo:List TO}(b:L.get k=none) (hb:aY Lin (List.range' 1000 Lin.length) [k]=true) (c:Lo=[.row t sz []]):o7 Lin L .nils (gL Lo (.rw 1000)):=by
 subst c;have a:Nat.beq k k=true:=by simp
 refine⟨[],[k],[(k,.row t sz [])],.nils,.rw k,[.row t sz []],rfl,.inr ⟨⟨.inr ⟨b,t,sz,rfl⟩,trivial⟩,.inr (.inr (.inr (.inl ⟨rfl,k,t,sz,rfl,b,?_⟩)))⟩,?_,rfl,hb,fun _=>⟨rfl,?_⟩⟩
 ·simp only[TL.get,a]
 ·simp only[TL.sub,TL.get,a]
 ·simp only[C.abF,C.ren,C.mp,vp,cn,a]
end Go.Fr.T
