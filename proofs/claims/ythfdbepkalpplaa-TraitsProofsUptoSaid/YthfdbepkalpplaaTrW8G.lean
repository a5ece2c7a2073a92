/- Part of the proofs of the statements of this seat. -/
import Derived.Test.YthfdbepkalpplaaTrP6G
import Derived.Test.YthfdbepkalpplaaFW2
import Derived.Test.YthfdbepkalpplaaTrCode3
set_option maxRecDepth 10000
set_option linter.unusedVariables false
set_option linter.unusedSimpArgs false
namespace Go.Fr.Try
open Go Go.RowKit Go.Proofs Go.Fr Go.Fr.T Go.Fr.Api
theorem FD {v:Value}{b:List PanicEntry}(h:rK v b):settle (.panicking b)=.panicking b:=by
 obtain⟨a,rfl,_⟩:=h;rfl
theorem Pu {F:au}{L:Loc}{ρ:Env}{τ:aK}{p:Prog}{g:cn}{x:Value}(h:∀j,aJ F L (τ j) (ρ j)) (hb:HB p g τ):∀j,aJ F L (eB p g j) (Fr.put (some 37) (.v x) ρ j):=by
 obtain⟨h1,s,h4,q,r,u⟩:=hb;intro j
 by_cases a:j=37
 ·subst a;trivial
 have y:Fr.put (some 37) (.v x) ρ j=ρ j:=by
  have b:Nat.beq j 37=false:=lH a;simp only[Fr.put,b]
 rw[y]
 by_cases k:j=1
 ·subst k;have:=h 1;rw[h1] at this;exact this
 by_cases f:j=2
 ·subst f;have:=h 2;rw[s] at this;exact this
 by_cases e:j=4
 ·subst e;have:=h 4;rw[h4] at this;exact this
 by_cases c:j=5
 ·subst c;have:=h 5;rw[q] at this;exact this
 by_cases d:j=6
 ·subst d;have:=h 6;rw[r] at this;exact this
 by_cases l:j=7
 ·subst l;have:=h 7;rw[u] at this;exact this
 have o:Nat.beq j 1=false:=lH k;have t:Nat.beq j 2=false:=lH f;have z:Nat.beq j 4=false:=lH e;have n:Nat.beq j 5=false:=lH c;have w:Nat.beq j 6=false:=lH d;have m:Nat.beq j 7=false:=lH l;simp only[eB,bq,o,t,z,n,w,m];trivial
theorem Sr (p:Prog) (l:List aR) (c:Int) (gs:List cn) (g:cn) (res:pE) (da:gs.length<=400)
  (hA:evalTC P ⟨fun _=>True,[],some (zS p l gs res)⟩ Yd (fun _ _ _=>False) (fun L ρ=>gF L ρ [(7,some (true,4))] fun u=>fZ (PB p l c gs) L (gD u) (RQ p l gs res))
   (fun M τ=>(c+1<=400/\(gs.any fun h=>iw h g)=false/\¬br (lJ g) l 0>=0)/\M=MB p l (c+1) (gs++[g])/\HB p g τ) (cC (PB p l c gs)) (jN 0 (zR p l g)))
  (hB:c+1<=400/\(gs.any fun h=>iw h g)=false/\¬br (lJ g) l 0>=0->evalTC P ⟨fun _=>True,[],some (zS p l (gs++[g]) res)⟩ Xl (fun _ _ _=>False) (U2 p l (gs++[g]) res) (fun _ _=>False) (MB p l (c+1) (gs++[g])) (eB p g)) :
  Sg p l c gs g res:=by
 refine⟨fun F Li u hl bm ha=>⟨⟨Try.f77,Try.func77,by rw[Ec];rfl,by kernel_rfl⟩,gC.aao,fun w hs=>?_⟩⟩;have ed:Try.f77.ntmps=97:=by kernel_rfl
 have av:mL P Try.f77.results.toList=some [(7,some (true,4))]:=by kernel_rfl
 have ek:u.length=6:=by have:=ha.len;simpa using this
 obtain⟨G,eb,he,ht,cl,ae⟩:=Sm (97-u.toArray.size) hl bm ha hs;refine calls_of_wp_defers Try.func77 Ec ?_;rw[ed];generalize hR:(fun(en:Ending) (w':World)=>(∃v F' Lo,en=.returned v/\St F' (inp Lo) w'/\Step F (inp Li) w F' (inp Lo) w'/\gC Li (RQ p l gs res) F' Lo v) \/
  ∃v s F' Lo,en=.panicked s/\rK v s/\St F' (inp Lo) w'/\Step F (inp Li) w F' (inp Lo) w'/\Lo.length=Li.length/\(∀(i:Nat) g t cs,Li[i]?=some (.box g t cs)->∃cs',Lo[i]?=some (.box g t cs'))/\∃Mo,Mo.length=Lo.length/\bM F' (inp Lo) (cC Mo)/\PQ p l gs res Mo v)=RR
 have bk:Li.length=4:=hl
 -- the boxes that were handed over
 have am:∀(i:Nat) b t cs,Li[i]?=some (.box b t cs)->G (1000+i)=some (b,t):=fun i b t cs hi=>cl _ b t cs (by rw[aF,o5 (by omega),show 1000+i-1000=i by omega];exact hi);have cY:∀k b t,G k=some (b,t)->∃cs i,k=1000+i/\i<4/\Li[i]?=some (.box b t cs):=fun k b t e=>by
  obtain⟨cs,h⟩:=ht.kp k b t e;rw[aF] at h;split at h
  case isFalse=>cases h
  refine⟨cs,k-1000,by omega,?_,h⟩;rw[<-bk];exact(aaU.1 h).1
 -- the box of the goals above
 have be:∃b1 t1 az,Li[1]?=some (.box b1 t1 az):=by
  have q:=bm 1001;rw[aF,o5 (by omega)] at q;have q:xG F (inp Li) (some (.box 107 [.rw 1003])) (Li[1]?):=q;cases e:Li[1]? with
  | none=>rw[e] at q;exact q.elim
  | some o =>
   rw[e] at q;cases o with
   | row=>exact q.elim
   | box b t cs=>exact⟨b,t,cs,rfl⟩
 obtain⟨b1,t1,az,be⟩:=be;have bl:=am 1 b1 t1 az be
 -- how a panic ends
 have Rp:∀v s w' F' Lo c' e,rK v s->res=(.error e,c')->v=ze e->St F' (inp Lo) w'->Step F (inp Li) w F' (inp Lo) w'->Lo.length=4->bM F' (inp Lo) (cC (PB p l c' gs))->(∀(i:Nat) g t cs,Li[i]?=some (.box g t cs)->∃cs',Lo[i]?=some (.box g t cs'))->RR (.panicked s) w':=by
  intro v s w' F' Lo c' e q1 q2 q3 q4 q5 q6 q7 q8;rw[<-hR];exact .inr ⟨v,s,F',Lo,rfl,q1,q4,q5,by rw[q6,bk],q8,PB p l c' gs,by rw[q6];rfl,q7,e,c',q2,rfl,q3⟩
 -- what there is when it panics
 have bt:∀(bv:List cn) (v:Value) (w':World),(∃F' L',St F' L' w'/\Step F (inp Li) w F' L' w'/\zu G ⟨fun _=>True,[],some (zS p l bv res)⟩ F' L' v) ->
   ∃F' Lo c' e,St F' (inp Lo) w'/\Step F (inp Li) w F' (inp Lo) w'/\Lo.length=4/\bM F' (inp Lo) (cC (PB p l c' bv))/\res=(.error e,c')/\v=ze e/\(∀(i:Nat) g t cs,Li[i]?=some (.box g t cs)->∃cs',Lo[i]?=some (.box g t cs')):=by
  rintro bv v w' ⟨F',L',g1,g2,kp,_,_,eh⟩;obtain⟨M',hp,Mo,ao,e,c',hr,rfl,hv⟩:=eh _ rfl;obtain⟨Lo,d1,d2,d3⟩:=Eh hp ao;obtain⟨x1,x2⟩:=ct d1;refine⟨F',Lo,c',e,g1.handed d1 (by decide),g2.sub (Ei d1),d2,Sn d2 d1 d3,hr,hv,fun i b t cs hi=>?_⟩;have cb:i<4:=by rw[<-bk];exact(aaU.1 hi).1
  obtain⟨cs',h⟩:=kp _ b t (am i b t cs hi);have hk:([1000,1001,1002,1003]:List Nat)[i]?=some (1000+i):=by
   match i,cb with
   | 0,_=>rfl
   | 1,_=>rfl
   | 2,_=>rfl
   | 3,_=>rfl
  exact⟨cs',by rw[<-x2 i _ hk];exact h⟩
 have y:∀(v:Value) (s:List PanicEntry) (a':Act) (w':World),rK v s->a'.defers=[]->(∃F' L',St F' L' w'/\Step F (inp Li) w F' L' w'/\zu G ⟨fun _=>True,[],some (zS p l gs res)⟩ F' L' v)->bodyPostD P Try.f77 RR (.panic s) a' w':=by
  intro v s a' w' hc m hx;obtain⟨F',Lo,c',e,k1,k2,k3,k4,k5,k6,k7⟩:=bt gs v w' hx;show Leaves P Try.f77 a'.tmps RR a'.defers (.panicking s) w';rw[m];exact Rp v s w' F' Lo c' e hc k5 k6 k1 k2 k3 k4 k7
 have dg:∀(v:Value) (s:List PanicEntry) (a':Act) (w':World),rK v s->a'.defers=[dq (.pointer (some ⟨b1,0,none⟩))]->(∃F' L',St F' L' w'/\Step F (inp Li) w F' L' w'/\zu G ⟨fun _=>True,[],some (zS p l (gs++[g]) res)⟩ F' L' v)->bodyPostD P Try.f77 RR (.panic s) a' w':=by
  intro v s a' w' hc m hx;obtain⟨F',Lo,c',e,k1,k2,k3,k4,k5,k6,k7⟩:=bt (gs++[g]) v w' hx;show Leaves P Try.f77 a'.tmps RR a'.defers (.panicking s) w';rw[m];obtain⟨dj,ar⟩:=k7 1 b1 t1 az be;refine leaves_cons (f:=83) (args:=#[.pointer (some ⟨b1,0,none⟩)]) (by simp) (by simp[invoke]) ?_;refine(Xn da k3 k4 ar (.panicking s) w' k1).mono ?_;rintro en u' w2 ⟨rfl,v2,F2,Lo2,rfl,m1,m2,m3,m4,m5⟩;show Leaves P Try.f77 a'.tmps RR [] (settle (.panicking s)) w2;rw[FD hc];exact Rp v s w2 F2 Lo2 c' e hc k5 k6 m1 (k2.trans m2) m3 m4 fun i b t cs hi=>let⟨cs',h⟩:=k7 i b t cs hi;m5 i b t cs' h
 -- how it returns
 have z:∀(a':Act) (w':World),a'.defers=[]->Ep G F Li w (fun L ρ=>gF L ρ [(7,some (true,4))] fun u=>fZ (PB p l c gs) L (gD u) (RQ p l gs res)) a' w'->bodyPostD P Try.f77 RR .ret a' w':=by
  rintro a' w' m ⟨F',L',ρ',M',dt,g1,g2,g3,g4,g5,ds⟩;have hq:=AH (P:=P) (fn:=Try.f77) (rs:=[(7,some (true,4))]) (n:=97) (asg:=[]) (a0:=a') (a':=a') (w':=w') av hl bm cl
   ⟨F',L',ρ',g1,g2,g4,rfl,g5,fun _ _=>rfl,M',dt,g3,ds⟩
  obtain⟨_,v,k2,F2,Lo,k3,k4,k5⟩:=hq;show Leaves P Try.f77 a'.tmps RR a'.defers .returning w';rw[m];exact⟨v,k2,by rw[<-hR];exact .inl ⟨v,F2,Lo,rfl,k3,k4,k5⟩⟩
 have SY:∀(a':Act) (w':World),a'.defers=[dq (.pointer (some ⟨b1,0,none⟩))]->Ep G F Li w (U2 p l (gs++[g]) res) a' w'->bodyPostD P Try.f77 RR .ret a' w':=by
  rintro a' w' m ⟨F',L',ρ',M',dt,g1,g2,g3,g4,g5,h7,r,c',hr,ao⟩;rw[jf] at ao;obtain⟨Lo,d1,d2,d3⟩:=j5 g3.tl ao;obtain⟨x1,x2⟩:=ct d1;have eo:bM F' (inp Lo) (cC (PB p l c' (gs++[g])++[.box 64 [.bool r.assumed,IC r.index,.sl (r.types.map aM),.sl (r.proofs.map iq)]])):=kW g3.tl d2 d1 d3;have ar:∀(i:Nat) b t cs,Li[i]?=some (.box b t cs)->∃cs',Lo[i]?=some (.box b t cs'):=fun i b t cs hi=>by
   have cb:i<4:=by rw[<-bk];exact(aaU.1 hi).1
   obtain⟨cs',h⟩:=g3.kp _ b t (am i b t cs hi);have hk:([1000,1001,1002,1003,7]:List Nat)[i]?=some (1000+i):=by
    match i,cb with
    | 0,_=>rfl
    | 1,_=>rfl
    | 2,_=>rfl
    | 3,_=>rfl
   exact⟨cs',by rw[<-x2 i _ hk];exact h⟩
  have bd:ρ' 7=.own 7 0/\∃b7 t7 bo,L'.get 7=some (.box b7 t7 bo):=by
   have:=g3.env 7;rw[h7] at this;exact this
  obtain⟨bd,b7,t7,bo,dp⟩:=bd;have dk:Lo[4]?=some (.box b7 t7 bo):=by rw[<-x2 4 7 rfl];exact dp
  have ei:a'.tmps.getD 7 undef=.pointer (some ⟨b7,0,none⟩):=by
   rw[g2.eq 7,bd];simp only[conc,dp]
  show Leaves P Try.f77 a'.tmps RR a'.defers .returning w';rw[m];obtain⟨dj,cp⟩:=ar 1 b1 t1 az be;refine leaves_cons (f:=83) (args:=#[.pointer (some ⟨b1,0,none⟩)]) (by simp) (by simp[invoke]) ?_;refine(UF da d2 eo cp .returning w' (g1.handed d1 (by decide))).mono ?_;rintro en u' w2 ⟨rfl,v2,F2,Lo2,rfl,m1,m2,m3,m4,m5⟩;show Leaves P Try.f77 a'.tmps RR [] .returning w2;obtain⟨de,ca⟩:=m5 4 b7 t7 bo dk;have an:(inp Lo2).get 1004=some (.box b7 t7 de):=by rw[aF,o5 (by omega)];exact ca
  have aw:∀j,j≠7->Fr.put (some 7) (.own 1004 0) (fun j=>.v (a'.tmps.getD j undef)) j=.v (a'.tmps.getD j undef):=fun j hj=>by
   have b:Nat.beq j 7=false:=lH hj;simp only[Fr.put,b]
  have bu:∀j,j≠7->bq (some 7) (.own 1004 0) (fun _=>.any) j=.any:=fun j hj=>by
   have b:Nat.beq j 7=false:=lH hj;simp only[bq,b]
  have hq:=AH (P:=P) (G:=G) (F:=F) (w:=w) (fn:=Try.f77) (rs:=[(7,some (true,4))]) (n:=97) (asg:=[]) (a0:=a') (a':=a') (w':=w2) (R:=RQ p l gs res) av hl bm cl
   ⟨F2,inp Lo2,Fr.put (some 7) (.own 1004 0) (fun j=>.v (a'.tmps.getD j undef)),m1,?_,g4,rfl,(g5.sub (Ei d1)).trans m2,fun _ _=>rfl,cC (PB p l c' gs++[.box 64 [.bool r.assumed,IC r.index,.sl (r.types.map aM),.sl (r.proofs.map iq)]]),bq (some 7) (.own 1004 0) (fun _=>.any),⟨m4,fun j=>?_,fun k b t e=>?_,m1.glob⟩,?_⟩
  ·obtain⟨_,v,k2,F3,Lo3,k3,k4,k5⟩:=hq;exact⟨v,k2,by rw[<-hR];exact .inl ⟨v,F3,Lo3,rfl,k3,k4,k5⟩⟩
  ·refine⟨fun j=>?_,fun j k off e=>?_,fun j ad i e=>?_⟩
   ·by_cases hj:j=7
    ·subst hj;rw[ei];show _=conc (inp Lo2) (.own 1004 0);simp only[conc,an]
    ·rw[aw j hj];rfl
   ·by_cases hj:j=7
    ·subst hj;have e:SV.own 1004 0=.own k off:=e;injection e with e1 e2
     subst e1;exact⟨_,_,_,an⟩
    ·rw[aw j hj] at e;cases e
   ·by_cases hj:j=7
    ·subst hj;have e:SV.own 1004 0=.el ad i:=e;cases e
    ·rw[aw j hj] at e;cases e
  ·by_cases hj:j=7
   ·subst hj;exact⟨rfl,_,_,_,an⟩
   ·rw[bu j hj];trivial
  ·obtain⟨cs,i,rfl,eE,hi⟩:=cY k b t e;obtain⟨cs',h'⟩:=ar i b t cs hi;obtain⟨dl,em⟩:=m5 i b t cs' h';exact⟨dl,by rw[aF,o5 (by omega),show 1000+i-1000=i by omega];exact em⟩
  ·exact pA [1000,1001,1002,1003] rfl rfl rfl rfl ⟨r,c',hr,rfl,by rw[jf];rfl⟩
 -- the pieces
 have M0:Ep G F Li w (fun M τ=>M=cC (PB p l c gs)/\τ=jN 0 (zR p l g)) {tmps:=u.toArray++Array.replicate (97-u.toArray.size) undef,defers:=[]} w :=
  ⟨F,inp Li,eb,_,_,hs,he,ht,by simp[ek],Step.refl _ _ _,rfl,rfl⟩
 generalize ej:({tmps:=u.toArray++Array.replicate (97-u.toArray.size) undef,defers:=[]}:Act)=a0 at M0;have cf:a0.defers=[]:=by rw[<-ej]
 refine wp_seq (Ep.piece Us ae M0 (PS:=⟨fun _=>True,[],some (zS p l gs res)⟩) (R:=(fun L ρ=>gF L ρ [(7,some (true,4))] fun u=>fZ (PB p l c gs) L (gD u) (RQ p l gs res))) (N:=(fun M τ=>evalTC P ⟨fun _=>True,[],some (zS p l gs res)⟩ (.seq Xk (.seq U1 (.seq Ur (.seq SD (.seq Sf Qx))))) (fun _ _ _=>False) (fun L ρ=>gF L ρ [(7,some (true,4))] fun u=>fZ (PB p l c gs) L (gD u) (RQ p l gs res)) (fun M τ=>(c+1<=400/\(gs.any fun h=>iw h g)=false/\¬br (lJ g) l 0>=0)/\M=MB p l (c+1) (gs++[g])/\HB p g τ) M τ))
  (fun M τ q=>by rw[q.1,q.2];exact hA) (fun a1 w1 aE M1=>?_) (fun a' w' m h=>z a' w' (m.trans cf) h) (fun v s a' w' hc m hx=>y v s a' w' hc (m.trans cf) hx))
 have aE:=aE.trans cf;refine wp_seq (Ep.piece Ut ae M1 (PS:=⟨fun _=>True,[],some (zS p l gs res)⟩) (R:=(fun L ρ=>gF L ρ [(7,some (true,4))] fun u=>fZ (PB p l c gs) L (gD u) (RQ p l gs res))) (N:=(fun M τ=>evalTC P ⟨fun _=>True,[],some (zS p l gs res)⟩ (.seq U1 (.seq Ur (.seq SD (.seq Sf Qx)))) (fun _ _ _=>False) (fun L ρ=>gF L ρ [(7,some (true,4))] fun u=>fZ (PB p l c gs) L (gD u) (RQ p l gs res)) (fun M τ=>(c+1<=400/\(gs.any fun h=>iw h g)=false/\¬br (lJ g) l 0>=0)/\M=MB p l (c+1) (gs++[g])/\HB p g τ) M τ))
  (fun M τ q=>q) (fun a2 w2 bi M2=>?_) (fun a' w' m h=>z a' w' (m.trans aE) h) (fun v s a' w' hc m hx=>y v s a' w' hc (m.trans aE) hx))
 have bi:=bi.trans aE;refine wp_seq (Ep.piece Uu ae M2 (PS:=⟨fun _=>True,[],some (zS p l gs res)⟩) (R:=(fun L ρ=>gF L ρ [(7,some (true,4))] fun u=>fZ (PB p l c gs) L (gD u) (RQ p l gs res))) (N:=(fun M τ=>evalTC P ⟨fun _=>True,[],some (zS p l gs res)⟩ (.seq Ur (.seq SD (.seq Sf Qx))) (fun _ _ _=>False) (fun L ρ=>gF L ρ [(7,some (true,4))] fun u=>fZ (PB p l c gs) L (gD u) (RQ p l gs res)) (fun M τ=>(c+1<=400/\(gs.any fun h=>iw h g)=false/\¬br (lJ g) l 0>=0)/\M=MB p l (c+1) (gs++[g])/\HB p g τ) M τ))
  (fun M τ q=>q) (fun a3 w3 bc M3=>?_) (fun a' w' m h=>z a' w' (m.trans bi) h) (fun v s a' w' hc m hx=>y v s a' w' hc (m.trans bi) hx))
 have bc:=bc.trans bi;refine wp_seq (Ep.piece Uv ae M3 (PS:=⟨fun _=>True,[],some (zS p l gs res)⟩) (R:=(fun L ρ=>gF L ρ [(7,some (true,4))] fun u=>fZ (PB p l c gs) L (gD u) (RQ p l gs res))) (N:=(fun M τ=>evalTC P ⟨fun _=>True,[],some (zS p l gs res)⟩ (.seq SD (.seq Sf Qx)) (fun _ _ _=>False) (fun L ρ=>gF L ρ [(7,some (true,4))] fun u=>fZ (PB p l c gs) L (gD u) (RQ p l gs res)) (fun M τ=>(c+1<=400/\(gs.any fun h=>iw h g)=false/\¬br (lJ g) l 0>=0)/\M=MB p l (c+1) (gs++[g])/\HB p g τ) M τ))
  (fun M τ q=>q) (fun a4 w4 bj M4=>?_) (fun a' w' m h=>z a' w' (m.trans bc) h) (fun v s a' w' hc m hx=>y v s a' w' hc (m.trans bc) hx))
 have bj:=bj.trans bc;refine wp_seq (Ep.piece Uw ae M4 (PS:=⟨fun _=>True,[],some (zS p l gs res)⟩) (R:=(fun L ρ=>gF L ρ [(7,some (true,4))] fun u=>fZ (PB p l c gs) L (gD u) (RQ p l gs res))) (N:=(fun M τ=>evalTC P ⟨fun _=>True,[],some (zS p l gs res)⟩ (.seq Sf Qx) (fun _ _ _=>False) (fun L ρ=>gF L ρ [(7,some (true,4))] fun u=>fZ (PB p l c gs) L (gD u) (RQ p l gs res)) (fun M τ=>(c+1<=400/\(gs.any fun h=>iw h g)=false/\¬br (lJ g) l 0>=0)/\M=MB p l (c+1) (gs++[g])/\HB p g τ) M τ))
  (fun M τ q=>q) (fun a5 w5 ba M5=>?_) (fun a' w' m h=>z a' w' (m.trans bj) h) (fun v s a' w' hc m hx=>y v s a' w' hc (m.trans bj) hx))
 have ba:=ba.trans bj;refine wp_seq (Ep.piece Ux ae M5 (PS:=⟨fun _=>True,[],some (zS p l gs res)⟩) (R:=(fun L ρ=>gF L ρ [(7,some (true,4))] fun u=>fZ (PB p l c gs) L (gD u) (RQ p l gs res))) (N:=(fun M τ=>evalTC P ⟨fun _=>True,[],some (zS p l gs res)⟩ Qx (fun _ _ _=>False) (fun L ρ=>gF L ρ [(7,some (true,4))] fun u=>fZ (PB p l c gs) L (gD u) (RQ p l gs res)) (fun M τ=>(c+1<=400/\(gs.any fun h=>iw h g)=false/\¬br (lJ g) l 0>=0)/\M=MB p l (c+1) (gs++[g])/\HB p g τ) M τ))
  (fun M τ q=>q) (fun a6 w6 bb M6=>?_) (fun a' w' m h=>z a' w' (m.trans ba) h) (fun v s a' w' hc m hx=>y v s a' w' hc (m.trans ba) hx))
 have bb:=bb.trans ba;refine wp_seq (Ep.piece Uy ae M6 (PS:=⟨fun _=>True,[],some (zS p l gs res)⟩) (R:=(fun L ρ=>gF L ρ [(7,some (true,4))] fun u=>fZ (PB p l c gs) L (gD u) (RQ p l gs res))) (N:=(fun M τ=>(c+1<=400/\(gs.any fun h=>iw h g)=false/\¬br (lJ g) l 0>=0)/\M=MB p l (c+1) (gs++[g])/\HB p g τ))
  (fun M τ q=>q) (fun a7 w7 bz M7=>?_) (fun a' w' m h=>z a' w' (m.trans bb) h) (fun v s a' w' hc m hx=>y v s a' w' hc (m.trans bb) hx))
 have bz:=bz.trans bb;obtain⟨F7,L7,fg,N7,fo,f1,f2,f3,f4,f5,cd,rfl,dd⟩:=M7;have db:a7.tmps.getD 2 undef=.pointer (some ⟨b1,0,none⟩):=by
  have h2:=f3.env 2;rw[dd.2.1] at h2;obtain⟨h2,_⟩:=h2;obtain⟨cs',hg⟩:=f3.kp 1001 b1 t1 bl;rw[f2.eq 2,h2];simp only[conc,hg]
 refine wp_seq (wpD f4 db ?_);have MD:Ep G F Li w (fun M τ=>M=MB p l (c+1) (gs++[g])/\τ=eB p g) {(a7.put (some 37) (.func (.func 83) #[] #[.pointer (some ⟨b1,0,none⟩)])) with defers:=dq (.pointer (some ⟨b1,0,none⟩))::a7.defers} w7:=by
  have cc:=f2.put (L':=L7) (d:=some 37) (v:=.func (.func 83) #[] #[.pointer (some ⟨b1,0,none⟩)]) (x:=.v (.func (.func 83) #[] #[.pointer (some ⟨b1,0,none⟩)])) (fun k hk=>by injection hk with hk;subst hk;omega) rfl cq eJ (fun k g ty cs e=>⟨cs,e⟩);exact⟨F7,L7,_,_,_,f1,⟨cc.eq,cc.own,cc.el⟩,⟨f3.tl,Pu f3.env dd,f3.kp,f3.glob⟩,by simpa[Act.put] using f4,f5,rfl,rfl⟩
 have dn:(dq (.pointer (some ⟨b1,0,none⟩))::a7.defers)=[dq (.pointer (some ⟨b1,0,none⟩))]:=by rw[bz]
 refine Ep.piece Uz ae MD (PS:=⟨fun _=>True,[],some (zS p l (gs++[g]) res)⟩) (R:=U2 p l (gs++[g]) res) (N:=fun _ _=>False)
  (fun M τ q=>by rw[q.1,q.2];exact hB cd) (fun a' w' _ h=>(by obtain⟨_,_,_,_,_,_,_,_,_,_,h⟩:=h;exact h.elim)) (fun a' w' m h=>SY a' w' (m.trans dn) h) (fun v s a' w' hc m hx=>dg v s a' w' hc (m.trans dn) hx)
theorem Ej {f:Int->cn->pE}(hf:∀c g r d,0<=c->c<=400->f c g=(.ok r,d)->c<d/\d<=400):∀(l:List cn) (c:Int) (a:List gS) ps b,0<=c->c<=400->fV f l c a=(.ok ps,b)->c<=b/\b<=400
 | [],c,a,ps,b,h0,j,h=>by
  have h:(Except.ok a,c)=((Except.ok ps:Except Int (List gS)),b):=h;injection h with h1 m
  subst m;exact⟨abm _,j⟩
 | g::l,c,a,ps,b,h0,j,h=>by
  rw[fV] at h;cases k:f c g with
  | mk n d =>
   rw[k] at h;cases n with
   | error e=>injection h with h;cases h
   | ok r =>
    have h1:=hf c g r d h0 j k;have m:=Ej hf l d (a++[r]) ps b (by omega) h1.2 h;omega
theorem qD (p:Prog) (o:List aR):∀(n:Nat) (j:List cn) (c:Int) (g:cn) r d,0<=c->c<=400->cQ p o n j c g=(.ok r,d)->c<d/\d<=400
 | 0,j,c,g,r,d,_,_,h=>by rw[cQ] at h;injection h with h;cases h
 | n+1,j,c,g,r,d,h0,v,h=>by
  rw[cQ] at h;split at h
  ·injection h with h;cases h
  rename_i u;split at h
  ·injection h with h;cases h
  split at h
  ·injection h with _ h;subst h;omega
  cases m:qC g p.impls 0 with
  | none=>rw[m] at h;injection h with h;cases h
  | some q =>
   obtain⟨k,x,ts⟩:=q;rw[m] at h;simp only at h;cases l:fV (cQ p o n (j++[g])) (x.bounds.map (mJ ts)) (c+1) [] with
   | mk s t =>
    rw[l] at h;cases s with
    | error e=>injection h with h;cases h
    | ok ps =>
     injection h with _ h
     subst h;have:=Ej (f:=cQ p o n (j++[g])) (fun c q r d a b=>qD p o n (j++[g]) c q r d a b) (x.bounds.map (mJ ts)) (c+1) [] ps t (by omega) (by omega) l;omega
theorem Ye (p:Prog) (b:List aR) (e:p.impls.length<=9223372036854775807):∀(n:Nat) (gs:List cn) (c:Int) (g:cn),0<=c->c<=400->(gs.length:Int)<=c->401<=(n:Int)+c->Sg p b c gs g (cQ p b n gs c g)
 | 0,gs,c,g,h0,o,_,m=>vv m (by omega)
 | n+1,gs,c,g,h0,o,w,m=>by
  generalize a:cQ p b (n+1) gs c g=res;have a:=a;rw[cQ] at a;refine Sr p b c gs g res (by omega) (UB p b c gs g res ⟨h0,o⟩ w (fun h=>by rw[o5 h] at a;exact a.symm) (fun h d=>by rw[q9 h,o5 d] at a;exact a.symm)
   (fun h d q=>by rw[q9 h,q9 (by rw[d];exact abd),o5 q] at a;exact a.symm)) ?_
  rintro⟨k1,v,t⟩;rw[q9 (by omega),q9 (by rw[v];exact abd),q9 t] at a;refine UD p b (c+1) (gs++[g]) g res (cQ p b n (gs++[g])) (qC g) ⟨by omega,by omega⟩ (by rw[abJ];simp;omega) e (fun k=>rfl) (fun x l k=>rfl) (fun h=>?_) (fun k x ts h=>?_) fun f j h1 d=>⟨Ye p b e n (gs++[g]) f j (by omega) d (by rw[abJ];simp;omega) (by omega),fun r s h=>qD p b n (gs++[g]) f j r s (by omega) d h⟩
  ·rw[h] at a;exact a.symm
  ·rw[h] at a;simp only at a;rw[<-a];cases fV (cQ p b n (gs++[g])) (x.bounds.map (mJ ts)) (c+1) [] with
   | mk u f=>cases u<;>rfl
theorem Hh:∀{c:List Own}{n m:Nat},CF c [n,m]->∃g t cs b a cs',c=[.box g (t+1) cs,.box b (a+1) cs']/\cs.length=n/\cs'.length=m
 | [],_,_,h=>h.elim
 | [_],_,_,h=>h.2.elim
 | [o,p],n,m,h=>by
  cases o with
  | row=>exact h.1.elim
  | box g t cs =>
   cases t with
   | zero=>exact vv rfl (wB h.1)
   | succ t =>
    cases p with
    | row=>exact h.2.1.elim
    | box b a cs' =>
     cases a with
     | zero=>exact vv rfl (wB h.2.1)
     | succ a=>exact⟨g,t,cs,b,a,cs',rfl,h.1,h.2.1⟩
 | _::_::_::_,_,_,h=>h.2.2.elim
def zU:gS:=.mk false 0 [] []
def UG (v:Value):List (List Value):=match v with
 | .iface _ (.int _ n)=>[[.bool false,.int .i64 0,.slice none 0 0,.slice none 0 0],[.int .i64 n]]
 | _=>[]
theorem Ss (c:List Own) (w:World) (hb:CF c [4,1]):CallsD P 76 (c.map lB).toArray .returning w fun e h w'=>e=.returned (.tuple #[])/\h=.returning/\w'=w:=by
 have f:Try.f76.ntmps=13:=by kernel_rfl
 have l:Try.f76.results=#[]:=by kernel_rfl
 obtain⟨g,t,cs,k,j,cs',rfl,_,_⟩:=Hh hb;refine callsD_of_wpS Try.func76 rfl fun a cs d=>?_;apply wpS_seq;apply wpS_region;simp[wpOpsS,go_sem,recoverD,d,f,Exit.thenS,lB];refine wpS_of_wp (wp_block (wp_seq (wp_region ?_)));have b:P.underlying 20=some (.interface #[]):=by kernel_rfl
 have he:∀w:World,(Op.equal 20 .nilIface .nilIface).run P w=.ok true w:=fun w=>Eu b;simp[wpOps,go_sem,Exit.then,he,Exit.inBlock];refine .inl ?_;apply wp_cond_true
 ·simp[Act.eval,Array.replicate]
 apply wp_region;cases a
 simp_all [wpOps,go_sem,bodyPostS,results,Exit.inBlock]
theorem Pv:nN P 76 (fun v=>∃n,v=ze n) [4,1] UG:=by
 refine vE Try.func76 OB rfl Ss ?_;rintro F j v ⟨n,rfl⟩ hb;obtain⟨g,t,cs,h,f,cs',rfl,h1,e⟩:=Hh hb
 match cs,h1 with
 | [a,b,c,d],_ =>
  match cs',e with
  | [x],_=>(try intro l)<;>(try intro k)<;>exact rfl
theorem Bp {f:Int->cn->pE}{E:Int->Prop}(hf:∀c g e d,f c g=(.error e,d)->E e):∀(l:List cn) (c:Int) (a:List gS) e b,fV f l c a=(.error e,b)->E e
 | [],c,a,e,b,h=>by
  have h:(Except.ok a,c)=((Except.error e:Except Int (List gS)),b):=h;injection h with h;cases h
 | g::l,c,a,e,b,h=>by
  rw[fV] at h;cases j:f c g with
  | mk k d =>
   rw[j] at h;cases k with
   | error m =>
    injection h with h
    injection h with h
    subst h;exact hf c g _ _ j
   | ok r=>exact Bp hf l d (a++[r]) e b h
theorem rp (p:Prog) (l:List aR):∀(n:Nat) (a:List cn) (c:Int) (g:cn) e b,cQ p l n a c g=(.error e,b)->e=2\/e=9\/e=15
 | 0,a,c,g,e,b,h=>by rw[cQ] at h;injection h with h;injection h with h;exact .inl h.symm
 | n+1,a,c,g,e,b,h=>by
  rw[cQ] at h;split at h
  ·injection h with h;injection h with h;exact .inl h.symm
  split at h
  ·injection h with h;injection h with h;exact .inr (.inr h.symm)
  split at h
  ·injection h with h;cases h
  cases j:qC g p.impls 0 with
  | none=>rw[j] at h;injection h with h;injection h with h;exact .inr (.inl h.symm)
  | some q =>
   obtain⟨k,x,ts⟩:=q;rw[j] at h;simp only at h;cases d:fV (cQ p l n (a++[g])) (x.bounds.map (mJ ts)) (c+1) [] with
   | mk m o =>
    rw[d] at h;cases m with
    | ok ps=>injection h with h;cases h
    | error r =>
     injection h with h
     injection h with h
     subst h;exact Bp (f:=cQ p l n (a++[g])) (E:=fun e=>e=2\/e=9\/e=15) (fun c q e b h=>rp p l n (a++[g]) c q e b h) _ _ _ _ _ d
theorem CallsTS.toX {P:Program}{f:Nat}{args:List C}{Lin:List TO}{R:List TO->C->Prop}{Pp:List TO->Value->Prop}{Pq:Value->Prop}(h:CallsTS P f args Lin R Pp) (s:∀Mo v,Pp Mo v->Pq v):CallsTX P f args Lin R Pq :=
 ⟨fun F Li p h1 o c=>let k:=h.out F Li p h1 o c;⟨k.ent,k.mono,fun w a=>(k.run w a).mono fun e w' q=>by
  rcases q with q | ⟨v,r,F',Lo,t,n,d,l,b,j,Mo,x,u,m⟩
  ·exact .inl q
  ·exact .inr ⟨v,r,F',Lo,t,n,d,l,b,j,s _ _ m⟩⟩⟩
theorem Pw (L1:TL) (ks ko:List Nat) {L:TL}{ρ:aK}{PS:nG}{Pp:Value->Prop}{f:Nat}{args a:List C}{K:TL->aK->C->Prop}{Lin Lin':List TO}(h:CallsTX P f a Lin' (fun _ _=>False) Pp) (p:gives L L1 L1) (d:L1.sub ks=some Lin)
  (b:(covers L L1&&T.aP ks&&T.aP ko&&jv L1 ks ko&&aG Lin ks ko)=true) (j:(args.map fun c=>c.aaj.ren (bA ks 1000))=a) (k:Lin.map (TO.aad (C.ren (bA ks 1000)))=Lin') (l:∀v,Pp v->PS.ps v)
  (m:jw L1 ks PS.hb=true:=by rfl):kU P PS f args L ρ K:=by
 subst j k;simp only[aaN] at b;obtain⟨⟨⟨⟨n,o⟩,e⟩,c3⟩,c4⟩:=b;exact⟨[],ks,ko,L1,Lin,_,_,.inr ⟨p,n⟩,d,o,e,c3,c4,m,h,l,fun v Mo q=>q.elim⟩
noncomputable def iy (p:Prog) (a:List aR) (tr:Int) (t:Ty):gS×Int:=match(cQ p a 401 [] 0 ⟨tr,t⟩).1 with
 | .ok r=>(r,0)
 | .error e=>(zU,e)
theorem U3 (p:Prog) (a:List aR) (tr:Int) (t:Ty) (l:p.impls.length<=9223372036854775807):CallsT P 34 [pq p,.sl (a.map aS),IC tr,aT t] [] (aU [] (.tup [.agg (iq (iy p a tr t).1),IC (iy p a tr t).2])):=by
 have f:=Ye p a l 401 [] 0 ⟨tr,t⟩ (by omega) (by omega) (by simp) (by omega);have b:=rp p a 401 [] 0 ⟨tr,t⟩;unfold iy;generalize cQ p a 401 [] 0 ⟨tr,t⟩=res at f b ⊢;obtain⟨s,w⟩:=res;refine gu (PS:=fun v=>∃e,s=.error e/\v=ze e) (ns:=[4,1]) (out:=UG) Try.func34 OA (nN.mono Pv fun v ⟨e,_,h⟩=>⟨e,h⟩) (fun v ⟨e,_,h⟩=>by subst h;rfl) rfl rfl ?_ fun hw ho=>?_
 ·rintro v ⟨e,rfl,rfl⟩;have he:=b e w rfl;refine⟨.tup [.agg (iq zU),IC e],.tuple #[.agg #[.bool false,.int .i64 0,.slice none 0 0,.slice none 0 0],.int .i64 e],?_,?_,?_⟩
  ·intro L ρ h;obtain⟨a1,g1,t1,a2⟩:=h 0 8 _ rfl rfl;obtain⟨y,g2,t2,b2⟩:=h 1 9 _ rfl rfl;simp only[mZ,a1,a2,y,b2];rfl
  ·intro F L;have n:Rel F L (.sl []) (.slice none 0 0):=by
    rw[Rel];exact⟨none,0,rfl,aa3 _,by decide,fun _=>⟨rfl,rfl⟩,1,by rw[gk];trivial⟩
   have hb:Rel F L (.bool false) (.bool false):=by rw[Rel]
   have o:ax F L [] []:=by rw[ax]
   have cons:∀{c cs v u},Rel F L c v->ax F L cs u->ax F L (c::cs) (v::u):=fun h1 h2=>by
    rw[ax];exact⟨_,_,rfl,h1,h2⟩
   rw[Rel];refine⟨[.agg [.bool false,.int .i64 0,.slice none 0 0,.slice none 0 0].toArray,.int .i64 e],rfl,cons ?_ (cons (Ws (by omega) (by omega)) o)⟩;rw[Rel];exact⟨[.bool false,.int .i64 0,.slice none 0 0,.slice none 0 0],rfl,by rw[jf];exact cons hb (cons (Ws (m:=0) (by omega) (by omega)) (cons n (cons n o)))⟩
  ·intro Mo d;have d:Mo=[]:=d;subst d;exact⟨rfl,rfl⟩
 refine⟨rfl,?_⟩;cases s with
 | error e =>
  have h:CallsTX P 77 (zR p a ⟨tr,t⟩) (PB p a 0 []) (fun _ _=>False) (fun v=>v=ze e):=CallsTS.toX (CallsTS.imp f (fun Mo v ⟨r,k,q,_⟩=>by cases q) fun Mo v q=>q) fun Mo v ⟨x,k,q,_,j⟩=>by cases q;exact j
  exact Pw [(8,.box 64 [.bool false,IC 0,.nils,.nils]),(9,.box 45 [IC 0]),(10,.box 3 [IC 0]),(11,.box 107 [.rw 2000]),(12,.box 108 [.fn 77 [] [.own 10 0,.own 11 0,.pt [.sl (a.map aS)] 0,.pt (jU p) 0,.own 12 0]]),(2000,.row 110 4 [])] [10,11,12,2000] [10,11,12,2000] h ⟨.inl ⟨_,rfl,.inl ⟨rfl,rfl⟩⟩,.inl ⟨_,rfl,.inl ⟨rfl,rfl⟩⟩,.inl ⟨_,rfl,.inl ⟨rfl,rfl⟩⟩,.inl ⟨_,rfl,.inr ⟨107,_,_,rfl,rfl,_,_,rfl,su rfl rfl,rfl⟩⟩,.inl ⟨_,rfl,.inl ⟨rfl,rfl⟩⟩,.inr ⟨rfl,110,4,rfl⟩,trivial⟩ rfl rfl rfl rfl (fun v q=>⟨e,rfl,q⟩)
 | ok r =>
  have h:CallsTX P 77 (zR p a ⟨tr,t⟩) (PB p a 0 []) (aU (PB p a w []) (.agg [.bool r.assumed,IC r.index,.sl (r.types.map aM),.sl (r.proofs.map iq)])) (fun v=>False):=CallsTS.toX (CallsTS.imp f (fun Mo v ⟨r',k,q,z,j⟩=>by cases q;exact⟨z,by rw[j,jf]⟩) fun Mo v q=>q) fun Mo v ⟨x,k,q,_,j⟩=>by cases q
  refine Rb [(8,.box 64 [.bool false,IC 0,.nils,.nils]),(9,.box 45 [IC 0]),(10,.box 3 [IC 0]),(11,.box 107 [.rw 2000]),(12,.box 108 [.fn 77 [] [.own 10 0,.own 11 0,.pt [.sl (a.map aS)] 0,.pt (jU p) 0,.own 12 0]]),(2000,.row 110 4 [])] [10,11,12,2000] [10,11,12,2000] h ⟨.inl ⟨_,rfl,.inl ⟨rfl,rfl⟩⟩,.inl ⟨_,rfl,.inl ⟨rfl,rfl⟩⟩,.inl ⟨_,rfl,.inl ⟨rfl,rfl⟩⟩,.inl ⟨_,rfl,.inr ⟨107,_,_,rfl,rfl,_,_,rfl,su rfl rfl,rfl⟩⟩,.inl ⟨_,rfl,.inl ⟨rfl,rfl⟩⟩,.inr ⟨rfl,110,4,rfl⟩,trivial⟩ rfl rfl rfl rfl rfl (fun v q=>q.elim) fun _ _=>?_;rw[jf];exact aC rfl rfl
theorem CC {p:gS->Prop}(h:∀x,(∀q∈x.proofs,p q)->p x):∀x,p x
 | .mk b i l ps=>h _ fun q a=>CC h q
termination_by x=>SizeOf.sizeOf x
decreasing_by
 have:=List.sizeOf_lt_of_mem (show q∈ps from a);simp only[gS.mk.sizeOf_spec];omega
theorem Px {a b:gS}:a=b↔a.assumed=b.assumed/\a.index=b.index/\a.types=b.types/\a.proofs=b.proofs:=by
 cases a;cases b;rw[gS.mk.injEq];rfl
theorem Py {l:List gS}{k:Nat}{x:gS}{K:List C->Prop}(a:l[k]?=some x) (h:K [.bool x.assumed,IC x.index,.sl (x.types.map aM),.sl (x.proofs.map iq)]):uI (l.map iq) (k:Int) 4 K:=EW a (jf x) rfl h
abbrev ku (x:gS):C:=.agg [.bool x.assumed,IC x.index,.sl (x.types.map aM),.sl (x.proofs.map iq)]
theorem Pz (x:gS):C.agg (iq x)=ku x:=by rw[jf]
theorem Xo (a b:gS) (V:Bool) (u:gS->gS->Bool) (t:V=true↔a=b) (h:∀x y,u x y=true↔x=y) (ih:∀x∈a.proofs,∀y,CallsT P 35 [ku x,ku y] [] (aU [] (.bool (u x y)))):CallsT P 35 [ku a,ku b] [] (aU [] (.bool V)):=by
 have e:=t45 a.types b.types;rw[qo] at e;have r:=@oM (a.types=b.types);generalize zw (a.types=b.types)=tt at e r;rw[Px] at t;obtain⟨v1,v2⟩:=Ph t;have o:(a.proofs.map iq).length=a.proofs.length:=aaP _;have eb:(b.proofs.map iq).length=b.proofs.length:=aaP _;refine af Try.func35 NW rfl fun hw _=>?_;have s:a.proofs.length<=9223372036854775807:=by have:=gL hw.1.2.2.2.1;rwa [o] at this
 refine aX (fun q=>aC rfl (xo C.bool (v2 fun z=>q z.1).symm)) (fun q1=>?_);refine aX (fun q=>aC rfl (xo C.bool (v2 fun z=>q z.2.1).symm)) (fun w=>?_);refine bh e rfl fun _=>?_;refine aq (fun q=>aC rfl (xo C.bool (v2 fun z=>by rw[r.2 z.2.2.1] at q;cases q).symm)) (fun p=>?_);have p:=r.1 (by simpa using p);refine aX (fun q=>aC rfl (xo C.bool (v2 fun z=>q (by rw[z.2.2.2])).symm)) (fun v=>?_);have v:((a.proofs.map iq).length:Int)=((b.proofs.map iq).length:Int):=v;have ad:a.proofs.length=b.proofs.length:=by omega
 have w1:a.proofs=b.proofs->true=V:=fun z=>(v1 ⟨q1,w,p,z⟩).symm;have w2:¬a.proofs=b.proofs->false=V:=fun z=>(v2 fun y=>z y.2.2.2).symm;refine cu a.proofs.length 5 [] () (fun _=>[]) (fun _=>[]) (fun k _=>a.proofs.take k=b.proofs.take k) (by simp) (ak rfl) trivial trivial (fun _=>rfl) (fun _=>rfl) ?_;rintro k _ hk c _ _ _;have c:a.proofs.take k=b.proofs.take k:=c;refine ah (fun d=>?_) (fun j=>?_)
 ·have d:k<a.proofs.length:=by rw[o] at d;omega
  refine fJ d fun x f n=>?_;refine fJ (l:=b.proofs) (k:=k) (by omega) fun y m ac=>?_;refine Py f ?_;refine Py m ?_;refine bL (ih x n y) rfl fun _=>?_;refine aq (fun q=>?_) (fun q=>?_)
  ·refine aC rfl (xo C.bool (w2 fun z=>?_));rw[z,m] at f;injection f with f
   rw[(h x y).2 f.symm] at q;cases q
  ·have q:=(h x y).1 (by simpa using q);refine Fit.aag (by omega) (by omega) ?_;refine⟨(k+1,()),⟨d,?_⟩,⟨bS,trivial⟩,trivial,bV d⟩;show a.proofs.take (k+1)=b.proofs.take (k+1);rw[iG f,iG m,c,q]
 ·have j:¬k<a.proofs.length:=by rw[o] at j;omega
  rw[abC (by omega),abC (by omega)] at c;exact aC rfl (xo C.bool (w1 c))
theorem t35:∀a b:gS,CallsT P 35 [ku a,ku b] [] (aU [] (.bool (zw (a=b)))):=CC (p:=fun a=>∀b:gS,CallsT P 35 [ku a,ku b] [] (aU [] (.bool (zw (a=b))))) fun a d b =>
 Xo a b _ (fun x y=>zw (x=y)) oM (fun x y=>oM) fun x c y=>d x c y
mutual
/-- how many proofs a proof consists of -/
def Ek:gS->Nat
 | .mk _ _ _ ps=>vM ps+1
def vM:List gS->Nat
 | []=>0
 | x::l=>Ek x+vM l
end
theorem FE (x:gS):Ek x=vM x.proofs+1:=by cases x;rfl
theorem zk:∀(l:List gS) (x:gS),vM (l++[x])=vM l+Ek x
 | [],x=>by rw[abr,vM,vM];simp[vM]
 | y::l,x=>by rw[aa4,vM,zk l x,vM];omega
theorem LW {l:List gS}{k:Nat}{x:gS}(c:l.drop k=x::l.drop (k+1)) (f:l.take (k+1)=l.take k++[x]):vM l=vM (l.take k)+Ek x+vM (l.drop (k+1)):=by
 have:∀a b:List gS,vM (a++b)=vM a+vM b:=by
  intro a b
  induction a with
  | nil=>simp[vM]
  | cons y a d=>rw[aa4,vM,d,vM];omega
 have e:=this (l.take k) (l.drop k);rw[List.take_append_drop,c,vM] at e;omega
theorem t36:∀(a:gS) (n:Int),(Ek a:Int)<=n->n<=1000->CallsT P 36 [ku a,IC n] [] (aU [] (IC (Ek a))):=CC (p:=fun a=>∀n:Int,(Ek a:Int)<=n->n<=1000->CallsT P 36 [ku a,IC n] [] (aU [] (IC (Ek a)))) fun a u n z y=>by
 have r:(a.proofs.map iq).length=a.proofs.length:=aaP _;have h:=FE a;have b:=fun(k:Nat) (x:gS) (hd:a.proofs.drop k=x::a.proofs.drop (k+1)) (l:a.proofs.take (k+1)=a.proofs.take k++[x])=>LW hd l;have e:=zk;have d:vM []=0:=rfl;have f:∀x,1<=Ek x:=fun x=>by rw[FE];omega
 generalize Ek=sz at u z h b e f ⊢;generalize vM=sl at h b e d;refine af Try.func36 NX rfl fun hw _=>?_;have v:a.proofs.length<=9223372036854775807:=by have:=gL hw.1.2.2.2.1;rwa [r] at this
 refine cu a.proofs.length 6 [5] (1:Int) (fun s=>[IC s]) (fun _=>[]) (fun k s=>s=1+(sl (a.proofs.take k):Int)) (by rw[List.take_zero,d];rfl) (ak rfl) ⟨ak rfl,trivial⟩ trivial (fun _=>rfl) (fun _=>rfl) ?_;rintro k s hk m _ _ _;have m:s=1+(sl (a.proofs.take k):Int):=m;refine ah (fun c=>?_) (fun j=>?_)
 ·have c:k<a.proofs.length:=by rw[r] at c;omega
  refine aZ c fun x w o t=>?_;have l:=iG w;have h1:=b k x t l;have h2:=e (a.proofs.take k) x;rw[<-l] at h2;refine ah (fun _=>?_) (fun q=>vv (show s<=n by omega) q);refine Py w ?_;refine Fit.aag (by omega) (by omega) ?_;refine bh (u x o (n-s) (by omega) (by omega)) rfl fun _=>?_;refine Fit.aag (by omega) (by omega) ?_;refine Fit.aag (by omega) (by omega) ?_;exact⟨(k+1,s+(sz x:Int)),⟨c,(by show s+(sz x:Int)=1+(sl (a.proofs.take (k+1)):Int);omega)⟩,⟨bS,ak rfl,trivial⟩,trivial,bV c⟩
 ·have j:¬k<a.proofs.length:=by rw[r] at j;omega
  rw[abC (by omega)] at m;exact aC rfl (xo IC (by omega))
def LX (a:List aR) (tr:Int) (t:Ty) (i:Int) (n m:Nat):Bool:=decide (t.kind=5)&&(dR i a.length&&((match a[i.toNat]? with
 | some b=>decide (b.param=t.id)&&decide (b.trait=tr)
 | none=>false)&&decide (n+m=0)))
mutual
def qE (p:Prog) (bs:List aR):Int->Ty->gS->Bool
 | tr,t,.mk true i ts ps=>LX bs tr t i ts.length ps.length
 | tr,t,.mk false i ts ps=>dR i p.impls.length&&(match p.impls[i.toNat]? with
  | none=>false
  | some x=>decide (x.trait=tr)&&(decide ((ts.length:Int)=x.params)&&(decide (ps.length=x.bounds.length)&&(eqB (subst ts x.type) t&&zV p bs ts x.bounds ps))))
def zV (p:Prog) (bs:List aR) (ts:List Ty):List aR->List gS->Bool
 | b::l,q::ps=>dR b.param ts.length&&(qE p bs b.trait ((ts[b.param.toNat]?).getD zT) q&&zV p bs ts l ps)
 | _,_=>true
end
theorem Xp (x y:Ty):CallsT P 80 [aT x,aT y] [] (aU [] (.bool (eqB x y))):=by
 have:=X1 x y;rw[qo,Cl] at this;exact this
theorem Xq (p:Prog) (a:List aR) (tr:Int) (t:Ty) (x:gS) (u:x.assumed=true):CallsT P 37 [pq p,.sl (a.map aS),IC tr,aT t,ku x] [] (aU [] (.bool (LX a tr t x.index x.types.length x.proofs.length))):=by
 have d:=t85 (a.map aS) x.index;have s:(a.map aS).length=a.length:=aaP _;have n:(x.types.map aM).length=x.types.length:=aaP _;have j:(x.proofs.map iq).length=x.proofs.length:=aaP _;rw[s] at d;have e:LX a tr t x.index x.types.length x.proofs.length=(decide (t.kind=5)&&(dR x.index a.length&&((match a[x.index.toNat]? with
 | some b=>decide (b.param=t.id)&&decide (b.trait=tr)
 | none=>false)&&decide (x.types.length+x.proofs.length=0)))):=rfl
 generalize LX a tr t x.index x.types.length x.proofs.length=V at e ⊢;have hi:=@fu x.index a.length;generalize dR x.index a.length=ib at e d hi;refine af Try.func37 Gf rfl fun o _=>?_;have v:x.types.length<=9223372036854775807:=by have:=gL o.2.2.2.2.1.2.2.1;rwa [n] at this
 have w:x.proofs.length<=9223372036854775807:=by have:=gL o.2.2.2.2.1.2.2.2.1;rwa [j] at this
 refine aq (fun _=>?_) (fun q=>vv (show x.assumed=false from q) (by rw[u];exact Bool.noConfusion));refine ah (fun h=>?_) (fun h=>?_)
 ·have h:t.kind=5:=h;refine bL d rfl fun _=>?_;refine aq (fun c=>?_) (fun c=>?_)
  ·have c:ib=true:=c;have hi:=hi.1 c;refine fJ (l:=a) (k:=x.index.toNat) (by omega) fun b hb r=>?_;refine Bg hi.1 hb ?_;rw[hb,aaS h,c] at e;refine aq (fun f=>?_) (fun f=>?_)
   ·refine AY (m:=zx ((x.types.map aM).length+(x.proofs.map iq).length)) rfl ?_;refine aC rfl (xo C.bool ?_);have f:(decide (b.param=t.id)&&decide (b.trait=tr))=true:=f;rw[e];simp only[f,aaV,decide_eq_decide];unfold zx;rw[IntKind.wrap_i64,n,j];omega
   ·refine aC rfl (xo C.bool ?_);have f:(decide (b.param=t.id)&&decide (b.trait=tr))=false:=f;rw[e];simp only[f,aaY,abk]
  ·have c:ib=false:=c;exact aC rfl (xo C.bool (by rw[e,c];simp))
 ·exact aC rfl (xo C.bool (by rw[e,aaT (show¬t.kind=5 from h)];rfl))
theorem Sv {l:List Ty}{z:Int}{x:Ty}{K:List C->Prop}(h0:0<=z) (a:l[z.toNat]?=some x) (h:K [IC x.kind,IC x.id,.sl (x.args.map aM)]):uI (l.map aM) z 3 K :=
 ⟨_,h0,by rw[aa9,a];exact xo some (iM x),rfl,h⟩
structure Xr (p:Prog) (tr:Int) (t:Ty) (x:gS) (V:Bool) (pvL:List Ty->List aR->List gS->Bool):Prop where
 h0:dR x.index p.impls.length=false->V=false
 h1:∀y,0<=x.index->p.impls[x.index.toNat]?=some y->(¬y.trait=tr->V=false)/\(¬(x.types.length:Int)=y.params->V=false)/\(¬x.proofs.length=y.bounds.length->V=false)/\(eqB (subst x.types y.type) t=false->V=false) /\
  (y.trait=tr->(x.types.length:Int)=y.params->x.proofs.length=y.bounds.length->eqB (subst x.types y.type) t=true->pvL x.types y.bounds x.proofs=V)/\jl y.type
theorem Xt (p:Prog) (bs:List aR) (tr:Int) (t:Ty) (x:gS) (hx:x.assumed=false) (V:Bool) (pv:Int->Ty->gS->Bool) (m:List Ty->List aR->List gS->Bool) (X:Xr p tr t x V m)
  (e:∀ts,m ts [] []=true) (d:∀ts b l q ps,m ts (b::l) (q::ps)=(dR b.param ts.length&&(pv b.trait ((ts[b.param.toNat]?).getD zT) q&&m ts l ps)))
  (ih:∀q∈x.proofs,∀tr t,CallsT P 37 [pq p,.sl (bs.map aS),IC tr,aT t,ku q] [] (aU [] (.bool (pv tr t q)))):CallsT P 37 [pq p,.sl (bs.map aS),IC tr,aT t,ku x] [] (aU [] (.bool V)):=by
 obtain⟨h0,h1⟩:=X;have r:=t86 (p.impls.map dF) x.index;have ei:(p.impls.map dF).length=p.impls.length:=aaP _;have et:(x.types.map aM).length=x.types.length:=aaP _;have ep:(x.proofs.map iq).length=x.proofs.length:=aaP _;have f:=X0 (x.types.map aM);rw[ei] at r;rw[et] at f;have hi:=@fu x.index p.impls.length;have hj:=fun i=>@fu i x.types.length;generalize dR x.index p.impls.length=ib at h0 r hi;have w:=fun z h=>t16 x.types z h;have aa:=Xp;generalize eqB=eb at h1 aa;generalize subst x.types=sb at h1 w;generalize o:(fun i=>dR i x.types.length)=jb at f;have o:∀i,dR i x.types.length=jb i:=fun i=>by rw[<-o]
 have f:∀n:Int,CallsT P 84 [.sl (x.types.map aM),IC n] [] (aU [] (.bool (jb n))):=fun n=>by rw[<-o];exact f n
 simp only[o] at hj;have d:=fun b l q ps=>d x.types b l q ps;simp only[o] at d;have e:=e x.types;have h1:=fun y a b=>h1 y a b;generalize m x.types=pl at h1 d e;refine af Try.func37 Gf rfl fun hw _=>?_;have w2:x.proofs.length<=9223372036854775807:=by have:=gL hw.2.2.2.2.1.2.2.2.1;rwa [ep] at this
 refine aq (fun q=>vv (show x.assumed=true from q) (by rw[hx];exact Bool.noConfusion)) (fun _=>?_);refine bh r rfl fun _=>?_;refine aq (fun q=>?_) (fun q=>?_)
 ·exact aC rfl (xo C.bool (h0 (by simpa using q)).symm)
 have hi:=hi.1 (by simpa using q);refine fJ (l:=p.impls) (k:=x.index.toNat) (by omega) fun y hy bi=>?_;refine yV hi.1 hy ?_;have h1:=h1 y hi.1 hy;have s:(y.bounds.map aS).length=y.bounds.length:=aaP _;refine aX (fun q=>aC rfl (xo C.bool (h1.1 q).symm)) (fun e1=>?_);refine aX (fun q=>aC rfl (xo C.bool (h1.2.1 fun z=>q (by rw[et];exact z)).symm)) (fun e2=>?_);refine aX (fun q=>aC rfl (xo C.bool (h1.2.2.1 fun z=>q (by rw[ep,s,z])).symm)) (fun e3=>?_);refine bL (w y.type h1.2.2.2.2.2) rfl fun _=>?_;refine bL (aa (sb y.type) t) rfl fun _=>?_;refine aq (fun q=>?_) (fun e4=>?_)
 ·exact aC rfl (xo C.bool (h1.2.2.2.1 (by simpa using q)).symm)
 have e2:(x.types.length:Int)=y.params:=by rw[<-et];exact e2
 have e3:x.proofs.length=y.bounds.length:=by
  have e3:((x.proofs.map iq).length:Int)=((y.bounds.map aS).length:Int):=e3;omega
 have hV:=h1.2.2.2.2.1 e1 e2 e3 (by simpa using e4);refine cu y.bounds.length 95 [] () (fun _=>[]) (fun _=>[(12,.box 56 [IC y.trait,IC y.module,IC y.params,.sl (y.bounds.map aS),IC y.type.kind,IC y.type.id,.sl (y.type.args.map aM),IC y.func])]) (fun k _=>pl (y.bounds.drop k) (x.proofs.drop k)=V) hV (ak rfl) trivial ⟨.inl ⟨_,rfl,.inl ⟨rfl,rfl⟩⟩,trivial⟩ (fun _=>rfl) (fun _=>rfl) ?_;rintro k _ hk c _ _ _;have c:pl (y.bounds.drop k) (x.proofs.drop k)=V:=c;refine ah (fun j=>?_) (fun v=>?_)
 ·have j:k<y.bounds.length:=by rw[s] at j;omega
  refine aZ j fun b hb az ag=>?_;refine aZ (l:=x.proofs) (k:=k) (by omega) fun q hq al ac=>?_;rw[ag,ac,d] at c;refine Bg (by omega) (show y.bounds[((k:Int)).toNat]?=some b from hb) ?_;refine bL (f b.param) rfl fun _=>?_;refine aq (fun z=>?_) (fun z=>?_)
  ·exact aC rfl (xo C.bool (by rw[<-c,show jb b.param=false by simpa using z];rfl))
  have z:jb b.param=true:=by simpa using z
  have ae:=(hj b.param).1 z;rw[z,aaV] at c;refine fJ (l:=x.types) (k:=b.param.toNat) (by omega) fun u hu bb=>?_;refine Sv ae.1 hu ?_;refine Py hq ?_;rw[hu] at c;refine bL (ih q al b.trait u) rfl fun _=>?_;refine aq (fun z=>?_) (fun z=>?_)
  ·exact aC rfl (xo C.bool (by rw[<-c,show pv b.trait ((some u).getD zT) q=false by simpa using z];rfl))
  rw[show pv b.trait ((some u).getD zT) q=true by simpa using z,aaV] at c;refine Fit.aag (by omega) (by omega) ?_;exact⟨(k+1,()),⟨j,c⟩,⟨bS,trivial⟩,⟨.inl ⟨_,rfl,.inl ⟨rfl,rfl⟩⟩,trivial⟩,bV j⟩
 ·have v:¬k<y.bounds.length:=by rw[s] at v;omega
  rw[bW v,bW (l:=x.proofs) (by omega),e] at c;exact aC rfl (xo C.bool c)
theorem Xu (p:Prog) (c:List aR) (hB:∀x∈p.impls,jl x.type):∀(x:gS) (tr:Int) (t:Ty),CallsT P 37 [pq p,.sl (c.map aS),IC tr,aT t,ku x] [] (aU [] (.bool (qE p c tr t x))):=CC (p:=fun x=>∀(tr:Int) (t:Ty),CallsT P 37 [pq p,.sl (c.map aS),IC tr,aT t,ku x] [] (aU [] (.bool (qE p c tr t x)))) fun x j tr t=>by
 obtain⟨a,i,ts,ps⟩:=x;cases a with
 | true =>
  have:=Xq p c tr t (.mk true i ts ps) rfl;rw[qE];exact this
 | false =>
  refine Xt p c tr t (.mk false i ts ps) rfl _ (qE p c) (zV p c) ⟨fun h=>?_,fun y h0 d=>?_⟩ (fun ts=>by rw[zV];intros;contradiction) (fun ts b l q ps=>by rw[zV]) j
  ·rw[qE,show dR i p.impls.length=false from h];rfl
  ·have d:p.impls[i.toNat]?=some y:=d;have k:=(aaU.1 d).1;have h0:0<=i:=h0;have e:qE p c tr t (.mk false i ts ps)=(decide (y.trait=tr)&&(decide ((ts.length:Int)=y.params)&&(decide (ps.length=y.bounds.length)&&(eqB (subst ts y.type) t&&zV p c ts y.bounds ps)))):=by
    rw[qE,fu.2 ⟨h0,by omega⟩,aaV];simp only[d]
   rw[e];refine⟨fun h=>?_,fun h=>?_,fun h=>?_,fun h=>?_,fun o n f m=>?_,hB y (aaZ d)⟩
   ·rw[aaT h];rfl
   ·rw[aaT (show¬(ts.length:Int)=y.params from h)];simp
   ·rw[aaT (show¬ps.length=y.bounds.length from h)];simp
   ·rw[show eqB (subst ts y.type) t=false from h];simp
   ·rw[aaS o,aaS (show(ts.length:Int)=y.params from n),aaS (show ps.length=y.bounds.length from f),show eqB (subst ts y.type) t=true from m];rfl
section
variable {α:Type}{q:α->Bool}
theorem Bq:∀(l m:List α) (k:Int),br q l k>=0->br q (l++m) k=br q l k
 | [],m,k,h=>vv (show(-1:Int)>=0 from h) (by omega)
 | x::l,m,k,h=>by
  have h:(if q x=true then k else br q l (k+1))>=0:=h;show(if q x=true then k else br q (l++m) (k+1))=if q x=true then k else br q l (k+1)
  by_cases a:q x=true
  ·rw[o5 a,o5 a]
  ·rw[q9 a] at h;rw[q9 a,q9 a,Bq l m (k+1) h]
theorem Br:∀(l:List α) (k:Int),0<=br q l k->∃(j:Nat) (x:α),l[j]?=some x/\q x=true/\br q l k=k+j
 | [],k,h=>vv (show 0<=(-1:Int) from h) (by omega)
 | x::l,k,h=>by
  have h:0<=if q x=true then k else br q l (k+1):=h;show∃(j:Nat) (y:α),(x::l)[j]?=some y/\q y=true/\(if q x=true then k else br q l (k+1))=k+j
  by_cases a:q x=true
  ·exact⟨0,x,rfl,a,by rw[o5 a];simp⟩
  ·rw[q9 a] at h;obtain⟨j,y,h1,c,b⟩:=Br l (k+1) h;exact⟨j+1,y,by rw[abg];exact h1,c,by rw[q9 a,b];omega⟩
end
theorem zl {g:cn}:∀{l:List Impl}{k0 k:Nat}{x:Impl}{ts:List Ty},qC g l k0=some (k,x,ts)->∃j,k=k0+j/\l[j]?=some x/\x.trait=g.tr/\iS x g.t=(ts,true)
 | [],k0,k,x,ts,h=>by cases h
 | y::l,k0,k,x,ts,h=>by
  rw[qC] at h;split at h
  ·rename_i c;injection h with h
   injection h with h1 h
   injection h with b a
   subst b;exact⟨0,by omega,rfl,c.1,Prod.ext a c.2⟩
  ·obtain⟨j,h1,b,a⟩:=zl h;exact⟨j+1,by omega,by rw[abg];exact b,a⟩
theorem zm {f f':Int->cn->pE}(hf:∀c d g r j,0<=d->d<=c->c<=400->f c g=(.ok r,j)->c<j/\j<=400/\∃n a,f' d g=(.ok n,a)/\d<a/\a-d<=j-c):∀(l:List cn) (c d:Int) (k b:List gS) ps j,0<=d->d<=c->c<=400->fV f l c k=(.ok ps,j)->c<=j/\∃m a,fV f' l d b=(.ok m,a)/\d<=a/\a-d<=j-c
 | [],c,d,k,b,ps,j,h0,s,t,h=>by
  have h:((Except.ok k:Except Int (List gS)),c)=(.ok ps,j):=h;injection h with _ h
  exact⟨by omega,b,d,rfl,abm _,by omega⟩
 | g::l,c,d,k,b,ps,j,h0,s,t,h=>by
  rw[fV] at h;cases p:f c g with
  | mk x u =>
   rw[p] at h;cases x with
   | error e=>injection h with h;cases h
   | ok r =>
    obtain⟨q1,v,n,o,y,q4,q5⟩:=hf c d g r u h0 s t p;obtain⟨q6,m,a,w,q8,z⟩:=zm hf l u o (k++[r]) (b++[n]) ps j (by omega) (by omega) v h;exact⟨by omega,m,a,by rw[fV,y];exact w,by omega,by omega⟩
theorem zn (p:Prog) (o j:List aR):∀(n:Nat) (s:List cn) (c l:Int) (g:cn) r m,0<=l->l<=c->c<=400->cQ p o n s c g=(.ok r,m)->c<m/\m<=400/\∃z t,cQ p (o++j) n s l g=(.ok z,t)/\l<t/\t-l<=m-c
 | 0,s,c,l,g,r,m,_,_,_,h=>by rw[cQ] at h;injection h with h;cases h
 | n+1,s,c,l,g,r,m,h0,hc,h4,h=>by
  obtain⟨k1,k2⟩:=qD p o (n+1) s c g r m (by omega) h4 h;refine⟨k1,k2,?_⟩;rw[cQ] at h ⊢;split at h
  ·injection h with h;cases h
  rename_i h1;split at h
  ·injection h with h;cases h
  rename_i h2;rw[q9 (by omega),q9 h2];split at h
  ·rename_i u;rw[o5 (by rw[Bq o j 0 u];exact u)];exact⟨_,_,rfl,by omega,by omega⟩
  ·by_cases u:br (lJ g) (o++j) 0>=0
   ·rw[o5 u];exact⟨_,_,rfl,by omega,by omega⟩
   ·rw[q9 u];cases w:qC g p.impls 0 with
    | none=>rw[w] at h;injection h with h;cases h
    | some q =>
     obtain⟨k,x,ts⟩:=q;rw[w] at h;simp only at h ⊢;cases v:fV (cQ p o n (s++[g])) (x.bounds.map (mJ ts)) (c+1) [] with
     | mk r0 c1 =>
      rw[v] at h;cases r0 with
      | error e=>injection h with h;cases h
      | ok ps =>
       injection h with _ h
       subst h;obtain⟨q1,al,t,y,q3,q4⟩:=zm (f:=cQ p o n (s++[g])) (f':=cQ p (o++j) n (s++[g])) (fun c l q r m a b d e=>zn p o j n (s++[g]) c l q r m a b d e) (x.bounds.map (mJ ts)) (c+1) (l+1) [] [] ps c1 (by omega) (by omega) (by omega) v;rw[y];exact⟨_,_,rfl,by omega,by omega⟩
theorem El {f:Int->cn->pE}(hf:∀c g r b,f c g=(.ok r,b)->(Ek r:Int)=b-c):∀(l:List cn) (c:Int) (a:List gS) ps b,fV f l c a=(.ok ps,b)->(vM ps:Int)=vM a+(b-c)
 | [],c,a,ps,b,h=>by
  have h:((Except.ok a:Except Int (List gS)),c)=(.ok ps,b):=h;injection h with h1 h2
  injection h1 with h1
  subst h1 h2;omega
 | g::l,c,a,ps,b,h=>by
  rw[fV] at h;cases d:f c g with
  | mk m j =>
   rw[d] at h;cases m with
   | error e=>injection h with h;cases h
   | ok r =>
    have n:=hf c g r j d;have k:=El hf l j (a++[r]) ps b h;rw[zk] at k;omega
theorem zo (p:Prog) (j:List aR):∀(n:Nat) (b:List cn) (c:Int) (g:cn) r a,cQ p j n b c g=(.ok r,a)->(Ek r:Int)=a-c
 | 0,b,c,g,r,a,h=>by rw[cQ] at h;injection h with h;cases h
 | n+1,b,c,g,r,a,h=>by
  rw[cQ] at h;split at h
  ·injection h with h;cases h
  split at h
  ·injection h with h;cases h
  split at h
  ·injection h with h1 h
   injection h1 with h1
   subst h1 h;have:Ek (.mk true (br (lJ g) j 0) [] [])=1:=rfl;omega
  cases l:qC g p.impls 0 with
  | none=>rw[l] at h;injection h with h;cases h
  | some q =>
   obtain⟨k,x,ts⟩:=q;rw[l] at h;simp only at h;cases d:fV (cQ p j n (b++[g])) (x.bounds.map (mJ ts)) (c+1) [] with
   | mk m s =>
    rw[d] at h;cases m with
    | error e=>injection h with h;cases h
    | ok ps =>
     injection h with h1 h
     injection h1 with h1
     subst h1 h;have:=El (f:=cQ p j n (b++[g])) (fun c q r a h=>zo p j n (b++[g]) c q r a h) _ _ _ _ _ d;have e:Ek (.mk false (k:Int) ts ps)=vM ps+1:=FE _;have o:vM []=0:=rfl;omega
theorem LY {g:cn}{b:aR}:lJ g b=true↔g.t.kind=5/\b.param=g.t.id/\b.trait=g.tr:=by
 rw[lJ,aaN,aaN,aa2,aa2,aa2]
theorem FG {p:Prog}{d:List aR}{tr:Int}{t:Ty}{i:Int}{ts:List Ty}{ps:List gS}:qE p d tr t (.mk true i ts ps)=true↔t.kind=5/\0<=i/\d[i.toNat]?=some ⟨t.id,tr⟩/\ts=[]/\ps=[]:=by
 rw[qE,LX];simp only[aaN,aa2,fu];constructor
 ·rintro⟨h1,⟨e,c⟩,a,f⟩;obtain⟨b,hb⟩:=j8 (l:=d) (k:=i.toNat) (by omega);rw[hb] at a;simp only[aaN,aa2] at a;refine⟨h1,e,?_,abu (by omega),abu (by omega)⟩;rw[hb,<-a.1,<-a.2]
 ·rintro⟨h1,e,c,rfl,rfl⟩;have:=(aaU.1 c).1;rw[c];exact⟨h1,⟨e,by omega⟩,by simp,rfl⟩
theorem I0 {p:Prog}{c:List aR}{tr:Int}{t:Ty}{i:Int}{ts:List Ty}{ps:List gS}:qE p c tr t (.mk false i ts ps)=true↔0<=i/\∃x,p.impls[i.toNat]?=some x/\x.trait=tr/\(ts.length:Int)=x.params/\ps.length=x.bounds.length/\subst ts x.type=t/\zV p c ts x.bounds ps=true:=by
 rw[qE];simp only[aaN,fu];constructor
 ·rintro⟨⟨h1,d⟩,a⟩;obtain⟨x,b⟩:=j8 (l:=p.impls) (k:=i.toNat) (by omega);rw[b] at a;simp only[aaN,aa2,oO] at a;exact⟨h1,x,b,a⟩
 ·rintro⟨h1,x,b,a⟩;have:=(aaU.1 b).1;rw[b];simp only[aaN,aa2,oO];exact⟨⟨h1,by omega⟩,a⟩
theorem vN {p:Prog}{m:List aR}{ts:List Ty}{f:Int->cn->pE}(hf:∀c g r d,f c g=(.ok r,d)->qE p m g.tr g.t r=true):∀(l:List aR),(∀b∈l,dR b.param ts.length=true)->∀(c:Int) (a:List gS) ps d,fV f (l.map (mJ ts)) c a=(.ok ps,d)->∃j,ps=a++j/\j.length=l.length/\zV p m ts l j=true
 | [],_,c,a,ps,d,h=>by
  have h:((Except.ok a:Except Int (List gS)),c)=(.ok ps,d):=h;injection h with h1 h2
  injection h1 with h1
  exact⟨[],by rw[abo];exact h1.symm,rfl,by rw[zV];intros;contradiction⟩
 | b::l,hb,c,a,ps,d,h=>by
  rw[aa0,fV] at h;cases n:f c (mJ ts b) with
  | mk w o =>
   rw[n] at h;cases w with
   | error e=>injection h with h;cases h
   | ok r =>
    obtain⟨j,v,u,x⟩:=vN hf l (fun b h=>hb b (by simp[h])) o (a++[r]) ps d h;have k:=hb b (by simp);have s:=hf c (mJ ts b) r o n;refine⟨r::j,by rw[v,abM];rfl,by rw[aa7,aa7,u],?_⟩;rw[zV,k,x];have e:mJ ts b=⟨b.trait,(ts[b.param.toNat]?).getD zT⟩:=by unfold mJ;rw[o5 k]
    rw[e] at s;rw[show qE p m b.trait ((ts[b.param.toNat]?).getD zT) r=true from s];rfl
theorem qF (p:Prog) (d:List aR) (z:∀x∈p.impls,IV p x):∀(n:Nat) (s:List cn) (c:Int) (g:cn) r m,cQ p d n s c g=(.ok r,m)->qE p d g.tr g.t r=true
 | 0,s,c,g,r,m,h=>by rw[cQ] at h;injection h with h;cases h
 | n+1,s,c,g,r,m,h=>by
  rw[cQ] at h;split at h
  ·injection h with h;cases h
  split at h
  ·injection h with h;cases h
  split at h
  ·rename_i l;injection h with h1 h
   injection h1 with h1
   subst h1;obtain⟨j,b,v,u,h6⟩:=Br d 0 l;obtain⟨a1,a2,a3⟩:=LY.1 u;rw[FG];refine⟨a1,l,?_,rfl,rfl⟩;rw[h6,show(0+(j:Int)).toNat=j by omega,v,<-a2,<-a3]
  cases a:qC g p.impls 0 with
  | none=>rw[a] at h;injection h with h;cases h
  | some q =>
   obtain⟨k,x,ts⟩:=q;rw[a] at h;simp only at h;cases o:fV (cQ p d n (s++[g])) (x.bounds.map (mJ ts)) (c+1) [] with
   | mk r0 c1 =>
    rw[o] at h;cases r0 with
    | error e=>injection h with h;cases h
    | ok ps =>
     injection h with h1 h
     injection h1 with h1
     subst h1;obtain⟨j,h2,l,v,u⟩:=zl a;have y:=z x (aaZ l);obtain⟨m1,m2⟩:=(sJ y g.t ts).1 u;obtain⟨qs,w,q2,q3⟩:=vN (f:=cQ p d n (s++[g])) (fun c g r m h=>qF p d z n _ c g r m h) x.bounds (fun b hb=>fu.2 (by have:=y.bd b hb;omega)) _ _ _ _ o;rw[abr] at w;subst w;rw[I0];exact⟨by omega,x,by rw[show((k:Nat):Int).toNat=j by omega];exact l,v,m1,q2,m2,q3⟩
structure Yf (p:Prog):Prop where
 iv:∀x∈p.impls,IV p x
 no:∀(i k:Nat) (x y:Impl),i<k->p.impls[i]?=some x->p.impls[k]?=some y->x.trait=y.trait->¬comm x y
theorem Yf.one {p:Prog}(h:Yf p) {i k:Nat}{x y:Impl}{t:Ty}{m f:List Ty}(c:p.impls[i]?=some x) (a:p.impls[k]?=some y) (l:x.trait=y.trait) (n:cK t<=8) (h1:iS x t=(m,true)) (b:iS y t=(f,true)):i=k/\x=y/\m=f:=by
 have j:=h.iv x (aaZ c);have d:=h.iv y (aaZ a);have e:i=k:=by
  rcases Nat.lt_trichotomy i k with q | q | q
  ·exact vv (zj j d n h1 b) (h.no i k x y q c a l)
  ·exact q
  ·exact vv (zj d j n b h1) (h.no k i y x q a c l.symm)
 subst e;rw[c] at a;injection a with a
 subst a;rw[h1] at b;injection b with b _
 exact⟨rfl,rfl,b⟩
theorem Xv {a:Type}{f:a->Bool}{l:List a}{k:Nat}{x:a}(b:l[k]?=some x):(l.take (k+1)).all f=((l.take k).all f&&f x):=by
 rw[iG b,List.all_append];simp
theorem UH {els a:List (List C)}{sz b:Nat}{K:Prop}(n m:Nat) (e:∀es∈a,es.length=sz) (c:els.length=n) (d:a.length=m) (h:n+m<=2 ^ 30) (hb:b<=1024) (k:K):vQ els a sz b K :=
 ⟨e,by rw[c,d];simp only[maxLen];omega,by rw[c,d];exact abx (Nat.mul_le_mul h hb) (by decide),k⟩
theorem LZ {l:List aR}:∀es∈l.map aS,es.length=2:=fun es h=>by
 obtain⟨x,_,rfl⟩:=abt.1 h;rfl
structure Xw (p:Prog) (bs more:List aR) (tr:Int) (t:Ty) (F S:Bool) (x y:gS) (e f:Int) (va:Impl->Bool):Prop where
 h29:CallsT P 29 [] [] (aU [] (.bool true))
 h30:CallsT P 30 [pq p,.sl (bs.map aS)] [] (aU [] (.bool F))
 h12:CallsT P 12 [.sl [yG t]] [] (aU [] (.bool S))
 h34:F=true->CallsT P 34 [pq p,.sl (bs.map aS),IC tr,aT t] [] (aU [] (.tup [ku x,IC e]))
 h34':F=true->CallsT P 34 [pq p,.sl ((bs++more).map aS),IC tr,aT t] [] (aU [] (.tup [ku y,IC f]))
 he:e≠0->(e=9\/e=15\/e=2)/\x=zU
 hb:F=true->bs.length<=10
 hf:e=0->f=0/\CallsT P 36 [ku x,IC 400] [] (aU [] (IC (Ek x)))/\Ek x<=400
 h31:∀z,CallsT P 31 [pq p,GZ z] [] (aU [] (.bool (va z)))
 h35:CallsT P 35 [ku zU,ku zU] [] (aU [] (.bool true))
 h37:F=true->e=0->p.impls.all va=true->CallsT P 37 [pq p,.sl (bs.map aS),IC tr,aT t,ku x] [] (aU [] (.bool true))/\CallsT P 37 [pq p,.sl ((bs++more).map aS),IC tr,aT t,ku y] [] (aU [] (.bool true))
theorem t8e (p:Prog) (c a:List aR) (tr:Int) (t:Ty) (F S:Bool) (x y:gS) (e f:Int) (k:Impl->Bool) (X:Xw p c a tr t F S x y e f k) (he:e≠0):CallsT P 8 [pq p,.sl (c.map aS),.sl (a.map aS),IC tr,aT t] [] (aU [] (.bool true)):=by
 obtain⟨h29,h30,h12,h34,h34',b,hb,hf,h31,h35,h37⟩:=X;obtain⟨n,rfl⟩:=b he;refine af Try.func8 Hj rfl fun o _=>?_;refine bh h29 rfl fun _=>?_;refine bh h30 rfl fun _=>?_;refine aq (fun q=>aC rfl rfl) (fun j=>?_);refine ah (fun q=>aC rfl rfl) (fun l=>?_);refine bh h12 rfl fun _=>?_;refine aq (fun q=>aC rfl rfl) (fun m=>?_);refine bh (h34 (by simpa using j)) rfl fun _=>?_;refine aX (fun _=>?_) (fun q=>vv q he);refine ah (fun q=>bh h35 rfl fun _=>aC rfl rfl) (fun z1=>ah (fun q=>bh h35 rfl fun _=>aC rfl rfl) (fun h=>ah (fun q=>bh h35 rfl fun _=>aC rfl rfl) (fun d=>?_)));have z1:¬e=9:=z1;have h:¬e=15:=h;have d:¬e=2:=d;omega
theorem t8o (p:Prog) (d a:List aR) (tr:Int) (t:Ty) (F S:Bool) (x y:gS) (f:Impl->Bool) (X:Xw p d a tr t F S x y 0 0 f):CallsT P 8 [pq p,.sl (d.map aS),.sl (a.map aS),IC tr,aT t] [] (aU [] (.bool true)):=by
 obtain⟨h29,h30,h12,h34,h34',w,hb,hf,h31,h35,h37⟩:=X;obtain⟨_,v,f2⟩:=hf rfl;have r:(d.map aS).length=d.length:=aaP _;have s:(a.map aS).length=a.length:=aaP _;have l:(p.impls.map dF).length=p.impls.length:=aaP _;have u:(d++a).map aS=d.map aS++a.map aS:=abD;rw[u] at h34' h37;refine af Try.func8 Hj rfl fun hw _=>?_;have o:p.impls.length<=9223372036854775807:=by have:=gL hw.1.2.2.2.2.2.1;rwa [l] at this
 refine bh h29 rfl fun _=>?_;refine bh h30 rfl fun _=>?_;refine aq (fun q=>aC rfl rfl) (fun q1=>?_);refine ah (fun q=>aC rfl rfl) (fun m=>?_);have m:¬((a.map aS).length:Int)>10:=m;have e:F=true:=by simpa using q1
 refine bh h12 rfl fun _=>?_;refine aq (fun q=>aC rfl rfl) (fun q3=>?_);refine bh (h34 e) rfl fun _=>?_;refine UH 0 d.length LZ rfl r (by have:=hb e;omega) (by decide) ?_;refine UH d.length a.length LZ r s (by have:=hb e;omega) (by decide) ?_;refine F9 [63] [] [] (h34' e) ⟨_,rfl,rfl,rfl,rfl,rfl,fun _ _=>?_⟩;refine bh v rfl fun _=>?_;refine ah (fun q=>vv (show(Ek x:Int)>400 from q) (by omega)) (fun _=>?_);refine cu p.impls.length 17 [] () (fun _=>[]) (fun _=>[(12,.box 64 [.bool x.assumed,IC x.index,.sl (x.types.map aM),.sl (x.proofs.map iq)]),(15,.box 64 [.bool y.assumed,IC y.index,.sl (y.types.map aM),.sl (y.proofs.map iq)])]) (fun k _=>(p.impls.take k).all f=true) (by simp) (ak rfl) trivial ⟨.inl ⟨_,rfl,.inl ⟨rfl,rfl⟩⟩,.inl ⟨_,rfl,.inl ⟨rfl,rfl⟩⟩,trivial⟩ (fun _=>rfl) (fun _=>rfl) ?_;rintro k _ hk b _ _ _;have b:(p.impls.take k).all f=true:=b;refine ah (fun c=>?_) (fun j=>?_)
 ·have c:k<p.impls.length:=by rw[l] at c;omega
  refine fJ c fun z n ab=>?_;refine yV (by omega) (show p.impls[((k:Int)).toNat]?=some z from n) ?_;refine bL (h31 z) rfl fun _=>?_;refine aq (fun q=>?_) (fun q=>?_)
  ·exact aC rfl rfl
  refine Fit.aag (by omega) (by omega) ?_;refine⟨(k+1,()),⟨c,?_⟩,⟨bS,trivial⟩,⟨.inl ⟨_,rfl,.inl ⟨rfl,rfl⟩⟩,.inl ⟨_,rfl,.inl ⟨rfl,rfl⟩⟩,trivial⟩,bV c⟩;show(p.impls.take (k+1)).all f=true;rw[Xv n,b,show f z=true by simpa using q];rfl
 ·have j:¬k<p.impls.length:=by rw[l] at j;omega
  rw[abC (by omega)] at b;have h:=h37 e rfl b;refine bh h.1 rfl fun _=>?_;refine bh h.2 rfl fun _=>?_;exact aC rfl rfl
theorem wJ {p:Prog}{a:List aR}(h:Bn p a=true):p.datas.length<=20/\p.impls.length<=12/\a.length<=10/\∀x∈p.impls,x.bounds.length<=6/\jl x.type/\cK x.type<=30:=by
 unfold Bn at h;simp only[aaN,Bool.not_eq_true',abZ,aa1] at h;obtain⟨h1,j,f,c⟩:=h;refine⟨by omega,by omega,by omega,fun x d=>?_⟩;obtain⟨e,b⟩:=c x d;have:=(IK b).2 x.type (by simp);exact⟨by omega,this.1,this.2⟩
theorem UI (p:Prog) (a:List aR) (tr:Int) (t:Ty) (b:p.impls.length<=9223372036854775807):CallsT P 34 [pq p,.sl (a.map aS),IC tr,aT t] [] (aU [] (.tup [ku (iy p a tr t).1,IC (iy p a tr t).2])):=by
 have:=U3 p a tr t b;rw[Pz] at this;exact this
theorem nZ {p:Prog}{a:List aR}{tr:Int}{t:Ty}(h:(iy p a tr t).2=0):∃c,cQ p a 401 [] 0 ⟨tr,t⟩=(.ok (iy p a tr t).1,c):=by
 have he:=rp p a 401 [] 0 ⟨tr,t⟩;unfold iy at h ⊢;cases b:cQ p a 401 [] 0 ⟨tr,t⟩ with
 | mk d c =>
  rw[b] at h he;cases d with
  | ok r=>exact⟨c,rfl⟩
  | error e =>
   have:=he e c rfl;have h:e=0:=h;omega
theorem Bs {p:Prog}{a:List aR}{tr:Int}{t:Ty}(h:(iy p a tr t).2≠0):((iy p a tr t).2=9\/(iy p a tr t).2=15\/(iy p a tr t).2=2)/\(iy p a tr t).1=zU/\∃c,cQ p a 401 [] 0 ⟨tr,t⟩=(.error (iy p a tr t).2,c):=by
 have he:=rp p a 401 [] 0 ⟨tr,t⟩;unfold iy at h ⊢;cases b:cQ p a 401 [] 0 ⟨tr,t⟩ with
 | mk d c =>
  rw[b] at h he;cases d with
  | ok r=>exact vv rfl h
  | error e =>
   have:=he e c rfl;refine⟨?_,rfl,c,rfl⟩;show e=9\/e=15\/e=2;omega
theorem PA {p:Prog}{a:List aR}{tr:Int}{t:Ty}{r:gS}{c:Int}(h:cQ p a 401 [] 0 ⟨tr,t⟩=(.ok r,c)):iy p a tr t=(r,0):=by
 unfold iy;rw[h]
theorem t8 (h29:CallsT P 29 [] [] (aU [] (.bool true))) (p:Prog) (b a:List aR) (tr:Int) (t:Ty):CallsT P 8 [pq p,.sl (b.map aS),.sl (a.map aS),IC tr,aT t] [] (aU [] (.bool true)):=by
 have d:(iy p b tr t).2=0->(iy p (b++a) tr t).2=0:=fun h=>by
  obtain⟨c,e⟩:=nZ h;obtain⟨_,_,q,n,f,_⟩:=zn p b a 401 [] 0 0 ⟨tr,t⟩ _ c (abm _) (abm _) (by omega) e;rw[PA f]
 have X:Xw p b a tr t (Bn p b) (jJ [t]) (iy p b tr t).1 (iy p (b++a) tr t).1 (iy p b tr t).2 (iy p (b++a) tr t).2 (gN p):=by
  refine⟨h29,t30 p b,Un t,fun h=>UI p b tr t (by have:=(wJ h).2.1;omega),fun h=>UI p (b++a) tr t (by have:=(wJ h).2.1;omega),fun h=>⟨(Bs h).1,(Bs h).2.1⟩,fun h=>(wJ h).2.2.1,fun h=>⟨d h,?_,?_⟩,t31 p,?_,fun m he j=>?_⟩
  ·obtain⟨c,e⟩:=nZ h;have h1:=zo p b 401 [] 0 ⟨tr,t⟩ _ c e;have f:=qD p b 401 [] 0 ⟨tr,t⟩ _ c (by omega) (by omega) e;exact t36 _ 400 (by omega) (by omega)
  ·obtain⟨c,e⟩:=nZ h;have h1:=zo p b 401 [] 0 ⟨tr,t⟩ _ c e;have f:=qD p b 401 [] 0 ⟨tr,t⟩ _ c (by omega) (by omega) e;omega
  ·have:=t35 zU zU;rw[<-oN rfl] at this;exact this
  ·have j:∀x∈p.impls,IV p x:=fun x l=>kh ((aa1.1 j) x l);have hB:∀x∈p.impls,jl x.type:=fun x l=>((wJ m).2.2.2 x l).2.1;obtain⟨c,e⟩:=nZ he;obtain⟨o,k⟩:=nZ (d he);have h1:=Xu p b hB (iy p b tr t).1 tr t;have f:=Xu p (b++a) hB (iy p (b++a) tr t).1 tr t;rw[show qE p b tr t (iy p b tr t).1=true from qF p b j 401 [] 0 ⟨tr,t⟩ _ c e] at h1;rw[show qE p (b++a) tr t (iy p (b++a) tr t).1=true from qF p (b++a) j 401 [] 0 ⟨tr,t⟩ _ o k] at f;exact⟨h1,f⟩
 by_cases he:(iy p b tr t).2=0
 ·have hf:=d he;rw[he,hf] at X;exact t8o p b a tr t _ _ _ _ _ X
 ·exact t8e p b a tr t _ _ _ _ _ _ _ X he
end Go.Fr.Try
