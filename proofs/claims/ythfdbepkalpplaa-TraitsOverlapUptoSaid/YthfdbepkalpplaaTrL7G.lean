/- Part of the proofs of the statements of this seat. -/
import Derived.Test.YthfdbepkalpplaaTrP6G
import Derived.Test.YthfdbepkalpplaaFW2
import Derived.Test.YthfdbepkalpplaaTrCode2
import Derived.Test.YthfdbepkalpplaaFW3
import Derived.Test.YthfdbepkalpplaaTrIds
set_option maxRecDepth 10000
set_option linter.unusedVariables false
set_option linter.unusedSimpArgs false
namespace Go.Fr.Try
open Go Go.RowKit Go.Proofs Go.Fr Go.Fr.T Go.Fr.Api
theorem Fu {v:Value}{b:List PanicEntry}(h:rD v b):settle (.panicking b)=.panicking b:=by
 obtain⟨a,rfl,_⟩:=h;rfl
theorem OT {F:au}{L:Loc}{ρ:Env}{τ:aK}{p:Prog}{g:di}{x:Value}(h:∀j,aL F L (τ j) (ρ j)) (hb:HB p g τ):∀j,aL F L (eB p g j) (Fr.put (some 37) (.v x) ρ j):=by
 obtain⟨h1,q,y,r,z,h7⟩:=hb;intro j
 by_cases a:j=37
 ·subst a;trivial
 have u:Fr.put (some 37) (.v x) ρ j=ρ j:=by
  have b:Nat.beq j 37=false:=lF a;simp only[Fr.put,b]
 rw[u]
 by_cases f:j=1
 ·subst f;have:=h 1;rw[h1] at this;exact this
 by_cases l:j=2
 ·subst l;have:=h 2;rw[q] at this;exact this
 by_cases c:j=4
 ·subst c;have:=h 4;rw[y] at this;exact this
 by_cases k:j=5
 ·subst k;have:=h 5;rw[r] at this;exact this
 by_cases d:j=6
 ·subst d;have:=h 6;rw[z] at this;exact this
 by_cases e:j=7
 ·subst e;have:=h 7;rw[h7] at this;exact this
 have w:Nat.beq j 1=false:=lF f;have n:Nat.beq j 2=false:=lF l;have t:Nat.beq j 4=false:=lF c;have m:Nat.beq j 5=false:=lF k;have s:Nat.beq j 6=false:=lF d;have o:Nat.beq j 7=false:=lF e;simp only[eB,bg,w,n,t,m,s,o];trivial
theorem RP (p:Prog) (l:List bH) (c:Int) (gs:List di) (g:di) (res:sF) (de:gs.length<=400)
  (hA:evalTC P ⟨fun _=>True,[],some (zy p l gs res)⟩ XU (fun _ _ _=>False) (fun L ρ=>gF L ρ [(7,some (true,4))] fun u=>f9 (PB p l c gs) L (gD u) (RQ p l gs res))
   (fun M τ=>(c+1<=400/\(gs.any fun h=>iq h g)=false/\¬bL (nW g) l 0>=0)/\M=MB p l (c+1) (gs++[g])/\HB p g τ) (cD (PB p l c gs)) (jM 0 (zx p l g)))
  (hB:c+1<=400/\(gs.any fun h=>iq h g)=false/\¬bL (nW g) l 0>=0->evalTC P ⟨fun _=>True,[],some (zy p l (gs++[g]) res)⟩ WX (fun _ _ _=>False) (UD p l (gs++[g]) res) (fun _ _=>False) (MB p l (c+1) (gs++[g])) (eB p g)) :
  RA p l c gs g res:=by
 refine⟨fun F Li u hl bl ha=>⟨⟨Try.f77,Try.func77,by rw[D8];rfl,by kernel_rfl⟩,gC.aao,fun w hs=>?_⟩⟩;have ed:Try.f77.ntmps=97:=by kernel_rfl
 have ar:mF P Try.f77.results.toList=some [(7,some (true,4))]:=by kernel_rfl
 have dT:u.length=6:=by have:=ha.len;simpa using this
 obtain⟨G,eb,he,ht,ce,ae⟩:=RJ (97-u.toArray.size) hl bl ha hs;refine calls_of_wp_defers Try.func77 D8 ?_;rw[ed];generalize hR:(fun(en:Ending) (w':World)=>(∃v F' Lo,en=.returned v/\St F' (inp Lo) w'/\Step F (inp Li) w F' (inp Lo) w'/\gC Li (RQ p l gs res) F' Lo v) \/
  ∃v s F' Lo,en=.panicked s/\rD v s/\St F' (inp Lo) w'/\Step F (inp Li) w F' (inp Lo) w'/\Lo.length=Li.length/\(∀(i:Nat) g t cs,Li[i]?=some (.box g t cs)->∃cs',Lo[i]?=some (.box g t cs'))/\∃Mo,Mo.length=Lo.length/\bK F' (inp Lo) (cD Mo)/\PQ p l gs res Mo v)=RR
 have bk:Li.length=4:=hl
 -- the boxes that were handed over
 have al:∀(i:Nat) b t cs,Li[i]?=some (.box b t cs)->G (1000+i)=some (b,t):=fun i b t cs hi=>ce _ b t cs (by rw[aF,fo (by omega),show 1000+i-1000=i by omega];exact hi);have dj:∀k b t,G k=some (b,t)->∃cs i,k=1000+i/\i<4/\Li[i]?=some (.box b t cs):=fun k b t e=>by
  obtain⟨cs,h⟩:=ht.kp k b t e;rw[aF] at h;split at h
  case isFalse=>cases h
  refine⟨cs,k-1000,by omega,?_,h⟩;rw[<-bk];exact(aaR.1 h).1
 -- the box of the goals above
 have be:∃b1 t1 bd,Li[1]?=some (.box b1 t1 bd):=by
  have q:=bl 1001;rw[aF,fo (by omega)] at q;have q:xu F (inp Li) (some (.box 107 [.rw 1003])) (Li[1]?):=q;cases e:Li[1]? with
  | none=>rw[e] at q;exact q.elim
  | some o =>
   rw[e] at q;cases o with
   | row=>exact q.elim
   | box b t cs=>exact⟨b,t,cs,rfl⟩
 obtain⟨b1,t1,bd,be⟩:=be;have bp:=al 1 b1 t1 bd be
 -- how a panic ends
 have Rp:∀v s w' F' Lo c' e,rD v s->res=(.error e,c')->v=yT e->St F' (inp Lo) w'->Step F (inp Li) w F' (inp Lo) w'->Lo.length=4->bK F' (inp Lo) (cD (PB p l c' gs))->(∀(i:Nat) g t cs,Li[i]?=some (.box g t cs)->∃cs',Lo[i]?=some (.box g t cs'))->RR (.panicked s) w':=by
  intro v s w' F' Lo c' e q1 q2 q3 q4 q5 q6 q7 q8;rw[<-hR];exact .inr ⟨v,s,F',Lo,rfl,q1,q4,q5,by rw[q6,bk],q8,PB p l c' gs,by rw[q6];rfl,q7,e,c',q2,rfl,q3⟩
 -- what there is when it panics
 have bt:∀(cc:List di) (v:Value) (w':World),(∃F' L',St F' L' w'/\Step F (inp Li) w F' L' w'/\yY G ⟨fun _=>True,[],some (zy p l cc res)⟩ F' L' v) ->
   ∃F' Lo c' e,St F' (inp Lo) w'/\Step F (inp Li) w F' (inp Lo) w'/\Lo.length=4/\bK F' (inp Lo) (cD (PB p l c' cc))/\res=(.error e,c')/\v=yT e/\(∀(i:Nat) g t cs,Li[i]?=some (.box g t cs)->∃cs',Lo[i]?=some (.box g t cs')):=by
  rintro cc v w' ⟨F',L',g1,g2,kp,_,_,ek⟩;obtain⟨M',hp,Mo,av,e,c',hr,rfl,hv⟩:=ek _ rfl;obtain⟨Lo,d1,d2,d3⟩:=Eb hp av;obtain⟨x1,x2⟩:=cu d1;refine⟨F',Lo,c',e,g1.handed d1 (by decide),g2.sub (Ec d1),d2,RM d2 d1 d3,hr,hv,fun i b t cs hi=>?_⟩;have cp:i<4:=by rw[<-bk];exact(aaR.1 hi).1
  obtain⟨cs',h⟩:=kp _ b t (al i b t cs hi);have hk:([1000,1001,1002,1003]:List Nat)[i]?=some (1000+i):=by
   match i,cp with
   | 0,_=>rfl
   | 1,_=>rfl
   | 2,_=>rfl
   | 3,_=>rfl
  exact⟨cs',by rw[<-x2 i _ hk];exact h⟩
 have y:∀(v:Value) (s:List PanicEntry) (a':Act) (w':World),rD v s->a'.defers=[]->(∃F' L',St F' L' w'/\Step F (inp Li) w F' L' w'/\yY G ⟨fun _=>True,[],some (zy p l gs res)⟩ F' L' v)->bodyPostD P Try.f77 RR (.panic s) a' w':=by
  intro v s a' w' hc m hx;obtain⟨F',Lo,c',e,k1,k2,k3,k4,k5,k6,k7⟩:=bt gs v w' hx;show Leaves P Try.f77 a'.tmps RR a'.defers (.panicking s) w';rw[m];exact Rp v s w' F' Lo c' e hc k5 k6 k1 k2 k3 k4 k7
 have dn:∀(v:Value) (s:List PanicEntry) (a':Act) (w':World),rD v s->a'.defers=[dq (.pointer (some ⟨b1,0,none⟩))]->(∃F' L',St F' L' w'/\Step F (inp Li) w F' L' w'/\yY G ⟨fun _=>True,[],some (zy p l (gs++[g]) res)⟩ F' L' v)->bodyPostD P Try.f77 RR (.panic s) a' w':=by
  intro v s a' w' hc m hx;obtain⟨F',Lo,c',e,k1,k2,k3,k4,k5,k6,k7⟩:=bt (gs++[g]) v w' hx;show Leaves P Try.f77 a'.tmps RR a'.defers (.panicking s) w';rw[m];obtain⟨cX,ao⟩:=k7 1 b1 t1 bd be;refine leaves_cons (f:=83) (args:=#[.pointer (some ⟨b1,0,none⟩)]) (by simp) (by simp[invoke]) ?_;refine(WZ de k3 k4 ao (.panicking s) w' k1).mono ?_;rintro en u' w2 ⟨rfl,v2,F2,Lo2,rfl,m1,m2,m3,m4,m5⟩;show Leaves P Try.f77 a'.tmps RR [] (settle (.panicking s)) w2;rw[Fu hc];exact Rp v s w2 F2 Lo2 c' e hc k5 k6 m1 (k2.trans m2) m3 m4 fun i b t cs hi=>let⟨cs',h⟩:=k7 i b t cs hi;m5 i b t cs' h
 -- how it returns
 have z:∀(a':Act) (w':World),a'.defers=[]->Ei G F Li w (fun L ρ=>gF L ρ [(7,some (true,4))] fun u=>f9 (PB p l c gs) L (gD u) (RQ p l gs res)) a' w'->bodyPostD P Try.f77 RR .ret a' w':=by
  rintro a' w' m ⟨F',L',ρ',M',dk,g1,g2,g3,g4,g5,dr⟩;have hq:=Ah (P:=P) (fn:=Try.f77) (rs:=[(7,some (true,4))]) (n:=97) (asg:=[]) (a0:=a') (a':=a') (w':=w') ar hl bl ce
   ⟨F',L',ρ',g1,g2,g4,rfl,g5,fun _ _=>rfl,M',dk,g3,dr⟩
  obtain⟨_,v,k2,F2,Lo,k3,k4,k5⟩:=hq;show Leaves P Try.f77 a'.tmps RR a'.defers .returning w';rw[m];exact⟨v,k2,by rw[<-hR];exact .inl ⟨v,F2,Lo,rfl,k3,k4,k5⟩⟩
 have Sq:∀(a':Act) (w':World),a'.defers=[dq (.pointer (some ⟨b1,0,none⟩))]->Ei G F Li w (UD p l (gs++[g]) res) a' w'->bodyPostD P Try.f77 RR .ret a' w':=by
  rintro a' w' m ⟨F',L',ρ',M',dk,g1,g2,g3,g4,g5,h7,r,c',hr,av⟩;rw[jK] at av;obtain⟨Lo,d1,d2,d3⟩:=j4 g3.tl av;obtain⟨x1,x2⟩:=cu d1;have ee:bK F' (inp Lo) (cD (PB p l c' (gs++[g])++[.box 64 [.bool r.assumed,IC r.index,.sl (r.types.map aG),.sl (r.proofs.map jf)]])):=kT g3.tl d2 d1 d3;have ao:∀(i:Nat) b t cs,Li[i]?=some (.box b t cs)->∃cs',Lo[i]?=some (.box b t cs'):=fun i b t cs hi=>by
   have cp:i<4:=by rw[<-bk];exact(aaR.1 hi).1
   obtain⟨cs',h⟩:=g3.kp _ b t (al i b t cs hi);have hk:([1000,1001,1002,1003,7]:List Nat)[i]?=some (1000+i):=by
    match i,cp with
    | 0,_=>rfl
    | 1,_=>rfl
    | 2,_=>rfl
    | 3,_=>rfl
   exact⟨cs',by rw[<-x2 i _ hk];exact h⟩
  have bc:ρ' 7=.own 7 0/\∃b7 t7 bm,L'.get 7=some (.box b7 t7 bm):=by
   have:=g3.env 7;rw[h7] at this;exact this
  obtain⟨bc,b7,t7,bm,cM⟩:=bc;have cY:Lo[4]?=some (.box b7 t7 bm):=by rw[<-x2 4 7 rfl];exact cM
  have ea:a'.tmps.getD 7 undef=.pointer (some ⟨b7,0,none⟩):=by
   rw[g2.eq 7,bc];simp only[conc,cM]
  show Leaves P Try.f77 a'.tmps RR a'.defers .returning w';rw[m];obtain⟨cX,ci⟩:=ao 1 b1 t1 bd be;refine leaves_cons (f:=83) (args:=#[.pointer (some ⟨b1,0,none⟩)]) (by simp) (by simp[invoke]) ?_;refine(Un de d2 ee ci .returning w' (g1.handed d1 (by decide))).mono ?_;rintro en u' w2 ⟨rfl,v2,F2,Lo2,rfl,m1,m2,m3,m4,m5⟩;show Leaves P Try.f77 a'.tmps RR [] .returning w2;obtain⟨db,bu⟩:=m5 4 b7 t7 bm cY;have am:(inp Lo2).get 1004=some (.box b7 t7 db):=by rw[aF,fo (by omega)];exact bu
  have bb:∀j,j≠7->Fr.put (some 7) (.own 1004 0) (fun j=>.v (a'.tmps.getD j undef)) j=.v (a'.tmps.getD j undef):=fun j hj=>by
   have b:Nat.beq j 7=false:=lF hj;simp only[Fr.put,b]
  have co:∀j,j≠7->bg (some 7) (.own 1004 0) (fun _=>.any) j=.any:=fun j hj=>by
   have b:Nat.beq j 7=false:=lF hj;simp only[bg,b]
  have hq:=Ah (P:=P) (G:=G) (F:=F) (w:=w) (fn:=Try.f77) (rs:=[(7,some (true,4))]) (n:=97) (asg:=[]) (a0:=a') (a':=a') (w':=w2) (R:=RQ p l gs res) ar hl bl ce
   ⟨F2,inp Lo2,Fr.put (some 7) (.own 1004 0) (fun j=>.v (a'.tmps.getD j undef)),m1,?_,g4,rfl,(g5.sub (Ec d1)).trans m2,fun _ _=>rfl,cD (PB p l c' gs++[.box 64 [.bool r.assumed,IC r.index,.sl (r.types.map aG),.sl (r.proofs.map jf)]]),bg (some 7) (.own 1004 0) (fun _=>.any),⟨m4,fun j=>?_,fun k b t e=>?_,m1.glob⟩,?_⟩
  ·obtain⟨_,v,k2,F3,Lo3,k3,k4,k5⟩:=hq;exact⟨v,k2,by rw[<-hR];exact .inl ⟨v,F3,Lo3,rfl,k3,k4,k5⟩⟩
  ·refine⟨fun j=>?_,fun j k off e=>?_,fun j ad i e=>?_⟩
   ·by_cases hj:j=7
    ·subst hj;rw[ea];show _=conc (inp Lo2) (.own 1004 0);simp only[conc,am]
    ·rw[bb j hj];rfl
   ·by_cases hj:j=7
    ·subst hj;have e:SV.own 1004 0=.own k off:=e;injection e with e1 e2
     subst e1;exact⟨_,_,_,am⟩
    ·rw[bb j hj] at e;cases e
   ·by_cases hj:j=7
    ·subst hj;have e:SV.own 1004 0=.el ad i:=e;cases e
    ·rw[bb j hj] at e;cases e
  ·by_cases hj:j=7
   ·subst hj;exact⟨rfl,_,_,_,am⟩
   ·rw[co j hj];trivial
  ·obtain⟨cs,i,rfl,fa,hi⟩:=dj k b t e;obtain⟨cs',h'⟩:=ao i b t cs hi;obtain⟨dg,ei⟩:=m5 i b t cs' h';exact⟨dg,by rw[aF,fo (by omega),show 1000+i-1000=i by omega];exact ei⟩
  ·exact pu [1000,1001,1002,1003] rfl rfl rfl rfl ⟨r,c',hr,rfl,by rw[jK];rfl⟩
 -- the pieces
 have M0:Ei G F Li w (fun M τ=>M=cD (PB p l c gs)/\τ=jM 0 (zx p l g)) {tmps:=u.toArray++Array.replicate (97-u.toArray.size) undef,defers:=[]} w :=
  ⟨F,inp Li,eb,_,_,hs,he,ht,by simp[dT],Step.refl _ _ _,rfl,rfl⟩
 generalize dE:({tmps:=u.toArray++Array.replicate (97-u.toArray.size) undef,defers:=[]}:Act)=a0 at M0;have cm:a0.defers=[]:=by rw[<-dE]
 refine wp_seq (Ei.piece Ua ae M0 (PS:=⟨fun _=>True,[],some (zy p l gs res)⟩) (R:=(fun L ρ=>gF L ρ [(7,some (true,4))] fun u=>f9 (PB p l c gs) L (gD u) (RQ p l gs res))) (N:=(fun M τ=>evalTC P ⟨fun _=>True,[],some (zy p l gs res)⟩ (.seq WW (.seq UC (.seq T9 (.seq R3 (.seq Rz P0))))) (fun _ _ _=>False) (fun L ρ=>gF L ρ [(7,some (true,4))] fun u=>f9 (PB p l c gs) L (gD u) (RQ p l gs res)) (fun M τ=>(c+1<=400/\(gs.any fun h=>iq h g)=false/\¬bL (nW g) l 0>=0)/\M=MB p l (c+1) (gs++[g])/\HB p g τ) M τ))
  (fun M τ q=>by rw[q.1,q.2];exact hA) (fun a1 w1 aE M1=>?_) (fun a' w' m h=>z a' w' (m.trans cm) h) (fun v s a' w' hc m hx=>y v s a' w' hc (m.trans cm) hx))
 have aE:=aE.trans cm;refine wp_seq (Ei.piece Ub ae M1 (PS:=⟨fun _=>True,[],some (zy p l gs res)⟩) (R:=(fun L ρ=>gF L ρ [(7,some (true,4))] fun u=>f9 (PB p l c gs) L (gD u) (RQ p l gs res))) (N:=(fun M τ=>evalTC P ⟨fun _=>True,[],some (zy p l gs res)⟩ (.seq UC (.seq T9 (.seq R3 (.seq Rz P0)))) (fun _ _ _=>False) (fun L ρ=>gF L ρ [(7,some (true,4))] fun u=>f9 (PB p l c gs) L (gD u) (RQ p l gs res)) (fun M τ=>(c+1<=400/\(gs.any fun h=>iq h g)=false/\¬bL (nW g) l 0>=0)/\M=MB p l (c+1) (gs++[g])/\HB p g τ) M τ))
  (fun M τ q=>q) (fun a2 w2 bj M2=>?_) (fun a' w' m h=>z a' w' (m.trans aE) h) (fun v s a' w' hc m hx=>y v s a' w' hc (m.trans aE) hx))
 have bj:=bj.trans aE;refine wp_seq (Ei.piece Uc ae M2 (PS:=⟨fun _=>True,[],some (zy p l gs res)⟩) (R:=(fun L ρ=>gF L ρ [(7,some (true,4))] fun u=>f9 (PB p l c gs) L (gD u) (RQ p l gs res))) (N:=(fun M τ=>evalTC P ⟨fun _=>True,[],some (zy p l gs res)⟩ (.seq T9 (.seq R3 (.seq Rz P0))) (fun _ _ _=>False) (fun L ρ=>gF L ρ [(7,some (true,4))] fun u=>f9 (PB p l c gs) L (gD u) (RQ p l gs res)) (fun M τ=>(c+1<=400/\(gs.any fun h=>iq h g)=false/\¬bL (nW g) l 0>=0)/\M=MB p l (c+1) (gs++[g])/\HB p g τ) M τ))
  (fun M τ q=>q) (fun a3 w3 bi M3=>?_) (fun a' w' m h=>z a' w' (m.trans bj) h) (fun v s a' w' hc m hx=>y v s a' w' hc (m.trans bj) hx))
 have bi:=bi.trans bj;refine wp_seq (Ei.piece Ud ae M3 (PS:=⟨fun _=>True,[],some (zy p l gs res)⟩) (R:=(fun L ρ=>gF L ρ [(7,some (true,4))] fun u=>f9 (PB p l c gs) L (gD u) (RQ p l gs res))) (N:=(fun M τ=>evalTC P ⟨fun _=>True,[],some (zy p l gs res)⟩ (.seq R3 (.seq Rz P0)) (fun _ _ _=>False) (fun L ρ=>gF L ρ [(7,some (true,4))] fun u=>f9 (PB p l c gs) L (gD u) (RQ p l gs res)) (fun M τ=>(c+1<=400/\(gs.any fun h=>iq h g)=false/\¬bL (nW g) l 0>=0)/\M=MB p l (c+1) (gs++[g])/\HB p g τ) M τ))
  (fun M τ q=>q) (fun a4 w4 az M4=>?_) (fun a' w' m h=>z a' w' (m.trans bi) h) (fun v s a' w' hc m hx=>y v s a' w' hc (m.trans bi) hx))
 have az:=az.trans bi;refine wp_seq (Ei.piece Ue ae M4 (PS:=⟨fun _=>True,[],some (zy p l gs res)⟩) (R:=(fun L ρ=>gF L ρ [(7,some (true,4))] fun u=>f9 (PB p l c gs) L (gD u) (RQ p l gs res))) (N:=(fun M τ=>evalTC P ⟨fun _=>True,[],some (zy p l gs res)⟩ (.seq Rz P0) (fun _ _ _=>False) (fun L ρ=>gF L ρ [(7,some (true,4))] fun u=>f9 (PB p l c gs) L (gD u) (RQ p l gs res)) (fun M τ=>(c+1<=400/\(gs.any fun h=>iq h g)=false/\¬bL (nW g) l 0>=0)/\M=MB p l (c+1) (gs++[g])/\HB p g τ) M τ))
  (fun M τ q=>q) (fun a5 w5 ba M5=>?_) (fun a' w' m h=>z a' w' (m.trans az) h) (fun v s a' w' hc m hx=>y v s a' w' hc (m.trans az) hx))
 have ba:=ba.trans az;refine wp_seq (Ei.piece Uf ae M5 (PS:=⟨fun _=>True,[],some (zy p l gs res)⟩) (R:=(fun L ρ=>gF L ρ [(7,some (true,4))] fun u=>f9 (PB p l c gs) L (gD u) (RQ p l gs res))) (N:=(fun M τ=>evalTC P ⟨fun _=>True,[],some (zy p l gs res)⟩ P0 (fun _ _ _=>False) (fun L ρ=>gF L ρ [(7,some (true,4))] fun u=>f9 (PB p l c gs) L (gD u) (RQ p l gs res)) (fun M τ=>(c+1<=400/\(gs.any fun h=>iq h g)=false/\¬bL (nW g) l 0>=0)/\M=MB p l (c+1) (gs++[g])/\HB p g τ) M τ))
  (fun M τ q=>q) (fun a6 w6 aw M6=>?_) (fun a' w' m h=>z a' w' (m.trans ba) h) (fun v s a' w' hc m hx=>y v s a' w' hc (m.trans ba) hx))
 have aw:=aw.trans ba;refine wp_seq (Ei.piece Ug ae M6 (PS:=⟨fun _=>True,[],some (zy p l gs res)⟩) (R:=(fun L ρ=>gF L ρ [(7,some (true,4))] fun u=>f9 (PB p l c gs) L (gD u) (RQ p l gs res))) (N:=(fun M τ=>(c+1<=400/\(gs.any fun h=>iq h g)=false/\¬bL (nW g) l 0>=0)/\M=MB p l (c+1) (gs++[g])/\HB p g τ))
  (fun M τ q=>q) (fun a7 w7 cd M7=>?_) (fun a' w' m h=>z a' w' (m.trans aw) h) (fun v s a' w' hc m hx=>y v s a' w' hc (m.trans aw) hx))
 have cd:=cd.trans aw;obtain⟨F7,L7,ex,N7,fm,f1,f2,f3,f4,f5,cl,rfl,df⟩:=M7;have dp:a7.tmps.getD 2 undef=.pointer (some ⟨b1,0,none⟩):=by
  have h2:=f3.env 2;rw[df.2.1] at h2;obtain⟨h2,_⟩:=h2;obtain⟨cs',hg⟩:=f3.kp 1001 b1 t1 bp;rw[f2.eq 2,h2];simp only[conc,hg]
 refine wp_seq (wpD f4 dp ?_);have MD:Ei G F Li w (fun M τ=>M=MB p l (c+1) (gs++[g])/\τ=eB p g) {(a7.put (some 37) (.func (.func 83) #[] #[.pointer (some ⟨b1,0,none⟩)])) with defers:=dq (.pointer (some ⟨b1,0,none⟩))::a7.defers} w7:=by
  have cb:=f2.put (L':=L7) (d:=some 37) (v:=.func (.func 83) #[] #[.pointer (some ⟨b1,0,none⟩)]) (x:=.v (.func (.func 83) #[] #[.pointer (some ⟨b1,0,none⟩)])) (fun k hk=>by injection hk with hk;subst hk;omega) rfl cq eI (fun k g ty cs e=>⟨cs,e⟩);exact⟨F7,L7,_,_,_,f1,⟨cb.eq,cb.own,cb.el⟩,⟨f3.tl,OT f3.env df,f3.kp,f3.glob⟩,by simpa[Act.put] using f4,f5,rfl,rfl⟩
 have da:(dq (.pointer (some ⟨b1,0,none⟩))::a7.defers)=[dq (.pointer (some ⟨b1,0,none⟩))]:=by rw[cd]
 refine Ei.piece Uh ae MD (PS:=⟨fun _=>True,[],some (zy p l (gs++[g]) res)⟩) (R:=UD p l (gs++[g]) res) (N:=fun _ _=>False)
  (fun M τ q=>by rw[q.1,q.2];exact hB cl) (fun a' w' _ h=>(by obtain⟨_,_,_,_,_,_,_,_,_,_,h⟩:=h;exact h.elim)) (fun a' w' m h=>Sq a' w' (m.trans da) h) (fun v s a' w' hc m hx=>dn v s a' w' hc (m.trans da) hx)
theorem Ed {f:Int->di->sF}(m:∀c g r d,0<=c->c<=400->f c g=(.ok r,d)->c<d/\d<=400):∀(l:List di) (c:Int) (a:List kX) ps b,0<=c->c<=400->kY f l c a=(.ok ps,b)->c<=b/\b<=400
 | [],c,a,ps,b,h0,j,h=>by
  have h:(Except.ok a,c)=((Except.ok ps:Except Int (List kX)),b):=h;injection h with h1 k
  subst k;exact⟨abg _,j⟩
 | g::l,c,a,ps,b,h0,j,h=>by
  rw[kY] at h;cases n:f c g with
  | mk o d =>
   rw[n] at h;cases o with
   | error e=>injection h with h;cases h
   | ok r =>
    have h1:=m c g r d h0 j n;have k:=Ed m l d (a++[r]) ps b (by omega) h1.2 h;omega
theorem Ee (p:Prog) (o:List bH):∀(n:Nat) (j:List di) (c:Int) (g:di) r d,0<=c->c<=400->jr p o n j c g=(.ok r,d)->c<d/\d<=400
 | 0,j,c,g,r,d,_,_,h=>by rw[jr] at h;injection h with h;cases h
 | n+1,j,c,g,r,d,h0,v,h=>by
  rw[jr] at h;split at h
  ·injection h with h;cases h
  rename_i u;split at h
  ·injection h with h;cases h
  split at h
  ·injection h with _ h;subst h;omega
  cases l:AY g p.impls 0 with
  | none=>rw[l] at h;injection h with h;cases h
  | some q =>
   obtain⟨k,x,ts⟩:=q;rw[l] at h;simp only at h;cases m:kY (jr p o n (j++[g])) (x.bounds.map (vg ts)) (c+1) [] with
   | mk t s =>
    rw[m] at h;cases t with
    | error e=>injection h with h;cases h
    | ok ps =>
     injection h with _ h
     subst h;have:=Ed (f:=jr p o n (j++[g])) (fun c q r d a b=>Ee p o n (j++[g]) c q r d a b) (x.bounds.map (vg ts)) (c+1) [] ps s (by omega) (by omega) m;omega
theorem XW (p:Prog) (b:List bH) (e:p.impls.length<=9223372036854775807):∀(n:Nat) (gs:List di) (c:Int) (g:di),0<=c->c<=400->(gs.length:Int)<=c->401<=(n:Int)+c->RA p b c gs g (jr p b n gs c g)
 | 0,gs,c,g,h0,m,_,j=>o5 j (by omega)
 | n+1,gs,c,g,h0,m,w,j=>by
  generalize a:jr p b (n+1) gs c g=res;have a:=a;rw[jr] at a;refine RP p b c gs g res (by omega) (Uj p b c gs g res ⟨h0,m⟩ w (fun h=>by rw[fo h] at a;exact a.symm) (fun h d=>by rw[fL h,fo d] at a;exact a.symm)
   (fun h d u=>by rw[fL h,fL (by rw[d];exact aa8),fo u] at a;exact a.symm)) ?_
  rintro⟨k1,s,q⟩;rw[fL (by omega),fL (by rw[s];exact aa8),fL q] at a;refine Ul p b (c+1) (gs++[g]) g res (jr p b n (gs++[g])) (AY g) ⟨by omega,by omega⟩ (by rw[abG];simp;omega) e (fun k=>rfl) (fun x l k=>rfl) (fun h=>?_) (fun k x ts h=>?_) fun f o h1 d=>⟨XW p b e n (gs++[g]) f o (by omega) d (by rw[abG];simp;omega) (by omega),fun r t h=>Ee p b n (gs++[g]) f o r t (by omega) d h⟩
  ·rw[h] at a;exact a.symm
  ·rw[h] at a;simp only at a;rw[<-a];cases kY (jr p b n (gs++[g])) (x.bounds.map (vg ts)) (c+1) [] with
   | mk v f=>cases v<;>rfl
theorem GV:∀{c:List Own}{n m:Nat},Cx c [n,m]->∃g t cs b a cs',c=[.box g (t+1) cs,.box b (a+1) cs']/\cs.length=n/\cs'.length=m
 | [],_,_,h=>h.elim
 | [_],_,_,h=>h.2.elim
 | [o,p],n,m,h=>by
  cases o with
  | row=>exact h.1.elim
  | box g t cs =>
   cases t with
   | zero=>exact o5 rfl (wo h.1)
   | succ t =>
    cases p with
    | row=>exact h.2.1.elim
    | box b a cs' =>
     cases a with
     | zero=>exact o5 rfl (wo h.2.1)
     | succ a=>exact⟨g,t,cs,b,a,cs',rfl,h.1,h.2.1⟩
 | _::_::_::_,_,_,h=>h.2.2.elim
def OU:kX:=.mk false 0 [] []
def Uo (v:Value):List (List Value):=match v with
 | .iface _ (.int _ n)=>[[.bool false,.int .i64 0,.slice none 0 0,.slice none 0 0],[.int .i64 n]]
 | _=>[]
theorem RS (c:List Own) (w:World) (hb:Cx c [4,1]):CallsD P 76 (c.map lA).toArray .returning w fun e h w'=>e=.returned (.tuple #[])/\h=.returning/\w'=w:=by
 have f:Try.f76.ntmps=13:=by kernel_rfl
 have k:Try.f76.results=#[]:=by kernel_rfl
 obtain⟨g,t,cs,m,l,cs',rfl,_,_⟩:=GV hb;refine callsD_of_wpS Try.func76 rfl fun a cs d=>?_;apply wpS_seq;apply wpS_region;simp[wpOpsS,go_sem,recoverD,d,f,Exit.thenS,lA];refine wpS_of_wp (wp_block (wp_seq (wp_region ?_)));have b:P.underlying 20=some (.interface #[]):=by kernel_rfl
 have j:∀w:World,(Op.equal 20 .nilIface .nilIface).run P w=.ok true w:=fun w=>Em b;simp[wpOps,go_sem,Exit.then,j,Exit.inBlock];refine .inl ?_;apply wp_cond_true
 ·simp[Act.eval,Array.replicate]
 apply wp_region;cases a
 simp_all [wpOps,go_sem,bodyPostS,results,Exit.inBlock]
theorem OV:nK P 76 (fun v=>∃n,v=yT n) [4,1] Uo:=by
 refine vC Try.func76 NV rfl RS ?_;rintro F f v ⟨n,rfl⟩ hb;obtain⟨g,t,cs,l,k,cs',rfl,h1,e⟩:=GV hb
 match cs,h1 with
 | [a,b,c,d],_ =>
  match cs',e with
  | [x],_=>(try intro j)<;>(try intro h)<;>exact rfl
theorem Ba {f:Int->di->sF}{E:Int->Prop}(j:∀c g e d,f c g=(.error e,d)->E e):∀(l:List di) (c:Int) (a:List kX) e b,kY f l c a=(.error e,b)->E e
 | [],c,a,e,b,h=>by
  have h:(Except.ok a,c)=((Except.error e:Except Int (List kX)),b):=h;injection h with h;cases h
 | g::l,c,a,e,b,h=>by
  rw[kY] at h;cases k:f c g with
  | mk m d =>
   rw[k] at h;cases m with
   | error n =>
    injection h with h
    injection h with h
    subst h;exact j c g _ _ k
   | ok r=>exact Ba j l d (a++[r]) e b h
theorem Bb (p:Prog) (l:List bH):∀(n:Nat) (a:List di) (c:Int) (g:di) e d,jr p l n a c g=(.error e,d)->e=2\/e=9\/e=15
 | 0,a,c,g,e,d,h=>by rw[jr] at h;injection h with h;injection h with h;exact .inl h.symm
 | n+1,a,c,g,e,d,h=>by
  rw[jr] at h;split at h
  ·injection h with h;injection h with h;exact .inl h.symm
  split at h
  ·injection h with h;injection h with h;exact .inr (.inr h.symm)
  split at h
  ·injection h with h;cases h
  cases b:AY g p.impls 0 with
  | none=>rw[b] at h;injection h with h;injection h with h;exact .inr (.inl h.symm)
  | some q =>
   obtain⟨k,x,ts⟩:=q;rw[b] at h;simp only at h;cases j:kY (jr p l n (a++[g])) (x.bounds.map (vg ts)) (c+1) [] with
   | mk m o =>
    rw[j] at h;cases m with
    | ok ps=>injection h with h;cases h
    | error r =>
     injection h with h
     injection h with h
     subst h;exact Ba (f:=jr p l n (a++[g])) (E:=fun e=>e=2\/e=9\/e=15) (fun c q e d h=>Bb p l n (a++[g]) c q e d h) _ _ _ _ _ j
theorem CallsTS.toX {P:Program}{f:Nat}{args:List C}{Lin:List TO}{R:List TO->C->Prop}{Pp:List TO->Value->Prop}{Pq:Value->Prop}(h:CallsTS P f args Lin R Pp) (d:∀Mo v,Pp Mo v->Pq v):CallsTX P f args Lin R Pq :=
 ⟨fun F Li j h1 b n=>let k:=h.out F Li j h1 b n;⟨k.ent,k.mono,fun w c=>(k.run w c).mono fun e w' q=>by
  rcases q with q | ⟨v,s,F',Lo,o,a,t,l,r,m,Mo,x,u,p⟩
  ·exact .inl q
  ·exact .inr ⟨v,s,F',Lo,o,a,t,l,r,m,d _ _ p⟩⟩⟩
theorem OW (L1:TL) (ks ko:List Nat) {L:TL}{ρ:aK}{PS:nD}{Pp:Value->Prop}{f:Nat}{args a:List C}{K:TL->aK->C->Prop}{Lin Lin':List TO}(h:CallsTX P f a Lin' (fun _ _=>False) Pp) (p:gives L L1 L1) (k:L1.sub ks=some Lin)
  (b:(covers L L1&&T.aP ks&&T.aP ko&&jt L1 ks ko&&aI Lin ks ko)=true) (e:(args.map fun c=>c.aaj.ren (bh ks 1000))=a) (n:Lin.map (TO.aad (C.ren (bh ks 1000)))=Lin') (l:∀v,Pp v->PS.ps v)
  (j:ju L1 ks PS.hb=true:=by rfl):kR P PS f args L ρ K:=by
 subst e n;simp only[xo] at b;obtain⟨⟨⟨⟨d,o⟩,m⟩,c3⟩,c4⟩:=b;exact⟨[],ks,ko,L1,Lin,_,_,.inr ⟨p,d⟩,k,o,m,c3,c4,j,h,l,fun v Mo q=>q.elim⟩
noncomputable def zA (p:Prog) (a:List bH) (tr:Int) (t:Ty):kX×Int:=match(jr p a 401 [] 0 ⟨tr,t⟩).1 with
 | .ok r=>(r,0)
 | .error e=>(OU,e)
theorem W4 (p:Prog) (a:List bH) (tr:Int) (t:Ty) (l:p.impls.length<=9223372036854775807):CallsT P 34 [qZ p,.sl (a.map bP),IC tr,aR t] [] (aT [] (.tup [.agg (jf (zA p a tr t).1),IC (zA p a tr t).2])):=by
 have f:=XW p a l 401 [] 0 ⟨tr,t⟩ (by omega) (by omega) (by simp) (by omega);have b:=Bb p a 401 [] 0 ⟨tr,t⟩;unfold zA;generalize jr p a 401 [] 0 ⟨tr,t⟩=res at f b ⊢;obtain⟨w,u⟩:=res;refine gB (PS:=fun v=>∃e,w=.error e/\v=yT e) (ns:=[4,1]) (out:=Uo) Try.func34 NU (nK.mono OV fun v ⟨e,_,h⟩=>⟨e,h⟩) (fun v ⟨e,_,h⟩=>by subst h;rfl) rfl rfl ?_ fun hw ho=>?_
 ·rintro v ⟨e,rfl,rfl⟩;have he:=b e u rfl;refine⟨.tup [.agg (jf OU),IC e],.tuple #[.agg #[.bool false,.int .i64 0,.slice none 0 0,.slice none 0 0],.int .i64 e],?_,?_,?_⟩
  ·intro L ρ h;obtain⟨a1,g1,t1,z⟩:=h 0 8 _ rfl rfl;obtain⟨b1,g2,t2,x⟩:=h 1 9 _ rfl rfl;simp only[mW,a1,z,b1,x];rfl
  ·intro F L;have o:Rel F L (.sl []) (.slice none 0 0):=by
    rw[Rel];exact⟨none,0,rfl,aa0 _,by decide,fun _=>⟨rfl,rfl⟩,1,by rw[gu];trivial⟩
   have hb:Rel F L (.bool false) (.bool false):=by rw[Rel]
   have n:ay F L [] []:=by rw[ay]
   have cons:∀{c cs v s},Rel F L c v->ay F L cs s->ay F L (c::cs) (v::s):=fun h1 y=>by
    rw[ay];exact⟨_,_,rfl,h1,y⟩
   rw[Rel];refine⟨[.agg [.bool false,.int .i64 0,.slice none 0 0,.slice none 0 0].toArray,.int .i64 e],rfl,cons ?_ (cons (V1 (by omega) (by omega)) n)⟩;rw[Rel];exact⟨[.bool false,.int .i64 0,.slice none 0 0,.slice none 0 0],rfl,by rw[jK];exact cons hb (cons (V1 (m:=0) (by omega) (by omega)) (cons o (cons o n)))⟩
  ·intro Mo d;have d:Mo=[]:=d;subst d;exact⟨rfl,rfl⟩
 refine⟨rfl,?_⟩;cases w with
 | error e =>
  have h:CallsTX P 77 (zx p a ⟨tr,t⟩) (PB p a 0 []) (fun _ _=>False) (fun v=>v=yT e):=CallsTS.toX (CallsTS.imp f (fun Mo v ⟨r,k,q,_⟩=>by cases q) fun Mo v q=>q) fun Mo v ⟨e',k,q,_,j⟩=>by cases q;exact j
  exact OW [(8,.box 64 [.bool false,IC 0,.nils,.nils]),(9,.box 45 [IC 0]),(10,.box 3 [IC 0]),(11,.box 107 [.rw 2000]),(12,.box 108 [.fn 77 [] [.own 10 0,.own 11 0,.pt [.sl (a.map bP)] 0,.pt (jT p) 0,.own 12 0]]),(2000,.row 110 4 [])] [10,11,12,2000] [10,11,12,2000] h ⟨.inl ⟨_,rfl,.inl ⟨rfl,rfl⟩⟩,.inl ⟨_,rfl,.inl ⟨rfl,rfl⟩⟩,.inl ⟨_,rfl,.inl ⟨rfl,rfl⟩⟩,.inl ⟨_,rfl,.inr ⟨107,_,_,rfl,rfl,_,_,rfl,rZ rfl rfl,rfl⟩⟩,.inl ⟨_,rfl,.inl ⟨rfl,rfl⟩⟩,.inr ⟨rfl,110,4,rfl⟩,trivial⟩ rfl rfl rfl rfl (fun v q=>⟨e,rfl,q⟩)
 | ok r =>
  have h:CallsTX P 77 (zx p a ⟨tr,t⟩) (PB p a 0 []) (aT (PB p a u []) (.agg [.bool r.assumed,IC r.index,.sl (r.types.map aG),.sl (r.proofs.map jf)])) (fun v=>False):=CallsTS.toX (CallsTS.imp f (fun Mo v ⟨r',k,q,q1,j⟩=>by cases q;exact⟨q1,by rw[j,jK]⟩) fun Mo v q=>q) fun Mo v ⟨e',k,q,_,j⟩=>by cases q
  refine Qy [(8,.box 64 [.bool false,IC 0,.nils,.nils]),(9,.box 45 [IC 0]),(10,.box 3 [IC 0]),(11,.box 107 [.rw 2000]),(12,.box 108 [.fn 77 [] [.own 10 0,.own 11 0,.pt [.sl (a.map bP)] 0,.pt (jT p) 0,.own 12 0]]),(2000,.row 110 4 [])] [10,11,12,2000] [10,11,12,2000] h ⟨.inl ⟨_,rfl,.inl ⟨rfl,rfl⟩⟩,.inl ⟨_,rfl,.inl ⟨rfl,rfl⟩⟩,.inl ⟨_,rfl,.inl ⟨rfl,rfl⟩⟩,.inl ⟨_,rfl,.inr ⟨107,_,_,rfl,rfl,_,_,rfl,rZ rfl rfl,rfl⟩⟩,.inl ⟨_,rfl,.inl ⟨rfl,rfl⟩⟩,.inr ⟨rfl,110,4,rfl⟩,trivial⟩ rfl rfl rfl rfl rfl (fun v q=>q.elim) fun _ _=>?_;rw[jK];exact aC rfl rfl
theorem Fv {p:kX->Prop}(h:∀x,(∀q∈x.proofs,p q)->p x):∀x,p x
 | .mk b i l ps=>h _ fun q a=>Fv h q
termination_by x=>SizeOf.sizeOf x
decreasing_by
 have:=List.sizeOf_lt_of_mem (show q∈ps from a);simp only[kX.mk.sizeOf_spec];omega
theorem OX {a b:kX}:a=b↔a.assumed=b.assumed/\a.index=b.index/\a.types=b.types/\a.proofs=b.proofs:=by
 cases a;cases b;rw[kX.mk.injEq];rfl
theorem RT {l:List kX}{k:Nat}{x:kX}{K:List C->Prop}(a:l[k]?=some x) (h:K [.bool x.assumed,IC x.index,.sl (x.types.map aG),.sl (x.proofs.map jf)]):uE (l.map jf) (k:Int) 4 K:=EO a (jK x) rfl h
abbrev ri (x:kX):C:=.agg [.bool x.assumed,IC x.index,.sl (x.types.map aG),.sl (x.proofs.map jf)]
theorem W5 (a b:kX) (V:Bool) (u:kX->kX->Bool) (t:V=true↔a=b) (h:∀x y,u x y=true↔x=y) (w:∀x∈a.proofs,∀y,CallsT P 35 [ri x,ri y] [] (aT [] (.bool (u x y)))):CallsT P 35 [ri a,ri b] [] (aT [] (.bool V)):=by
 have e:=Z5 a.types b.types;rw[pq] at e;have n:=@oJ (a.types=b.types);generalize rY (a.types=b.types)=tt at e n;rw[OX] at t;obtain⟨v1,v2⟩:=OI t;have m:(a.proofs.map jf).length=a.proofs.length:=v5 _;have eb:(b.proofs.map jf).length=b.proofs.length:=v5 _;refine af Try.func35 Nr rfl fun hw _=>?_;have v:a.proofs.length<=9223372036854775807:=by have:=iG hw.1.2.2.2.1;rwa [m] at this
 refine aS (fun q=>aC rfl (vv C.bool (v2 fun z=>q z.1).symm)) (fun q1=>?_);refine aS (fun q=>aC rfl (vv C.bool (v2 fun z=>q z.2.1).symm)) (fun q2=>?_);refine bf e rfl fun _=>?_;refine aq (fun q=>aC rfl (vv C.bool (v2 fun z=>by rw[n.2 z.2.2.1] at q;cases q).symm)) (fun r=>?_);have r:=n.1 (by simpa using r);refine aS (fun q=>aC rfl (vv C.bool (v2 fun z=>q (by rw[z.2.2.2])).symm)) (fun s=>?_);have s:((a.proofs.map jf).length:Int)=((b.proofs.map jf).length:Int):=s;have ag:a.proofs.length=b.proofs.length:=by omega
 have w1:a.proofs=b.proofs->true=V:=fun z=>(v1 ⟨q1,q2,r,z⟩).symm;have w2:¬a.proofs=b.proofs->false=V:=fun z=>(v2 fun y=>z y.2.2.2).symm;refine cA a.proofs.length 5 [] () (fun _=>[]) (fun _=>[]) (fun k _=>a.proofs.take k=b.proofs.take k) (by simp) (ak rfl) trivial trivial (fun _=>rfl) (fun _=>rfl) ?_;rintro k _ hk c _ _ _;have c:a.proofs.take k=b.proofs.take k:=c;refine ah (fun d=>?_) (fun j=>?_)
 ·have d:k<a.proofs.length:=by rw[m] at d;omega
  refine fM d fun x f o=>?_;refine fM (l:=b.proofs) (k:=k) (by omega) fun y p ac=>?_;refine RT f ?_;refine RT p ?_;refine bJ (w x o y) rfl fun _=>?_;refine aq (fun q=>?_) (fun q=>?_)
  ·refine aC rfl (vv C.bool (w2 fun z=>?_));rw[z,p] at f;injection f with f
   rw[(h x y).2 f.symm] at q;cases q
  ·have q:=(h x y).1 (by simpa using q);refine Fit.aag (by omega) (by omega) ?_;refine⟨(k+1,()),⟨d,?_⟩,⟨bU,trivial⟩,trivial,bX d⟩;show a.proofs.take (k+1)=b.proofs.take (k+1);rw[jo f,jo p,c,q]
 ·have j:¬k<a.proofs.length:=by rw[m] at j;omega
  rw[abF (by omega),abF (by omega)] at c;exact aC rfl (vv C.bool (w1 c))
theorem t35:∀a b:kX,CallsT P 35 [ri a,ri b] [] (aT [] (.bool (rY (a=b)))):=Fv (p:=fun a=>∀b:kX,CallsT P 35 [ri a,ri b] [] (aT [] (.bool (rY (a=b))))) fun a c b =>
 W5 a b _ (fun x y=>rY (x=y)) oJ (fun x y=>oJ) fun x d y=>c x d y
def OY (a:List bH) (tr:Int) (t:Ty) (i:Int) (n m:Nat):Bool:=decide (t.kind=5)&&(dU i a.length&&((match a[i.toNat]? with
 | some b=>decide (b.param=t.id)&&decide (b.trait=tr)
 | none=>false)&&decide (n+m=0)))
mutual
def Ef (p:Prog) (bs:List bH):Int->Ty->kX->Bool
 | tr,t,.mk true i ts ps=>OY bs tr t i ts.length ps.length
 | tr,t,.mk false i ts ps=>dU i p.impls.length&&(match p.impls[i.toNat]? with
  | none=>false
  | some x=>decide (x.trait=tr)&&(decide ((ts.length:Int)=x.params)&&(decide (ps.length=x.bounds.length)&&(eqB (subst ts x.type) t&&Iu p bs ts x.bounds ps))))
def Iu (p:Prog) (bs:List bH) (ts:List Ty):List bH->List kX->Bool
 | b::l,q::ps=>dU b.param ts.length&&(Ef p bs b.trait ((ts[b.param.toNat]?).getD zT) q&&Iu p bs ts l ps)
 | _,_=>true
end
theorem W6 (x y:Ty):CallsT P 80 [aR x,aR y] [] (aT [] (.bool (eqB x y))):=by
 have:=XH x y;rw[pq,B6] at this;exact this
theorem W7 (p:Prog) (a:List bH) (tr:Int) (t:Ty) (x:kX) (u:x.assumed=true):CallsT P 37 [qZ p,.sl (a.map bP),IC tr,aR t,ri x] [] (aT [] (.bool (OY a tr t x.index x.types.length x.proofs.length))):=by
 have d:=t85 (a.map bP) x.index;have r:(a.map bP).length=a.length:=v5 _;have o:(x.types.map aG).length=x.types.length:=v5 _;have n:(x.proofs.map jf).length=x.proofs.length:=v5 _;rw[r] at d;have e:OY a tr t x.index x.types.length x.proofs.length=(decide (t.kind=5)&&(dU x.index a.length&&((match a[x.index.toNat]? with
 | some b=>decide (b.param=t.id)&&decide (b.trait=tr)
 | none=>false)&&decide (x.types.length+x.proofs.length=0)))):=rfl
 generalize OY a tr t x.index x.types.length x.proofs.length=V at e ⊢;have hi:=@ig x.index a.length;generalize dU x.index a.length=ib at e d hi;refine af Try.func37 FW rfl fun j _=>?_;have v:x.types.length<=9223372036854775807:=by have:=iG j.2.2.2.2.1.2.2.1;rwa [o] at this
 have w:x.proofs.length<=9223372036854775807:=by have:=iG j.2.2.2.2.1.2.2.2.1;rwa [n] at this
 refine aq (fun _=>?_) (fun q=>o5 (show x.assumed=false from q) (by rw[u];exact Bool.noConfusion));refine ah (fun h=>?_) (fun h=>?_)
 ·have h:t.kind=5:=h;refine bJ d rfl fun _=>?_;refine aq (fun c=>?_) (fun c=>?_)
  ·have c:ib=true:=c;have hi:=hi.1 c;refine fM (l:=a) (k:=x.index.toNat) (by omega) fun b hb s=>?_;refine AQ hi.1 hb ?_;rw[hb,aaQ h,c] at e;refine aq (fun f=>?_) (fun f=>?_)
   ·refine Az (m:=yZ ((x.types.map aG).length+(x.proofs.map jf).length)) rfl ?_;refine aC rfl (vv C.bool ?_);have f:(decide (b.param=t.id)&&decide (b.trait=tr))=true:=f;rw[e];simp only[f,aaS,decide_eq_decide];unfold yZ;rw[IntKind.wrap_i64,o,n];omega
   ·refine aC rfl (vv C.bool ?_);have f:(decide (b.param=t.id)&&decide (b.trait=tr))=false:=f;rw[e];simp only[f,aaV,abh]
  ·have c:ib=false:=c;exact aC rfl (vv C.bool (by rw[e,c];simp))
 ·exact aC rfl (vv C.bool (by rw[e,aaP (show¬t.kind=5 from h)];rfl))
theorem RW {l:List Ty}{z:Int}{x:Ty}{K:List C->Prop}(h0:0<=z) (a:l[z.toNat]?=some x) (h:K [IC x.kind,IC x.id,.sl (x.args.map aG)]):uE (l.map aG) z 3 K :=
 ⟨_,h0,by rw[aa5,a];exact vv some (f8 x),rfl,h⟩
structure W8 (p:Prog) (tr:Int) (t:Ty) (x:kX) (V:Bool) (pvL:List Ty->List bH->List kX->Bool):Prop where
 h0:dU x.index p.impls.length=false->V=false
 h1:∀y,0<=x.index->p.impls[x.index.toNat]?=some y->(¬y.trait=tr->V=false)/\(¬(x.types.length:Int)=y.params->V=false)/\(¬x.proofs.length=y.bounds.length->V=false)/\(eqB (subst x.types y.type) t=false->V=false) /\
  (y.trait=tr->(x.types.length:Int)=y.params->x.proofs.length=y.bounds.length->eqB (subst x.types y.type) t=true->pvL x.types y.bounds x.proofs=V)/\iN y.type
theorem W9 (p:Prog) (bs:List bH) (tr:Int) (t:Ty) (x:kX) (hx:x.assumed=false) (V:Bool) (pv:Int->Ty->kX->Bool) (j:List Ty->List bH->List kX->Bool) (X:W8 p tr t x V j)
  (e:∀ts,j ts [] []=true) (d:∀ts b l q ps,j ts (b::l) (q::ps)=(dU b.param ts.length&&(pv b.trait ((ts[b.param.toNat]?).getD zT) q&&j ts l ps)))
  (ih:∀q∈x.proofs,∀tr t,CallsT P 37 [qZ p,.sl (bs.map bP),IC tr,aR t,ri q] [] (aT [] (.bool (pv tr t q)))):CallsT P 37 [qZ p,.sl (bs.map bP),IC tr,aR t,ri x] [] (aT [] (.bool V)):=by
 obtain⟨h0,h1⟩:=X;have v:=t86 (p.impls.map dF) x.index;have ei:(p.impls.map dF).length=p.impls.length:=v5 _;have et:(x.types.map aG).length=x.types.length:=v5 _;have ep:(x.proofs.map jf).length=x.proofs.length:=v5 _;have f:=XG (x.types.map aG);rw[ei] at v;rw[et] at f;have hi:=@ig x.index p.impls.length;have hj:=fun i=>@ig i x.types.length;generalize dU x.index p.impls.length=ib at h0 v hi;have w:=fun z h=>t16 x.types z h;have aa:=W6;generalize eqB=eb at h1 aa;generalize subst x.types=sb at h1 w;generalize m:(fun i=>dU i x.types.length)=jb at f;have m:∀i,dU i x.types.length=jb i:=fun i=>by rw[<-m]
 have f:∀n:Int,CallsT P 84 [.sl (x.types.map aG),IC n] [] (aT [] (.bool (jb n))):=fun n=>by rw[<-m];exact f n
 simp only[m] at hj;have d:=fun b l q ps=>d x.types b l q ps;simp only[m] at d;have e:=e x.types;have h1:=fun y a b=>h1 y a b;generalize j x.types=pl at h1 d e;refine af Try.func37 FW rfl fun hw _=>?_;have w2:x.proofs.length<=9223372036854775807:=by have:=iG hw.2.2.2.2.1.2.2.2.1;rwa [ep] at this
 refine aq (fun q=>o5 (show x.assumed=true from q) (by rw[hx];exact Bool.noConfusion)) (fun _=>?_);refine bf v rfl fun _=>?_;refine aq (fun q=>?_) (fun q=>?_)
 ·exact aC rfl (vv C.bool (h0 (by simpa using q)).symm)
 have hi:=hi.1 (by simpa using q);refine fM (l:=p.impls) (k:=x.index.toNat) (by omega) fun y hy bc=>?_;refine AP hi.1 hy ?_;have h1:=h1 y hi.1 hy;have r:(y.bounds.map bP).length=y.bounds.length:=v5 _;refine aS (fun q=>aC rfl (vv C.bool (h1.1 q).symm)) (fun e1=>?_);refine aS (fun q=>aC rfl (vv C.bool (h1.2.1 fun z=>q (by rw[et];exact z)).symm)) (fun e2=>?_);refine aS (fun q=>aC rfl (vv C.bool (h1.2.2.1 fun z=>q (by rw[ep,r,z])).symm)) (fun e3=>?_);refine bJ (w y.type h1.2.2.2.2.2) rfl fun _=>?_;refine bJ (aa (sb y.type) t) rfl fun _=>?_;refine aq (fun q=>?_) (fun e4=>?_)
 ·exact aC rfl (vv C.bool (h1.2.2.2.1 (by simpa using q)).symm)
 have e2:(x.types.length:Int)=y.params:=by rw[<-et];exact e2
 have e3:x.proofs.length=y.bounds.length:=by
  have e3:((x.proofs.map jf).length:Int)=((y.bounds.map bP).length:Int):=e3;omega
 have hV:=h1.2.2.2.2.1 e1 e2 e3 (by simpa using e4);refine cA y.bounds.length 95 [] () (fun _=>[]) (fun _=>[(12,.box 56 [IC y.trait,IC y.module,IC y.params,.sl (y.bounds.map bP),IC y.type.kind,IC y.type.id,.sl (y.type.args.map aG),IC y.func])]) (fun k _=>pl (y.bounds.drop k) (x.proofs.drop k)=V) hV (ak rfl) trivial ⟨.inl ⟨_,rfl,.inl ⟨rfl,rfl⟩⟩,trivial⟩ (fun _=>rfl) (fun _=>rfl) ?_;rintro k _ hk c _ _ _;have c:pl (y.bounds.drop k) (x.proofs.drop k)=V:=c;refine ah (fun o=>?_) (fun s=>?_)
 ·have o:k<y.bounds.length:=by rw[r] at o;omega
  refine aW o fun b hb bi al=>?_;refine aW (l:=x.proofs) (k:=k) (by omega) fun q hq ac ag=>?_;rw[al,ag,d] at c;refine AQ (by omega) (show y.bounds[((k:Int)).toNat]?=some b from hb) ?_;refine bJ (f b.param) rfl fun _=>?_;refine aq (fun z=>?_) (fun z=>?_)
  ·exact aC rfl (vv C.bool (by rw[<-c,show jb b.param=false by simpa using z];rfl))
  have z:jb b.param=true:=by simpa using z
  have ae:=(hj b.param).1 z;rw[z,aaS] at c;refine fM (l:=x.types) (k:=b.param.toNat) (by omega) fun u hu ba=>?_;refine RW ae.1 hu ?_;refine RT hq ?_;rw[hu] at c;refine bJ (ih q ac b.trait u) rfl fun _=>?_;refine aq (fun z=>?_) (fun z=>?_)
  ·exact aC rfl (vv C.bool (by rw[<-c,show pv b.trait ((some u).getD zT) q=false by simpa using z];rfl))
  rw[show pv b.trait ((some u).getD zT) q=true by simpa using z,aaS] at c;refine Fit.aag (by omega) (by omega) ?_;exact⟨(k+1,()),⟨o,c⟩,⟨bU,trivial⟩,⟨.inl ⟨_,rfl,.inl ⟨rfl,rfl⟩⟩,trivial⟩,bX o⟩
 ·have s:¬k<y.bounds.length:=by rw[r] at s;omega
  rw[bS s,bS (l:=x.proofs) (by omega),e] at c;exact aC rfl (vv C.bool c)
theorem t37 (p:Prog) (c:List bH) (hB:∀x∈p.impls,iN x.type):∀(x:kX) (tr:Int) (t:Ty),CallsT P 37 [qZ p,.sl (c.map bP),IC tr,aR t,ri x] [] (aT [] (.bool (Ef p c tr t x))):=Fv (p:=fun x=>∀(tr:Int) (t:Ty),CallsT P 37 [qZ p,.sl (c.map bP),IC tr,aR t,ri x] [] (aT [] (.bool (Ef p c tr t x)))) fun x f tr t=>by
 obtain⟨a,i,ts,ps⟩:=x;cases a with
 | true =>
  have:=W7 p c tr t (.mk true i ts ps) rfl;rw[Ef];exact this
 | false =>
  refine W9 p c tr t (.mk false i ts ps) rfl _ (Ef p c) (Iu p c) ⟨fun h=>?_,fun y h0 d=>?_⟩ (fun ts=>by rw[Iu];intros;contradiction) (fun ts b l q ps=>by rw[Iu]) f
  ·rw[Ef,show dU i p.impls.length=false from h];rfl
  ·have d:p.impls[i.toNat]?=some y:=d;have k:=(aaR.1 d).1;have h0:0<=i:=h0;have e:Ef p c tr t (.mk false i ts ps)=(decide (y.trait=tr)&&(decide ((ts.length:Int)=y.params)&&(decide (ps.length=y.bounds.length)&&(eqB (subst ts y.type) t&&Iu p c ts y.bounds ps)))):=by
    rw[Ef,ig.2 ⟨h0,by omega⟩,aaS];simp only[d]
   rw[e];refine⟨fun h=>?_,fun h=>?_,fun h=>?_,fun h=>?_,fun m o n j=>?_,hB y (aaX d)⟩
   ·rw[aaP h];rfl
   ·rw[aaP (show¬(ts.length:Int)=y.params from h)];simp
   ·rw[aaP (show¬ps.length=y.bounds.length from h)];simp
   ·rw[show eqB (subst ts y.type) t=false from h];simp
   ·rw[aaQ m,aaQ (show(ts.length:Int)=y.params from o),aaQ (show ps.length=y.bounds.length from n),show eqB (subst ts y.type) t=true from j];rfl
theorem t7o (p:Prog) (a b:Impl) (t:Ty) (F S u s o w v:Bool) (D:Nat) (k:CallsT P 29 [] [] (aT [] (.bool true))) (l:CallsT P 30 [qZ p,.sl []] [] (aT [] (.bool F))) (j:CallsT P 12 [.sl [qX a.type,qX b.type,qX t]] [] (aT [] (.bool S)))
  (y:CallsT P 31 [qZ p,tX a] [] (aT [] (.bool u))) (hb:CallsT P 31 [qZ p,tX b] [] (aT [] (.bool s)))
  (m:S=true->u=true->s=true->CallsT P 32 [tX a,tX b] [] (aT [] (.bool o))/\CallsT P 32 [tX b,tX a] [] (aT [] (.bool o))/\CallsT P 32 [tX a,tX a] [] (aT [] (.bool true))/\(o=true->a.trait=b.trait)/\CallsT P 18 [aR t] [] (aT [] (IC D))/\(a.trait=b.trait->(D:Int)<=8->w=true->v=true->o=true))
  (e:CallsT P 33 [tX a,aR t] [] (aT [] (.bool w))) (d:CallsT P 33 [tX b,aR t] [] (aT [] (.bool v))):CallsT P 7 [qZ p,tX a,tX b,aR t] [] (aT [] (.bool true)):=by
 refine af Try.func7 QJ rfl fun hw _=>?_;refine bf k rfl fun _=>?_;refine bf l rfl fun _=>?_;refine aq (fun q=>?_) (fun q1=>?_)
 ·exact aC rfl rfl
 refine bf j rfl fun _=>?_;refine aq (fun q=>?_) (fun q2=>?_)
 ·exact aC rfl rfl
 refine bf y rfl fun _=>?_;refine aq (fun q=>?_) (fun q3=>?_)
 ·exact aC rfl rfl
 refine bf hb rfl fun _=>?_;refine aq (fun q=>?_) (fun x=>?_)
 ·exact aC rfl rfl
 have h:=m (by simpa using q2) (by simpa using q3) (by simpa using x);refine bf h.1 rfl fun _=>?_;refine bf h.2.1 rfl fun _=>?_;refine aq (fun q=>o5 (show rF true (decide (o=o))=true from q) (by simp[rF])) (fun _=>?_);refine bf h.2.2.1 rfl fun _=>?_;refine aq (fun q=>aS (fun z=>o5 (h.2.2.2.1 q) z) (fun _=>?_)) (fun q=>?_)
 all_goals
  refine ah (fun n=>bf h.2.2.2.2.1 rfl fun _=>ah (fun f=>bf e rfl fun _=>aq (fun r=>bf d rfl fun _=>?_) (fun r=>?_)) (fun f=>?_)) (fun n=>?_)
 ·exact aq (fun c=>aC rfl rfl) (fun c=>aC rfl (vv C.bool (h.2.2.2.2.2 n f r (by simpa using c))))
 ·exact aC rfl rfl
 ·exact aC rfl rfl
 ·exact aC rfl rfl
 ·exact aq (fun c=>aC rfl rfl) (fun c=>aC rfl (vv C.bool (h.2.2.2.2.2 n f r (by simpa using c))))
 ·exact aC rfl rfl
 ·exact aC rfl rfl
 ·exact aC rfl rfl
theorem Lv (a b c:Ty):CallsT P 12 [.sl [qX a,qX b,qX c]] [] (aT [] (.bool (jH [a,b,c]))):=by
 have:=Xy [a,b,c];rw[aaW,aaW,aaW,abv,f8,f8,f8] at this;exact this
theorem t7 (f:CallsT P 29 [] [] (aT [] (.bool true))) (p:Prog) (a b:Impl) (t:Ty):CallsT P 7 [qZ p,tX a,tX b,aR t] [] (aT [] (.bool true)):=by
 refine t7o p a b t _ _ _ _ (rY (GI a b)) _ _ (cn t) f (t30 p []) (Lv a.type b.type t) (t31 p a) (t31 p b) (fun c h1 m=>?_) (t33 a t) (t33 b t);obtain⟨_,c⟩:=Il c;obtain⟨a1,u⟩:=c a.type (by simp);obtain⟨d,s⟩:=c b.type (by simp);obtain⟨x,v⟩:=c t (by simp);have e:=js h1;have k:=js m;have r:=t32 a b a1 d (by omega) (by omega);have j:=t32 b a d a1 (by omega) (by omega);have l:=t32 a a a1 a1 (by omega) (by omega);rw[Fm,show rY (GI b a)=rY (GI a b) from qM (Lp k e d a1)] at j;rw[Fm,<-mL (Lu e a1)] at l;refine⟨r,j,l,fun h=>(Aq h).1,Z7 t (by omega),fun o w n q=>(mL (Ft e k a1 d o (by omega) n q)).symm⟩
def LA (h g:di):Bool:=decide (h.tr=g.tr)&&eqB h.t g.t
theorem OZ (h g:di):iq h g=LA h g:=by rw[iq,LA,B6]
def yV (p:Prog) (b:List bH):Nat->List di->Int->di->sF
 | 0,_,c,_=>(.error 2,c+1)
 | n+1,d,c,g=>if c+1>400 then(.error 2,c+1) else if(d.any fun h=>LA h g)=true then(.error 15,c+1) else
  if bL (nW g) b 0>=0 then(.ok (.mk true (bL (nW g) b 0) [] []),c+1) else
  match AY g p.impls 0 with
  | none=>(.error 9,c+1)
  | some (k,x,ts)=>match kY (yV p b n (d++[g])) (x.bounds.map (vg ts)) (c+1) [] with
   | (.ok ps,a)=>(.ok (.mk false k ts ps),a)
   | (.error e,a)=>(.error e,a)
theorem Cw (p:Prog) (a:List bH):∀n,jr p a n=yV p a n
 | 0=>rfl
 | n+1=>by
  funext ab c g
  rw[jr,yV,Cw p a n];simp only[OZ];rfl
theorem GW {p:Prog}{a:List bH}{tr:Int}{t:Ty}{r:kX}(h:(match(yV p a 401 [] 0 ⟨tr,t⟩).1 with | .ok r=>some r | .error _=>none)=some r):zA p a tr t=(r,0):=by
 unfold zA;rw[Cw];cases b:(yV p a 401 [] 0 ⟨tr,t⟩).1 with
 | ok c=>rw[b] at h;injection h with h;subst h;rfl
 | error e=>rw[b] at h;cases h
theorem LB {p:Prog}{a:List bH}{tr:Int}{t:Ty}{e:Int}(h:(match(yV p a 401 [] 0 ⟨tr,t⟩).1 with | .ok _=>none | .error e=>some e)=some e):zA p a tr t=(OU,e):=by
 unfold zA;rw[Cw];cases b:(yV p a 401 [] 0 ⟨tr,t⟩).1 with
 | ok c=>rw[b] at h;cases h
 | error d=>rw[b] at h;injection h with h;subst h;rfl
def i0:Impl:=⟨0,0,0,[],iT,0⟩
def i1:Impl:=⟨0,0,1,[⟨0,0⟩],bx (.mk 5 0 []),0⟩
def i2:Impl:=⟨0,0,0,[],bx iT,0⟩
def i3:Impl:=⟨0,1,0,[],.mk 4 0 [iT],0⟩
def o6 (l:List Impl):Prog:=⟨[⟨#[109]⟩],[],[],[⟨#[116]⟩],[0],l,[],0⟩
theorem s1:zA (o6 [i0,i1]) [] 0 (bx (bx iT))=(.mk false 1 [bx iT] [.mk false 1 [iT] [.mk false 0 [] []]],0):=GW rfl
theorem s2:zA (o6 [i0,i1]) [] 0 (.mk 4 0 [iT])=(OU,9):=LB rfl
theorem s3:zA (o6 [i0,i1]) [⟨2,0⟩] 0 (bx (.mk 5 2 []))=(.mk false 1 [.mk 5 2 []] [.mk true 0 [] []],0):=GW rfl
theorem v0 (l:List Impl):ij (o6 l) i0=true:=rfl
theorem v1 (l:List Impl):ij (o6 l) i1=true:=rfl
theorem v2 (l:List Impl):ij (o6 l) i2=true:=rfl
theorem v3 (l:List Impl):ij (o6 l) i3=true:=rfl
theorem UE:zu i0 i1=false:=by
 refine(gO fun h=>?_).symm;rw[oW (js (v0 [])) (js (v1 [])) (cI rfl) (cI rfl)] at h;obtain⟨_,a,b,_,_,h,_⟩:=h;have:=vv Ty.kind h;rw[subst_eq,subst_eq,fL (by intro q;exact o5 q.1 (by decide)),fL (by intro q;exact o5 q.1 (by decide))] at this;exact o5 (show(1:Int)=3 from this) (by decide)
theorem o02:zu i0 i2=false:=by
 refine(gO fun h=>?_).symm;rw[oW (js (v0 [])) (js (v2 [])) (cI rfl) (cI rfl)] at h;obtain⟨_,a,b,_,_,h,_⟩:=h;have:=vv Ty.kind h;rw[subst_eq,subst_eq,fL (by intro q;exact o5 q.1 (by decide)),fL (by intro q;exact o5 q.1 (by decide))] at this;exact o5 (show(1:Int)=3 from this) (by decide)
theorem XY:zu i1 i2=true:=by
 refine(mL ?_).symm;rw[oW (js (v1 [])) (js (v2 [])) (cI rfl) (cI rfl)];exact⟨rfl,[iT],[],rfl,rfl,rfl,by decide,fun x a=>by rw[abD.1 a];decide,fun x a=>by cases a⟩
theorem c01:D4 (o6 [i0,i1])=(0,0,0):=by
 have h1:bL (fun y=>zu y i1) [i0] 0=-1:=by
  show(if zu i0 i1=true then(0:Int) else bL _ [] _)=-1;rw[UE];rfl
 show pz (o6 [i0,i1]) [i0,i1] 0=_;rw[pz,fL (by rw[v0];simp),fL (by decide),fL (by decide),pz,fL (by rw[v1];simp),fL (by decide)];rw[show(o6 [i0,i1]).impls.take (0+1)=[i0] from rfl,h1,fL (by decide)];rfl
theorem Xe:D4 (o6 [i0,i1,i2])=(10,1,2):=by
 have h1:bL (fun y=>zu y i1) [i0] 0=-1:=by
  show(if zu i0 i1=true then(0:Int) else bL _ [] _)=-1;rw[UE];rfl
 have a:bL (fun y=>zu y i2) [i0,i1] 0=1:=by
  show(if zu i0 i2=true then(0:Int) else(if zu i1 i2=true then _ else bL _ [] _))=1;rw[o02,XY];rfl
 show pz (o6 [i0,i1,i2]) [i0,i1,i2] 0=_;rw[pz,fL (by rw[v0];simp),fL (by decide),fL (by decide),pz,fL (by rw[v1];simp),fL (by decide)];rw[show(o6 [i0,i1,i2]).impls.take (0+1)=[i0] from rfl,h1,fL (by decide),pz,fL (by rw[v2];simp),fL (by decide)];rw[show(o6 [i0,i1,i2]).impls.take (0+1+1)=[i0,i1] from rfl,a,fo (by decide)];rfl
theorem Xf:D4 (o6 [i0,i1,i3])=(9,2,2):=by
 have h1:bL (fun y=>zu y i1) [i0] 0=-1:=by
  show(if zu i0 i1=true then(0:Int) else bL _ [] _)=-1;rw[UE];rfl
 show pz (o6 [i0,i1,i3]) [i0,i1,i3] 0=_;rw[pz,fL (by rw[v0];simp),fL (by decide),fL (by decide),pz,fL (by rw[v1];simp),fL (by decide)];rw[show(o6 [i0,i1,i3]).impls.take (0+1)=[i0] from rfl,h1,fL (by decide),pz,fL (by rw[v3];simp),fo (by decide)];rfl
theorem t70:CallsT P 70 [] [] (aT [] (qZ (o6 [i0,i1]))):=by
 refine af Try.func70 ND rfl fun a _=>?_;refine bf R0 rfl fun _=>?_;refine bf (UB 0) rfl fun _=>?_;refine bf (QT 3 (.mk 5 0 [])) rfl fun _=>?_;exact aC rfl rfl
theorem Xg:CallsT P 70 [] [] (aT [.row 56 8 [dF i0,dF i1]] (.agg [.sl [[.str ⟨#[109]⟩]],.sl [],.sl [],.sl [[.str ⟨#[116]⟩]],.sl [[IC 0]],.rw 1000,.sl [],IC 0])):=by
 refine af Try.func70 Ly rfl fun a _=>?_;refine bf R0 rfl fun _=>?_;refine bf (UB 0) rfl fun _=>?_;refine bf (QT 3 (.mk 5 0 [])) rfl fun _=>?_;exact bq [11] rfl rfl rfl rfl
theorem Xh:CallsT P 34 [qZ (o6 [i0,i1]),.sl [],IC 0,aR (bx (bx iT))] [] (aT [] (.tup [.agg [.bool false,IC 1,.sl [aG (bx iT)],.sl [jf (.mk false 1 [iT] [.mk false 0 [] []])]],IC 0])):=by
 have:=W4 (o6 [i0,i1]) [] 0 (bx (bx iT)) (by decide);rw[s1] at this;exact this
theorem Xi:CallsT P 34 [qZ (o6 [i0,i1]),.sl [],IC 0,aR (.mk 4 0 [iT])] [] (aT [] (.tup [.agg [.bool false,IC 0,.sl [],.sl []],IC 9])):=by
 have:=W4 (o6 [i0,i1]) [] 0 (.mk 4 0 [iT]) (by decide);rw[s2] at this;exact this
theorem Xj:CallsT P 34 [qZ (o6 [i0,i1]),.sl [[IC 2,IC 0]],IC 0,aR (bx (.mk 5 2 []))] [] (aT [] (.tup [.agg [.bool false,IC 1,.sl [aG (.mk 5 2 [])],.sl [jf (.mk true 0 [] [])]],IC 0])):=by
 have:=W4 (o6 [i0,i1]) [⟨2,0⟩] 0 (bx (.mk 5 2 [])) (by decide);rw[s3] at this;exact this
theorem UF {l:List Impl}(h:∀x∈l,x=i0\/x=i1\/x=i2\/x=i3):∀x∈l,iN x.type/\cn x.type<=2 ^ 40:=fun x a=>by
 rcases h x a with rfl | rfl | rfl | rfl<;>exact⟨cI rfl,gJ rfl⟩
theorem Xk:CallsT P 40 [qZ (o6 [i0,i1])] [] (aT [] (.tup [IC 0,IC 0,IC 0])):=by
 have:=WM (o6 [i0,i1]) (UF (l:=[i0,i1]) fun x a=>by simp at a;rcases a with rfl | rfl<;>simp);rw[c01] at this;exact this
theorem Xl:CallsT P 40 [qZ (o6 [i0,i1,i2])] [] (aT [] (.tup [IC 10,IC 1,IC 2])):=by
 have:=WM (o6 [i0,i1,i2]) (UF (l:=[i0,i1,i2]) fun x a=>by simp at a;rcases a with rfl | rfl | rfl<;>simp);rw[Xe] at this;exact this
theorem Xm:CallsT P 40 [qZ (o6 [i0,i1,i3])] [] (aT [] (.tup [IC 9,IC 2,IC 2])):=by
 have:=WM (o6 [i0,i1,i3]) (UF (l:=[i0,i1,i3]) fun x a=>by simp at a;rcases a with rfl | rfl | rfl<;>simp);rw[Xf] at this;exact this
theorem P2:C2 P 40:=⟨Try.f40,Try.func40,by kernel_rfl,by kernel_rfl⟩
theorem P3 {a b c:Int}{F F':au}{L L':Loc}{v:Value}(h:Rel F L (.tup [IC a,IC b,IC c]) v):Rel F' L' (.tup [IC a,IC b,IC c]) v:=by
 simp only[Rel,ay] at h ⊢;exact h
abbrev XZ:C:=.agg [.sl [[.str ⟨#[109]⟩]],.sl [],.sl [],.sl [[.str ⟨#[116]⟩]],.sl [[IC 0]],.rw 1000,.sl [],IC 0]
theorem Xn:fq P 40 [XZ] [.row 56 8 [dF i0,dF i1,dF i2]] (aT [.row 56 8 [dF i0,dF i1,dF i2]] (.tup [IC 10,IC 1,IC 2])):=CallsT.aaI Xl P2 P3
theorem Xo:fq P 40 [XZ] [.row 56 8 [dF i0,dF i1,dF i3]] (aT [.row 56 8 [dF i0,dF i1,dF i3]] (.tup [IC 9,IC 2,IC 2])):=CallsT.aaI Xm P2 P3
theorem X0 (a:kX):CallsT P 35 [ri a,ri a] [] (aT [] (.bool true)):=by
 have:=t35 a a;rw[<-mL rfl] at this;exact this
theorem Xp:CallsT P 32 [tX i1,tX i2] [] (aT [] (.bool true)):=by
 have:=t32 i1 i2 (cI rfl) (cI rfl) (gJ rfl) (gJ rfl);rw[Fm,show rY (GI i1 i2)=zu i1 i2 from rfl,XY] at this;exact this
theorem Xq:CallsT P 32 [tX i0,tX i1] [] (aT [] (.bool false)):=by
 have:=t32 i0 i1 (cI rfl) (cI rfl) (gJ rfl) (gJ rfl);rw[Fm,show rY (GI i0 i1)=zu i0 i1 from rfl,UE] at this;exact this
theorem h37:CallsT P 37 [qZ (o6 [i0,i1]),.sl [],IC 0,aR (bx iT),ri (.mk false 1 [iT] [.mk false 0 [] []])] [] (aT [] (.bool true)) :=
 t37 (o6 [i0,i1]) [] (fun x a=>(UF (l:=[i0,i1]) (fun x a=>by simp at a;rcases a with rfl | rfl<;>simp) x a).1) (.mk false 1 [iT] [.mk false 0 [] []]) 0 (bx iT)
theorem UG:CallsT P 14 [qZ (o6 [i0,i1]),IC 1,aR (bx (.mk 5 0 []))] [] (aT [] (.bool true)):=XB 1 (o6 [i0,i1]) (bx (.mk 5 0 [])) (gJ rfl)
set_option maxRecDepth 100000 in
theorem t29:CallsT P 29 [] [] (aT [] (.bool true)):=by
 refine af Try.func29 Lw rfl fun a _=>?_;refine bf t70 rfl fun _=>?_;refine bf R0 rfl fun _=>?_;refine bf (QT 3 iT) rfl fun _=>?_;refine bJ (QT 3 (bx iT)) rfl fun _=>?_;refine bJ Xh rfl fun _=>?_;refine bJ R0 rfl fun _=>?_;refine bJ (QT 4 iT) rfl fun _=>?_;refine bJ Xi rfl fun _=>?_;refine bJ (UB 2) rfl fun _=>?_;refine bJ (QT 3 (.mk 5 2 [])) rfl fun _=>?_;refine bJ Xj rfl fun _=>?_;refine bf Xk rfl fun _=>?_;refine callO [] [5000] Xg rfl rfl rfl rfl rfl fun _ _=>?_;refine rB 2 rfl rfl (by decide) (by decide) ?_;refine u9 [5000] Xn rfl rfl rfl rfl rfl ?_;refine bJ R0 rfl fun _=>?_;refine bJ (QT 4 iT) rfl fun _=>?_;refine Bc.mk (by decide) (by decide) ?_;refine⟨rfl,Aw (show[dF i0,dF i1,dF i2][2]?=some (dF i2) from rfl) rfl ?_⟩;refine u9 [5000] Xo rfl rfl rfl rfl rfl ?_;refine bf R0 rfl fun _=>?_;refine bJ (X0 (.mk false 1 [bx iT] [.mk false 1 [iT] [.mk false 0 [] []]])) rfl fun _=>?_;refine bJ (UB 2) rfl fun _=>?_;refine bJ (X0 (.mk false 1 [.mk 5 2 []] [.mk true 0 [] []])) rfl fun _=>?_;refine EO (show(o6 [i0,i1]).impls[1]?=some i1 from rfl) rfl rfl ?_;refine bJ Xp rfl fun _=>?_;refine EO (show(o6 [i0,i1]).impls[0]?=some i0 from rfl) rfl rfl ?_;refine EO (show(o6 [i0,i1]).impls[1]?=some i1 from rfl) rfl rfl ?_;refine bJ Xq rfl fun _=>?_;refine bJ h37 rfl fun _=>?_;refine EO (show(o6 [i0,i1]).impls[1]?=some i1 from rfl) rfl rfl ?_;refine bJ UG rfl fun _=>?_;exact aC rfl rfl
end Go.Fr.Try

