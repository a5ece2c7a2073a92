/- Part of the proofs of the statements of this seat. -/
import Derived.Test.YthfdbepkalpplaaGreatVrP6G
import Derived.Test.YthfdbepkalpplaaGreatFW2
import Derived.Test.YthfdbepkalpplaaGreatVnF5G
set_option maxRecDepth 10000
set_option linter.unusedVariables false
set_option linter.unusedSimpArgs false
namespace Go.Fr.Tryz
open Go Go.RowKit Go.Proofs Go.Fr Go.Fr.T Go.Fr.Api
theorem Gt {v:Value}{a:List PanicEntry}(h:sj v a):settle (.panicking a)=.panicking a:=by
 obtain⟨b,rfl,_⟩:=h;rfl
theorem Qv {F:aA}{L:Loc}{ρ:Env}{τ:aG}{p:Prog}{g:cK}{x:Value}(h:∀j,aL F L (τ j) (ρ j)) (hb:HB p g τ):∀j,aL F L (eB p g j) (Fr.put (some 37) (.v x) ρ j):=by
 obtain⟨h1,h2,h4,h5,h6,h7⟩:=hb;intro j
 by_cases a:j=37
 ·subst a;trivial
 have o:Fr.put (some 37) (.v x) ρ j=ρ j:=by
  have b:Nat.beq j 37=false:=lZ a;simp only[Fr.put,b]
 rw[o]
 by_cases d:j=1
 ·subst d;have:=h 1;rw[h1] at this;exact this
 by_cases l:j=2
 ·subst l;have:=h 2;rw[h2] at this;exact this
 by_cases c:j=4
 ·subst c;have:=h 4;rw[h4] at this;exact this
 by_cases k:j=5
 ·subst k;have:=h 5;rw[h5] at this;exact this
 by_cases f:j=6
 ·subst f;have:=h 6;rw[h6] at this;exact this
 by_cases e:j=7
 ·subst e;have:=h 7;rw[h7] at this;exact this
 have n:Nat.beq j 1=false:=lZ d;have m:Nat.beq j 2=false:=lZ l;have r:Nat.beq j 4=false:=lZ c;have t:Nat.beq j 5=false:=lZ k;have s:Nat.beq j 6=false:=lZ f;have q:Nat.beq j 7=false:=lZ e;simp only[eB,bq,n,m,r,t,s,q];trivial
theorem TQ (p:Prog) (l:List aT) (c:Int) (gs:List cK) (g:cK) (res:rP) (df:gs.length<=400)
  (hA:evalTC P ⟨fun _=>True,[],some (Au p l gs res)⟩ Y9 (fun _ _ _=>False) (fun L ρ=>gV L ρ [(7,some (true,4))] fun s=>eS (PB p l c gs) L (gU s) (RQ p l gs res))
   (fun M τ=>(c+1<=400/\(gs.any fun h=>gX h g)=false/\¬bL (m9 g) l 0>=0)/\M=MB p l (c+1) (gs++[g])/\HB p g τ) (cO (PB p l c gs)) (kG 0 (Ar p l g)))
  (hB:c+1<=400/\(gs.any fun h=>gX h g)=false/\¬bL (m9 g) l 0>=0->evalTC P ⟨fun _=>True,[],some (Au p l (gs++[g]) res)⟩ X7 (fun _ _ _=>False) (Wo p l (gs++[g]) res) (fun _ _=>False) (MB p l (c+1) (gs++[g])) (eB p g)) :
  TD p l c gs g res:=by
 refine⟨fun F Li s hl bo ha=>⟨⟨Tryz.f29,Tryz.func29,by rw[EP];rfl,by kernel_rfl⟩,gQ.aap,fun w hs=>?_⟩⟩;have dC:Tryz.f29.ntmps=97:=by kernel_rfl
 have an:nA P Tryz.f29.results.toList=some [(7,some (true,4))]:=by kernel_rfl
 have ec:s.length=6:=by have:=ha.len;simpa using this
 obtain⟨G,dy,he,ht,cb,ae⟩:=TJ (97-s.toArray.size) hl bo ha hs;refine calls_of_wp_defers Tryz.func29 EP ?_;rw[dC];generalize hR:(fun(en:Ending) (w':World)=>(∃v F' Lo,en=.returned v/\St F' (inp Lo) w'/\Step F (inp Li) w F' (inp Lo) w'/\gQ Li (RQ p l gs res) F' Lo v) \/
  ∃v m F' Lo,en=.panicked m/\sj v m/\St F' (inp Lo) w'/\Step F (inp Li) w F' (inp Lo) w'/\Lo.length=Li.length/\(∀(i:Nat) g t cs,Li[i]?=some (.box g t cs)->∃cs',Lo[i]?=some (.box g t cs'))/\∃Mo,Mo.length=Lo.length/\bT F' (inp Lo) (cO Mo)/\PQ p l gs res Mo v)=RR
 have bk:Li.length=4:=hl
 -- the boxes that were handed over
 have am:∀(i:Nat) b t cs,Li[i]?=some (.box b t cs)->G (1000+i)=some (b,t):=fun i b t cs hi=>cb _ b t cs (by rw[aI,fo (by omega),show 1000+i-1000=i by omega];exact hi);have da:∀k b t,G k=some (b,t)->∃cs i,k=1000+i/\i<4/\Li[i]?=some (.box b t cs):=fun k b t e=>by
  obtain⟨cs,h⟩:=ht.kp k b t e;rw[aI] at h;split at h
  case isFalse=>cases h
  refine⟨cs,k-1000,by omega,?_,h⟩;rw[<-bk];exact(aaT.1 h).1
 -- the box of the goals above
 have az:∃b1 t1 ba,Li[1]?=some (.box b1 t1 ba):=by
  have q:=bo 1001;rw[aI,fo (by omega)] at q;have q:Ac F (inp Li) (some (.box 67 [.rw 1003])) (Li[1]?):=q;cases e:Li[1]? with
  | none=>rw[e] at q;exact q.elim
  | some o =>
   rw[e] at q;cases o with
   | row=>exact q.elim
   | box b t cs=>exact⟨b,t,cs,rfl⟩
 obtain⟨b1,t1,ba,az⟩:=az;have bm:=am 1 b1 t1 ba az
 -- how a panic ends
 have Rp:∀v m w' F' Lo c' e,sj v m->res=(.error e,c')->v=zN e->St F' (inp Lo) w'->Step F (inp Li) w F' (inp Lo) w'->Lo.length=4->bT F' (inp Lo) (cO (PB p l c' gs))->(∀(i:Nat) g t cs,Li[i]?=some (.box g t cs)->∃cs',Lo[i]?=some (.box g t cs'))->RR (.panicked m) w':=by
  intro v m w' F' Lo c' e q1 q2 q3 q4 q5 q6 q7 q8;rw[<-hR];exact .inr ⟨v,m,F',Lo,rfl,q1,q4,q5,by rw[q6,bk],q8,PB p l c' gs,by rw[q6];rfl,q7,e,c',q2,rfl,q3⟩
 -- what there is when it panics
 have bp:∀(cf:List cK) (v:Value) (w':World),(∃F' L',St F' L' w'/\Step F (inp Li) w F' L' w'/\zX G ⟨fun _=>True,[],some (Au p l cf res)⟩ F' L' v) ->
   ∃F' Lo c' e,St F' (inp Lo) w'/\Step F (inp Li) w F' (inp Lo) w'/\Lo.length=4/\bT F' (inp Lo) (cO (PB p l c' cf))/\res=(.error e,c')/\v=zN e/\(∀(i:Nat) g t cs,Li[i]?=some (.box g t cs)->∃cs',Lo[i]?=some (.box g t cs')):=by
  rintro cf v w' ⟨F',L',g1,g2,kp,_,_,dz⟩;obtain⟨M',hp,Mo,ar,e,c',hr,rfl,hv⟩:=dz _ rfl;obtain⟨Lo,d1,d2,d3⟩:=EU hp ar;obtain⟨x1,x2⟩:=cE d1;refine⟨F',Lo,c',e,g1.handed d1 (by decide),g2.sub (EV d1),d2,TN d2 d1 d3,hr,hv,fun i b t cs hi=>?_⟩;have bz:i<4:=by rw[<-bk];exact(aaT.1 hi).1
  obtain⟨cs',h⟩:=kp _ b t (am i b t cs hi);have hk:([1000,1001,1002,1003]:List Nat)[i]?=some (1000+i):=by
   match i,bz with
   | 0,_=>rfl
   | 1,_=>rfl
   | 2,_=>rfl
   | 3,_=>rfl
  exact⟨cs',by rw[<-x2 i _ hk];exact h⟩
 have y:∀(v:Value) (m:List PanicEntry) (a':Act) (w':World),sj v m->a'.defers=[]->(∃F' L',St F' L' w'/\Step F (inp Li) w F' L' w'/\zX G ⟨fun _=>True,[],some (Au p l gs res)⟩ F' L' v)->bodyPostD P Tryz.f29 RR (.panic m) a' w':=by
  intro v m a' w' z hd hx;obtain⟨F',Lo,c',e,k1,k2,k3,k4,k5,k6,k7⟩:=bp gs v w' hx;show Leaves P Tryz.f29 a'.tmps RR a'.defers (.panicking m) w';rw[hd];exact Rp v m w' F' Lo c' e z k5 k6 k1 k2 k3 k4 k7
 have dj:∀(v:Value) (m:List PanicEntry) (a':Act) (w':World),sj v m->a'.defers=[dq (.pointer (some ⟨b1,0,none⟩))]->(∃F' L',St F' L' w'/\Step F (inp Li) w F' L' w'/\zX G ⟨fun _=>True,[],some (Au p l (gs++[g]) res)⟩ F' L' v)->bodyPostD P Tryz.f29 RR (.panic m) a' w':=by
  intro v m a' w' z hd hx;obtain⟨F',Lo,c',e,k1,k2,k3,k4,k5,k6,k7⟩:=bp (gs++[g]) v w' hx;show Leaves P Tryz.f29 a'.tmps RR a'.defers (.panicking m) w';rw[hd];obtain⟨cF,ao⟩:=k7 1 b1 t1 ba az;refine leaves_cons (f:=34) (args:=#[.pointer (some ⟨b1,0,none⟩)]) (by simp) (by simp[invoke]) ?_;refine(X9 df k3 k4 ao (.panicking m) w' k1).mono ?_;rintro en u' w2 ⟨rfl,v2,F2,Lo2,rfl,m1,m2,m3,m4,m5⟩;show Leaves P Tryz.f29 a'.tmps RR [] (settle (.panicking m)) w2;rw[Gt z];exact Rp v m w2 F2 Lo2 c' e z k5 k6 m1 (k2.trans m2) m3 m4 fun i b t cs hi=>let⟨cs',h⟩:=k7 i b t cs hi;m5 i b t cs' h
 -- how it returns
 have u:∀(a':Act) (w':World),a'.defers=[]->Ff G F Li w (fun L ρ=>gV L ρ [(7,some (true,4))] fun s=>eS (PB p l c gs) L (gU s) (RQ p l gs res)) a' w'->bodyPostD P Tryz.f29 RR .ret a' w':=by
  rintro a' w' hd ⟨F',L',ρ',M',cM,g1,g2,g3,g4,g5,cY⟩;have hq:=Bl (P:=P) (fn:=Tryz.f29) (rs:=[(7,some (true,4))]) (n:=97) (asg:=[]) (a0:=a') (a':=a') (w':=w') an hl bo cb
   ⟨F',L',ρ',g1,g2,g4,rfl,g5,fun _ _=>rfl,M',cM,g3,cY⟩
  obtain⟨_,v,k2,F2,Lo,k3,k4,k5⟩:=hq;show Leaves P Tryz.f29 a'.tmps RR a'.defers .returning w';rw[hd];exact⟨v,k2,by rw[<-hR];exact .inl ⟨v,F2,Lo,rfl,k3,k4,k5⟩⟩
 have Ux:∀(a':Act) (w':World),a'.defers=[dq (.pointer (some ⟨b1,0,none⟩))]->Ff G F Li w (Wo p l (gs++[g]) res) a' w'->bodyPostD P Tryz.f29 RR .ret a' w':=by
  rintro a' w' hd ⟨F',L',ρ',M',cM,g1,g2,g3,g4,g5,h7,r,c',hr,ar⟩;rw[iY] at ar;obtain⟨Lo,d1,d2,d3⟩:=kH g3.tl ar;obtain⟨x1,x2⟩:=cE d1;have ei:bT F' (inp Lo) (cO (PB p l c' (gs++[g])++[.box 36 [.bool r.assumed,IC r.index,.sl (r.types.map aD),.sl (r.proofs.map iB)]])):=lI g3.tl d2 d1 d3;have ao:∀(i:Nat) b t cs,Li[i]?=some (.box b t cs)->∃cs',Lo[i]?=some (.box b t cs'):=fun i b t cs hi=>by
   have bz:i<4:=by rw[<-bk];exact(aaT.1 hi).1
   obtain⟨cs',h⟩:=g3.kp _ b t (am i b t cs hi);have hk:([1000,1001,1002,1003,7]:List Nat)[i]?=some (1000+i):=by
    match i,bz with
    | 0,_=>rfl
    | 1,_=>rfl
    | 2,_=>rfl
    | 3,_=>rfl
   exact⟨cs',by rw[<-x2 i _ hk];exact h⟩
  have bb:ρ' 7=.own 7 0/\∃b7 t7 bl,L'.get 7=some (.box b7 t7 bl):=by
   have:=g3.env 7;rw[h7] at this;exact this
  obtain⟨bb,b7,t7,bl,cX⟩:=bb;have de:Lo[4]?=some (.box b7 t7 bl):=by rw[<-x2 4 7 rfl];exact cX
  have eh:a'.tmps.getD 7 undef=.pointer (some ⟨b7,0,none⟩):=by
   rw[g2.eq 7,bb];simp only[conc,cX]
  show Leaves P Tryz.f29 a'.tmps RR a'.defers .returning w';rw[hd];obtain⟨cF,cl⟩:=ao 1 b1 t1 ba az;refine leaves_cons (f:=34) (args:=#[.pointer (some ⟨b1,0,none⟩)]) (by simp) (by simp[invoke]) ?_;refine(VU df d2 ei cl .returning w' (g1.handed d1 (by decide))).mono ?_;rintro en u' w2 ⟨rfl,v2,F2,Lo2,rfl,m1,m2,m3,m4,m5⟩;show Leaves P Tryz.f29 a'.tmps RR [] .returning w2;obtain⟨dd,ci⟩:=m5 4 b7 t7 bl de;have al:(inp Lo2).get 1004=some (.box b7 t7 dd):=by rw[aI,fo (by omega)];exact ci
  have bc:∀j,j≠7->Fr.put (some 7) (.own 1004 0) (fun j=>.v (a'.tmps.getD j undef)) j=.v (a'.tmps.getD j undef):=fun j hj=>by
   have b:Nat.beq j 7=false:=lZ hj;simp only[Fr.put,b]
  have cm:∀j,j≠7->bq (some 7) (.own 1004 0) (fun _=>.any) j=.any:=fun j hj=>by
   have b:Nat.beq j 7=false:=lZ hj;simp only[bq,b]
  have hq:=Bl (P:=P) (G:=G) (F:=F) (w:=w) (fn:=Tryz.f29) (rs:=[(7,some (true,4))]) (n:=97) (asg:=[]) (a0:=a') (a':=a') (w':=w2) (R:=RQ p l gs res) an hl bo cb
   ⟨F2,inp Lo2,Fr.put (some 7) (.own 1004 0) (fun j=>.v (a'.tmps.getD j undef)),m1,?_,g4,rfl,(g5.sub (EV d1)).trans m2,fun _ _=>rfl,cO (PB p l c' gs++[.box 36 [.bool r.assumed,IC r.index,.sl (r.types.map aD),.sl (r.proofs.map iB)]]),bq (some 7) (.own 1004 0) (fun _=>.any),⟨m4,fun j=>?_,fun k b t e=>?_,m1.glob⟩,?_⟩
  ·obtain⟨_,v,k2,F3,Lo3,k3,k4,k5⟩:=hq;exact⟨v,k2,by rw[<-hR];exact .inl ⟨v,F3,Lo3,rfl,k3,k4,k5⟩⟩
  ·refine⟨fun j=>?_,fun j k off e=>?_,fun j ad i e=>?_⟩
   ·by_cases hj:j=7
    ·subst hj;rw[eh];show _=conc (inp Lo2) (.own 1004 0);simp only[conc,al]
    ·rw[bc j hj];rfl
   ·by_cases hj:j=7
    ·subst hj;have e:SV.own 1004 0=.own k off:=e;injection e with e1 e2
     subst e1;exact⟨_,_,_,al⟩
    ·rw[bc j hj] at e;cases e
   ·by_cases hj:j=7
    ·subst hj;have e:SV.own 1004 0=.el ad i:=e;cases e
    ·rw[bc j hj] at e;cases e
  ·by_cases hj:j=7
   ·subst hj;exact⟨rfl,_,_,_,al⟩
   ·rw[cm j hj];trivial
  ·obtain⟨cs,i,rfl,fg,hi⟩:=da k b t e;obtain⟨cs',h'⟩:=ao i b t cs hi;obtain⟨dk,ed⟩:=m5 i b t cs' h';exact⟨dk,by rw[aI,fo (by omega),show 1000+i-1000=i by omega];exact ed⟩
  ·exact vG [1000,1001,1002,1003] rfl rfl rfl rfl ⟨r,c',hr,rfl,by rw[iY];rfl⟩
 -- the pieces
 have M0:Ff G F Li w (fun M τ=>M=cO (PB p l c gs)/\τ=kG 0 (Ar p l g)) {tmps:=s.toArray++Array.replicate (97-s.toArray.size) undef,defers:=[]} w :=
  ⟨F,inp Li,dy,_,_,hs,he,ht,by simp[ec],Step.refl _ _ _,rfl,rfl⟩
 generalize ej:({tmps:=s.toArray++Array.replicate (97-s.toArray.size) undef,defers:=[]}:Act)=a0 at M0;have ce:a0.defers=[]:=by rw[<-ej]
 refine wp_seq (Ff.piece VG ae M0 (PS:=⟨fun _=>True,[],some (Au p l gs res)⟩) (R:=(fun L ρ=>gV L ρ [(7,some (true,4))] fun s=>eS (PB p l c gs) L (gU s) (RQ p l gs res))) (N:=(fun M τ=>evalTC P ⟨fun _=>True,[],some (Au p l gs res)⟩ (.seq X6 (.seq Wn (.seq VF (.seq Uh (.seq TB RP))))) (fun _ _ _=>False) (fun L ρ=>gV L ρ [(7,some (true,4))] fun s=>eS (PB p l c gs) L (gU s) (RQ p l gs res)) (fun M τ=>(c+1<=400/\(gs.any fun h=>gX h g)=false/\¬bL (m9 g) l 0>=0)/\M=MB p l (c+1) (gs++[g])/\HB p g τ) M τ))
  (fun M τ q=>by rw[q.1,q.2];exact hA) (fun a1 w1 bd M1=>?_) (fun a' w' hd h=>u a' w' (hd.trans ce) h) (fun v m a' w' z hd hx=>y v m a' w' z (hd.trans ce) hx))
 have bd:=bd.trans ce;refine wp_seq (Ff.piece VH ae M1 (PS:=⟨fun _=>True,[],some (Au p l gs res)⟩) (R:=(fun L ρ=>gV L ρ [(7,some (true,4))] fun s=>eS (PB p l c gs) L (gU s) (RQ p l gs res))) (N:=(fun M τ=>evalTC P ⟨fun _=>True,[],some (Au p l gs res)⟩ (.seq Wn (.seq VF (.seq Uh (.seq TB RP)))) (fun _ _ _=>False) (fun L ρ=>gV L ρ [(7,some (true,4))] fun s=>eS (PB p l c gs) L (gU s) (RQ p l gs res)) (fun M τ=>(c+1<=400/\(gs.any fun h=>gX h g)=false/\¬bL (m9 g) l 0>=0)/\M=MB p l (c+1) (gs++[g])/\HB p g τ) M τ))
  (fun M τ q=>q) (fun a2 w2 aw M2=>?_) (fun a' w' hd h=>u a' w' (hd.trans bd) h) (fun v m a' w' z hd hx=>y v m a' w' z (hd.trans bd) hx))
 have aw:=aw.trans bd;refine wp_seq (Ff.piece VI ae M2 (PS:=⟨fun _=>True,[],some (Au p l gs res)⟩) (R:=(fun L ρ=>gV L ρ [(7,some (true,4))] fun s=>eS (PB p l c gs) L (gU s) (RQ p l gs res))) (N:=(fun M τ=>evalTC P ⟨fun _=>True,[],some (Au p l gs res)⟩ (.seq VF (.seq Uh (.seq TB RP))) (fun _ _ _=>False) (fun L ρ=>gV L ρ [(7,some (true,4))] fun s=>eS (PB p l c gs) L (gU s) (RQ p l gs res)) (fun M τ=>(c+1<=400/\(gs.any fun h=>gX h g)=false/\¬bL (m9 g) l 0>=0)/\M=MB p l (c+1) (gs++[g])/\HB p g τ) M τ))
  (fun M τ q=>q) (fun a3 w3 aE M3=>?_) (fun a' w' hd h=>u a' w' (hd.trans aw) h) (fun v m a' w' z hd hx=>y v m a' w' z (hd.trans aw) hx))
 have aE:=aE.trans aw;refine wp_seq (Ff.piece VJ ae M3 (PS:=⟨fun _=>True,[],some (Au p l gs res)⟩) (R:=(fun L ρ=>gV L ρ [(7,some (true,4))] fun s=>eS (PB p l c gs) L (gU s) (RQ p l gs res))) (N:=(fun M τ=>evalTC P ⟨fun _=>True,[],some (Au p l gs res)⟩ (.seq Uh (.seq TB RP)) (fun _ _ _=>False) (fun L ρ=>gV L ρ [(7,some (true,4))] fun s=>eS (PB p l c gs) L (gU s) (RQ p l gs res)) (fun M τ=>(c+1<=400/\(gs.any fun h=>gX h g)=false/\¬bL (m9 g) l 0>=0)/\M=MB p l (c+1) (gs++[g])/\HB p g τ) M τ))
  (fun M τ q=>q) (fun a4 w4 av M4=>?_) (fun a' w' hd h=>u a' w' (hd.trans aE) h) (fun v m a' w' z hd hx=>y v m a' w' z (hd.trans aE) hx))
 have av:=av.trans aE;refine wp_seq (Ff.piece VK ae M4 (PS:=⟨fun _=>True,[],some (Au p l gs res)⟩) (R:=(fun L ρ=>gV L ρ [(7,some (true,4))] fun s=>eS (PB p l c gs) L (gU s) (RQ p l gs res))) (N:=(fun M τ=>evalTC P ⟨fun _=>True,[],some (Au p l gs res)⟩ (.seq TB RP) (fun _ _ _=>False) (fun L ρ=>gV L ρ [(7,some (true,4))] fun s=>eS (PB p l c gs) L (gU s) (RQ p l gs res)) (fun M τ=>(c+1<=400/\(gs.any fun h=>gX h g)=false/\¬bL (m9 g) l 0>=0)/\M=MB p l (c+1) (gs++[g])/\HB p g τ) M τ))
  (fun M τ q=>q) (fun a5 w5 bi M5=>?_) (fun a' w' hd h=>u a' w' (hd.trans av) h) (fun v m a' w' z hd hx=>y v m a' w' z (hd.trans av) hx))
 have bi:=bi.trans av;refine wp_seq (Ff.piece VL ae M5 (PS:=⟨fun _=>True,[],some (Au p l gs res)⟩) (R:=(fun L ρ=>gV L ρ [(7,some (true,4))] fun s=>eS (PB p l c gs) L (gU s) (RQ p l gs res))) (N:=(fun M τ=>evalTC P ⟨fun _=>True,[],some (Au p l gs res)⟩ RP (fun _ _ _=>False) (fun L ρ=>gV L ρ [(7,some (true,4))] fun s=>eS (PB p l c gs) L (gU s) (RQ p l gs res)) (fun M τ=>(c+1<=400/\(gs.any fun h=>gX h g)=false/\¬bL (m9 g) l 0>=0)/\M=MB p l (c+1) (gs++[g])/\HB p g τ) M τ))
  (fun M τ q=>q) (fun a6 w6 be M6=>?_) (fun a' w' hd h=>u a' w' (hd.trans bi) h) (fun v m a' w' z hd hx=>y v m a' w' z (hd.trans bi) hx))
 have be:=be.trans bi;refine wp_seq (Ff.piece VN ae M6 (PS:=⟨fun _=>True,[],some (Au p l gs res)⟩) (R:=(fun L ρ=>gV L ρ [(7,some (true,4))] fun s=>eS (PB p l c gs) L (gU s) (RQ p l gs res))) (N:=(fun M τ=>(c+1<=400/\(gs.any fun h=>gX h g)=false/\¬bL (m9 g) l 0>=0)/\M=MB p l (c+1) (gs++[g])/\HB p g τ))
  (fun M τ q=>q) (fun a7 w7 cd M7=>?_) (fun a' w' hd h=>u a' w' (hd.trans be) h) (fun v m a' w' z hd hx=>y v m a' w' z (hd.trans be) hx))
 have cd:=cd.trans be;obtain⟨F7,L7,eA,N7,eQ,f1,f2,f3,f4,f5,bt,rfl,dg⟩:=M7;have dn:a7.tmps.getD 2 undef=.pointer (some ⟨b1,0,none⟩):=by
  have h2:=f3.env 2;rw[dg.2.1] at h2;obtain⟨h2,_⟩:=h2;obtain⟨cs',hg⟩:=f3.kp 1001 b1 t1 bm;rw[f2.eq 2,h2];simp only[conc,hg]
 refine wp_seq (wpD f4 dn ?_);have MD:Ff G F Li w (fun M τ=>M=MB p l (c+1) (gs++[g])/\τ=eB p g) {(a7.put (some 37) (.func (.func 34) #[] #[.pointer (some ⟨b1,0,none⟩)])) with defers:=dq (.pointer (some ⟨b1,0,none⟩))::a7.defers} w7:=by
  have bu:=f2.put (L':=L7) (d:=some 37) (v:=.func (.func 34) #[] #[.pointer (some ⟨b1,0,none⟩)]) (x:=.v (.func (.func 34) #[] #[.pointer (some ⟨b1,0,none⟩)])) (fun k hk=>by injection hk with hk;subst hk;omega) rfl cB eZ (fun k g ty cs e=>⟨cs,e⟩);exact⟨F7,L7,_,_,_,f1,⟨bu.eq,bu.own,bu.el⟩,⟨f3.tl,Qv f3.env dg,f3.kp,f3.glob⟩,by simpa[Act.put] using f4,f5,rfl,rfl⟩
 have db:(dq (.pointer (some ⟨b1,0,none⟩))::a7.defers)=[dq (.pointer (some ⟨b1,0,none⟩))]:=by rw[cd]
 refine Ff.piece VO ae MD (PS:=⟨fun _=>True,[],some (Au p l (gs++[g]) res)⟩) (R:=Wo p l (gs++[g]) res) (N:=fun _ _=>False)
  (fun M τ q=>by rw[q.1,q.2];exact hB bt) (fun a' w' _ h=>(by obtain⟨_,_,_,_,_,_,_,_,_,_,h⟩:=h;exact h.elim)) (fun a' w' hd h=>Ux a' w' (hd.trans db) h) (fun v m a' w' z hd hx=>dj v m a' w' z (hd.trans db) hx)
theorem EW {f:Int->cK->rP}(hf:∀c g r d,0<=c->c<=400->f c g=(.ok r,d)->c<d/\d<=400):∀(l:List cK) (c:Int) (a:List eI) ps b,0<=c->c<=400->iZ f l c a=(.ok ps,b)->c<=b/\b<=400
 | [],c,a,ps,b,h0,h4,h=>by
  have h:(Except.ok a,c)=((Except.ok ps:Except Int (List eI)),b):=h;injection h with h1 h2
  subst h2;exact⟨aa7 _,h4⟩
 | g::l,c,a,ps,b,h0,h4,h=>by
  rw[iZ] at h;cases j:f c g with
  | mk k d =>
   rw[j] at h;cases k with
   | error e=>injection h with h;cases h
   | ok r =>
    have h1:=hf c g r d h0 h4 j;have h2:=EW hf l d (a++[r]) ps b (by omega) h1.2 h;omega
theorem zQ (p:Prog) (o:List aT):∀(n:Nat) (j:List cK) (c:Int) (g:cK) r d,0<=c->c<=400->eM p o n j c g=(.ok r,d)->c<d/\d<=400
 | 0,j,c,g,r,d,_,_,h=>by rw[eM] at h;injection h with h;cases h
 | n+1,j,c,g,r,d,h0,h4,h=>by
  rw[eM] at h;split at h
  ·injection h with h;cases h
  rename_i u;split at h
  ·injection h with h;cases h
  split at h
  ·injection h with _ h;subst h;omega
  cases m:oN g p.impls 0 with
  | none=>rw[m] at h;injection h with h;cases h
  | some q =>
   obtain⟨k,x,ts⟩:=q;rw[m] at h;simp only at h;cases l:iZ (eM p o n (j++[g])) (x.bounds.map (mg ts)) (c+1) [] with
   | mk s t =>
    rw[l] at h;cases s with
    | error e=>injection h with h;cases h
    | ok ps =>
     injection h with _ h
     subst h;have:=EW (f:=eM p o n (j++[g])) (fun c q r d a b=>zQ p o n (j++[g]) c q r d a b) (x.bounds.map (mg ts)) (c+1) [] ps t (by omega) (by omega) l;omega
theorem t29 (p:Prog) (b:List aT) (d:p.impls.length<=9223372036854775807):∀(n:Nat) (gs:List cK) (c:Int) (g:cK),0<=c->c<=400->(gs.length:Int)<=c->401<=(n:Int)+c->TD p b c gs g (eM p b n gs c g)
 | 0,gs,c,g,h0,h4,_,f=>vv f (by omega)
 | n+1,gs,c,g,h0,h4,s,f=>by
  generalize a:eM p b (n+1) gs c g=res;have a:=a;rw[eM] at a;refine TQ p b c gs g res (by omega) (VQ p b c gs g res ⟨h0,h4⟩ s (fun h=>by rw[fo h] at a;exact a.symm) (fun h h2=>by rw[o5 h,fo h2] at a;exact a.symm)
   (fun h h2 h3=>by rw[o5 h,o5 (by rw[h2];exact abf),fo h3] at a;exact a.symm)) ?_
  rintro⟨k1,m,o⟩;rw[o5 (by omega),o5 (by rw[m];exact abf),o5 o] at a;refine VS p b (c+1) (gs++[g]) g res (eM p b n (gs++[g])) (oN g) ⟨by omega,by omega⟩ (by rw[abA];simp;omega) d (fun k=>rfl) (fun x l k=>rfl) (fun h=>?_) (fun k x ts h=>?_) fun e j h1 h2=>⟨t29 p b d n (gs++[g]) e j (by omega) h2 (by rw[abA];simp;omega) (by omega),fun r t h=>zQ p b n (gs++[g]) e j r t (by omega) h2 h⟩
  ·rw[h] at a;exact a.symm
  ·rw[h] at a;simp only at a;rw[<-a];cases iZ (eM p b n (gs++[g])) (x.bounds.map (mg ts)) (c+1) [] with
   | mk q e=>cases q<;>rfl
theorem H8:∀{c:List Own}{n m:Nat},C4 c [n,m]->∃g t cs b a cs',c=[.box g (t+1) cs,.box b (a+1) cs']/\cs.length=n/\cs'.length=m
 | [],_,_,h=>h.elim
 | [_],_,_,h=>h.2.elim
 | [o,p],n,m,h=>by
  cases o with
  | row=>exact h.1.elim
  | box g t cs =>
   cases t with
   | zero=>exact vv rfl (xg h.1)
   | succ t =>
    cases p with
    | row=>exact h.2.1.elim
    | box b a cs' =>
     cases a with
     | zero=>exact vv rfl (xg h.2.1)
     | succ a=>exact⟨g,t,cs,b,a,cs',rfl,h.1,h.2.1⟩
 | _::_::_::_,_,_,h=>h.2.2.elim
def Gu:eI:=.mk false 0 [] []
def VW (v:Value):List (List Value):=match v with
 | .iface _ (.int _ n)=>[[.bool false,.int .i64 0,.slice none 0 0,.slice none 0 0],[.int .i64 n]]
 | _=>[]
theorem TR (c:List Own) (w:World) (hb:C4 c [4,1]):CallsD P 28 (c.map lV).toArray .returning w fun e f w'=>e=.returned (.tuple #[])/\f=.returning/\w'=w:=by
 have h:Tryz.f28.ntmps=13:=by kernel_rfl
 have j:Tryz.f28.results=#[]:=by kernel_rfl
 obtain⟨g,t,cs,k,l,cs',rfl,_,_⟩:=H8 hb;refine callsD_of_wpS Tryz.func28 rfl fun a cs d=>?_;apply wpS_seq;apply wpS_region;simp[wpOpsS,go_sem,recoverD,d,h,Exit.thenS,lV];refine wpS_of_wp (wp_block (wp_seq (wp_region ?_)));have b:P.underlying 20=some (.interface #[]):=by kernel_rfl
 have he:∀w:World,(Op.equal 20 .nilIface .nilIface).run P w=.ok true w:=fun w=>Fl b;simp[wpOps,go_sem,Exit.then,he,Exit.inBlock];refine .inl ?_;apply wp_cond_true
 ·simp[Act.eval,Array.replicate]
 apply wp_region;cases a
 simp_all [wpOps,go_sem,bodyPostS,results,Exit.inBlock]
theorem Qw:qG P 28 (fun v=>∃n,v=zN n) [4,1] VW:=by
 refine wh Tryz.func28 Py rfl TR ?_;rintro F f v ⟨n,rfl⟩ hb;obtain⟨g,t,cs,h,k,cs',rfl,h1,h2⟩:=H8 hb
 match cs,h1 with
 | [a,b,c,d],_ =>
  match cs',h2 with
  | [x],_=>(try intro j)<;>(try intro e)<;>exact rfl
theorem BQ {f:Int->cK->rP}{E:Int->Prop}(hf:∀c g e d,f c g=(.error e,d)->E e):∀(l:List cK) (c:Int) (a:List eI) e b,iZ f l c a=(.error e,b)->E e
 | [],c,a,e,b,h=>by
  have h:(Except.ok a,c)=((Except.error e:Except Int (List eI)),b):=h;injection h with h;cases h
 | g::l,c,a,e,b,h=>by
  rw[iZ] at h;cases j:f c g with
  | mk k d =>
   rw[j] at h;cases k with
   | error m =>
    injection h with h
    injection h with h
    subst h;exact hf c g _ _ j
   | ok r=>exact BQ hf l d (a++[r]) e b h
theorem BR (p:Prog) (l:List aT):∀(n:Nat) (a:List cK) (c:Int) (g:cK) e j,eM p l n a c g=(.error e,j)->e=2\/e=9\/e=15
 | 0,a,c,g,e,j,h=>by rw[eM] at h;injection h with h;injection h with h;exact .inl h.symm
 | n+1,a,c,g,e,j,h=>by
  rw[eM] at h;split at h
  ·injection h with h;injection h with h;exact .inl h.symm
  split at h
  ·injection h with h;injection h with h;exact .inr (.inr h.symm)
  split at h
  ·injection h with h;cases h
  cases d:oN g p.impls 0 with
  | none=>rw[d] at h;injection h with h;injection h with h;exact .inr (.inl h.symm)
  | some q =>
   obtain⟨k,x,ts⟩:=q;rw[d] at h;simp only at h;cases b:iZ (eM p l n (a++[g])) (x.bounds.map (mg ts)) (c+1) [] with
   | mk m r =>
    rw[b] at h;cases m with
    | ok ps=>injection h with h;cases h
    | error o =>
     injection h with h
     injection h with h
     subst h;exact BQ (f:=eM p l n (a++[g])) (E:=fun e=>e=2\/e=9\/e=15) (fun c q e j h=>BR p l n (a++[g]) c q e j h) _ _ _ _ _ b
theorem CallsTS.toX {P:Program}{f:Nat}{args:List C}{Lin:List TO}{R:List TO->C->Prop}{Pp:List TO->Value->Prop}{Pq:Value->Prop}(h:CallsTS P f args Lin R Pp) (l:∀Mo v,Pp Mo v->Pq v):CallsTX P f args Lin R Pq :=
 ⟨fun F Li a h1 h2 h3=>let k:=h.out F Li a h1 h2 h3;⟨k.ent,k.mono,fun w p=>(k.run w p).mono fun e w' q=>by
  rcases q with q | ⟨v,c,F',Lo,m,r,j,b,o,n,Mo,t,s,d⟩
  ·exact .inl q
  ·exact .inr ⟨v,c,F',Lo,m,r,j,b,o,n,l _ _ d⟩⟩⟩
theorem Qx (L1:TL) (ks ko:List Nat) {L:TL}{ρ:aG}{PS:qa}{Pp:Value->Prop}{f:Nat}{args a:List C}{K:TL->aG->C->Prop}{Lin Lin':List TO}(h:CallsTX P f a Lin' (fun _ _=>False) Pp) (j:gives L L1 L1) (o:L1.sub ks=some Lin)
  (b:(covers L L1&&T.aU ks&&T.aU ko&&kE L1 ks ko&&aJ Lin ks ko)=true) (k:(args.map fun c=>c.aaj.ren (bh ks 1000))=a) (e:Lin.map (TO.aad (C.ren (bh ks 1000)))=Lin') (d:∀v,Pp v->PS.ps v)
  (p:kY L1 ks PS.hb=true:=by rfl):pz P PS f args L ρ K:=by
 subst k e;simp only[aaN] at b;obtain⟨⟨⟨⟨n,m⟩,l⟩,c3⟩,c4⟩:=b;exact⟨[],ks,ko,L1,Lin,_,_,.inr ⟨j,n⟩,o,m,l,c3,c4,p,h,d,fun v Mo q=>q.elim⟩
noncomputable def pU (p:Prog) (a:List aT) (tr:Int) (t:Ty):eI×Int:=match(eM p a 401 [] 0 ⟨tr,t⟩).1 with
 | .ok r=>(r,0)
 | .error e=>(Gu,e)
theorem Wp (p:Prog) (a:List aT) (tr:Int) (t:Ty) (k:p.impls.length<=9223372036854775807):CallsT P 10 [nu p,.sl (a.map aW),IC tr,aP t] [] (aR [] (.tup [.agg (iB (pU p a tr t).1),IC (pU p a tr t).2])):=by
 have f:=t29 p a k 401 [] 0 ⟨tr,t⟩ (by omega) (by omega) (by simp) (by omega);have b:=BR p a 401 [] 0 ⟨tr,t⟩;unfold pU;generalize eM p a 401 [] 0 ⟨tr,t⟩=res at f b ⊢;obtain⟨s,w⟩:=res;refine mR (PS:=fun v=>∃e,s=.error e/\v=zN e) (ns:=[4,1]) (out:=VW) Tryz.func10 Px (qG.mono Qw fun v ⟨e,_,h⟩=>⟨e,h⟩) (fun v ⟨e,_,h⟩=>by subst h;rfl) rfl rfl ?_ fun hw ho=>?_
 ·rintro v ⟨e,rfl,rfl⟩;have he:=b e w rfl;refine⟨.tup [.agg (iB Gu),IC e],.tuple #[.agg #[.bool false,.int .i64 0,.slice none 0 0,.slice none 0 0],.int .i64 e],?_,?_,?_⟩
  ·intro L ρ h;obtain⟨a1,g1,t1,z⟩:=h 0 8 _ rfl rfl;obtain⟨y,g2,t2,x⟩:=h 1 9 _ rfl rfl;simp only[nS,a1,z,y,x];rfl
  ·intro F L;have o:Rel F L (.sl []) (.slice none 0 0):=by
    rw[Rel];exact⟨none,0,rfl,aa2 _,by decide,fun _=>⟨rfl,rfl⟩,1,by rw[gP];trivial⟩
   have hb:Rel F L (.bool false) (.bool false):=by rw[Rel]
   have u:aB F L [] []:=by rw[aB]
   have cons:∀{c cs v n},Rel F L c v->aB F L cs n->aB F L (c::cs) (v::n):=fun h1 h2=>by
    rw[aB];exact⟨_,_,rfl,h1,h2⟩
   rw[Rel];refine⟨[.agg [.bool false,.int .i64 0,.slice none 0 0,.slice none 0 0].toArray,.int .i64 e],rfl,cons ?_ (cons (Xv (by omega) (by omega)) u)⟩;rw[Rel];exact⟨[.bool false,.int .i64 0,.slice none 0 0,.slice none 0 0],rfl,by rw[iY];exact cons hb (cons (Xv (m:=0) (by omega) (by omega)) (cons o (cons o u)))⟩
  ·intro Mo d;have d:Mo=[]:=d;subst d;exact⟨rfl,rfl⟩
 refine⟨rfl,?_⟩;cases s with
 | error e =>
  have h:CallsTX P 29 (Ar p a ⟨tr,t⟩) (PB p a 0 []) (fun _ _=>False) (fun v=>v=zN e):=CallsTS.toX (CallsTS.imp f (fun Mo v ⟨r,l,q,_⟩=>by cases q) fun Mo v q=>q) fun Mo v ⟨e',l,q,_,j⟩=>by cases q;exact j
  exact Qx [(8,.box 36 [.bool false,IC 0,.nils,.nils]),(9,.box 43 [IC 0]),(10,.box 3 [IC 0]),(11,.box 67 [.rw 2000]),(12,.box 68 [.fn 29 [] [.own 10 0,.own 11 0,.pt [.sl (a.map aW)] 0,.pt (kh p) 0,.own 12 0]]),(2000,.row 70 4 [])] [10,11,12,2000] [10,11,12,2000] h ⟨.inl ⟨_,rfl,.inl ⟨rfl,rfl⟩⟩,.inl ⟨_,rfl,.inl ⟨rfl,rfl⟩⟩,.inl ⟨_,rfl,.inl ⟨rfl,rfl⟩⟩,.inl ⟨_,rfl,.inr ⟨67,_,_,rfl,rfl,_,_,rfl,kK rfl rfl,rfl⟩⟩,.inl ⟨_,rfl,.inl ⟨rfl,rfl⟩⟩,.inr ⟨rfl,70,4,rfl⟩,trivial⟩ rfl rfl rfl rfl (fun v q=>⟨e,rfl,q⟩)
 | ok r =>
  have h:CallsTX P 29 (Ar p a ⟨tr,t⟩) (PB p a 0 []) (aR (PB p a w []) (.agg [.bool r.assumed,IC r.index,.sl (r.types.map aD),.sl (r.proofs.map iB)])) (fun v=>False):=CallsTS.toX (CallsTS.imp f (fun Mo v ⟨r',l,q,q1,j⟩=>by cases q;exact⟨q1,by rw[j,iY]⟩) fun Mo v q=>q) fun Mo v ⟨e',l,q,_,j⟩=>by cases q
  refine SD [(8,.box 36 [.bool false,IC 0,.nils,.nils]),(9,.box 43 [IC 0]),(10,.box 3 [IC 0]),(11,.box 67 [.rw 2000]),(12,.box 68 [.fn 29 [] [.own 10 0,.own 11 0,.pt [.sl (a.map aW)] 0,.pt (kh p) 0,.own 12 0]]),(2000,.row 70 4 [])] [10,11,12,2000] [10,11,12,2000] h ⟨.inl ⟨_,rfl,.inl ⟨rfl,rfl⟩⟩,.inl ⟨_,rfl,.inl ⟨rfl,rfl⟩⟩,.inl ⟨_,rfl,.inl ⟨rfl,rfl⟩⟩,.inl ⟨_,rfl,.inr ⟨67,_,_,rfl,rfl,_,_,rfl,kK rfl rfl,rfl⟩⟩,.inl ⟨_,rfl,.inl ⟨rfl,rfl⟩⟩,.inr ⟨rfl,70,4,rfl⟩,trivial⟩ rfl rfl rfl rfl rfl (fun v q=>q.elim) fun _ _=>?_;rw[iY];exact ay rfl rfl
theorem vO {p:eI->Prop}(h:∀x,(∀q∈x.proofs,p q)->p x):∀x,p x
 | .mk b i l ps=>h _ fun q a=>vO h q
termination_by x=>SizeOf.sizeOf x
decreasing_by
 have:=List.sizeOf_lt_of_mem (show q∈ps from a);simp only[eI.mk.sizeOf_spec];omega
theorem Qy {a b:eI}:a=b↔a.assumed=b.assumed/\a.index=b.index/\a.types=b.types/\a.proofs=b.proofs:=by
 cases a;cases b;rw[eI.mk.injEq];rfl
theorem My {l:List eI}{k:Nat}{x:eI}{K:List C->Prop}(a:l[k]?=some x) (h:K [.bool x.assumed,IC x.index,.sl (x.types.map aD),.sl (x.proofs.map iB)]):tL (l.map iB) (k:Int) 4 K:=FP a (iY x) rfl h
abbrev fW (x:eI):C:=.agg [.bool x.assumed,IC x.index,.sl (x.types.map aD),.sl (x.proofs.map iB)]
theorem Qz (x:eI):C.agg (iB x)=fW x:=by rw[iY]
theorem Ya (a b:eI) (V:Bool) (u:eI->eI->Bool) (t:V=true↔a=b) (h:∀x y,u x y=true↔x=y) (ih:∀x∈a.proofs,∀y,CallsT P 11 [fW x,fW y] [] (aR [] (.bool (u x y)))):CallsT P 11 [fW a,fW b] [] (aR [] (.bool V)):=by
 have e:=t36 a.types b.types;rw[qN] at e;have n:=@lY (a.types=b.types);generalize xA (a.types=b.types)=tt at e n;rw[Qy] at t;obtain⟨v1,v2⟩:=CW t;have r:(a.proofs.map iB).length=a.proofs.length:=xo _;have eb:(b.proofs.map iB).length=b.proofs.length:=xo _;refine af Tryz.func11 Ol rfl fun hw _=>?_;have s:a.proofs.length<=9223372036854775807:=by have:=gS hw.1.2.2.2.1;rwa [r] at this
 refine aV (fun q=>ay rfl (vz C.bool (v2 fun z=>q z.1).symm)) (fun q1=>?_);refine aV (fun q=>ay rfl (vz C.bool (v2 fun z=>q z.2.1).symm)) (fun q2=>?_);refine aF e rfl fun _=>?_;refine aq (fun q=>ay rfl (vz C.bool (v2 fun z=>by rw[n.2 z.2.2.1] at q;cases q).symm)) (fun o=>?_);have o:=n.1 (by simpa using o);refine aV (fun q=>ay rfl (vz C.bool (v2 fun z=>q (by rw[z.2.2.2])).symm)) (fun v=>?_);have v:((a.proofs.map iB).length:Int)=((b.proofs.map iB).length:Int):=v;have ac:a.proofs.length=b.proofs.length:=by omega
 have w:a.proofs=b.proofs->true=V:=fun z=>(v1 ⟨q1,q2,o,z⟩).symm;have w2:¬a.proofs=b.proofs->false=V:=fun z=>(v2 fun y=>z y.2.2.2).symm;refine bN a.proofs.length 5 [] () (fun _=>[]) (fun _=>[]) (fun k _=>a.proofs.take k=b.proofs.take k) (by simp) (ai rfl) trivial trivial (fun _=>rfl) (fun _=>rfl) ?_;rintro k _ hk c _ _ _;have c:a.proofs.take k=b.proofs.take k:=c;refine ah (fun d=>?_) (fun j=>?_)
 ·have d:k<a.proofs.length:=by rw[r] at d;omega
  refine ck d fun x f p=>?_;refine ck (l:=b.proofs) (k:=k) (by omega) fun y m al=>?_;refine My f ?_;refine My m ?_;refine bG (ih x p y) rfl fun _=>?_;refine aq (fun q=>?_) (fun q=>?_)
  ·refine ay rfl (vz C.bool (w2 fun z=>?_));rw[z,m] at f;injection f with f
   rw[(h x y).2 f.symm] at q;cases q
  ·have q:=(h x y).1 (by simpa using q);refine Fit.aae (by omega) (by omega) ?_;refine⟨(k+1,()),⟨d,?_⟩,⟨bw,trivial⟩,trivial,bB d⟩;show a.proofs.take (k+1)=b.proofs.take (k+1);rw[fL f,fL m,c,q]
 ·have j:¬k<a.proofs.length:=by rw[r] at j;omega
  rw[abz (by omega),abz (by omega)] at c;exact ay rfl (vz C.bool (w c))
theorem Yb:∀a b:eI,CallsT P 11 [fW a,fW b] [] (aR [] (.bool (xA (a=b)))):=vO (p:=fun a=>∀b:eI,CallsT P 11 [fW a,fW b] [] (aR [] (.bool (xA (a=b))))) fun a c b =>
 Ya a b _ (fun x y=>xA (x=y)) lY (fun x y=>lY) fun x d y=>c x d y
mutual
/-- how many proofs a proof consists of -/
def wP:eI->Nat
 | .mk _ _ _ ps=>H9 ps+1
def H9:List eI->Nat
 | []=>0
 | x::l=>wP x+H9 l
end
theorem Mz (x:eI):wP x=H9 x.proofs+1:=by cases x;rfl
def MA (a:List aT) (tr:Int) (t:Ty) (i:Int) (n m:Nat):Bool:=decide (t.kind=5)&&(dX i a.length&&((match a[i.toNat]? with
 | some b=>decide (b.param=t.id)&&decide (b.trait=tr)
 | none=>false)&&decide (n+m=0)))
mutual
def jh (p:Prog) (bs:List aT):Int->Ty->eI->Bool
 | tr,t,.mk true i ts ps=>MA bs tr t i ts.length ps.length
 | tr,t,.mk false i ts ps=>dX i p.impls.length&&(match p.impls[i.toNat]? with
  | none=>false
  | some x=>decide (x.trait=tr)&&(decide ((ts.length:Int)=x.params)&&(decide (ps.length=x.bounds.length)&&(eqB (subst ts x.type) t&&uR p bs ts x.bounds ps))))
def uR (p:Prog) (bs:List aT) (ts:List Ty):List aT->List eI->Bool
 | b::l,q::ps=>dX b.param ts.length&&(jh p bs b.trait ((ts[b.param.toNat]?).getD zT) q&&uR p bs ts l ps)
 | _,_=>true
end
theorem Yc (x y:Ty):CallsT P 25 [aP x,aP y] [] (aR [] (.bool (eqB x y))):=by
 have:=YU x y;rw[qN,CH] at this;exact this
theorem t9a (p:Prog) (a:List aT) (tr:Int) (t:Ty) (x:eI) (u:x.assumed=true):CallsT P 9 [nu p,.sl (a.map aW),IC tr,aP t,fW x] [] (aR [] (.bool (MA a tr t x.index x.types.length x.proofs.length))):=by
 have f:=t23 (a.map aW) x.index;have r:(a.map aW).length=a.length:=xo _;have n:(x.types.map aD).length=x.types.length:=xo _;have o:(x.proofs.map iB).length=x.proofs.length:=xo _;rw[r] at f;have e:MA a tr t x.index x.types.length x.proofs.length=(decide (t.kind=5)&&(dX x.index a.length&&((match a[x.index.toNat]? with
 | some b=>decide (b.param=t.id)&&decide (b.trait=tr)
 | none=>false)&&decide (x.types.length+x.proofs.length=0)))):=rfl
 generalize MA a tr t x.index x.types.length x.proofs.length=V at e ⊢;have hi:=@dU x.index a.length;generalize dX x.index a.length=ib at e f hi;refine af Tryz.func9 Ld rfl fun j _=>?_;have v:x.types.length<=9223372036854775807:=by have:=gS j.2.2.2.2.1.2.2.1;rwa [n] at this
 have w:x.proofs.length<=9223372036854775807:=by have:=gS j.2.2.2.2.1.2.2.2.1;rwa [o] at this
 refine aq (fun _=>?_) (fun q=>vv (show x.assumed=false from q) (by rw[u];exact Bool.noConfusion));refine ah (fun h=>?_) (fun h=>?_)
 ·have h:t.kind=5:=h;refine bG f rfl fun _=>?_;refine aq (fun c=>?_) (fun c=>?_)
  ·have c:ib=true:=c;have hi:=hi.1 c;refine ck (l:=a) (k:=x.index.toNat) (by omega) fun b hb s=>?_;refine BJ hi.1 hb ?_;rw[hb,aaP h,c] at e;refine aq (fun d=>?_) (fun d=>?_)
   ·refine El (m:=Ek ((x.types.map aD).length+(x.proofs.map iB).length)) rfl ?_;refine ay rfl (vz C.bool ?_);have d:(decide (b.param=t.id)&&decide (b.trait=tr))=true:=d;rw[e];simp only[d,aaW,decide_eq_decide];unfold Ek;rw[IntKind.wrap_i64,n,o];omega
   ·refine ay rfl (vz C.bool ?_);have d:(decide (b.param=t.id)&&decide (b.trait=tr))=false:=d;rw[e];simp only[d,aaY,abl]
  ·have c:ib=false:=c;exact ay rfl (vz C.bool (by rw[e,c];simp))
 ·exact ay rfl (vz C.bool (by rw[e,aaS (show¬t.kind=5 from h)];rfl))
theorem TT {l:List Ty}{z:Int}{x:Ty}{K:List C->Prop}(h0:0<=z) (a:l[z.toNat]?=some x) (h:K [IC x.kind,IC x.id,.sl (x.args.map aD)]):tL (l.map aD) z 3 K :=
 ⟨_,h0,by rw[aa6,a];exact vz some (iM x),rfl,h⟩
structure Yd (p:Prog) (tr:Int) (t:Ty) (x:eI) (V:Bool) (pvL:List Ty->List aT->List eI->Bool):Prop where
 h0:dX x.index p.impls.length=false->V=false
 h1:∀y,0<=x.index->p.impls[x.index.toNat]?=some y->(¬y.trait=tr->V=false)/\(¬(x.types.length:Int)=y.params->V=false)/\(¬x.proofs.length=y.bounds.length->V=false)/\(eqB (subst x.types y.type) t=false->V=false) /\
  (y.trait=tr->(x.types.length:Int)=y.params->x.proofs.length=y.bounds.length->eqB (subst x.types y.type) t=true->pvL x.types y.bounds x.proofs=V)/\iA y.type
theorem t9n (p:Prog) (bs:List aT) (tr:Int) (t:Ty) (x:eI) (hx:x.assumed=false) (V:Bool) (pv:Int->Ty->eI->Bool) (j:List Ty->List aT->List eI->Bool) (X:Yd p tr t x V j)
  (e:∀ts,j ts [] []=true) (d:∀ts b l q ps,j ts (b::l) (q::ps)=(dX b.param ts.length&&(pv b.trait ((ts[b.param.toNat]?).getD zT) q&&j ts l ps)))
  (ih:∀q∈x.proofs,∀tr t,CallsT P 9 [nu p,.sl (bs.map aW),IC tr,aP t,fW q] [] (aR [] (.bool (pv tr t q)))):CallsT P 9 [nu p,.sl (bs.map aW),IC tr,aP t,fW x] [] (aR [] (.bool V)):=by
 obtain⟨h0,h1⟩:=X;have r:=t24 (p.impls.map dN) x.index;have ei:(p.impls.map dN).length=p.impls.length:=xo _;have et:(x.types.map aD).length=x.types.length:=xo _;have ep:(x.proofs.map iB).length=x.proofs.length:=xo _;have m:=XP (x.types.map aD);rw[ei] at r;rw[et] at m;have hi:=@dU x.index p.impls.length;have hj:=fun i=>@dU i x.types.length;generalize dX x.index p.impls.length=ib at h0 r hi;have w:=fun z h=>t26 x.types z h;have aa:=Yc;generalize eqB=eb at h1 aa;generalize subst x.types=sb at h1 w;generalize f:(fun i=>dX i x.types.length)=jb at m;have f:∀i,dX i x.types.length=jb i:=fun i=>by rw[<-f]
 have m:∀n:Int,CallsT P 27 [.sl (x.types.map aD),IC n] [] (aR [] (.bool (jb n))):=fun n=>by rw[<-f];exact m n
 simp only[f] at hj;have d:=fun b l q ps=>d x.types b l q ps;simp only[f] at d;have e:=e x.types;have h1:=fun y a b=>h1 y a b;generalize j x.types=pl at h1 d e;refine af Tryz.func9 Ld rfl fun hw _=>?_;have w2:x.proofs.length<=9223372036854775807:=by have:=gS hw.2.2.2.2.1.2.2.2.1;rwa [ep] at this
 refine aq (fun q=>vv (show x.assumed=true from q) (by rw[hx];exact Bool.noConfusion)) (fun _=>?_);refine aF r rfl fun _=>?_;refine aq (fun q=>?_) (fun q=>?_)
 ·exact ay rfl (vz C.bool (h0 (by simpa using q)).symm)
 have hi:=hi.1 (by simpa using q);refine ck (l:=p.impls) (k:=x.index.toNat) (by omega) fun y hy bj=>?_;refine rZ hi.1 hy ?_;have h1:=h1 y hi.1 hy;have s:(y.bounds.map aW).length=y.bounds.length:=xo _;refine aV (fun q=>ay rfl (vz C.bool (h1.1 q).symm)) (fun e1=>?_);refine aV (fun q=>ay rfl (vz C.bool (h1.2.1 fun z=>q (by rw[et];exact z)).symm)) (fun e2=>?_);refine aV (fun q=>ay rfl (vz C.bool (h1.2.2.1 fun z=>q (by rw[ep,s,z])).symm)) (fun e3=>?_);refine bG (w y.type h1.2.2.2.2.2) rfl fun _=>?_;refine bG (aa (sb y.type) t) rfl fun _=>?_;refine aq (fun q=>?_) (fun e4=>?_)
 ·exact ay rfl (vz C.bool (h1.2.2.2.1 (by simpa using q)).symm)
 have e2:(x.types.length:Int)=y.params:=by rw[<-et];exact e2
 have e3:x.proofs.length=y.bounds.length:=by
  have e3:((x.proofs.map iB).length:Int)=((y.bounds.map aW).length:Int):=e3;omega
 have hV:=h1.2.2.2.2.1 e1 e2 e3 (by simpa using e4);refine bN y.bounds.length 95 [] () (fun _=>[]) (fun _=>[(12,.box 57 [IC y.trait,IC y.module,IC y.params,.sl (y.bounds.map aW),IC y.type.kind,IC y.type.id,.sl (y.type.args.map aD),IC y.func])]) (fun k _=>pl (y.bounds.drop k) (x.proofs.drop k)=V) hV (ai rfl) trivial ⟨.inl ⟨_,rfl,.inl ⟨rfl,rfl⟩⟩,trivial⟩ (fun _=>rfl) (fun _=>rfl) ?_;rintro k _ hk c _ _ _;have c:pl (y.bounds.drop k) (x.proofs.drop k)=V:=c;refine ah (fun o=>?_) (fun v=>?_)
 ·have o:k<y.bounds.length:=by rw[s] at o;omega
  refine bf o fun b hb be ac=>?_;refine bf (l:=x.proofs) (k:=k) (by omega) fun q hq ae al=>?_;rw[ac,al,d] at c;refine BJ (by omega) (show y.bounds[((k:Int)).toNat]?=some b from hb) ?_;refine bG (m b.param) rfl fun _=>?_;refine aq (fun z=>?_) (fun z=>?_)
  ·exact ay rfl (vz C.bool (by rw[<-c,show jb b.param=false by simpa using z];rfl))
  have z:jb b.param=true:=by simpa using z
  have ag:=(hj b.param).1 z;rw[z,aaW] at c;refine ck (l:=x.types) (k:=b.param.toNat) (by omega) fun u hu bd=>?_;refine TT ag.1 hu ?_;refine My hq ?_;rw[hu] at c;refine bG (ih q ae b.trait u) rfl fun _=>?_;refine aq (fun z=>?_) (fun z=>?_)
  ·exact ay rfl (vz C.bool (by rw[<-c,show pv b.trait ((some u).getD zT) q=false by simpa using z];rfl))
  rw[show pv b.trait ((some u).getD zT) q=true by simpa using z,aaW] at c;refine Fit.aae (by omega) (by omega) ?_;exact⟨(k+1,()),⟨o,c⟩,⟨bw,trivial⟩,⟨.inl ⟨_,rfl,.inl ⟨rfl,rfl⟩⟩,trivial⟩,bB o⟩
 ·have v:¬k<y.bounds.length:=by rw[s] at v;omega
  rw[bU v,bU (l:=x.proofs) (by omega),e] at c;exact ay rfl (vz C.bool c)
theorem t9 (p:Prog) (c:List aT) (hB:∀x∈p.impls,iA x.type):∀(x:eI) (tr:Int) (t:Ty),CallsT P 9 [nu p,.sl (c.map aW),IC tr,aP t,fW x] [] (aR [] (.bool (jh p c tr t x))):=vO (p:=fun x=>∀(tr:Int) (t:Ty),CallsT P 9 [nu p,.sl (c.map aW),IC tr,aP t,fW x] [] (aR [] (.bool (jh p c tr t x)))) fun x n tr t=>by
 obtain⟨a,i,ts,ps⟩:=x;cases a with
 | true =>
  have:=t9a p c tr t (.mk true i ts ps) rfl;rw[jh];exact this
 | false =>
  refine t9n p c tr t (.mk false i ts ps) rfl _ (jh p c) (uR p c) ⟨fun h=>?_,fun y h0 d=>?_⟩ (fun ts=>by rw[uR];intros;contradiction) (fun ts b l q ps=>by rw[uR]) n
  ·rw[jh,show dX i p.impls.length=false from h];rfl
  ·have d:p.impls[i.toNat]?=some y:=d;have m:=(aaT.1 d).1;have h0:0<=i:=h0;have e:jh p c tr t (.mk false i ts ps)=(decide (y.trait=tr)&&(decide ((ts.length:Int)=y.params)&&(decide (ps.length=y.bounds.length)&&(eqB (subst ts y.type) t&&uR p c ts y.bounds ps)))):=by
    rw[jh,dU.2 ⟨h0,by omega⟩,aaW];simp only[d]
   rw[e];refine⟨fun h=>?_,fun h=>?_,fun h=>?_,fun h=>?_,fun k o j f=>?_,hB y (aaU d)⟩
   ·rw[aaS h];rfl
   ·rw[aaS (show¬(ts.length:Int)=y.params from h)];simp
   ·rw[aaS (show¬ps.length=y.bounds.length from h)];simp
   ·rw[show eqB (subst ts y.type) t=false from h];simp
   ·rw[aaP k,aaP (show(ts.length:Int)=y.params from o),aaP (show ps.length=y.bounds.length from j),show eqB (subst ts y.type) t=true from f];rfl
section
variable {α:Type}{q:α->Bool}
theorem BS:∀(l:List α) (k:Int),0<=bL q l k->∃(j:Nat) (x:α),l[j]?=some x/\q x=true/\bL q l k=k+j
 | [],k,h=>vv (show 0<=(-1:Int) from h) (by omega)
 | x::l,k,h=>by
  have h:0<=if q x=true then k else bL q l (k+1):=h;show∃(j:Nat) (y:α),(x::l)[j]?=some y/\q y=true/\(if q x=true then k else bL q l (k+1))=k+j
  by_cases a:q x=true
  ·exact⟨0,x,rfl,a,by rw[fo a];simp⟩
  ·rw[o5 a] at h;obtain⟨j,y,h1,h2,h3⟩:=BS l (k+1) h;exact⟨j+1,y,by rw[abe];exact h1,h2,by rw[o5 a,h3];omega⟩
theorem JD (l:List α) {x:α}(a:x∈l) (h:q x=true):bL q l 0>=0:=by
 have:=rL q l;rw[abN.2 ⟨x,a,h⟩] at this;exact abu this
end
theorem s5 {g:cK}:∀{l:List Impl}{k0 k:Nat}{x:Impl}{ts:List Ty},oN g l k0=some (k,x,ts)->∃j,k=k0+j/\l[j]?=some x/\x.trait=g.tr/\iq x g.t=(ts,true)
 | [],k0,k,x,ts,h=>by cases h
 | y::l,k0,k,x,ts,h=>by
  rw[oN] at h;split at h
  ·rename_i a;injection h with h
   injection h with h1 h
   injection h with h2 h3
   subst h2;exact⟨0,by omega,rfl,a.1,Prod.ext h3 a.2⟩
  ·obtain⟨j,h1,h2,h3⟩:=s5 h;exact⟨j+1,by omega,by rw[abe];exact h2,h3⟩
theorem EX {g:cK}:∀{l:List Impl}{j:Nat}{x:Impl}{ts:List Ty}(k0:Nat),l[j]?=some x->x.trait=g.tr->iq x g.t=(ts,true)->∃r,oN g l k0=some r
 | [],j,x,ts,k0,h,_,_=>by simp at h
 | y::l,0,x,ts,k0,h,h1,h2=>by
  rw[aa4] at h;injection h with h
  subst h;rw[oN,fo ⟨h1,by rw[h2]⟩];exact⟨_,rfl⟩
 | y::l,j+1,x,ts,k0,h,h1,h2=>by
  rw[abe] at h;rw[oN];split
  ·exact⟨_,rfl⟩
  ·exact EX (k0+1) h h1 h2
theorem EY {g:cK}{b:aT}:m9 g b=true↔g.t.kind=5/\b.param=g.t.id/\b.trait=g.tr:=by
 rw[m9,aaN,aaN,aa0,aa0,aa0]
theorem pV {p:Prog}{a:List aT}{tr:Int}{t:Ty}{i:Int}{ts:List Ty}{ps:List eI}:jh p a tr t (.mk true i ts ps)=true↔t.kind=5/\0<=i/\a[i.toNat]?=some ⟨t.id,tr⟩/\ts=[]/\ps=[]:=by
 rw[jh,MA];simp only[aaN,aa0,dU];constructor
 ·rintro⟨h1,⟨h2,h3⟩,h4,h5⟩;obtain⟨b,hb⟩:=fK (l:=a) (k:=i.toNat) (by omega);rw[hb] at h4;simp only[aaN,aa0] at h4;refine⟨h1,h2,?_,aby (by omega),aby (by omega)⟩;rw[hb,<-h4.1,<-h4.2]
 ·rintro⟨h1,h2,h3,rfl,rfl⟩;have:=(aaT.1 h3).1;rw[h3];exact⟨h1,⟨h2,by omega⟩,by simp,rfl⟩
theorem rN {p:Prog}{b:List aT}{tr:Int}{t:Ty}{i:Int}{ts:List Ty}{ps:List eI}:jh p b tr t (.mk false i ts ps)=true↔0<=i/\∃x,p.impls[i.toNat]?=some x/\x.trait=tr/\(ts.length:Int)=x.params/\ps.length=x.bounds.length/\subst ts x.type=t/\uR p b ts x.bounds ps=true:=by
 rw[jh];simp only[aaN,dU];constructor
 ·rintro⟨⟨h1,h2⟩,h3⟩;obtain⟨x,a⟩:=fK (l:=p.impls) (k:=i.toNat) (by omega);rw[a] at h3;simp only[aaN,aa0,pI] at h3;exact⟨h1,x,a,h3⟩
 ·rintro⟨h1,x,a,h3⟩;have:=(aaT.1 a).1;rw[a];simp only[aaN,aa0,pI];exact⟨⟨h1,by omega⟩,h3⟩
theorem wC {p:Prog}{m:List aT}{ts:List Ty}{f:Int->cK->rP}(hf:∀c g r d,f c g=(.ok r,d)->jh p m g.tr g.t r=true):∀(l:List aT),(∀b∈l,dX b.param ts.length=true)->∀(c:Int) (a:List eI) ps d,iZ f (l.map (mg ts)) c a=(.ok ps,d)->∃k,ps=a++k/\k.length=l.length/\uR p m ts l k=true
 | [],_,c,a,ps,d,h=>by
  have h:((Except.ok a:Except Int (List eI)),c)=(.ok ps,d):=h;injection h with h1 h2
  injection h1 with h1
  exact⟨[],by rw[abn];exact h1.symm,rfl,by rw[uR];intros;contradiction⟩
 | b::l,hb,c,a,ps,d,h=>by
  rw[aaZ,iZ] at h;cases n:f c (mg ts b) with
  | mk v s =>
   rw[n] at h;cases v with
   | error e=>injection h with h;cases h
   | ok r =>
    obtain⟨k,x,w,u⟩:=wC hf l (fun b h=>hb b (by simp[h])) s (a++[r]) ps d h;have j:=hb b (by simp);have o:=hf c (mg ts b) r s n;refine⟨r::k,by rw[x,abM];rfl,by rw[aa8,aa8,w],?_⟩;rw[uR,j,u];have e:mg ts b=⟨b.trait,(ts[b.param.toNat]?).getD zT⟩:=by unfold mg;rw[fo j]
    rw[e] at o;rw[show jh p m b.trait ((ts[b.param.toNat]?).getD zT) r=true from o];rfl
theorem wD (p:Prog) (d:List aT) (v:∀x∈p.impls,IV p x):∀(n:Nat) (o:List cK) (c:Int) (g:cK) r m,eM p d n o c g=(.ok r,m)->jh p d g.tr g.t r=true
 | 0,o,c,g,r,m,h=>by rw[eM] at h;injection h with h;cases h
 | n+1,o,c,g,r,m,h=>by
  rw[eM] at h;split at h
  ·injection h with h;cases h
  split at h
  ·injection h with h;cases h
  split at h
  ·rename_i h3;injection h with h1 h
   injection h1 with h1
   subst h1;obtain⟨j,b,h4,h5,h6⟩:=BS d 0 h3;obtain⟨a1,a2,a3⟩:=EY.1 h5;rw[pV];refine⟨a1,h3,?_,rfl,rfl⟩;rw[h6,show(0+(j:Int)).toNat=j by omega,h4,<-a2,<-a3]
  cases a:oN g p.impls 0 with
  | none=>rw[a] at h;injection h with h;cases h
  | some q =>
   obtain⟨k,x,ts⟩:=q;rw[a] at h;simp only at h;cases l:iZ (eM p d n (o++[g])) (x.bounds.map (mg ts)) (c+1) [] with
   | mk y c1 =>
    rw[l] at h;cases y with
    | error e=>injection h with h;cases h
    | ok ps =>
     injection h with h1 h
     injection h1 with h1
     subst h1;obtain⟨j,h2,h3,h4,h5⟩:=s5 a;have u:=v x (aaU h3);obtain⟨m1,m2⟩:=(kO u g.t ts).1 h5;obtain⟨qs,s,z,w⟩:=wC (f:=eM p d n (o++[g])) (fun c g r m h=>wD p d v n _ c g r m h) x.bounds (fun b hb=>dU.2 (by have:=u.bd b hb;omega)) _ _ _ _ l;rw[abp] at s;subst s;rw[rN];exact⟨by omega,x,by rw[show((k:Nat):Int).toNat=j by omega];exact h3,h4,m1,z,m2,w⟩
structure MC (p:Prog):Prop where
 iv:∀x∈p.impls,IV p x
 no:∀(i k:Nat) (x y:Impl),i<k->p.impls[i]?=some x->p.impls[k]?=some y->x.trait=y.trait->¬comm x y
theorem MC.one {p:Prog}(h:MC p) {i k:Nat}{x y:Impl}{t:Ty}{d f:List Ty}(b:p.impls[i]?=some x) (a:p.impls[k]?=some y) (c:x.trait=y.trait) (hd:bW t<=8) (h1:iq x t=(d,true)) (h2:iq y t=(f,true)):i=k/\x=y/\d=f:=by
 have l:=h.iv x (aaU b);have j:=h.iv y (aaU a);have e:i=k:=by
  rcases Nat.lt_trichotomy i k with q | q | q
  ·exact vv (zP l j hd h1 h2) (h.no i k x y q b a c)
  ·exact q
  ·exact vv (zP j l hd h2 h1) (h.no k i y x q a b c.symm)
 subst e;rw[b] at a;injection a with a
 subst a;rw[h1] at h2;injection h2 with h2 _
 exact⟨rfl,rfl,h2⟩
theorem MC.find {p:Prog}(h:MC p) {g:cK}{k:Nat}{x:Impl}{ts:List Ty}(hd:bW g.t<=8) (d:p.impls[k]?=some x) (b:x.trait=g.tr) (c:iq x g.t=(ts,true)):oN g p.impls 0=some (k,x,ts):=by
 obtain⟨⟨n,o,l⟩,a⟩:=EX 0 d b c;obtain⟨j,h1,h2,h3,h4⟩:=s5 a;obtain⟨f,m,e⟩:=h.one h2 d (h3.trans b.symm) hd h4 c;rw[a,h1,f,m,e,Nat.zero_add]
theorem zR {p:Prog}{c:List aT}{ts:List Ty}:∀{l:List aT}{ps:List eI},ps.length=l.length->uR p c ts l ps=true->∀(j:Nat) (b:aT) (q:eI),l[j]?=some b->ps[j]?=some q->dX b.param ts.length=true/\jh p c b.trait ((ts[b.param.toNat]?).getD zT) q=true
 | [],[],_,_,j,b,q,h,_=>by simp at h
 | [],_::_,h,_,_,_,_,_,_=>by cases h
 | _::_,[],h,_,_,_,_,_,_=>by cases h
 | b'::l,q'::ps,d,h,j,b,q,hb,a=>by
  rw[uR] at h;simp only[aaN] at h;cases j with
  | zero =>
   rw[aa4] at hb a;injection hb with hb
   injection a with a
   subst hb a;exact⟨h.1,h.2.1⟩
  | succ j =>
   rw[abe] at hb a;exact zR (by simpa using d) h.2.2 j b q hb a
theorem Ia {p:Prog}(h:MC p):∀(r c:eI) (tr:Int) (t:Ty),bW t<=8->jh p [] tr t r=true->jh p [] tr t c=true->r=c:=vO (p:=fun r=>∀(c:eI) (tr:Int) (t:Ty),bW t<=8->jh p [] tr t r=true->jh p [] tr t c=true->r=c) fun r ih c tr t hd h1 h2=>by
 obtain⟨a,i,ts,ps⟩:=r;obtain⟨a',i',m,e⟩:=c;cases a with
 | true =>
  obtain⟨_,_,q,_⟩:=pV.1 h1;simp at q
 | false =>
  cases a' with
  | true =>
   obtain⟨_,_,q,_⟩:=pV.1 h2;simp at q
  | false =>
   obtain⟨a0,x,s,a2,w,a4,v,a6⟩:=rN.1 h1;obtain⟨b0,y,o,b2,b3,b4,b5,b6⟩:=rN.1 h2;have vx:=h.iv x (aaU s);have vy:=h.iv y (aaU o);obtain⟨e1,e2,e3⟩:=h.one s o (a2.trans b2.symm) hd ((kO vx t ts).2 ⟨w,v⟩) ((kO vy t m).2 ⟨b3,b5⟩);subst e2 e3;have e4:ps=e:=by
    refine abP fun j=>?_;cases hb:x.bounds[j]? with
    | none =>
     rw[abC] at hb;rw[abj (by omega),abj (by omega)]
    | some b =>
     have hj:=(aaT.1 hb).1;obtain⟨q,f⟩:=fK (l:=ps) (k:=j) (by omega);obtain⟨q',d⟩:=fK (l:=e) (k:=j) (by omega);obtain⟨z,c2⟩:=zR a4 a6 j b q hb f;obtain⟨_,c3⟩:=zR b4 b6 j b q' hb d;have z:=dU.1 z;obtain⟨u,n⟩:=fK (l:=ts) (k:=b.param.toNat) (by omega);rw[n] at c2 c3;rw[f,d,ih q (aaU f) q' b.trait u (abw (pT vx w v u (aaU n)) hd) c2 c3]
   rw[e4,show i=i' by omega]
theorem EZ {p:Prog}(hC:MC p) (f:List aT):∀(s n:Nat) (y:List cK) (c:Int) (g:cK),bW g.t<=8->0<=c->401<=(n:Int)+c->(∃r,jh p f g.tr g.t r=true/\wP r=s)->(∀r,jh p f g.tr g.t r=true->s<=wP r)->(∀h∈y,∀r,jh p f h.tr h.t r=true->s<wP r) ->
  (∃r d,eM p f n y c g=(.ok r,d)/\d<=c+s)\/(∃d,eM p f n y c g=(.error 2,d)/\¬c+s<=400):=by
 intro s
 induction s using Nat.strongRecOn with
 | _ s ba =>
  intro n y c g hd h0 hn aE am an;obtain⟨r,w,hs⟩:=aE;have bu:1<=s:=by rw[<-hs,Mz];omega
  cases n with
  | zero=>exact .inr ⟨c+1,by rw[eM],by omega⟩
  | succ n =>
   rw[eM]
   by_cases h1:c+1>400
   ·rw[fo h1];exact .inr ⟨c+1,rfl,by omega⟩
   rw[o5 h1];have al:¬(y.any fun h=>gX h g)=true:=fun q=>by
    obtain⟨h,hh,q⟩:=abN.1 q;rw[gX,aaN,aa0] at q;have:=an h hh r (by rw[q.1,Ec q.2];exact w);omega
   rw[o5 al]
   by_cases h3:bL (m9 g) f 0>=0
   ·rw[fo h3];exact .inl ⟨_,_,rfl,by omega⟩
   rw[o5 h3];obtain⟨a,i,ts,ps⟩:=r;cases a with
   | true =>
    obtain⟨o,q2,q3,_⟩:=pV.1 w;exact vv (JD f (aaU q3) (EY.2 ⟨o,rfl,rfl⟩)) h3
   | false =>
    obtain⟨a0,x,a1,a2,a3,a4,a5,a6⟩:=rN.1 w;have vx:=hC.iv x (aaU a1);have hm:=(kO vx g.t ts).2 ⟨a3,a5⟩;rw[hC.find hd a1 a2 hm];simp only;have ce:H9 ps+1=s:=by rw[<-hs,Mz];rfl
    have hL:∀(l:List aT) (v:List eI),v.length=l.length->uR p f ts l v=true->H9 v<s->∀(c:Int) (j:List eI),0<=c->c<=400->401<=(n:Int)+c ->
      (∃ps d,iZ (eM p f n (y++[g])) (l.map (mg ts)) c j=(.ok ps,d)/\d<=c+H9 v)\/(∃d,iZ (eM p f n (y++[g])) (l.map (mg ts)) c j=(.error 2,d)/\¬c+H9 v<=400):=by
     intro l
     induction l with
     | nil =>
      intro v ad _ _ c j _ _ _;exact .inl ⟨j,c,rfl,by omega⟩
     | cons b l aw =>
      intro v ad hp aa c j h0 h4 hn;cases v with
      | nil=>cases ad
      | cons q v =>
       have hp:=hp;rw[uR] at hp;simp only[aaN] at hp;obtain⟨p1,p2,p3⟩:=hp;have e:mg ts b=⟨b.trait,(ts[b.param.toNat]?).getD zT⟩:=by unfold mg;rw[fo p1]
       have p1:=dU.1 p1;obtain⟨u,hu⟩:=fK (l:=ts) (k:=b.param.toNat) (by omega);rw[hu] at p2 e;have e:mg ts b=⟨b.trait,u⟩:=e;have p2:jh p f b.trait u q=true:=p2;rw[H9] at aa;obtain⟨m,m1,⟨r',m2,m3⟩,m4⟩:=zF (p:=fun m=>∃r,jh p f b.trait u r=true/\wP r=m) (wP q) ⟨q,p2,rfl⟩;have z:∀r,jh p f b.trait u r=true->m<=wP r:=fun r w=>by
        by_cases aa:wP r<m
        ·exact vv ⟨r,w,rfl⟩ (m4 _ aa)
        ·omega
       have:=ba m (by omega) n (y++[g]) c ⟨b.trait,u⟩ (abw (pT vx a3 a5 u (aaU hu)) hd) h0 hn ⟨r',m2,m3⟩ z (fun h hh r w=>by
        rcases aaV.1 hh with hh | hh
        ·have:=an h hh r w;omega
        ·rw[abK.1 hh] at w;have:=am r w;omega)
       rw[aaZ,iZ,e];rcases this with⟨r1,c1,o,q2⟩ | ⟨c1,o,q2⟩
       ·rw[o];simp only;have cd:=zQ p f n (y++[g]) c _ r1 c1 h0 h4 o;rcases aw v (by simpa using ad) p3 (by omega) c1 (j++[r1]) (by omega) (by omega) (by omega) with⟨ps,d,q3,q4⟩ | ⟨d,q3,q4⟩
        ·exact .inl ⟨ps,d,q3,by rw[H9];omega⟩
        ·exact .inr ⟨d,q3,by rw[H9];omega⟩
       ·rw[o];exact .inr ⟨c1,rfl,by rw[H9];omega⟩
    rcases hL x.bounds ps a4 a6 (by omega) (c+1) [] (by omega) (by omega) (by omega) with⟨bt,d,o,q2⟩ | ⟨d,o,q2⟩
    ·rw[o];exact .inl ⟨_,_,rfl,by omega⟩
    ·rw[o];exact .inr ⟨_,rfl,by omega⟩
theorem JE {p:Prog}{a:List aT}{tr:Int}{t:Ty}{r:eI}(h:jh p a tr t r=true):∃s,s<=wP r/\(∃r,jh p a tr t r=true/\wP r=s)/\∀r,jh p a tr t r=true->s<=wP r:=by
 obtain⟨m,m1,m2,m4⟩:=zF (p:=fun m=>∃r,jh p a tr t r=true/\wP r=m) (wP r) ⟨r,h,rfl⟩;refine⟨m,m1,m2,fun r c=>?_⟩
 by_cases b:wP r<m
 ·exact vv ⟨r,c,rfl⟩ (m4 _ b)
 ·omega
theorem Ye {els a:List (List C)}{sz b:Nat}{K:Prop}(n m:Nat) (e:∀es∈a,es.length=sz) (c:els.length=n) (d:a.length=m) (h:n+m<=2 ^ 30) (hb:b<=1024) (k:K):wH els a sz b K :=
 ⟨e,by rw[c,d];simp only[maxLen];omega,by rw[c,d];exact abw (Nat.mul_le_mul h hb) (by decide),k⟩
structure PL8 (p:Prog) (bs more:List aT) (tr:Int) (t:Ty) (F S:Bool) (x y:eI) (e f:Int) (va:Impl->Bool):Prop where
 h29:CallsT P 4 [] [] (aR [] (.bool true))
 h30:CallsT P 20 [nu p,.sl (bs.map aW)] [] (aR [] (.bool F))
 h12:CallsT P 6 [.sl [Eo t]] [] (aR [] (.bool S))
 h34:F=true->CallsT P 10 [nu p,.sl (bs.map aW),IC tr,aP t] [] (aR [] (.tup [fW x,IC e]))
 h34':F=true->CallsT P 10 [nu p,.sl ((bs++more).map aW),IC tr,aP t] [] (aR [] (.tup [fW y,IC f]))
 he:e≠0->(e=9\/e=15\/e=2)/\x=Gu
 hb:F=true->bs.length<=10
 hf:e=0->f=0/\CallsT P 22 [fW x,IC 400] [] (aR [] (IC (wP x)))/\wP x<=400
 h31:∀z,CallsT P 48 [nu p,zZ z] [] (aR [] (.bool (va z)))
 h35:CallsT P 11 [fW Gu,fW Gu] [] (aR [] (.bool true))
 h37:F=true->e=0->p.impls.all va=true->CallsT P 9 [nu p,.sl (bs.map aW),IC tr,aP t,fW x] [] (aR [] (.bool true))/\CallsT P 9 [nu p,.sl ((bs++more).map aW),IC tr,aP t,fW y] [] (aR [] (.bool true))
theorem QA {p:Prog}{a:List aT}(h:wA p a=true):p.datas.length<=20/\p.impls.length<=12/\a.length<=10/\∀x∈p.impls,x.bounds.length<=6/\iA x.type/\bW x.type<=30:=by
 unfold wA at h;simp only[aaN,Bool.not_eq_true',ab0,aa1] at h;obtain⟨h1,h2,h3,h4⟩:=h;refine⟨by omega,by omega,by omega,fun x b=>?_⟩;obtain⟨h5,h6⟩:=h4 x b;have:=(BH h6).2 x.type (by simp);exact⟨by omega,this.1,this.2⟩
theorem Yf (p:Prog) (a:List aT) (tr:Int) (t:Ty) (b:p.impls.length<=9223372036854775807):CallsT P 10 [nu p,.sl (a.map aW),IC tr,aP t] [] (aR [] (.tup [fW (pU p a tr t).1,IC (pU p a tr t).2])):=by
 have:=Wp p a tr t b;rw[Qz] at this;exact this
theorem QB {p:Prog}{a:List aT}{tr:Int}{t:Ty}{r:eI}{c:Int}(h:eM p a 401 [] 0 ⟨tr,t⟩=(.ok r,c)):pU p a tr t=(r,0):=by
 unfold pU;rw[h]
section
variable {L:TL}{ρ:aG}
end
theorem VX (s:List Ty) (n:Nat) (t r:Ty) (h:aO s n t=some r):CallsT P 99 [.sl (s.map aD),aP t] [] (aR [] (aP r)):=by
 have f:=PZ;refine af Tryz.func99 Pw rfl fun o _=>?_;refine vY.mk ⟨Nat×Ty,(n,t),fun x=>aO s x.1 x.2=some r,[],fun _=>[],fun x=>[(3,.box 33 [IC x.2.kind,IC x.2.id,.sl (x.2.args.map aD)]),(4,.box 33 [IC 0,IC 0,.nils])],fun x=>x.1,h,trivial,
  ⟨.inl ⟨_,rfl,.inl ⟨rfl,rfl⟩⟩,.inl ⟨_,rfl,.inl ⟨rfl,rfl⟩⟩,trivial⟩,fun _=>rfl,fun _=>rfl,?_⟩
 rintro⟨n,c⟩ b _ _;refine qe (pJ b) fun m j=>?_;refine aF (f c) rfl fun _=>?_;refine ah (fun h9=>?_) (fun h9=>?_)
 ·refine qe (j.2.resolve_left fun q=>q.1 h9).2 fun x d=>?_;have h0:=d.1;have l:=d.2.1;refine nO h0 l ?_;refine aV (fun k=>?_) (fun k=>?_)
  ·have a:=d.2.2.resolve_left fun q=>k q.1;refine nO h0 l ?_;exact⟨(m,x),a.2,trivial,⟨.inl ⟨_,rfl,.inl ⟨rfl,rfl⟩⟩,.inl ⟨_,rfl,.inl ⟨rfl,rfl⟩⟩,trivial⟩,by have e:n=m+1:=j.1;show m<n;omega⟩
  ·have a:=d.2.2.resolve_right fun q=>q.1 k;exact ay rfl (by rw[a.2];rfl)
 ·have a:=j.2.resolve_right fun q=>h9 q.1;exact ay rfl (by rw[a.2];rfl)
theorem RT (s:List Ty) (v:Int) (t r:Ty) (h:CallsT P 99 [.sl (s.map aD),aP t] [] (aR [] (aP r))) (q:Ty->Bool) (n:∀x∈r.args,¬r.kind=9->CallsT P 101 [.sl (s.map aD),IC v,aP x] [] (aR [] (.bool (q x)))) :
  CallsT P 101 [.sl (s.map aD),IC v,aP t] [] (aR [] (.bool (if r.kind=9 then decide (r.id=v) else r.args.any q))):=by
 have l:=PZ r;have e:(r.args.map aD).length=r.args.length:=xo _;refine af Tryz.func101 Lg rfl fun p _=>?_;refine aF h rfl fun f=>?_;have m:r.args.length<=9223372036854775807:=fB f.2.2.1;refine aF l rfl fun _=>?_;refine ah (fun h9=>?_) (fun h9=>?_)
 ·exact ay rfl (vz C.bool (fo h9).symm)
 refine bN r.args.length 7 [] () (fun _=>[]) (fun _=>[(5,.box 33 [IC r.kind,IC r.id,.sl (r.args.map aD)])]) (fun k _=>(r.args.drop k).any q=r.args.any q) rfl (ai rfl) trivial ⟨.inl ⟨_,rfl,.inl ⟨rfl,rfl⟩⟩,trivial⟩ (fun _=>rfl) (fun _=>rfl) ?_;rintro k _ u b _ _ _;refine ah (fun a=>?_) (fun c=>?_)
 ·have a:k<r.args.length:=by rw[e] at a;omega
  refine bf a fun x o j d=>?_;refine cA o ?_;refine aF (n x j h9) rfl fun _=>?_;refine aq (fun h=>?_) (fun h=>?_)
  ·exact ay rfl (vz C.bool (by rw[o5 h9];exact P0 d b h))
  ·refine Fit.aae (by omega) (by omega) ?_;exact⟨(k+1,()),⟨a,LG d b h⟩,⟨bw,trivial⟩,⟨.inl ⟨_,rfl,.inl ⟨rfl,rfl⟩⟩,trivial⟩,bB a⟩
 ·have c:¬k<r.args.length:=by rw[e] at c;omega
  exact ay rfl (vz C.bool (by rw[o5 h9];exact P1 c b))
theorem VY (s:List Ty) (v:Int):∀(n:Nat) (t:Ty) (b:Bool),jI s v n t=some b->CallsT P 101 [.sl (s.map aD),IC v,aP t] [] (aR [] (.bool b))
 | 0,t,b,h=>by cases h
 | n+1,t,b,h=>by
  rw[jI] at h;cases hf:aO s n t with
  | none=>rw[hf] at h;cases h
  | some r =>
   simp only[hf] at h
   by_cases h9:r.kind=9
   ·rw[fo h9] at h;injection h with h
    have:=RT s v t r (VX s n t r hf) (fun _=>false) fun x _ q=>vv h9 q;rw[fo h9,h] at this;exact this
   ·rw[o5 h9] at h;obtain⟨h1,h2⟩:=oG h;have:=RT s v t r (VX s n t r hf) (fun x=>(jI s v n x).getD false) fun x a _=>VY s v n x _ (h1 x a);rw[o5 h9,h2] at this;exact this
end Go.Fr.Tryz
