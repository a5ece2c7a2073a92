/- Part of the proofs of the statements of this seat. -/
import Derived.Test.YthfdbepkalpplaaFW2
set_option maxRecDepth 10000
set_option linter.unusedVariables false
set_option linter.unusedSimpArgs false
namespace Go.Fr.T
open Go Go.RowKit Go.Fr
def cN:List TO->List TO->Bool
 | [],[]=>true
 | .row _ sz _::l,.row _ b _::m=>match Nat.beq sz b with | true=>cN l m | false=>false
 | .box _ _::l,.box _ _::m=>cN l m
 | .map _::l,.map _::m=>cN l m
 | _,_=>false
def Sb (k:Nat):C->Bool
 | .rw j=>Nat.beq j k
 | _=>false
def oW (cs:List C):List TO->Nat->Bool
 | [],_=>true
 | .row _ _ _::l,k=>match cs.any (Sb k) with | true=>oW cs l (k+1) | false=>false
 | .box _ _::l,k=>oW cs l (k+1)
 | .map _::l,k=>oW cs l (k+1)
def ul (fn:Func) (j:Nat):Bool:=match fn.body with
 | some c=>!eZ (dJ c) j
 | none=>false
def nY:C->Option (List C)
 | .agg cs=>some cs
 | .rw k=>some [.rw k]
 | _=>none
theorem LP {c:C}{cs:List C}(h:nY c=some cs) {F F':au}{L L':Loc}{v:Value}(h1:Rel F L c v) (e:Rel F' L' c v):∃d,ax F L cs d/\ax F' L' cs d:=by
 cases c<;>simp only[nY,reduceCtorEq,aaO] at h
 ·subst h;exact⟨[v],by simp only[ax];exact⟨_,_,rfl,h1,rfl⟩,by simp only[ax];exact⟨_,_,rfl,e,rfl⟩⟩
 ·subst h;simp only[Rel] at h1 e;obtain⟨d,k,f⟩:=h1;obtain⟨us,b,j⟩:=e;rw[k] at b;injection b with b
  have b:=Array.toList_inj.2 b;have b:d=us:=b;subst b;exact⟨d,f,j⟩
theorem FC {c:C}{cs:List C}(h:nY c=some cs) {F:au}{L:Loc}{sv:SV}(h1:aJ F L c sv):∃v,sv=.v v/\Rel F L c v:=by
 cases c<;>simp only[nY,reduceCtorEq,aaO] at h<;>exact h1
structure LQ (j:Nat) (c0:C) (Lin:List TO) (L:TL) (ρ:aK) (v:C) (R:List TO->C->Prop):Prop where
 out:∃Mo,L.sub (List.range' 1000 Lin.length)=some Mo/\ρ j=c0/\cN Lin Mo=true/\(uq [v]->R (Mo.map (TO.aad (C.ren (bA (List.range' 1000 Lin.length) 1000)))) (v.aat.ren (bA (List.range' 1000 Lin.length) 1000)))
theorem oZ:∀{l m:List TO},cN l m=true->m.length=l.length
 | [],[],_=>rfl
 | [],_::_,h=>by simp[cN] at h
 | .row _ sz _::l,.row _ b _::m,h=>by
  simp only[cN] at h;split at h
  ·rw[aa7,aa7,oZ h]
  ·cases h
 | .box _ _::l,.box _ _::m,h=>by
  simp only[cN] at h;rw[aa7,aa7,oZ h]
 | .map _::l,.map _::m,h=>by
  simp only[cN] at h;rw[aa7,aa7,oZ h]
 | .row _ _ _::_,[],h=>by simp[cN] at h
 | .row _ _ _::_,.box _ _::_,h=>by simp[cN] at h
 | .row _ _ _::_,.map _::_,h=>by simp[cN] at h
 | .box _ _::_,[],h=>by simp[cN] at h
 | .box _ _::_,.row _ _ _::_,h=>by simp[cN] at h
 | .box _ _::_,.map _::_,h=>by simp[cN] at h
 | .map _::_,[],h=>by simp[cN] at h
 | .map _::_,.row _ _ _::_,h=>by simp[cN] at h
 | .map _::_,.box _ _::_,h=>by simp[cN] at h
theorem o4:∀{l m:List TO},cN l m=true->∀(i:Nat) t sz els,l[i]?=some (.row t sz els)->∃c b,m[i]?=some (.row c sz b)
 | .row _ sz _::l,.row _ d _::m,h,i,t,s,els,e=>by
  simp only[cN] at h;split at h
  case h_2=>cases h
  rename_i hb;cases i with
  | zero =>
   simp only[aa6,aaO,TO.row.injEq] at e;obtain⟨rfl,rfl,rfl⟩:=e;exact⟨_,_,by rw[aa6,aaR hb]⟩
  | succ i =>
   rw[abg] at e ⊢;exact o4 h i t s els e
 | .box _ _::l,.box _ _::m,h,i,t,s,els,e=>by
  simp only[cN] at h;cases i with
  | zero=>simp at e
  | succ i =>
   rw[abg] at e ⊢;exact o4 h i t s els e
 | .map _::l,.map _::m,h,i,t,s,els,e=>by
  simp only[cN] at h;cases i with
  | zero=>simp at e
  | succ i =>
   rw[abg] at e ⊢;exact o4 h i t s els e
 | [],_,_,i,t,s,els,e=>by simp at e
 | .row _ _ _::_,[],h,_,_,_,_,_=>by simp[cN] at h
 | .row _ _ _::_,.box _ _::_,h,_,_,_,_,_=>by simp[cN] at h
 | .row _ _ _::_,.map _::_,h,_,_,_,_,_=>by simp[cN] at h
 | .box _ _::_,[],h,_,_,_,_,_=>by simp[cN] at h
 | .box _ _::_,.row _ _ _::_,h,_,_,_,_,_=>by simp[cN] at h
 | .box _ _::_,.map _::_,h,_,_,_,_,_=>by simp[cN] at h
 | .map _::_,[],h,_,_,_,_,_=>by simp[cN] at h
 | .map _::_,.row _ _ _::_,h,_,_,_,_,_=>by simp[cN] at h
 | .map _::_,.box _ _::_,h,_,_,_,_,_=>by simp[cN] at h
theorem Pj {k:Nat}{c:C}(h:Sb k c=true):c=.rw k:=by
 cases c<;>simp only[Sb,aa5] at h;rw[aaR h]
theorem o6 {cs:List C}:∀{l:List TO}{k:Nat},oW cs l k=true->∀(i:Nat) t sz els,l[i]?=some (.row t sz els)->∃m:Nat,cs[m]?=some (.rw (k+i))
 | [],k,_,i,t,sz,els,e=>by simp at e
 | .row _ _ _::l,k,h,i,t,sz,els,e=>by
  simp only[oW] at h;split at h
  case h_2=>cases h
  rename_i hb;cases i with
  | zero =>
   obtain⟨c,f,d⟩:=abT.1 hb;obtain⟨m,b⟩:=abh.1 f;exact⟨m,by rw[b,Pj d,Nat.add_zero]⟩
  | succ i =>
   rw[abg] at e;obtain⟨m,b⟩:=o6 h i t sz els e;exact⟨m,by rw[b,Nat.add_right_comm,Nat.add_assoc]⟩
 | .box _ _::l,k,h,i,t,sz,els,e=>by
  simp only[oW] at h;cases i with
  | zero=>simp at e
  | succ i =>
   rw[abg] at e;obtain⟨m,b⟩:=o6 h i t sz els e;exact⟨m,by rw[b,Nat.add_right_comm,Nat.add_assoc]⟩
 | .map _::l,k,h,i,t,sz,els,e=>by
  simp only[oW] at h;cases i with
  | zero=>simp at e
  | succ i =>
   rw[abg] at e;obtain⟨m,b⟩:=o6 h i t sz els e;exact⟨m,by rw[b,Nat.add_right_comm,Nat.add_assoc]⟩
section
variable {P:Program}{G:Nat->Option (Nat×TypeId)}{F:au}{L:Loc}{ρ:Env}{M:TL}{τ:aK}{a:Act}{w:World}
theorem nodup_range (n:Nat):(List.range' 1000 n).Nodup:=List.nodup_range'
theorem Uo {n j:Nat}{c0:C}{cs:List C}(am:nY c0=some cs) {va:Value}{asg:List Nat}{fn:Func}{rs:List RV}{Lin:List TO}{Li:List Own}{R:List TO->C->Prop}{a0 a':Act}{w':World}(ao:mL P fn.results.toList=some rs) (hl:Li.length=Lin.length) (bp:bM F (inp Li) (cC Lin))
  (cb:∀k g t cs,(inp Li).get k=some (.box g t cs)->G k=some (g,t)) (bs:j∉asg) (cd:a0.tmps.getD j undef=va) (al:Rel F (inp Li) c0 va) (x:oW cs Lin 1000=true)
  (hq:dZ n F (inp Li) w a0 asg (Both G (fun L ρ=>gF L ρ rs fun vs=>LQ j c0 Lin L ρ (gD vs) R)) a' w') :
  a'.defers=a0.defers/\∃v,(results fn a'.tmps).run P w'=.ok v w'/\∃F' Lo,St F' (inp Lo) w'/\Step F (inp Li) w F' (inp Lo) w'/\gC Li R F' Lo v/\QY Li Lo:=by
 obtain⟨F',L',ρ',g1,g2,g3,g4,s,g6,M',dl,g7,av⟩:=hq;obtain⟨us,hm,ab,bz,⟨Mo,q4,q3,q5,q7⟩⟩:=nD g1 g2 ao (qY g7 av);obtain⟨Lo,d1,d2,d3⟩:=j5 g7.tl q4;have bu:=nodup_range Lin.length;have hv:Rel F' L' (gD ab) (fM us):=F5 bz;have ca:=oZ q5;obtain⟨x1,x2⟩:=ct d1;obtain⟨z1,z2⟩:=xM q4;have d:∀i,i<Lin.length->(List.range' 1000 Lin.length)[i]?=some (1000+i):=fun i hi=>by rw[List.getElem?_range' hi,Nat.one_mul]
 have q:∀(i:Nat) g t cs,Li[i]?=some (.box g t cs)->∃cs',Lo[i]?=some (.box g t cs'):=by
  intro i g t cs hi;have c:i<Lin.length:=by rw[<-hl];exact(aaU.1 hi).1
  have f:(inp Li).get (1000+i)=some (.box g t cs):=by rw[aF,o5 (by omega),show 1000+i-1000=i by omega];exact hi
  obtain⟨bi,h2⟩:=g7.kp _ g t (cb _ _ _ _ f);exact⟨bi,by rw[<-x2 i _ (d i c)];exact h2⟩
 -- the slot
 obtain⟨v1,e1,cc⟩:=FC am (by have:=g7.env j;rw[q3] at this;exact this);have bb:va=v1:=by
  have:=g2.eq j;rw[g6 j bs,cd,e1] at this;exact this
 subst bb;obtain⟨bv,ad,z⟩:=LP am al cc;have an:∀(i:Nat) v t sz n xs,Li[i]?=some (.row v t sz n xs)->∃t' ae,Lo[i]?=some (.row v t' sz n ae):=by
  intro i v t sz n xs hi;have c:i<Lin.length:=by rw[<-hl];exact(aaU.1 hi).1
  have f:(inp Li).get (1000+i)=some (.row v t sz n xs):=by rw[aF,o5 (by omega),show 1000+i-1000=i by omega];exact hi
  have hr:=bp (1000+i);rw[ck,o5 (by omega),show 1000+i-1000=i by omega,f,aaQ c] at hr;have y:Lin[i]?=some Lin[i]:=aaQ c;generalize Lin[i]=o at hr y;cases o with
  | box=>exact hr.elim
  | map=>exact hr.elim
  | row t0 cY cw =>
   obtain⟨r1,r2,r3,⟨r4,ra,rc,r5,r6⟩,r7⟩:=hr;obtain⟨m,hm⟩:=o6 x i _ _ _ y;obtain⟨u,hu⟩:∃u,bv[m]?=some u:=by
    have:=ad.len;have co:=(aaU.1 hm).1;exact⟨_,aaQ (by omega)⟩
   have h1:=ad.at hm hu;have h2:=z.at hm hu;simp only[Rel] at h1 h2;obtain⟨a1,c1,t1,s1,n1,y1,bt,l⟩:=h1;obtain⟨a2,c2,t2,s2,n2,y2,ac,bm⟩:=h2;rw[f] at l;injection l with l
   injection l with p1 p2 p3 p4 p5
   rw[bt] at ac;injection ac with w1 w2 w3
   have ar:Lo[i]?=some (.row u t2 s2 n2 y2):=by rw[<-x2 i _ (d i c)];exact bm
   obtain⟨t',ci,be⟩:=o4 q5 i _ _ _ y;have bc:=d3 i _ _ be ar;obtain⟨_,k2,_⟩:=bc;refine⟨t2,y2,?_⟩;rw[ar,p1,p4,<-w2,<-k2,r2]
 refine⟨g4,fM us,?_,F',Lo,g1.handed d1 bu,?_,⟨Mo.map (TO.aad (C.ren (bA (List.range' 1000 Lin.length) 1000))),(gD ab).aat.ren (bA (List.range' 1000 Lin.length) 1000),by simp[d2],kW g7.tl d2 d1 d3,(Du hv).ren (lq d1),q,q7 (by simp only[uq];exact⟨hv.wf,trivial⟩)⟩,by rw[d2,ca,hl],?_⟩
 ·rw[oD];rw[Array.mapM_eq_mapM_toList];simp only[Sem.run_bind,Sem.run_map];rw[hm];simp only[Result.andThen_ok,Sem.run_pure];congr 1
  match us with
  | []=>rfl
  | [t]=>rfl
  | t::u::r =>
   simp only[fM];rw[dif_neg (by simp)]
 ·refine⟨s.le,s.os,s.tape,s.output,s.size,s.same,s.frz,fun b hb=>s.own b ?_⟩;obtain⟨j,p,e,hb⟩:=hb;rw[aF] at e;split at e
  case isFalse=>cases e
  have c:j-1000<Lo.length:=(aaU.1 e).1;have hk:=d (j-1000) (by omega);exact⟨_,p,by rw[x2 _ _ hk];exact e,hb⟩
 ·intro i o ho;cases o with
  | box g t cs =>
   obtain⟨cs',h⟩:=q i g t cs ho;exact⟨_,h,rfl,rfl⟩
  | row v t sz n xs =>
   obtain⟨t',ae,h⟩:=an i v t sz n xs ho;exact⟨_,h,rfl,rfl,rfl⟩
theorem rI (j:Nat) (c0:C) {cs:List C}{f:FuncId}{fn:Func}{sc:ay}{A:dc}{rs:List RV}{args:List C}{Lin:List TO}{R:List TO->C->Prop}(hf:P.funcs[f]?=some fn) (b:aB P A fn=some (sc,A.n,rs,false)) (r:Nat.ble args.length A.n=true)
  (y:ul fn j=true) (hj:args[j]?=some c0) (ba:nY c0=some cs) (aa:oW cs Lin 1000=true)
  (h:uq args->(∀o∈Lin,o.Wf)->evalTC P ⟨fun _=>False,[],none⟩ sc (fun _ _ _=>False) (fun L ρ=>gF L ρ rs fun d=>LQ j c0 Lin L ρ (gD d) R) (fun L ρ=>gF L ρ rs fun d=>LQ j c0 Lin L ρ (gD d) R) (cC Lin) (jN 0 args)):iD P f args Lin R:=by
 unfold aB at b;split at b
 case h_2=>cases b
 rename_i c hb;split at b
 case h_2=>cases b
 rename_i cb az al an;injection b with b
 injection b with e1 e2
 injection e2 with e2 e3
 injection e3 with e3 hname
 subst e1 e3;have bc:j∉dJ c:=by
  unfold ul at y;rw[hb] at y;intro am;simp only[cH.2 am,Bool.not_true,aa5] at y
 refine⟨fun F Li d hl x ha=>⟨⟨fn,hf,by rw[hb];rfl,hname⟩,fun F G L v hF h=>⟨gC.aao F G L v hF h.1,h.2⟩,fun w hs=>?_⟩⟩;refine calls_of_wp hf hb ?_;have be:∀o∈Lin,o.Wf:=by
  intro o ho;obtain⟨i,hi⟩:=abh.1 ho;have:=x (1000+i);rw[ck,aF,o5 (by omega),o5 (by omega),show 1000+i-1000=i by omega,hi] at this;cases e:Li[i]? with
  | none=>rw[e] at this;exact this.elim
  | some p=>rw[e] at this;exact cD.wf this
 have h:=h ha.wf be;have z:=ha.len;have r:=abb r
 -- the frame
 have key:∀j,∃sv,aJ F (inp Li) (jN 0 args j) sv/\conc (inp Li) sv=(d.toArray++Array.replicate (fn.ntmps-d.toArray.size) undef).getD j undef/\(∀k off,sv=.own k off->∃g t cs,(inp Li).get k=some (.box g t cs))/\(∀ad i,sv=.el ad i->ad≠none):=by
  intro j;rw[nM];simp only[abe,abl,Nat.sub_zero,aa8];cases e:args[j]? with
  | some c =>
   have u:j<d.length:=by rw[z];exact(aaU.1 e).1
   obtain⟨s1,s2,s3,s4⟩:=qX (ha.at e (aaQ u));refine⟨_,s1,?_,s3,fun ad i e=>vv e (s4 ad i)⟩;rw[s2,Array.getElem?_append_left (by simpa using u)];simp[u]
  | none =>
   have bi:d.length<=j:=by rw[z];exact abA.1 e
   refine⟨.v undef,kQ,?_,fun _ _ e=>(by cases e),fun _ _ e=>(by cases e)⟩;rw[Array.getElem?_append_right (by simpa using bi)];simp only[Array.getElem?_replicate,conc];split<;>rfl
 let ae:Env:=fun j=>(key j).choose
 have he:aA (inp Li) ae {tmps:=d.toArray++Array.replicate (fn.ntmps-d.toArray.size) undef,defers:=[]} :=
  ⟨fun t=>(key t).choose_spec.2.1.symm,fun t k off e=>(key t).choose_spec.2.2.1 k off e,fun t ad j e=>(key t).choose_spec.2.2.2 ad j e⟩
 let G:Nat->Option (Nat×TypeId):=fun k=>match(inp Li).get k with | some (.box g t _)=>some (g,t) | _=>none
 have bd:∀k g t cs,(inp Li).get k=some (.box g t cs)->G k=some (g,t):=fun k g t cs e=>by simp only[G,e]
 have aE:Kp G (inp Li):=by
  intro k g t e;simp only[G] at e;split at e
  ·rename_i g' t' cs h;injection e with e
   injection e with e1 e2
   subst e1 e2;exact⟨cs,h⟩
  ·cases e
 have aw:∀k,G k≠none->1000<=k:=by
  intro k m;simp only[G] at m;split at m
  ·rename_i g t cs h;rw[aF] at h;split at h
   ·assumption
   ·cases h
  ·exact vv rfl m
 have s:j<d.length:=by rw[z];exact(aaU.1 hj).1
 have ao:(d.toArray++Array.replicate (fn.ntmps-d.toArray.size) undef).getD j undef=d[j]:=by
  rw[aa8,Array.getElem?_append_left (by simpa using s)];simp[s]
 have ag:Rel F (inp Li) c0 d[j]:=ha.at hj (aaQ s);have ht:TS G F (inp Li) ae (cC Lin) (jN 0 args):=⟨x,fun j=>(key j).choose_spec.1,aE,hs.glob⟩;refine wp_mono (fp c al (fun k _ m=>.inl (aw k m)) hs he ht (by simp[e2];omega) h) ?_;intro e a' w' q;have fin:∀{a0:Act},a0.defers=[]->a0.tmps.getD j undef=d[j]->dZ A.n F (inp Li) w a0 (dJ c) (Both G (fun L ρ=>gF L ρ az fun d=>LQ j c0 Lin L ρ (gD d) R)) a' w'->a'.defers=[]/\∃v,(results fn a'.tmps).run P w'=.ok v w' /\
   ∃v' F' Lo,Ending.returned v=.returned v'/\St F' (inp Lo) w'/\Step F (inp Li) w F' (inp Lo) w'/\gC Li R F' Lo v'/\QY Li Lo:=by
  intro a0 bb av q;obtain⟨k1,v,k2,F',Lo,k3,k4,k5⟩:=Uo ba an hl x bd bc av ag aa q;exact⟨k1.trans bb,v,k2,v,F',Lo,rfl,k3,k4,k5⟩
 cases e with
 | normal=>exact fin rfl ao q
 | ret=>exact fin rfl ao q
 | exit j=>obtain⟨F',L',ρ',_,_,_,_,_,_,M',cf,_,h⟩:=q;exact h.elim
 | goto l=>exact q.elim
 | panic c =>
  obtain⟨v,bo,F',L',g1,g2,g3,g4,g5,kp,hp,_⟩:=q;exact hp.elim
 | outgrown=>exact q.elim
end
section
variable {P:Program}{L:TL}{ρ:aK}
theorem Cz (ks:List Nat) {f:Nat}{args b:List C}{K:TL->aK->C->Prop}{x:C}{Lin Lin' Lo:List TO}(h:iD P f b Lin' (aU Lo x)) (e:L.sub ks=some Lin) (j:aP ks=true)
  (l:(args.map fun c=>c.aaj.ren (bA ks 1000))=b) (o:Lin.map (TO.aad (C.ren (bA ks 1000)))=Lin') (d:ks.length=Lo.length)
  (k:K ((L.aae ks).puts ks (Lo.map (TO.aad (C.ren (aI ks))))) ρ (x.ren (aI ks)).slt):qa P f args L ρ K:=by
 subst l o;exact .inpl ks Lin _ e j h fun v Mo ⟨m,n⟩ _ _=>by subst m n;exact⟨d,k⟩
theorem Sc {j:Nat}{b:C}{Lin Mo Lo:List TO}{v x:C}(c:L.sub (List.range' 1000 Lin.length)=some Mo) (f:ρ j=b) (h:cN Lin Mo=true) (d:Mo.map (TO.aad (C.ren (bA (List.range' 1000 Lin.length) 1000)))=Lo) (e:v.aat.ren (bA (List.range' 1000 Lin.length) 1000)=x) :
  LQ j b Lin L ρ v (aU Lo x):=⟨Mo,c,f,h,fun _=>⟨d,e⟩⟩
end
theorem CallsT.aaI {P:Program}{f:Nat}{args:List C}{t sz:Nat}{els:List (List C)}{x:C}(h:CallsT P f (args.map (C.frz 1000 els)) [] (aU [] x)) (he:Da P f) (hp:∀{F F':au}{L L':Loc}{v:Value},Rel F L x v->Rel F' L' x v) :
  iD P f args [.row t sz els] (aU [.row t sz els] x):=by
 refine⟨fun F Li vs hl p hr=>?_⟩
 match Li,hl with
 | [o],_ =>
  refine⟨he,fun F G L v s ⟨r,q⟩=>⟨gC.aao _ _ _ _ s r,q⟩,fun w m=>?_⟩;have z:aA (inp [o]) (fun _=>.v undef) (⟨#[],[]⟩:Act):=by
   refine⟨fun j=>?_,fun j k off e=>(by cases e),fun j a i e=>(by cases e)⟩;simp[conc]
  obtain⟨F2,L2,g1,g2,g3,g4,g5⟩:=rZ (G:=fun _=>none) (k:=1000) m z (τ:=fun _=>.any) ⟨p,fun j=>trivial,fun k g t e=>(by cases e),m.glob⟩ (show(cC [TO.row t sz els]).get 1000=some (.row t sz els) from rfl);have u:∀k o',L2.get k=some o'->False:=fun k o' e=>by
   have q:=g4.tl k;rw[e] at q;have hn:(((cC [TO.row t sz els]).del 1000).aad (C.frz 1000 els)).get k=none:=by
    show(TL.aad (C.frz 1000 els) []).get k=none;rfl
   rw[hn] at q;exact q
  have aa:ax F2 (inp []) (args.map (C.frz 1000 els)) vs:=by
   have h1:ax F2 L2 (args.map (C.frz 1000 els)) vs:=ax.map (fun c _ v hv=>g5 hv) hr;exact h1.ext (au.le_refl _) fun k o' e=>(u k o' e).elim
  have ac:St F2 (inp []) w:=g1.part (fun k o e=>by cases e);refine Calls.mono ((h.out F2 [] vs rfl (fun k=>trivial) aa).run w ac) ?_;rintro e w' ⟨v,F3,Lo,rfl,ae,d,Mo,c,q1,q2,q3,q4,rfl,rfl⟩;have n:F2.le F3:=d.le;have l:∀b,b<w.heap.size->w'.heap[b]?=w.heap[b]?:=fun b hb=>d.same b hb fun⟨k,o,e,_⟩=>(by cases e);have y:∀k o' g,(inp [o]).get k=some o'->o'.blk=some g->g<w.heap.size:=fun k o' g e hb=>Own.aaq (m.own k o' e) hb;have ad:St F (inp [o]) w':=by
   refine⟨fun b ob hb=>?_,fun k o' e=>?_,m.off,m.sep,m.glob⟩
   ·exact ae.frz b ob (n b ob (g3.le b ob hb))
   ·exact Own.aau (m.own k o' e) fun g hg=>l g (y k o' g e hg)
  refine⟨v,F,[o],rfl,ad,⟨au.le_refl _,d.os,d.tape,d.output,d.size,fun b hb _=>l b hb,fun b hb=>.inl hb,fun b hb=>.inl hb⟩,⟨[.row t sz els],_,rfl,p,hp q3,fun i g t cs e=>⟨cs,e⟩,rfl,rfl⟩,rfl,fun i o' e=>⟨o',e,Own.aah o'⟩⟩
end Go.Fr.T
