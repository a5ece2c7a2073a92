/- Part of the proofs of the statements of this seat. -/
import Derived.Test.YthfdbepkalpplaaGreatFW2
set_option maxRecDepth 10000
set_option linter.unusedVariables false
set_option linter.unusedSimpArgs false
namespace Go.Fr.T
open Go Go.RowKit Go.Fr
def di:List TO->List TO->Bool
 | [],[]=>true
 | .row _ sz _::l,.row _ b _::m=>match Nat.beq sz b with | true=>di l m | false=>false
 | .box _ _::l,.box _ _::m=>di l m
 | .map _::l,.map _::m=>di l m
 | _,_=>false
def Tt (k:Nat):C->Bool
 | .rw j=>Nat.beq j k
 | _=>false
def pL (cs:List C):List TO->Nat->Bool
 | [],_=>true
 | .row _ _ _::l,k=>match cs.any (Tt k) with | true=>pL cs l (k+1) | false=>false
 | .box _ _::l,k=>pL cs l (k+1)
 | .map _::l,k=>pL cs l (k+1)
def uM (fn:Func) (j:Nat):Bool:=match fn.body with
 | some c=>!fM (dR c) j
 | none=>false
def oK:C->Option (List C)
 | .agg cs=>some cs
 | .rw k=>some [.rw k]
 | _=>none
theorem Mq {c:C}{cs:List C}(h:oK c=some cs) {F F':aA}{L L':Loc}{v:Value}(h1:Rel F L c v) (h2:Rel F' L' c v):∃d,aB F L cs d/\aB F' L' cs d:=by
 cases c<;>simp only[oK,reduceCtorEq,aaO] at h
 ·subst h;exact⟨[v],by simp only[aB];exact⟨_,_,rfl,h1,rfl⟩,by simp only[aB];exact⟨_,_,rfl,h2,rfl⟩⟩
 ·subst h;simp only[Rel] at h1 h2;obtain⟨d,j,e⟩:=h1;obtain⟨us,b,f⟩:=h2;rw[j] at b;injection b with b
  have b:=Array.toList_inj.2 b;have b:d=us:=b;subst b;exact⟨d,e,f⟩
theorem Gs {c:C}{cs:List C}(h:oK c=some cs) {F:aA}{L:Loc}{sv:SV}(h1:aL F L c sv):∃v,sv=.v v/\Rel F L c v:=by
 cases c<;>simp only[oK,reduceCtorEq,aaO] at h<;>exact h1
structure Mr (j:Nat) (c0:C) (Lin:List TO) (L:TL) (ρ:aG) (v:C) (R:List TO->C->Prop):Prop where
 out:∃Mo,L.sub (List.range' 1000 Lin.length)=some Mo/\ρ j=c0/\di Lin Mo=true/\(uT [v]->R (Mo.map (TO.aad (C.ren (bh (List.range' 1000 Lin.length) 1000)))) (v.aao.ren (bh (List.range' 1000 Lin.length) 1000)))
theorem pM:∀{l m:List TO},di l m=true->m.length=l.length
 | [],[],_=>rfl
 | [],_::_,h=>by simp[di] at h
 | .row _ sz _::l,.row _ b _::m,h=>by
  simp only[di] at h;split at h
  ·rw[aa8,aa8,pM h]
  ·cases h
 | .box _ _::l,.box _ _::m,h=>by
  simp only[di] at h;rw[aa8,aa8,pM h]
 | .map _::l,.map _::m,h=>by
  simp only[di] at h;rw[aa8,aa8,pM h]
 | .row _ _ _::_,[],h=>by simp[di] at h
 | .row _ _ _::_,.box _ _::_,h=>by simp[di] at h
 | .row _ _ _::_,.map _::_,h=>by simp[di] at h
 | .box _ _::_,[],h=>by simp[di] at h
 | .box _ _::_,.row _ _ _::_,h=>by simp[di] at h
 | .box _ _::_,.map _::_,h=>by simp[di] at h
 | .map _::_,[],h=>by simp[di] at h
 | .map _::_,.row _ _ _::_,h=>by simp[di] at h
 | .map _::_,.box _ _::_,h=>by simp[di] at h
theorem pO:∀{l m:List TO},di l m=true->∀(i:Nat) t sz els,l[i]?=some (.row t sz els)->∃d b,m[i]?=some (.row d sz b)
 | .row _ sz _::l,.row _ c _::m,h,i,t,s,els,e=>by
  simp only[di] at h;split at h
  case h_2=>cases h
  rename_i hb;cases i with
  | zero =>
   simp only[aa4,aaO,TO.row.injEq] at e;obtain⟨rfl,rfl,rfl⟩:=e;exact⟨_,_,by rw[aa4,aaR hb]⟩
  | succ i =>
   rw[abe] at e ⊢;exact pO h i t s els e
 | .box _ _::l,.box _ _::m,h,i,t,s,els,e=>by
  simp only[di] at h;cases i with
  | zero=>simp at e
  | succ i =>
   rw[abe] at e ⊢;exact pO h i t s els e
 | .map _::l,.map _::m,h,i,t,s,els,e=>by
  simp only[di] at h;cases i with
  | zero=>simp at e
  | succ i =>
   rw[abe] at e ⊢;exact pO h i t s els e
 | [],_,_,i,t,s,els,e=>by simp at e
 | .row _ _ _::_,[],h,_,_,_,_,_=>by simp[di] at h
 | .row _ _ _::_,.box _ _::_,h,_,_,_,_,_=>by simp[di] at h
 | .row _ _ _::_,.map _::_,h,_,_,_,_,_=>by simp[di] at h
 | .box _ _::_,[],h,_,_,_,_,_=>by simp[di] at h
 | .box _ _::_,.row _ _ _::_,h,_,_,_,_,_=>by simp[di] at h
 | .box _ _::_,.map _::_,h,_,_,_,_,_=>by simp[di] at h
 | .map _::_,[],h,_,_,_,_,_=>by simp[di] at h
 | .map _::_,.row _ _ _::_,h,_,_,_,_,_=>by simp[di] at h
 | .map _::_,.box _ _::_,h,_,_,_,_,_=>by simp[di] at h
theorem Qj {k:Nat}{c:C}(h:Tt k c=true):c=.rw k:=by
 cases c<;>simp only[Tt,aa5] at h;rw[aaR h]
theorem pQ {cs:List C}:∀{l:List TO}{k:Nat},pL cs l k=true->∀(i:Nat) t sz els,l[i]?=some (.row t sz els)->∃m:Nat,cs[m]?=some (.rw (k+i))
 | [],k,_,i,t,sz,els,e=>by simp at e
 | .row _ _ _::l,k,h,i,t,sz,els,e=>by
  simp only[pL] at h;split at h
  case h_2=>cases h
  rename_i hb;cases i with
  | zero =>
   obtain⟨c,d,f⟩:=abN.1 hb;obtain⟨m,b⟩:=abh.1 d;exact⟨m,by rw[b,Qj f,Nat.add_zero]⟩
  | succ i =>
   rw[abe] at e;obtain⟨m,b⟩:=pQ h i t sz els e;exact⟨m,by rw[b,Nat.add_right_comm,Nat.add_assoc]⟩
 | .box _ _::l,k,h,i,t,sz,els,e=>by
  simp only[pL] at h;cases i with
  | zero=>simp at e
  | succ i =>
   rw[abe] at e;obtain⟨m,b⟩:=pQ h i t sz els e;exact⟨m,by rw[b,Nat.add_right_comm,Nat.add_assoc]⟩
 | .map _::l,k,h,i,t,sz,els,e=>by
  simp only[pL] at h;cases i with
  | zero=>simp at e
  | succ i =>
   rw[abe] at e;obtain⟨m,b⟩:=pQ h i t sz els e;exact⟨m,by rw[b,Nat.add_right_comm,Nat.add_assoc]⟩
section
variable {P:Program}{G:Nat->Option (Nat×TypeId)}{F:aA}{L:Loc}{ρ:Env}{M:TL}{τ:aG}{a:Act}{w:World}
theorem nodup_range (n:Nat):(List.range' 1000 n).Nodup:=List.nodup_range'
theorem Vx {n j:Nat}{c0:C}{cs:List C}(ac:oK c0=some cs) {va:Value}{asg:List Nat}{fn:Func}{rs:List RV}{Lin:List TO}{Li:List Own}{R:List TO->C->Prop}{a0 a':Act}{w':World}(ar:nA P fn.results.toList=some rs) (hl:Li.length=Lin.length) (cb:bT F (inp Li) (cO Lin))
  (bs:∀k g t cs,(inp Li).get k=some (.box g t cs)->G k=some (g,t)) (be:j∉asg) (bk:a0.tmps.getD j undef=va) (ao:Rel F (inp Li) c0 va) (x:pL cs Lin 1000=true)
  (hq:eJ n F (inp Li) w a0 asg (Both G (fun L ρ=>gV L ρ rs fun vs=>Mr j c0 Lin L ρ (gU vs) R)) a' w') :
  a'.defers=a0.defers/\∃v,(results fn a'.tmps).run P w'=.ok v w'/\∃F' Lo,St F' (inp Lo) w'/\Step F (inp Li) w F' (inp Lo) w'/\gQ Li R F' Lo v/\Sr Li Lo:=by
 obtain⟨F',L',ρ',g1,g2,g3,g4,s,g6,M',cy,g7,z⟩:=hq;obtain⟨us,hm,ad,bi,⟨Mo,q4,q3,q5,q7⟩⟩:=oe g1 g2 ar (rE g7 z);obtain⟨Lo,d1,d2,d3⟩:=kH g7.tl q4;have bc:=nodup_range Lin.length;have hv:Rel F' L' (gU ad) (gD us):=GV bi;have bl:=pM q5;obtain⟨x1,x2⟩:=cE d1;obtain⟨z1,z2⟩:=yC q4;have d:∀i,i<Lin.length->(List.range' 1000 Lin.length)[i]?=some (1000+i):=fun i hi=>by rw[List.getElem?_range' hi,Nat.one_mul]
 have q:∀(i:Nat) g t cs,Li[i]?=some (.box g t cs)->∃cs',Lo[i]?=some (.box g t cs'):=by
  intro i g t cs hi;have c:i<Lin.length:=by rw[<-hl];exact(aaT.1 hi).1
  have l:(inp Li).get (1000+i)=some (.box g t cs):=by rw[aI,fo (by omega),show 1000+i-1000=i by omega];exact hi
  obtain⟨bt,h2⟩:=g7.kp _ g t (bs _ _ _ _ l);exact⟨bt,by rw[<-x2 i _ (d i c)];exact h2⟩
 -- the slot
 obtain⟨v1,e1,bo⟩:=Gs ac (by have:=g7.env j;rw[q3] at this;exact this);have bp:va=v1:=by
  have:=g2.eq j;rw[g6 j be,bk,e1] at this;exact this
 subst bp;obtain⟨aE,aw,ag⟩:=Mq ac ao bo;have ae:∀(i:Nat) v t sz n xs,Li[i]?=some (.row v t sz n xs)->∃t' aa,Lo[i]?=some (.row v t' sz n aa):=by
  intro i v t sz n xs hi;have c:i<Lin.length:=by rw[<-hl];exact(aaT.1 hi).1
  have l:(inp Li).get (1000+i)=some (.row v t sz n xs):=by rw[aI,fo (by omega),show 1000+i-1000=i by omega];exact hi
  have hr:=cb (1000+i);rw[cu,fo (by omega),show 1000+i-1000=i by omega,l,aaQ c] at hr;have y:Lin[i]?=some Lin[i]:=aaQ c;generalize Lin[i]=o at hr y;cases o with
  | box=>exact hr.elim
  | map=>exact hr.elim
  | row t0 df co =>
   obtain⟨r1,r2,r3,⟨r4,ra,rc,r5,r6⟩,r7⟩:=hr;obtain⟨m,hm⟩:=pQ x i _ _ _ y;obtain⟨u,hu⟩:∃u,aE[m]?=some u:=by
    have:=aw.len;have cf:=(aaT.1 hm).1;exact⟨_,aaQ (by omega)⟩
   have h1:=aw.at hm hu;have h2:=ag.at hm hu;simp only[Rel] at h1 h2;obtain⟨a1,c1,t1,s1,n1,y1,bm,f⟩:=h1;obtain⟨a2,c2,t2,s2,n2,y2,ab,ba⟩:=h2;rw[l] at f;injection f with f
   injection f with p1 p2 p3 p4 p5
   rw[bm] at ab;injection ab with w1 w2 w3
   have al:Lo[i]?=some (.row u t2 s2 n2 y2):=by rw[<-x2 i _ (d i c)];exact ba
   obtain⟨t',cr,bb⟩:=pO q5 i _ _ _ y;have bu:=d3 i _ _ bb al;obtain⟨_,k2,_⟩:=bu;refine⟨t2,y2,?_⟩;rw[al,p1,p4,<-w2,<-k2,r2]
 refine⟨g4,gD us,?_,F',Lo,g1.handed d1 bc,?_,⟨Mo.map (TO.aad (C.ren (bh (List.range' 1000 Lin.length) 1000))),(gU ad).aao.ren (bh (List.range' 1000 Lin.length) 1000),by simp[d2],lI g7.tl d2 d1 d3,(DT hv).ren (lR d1),q,q7 (by simp only[uT];exact⟨hv.wf,trivial⟩)⟩,by rw[d2,bl,hl],?_⟩
 ·rw[pq];rw[Array.mapM_eq_mapM_toList];simp only[Sem.run_bind,Sem.run_map];rw[hm];simp only[Result.andThen_ok,Sem.run_pure];congr 1
  match us with
  | []=>rfl
  | [t]=>rfl
  | t::u::r =>
   simp only[gD];rw[dif_neg (by simp)]
 ·refine⟨s.le,s.os,s.tape,s.output,s.size,s.same,s.frz,fun b hb=>s.own b ?_⟩;obtain⟨j,p,e,hb⟩:=hb;rw[aI] at e;split at e
  case isFalse=>cases e
  have c:j-1000<Lo.length:=(aaT.1 e).1;have hk:=d (j-1000) (by omega);exact⟨_,p,by rw[x2 _ _ hk];exact e,hb⟩
 ·intro i o ho;cases o with
  | box g t cs =>
   obtain⟨cs',h⟩:=q i g t cs ho;exact⟨_,h,rfl,rfl⟩
  | row v t sz n xs =>
   obtain⟨t',aa,h⟩:=ae i v t sz n xs ho;exact⟨_,h,rfl,rfl,rfl⟩
theorem r9 (j:Nat) (c0:C) {cs:List C}{f:FuncId}{fn:Func}{sc:au}{A:cI}{rs:List RV}{args:List C}{Lin:List TO}{R:List TO->C->Prop}(hf:P.funcs[f]?=some fn) (b:ax P A fn=some (sc,A.n,rs,false)) (q:Nat.ble args.length A.n=true)
  (s:uM fn j=true) (hj:args[j]?=some c0) (az:oK c0=some cs) (x:pL cs Lin 1000=true)
  (h:uT args->(∀o∈Lin,o.Wf)->evalTC P ⟨fun _=>False,[],none⟩ sc (fun _ _ _=>False) (fun L ρ=>gV L ρ rs fun d=>Mr j c0 Lin L ρ (gU d) R) (fun L ρ=>gV L ρ rs fun d=>Mr j c0 Lin L ρ (gU d) R) (cO Lin) (kG 0 args)):iw P f args Lin R:=by
 unfold ax at b;split at b
 case h_2=>cases b
 rename_i c hb;split at b
 case h_2=>cases b
 rename_i ca bc ae ao;injection b with b
 injection b with e1 e2
 injection e2 with e2 e3
 injection e3 with e3 hname
 subst e1 e3;have av:j∉dR c:=by
  unfold uM at s;rw[hb] at s;intro am;simp only[cS.2 am,Bool.not_true,aa5] at s
 refine⟨fun F Li d hl z ha=>⟨⟨fn,hf,by rw[hb];rfl,hname⟩,fun F G L v hF h=>⟨gQ.aap F G L v hF h.1,h.2⟩,fun w hs=>?_⟩⟩;refine calls_of_wp hf hb ?_;have aw:∀o∈Lin,o.Wf:=by
  intro o ho;obtain⟨i,hi⟩:=abh.1 ho;have:=z (1000+i);rw[cu,aI,fo (by omega),fo (by omega),show 1000+i-1000=i by omega,hi] at this;cases e:Li[i]? with
  | none=>rw[e] at this;exact this.elim
  | some p=>rw[e] at this;exact cN.wf this
 have h:=h ha.wf aw;have y:=ha.len;have q:=abb q
 -- the frame
 have key:∀j,∃sv,aL F (inp Li) (kG 0 args j) sv/\conc (inp Li) sv=(d.toArray++Array.replicate (fn.ntmps-d.toArray.size) undef).getD j undef/\(∀k off,sv=.own k off->∃g t cs,(inp Li).get k=some (.box g t cs))/\(∀ad i,sv=.el ad i->ad≠none):=by
  intro j;rw[oD];simp only[abd,abm,Nat.sub_zero,aa9];cases e:args[j]? with
  | some c =>
   have u:j<d.length:=by rw[y];exact(aaT.1 e).1
   obtain⟨s1,s2,s3,s4⟩:=rD (ha.at e (aaQ u));refine⟨_,s1,?_,s3,fun ad i e=>vv e (s4 ad i)⟩;rw[s2,Array.getElem?_append_left (by simpa using u)];simp[u]
  | none =>
   have bd:d.length<=j:=by rw[y];exact abC.1 e
   refine⟨.v undef,lz,?_,fun _ _ e=>(by cases e),fun _ _ e=>(by cases e)⟩;rw[Array.getElem?_append_right (by simpa using bd)];simp only[Array.getElem?_replicate,conc];split<;>rfl
 let ag:Env:=fun j=>(key j).choose
 have he:aC (inp Li) ag {tmps:=d.toArray++Array.replicate (fn.ntmps-d.toArray.size) undef,defers:=[]} :=
  ⟨fun t=>(key t).choose_spec.2.1.symm,fun t k off e=>(key t).choose_spec.2.2.1 k off e,fun t ad j e=>(key t).choose_spec.2.2.2 ad j e⟩
 let G:Nat->Option (Nat×TypeId):=fun k=>match(inp Li).get k with | some (.box g t _)=>some (g,t) | _=>none
 have ba:∀k g t cs,(inp Li).get k=some (.box g t cs)->G k=some (g,t):=fun k g t cs e=>by simp only[G,e]
 have be:Kp G (inp Li):=by
  intro k g t e;simp only[G] at e;split at e
  ·rename_i g' t' cs h;injection e with e
   injection e with e1 e2
   subst e1 e2;exact⟨cs,h⟩
  ·cases e
 have bi:∀k,G k≠none->1000<=k:=by
  intro k m;simp only[G] at m;split at m
  ·rename_i g t cs h;rw[aI] at h;split at h
   ·assumption
   ·cases h
  ·exact vv rfl m
 have aa:j<d.length:=by rw[y];exact(aaT.1 hj).1
 have al:(d.toArray++Array.replicate (fn.ntmps-d.toArray.size) undef).getD j undef=d[j]:=by
  rw[aa9,Array.getElem?_append_left (by simpa using aa)];simp[aa]
 have an:Rel F (inp Li) c0 d[j]:=ha.at hj (aaQ aa);have ht:TS G F (inp Li) ag (cO Lin) (kG 0 args):=⟨z,fun j=>(key j).choose_spec.1,be,hs.glob⟩;refine wp_mono (fR c ae (fun k _ m=>.inl (bi k m)) hs he ht (by simp[e2];omega) h) ?_;intro e a' w' r;have fin:∀{a0:Act},a0.defers=[]->a0.tmps.getD j undef=d[j]->eJ A.n F (inp Li) w a0 (dR c) (Both G (fun L ρ=>gV L ρ bc fun d=>Mr j c0 Lin L ρ (gU d) R)) a' w'->a'.defers=[]/\∃v,(results fn a'.tmps).run P w'=.ok v w' /\
   ∃v' F' Lo,Ending.returned v=.returned v'/\St F' (inp Lo) w'/\Step F (inp Li) w F' (inp Lo) w'/\gQ Li R F' Lo v'/\Sr Li Lo:=by
  intro a0 bb aE r;obtain⟨k1,v,k2,F',Lo,k3,k4,k5⟩:=Vx az ao hl z ba av aE an x r;exact⟨k1.trans bb,v,k2,v,F',Lo,rfl,k3,k4,k5⟩
 cases e with
 | normal=>exact fin rfl al r
 | ret=>exact fin rfl al r
 | exit j=>obtain⟨F',L',ρ',_,_,_,_,_,_,M',bo,_,h⟩:=r;exact h.elim
 | goto l=>exact r.elim
 | panic c =>
  obtain⟨v,bv,F',L',g1,g2,g3,g4,g5,kp,hp,_⟩:=r;exact hp.elim
 | outgrown=>exact r.elim
end
section
variable {P:Program}{L:TL}{ρ:aG}
theorem zK (ks:List Nat) {f:Nat}{args b:List C}{K:TL->aG->C->Prop}{x:C}{Lin Lin' Lo:List TO}(h:iw P f b Lin' (aR Lo x)) (o:L.sub ks=some Lin) (j:aU ks=true)
  (m:(args.map fun c=>c.aaj.ren (bh ks 1000))=b) (e:Lin.map (TO.aad (C.ren (bh ks 1000)))=Lin') (d:ks.length=Lo.length)
  (k:K ((L.aaf ks).puts ks (Lo.map (TO.aad (C.ren (aN ks))))) ρ (x.ren (aN ks)).slt):kX P f args L ρ K:=by
 subst m e;exact .inpl ks Lin _ o j h fun v Mo ⟨l,n⟩ _ _=>by subst l n;exact⟨d,k⟩
theorem Tv {j:Nat}{b:C}{Lin Mo Lo:List TO}{v x:C}(d:L.sub (List.range' 1000 Lin.length)=some Mo) (c:ρ j=b) (h:di Lin Mo=true) (f:Mo.map (TO.aad (C.ren (bh (List.range' 1000 Lin.length) 1000)))=Lo) (e:v.aao.ren (bh (List.range' 1000 Lin.length) 1000)=x) :
  Mr j b Lin L ρ v (aR Lo x):=⟨Mo,d,c,h,fun _=>⟨f,e⟩⟩
end
theorem CallsT.aaI {P:Program}{f:Nat}{args:List C}{t sz:Nat}{els:List (List C)}{x:C}(h:CallsT P f (args.map (C.frz 1000 els)) [] (aR [] x)) (he:vX P f) (hp:∀{F F':aA}{L L':Loc}{v:Value},Rel F L x v->Rel F' L' x v) :
  iw P f args [.row t sz els] (aR [.row t sz els] x):=by
 refine⟨fun F Li s hl p hr=>?_⟩
 match Li,hl with
 | [o],_ =>
  refine⟨he,fun F G L v ab ⟨r,q⟩=>⟨gQ.aap _ _ _ _ ab r,q⟩,fun w m=>?_⟩;have z:aC (inp [o]) (fun _=>.v undef) (⟨#[],[]⟩:Act):=by
   refine⟨fun j=>?_,fun j k off e=>(by cases e),fun j a i e=>(by cases e)⟩;simp[conc]
  obtain⟨F2,L2,g1,g2,g3,g4,g5⟩:=pE (G:=fun _=>none) (k:=1000) m z (τ:=fun _=>.any) ⟨p,fun j=>trivial,fun k g t e=>(by cases e),m.glob⟩ (show(cO [TO.row t sz els]).get 1000=some (.row t sz els) from rfl);have u:∀k o',L2.get k=some o'->False:=fun k o' e=>by
   have q:=g4.tl k;rw[e] at q;have hn:(((cO [TO.row t sz els]).del 1000).aad (C.frz 1000 els)).get k=none:=by
    show(TL.aad (C.frz 1000 els) []).get k=none;rfl
   rw[hn] at q;exact q
  have ae:aB F2 (inp []) (args.map (C.frz 1000 els)) s:=by
   have h1:aB F2 L2 (args.map (C.frz 1000 els)) s:=aB.map (fun c _ v hv=>g5 hv) hr;exact h1.ext (aA.le_refl _) fun k o' e=>(u k o' e).elim
  have aa:St F2 (inp []) w:=g1.part (fun k o e=>by cases e);refine Calls.mono ((h.out F2 [] s rfl (fun k=>trivial) ae).run w aa) ?_;rintro e w' ⟨v,F3,Lo,rfl,y,d,Mo,c,q1,q2,q3,q4,rfl,rfl⟩;have n:F2.le F3:=d.le;have l:∀b,b<w.heap.size->w'.heap[b]?=w.heap[b]?:=fun b hb=>d.same b hb fun⟨k,o,e,_⟩=>(by cases e);have ad:∀k o' g,(inp [o]).get k=some o'->o'.blk=some g->g<w.heap.size:=fun k o' g e hb=>Own.aar (m.own k o' e) hb;have ac:St F (inp [o]) w':=by
   refine⟨fun b ob hb=>?_,fun k o' e=>?_,m.off,m.sep,m.glob⟩
   ·exact y.frz b ob (n b ob (g3.le b ob hb))
   ·exact Own.aau (m.own k o' e) fun g hg=>l g (ad k o' g e hg)
  refine⟨v,F,[o],rfl,ac,⟨aA.le_refl _,d.os,d.tape,d.output,d.size,fun b hb _=>l b hb,fun b hb=>.inl hb,fun b hb=>.inl hb⟩,⟨[.row t sz els],_,rfl,p,hp q3,fun i g t cs e=>⟨cs,e⟩,rfl,rfl⟩,rfl,fun i o' e=>⟨o',e,Own.aai o'⟩⟩
end Go.Fr.T
