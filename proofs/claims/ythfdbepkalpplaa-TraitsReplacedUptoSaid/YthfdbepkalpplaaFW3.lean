/- Part of the proofs of the statements of this seat. -/
import Derived.Test.YthfdbepkalpplaaFW2
set_option maxRecDepth 10000
set_option linter.unusedVariables false
set_option linter.unusedSimpArgs false
namespace Go.Fr.T
open Go Go.RowKit Go.Fr
def dD:List TO->List TO->Bool
 | [],[]=>true
 | .row _ sz _::l,.row _ b _::m=>match Nat.beq sz b with | true=>dD l m | false=>false
 | .box _ _::l,.box _ _::m=>dD l m
 | .map _::l,.map _::m=>dD l m
 | _,_=>false
def Uj (k:Nat):C->Bool
 | .rw j=>Nat.beq j k
 | _=>false
def qe (cs:List C):List TO->Nat->Bool
 | [],_=>true
 | .row _ _ _::l,k=>match cs.any (Uj k) with | true=>qe cs l (k+1) | false=>false
 | .box _ _::l,k=>qe cs l (k+1)
 | .map _::l,k=>qe cs l (k+1)
def vq (fn:Func) (j:Nat):Bool:=match fn.body with
 | some c=>!fU (ef c) j
 | none=>false
def oW:C->Option (List C)
 | .agg cs=>some cs
 | .rw k=>some [.rw k]
 | _=>none
theorem Nr {c:C}{cs:List C}(h:oW c=some cs) {F F':aA}{L L':Loc}{v:Value}(h1:Rel F L c v) (h2:Rel F' L' c v):∃d,aB F L cs d/\aB F' L' cs d:=by
 cases c<;>simp only[oW,reduceCtorEq,aa1] at h
 ·subst h;exact⟨[v],by simp only[aB];exact⟨_,_,rfl,h1,rfl⟩,by simp only[aB];exact⟨_,_,rfl,h2,rfl⟩⟩
 ·subst h;simp only[Rel] at h1 h2;obtain⟨d,f,j⟩:=h1;obtain⟨us,b,e⟩:=h2;rw[f] at b;injection b with b
  have b:=Array.toList_inj.2 b;have b:d=us:=b;subst b;exact⟨d,j,e⟩
theorem GQ {c:C}{cs:List C}(h:oW c=some cs) {F:aA}{L:Loc}{sv:SV}(h1:aN F L c sv):∃v,sv=.v v/\Rel F L c v:=by
 cases c<;>simp only[oW,reduceCtorEq,aa1] at h<;>exact h1
structure Ns (j:Nat) (c0:C) (Lin:List TO) (L:TL) (ρ:aG) (v:C) (R:List TO->C->Prop):Prop where
 out:∃Mo,L.sub (List.range' 1000 Lin.length)=some Mo/\ρ j=c0/\dD Lin Mo=true/\(vE [v]->R (Mo.map (TO.aaq (C.ren (bn (List.range' 1000 Lin.length) 1000)))) (v.aaB.ren (bn (List.range' 1000 Lin.length) 1000)))
theorem qf:∀{l m:List TO},dD l m=true->m.length=l.length
 | [],[],_=>rfl
 | [],_::_,h=>by simp[dD] at h
 | .row _ sz _::l,.row _ b _::m,h=>by
  simp only[dD] at h;split at h
  ·rw[abo,abo,qf h]
  ·cases h
 | .box _ _::l,.box _ _::m,h=>by
  simp only[dD] at h;rw[abo,abo,qf h]
 | .map _::l,.map _::m,h=>by
  simp only[dD] at h;rw[abo,abo,qf h]
 | .row _ _ _::_,[],h=>by simp[dD] at h
 | .row _ _ _::_,.box _ _::_,h=>by simp[dD] at h
 | .row _ _ _::_,.map _::_,h=>by simp[dD] at h
 | .box _ _::_,[],h=>by simp[dD] at h
 | .box _ _::_,.row _ _ _::_,h=>by simp[dD] at h
 | .box _ _::_,.map _::_,h=>by simp[dD] at h
 | .map _::_,[],h=>by simp[dD] at h
 | .map _::_,.row _ _ _::_,h=>by simp[dD] at h
 | .map _::_,.box _ _::_,h=>by simp[dD] at h
theorem qg:∀{l m:List TO},dD l m=true->∀(i:Nat) t sz els,l[i]?=some (.row t sz els)->∃d b,m[i]?=some (.row d sz b)
 | .row _ sz _::l,.row _ c _::m,h,i,t,s,els,e=>by
  simp only[dD] at h;split at h
  case h_2=>cases h
  rename_i hb;cases i with
  | zero =>
   simp only[abm,aa1,TO.row.injEq] at e;obtain⟨rfl,rfl,rfl⟩:=e;exact⟨_,_,by rw[abm,aa5 hb]⟩
  | succ i =>
   rw[abv] at e ⊢;exact qg h i t s els e
 | .box _ _::l,.box _ _::m,h,i,t,s,els,e=>by
  simp only[dD] at h;cases i with
  | zero=>simp at e
  | succ i =>
   rw[abv] at e ⊢;exact qg h i t s els e
 | .map _::l,.map _::m,h,i,t,s,els,e=>by
  simp only[dD] at h;cases i with
  | zero=>simp at e
  | succ i =>
   rw[abv] at e ⊢;exact qg h i t s els e
 | [],_,_,i,t,s,els,e=>by simp at e
 | .row _ _ _::_,[],h,_,_,_,_,_=>by simp[dD] at h
 | .row _ _ _::_,.box _ _::_,h,_,_,_,_,_=>by simp[dD] at h
 | .row _ _ _::_,.map _::_,h,_,_,_,_,_=>by simp[dD] at h
 | .box _ _::_,[],h,_,_,_,_,_=>by simp[dD] at h
 | .box _ _::_,.row _ _ _::_,h,_,_,_,_,_=>by simp[dD] at h
 | .box _ _::_,.map _::_,h,_,_,_,_,_=>by simp[dD] at h
 | .map _::_,[],h,_,_,_,_,_=>by simp[dD] at h
 | .map _::_,.row _ _ _::_,h,_,_,_,_,_=>by simp[dD] at h
 | .map _::_,.box _ _::_,h,_,_,_,_,_=>by simp[dD] at h
theorem QV {k:Nat}{c:C}(h:Uj k c=true):c=.rw k:=by
 cases c<;>simp only[Uj,abl] at h;rw[aa5 h]
theorem qh {cs:List C}:∀{l:List TO}{k:Nat},qe cs l k=true->∀(i:Nat) t sz els,l[i]?=some (.row t sz els)->∃m:Nat,cs[m]?=some (.rw (k+i))
 | [],k,_,i,t,sz,els,e=>by simp at e
 | .row _ _ _::l,k,h,i,t,sz,els,e=>by
  simp only[qe] at h;split at h
  case h_2=>cases h
  rename_i hb;cases i with
  | zero =>
   obtain⟨c,f,d⟩:=ab0.1 hb;obtain⟨m,b⟩:=abw.1 f;exact⟨m,by rw[b,QV d,Nat.add_zero]⟩
  | succ i =>
   rw[abv] at e;obtain⟨m,b⟩:=qh h i t sz els e;exact⟨m,by rw[b,Nat.add_right_comm,Nat.add_assoc]⟩
 | .box _ _::l,k,h,i,t,sz,els,e=>by
  simp only[qe] at h;cases i with
  | zero=>simp at e
  | succ i =>
   rw[abv] at e;obtain⟨m,b⟩:=qh h i t sz els e;exact⟨m,by rw[b,Nat.add_right_comm,Nat.add_assoc]⟩
 | .map _::l,k,h,i,t,sz,els,e=>by
  simp only[qe] at h;cases i with
  | zero=>simp at e
  | succ i =>
   rw[abv] at e;obtain⟨m,b⟩:=qh h i t sz els e;exact⟨m,by rw[b,Nat.add_right_comm,Nat.add_assoc]⟩
section
variable {P:Program}{G:Nat->Option (Nat×TypeId)}{F:aA}{L:Loc}{ρ:Env}{M:TL}{τ:aG}{a:Act}{w:World}
theorem nodup_range (n:Nat):(List.range' 1000 n).Nodup:=List.nodup_range'
theorem Wi {n j:Nat}{c0:C}{cs:List C}(aw:oW c0=some cs) {va:Value}{asg:List Nat}{fn:Func}{rs:List RV}{Lin:List TO}{Li:List Own}{R:List TO->C->Prop}{a0 a':Act}{w':World}(ac:nI P fn.results.toList=some rs) (hl:Li.length=Lin.length) (bp:bV F (inp Li) (cT Lin))
  (bi:∀k g t cs,(inp Li).get k=some (.box g t cs)->G k=some (g,t)) (cb:j∉asg) (bt:a0.tmps.getD j undef=va) (av:Rel F (inp Li) c0 va) (x:qe cs Lin 1000=true)
  (hq:eZ n F (inp Li) w a0 asg (Both G (fun L ρ=>hU L ρ rs fun vs=>Ns j c0 Lin L ρ (gZ vs) R)) a' w') :
  a'.defers=a0.defers/\∃v,(results fn a'.tmps).run P w'=.ok v w'/\∃F' Lo,St F' (inp Lo) w'/\Step F (inp Li) w F' (inp Lo) w'/\gV Li R F' Lo v/\S8 Li Lo:=by
 obtain⟨F',L',ρ',g1,g2,g3,g4,q,g6,M',db,g7,ao⟩:=hq;obtain⟨us,hm,aa,bc,⟨Mo,q4,q3,q5,q7⟩⟩:=ou g1 g2 ac (rT g7 ao);obtain⟨Lo,d1,d2,d3⟩:=kN g7.tl q4;have bo:=nodup_range Lin.length;have hv:Rel F' L' (gZ aa) (gD us):=Hl bc;have ba:=qf q5;obtain⟨x1,x2⟩:=cP d1;obtain⟨z1,z2⟩:=yR q4;have d:∀i,i<Lin.length->(List.range' 1000 Lin.length)[i]?=some (1000+i):=fun i hi=>by rw[List.getElem?_range' hi,Nat.one_mul]
 have s:∀(i:Nat) g t cs,Li[i]?=some (.box g t cs)->∃cs',Lo[i]?=some (.box g t cs'):=by
  intro i g t cs hi;have c:i<Lin.length:=by rw[<-hl];exact(aa6.1 hi).1
  have f:(inp Li).get (1000+i)=some (.box g t cs):=by rw[aJ,eu (by omega),show 1000+i-1000=i by omega];exact hi
  obtain⟨bs,h2⟩:=g7.kp _ g t (bi _ _ _ _ f);exact⟨bs,by rw[<-x2 i _ (d i c)];exact h2⟩
 -- the slot
 obtain⟨v1,e1,bd⟩:=GQ aw (by have:=g7.env j;rw[q3] at this;exact this);have bl:va=v1:=by
  have:=g2.eq j;rw[g6 j cb,bt,e1] at this;exact this
 subst bl;obtain⟨bu,z,ag⟩:=Nr aw av bd;have ar:∀(i:Nat) v t sz n xs,Li[i]?=some (.row v t sz n xs)->∃t' ae,Lo[i]?=some (.row v t' sz n ae):=by
  intro i v t sz n xs hi;have c:i<Lin.length:=by rw[<-hl];exact(aa6.1 hi).1
  have f:(inp Li).get (1000+i)=some (.row v t sz n xs):=by rw[aJ,eu (by omega),show 1000+i-1000=i by omega];exact hi
  have hr:=bp (1000+i);rw[cG,eu (by omega),show 1000+i-1000=i by omega,f,aa4 c] at hr;have y:Lin[i]?=some Lin[i]:=aa4 c;generalize Lin[i]=o at hr y;cases o with
  | box=>exact hr.elim
  | map=>exact hr.elim
  | row t0 cy ch =>
   obtain⟨r1,r2,r3,⟨r4,ra,rc,r5,r6⟩,r7⟩:=hr;obtain⟨m,hm⟩:=qh x i _ _ _ y;obtain⟨u,hu⟩:∃u,bu[m]?=some u:=by
    have:=z.len;have cc:=(aa6.1 hm).1;exact⟨_,aa4 (by omega)⟩
   have h1:=z.at hm hu;have h2:=ag.at hm hu;simp only[Rel] at h1 h2;obtain⟨a1,c1,t1,s1,n1,y1,bb,l⟩:=h1;obtain⟨a2,c2,t2,s2,n2,y2,ad,bj⟩:=h2;rw[f] at l;injection l with l
   injection l with p1 p2 p3 p4 p5
   rw[bb] at ad;injection ad with w1 w2 w3
   have an:Lo[i]?=some (.row u t2 s2 n2 y2):=by rw[<-x2 i _ (d i c)];exact bj
   obtain⟨t',cw,aE⟩:=qg q5 i _ _ _ y;have bm:=d3 i _ _ aE an;obtain⟨_,k2,_⟩:=bm;refine⟨t2,y2,?_⟩;rw[an,p1,p4,<-w2,<-k2,r2]
 refine⟨g4,gD us,?_,F',Lo,g1.handed d1 bo,?_,⟨Mo.map (TO.aaq (C.ren (bn (List.range' 1000 Lin.length) 1000))),(gZ aa).aaB.ren (bn (List.range' 1000 Lin.length) 1000),by simp[d2],lN g7.tl d2 d1 d3,(Em hv).ren (lX d1),s,q7 (by simp only[vE];exact⟨hv.wf,trivial⟩)⟩,by rw[d2,ba,hl],?_⟩
 ·rw[pH];rw[Array.mapM_eq_mapM_toList];simp only[Sem.run_bind,Sem.run_map];rw[hm];simp only[Result.andThen_ok,Sem.run_pure];congr 1
  match us with
  | []=>rfl
  | [t]=>rfl
  | t::u::r =>
   simp only[gD];rw[dif_neg (by simp)]
 ·refine⟨q.le,q.os,q.tape,q.output,q.size,q.same,q.frz,fun b hb=>q.own b ?_⟩;obtain⟨j,p,e,hb⟩:=hb;rw[aJ] at e;split at e
  case isFalse=>cases e
  have c:j-1000<Lo.length:=(aa6.1 e).1;have hk:=d (j-1000) (by omega);exact⟨_,p,by rw[x2 _ _ hk];exact e,hb⟩
 ·intro i o ho;cases o with
  | box g t cs =>
   obtain⟨cs',h⟩:=s i g t cs ho;exact⟨_,h,rfl,rfl⟩
  | row v t sz n xs =>
   obtain⟨t',ae,h⟩:=ar i v t sz n xs ho;exact⟨_,h,rfl,rfl,rfl⟩
theorem sO (j:Nat) (c0:C) {cs:List C}{f:FuncId}{fn:Func}{sc:ax}{A:cJ}{rs:List RV}{args:List C}{Lin:List TO}{R:List TO->C->Prop}(hf:P.funcs[f]?=some fn) (b:au P A fn=some (sc,A.n,rs,false)) (r:Nat.ble args.length A.n=true)
  (u:vq fn j=true) (hj:args[j]?=some c0) (bb:oW c0=some cs) (s:qe cs Lin 1000=true)
  (h:vE args->(∀o∈Lin,o.Wf)->evalTC P ⟨fun _=>False,[],none⟩ sc (fun _ _ _=>False) (fun L ρ=>hU L ρ rs fun d=>Ns j c0 Lin L ρ (gZ d) R) (fun L ρ=>hU L ρ rs fun d=>Ns j c0 Lin L ρ (gZ d) R) (cT Lin) (ku 0 args)):iB P f args Lin R:=by
 unfold au at b;split at b
 case h_2=>cases b
 rename_i c hb;split at b
 case h_2=>cases b
 rename_i ce ba ag ae;injection b with b
 injection b with e1 e2
 injection e2 with e2 e3
 injection e3 with e3 hname
 subst e1 e3;have bi:j∉ef c:=by
  unfold vq at u;rw[hb] at u;intro am;simp only[di.2 am,Bool.not_true,abl] at u
 refine⟨fun F Li d hl aa ha=>⟨⟨fn,hf,by rw[hb];rfl,hname⟩,fun F G L v hF h=>⟨gV.aaC F G L v hF h.1,h.2⟩,fun w hs=>?_⟩⟩;refine calls_of_wp hf hb ?_;have aw:∀o∈Lin,o.Wf:=by
  intro o ho;obtain⟨i,hi⟩:=abw.1 ho;have:=aa (1000+i);rw[cG,aJ,eu (by omega),eu (by omega),show 1000+i-1000=i by omega,hi] at this;cases e:Li[i]? with
  | none=>rw[e] at this;exact this.elim
  | some p=>rw[e] at this;exact cZ.wf this
 have h:=h ha.wf aw;have y:=ha.len;have r:=abq r
 -- the frame
 have key:∀j,∃sv,aN F (inp Li) (ku 0 args j) sv/\conc (inp Li) sv=(d.toArray++Array.replicate (fn.ntmps-d.toArray.size) undef).getD j undef/\(∀k off,sv=.own k off->∃g t cs,(inp Li).get k=some (.box g t cs))/\(∀ad i,sv=.el ad i->ad≠none):=by
  intro j;rw[oK];simp only[abr,abB,Nat.sub_zero,abp];cases e:args[j]? with
  | some c =>
   have z:j<d.length:=by rw[y];exact(aa6.1 e).1
   obtain⟨s1,s2,s3,s4⟩:=rS (ha.at e (aa4 z));refine⟨_,s1,?_,s3,fun ad i e=>o5 e (s4 ad i)⟩;rw[s2,Array.getElem?_append_left (by simpa using z)];simp[z]
  | none =>
   have bd:d.length<=j:=by rw[y];exact abT.1 e
   refine⟨.v undef,lF,?_,fun _ _ e=>(by cases e),fun _ _ e=>(by cases e)⟩;rw[Array.getElem?_append_right (by simpa using bd)];simp only[Array.getElem?_replicate,conc];split<;>rfl
 let al:Env:=fun j=>(key j).choose
 have he:aC (inp Li) al {tmps:=d.toArray++Array.replicate (fn.ntmps-d.toArray.size) undef,defers:=[]} :=
  ⟨fun t=>(key t).choose_spec.2.1.symm,fun t k off e=>(key t).choose_spec.2.2.1 k off e,fun t ad j e=>(key t).choose_spec.2.2.2 ad j e⟩
 let G:Nat->Option (Nat×TypeId):=fun k=>match(inp Li).get k with | some (.box g t _)=>some (g,t) | _=>none
 have aE:∀k g t cs,(inp Li).get k=some (.box g t cs)->G k=some (g,t):=fun k g t cs e=>by simp only[G,e]
 have az:Kp G (inp Li):=by
  intro k g t e;simp only[G] at e;split at e
  ·rename_i g' t' cs h;injection e with e
   injection e with e1 e2
   subst e1 e2;exact⟨cs,h⟩
  ·cases e
 have bc:∀k,G k≠none->1000<=k:=by
  intro k m;simp only[G] at m;split at m
  ·rename_i g t cs h;rw[aJ] at h;split at h
   ·assumption
   ·cases h
  ·exact o5 rfl m
 have x:j<d.length:=by rw[y];exact(aa6.1 hj).1
 have ao:(d.toArray++Array.replicate (fn.ntmps-d.toArray.size) undef).getD j undef=d[j]:=by
  rw[abp,Array.getElem?_append_left (by simpa using x)];simp[x]
 have an:Rel F (inp Li) c0 d[j]:=ha.at hj (aa4 x);have ht:TS G F (inp Li) al (cT Lin) (ku 0 args):=⟨aa,fun j=>(key j).choose_spec.1,az,hs.glob⟩;refine wp_mono (f7 c ag (fun k _ m=>.inl (bc k m)) hs he ht (by simp[e2];omega) h) ?_;intro e a' w' q;have fin:∀{a0:Act},a0.defers=[]->a0.tmps.getD j undef=d[j]->eZ A.n F (inp Li) w a0 (ef c) (Both G (fun L ρ=>hU L ρ ba fun d=>Ns j c0 Lin L ρ (gZ d) R)) a' w'->a'.defers=[]/\∃v,(results fn a'.tmps).run P w'=.ok v w' /\
   ∃v' F' Lo,Ending.returned v=.returned v'/\St F' (inp Lo) w'/\Step F (inp Li) w F' (inp Lo) w'/\gV Li R F' Lo v'/\S8 Li Lo:=by
  intro a0 be av q;obtain⟨k1,v,k2,F',Lo,k3,k4,k5⟩:=Wi bb ae hl aa aE bi av an s q;exact⟨k1.trans be,v,k2,v,F',Lo,rfl,k3,k4,k5⟩
 cases e with
 | normal=>exact fin rfl ao q
 | ret=>exact fin rfl ao q
 | exit j=>obtain⟨F',L',ρ',_,_,_,_,_,_,M',ca,_,h⟩:=q;exact h.elim
 | goto l=>exact q.elim
 | panic c =>
  obtain⟨v,cb,F',L',g1,g2,g3,g4,g5,kp,hp,_⟩:=q;exact hp.elim
 | outgrown=>exact q.elim
end
section
variable {P:Program}{L:TL}{ρ:aG}
theorem z7 (ks:List Nat) {f:Nat}{args b:List C}{K:TL->aG->C->Prop}{x:C}{Lin Lin' Lo:List TO}(h:iB P f b Lin' (aQ Lo x)) (n:L.sub ks=some Lin) (e:aU ks=true)
  (l:(args.map fun c=>c.aaw.ren (bn ks 1000))=b) (m:Lin.map (TO.aaq (C.ren (bn ks 1000)))=Lin') (d:ks.length=Lo.length)
  (k:K ((L.aas ks).puts ks (Lo.map (TO.aaq (C.ren (aL ks))))) ρ (x.ren (aL ks)).slt):kF P f args L ρ K:=by
 subst l m;exact .inpl ks Lin _ n e h fun v Mo ⟨j,o⟩ _ _=>by subst j o;exact⟨d,k⟩
theorem Uk {j:Nat}{b:C}{Lin Mo Lo:List TO}{v x:C}(c:L.sub (List.range' 1000 Lin.length)=some Mo) (d:ρ j=b) (h:dD Lin Mo=true) (f:Mo.map (TO.aaq (C.ren (bn (List.range' 1000 Lin.length) 1000)))=Lo) (e:v.aaB.ren (bn (List.range' 1000 Lin.length) 1000)=x) :
  Ns j b Lin L ρ v (aQ Lo x):=⟨Mo,c,d,h,fun _=>⟨f,e⟩⟩
end
theorem CallsT.aaW {P:Program}{f:Nat}{args:List C}{t sz:Nat}{els:List (List C)}{x:C}(h:CallsT P f (args.map (C.frz 1000 els)) [] (aQ [] x)) (he:wM P f) (hp:∀{F F':aA}{L L':Loc}{v:Value},Rel F L x v->Rel F' L' x v) :
  iB P f args [.row t sz els] (aQ [.row t sz els] x):=by
 refine⟨fun F Li vs hl p hr=>?_⟩
 match Li,hl with
 | [o],_ =>
  refine⟨he,fun F G L v u ⟨r,q⟩=>⟨gV.aaC _ _ _ _ u r,q⟩,fun w m=>?_⟩;have ab:aC (inp [o]) (fun _=>.v undef) (⟨#[],[]⟩:Act):=by
   refine⟨fun j=>?_,fun j k off e=>(by cases e),fun j a i e=>(by cases e)⟩;simp[conc]
  obtain⟨F2,L2,g1,g2,g3,g4,g5⟩:=pO (G:=fun _=>none) (k:=1000) m ab (τ:=fun _=>.any) ⟨p,fun j=>trivial,fun k g t e=>(by cases e),m.glob⟩ (show(cT [TO.row t sz els]).get 1000=some (.row t sz els) from rfl);have ae:∀k o',L2.get k=some o'->False:=fun k o' e=>by
   have q:=g4.tl k;rw[e] at q;have hn:(((cT [TO.row t sz els]).del 1000).aaq (C.frz 1000 els)).get k=none:=by
    show(TL.aaq (C.frz 1000 els) []).get k=none;rfl
   rw[hn] at q;exact q
  have s:aB F2 (inp []) (args.map (C.frz 1000 els)) vs:=by
   have h1:aB F2 L2 (args.map (C.frz 1000 els)) vs:=aB.map (fun c _ v hv=>g5 hv) hr;exact h1.ext (aA.le_refl _) fun k o' e=>(ae k o' e).elim
  have ad:St F2 (inp []) w:=g1.part (fun k o e=>by cases e);refine Calls.mono ((h.out F2 [] vs rfl (fun k=>trivial) s).run w ad) ?_;rintro e w' ⟨v,F3,Lo,rfl,aa,d,Mo,c,q1,q2,q3,q4,rfl,rfl⟩;have n:F2.le F3:=d.le;have l:∀b,b<w.heap.size->w'.heap[b]?=w.heap[b]?:=fun b hb=>d.same b hb fun⟨k,o,e,_⟩=>(by cases e);have z:∀k o' g,(inp [o]).get k=some o'->o'.blk=some g->g<w.heap.size:=fun k o' g e hb=>Own.aaE (m.own k o' e) hb;have y:St F (inp [o]) w':=by
   refine⟨fun b ob hb=>?_,fun k o' e=>?_,m.off,m.sep,m.glob⟩
   ·exact aa.frz b ob (n b ob (g3.le b ob hb))
   ·exact Own.aaH (m.own k o' e) fun g hg=>l g (z k o' g e hg)
  refine⟨v,F,[o],rfl,y,⟨aA.le_refl _,d.os,d.tape,d.output,d.size,fun b hb _=>l b hb,fun b hb=>.inl hb,fun b hb=>.inl hb⟩,⟨[.row t sz els],_,rfl,p,hp q3,fun i g t cs e=>⟨cs,e⟩,rfl,rfl⟩,rfl,fun i o' e=>⟨o',e,Own.aav o'⟩⟩
end Go.Fr.T
