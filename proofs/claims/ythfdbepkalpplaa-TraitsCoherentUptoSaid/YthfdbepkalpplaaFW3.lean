/- Part of the proofs of the statements of this seat. -/
import Derived.Test.YthfdbepkalpplaaFW2
set_option maxRecDepth 10000
set_option linter.unusedVariables false
set_option linter.unusedSimpArgs false
namespace Go.Fr.T
open Go Go.RowKit Go.Fr
def cV:List TO->List TO->Bool
 | [],[]=>true
 | .row _ sz _::l,.row _ b _::m=>match Nat.beq sz b with | true=>cV l m | false=>false
 | .box _ _::l,.box _ _::m=>cV l m
 | .map _::l,.map _::m=>cV l m
 | _,_=>false
def SW (k:Nat):C->Bool
 | .rw j=>Nat.beq j k
 | _=>false
def pG (cs:List C):List TO->Nat->Bool
 | [],_=>true
 | .row _ _ _::l,k=>match cs.any (SW k) with | true=>pG cs l (k+1) | false=>false
 | .box _ _::l,k=>pG cs l (k+1)
 | .map _::l,k=>pG cs l (k+1)
def qN (fn:Func) (j:Nat):Bool:=match fn.body with
 | some c=>!fC (dQ c) j
 | none=>false
def oF:C->Option (List C)
 | .agg cs=>some cs
 | .rw k=>some [.rw k]
 | _=>none
theorem Mx {c:C}{cs:List C}(h:oF c=some cs) {F F':aA}{L L':Loc}{v:Value}(h1:Rel F L c v) (e:Rel F' L' c v):∃d,aB F L cs d/\aB F' L' cs d:=by
 cases c<;>simp only[oF,reduceCtorEq,xo] at h
 ·subst h;exact⟨[v],by simp only[aB];exact⟨_,_,rfl,h1,rfl⟩,by simp only[aB];exact⟨_,_,rfl,e,rfl⟩⟩
 ·subst h;simp only[Rel] at h1 e;obtain⟨d,k,j⟩:=h1;obtain⟨us,b,f⟩:=e;rw[k] at b;injection b with b
  have b:=Array.toList_inj.2 b;have b:d=us:=b;subst b;exact⟨d,j,f⟩
theorem Gg {c:C}{cs:List C}(h:oF c=some cs) {F:aA}{L:Loc}{sv:SV}(h1:aN F L c sv):∃v,sv=.v v/\Rel F L c v:=by
 cases c<;>simp only[oF,reduceCtorEq,xo] at h<;>exact h1
structure My (j:Nat) (c0:C) (Lin:List TO) (L:TL) (ρ:aM) (v:C) (R:List TO->C->Prop):Prop where
 out:∃Mo,L.sub (List.range' 1000 Lin.length)=some Mo/\ρ j=c0/\cV Lin Mo=true/\(uO [v]->R (Mo.map (TO.aad (C.ren (bB (List.range' 1000 Lin.length) 1000)))) (v.aat.ren (bB (List.range' 1000 Lin.length) 1000)))
theorem pH:∀{l m:List TO},cV l m=true->m.length=l.length
 | [],[],_=>rfl
 | [],_::_,h=>by simp[cV] at h
 | .row _ sz _::l,.row _ b _::m,h=>by
  simp only[cV] at h;split at h
  ·rw[aa5,aa5,pH h]
  ·cases h
 | .box _ _::l,.box _ _::m,h=>by
  simp only[cV] at h;rw[aa5,aa5,pH h]
 | .map _::l,.map _::m,h=>by
  simp only[cV] at h;rw[aa5,aa5,pH h]
 | .row _ _ _::_,[],h=>by simp[cV] at h
 | .row _ _ _::_,.box _ _::_,h=>by simp[cV] at h
 | .row _ _ _::_,.map _::_,h=>by simp[cV] at h
 | .box _ _::_,[],h=>by simp[cV] at h
 | .box _ _::_,.row _ _ _::_,h=>by simp[cV] at h
 | .box _ _::_,.map _::_,h=>by simp[cV] at h
 | .map _::_,[],h=>by simp[cV] at h
 | .map _::_,.row _ _ _::_,h=>by simp[cV] at h
 | .map _::_,.box _ _::_,h=>by simp[cV] at h
theorem pI:∀{l m:List TO},cV l m=true->∀(i:Nat) t sz els,l[i]?=some (.row t sz els)->∃c b,m[i]?=some (.row c sz b)
 | .row _ sz _::l,.row _ d _::m,h,i,t,s,els,e=>by
  simp only[cV] at h;split at h
  case h_2=>cases h
  rename_i hb;cases i with
  | zero =>
   simp only[aa3,xo,TO.row.injEq] at e;obtain⟨rfl,rfl,rfl⟩:=e;exact⟨_,_,by rw[aa3,aaQ hb]⟩
  | succ i =>
   rw[abe] at e ⊢;exact pI h i t s els e
 | .box _ _::l,.box _ _::m,h,i,t,s,els,e=>by
  simp only[cV] at h;cases i with
  | zero=>simp at e
  | succ i =>
   rw[abe] at e ⊢;exact pI h i t s els e
 | .map _::l,.map _::m,h,i,t,s,els,e=>by
  simp only[cV] at h;cases i with
  | zero=>simp at e
  | succ i =>
   rw[abe] at e ⊢;exact pI h i t s els e
 | [],_,_,i,t,s,els,e=>by simp at e
 | .row _ _ _::_,[],h,_,_,_,_,_=>by simp[cV] at h
 | .row _ _ _::_,.box _ _::_,h,_,_,_,_,_=>by simp[cV] at h
 | .row _ _ _::_,.map _::_,h,_,_,_,_,_=>by simp[cV] at h
 | .box _ _::_,[],h,_,_,_,_,_=>by simp[cV] at h
 | .box _ _::_,.row _ _ _::_,h,_,_,_,_,_=>by simp[cV] at h
 | .box _ _::_,.map _::_,h,_,_,_,_,_=>by simp[cV] at h
 | .map _::_,[],h,_,_,_,_,_=>by simp[cV] at h
 | .map _::_,.row _ _ _::_,h,_,_,_,_,_=>by simp[cV] at h
 | .map _::_,.box _ _::_,h,_,_,_,_,_=>by simp[cV] at h
theorem P9 {k:Nat}{c:C}(h:SW k c=true):c=.rw k:=by
 cases c<;>simp only[SW,aa2] at h;rw[aaQ h]
theorem pJ {cs:List C}:∀{l:List TO}{k:Nat},pG cs l k=true->∀(i:Nat) t sz els,l[i]?=some (.row t sz els)->∃m:Nat,cs[m]?=some (.rw (k+i))
 | [],k,_,i,t,sz,els,e=>by simp at e
 | .row _ _ _::l,k,h,i,t,sz,els,e=>by
  simp only[pG] at h;split at h
  case h_2=>cases h
  rename_i hb;cases i with
  | zero =>
   obtain⟨c,f,d⟩:=abO.1 hb;obtain⟨m,b⟩:=abf.1 f;exact⟨m,by rw[b,P9 d,Nat.add_zero]⟩
  | succ i =>
   rw[abe] at e;obtain⟨m,b⟩:=pJ h i t sz els e;exact⟨m,by rw[b,Nat.add_right_comm,Nat.add_assoc]⟩
 | .box _ _::l,k,h,i,t,sz,els,e=>by
  simp only[pG] at h;cases i with
  | zero=>simp at e
  | succ i =>
   rw[abe] at e;obtain⟨m,b⟩:=pJ h i t sz els e;exact⟨m,by rw[b,Nat.add_right_comm,Nat.add_assoc]⟩
 | .map _::l,k,h,i,t,sz,els,e=>by
  simp only[pG] at h;cases i with
  | zero=>simp at e
  | succ i =>
   rw[abe] at e;obtain⟨m,b⟩:=pJ h i t sz els e;exact⟨m,by rw[b,Nat.add_right_comm,Nat.add_assoc]⟩
section
variable {P:Program}{G:Nat->Option (Nat×TypeId)}{F:aA}{L:Loc}{ρ:Env}{M:TL}{τ:aM}{a:Act}{w:World}
theorem nodup_range (n:Nat):(List.range' 1000 n).Nodup:=List.nodup_range'
theorem U6 {n j:Nat}{c0:C}{cs:List C}(am:oF c0=some cs) {va:Value}{asg:List Nat}{fn:Func}{rs:List RV}{Lin:List TO}{Li:List Own}{R:List TO->C->Prop}{a0 a':Act}{w':World}(ac:mV P fn.results.toList=some rs) (hl:Li.length=Lin.length) (bl:bS F (inp Li) (cJ Lin))
  (bz:∀k g t cs,(inp Li).get k=some (.box g t cs)->G k=some (g,t)) (bs:j∉asg) (bb:a0.tmps.getD j undef=va) (aw:Rel F (inp Li) c0 va) (y:pG cs Lin 1000=true)
  (hq:eJ n F (inp Li) w a0 asg (Both G (fun L ρ=>gR L ρ rs fun vs=>My j c0 Lin L ρ (gQ vs) R)) a' w') :
  a'.defers=a0.defers/\∃v,(results fn a'.tmps).run P w'=.ok v w'/\∃F' Lo,St F' (inp Lo) w'/\Step F (inp Li) w F' (inp Lo) w'/\gP Li R F' Lo v/\RT Li Lo:=by
 obtain⟨F',L',ρ',g1,g2,g3,g4,q,g6,M',cM,z,ag⟩:=hq;obtain⟨us,hm,ab,ca,⟨Mo,q4,q3,q5,q7⟩⟩:=nR g1 g2 ac (rC z ag);obtain⟨Lo,d1,d2,d3⟩:=kE z.tl q4;have bd:=nodup_range Lin.length;have hv:Rel F' L' (gQ ab) (gb us):=GH ca;have bi:=pH q5;obtain⟨x1,x2⟩:=cE d1;obtain⟨z1,z2⟩:=yh q4;have d:∀i,i<Lin.length->(List.range' 1000 Lin.length)[i]?=some (1000+i):=fun i hi=>by rw[List.getElem?_range' hi,Nat.one_mul]
 have s:∀(i:Nat) g t cs,Li[i]?=some (.box g t cs)->∃cs',Lo[i]?=some (.box g t cs'):=by
  intro i g t cs hi;have c:i<Lin.length:=by rw[<-hl];exact(aaR.1 hi).1
  have f:(inp Li).get (1000+i)=some (.box g t cs):=by rw[aH,eu (by omega),show 1000+i-1000=i by omega];exact hi
  obtain⟨az,h2⟩:=z.kp _ g t (bz _ _ _ _ f);exact⟨az,by rw[<-x2 i _ (d i c)];exact h2⟩
 -- the slot
 obtain⟨v1,e1,bp⟩:=Gg am (by have:=z.env j;rw[q3] at this;exact this);have bt:va=v1:=by
  have:=g2.eq j;rw[g6 j bs,bb,e1] at this;exact this
 subst bt;obtain⟨bv,ad,ao⟩:=Mx am aw bp;have an:∀(i:Nat) v t sz n xs,Li[i]?=some (.row v t sz n xs)->∃t' aa,Lo[i]?=some (.row v t' sz n aa):=by
  intro i v t sz n xs hi;have c:i<Lin.length:=by rw[<-hl];exact(aaR.1 hi).1
  have f:(inp Li).get (1000+i)=some (.row v t sz n xs):=by rw[aH,eu (by omega),show 1000+i-1000=i by omega];exact hi
  have hr:=bl (1000+i);rw[cA,eu (by omega),show 1000+i-1000=i by omega,f,aaO c] at hr;have x:Lin[i]?=some Lin[i]:=aaO c;generalize Lin[i]=o at hr x;cases o with
  | box=>exact hr.elim
  | map=>exact hr.elim
  | row t0 cz ci =>
   obtain⟨r1,r2,r3,⟨r4,ra,rc,r5,r6⟩,r7⟩:=hr;obtain⟨m,hm⟩:=pJ y i _ _ _ x;obtain⟨u,hu⟩:∃u,bv[m]?=some u:=by
    have:=ad.len;have cc:=(aaR.1 hm).1;exact⟨_,aaO (by omega)⟩
   have h1:=ad.at hm hu;have h2:=ao.at hm hu;simp only[Rel] at h1 h2;obtain⟨a1,c1,t1,s1,n1,y1,bm,l⟩:=h1;obtain⟨a2,c2,t2,s2,n2,y2,al,aE⟩:=h2;rw[f] at l;injection l with l
   injection l with p1 p2 p3 p4 p5
   rw[bm] at al;injection al with w1 w2 w3
   have ae:Lo[i]?=some (.row u t2 s2 n2 y2):=by rw[<-x2 i _ (d i c)];exact aE
   obtain⟨t',co,bc⟩:=pI q5 i _ _ _ x;have be:=d3 i _ _ bc ae;obtain⟨_,k2,_⟩:=be;refine⟨t2,y2,?_⟩;rw[ae,p1,p4,<-w2,<-k2,r2]
 refine⟨g4,gb us,?_,F',Lo,g1.handed d1 bd,?_,⟨Mo.map (TO.aad (C.ren (bB (List.range' 1000 Lin.length) 1000))),(gQ ab).aat.ren (bB (List.range' 1000 Lin.length) 1000),by simp[d2],lz z.tl d2 d1 d3,(DZ hv).ren (lI d1),s,q7 (by simp only[uO];exact⟨hv.wf,trivial⟩)⟩,by rw[d2,bi,hl],?_⟩
 ·rw[oS];rw[Array.mapM_eq_mapM_toList];simp only[Sem.run_bind,Sem.run_map];rw[hm];simp only[Result.andThen_ok,Sem.run_pure];congr 1
  match us with
  | []=>rfl
  | [t]=>rfl
  | t::u::r =>
   simp only[gb];rw[dif_neg (by simp)]
 ·refine⟨q.le,q.os,q.tape,q.output,q.size,q.same,q.frz,fun b hb=>q.own b ?_⟩;obtain⟨j,p,e,hb⟩:=hb;rw[aH] at e;split at e
  case isFalse=>cases e
  have c:j-1000<Lo.length:=(aaR.1 e).1;have hk:=d (j-1000) (by omega);exact⟨_,p,by rw[x2 _ _ hk];exact e,hb⟩
 ·intro i o ho;cases o with
  | box g t cs =>
   obtain⟨cs',h⟩:=s i g t cs ho;exact⟨_,h,rfl,rfl⟩
  | row v t sz n xs =>
   obtain⟨t',aa,h⟩:=an i v t sz n xs ho;exact⟨_,h,rfl,rfl,rfl⟩
theorem fS (j:Nat) (c0:C) {cs:List C}{f:FuncId}{fn:Func}{sc:au}{A:cW}{rs:List RV}{args:List C}{Lin:List TO}{R:List TO->C->Prop}(hf:P.funcs[f]?=some fn) (b:aF P A fn=some (sc,A.n,rs,false)) (q:Nat.ble args.length A.n=true)
  (z:qN fn j=true) (hj:args[j]?=some c0) (az:oF c0=some cs) (x:pG cs Lin 1000=true)
  (h:uO args->(∀o∈Lin,o.Wf)->evalTC P ⟨fun _=>False,[],none⟩ sc (fun _ _ _=>False) (fun L ρ=>gR L ρ rs fun d=>My j c0 Lin L ρ (gQ d) R) (fun L ρ=>gR L ρ rs fun d=>My j c0 Lin L ρ (gQ d) R) (cJ Lin) (j5 0 args)):fG P f args Lin R:=by
 unfold aF at b;split at b
 case h_2=>cases b
 rename_i c hb;split at b
 case h_2=>cases b
 rename_i bo av ag ae;injection b with b
 injection b with e1 e2
 injection e2 with e2 e3
 injection e3 with e3 hname
 subst e1 e3;have ba:j∉dQ c:=by
  unfold qN at z;rw[hb] at z;intro am;simp only[cQ.2 am,Bool.not_true,aa2] at z
 refine⟨fun F Li d hl u ha=>⟨⟨fn,hf,by rw[hb];rfl,hname⟩,fun F G L v hF h=>⟨gP.aao F G L v hF h.1,h.2⟩,fun w hs=>?_⟩⟩;refine calls_of_wp hf hb ?_;have ay:∀o∈Lin,o.Wf:=by
  intro o ho;obtain⟨i,hi⟩:=abf.1 ho;have:=u (1000+i);rw[cA,aH,eu (by omega),eu (by omega),show 1000+i-1000=i by omega,hi] at this;cases e:Li[i]? with
  | none=>rw[e] at this;exact this.elim
  | some p=>rw[e] at this;exact cK.wf this
 have h:=h ha.wf ay;have aa:=ha.len;have q:=aa9 q
 -- the frame
 have key:∀j,∃sv,aN F (inp Li) (j5 0 args j) sv/\conc (inp Li) sv=(d.toArray++Array.replicate (fn.ntmps-d.toArray.size) undef).getD j undef/\(∀k off,sv=.own k off->∃g t cs,(inp Li).get k=some (.box g t cs))/\(∀ad i,sv=.el ad i->ad≠none):=by
  intro j;rw[n8];simp only[aa8,abj,Nat.sub_zero,aa6];cases e:args[j]? with
  | some c =>
   have s:j<d.length:=by rw[aa];exact(aaR.1 e).1
   obtain⟨s1,s2,s3,s4⟩:=rB (ha.at e (aaO s));refine⟨_,s1,?_,s3,fun ad i e=>fL e (s4 ad i)⟩;rw[s2,Array.getElem?_append_left (by simpa using s)];simp[s]
  | none =>
   have aE:d.length<=j:=by rw[aa];exact aby.1 e
   refine⟨.v undef,lf,?_,fun _ _ e=>(by cases e),fun _ _ e=>(by cases e)⟩;rw[Array.getElem?_append_right (by simpa using aE)];simp only[Array.getElem?_replicate,conc];split<;>rfl
 let al:Env:=fun j=>(key j).choose
 have he:aD (inp Li) al {tmps:=d.toArray++Array.replicate (fn.ntmps-d.toArray.size) undef,defers:=[]} :=
  ⟨fun t=>(key t).choose_spec.2.1.symm,fun t k off e=>(key t).choose_spec.2.2.1 k off e,fun t ad j e=>(key t).choose_spec.2.2.2 ad j e⟩
 let G:Nat->Option (Nat×TypeId):=fun k=>match(inp Li).get k with | some (.box g t _)=>some (g,t) | _=>none
 have bc:∀k g t cs,(inp Li).get k=some (.box g t cs)->G k=some (g,t):=fun k g t cs e=>by simp only[G,e]
 have aw:Kp G (inp Li):=by
  intro k g t e;simp only[G] at e;split at e
  ·rename_i g' t' cs h;injection e with e
   injection e with e1 e2
   subst e1 e2;exact⟨cs,h⟩
  ·cases e
 have ar:∀k,G k≠none->1000<=k:=by
  intro k m;simp only[G] at m;split at m
  ·rename_i g t cs h;rw[aH] at h;split at h
   ·assumption
   ·cases h
  ·exact fL rfl m
 have y:j<d.length:=by rw[aa];exact(aaR.1 hj).1
 have ac:(d.toArray++Array.replicate (fn.ntmps-d.toArray.size) undef).getD j undef=d[j]:=by
  rw[aa6,Array.getElem?_append_left (by simpa using y)];simp[y]
 have an:Rel F (inp Li) c0 d[j]:=ha.at hj (aaO y);have ht:TS G F (inp Li) al (cJ Lin) (j5 0 args):=⟨u,fun j=>(key j).choose_spec.1,aw,hs.glob⟩;refine wp_mono (fH c ag (fun k _ m=>.inl (ar k m)) hs he ht (by simp[e2];omega) h) ?_;intro e a' w' r;have fin:∀{a0:Act},a0.defers=[]->a0.tmps.getD j undef=d[j]->eJ A.n F (inp Li) w a0 (dQ c) (Both G (fun L ρ=>gR L ρ av fun d=>My j c0 Lin L ρ (gQ d) R)) a' w'->a'.defers=[]/\∃v,(results fn a'.tmps).run P w'=.ok v w' /\
   ∃v' F' Lo,Ending.returned v=.returned v'/\St F' (inp Lo) w'/\Step F (inp Li) w F' (inp Lo) w'/\gP Li R F' Lo v'/\RT Li Lo:=by
  intro a0 ax bb r;obtain⟨k1,v,k2,F',Lo,k3,k4,k5⟩:=U6 az ae hl u bc ba bb an x r;exact⟨k1.trans ax,v,k2,v,F',Lo,rfl,k3,k4,k5⟩
 cases e with
 | normal=>exact fin rfl ac r
 | ret=>exact fin rfl ac r
 | exit j=>obtain⟨F',L',ρ',_,_,_,_,_,_,M',bv,_,h⟩:=r;exact h.elim
 | goto l=>exact r.elim
 | panic c =>
  obtain⟨v,ca,F',L',g1,g2,g3,g4,g5,kp,hp,_⟩:=r;exact hp.elim
 | outgrown=>exact r.elim
end
section
variable {P:Program}{L:TL}{ρ:aM}
theorem SX (ks:List Nat) {f:Nat}{args b:List C}{K:TL->aM->C->Prop}{x:C}{Lin Lin' Lo:List TO}(h:fG P f b Lin' (aU Lo x)) (l:L.sub ks=some Lin) (o:aS ks=true)
  (n:(args.map fun c=>c.aaj.ren (bB ks 1000))=b) (e:Lin.map (TO.aad (C.ren (bB ks 1000)))=Lin') (d:ks.length=Lo.length)
  (k:K ((L.aae ks).puts ks (Lo.map (TO.aad (C.ren (aJ ks))))) ρ (x.ren (aJ ks)).slt):Cd P f args L ρ K:=by
 subst n e;exact .inpl ks Lin _ l o h fun v Mo ⟨m,j⟩ _ _=>by subst m j;exact⟨d,k⟩
theorem vK (ks:List Nat) {f:Nat}{args b:List C}{K:TL->aM->C->Prop}{x:C}{Lin Lin' Lo:List TO}(h:fG P f b Lin' (aU Lo x)) (l:L.sub ks=some Lin) (o:aS ks=true)
  (n:(args.map fun c=>c.aaj.ren (bB ks 1000))=b) (e:Lin.map (TO.aad (C.ren (bB ks 1000)))=Lin') (d:ks.length=Lo.length)
  (k:K ((L.aae ks).puts ks (Lo.map (TO.aad (C.ren (aJ ks))))) ρ (x.ren (aJ ks)).slt):qt P f args L ρ K:=by
 subst n e;exact .inpl ks Lin _ l o h fun v Mo ⟨m,j⟩ _ _=>by subst m j;exact⟨d,k⟩
theorem wK {j:Nat}{c0:C}{Lin Mo Lo:List TO}{v x:C}(b:L.sub (List.range' 1000 Lin.length)=some Mo) (d:ρ j=c0) (f:cV Lin Mo=true) (c:Mo.map (TO.aad (C.ren (bB (List.range' 1000 Lin.length) 1000)))=Lo) (e:v.aat.ren (bB (List.range' 1000 Lin.length) 1000)=x) :
  My j c0 Lin L ρ v (aU Lo x):=⟨Mo,b,d,f,fun _=>⟨c,e⟩⟩
end
theorem CallsT.aaI {P:Program}{f:Nat}{args:List C}{t sz:Nat}{els:List (List C)}{x:C}(h:CallsT P f (args.map (C.frz 1000 els)) [] (aU [] x)) (he:DH P f) (hp:∀{F F':aA}{L L':Loc}{v:Value},Rel F L x v->Rel F' L' x v) :
  fG P f args [.row t sz els] (aU [.row t sz els] x):=by
 refine⟨fun F Li vs hl p hr=>?_⟩
 match Li,hl with
 | [o],_ =>
  refine⟨he,fun F G L v aa ⟨r,q⟩=>⟨gP.aao _ _ _ _ aa r,q⟩,fun w m=>?_⟩;have z:aD (inp [o]) (fun _=>.v undef) (⟨#[],[]⟩:Act):=by
   refine⟨fun j=>?_,fun j k off e=>(by cases e),fun j a i e=>(by cases e)⟩;simp[conc]
  obtain⟨F2,L2,g1,g2,g3,g4,g5⟩:=sJ (G:=fun _=>none) (k:=1000) m z (τ:=fun _=>.any) ⟨p,fun j=>trivial,fun k g t e=>(by cases e),m.glob⟩ (show(cJ [TO.row t sz els]).get 1000=some (.row t sz els) from rfl);have ae:∀k o',L2.get k=some o'->False:=fun k o' e=>by
   have q:=g4.tl k;rw[e] at q;have hn:(((cJ [TO.row t sz els]).del 1000).aad (C.frz 1000 els)).get k=none:=by
    show(TL.aad (C.frz 1000 els) []).get k=none;rfl
   rw[hn] at q;exact q
  have y:aB F2 (inp []) (args.map (C.frz 1000 els)) vs:=by
   have h1:aB F2 L2 (args.map (C.frz 1000 els)) vs:=aB.map (fun c _ v hv=>g5 hv) hr;exact h1.ext (aA.le_refl _) fun k o' e=>(ae k o' e).elim
  have ad:St F2 (inp []) w:=g1.part (fun k o e=>by cases e);refine Calls.mono ((h.out F2 [] vs rfl (fun k=>trivial) y).run w ad) ?_;rintro e w' ⟨v,F3,Lo,rfl,u,d,Mo,c,q1,q2,q3,q4,rfl,rfl⟩;have n:F2.le F3:=d.le;have l:∀b,b<w.heap.size->w'.heap[b]?=w.heap[b]?:=fun b hb=>d.same b hb fun⟨k,o,e,_⟩=>(by cases e);have ac:∀k o' g,(inp [o]).get k=some o'->o'.blk=some g->g<w.heap.size:=fun k o' g e hb=>Own.aaq (m.own k o' e) hb;have s:St F (inp [o]) w':=by
   refine⟨fun b ob hb=>?_,fun k o' e=>?_,m.off,m.sep,m.glob⟩
   ·exact u.frz b ob (n b ob (g3.le b ob hb))
   ·exact Own.aau (m.own k o' e) fun g hg=>l g (ac k o' g e hg)
  refine⟨v,F,[o],rfl,s,⟨aA.le_refl _,d.os,d.tape,d.output,d.size,fun b hb _=>l b hb,fun b hb=>.inl hb,fun b hb=>.inl hb⟩,⟨[.row t sz els],_,rfl,p,hp q3,fun i g t cs e=>⟨cs,e⟩,rfl,rfl⟩,rfl,fun i o' e=>⟨o',e,Own.aah o'⟩⟩
end Go.Fr.T
