/- Part of the proofs of the statements of this seat. -/
import Derived.Test.YthfdbepkalpplaaFW2
set_option maxRecDepth 10000
set_option linter.unusedVariables false
set_option linter.unusedSimpArgs false
namespace Go.Fr.T
open Go Go.RowKit Go.Fr
def cR:List TO->List TO->Bool
 | [],[]=>true
 | .row _ sz _::l,.row _ b _::m=>match Nat.beq sz b with | true=>cR l m | false=>false
 | .box _ _::l,.box _ _::m=>cR l m
 | .map _::l,.map _::m=>cR l m
 | _,_=>false
def Ru (k:Nat):C->Bool
 | .rw j=>Nat.beq j k
 | _=>false
def oP (cs:List C):List TO->Nat->Bool
 | [],_=>true
 | .row _ _ _::l,k=>match cs.any (Ru k) with | true=>oP cs l (k+1) | false=>false
 | .box _ _::l,k=>oP cs l (k+1)
 | .map _::l,k=>oP cs l (k+1)
def qt (fn:Func) (j:Nat):Bool:=match fn.body with
 | some c=>!fe (dI c) j
 | none=>false
def nV:C->Option (List C)
 | .agg cs=>some cs
 | .rw k=>some [.rw k]
 | _=>none
theorem Ll {c:C}{cs:List C}(h:nV c=some cs) {F F':au}{L L':Loc}{v:Value}(h1:Rel F L c v) (e:Rel F' L' c v):∃d,ay F L cs d/\ay F' L' cs d:=by
 cases c<;>simp only[nV,reduceCtorEq,vz] at h
 ·subst h;exact⟨[v],by simp only[ay];exact⟨_,_,rfl,h1,rfl⟩,by simp only[ay];exact⟨_,_,rfl,e,rfl⟩⟩
 ·subst h;simp only[Rel] at h1 e;obtain⟨d,j,k⟩:=h1;obtain⟨us,b,f⟩:=e;rw[j] at b;injection b with b
  have b:=Array.toList_inj.2 b;have b:d=us:=b;subst b;exact⟨d,k,f⟩
theorem Fs {c:C}{cs:List C}(h:nV c=some cs) {F:au}{L:Loc}{sv:SV}(h1:aL F L c sv):∃v,sv=.v v/\Rel F L c v:=by
 cases c<;>simp only[nV,reduceCtorEq,vz] at h<;>exact h1
structure Lm (j:Nat) (c0:C) (Lin:List TO) (L:TL) (ρ:aK) (v:C) (R:List TO->C->Prop):Prop where
 out:∃Mo,L.sub (List.range' 1000 Lin.length)=some Mo/\ρ j=c0/\cR Lin Mo=true/\(ul [v]->R (Mo.map (TO.aad (C.ren (bh (List.range' 1000 Lin.length) 1000)))) (v.aat.ren (bh (List.range' 1000 Lin.length) 1000)))
theorem oQ:∀{l m:List TO},cR l m=true->m.length=l.length
 | [],[],_=>rfl
 | [],_::_,h=>by simp[cR] at h
 | .row _ sz _::l,.row _ b _::m,h=>by
  simp only[cR] at h;split at h
  ·rw[aa7,aa7,oQ h]
  ·cases h
 | .box _ _::l,.box _ _::m,h=>by
  simp only[cR] at h;rw[aa7,aa7,oQ h]
 | .map _::l,.map _::m,h=>by
  simp only[cR] at h;rw[aa7,aa7,oQ h]
 | .row _ _ _::_,[],h=>by simp[cR] at h
 | .row _ _ _::_,.box _ _::_,h=>by simp[cR] at h
 | .row _ _ _::_,.map _::_,h=>by simp[cR] at h
 | .box _ _::_,[],h=>by simp[cR] at h
 | .box _ _::_,.row _ _ _::_,h=>by simp[cR] at h
 | .box _ _::_,.map _::_,h=>by simp[cR] at h
 | .map _::_,[],h=>by simp[cR] at h
 | .map _::_,.row _ _ _::_,h=>by simp[cR] at h
 | .map _::_,.box _ _::_,h=>by simp[cR] at h
theorem oS:∀{l m:List TO},cR l m=true->∀(i:Nat) t sz els,l[i]?=some (.row t sz els)->∃d b,m[i]?=some (.row d sz b)
 | .row _ sz _::l,.row _ c _::m,h,i,t,s,els,e=>by
  simp only[cR] at h;split at h
  case h_2=>cases h
  rename_i hb;cases i with
  | zero =>
   simp only[aa3,vz,TO.row.injEq] at e;obtain⟨rfl,rfl,rfl⟩:=e;exact⟨_,_,by rw[aa3,aaO hb]⟩
  | succ i =>
   rw[abk] at e ⊢;exact oS h i t s els e
 | .box _ _::l,.box _ _::m,h,i,t,s,els,e=>by
  simp only[cR] at h;cases i with
  | zero=>simp at e
  | succ i =>
   rw[abk] at e ⊢;exact oS h i t s els e
 | .map _::l,.map _::m,h,i,t,s,els,e=>by
  simp only[cR] at h;cases i with
  | zero=>simp at e
  | succ i =>
   rw[abk] at e ⊢;exact oS h i t s els e
 | [],_,_,i,t,s,els,e=>by simp at e
 | .row _ _ _::_,[],h,_,_,_,_,_=>by simp[cR] at h
 | .row _ _ _::_,.box _ _::_,h,_,_,_,_,_=>by simp[cR] at h
 | .row _ _ _::_,.map _::_,h,_,_,_,_,_=>by simp[cR] at h
 | .box _ _::_,[],h,_,_,_,_,_=>by simp[cR] at h
 | .box _ _::_,.row _ _ _::_,h,_,_,_,_,_=>by simp[cR] at h
 | .box _ _::_,.map _::_,h,_,_,_,_,_=>by simp[cR] at h
 | .map _::_,[],h,_,_,_,_,_=>by simp[cR] at h
 | .map _::_,.row _ _ _::_,h,_,_,_,_,_=>by simp[cR] at h
 | .map _::_,.box _ _::_,h,_,_,_,_,_=>by simp[cR] at h
theorem OJ {k:Nat}{c:C}(h:Ru k c=true):c=.rw k:=by
 cases c<;>simp only[Ru,aa1] at h;rw[aaO h]
theorem oU {cs:List C}:∀{l:List TO}{k:Nat},oP cs l k=true->∀(i:Nat) t sz els,l[i]?=some (.row t sz els)->∃m:Nat,cs[m]?=some (.rw (k+i))
 | [],k,_,i,t,sz,els,e=>by simp at e
 | .row _ _ _::l,k,h,i,t,sz,els,e=>by
  simp only[oP] at h;split at h
  case h_2=>cases h
  rename_i hb;cases i with
  | zero =>
   obtain⟨c,d,f⟩:=ab4.1 hb;obtain⟨m,b⟩:=abb.1 d;exact⟨m,by rw[b,OJ f,Nat.add_zero]⟩
  | succ i =>
   rw[abk] at e;obtain⟨m,b⟩:=oU h i t sz els e;exact⟨m,by rw[b,Nat.add_right_comm,Nat.add_assoc]⟩
 | .box _ _::l,k,h,i,t,sz,els,e=>by
  simp only[oP] at h;cases i with
  | zero=>simp at e
  | succ i =>
   rw[abk] at e;obtain⟨m,b⟩:=oU h i t sz els e;exact⟨m,by rw[b,Nat.add_right_comm,Nat.add_assoc]⟩
 | .map _::l,k,h,i,t,sz,els,e=>by
  simp only[oP] at h;cases i with
  | zero=>simp at e
  | succ i =>
   rw[abk] at e;obtain⟨m,b⟩:=oU h i t sz els e;exact⟨m,by rw[b,Nat.add_right_comm,Nat.add_assoc]⟩
section
variable {P:Program}{G:Nat->Option (Nat×TypeId)}{F:au}{L:Loc}{ρ:Env}{M:TL}{τ:aK}{a:Act}{w:World}
theorem nodup_range (n:Nat):(List.range' 1000 n).Nodup:=List.nodup_range'
theorem TN {n j:Nat}{c0:C}{cs:List C}(al:nV c0=some cs) {va:Value}{asg:List Nat}{fn:Func}{rs:List RV}{Lin:List TO}{Li:List Own}{R:List TO->C->Prop}{a0 a':Act}{w':World}(an:mF P fn.results.toList=some rs) (hl:Li.length=Lin.length) (bd:bK F (inp Li) (cD Lin))
  (bl:∀k g t cs,(inp Li).get k=some (.box g t cs)->G k=some (g,t)) (ca:j∉asg) (bv:a0.tmps.getD j undef=va) (aa:Rel F (inp Li) c0 va) (y:oP cs Lin 1000=true)
  (hq:dY n F (inp Li) w a0 asg (Both G (fun L ρ=>gF L ρ rs fun vs=>Lm j c0 Lin L ρ (gD vs) R)) a' w') :
  a'.defers=a0.defers/\∃v,(results fn a'.tmps).run P w'=.ok v w'/\∃F' Lo,St F' (inp Lo) w'/\Step F (inp Li) w F' (inp Lo) w'/\gC Li R F' Lo v/\Qp Li Lo:=by
 obtain⟨F',L',ρ',g1,g2,g3,g4,q,g6,M',dg,g7,ar⟩:=hq;obtain⟨us,hm,ae,bu,⟨Mo,q4,q3,q5,q7⟩⟩:=nA g1 g2 an (qL g7 ar);obtain⟨Lo,d1,d2,d3⟩:=j4 g7.tl q4;have bi:=nodup_range Lin.length;have hv:Rel F' L' (gD ae) (fR us):=FO bu;have bb:=oQ q5;obtain⟨x1,x2⟩:=cu d1;obtain⟨z1,z2⟩:=xE q4;have d:∀i,i<Lin.length->(List.range' 1000 Lin.length)[i]?=some (1000+i):=fun i hi=>by rw[List.getElem?_range' hi,Nat.one_mul]
 have s:∀(i:Nat) g t cs,Li[i]?=some (.box g t cs)->∃cs',Lo[i]?=some (.box g t cs'):=by
  intro i g t cs hi;have c:i<Lin.length:=by rw[<-hl];exact(aaR.1 hi).1
  have l:(inp Li).get (1000+i)=some (.box g t cs):=by rw[aF,fo (by omega),show 1000+i-1000=i by omega];exact hi
  obtain⟨bm,h2⟩:=g7.kp _ g t (bl _ _ _ _ l);exact⟨bm,by rw[<-x2 i _ (d i c)];exact h2⟩
 -- the slot
 obtain⟨v1,e1,cd⟩:=Fs al (by have:=g7.env j;rw[q3] at this;exact this);have bo:va=v1:=by
  have:=g2.eq j;rw[g6 j ca,bv,e1] at this;exact this
 subst bo;obtain⟨bk,am,z⟩:=Ll al aa cd;have ab:∀(i:Nat) v t sz n xs,Li[i]?=some (.row v t sz n xs)->∃t' ao,Lo[i]?=some (.row v t' sz n ao):=by
  intro i v t sz n xs hi;have c:i<Lin.length:=by rw[<-hl];exact(aaR.1 hi).1
  have l:(inp Li).get (1000+i)=some (.row v t sz n xs):=by rw[aF,fo (by omega),show 1000+i-1000=i by omega];exact hi
  have hr:=bd (1000+i);rw[ck,fo (by omega),show 1000+i-1000=i by omega,l,aaN c] at hr;have x:Lin[i]?=some Lin[i]:=aaN c;generalize Lin[i]=o at hr x;cases o with
  | box=>exact hr.elim
  | map=>exact hr.elim
  | row t0 dl cy =>
   obtain⟨r1,r2,r3,⟨r4,ra,rc,r5,r6⟩,r7⟩:=hr;obtain⟨m,hm⟩:=oU y i _ _ _ x;obtain⟨u,hu⟩:∃u,bk[m]?=some u:=by
    have:=am.len;have cp:=(aaR.1 hm).1;exact⟨_,aaN (by omega)⟩
   have h1:=am.at hm hu;have h2:=z.at hm hu;simp only[Rel] at h1 h2;obtain⟨a1,c1,t1,s1,n1,y1,be,f⟩:=h1;obtain⟨a2,c2,t2,s2,n2,y2,av,bz⟩:=h2;rw[l] at f;injection f with f
   injection f with p1 p2 p3 p4 p5
   rw[be] at av;injection av with w1 w2 w3
   have ad:Lo[i]?=some (.row u t2 s2 n2 y2):=by rw[<-x2 i _ (d i c)];exact bz
   obtain⟨t',cw,bt⟩:=oS q5 i _ _ _ x;have cb:=d3 i _ _ bt ad;obtain⟨_,k2,_⟩:=cb;refine⟨t2,y2,?_⟩;rw[ad,p1,p4,<-w2,<-k2,r2]
 refine⟨g4,fR us,?_,F',Lo,g1.handed d1 bi,?_,⟨Mo.map (TO.aad (C.ren (bh (List.range' 1000 Lin.length) 1000))),(gD ae).aat.ren (bh (List.range' 1000 Lin.length) 1000),by simp[d2],kT g7.tl d2 d1 d3,(Dl hv).ren (lp d1),s,q7 (by simp only[ul];exact⟨hv.wf,trivial⟩)⟩,by rw[d2,bb,hl],?_⟩
 ·rw[oq];rw[Array.mapM_eq_mapM_toList];simp only[Sem.run_bind,Sem.run_map];rw[hm];simp only[Result.andThen_ok,Sem.run_pure];congr 1
  match us with
  | []=>rfl
  | [t]=>rfl
  | t::u::r =>
   simp only[fR];rw[dif_neg (by simp)]
 ·refine⟨q.le,q.os,q.tape,q.output,q.size,q.same,q.frz,fun b hb=>q.own b ?_⟩;obtain⟨j,p,e,hb⟩:=hb;rw[aF] at e;split at e
  case isFalse=>cases e
  have c:j-1000<Lo.length:=(aaR.1 e).1;have hk:=d (j-1000) (by omega);exact⟨_,p,by rw[x2 _ _ hk];exact e,hb⟩
 ·intro i o ho;cases o with
  | box g t cs =>
   obtain⟨cs',h⟩:=s i g t cs ho;exact⟨_,h,rfl,rfl⟩
  | row v t sz n xs =>
   obtain⟨t',ao,h⟩:=ab i v t sz n xs ho;exact⟨_,h,rfl,rfl,rfl⟩
theorem fF (j:Nat) (c0:C) {cs:List C}{f:FuncId}{fn:Func}{sc:ax}{A:cT}{rs:List RV}{args:List C}{Lin:List TO}{R:List TO->C->Prop}(hf:P.funcs[f]?=some fn) (b:aB P A fn=some (sc,A.n,rs,false)) (r:Nat.ble args.length A.n=true)
  (y:qt fn j=true) (hj:args[j]?=some c0) (ba:nV c0=some cs) (x:oP cs Lin 1000=true)
  (h:ul args->(∀o∈Lin,o.Wf)->evalTC P ⟨fun _=>False,[],none⟩ sc (fun _ _ _=>False) (fun L ρ=>gF L ρ rs fun d=>Lm j c0 Lin L ρ (gD d) R) (fun L ρ=>gF L ρ rs fun d=>Lm j c0 Lin L ρ (gD d) R) (cD Lin) (jM 0 args)):fq P f args Lin R:=by
 unfold aB at b;split at b
 case h_2=>cases b
 rename_i c hb;split at b
 case h_2=>cases b
 rename_i ca az al an;injection b with b
 injection b with e1 e2
 injection e2 with e2 e3
 injection e3 with e3 hname
 subst e1 e3;have be:j∉dI c:=by
  unfold qt at y;rw[hb] at y;intro ag;simp only[cN.2 ag,Bool.not_true,aa1] at y
 refine⟨fun F Li d hl u ha=>⟨⟨fn,hf,by rw[hb];rfl,hname⟩,fun F G L v hF h=>⟨gC.aao F G L v hF h.1,h.2⟩,fun w hs=>?_⟩⟩;refine calls_of_wp hf hb ?_;have bb:∀o∈Lin,o.Wf:=by
  intro o ho;obtain⟨i,hi⟩:=abb.1 ho;have:=u (1000+i);rw[ck,aF,fo (by omega),fo (by omega),show 1000+i-1000=i by omega,hi] at this;cases e:Li[i]? with
  | none=>rw[e] at this;exact this.elim
  | some p=>rw[e] at this;exact cE.wf this
 have h:=h ha.wf bb;have z:=ha.len;have r:=aa6 r
 -- the frame
 have key:∀j,∃sv,aL F (inp Li) (jM 0 args j) sv/\conc (inp Li) sv=(d.toArray++Array.replicate (fn.ntmps-d.toArray.size) undef).getD j undef/\(∀k off,sv=.own k off->∃g t cs,(inp Li).get k=some (.box g t cs))/\(∀ad i,sv=.el ad i->ad≠none):=by
  intro j;rw[nJ];simp only[aa9,abj,Nat.sub_zero,aa4];cases e:args[j]? with
  | some c =>
   have aa:j<d.length:=by rw[z];exact(aaR.1 e).1
   obtain⟨s1,s2,s3,s4⟩:=qK (ha.at e (aaN aa));refine⟨_,s1,?_,s3,fun ad i e=>o5 e (s4 ad i)⟩;rw[s2,Array.getElem?_append_left (by simpa using aa)];simp[aa]
  | none =>
   have bi:d.length<=j:=by rw[z];exact abx.1 e
   refine⟨.v undef,kO,?_,fun _ _ e=>(by cases e),fun _ _ e=>(by cases e)⟩;rw[Array.getElem?_append_right (by simpa using bi)];simp only[Array.getElem?_replicate,conc];split<;>rfl
 let am:Env:=fun j=>(key j).choose
 have he:aA (inp Li) am {tmps:=d.toArray++Array.replicate (fn.ntmps-d.toArray.size) undef,defers:=[]} :=
  ⟨fun t=>(key t).choose_spec.2.1.symm,fun t k off e=>(key t).choose_spec.2.2.1 k off e,fun t ad j e=>(key t).choose_spec.2.2.2 ad j e⟩
 let G:Nat->Option (Nat×TypeId):=fun k=>match(inp Li).get k with | some (.box g t _)=>some (g,t) | _=>none
 have aE:∀k g t cs,(inp Li).get k=some (.box g t cs)->G k=some (g,t):=fun k g t cs e=>by simp only[G,e]
 have bd:Kp G (inp Li):=by
  intro k g t e;simp only[G] at e;split at e
  ·rename_i g' t' cs h;injection e with e
   injection e with e1 e2
   subst e1 e2;exact⟨cs,h⟩
  ·cases e
 have aw:∀k,G k≠none->1000<=k:=by
  intro k m;simp only[G] at m;split at m
  ·rename_i g t cs h;rw[aF] at h;split at h
   ·assumption
   ·cases h
  ·exact o5 rfl m
 have s:j<d.length:=by rw[z];exact(aaR.1 hj).1
 have ao:(d.toArray++Array.replicate (fn.ntmps-d.toArray.size) undef).getD j undef=d[j]:=by
  rw[aa4,Array.getElem?_append_left (by simpa using s)];simp[s]
 have ae:Rel F (inp Li) c0 d[j]:=ha.at hj (aaN s);have ht:TS G F (inp Li) am (cD Lin) (jM 0 args):=⟨u,fun j=>(key j).choose_spec.1,bd,hs.glob⟩;refine wp_mono (fu c al (fun k _ m=>.inl (aw k m)) hs he ht (by simp[e2];omega) h) ?_;intro e a' w' q;have fin:∀{a0:Act},a0.defers=[]->a0.tmps.getD j undef=d[j]->dY A.n F (inp Li) w a0 (dI c) (Both G (fun L ρ=>gF L ρ az fun d=>Lm j c0 Lin L ρ (gD d) R)) a' w'->a'.defers=[]/\∃v,(results fn a'.tmps).run P w'=.ok v w' /\
   ∃v' F' Lo,Ending.returned v=.returned v'/\St F' (inp Lo) w'/\Step F (inp Li) w F' (inp Lo) w'/\gC Li R F' Lo v'/\Qp Li Lo:=by
  intro a0 bc av q;obtain⟨k1,v,k2,F',Lo,k3,k4,k5⟩:=TN ba an hl u aE be av ae x q;exact⟨k1.trans bc,v,k2,v,F',Lo,rfl,k3,k4,k5⟩
 cases e with
 | normal=>exact fin rfl ao q
 | ret=>exact fin rfl ao q
 | exit j=>obtain⟨F',L',ρ',_,_,_,_,_,_,M',ce,_,h⟩:=q;exact h.elim
 | goto l=>exact q.elim
 | panic c =>
  obtain⟨v,bv,F',L',g1,g2,g3,g4,g5,kp,hp,_⟩:=q;exact hp.elim
 | outgrown=>exact q.elim
end
section
variable {P:Program}{L:TL}{ρ:aK}
theorem Rv (ks:List Nat) {f:Nat}{args b:List C}{K:TL->aK->C->Prop}{x:C}{Lin Lin' Lo:List TO}(h:fq P f b Lin' (aT Lo x)) (l:L.sub ks=some Lin) (j:aP ks=true)
  (e:(args.map fun c=>c.aaj.ren (bh ks 1000))=b) (m:Lin.map (TO.aad (C.ren (bh ks 1000)))=Lin') (d:ks.length=Lo.length)
  (k:K ((L.aae ks).puts ks (Lo.map (TO.aad (C.ren (aH ks))))) ρ (x.ren (aH ks)).slt):Bo P f args L ρ K:=by
 subst e m;exact .inpl ks Lin _ l j h fun v Mo ⟨n,o⟩ _ _=>by subst n o;exact⟨d,k⟩
theorem u9 (ks:List Nat) {f:Nat}{args b:List C}{K:TL->aK->C->Prop}{x:C}{Lin Lin' Lo:List TO}(h:fq P f b Lin' (aT Lo x)) (l:L.sub ks=some Lin) (j:aP ks=true)
  (e:(args.map fun c=>c.aaj.ren (bh ks 1000))=b) (m:Lin.map (TO.aad (C.ren (bh ks 1000)))=Lin') (d:ks.length=Lo.length)
  (k:K ((L.aae ks).puts ks (Lo.map (TO.aad (C.ren (aH ks))))) ρ (x.ren (aH ks)).slt):pV P f args L ρ K:=by
 subst e m;exact .inpl ks Lin _ l j h fun v Mo ⟨n,o⟩ _ _=>by subst n o;exact⟨d,k⟩
theorem vU {j:Nat}{b:C}{Lin Mo Lo:List TO}{v x:C}(d:L.sub (List.range' 1000 Lin.length)=some Mo) (c:ρ j=b) (h:cR Lin Mo=true) (f:Mo.map (TO.aad (C.ren (bh (List.range' 1000 Lin.length) 1000)))=Lo) (e:v.aat.ren (bh (List.range' 1000 Lin.length) 1000)=x) :
  Lm j b Lin L ρ v (aT Lo x):=⟨Mo,d,c,h,fun _=>⟨f,e⟩⟩
end
theorem CallsT.aaI {P:Program}{f:Nat}{args:List C}{t sz:Nat}{els:List (List C)}{x:C}(h:CallsT P f (args.map (C.frz 1000 els)) [] (aT [] x)) (he:C2 P f) (hp:∀{F F':au}{L L':Loc}{v:Value},Rel F L x v->Rel F' L' x v) :
  fq P f args [.row t sz els] (aT [.row t sz els] x):=by
 refine⟨fun F Li z hl n hr=>?_⟩
 match Li,hl with
 | [o],_ =>
  refine⟨he,fun F G L v ab ⟨r,q⟩=>⟨gC.aao _ _ _ _ ab r,q⟩,fun w m=>?_⟩;have s:aA (inp [o]) (fun _=>.v undef) (⟨#[],[]⟩:Act):=by
   refine⟨fun j=>?_,fun j k off e=>(by cases e),fun j a i e=>(by cases e)⟩;simp[conc]
  obtain⟨F2,L2,g1,g2,g3,g4,g5⟩:=rT (G:=fun _=>none) (k:=1000) m s (τ:=fun _=>.any) ⟨n,fun j=>trivial,fun k g t e=>(by cases e),m.glob⟩ (show(cD [TO.row t sz els]).get 1000=some (.row t sz els) from rfl);have y:∀k o',L2.get k=some o'->False:=fun k o' e=>by
   have q:=g4.tl k;rw[e] at q;have hn:(((cD [TO.row t sz els]).del 1000).aad (C.frz 1000 els)).get k=none:=by
    show(TL.aad (C.frz 1000 els) []).get k=none;rfl
   rw[hn] at q;exact q
  have ae:ay F2 (inp []) (args.map (C.frz 1000 els)) z:=by
   have h1:ay F2 L2 (args.map (C.frz 1000 els)) z:=ay.map (fun c _ v hv=>g5 hv) hr;exact h1.ext (au.le_refl _) fun k o' e=>(y k o' e).elim
  have ac:St F2 (inp []) w:=g1.part (fun k o e=>by cases e);refine Calls.mono ((h.out F2 [] z rfl (fun k=>trivial) ae).run w ac) ?_;rintro e w' ⟨v,F3,Lo,rfl,u,d,Mo,c,q1,q2,q3,q4,rfl,rfl⟩;have p:F2.le F3:=d.le;have l:∀b,b<w.heap.size->w'.heap[b]?=w.heap[b]?:=fun b hb=>d.same b hb fun⟨k,o,e,_⟩=>(by cases e);have ad:∀k o' g,(inp [o]).get k=some o'->o'.blk=some g->g<w.heap.size:=fun k o' g e hb=>Own.aaq (m.own k o' e) hb;have aa:St F (inp [o]) w':=by
   refine⟨fun b ob hb=>?_,fun k o' e=>?_,m.off,m.sep,m.glob⟩
   ·exact u.frz b ob (p b ob (g3.le b ob hb))
   ·exact Own.aau (m.own k o' e) fun g hg=>l g (ad k o' g e hg)
  refine⟨v,F,[o],rfl,aa,⟨au.le_refl _,d.os,d.tape,d.output,d.size,fun b hb _=>l b hb,fun b hb=>.inl hb,fun b hb=>.inl hb⟩,⟨[.row t sz els],_,rfl,n,hp q3,fun i g t cs e=>⟨cs,e⟩,rfl,rfl⟩,rfl,fun i o' e=>⟨o',e,Own.aah o'⟩⟩
end Go.Fr.T
