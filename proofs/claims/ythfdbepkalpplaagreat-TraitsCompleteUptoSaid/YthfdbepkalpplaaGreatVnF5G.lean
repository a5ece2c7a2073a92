/- Part of the proofs of the statements of this seat. -/
import Derived.Test.YthfdbepkalpplaaGreatVnG3G
import Derived.Defers
set_option maxRecDepth 10000
set_option linter.unusedVariables false
set_option linter.unusedSimpArgs false
namespace Go.Fr.Tryz
open Go Go.RowKit Go.Proofs Go.Fr Go.Fr.T Go.Fr.Api
theorem qG.mono {P:Program}{H:Nat}{PS PS':Value->Prop}{ns:List Nat}{out:Value->List (List Value)}(h:qG P H PS ns out) (d:∀v,PS' v->PS v):qG P H PS' ns out :=
 ⟨h.inv,h.idle,fun F b v a w c=>h.caught F b v a w (d v c)⟩
theorem Ma:∀{a:List Own}{n:Nat},C4 a [n]->∃g t cs,a=[.box g (t+1) cs]/\cs.length=n
 | [],_,h=>h.elim
 | [o],n,h=>by
  cases o with
  | row=>exact h.1.elim
  | box g t cs =>
   cases t with
   | zero=>exact vv rfl (xg h.1)
   | succ t=>exact⟨g,t,cs,rfl,h.1⟩
 | _::_::_,_,h=>h.2.elim
def U5 (v:Value):List (List Value):=match v with
 | .iface _ (.agg ⟨[.int _ n]⟩)=>[[.int .i64 n]]
 | _=>[]
theorem Td (c:List Own) (w:World) (hb:C4 c [1]):CallsD P 83 (c.map lV).toArray .returning w fun e h w'=>e=.returned (.tuple #[])/\h=.returning/\w'=w:=by
 have f:Tryz.f83.ntmps=12:=by kernel_rfl
 have j:Tryz.f83.results=#[]:=by kernel_rfl
 obtain⟨g,t,cs,rfl,_⟩:=Ma hb;refine callsD_of_wpS Tryz.func83 rfl fun a cs d=>?_;apply wpS_seq;apply wpS_region;simp[wpOpsS,go_sem,recoverD,d,f,Exit.thenS,lV];refine wpS_of_wp (wp_block (wp_seq (wp_region ?_)));have b:P.underlying 20=some (.interface #[]):=by kernel_rfl
 have he:∀w:World,(Op.equal 20 .nilIface .nilIface).run P w=.ok true w:=fun w=>Fl b;simp[wpOps,go_sem,Exit.then,he,Exit.inBlock];refine .inl ?_;apply wp_cond_true
 ·simp[Act.eval,Array.replicate]
 apply wp_region;cases a
 simp_all [wpOps,go_sem,bodyPostS,results,Exit.inBlock]
theorem P9:qG P 83 (fun v=>∃e,v=dh e) [1] U5:=by
 refine wh Tryz.func83 Pk rfl Td ?_;rintro F b v ⟨n,rfl⟩ hb;obtain⟨g,t,cs,rfl,h1⟩:=Ma hb
 match cs,h1 with
 | [a],_ =>
  intro c;exact rfl
def RG (n:Nat) (s:List Ty) (a b:Ty):List TO->C->Prop:=fun Mo v=>(∃s',LY n s a b s'/\Mo=LU s'/\v=IC 0)\/(∃e,RA n s a b e/\v=IC e/\∃i j,Mo=[.box 104 (List.replicate i .any),.box 109 (List.replicate j .any),.row 33 3 []])
theorem RA.three {n:Nat}{s:List Ty}{a b:Ty}{e:Int}(h:RA n s a b e):e=1\/e=2\/e=8:=by
 rcases h with⟨_,h⟩ | ⟨_,⟨_,h⟩ | ⟨_,⟨_,h⟩ | ⟨_,_,h,_⟩⟩⟩<;>omega
section
variable {L:TL}{ρ:aG}
theorem Te (ks:List Nat) {PS:qa}{n f:Nat}{s:List Ty}{a b:Ty}{args:List C}{K:TL->aG->C->Prop}{Lin:List TO}(h:CallsTX P f (args.map fun c=>c.aaj.ren (bh ks 1000)) (LU s) (RU n s a b) (PU n s a b)) (q:L.sub ks=some Lin)
  (d:(T.aU ks&&T.kE L ks ks&&aJ Lin ks ks&&kY L ks PS.hb)=true) (l:Lin.map (TO.aad (C.ren (bh ks 1000)))=LU s) (m:ks.length=3) (j:∀v,PU n s a b v->PS.ps v)
  (k:∀s',LY n s a b s'->K (((L.aaf ks).kills (rowsOf L ks)).puts ks ((LU s').map (TO.aad (C.ren (aN ks))))) (ef (rowsOf L ks) ρ) (.tup [])):pz P PS f args L ρ K:=by
 simp only[aaN] at d;obtain⟨⟨⟨e,p⟩,c3⟩,c4⟩:=d;refine⟨[],ks,ks,L,Lin,_,_,.inl rfl,q,e,e,p,c3,c4,by rw[l];exact h,j,?_⟩;rintro v Mo ⟨s',o,rfl,rfl⟩ t r;exact⟨m,k s' o⟩
theorem Tf (ks:List Nat) {n f:Nat}{s:List Ty}{a b:Ty}{args:List C}{K:TL->aG->C->Prop}{Lin:List TO}(h:CallsT P f (args.map fun c=>c.aaj.ren (bh ks 1000)) (LU s) (RG n s a b)) (r:L.sub ks=some Lin)
  (l:(T.aU ks&&T.kE L ks ks&&aJ Lin ks ks)=true) (p:Lin.map (TO.aad (C.ren (bh ks 1000)))=LU s) (k:ks.length=3)
  (k1:∀s',LY n s a b s'->K (((L.aaf ks).kills (rowsOf L ks)).puts ks ((LU s').map (TO.aad (C.ren (aN ks))))) (ef (rowsOf L ks) ρ) (IC 0))
  (o:∀e,RA n s a b e->∀Lx,Lx.length=3->K (((L.aaf ks).kills (rowsOf L ks)).puts ks Lx) (ef (rowsOf L ks) ρ) (IC e)):kX P f args L ρ K:=by
 simp only[aaN] at l;obtain⟨⟨m,q⟩,c3⟩:=l;refine .mk ⟨[],ks,ks,L,Lin,_,.inl rfl,r,m,m,q,c3,by rw[p];exact h,?_⟩;rintro v Mo (⟨s',d,rfl,rfl⟩ | ⟨e,d,rfl,i,j,rfl⟩) hw hwo
 ·exact⟨k,k1 s' d⟩
 ·exact⟨k,o e d _ rfl⟩
end
theorem Xv {F:aA}{L:Loc}{m:Int}(h0:0<=m) (h1:m<64):Rel F L (IC m) (.int .i64 m):=by
 rw[Rel];exact⟨rfl,by rw[FG];simp only[IntKind.min,IntKind.max,IntKind.signed,IntKind.bits,abm];omega⟩
theorem Xw (n:Nat) (s:List Ty) (a b:Ty) (h:LZ s a b (RU n s a b) (PU n s a b)):CallsT P 69 [.fn 70 [] [.own 1000 0,.pt (Eo a) 0,.pt (Eo b) 0]] (LU s) (RG n s a b):=by
 refine mR (PS:=PU n s a b) (ns:=[1]) (out:=U5) Tryz.func69 Pc (qG.mono P9 fun v ⟨e,_,h⟩=>⟨e,h⟩) (fun v ⟨e,_,h⟩=>by subst h;rfl) rfl rfl ?_ fun m o=>?_
 ·rintro v ⟨e,hB,rfl⟩;refine⟨IC e,.int .i64 e,?_,?_,?_⟩
  ·intro L ρ h;obtain⟨f,k,l,d⟩:=h 0 2 _ rfl rfl;simp only[nS,f,d];rfl
  ·intro F L;have:=hB.three;exact Xv (by omega) (by omega)
  ·rintro Mo ⟨i,Mo1,rfl,j,Mo2,rfl,Mo3,rfl,rfl⟩;exact .inr ⟨e,hB,rfl,i,j,rfl⟩
 refine⟨rfl,?_⟩;refine Te [1000,1001,1002] h rfl rfl rfl rfl (fun v q=>q) fun s' c=>?_;exact vG [1000,1001,1002] rfl rfl rfl rfl (.inl ⟨s',c,rfl,rfl⟩)
def UR (n:Nat) (s:List Ty) (a b:Ty) (r:List Ty) (e:Int):Prop:=(∃s',LY n s a b s'/\j3 s' n=some r/\e=0)\/(RA n s a b e/\r=[])
def RN (n:Nat) (s:List Ty) (a b:Ty):List TO->C->Prop:=fun Mo v=>Mo=[]/\∃r e,UR n s a b r e/\v=.tup [.sl (r.map aD),IC e]
theorem Xx {L:TL}{K:TL->Prop}(h:K L):fT L K:=by rw[gH];exact h
theorem t42 (n:Nat) (s:List Ty) (a b:Ty) (m:s.length<=2 ^ 30) (F:Fuel n s a b) (hf:∀s e r,bK s n=some r->En s e r) (f:bW a<=2 ^ 40) (k:bW b<=2 ^ 40)
  (j:∀s',LY n s a b s'->s'.length<=2 ^ 30/\(∀x∈s',iA x)/\∃r,j3 s' n=some r):CallsT P 42 [.sl (s.map aD),aP a,aP b] [] (RN n s a b):=by
 have d:=Xw n s a b (t70 n s a b F hf f k);have h:=t68 s m;refine af Tryz.func42 OP rfl fun p _=>?_;refine callO [] [11] h rfl rfl rfl rfl rfl fun _ _=>?_;refine Tf [8,13,11] d rfl rfl rfl rfl (fun s' c=>?_) fun e he Lx o=>?_
 ·skip
  refine qe (j s' c).2.2 fun r l=>?_;refine GW [11] [13] [13] (t75 s' n r (j s' c).1 (j s' c).2.1 l) ⟨_,rfl,rfl,rfl,rfl,rfl,fun _ _=>?_⟩;exact vG [] rfl rfl rfl rfl ⟨rfl,r,0,.inl ⟨s',c,l,rfl⟩,rfl⟩
 ·refine Xx ?_;have h0:¬e=0:=by have:=he.three;omega
  refine aV (fun _=>?_) (fun q=>vv q h0);exact vG [] rfl rfl rfl rfl ⟨rfl,[],e,.inr ⟨he,rfl⟩,rfl⟩
section
variable {L:TL}{ρ:aG}
end
section
variable {P:Program}
def sW (v:Value):Deferred:={target:=.builtin .panic #[20] 0 #[false],args:=#[v]}
theorem Jq {fr:Frame}{cs:List Frame}{w:World}{t:TypeId}{x:Value}{ds:List Deferred}(d:fr.mode≠.run) (hd:fr.defers=sW (.iface t x)::ds) :
  step P (lone fr cs w)=.next (lone {fr with defers:=ds,mode:=raised fr.mode [{v:=.iface t x,recovered:=false}]} cs w):=by
 have e:∀u,({fr with defers:=ds}:Frame).raise u={fr with defers:=ds,mode:=raised fr.mode u}:=fun u=>by rw[Frame.raise_mode]
 have c:(invoke (sW (.iface t x)).target (sW (.iface t x)).args).run P w=.halt (.panic (.iface t x)) w:=by
  simp[sW,invoke,builtin,go_sem,Instr.panic]
 simp only[sW] at hd c;refine step_lone_go ?_;cases a:fr.mode with
 | run=>exact vv a d
 | returning =>
  rw[a] at e;simp[stepG,unwind,callDeferred,a,hd,c,e,raised]
 | panicking b =>
  rw[a] at e;simp[stepG,unwind,callDeferred,a,hd,c,e,raised]
theorem sZ {t:TypeId}{x:Value}:∀(ds:List Deferred) (fr:Frame) (cs:List Frame) (w:World),(∀d∈ds,d=sW (.iface t x))->fr.mode≠.run->fr.defers=ds->ds≠[]->(∀c,fr.mode=.panicking c->∀e∈c,e.goexit=false) ->
  ∃c,sj (.iface t x) c/\Steps P (lone fr cs w) (lone {fr with defers:=[],mode:=.panicking c} cs w)
 | [],fr,cs,w,h,n,hd,l,o=>vv rfl l
 | d::ds,fr,cs,w,h,n,hd,l,o=>by
  have e:=h d (by simp);subst e;have h1:=Jq (P:=P) (cs:=cs) (w:=w) n hd;have p:∃a,raised fr.mode [{v:=.iface t x,recovered:=false}]=.panicking ({v:=.iface t x,recovered:=false}::a)/\∀e∈a,e.goexit=false:=by
   cases f:fr.mode with
   | run=>exact vv f n
   | returning=>exact⟨[],rfl,fun e h=>by cases h⟩
   | panicking c=>exact⟨c,rfl,o c f⟩
  obtain⟨a,j,m⟩:=p
  by_cases k:ds=[]
  ·subst k;refine⟨_,⟨a,rfl,m⟩,?_⟩;rw[<-j];exact .one h1
  ·obtain⟨c,r,q⟩:=sZ ds {fr with defers:=ds,mode:=raised fr.mode [{v:=.iface t x,recovered:=false}]} cs w (fun d hd=>h d (by simp[hd])) (by rw[j];exact fun h=>by cases h) rfl k (fun c b e he=>by
    have b:raised fr.mode [{v:=.iface t x,recovered:=false}]=.panicking c:=b;rw[j] at b;injection b with b
    subst b;rcases aaX.1 he with rfl | he
    ·rfl
    ·exact m e he)
   exact⟨c,r,.head h1 q⟩
def rJ (P:Program) (fn:Func) (v:Value) (R:Ending->World->Prop):Exit->Act->World->Prop
 | .normal,a,w | .ret,a,w=>(∀d∈a.defers,d=sW v)/\(a.defers=[]->∃x,(results fn a.tmps).run P w=.ok x w/\R (.returned x) w)/\(a.defers≠[]->∀c,sj v c->R (.panicked c) w)
 | .panic b,a,w=>(∀d∈a.defers,d=sW v)/\(a.defers=[]->R (.panicked b) w)/\(a.defers≠[]->(∀e∈b,e.goexit=false)/\∀c,sj v c->R (.panicked c) w)
 | .outgrown,_,w=>R .outgrown w
 | _,_,_=>False
theorem wN {f:FuncId}{fn:Func}{c:Code}{args:Array Value}{w:World}{t:TypeId}{x:Value}{R:Ending->World->Prop}
  (hf:P.funcs[f]?=some fn) (hb:fn.body=some c)
  (h:c.wp P (rJ P fn (.iface t x) R) {tmps:=args++Array.replicate (fn.ntmps-args.size) undef,defers:=[]} w):Calls P f args w R:=by
 intro cs
 let b:Frame:={(default:Frame) with fn:=f,kind:=.normal}
 have r:Frame.enter P f args .normal =
   b.at {tmps:=args++Array.replicate (fn.ntmps-args.size) undef,defers:=[]} [.code c]:=by
  simp[Frame.enter,Frame.at,hf,hb,b]
 obtain⟨e,a',w',y,n⟩:=h b [] cs;rw[<-r] at n;have s:∀a,((∀d∈a'.defers,d=sW (.iface t x))/\(a'.defers=[]->∃x,(results fn a'.tmps).run P w'=.ok x w'/\R (.returned x) w')/\(a'.defers≠[]->∀q,sj (.iface t x) q->R (.panicked q) w')) ->
   ∃e o p,R e o/\Comes P (lone {b.at a' a with mode:=.returning} cs w') (lone p cs o) e/\p.fn=f/\p.leaving P o e:=by
  rintro a ⟨q1,q2,q3⟩
  by_cases j:a'.defers=[]
  ·obtain⟨v,hr,z⟩:=q2 j;exact⟨.returned v,w',_,z,Steps.refl P _,rfl,rfl,j,rfl,fn,hf,hr⟩
  ·obtain⟨q,k1,k2⟩:=sZ (P:=P) a'.defers {b.at a' a with mode:=.returning} cs w' q1 (fun h=>by cases h) rfl j (fun q h=>by cases h);exact⟨.panicked q,w',_,q3 j q k1,k2,rfl,rfl,rfl,fn,hf⟩
 cases e with
 | normal =>
  obtain⟨e',o,p,z,hs,u,hl⟩:=s [] y;exact⟨e',o,p,z,Comes.of_steps (Steps.trans n (.one step_end)) hs,u,hl⟩
 | ret =>
  obtain⟨a,m⟩:=n;obtain⟨e',o,p,z,hs,u,hl⟩:=s a y;exact⟨e',o,p,z,Comes.of_steps m hs,u,hl⟩
 | panic k =>
  obtain⟨a,m⟩:=n;obtain⟨q1,q2,q3⟩:=y
  by_cases j:a'.defers=[]
  ·exact⟨.panicked k,w',{b.at a' a with mode:=.panicking k},q2 j,Comes.of_steps m (Steps.refl P _),rfl,rfl,j,fn,hf⟩
  ·obtain⟨q,k1,k2⟩:=sZ (P:=P) a'.defers {b.at a' a with mode:=.panicking k} cs w' q1 (fun h=>by cases h) rfl j (fun q h=>by
    have h:FrameMode.panicking k=.panicking q:=h;injection h with h
    subst h;exact(q3 j).1)
   exact⟨.panicked q,w',_,(q3 j).2 q k1,Comes.of_steps m k2,rfl,rfl,rfl,fn,hf⟩
 | exit id=>exact y.elim
 | goto l=>exact y.elim
 | outgrown=>exact⟨.outgrown,w',b,y,n.resolve_left (by simp[b]),rfl,trivial⟩
end
theorem Xy {B g n c:Nat}(b:n<B) (a:c<B):(c+(g*B+n)*B) / B % B=n/\(c+(g*B+n)*B) % B=c/\(c+(g*B+n)*B) / (B*B)=g:=by
 have hB:0<B:=by omega
 have h1:(c+(g*B+n)*B) / B=g*B+n:=by rw[Nat.add_mul_div_right _ _ hB,Nat.div_eq_of_lt a,Nat.zero_add]
 refine⟨?_,?_,?_⟩
 ·rw[h1,Nat.add_comm,Nat.add_mul_mod_self_right,Nat.mod_eq_of_lt b]
 ·rw[Nat.add_mul_mod_self_right,Nat.mod_eq_of_lt a]
 ·rw[<-Nat.div_div_eq_div_mul,h1,Nat.add_comm,Nat.add_mul_div_right _ _ hB,Nat.div_eq_of_lt b,Nat.zero_add]
theorem Mb (m:Nat):si (m+2)=some (m / gq % gq):=rfl
theorem Mc (m:Nat):JJ (m+1)=.slice (some ⟨m / (gq*gq),0,none⟩) (m / gq % gq) (m % gq):=rfl
theorem Eu {n:Nat}(h:n<=maxLen):n<gq:=Nat.lt_of_le_of_lt h (by decide)
theorem HG (g n c:Nat) (b:n<=maxLen) (a:c<=maxLen):∃k,si k=some n/\∀F,gZ k F (.slice (some ⟨g,0,none⟩) n c):=by
 have b:=Eu b;have a:=Eu a;generalize hB:gq=B at b a;obtain⟨h1,h2,h3⟩:=Xy (g:=g) b a;generalize c+(g*B+n)*B=m at h1 h2 h3;refine⟨m+2,?_,fun F=>.inr ⟨m+1,rfl,?_⟩⟩
 ·rw[Mb,hB,h1]
 ·rw[Mc,hB,h1,h2,h3]
theorem Qa {F:aA}{L L':Loc}{t:Ty}{v:Value}(h:Rel F L (aP t) v):Rel F L' (aP t) v:=by
 simp only[Rel,aB] at h ⊢;exact h
theorem Gf {F:aA}{k:Nat}{v u:Value}(h:gZ k F v) (a:gZ k F u):v=u:=by
 rcases h with⟨rfl,rfl⟩ | ⟨m,rfl,rfl⟩
 ·rcases a with⟨_,rfl⟩ | ⟨m,h,_⟩
  ·rfl
  ·cases h
 ·rcases a with⟨h,_⟩ | ⟨b,h,rfl⟩
  ·cases h
  ·injection h with h;rw[h]
theorem Xz {b a c:Own}{j:Nat}:(inp [b,a,c]).get j=if j=1000 then some b else if j=1001 then some a else if j=1002 then some c else none:=by
 rw[aI]
 by_cases h:1000<=j
 ·rw[fo h]
  by_cases h0:j=1000
  ·rw[fo h0,h0];rfl
  rw[o5 h0]
  by_cases h1:j=1001
  ·rw[fo h1,h1];rfl
  rw[o5 h1]
  by_cases h2:j=1002
  ·rw[fo h2,h2];rfl
  rw[o5 h2];exact abj (by simp;omega)
 ·rw[o5 h,o5 (by omega),o5 (by omega),o5 (by omega)]
theorem U6 {b a c:TO}{j:Nat}:(cO [b,a,c]).get j=if j=1000 then some b else if j=1001 then some a else if j=1002 then some c else none:=by
 rw[cu]
 by_cases h:1000<=j
 ·rw[fo h]
  by_cases h0:j=1000
  ·rw[fo h0,h0];rfl
  rw[o5 h0]
  by_cases h1:j=1001
  ·rw[fo h1,h1];rfl
  rw[o5 h1]
  by_cases h2:j=1002
  ·rw[fo h2,h2];rfl
  rw[o5 h2];exact abj (by simp;omega)
 ·rw[o5 h,o5 (by omega),o5 (by omega),o5 (by omega)]
theorem Tg {F:aA}{b a c:Own}{k l h:TO}(h0:cN F (inp [b,a,c]) k b) (h1:cN F (inp [b,a,c]) l a) (h2:cN F (inp [b,a,c]) h c):bT F (inp [b,a,c]) (cO [k,l,h]):=by
 intro j;rw[Xz,U6]
 by_cases f:j=1000
 ·rw[fo f,fo f];exact h0
 rw[o5 f,o5 f]
 by_cases d:j=1001
 ·rw[fo d,fo d];exact h1
 rw[o5 d,o5 d]
 by_cases e:j=1002
 ·rw[fo e,fo e];exact h2
 rw[o5 e,o5 e];trivial
theorem XA {c a d b:Own}{j:Nat}:(inp [c,a,d,b]).get j=if j=1000 then some c else if j=1001 then some a else if j=1002 then some d else if j=1003 then some b else none:=by
 rw[aI]
 by_cases h:1000<=j
 ·rw[fo h]
  by_cases h0:j=1000
  ·rw[fo h0,h0];rfl
  rw[o5 h0]
  by_cases h1:j=1001
  ·rw[fo h1,h1];rfl
  rw[o5 h1]
  by_cases h2:j=1002
  ·rw[fo h2,h2];rfl
  rw[o5 h2]
  by_cases h3:j=1003
  ·rw[fo h3,h3];rfl
  rw[o5 h3];exact abj (by simp;omega)
 ·rw[o5 h,o5 (by omega),o5 (by omega),o5 (by omega),o5 (by omega)]
theorem U7 {c a d b:TO}{j:Nat}:(cO [c,a,d,b]).get j=if j=1000 then some c else if j=1001 then some a else if j=1002 then some d else if j=1003 then some b else none:=by
 rw[cu]
 by_cases h:1000<=j
 ·rw[fo h]
  by_cases h0:j=1000
  ·rw[fo h0,h0];rfl
  rw[o5 h0]
  by_cases h1:j=1001
  ·rw[fo h1,h1];rfl
  rw[o5 h1]
  by_cases h2:j=1002
  ·rw[fo h2,h2];rfl
  rw[o5 h2]
  by_cases h3:j=1003
  ·rw[fo h3,h3];rfl
  rw[o5 h3];exact abj (by simp;omega)
 ·rw[o5 h,o5 (by omega),o5 (by omega),o5 (by omega),o5 (by omega)]
theorem Ti {F:aA}{c a d b:Own}{m n l o:TO}(h0:cN F (inp [c,a,d,b]) m c) (h1:cN F (inp [c,a,d,b]) n a) (h2:cN F (inp [c,a,d,b]) l d) (h3:cN F (inp [c,a,d,b]) o b):bT F (inp [c,a,d,b]) (cO [m,n,l,o]):=by
 intro j;rw[XA,U7]
 by_cases k:j=1000
 ·rw[fo k,fo k];exact h0
 rw[o5 k,o5 k]
 by_cases e:j=1001
 ·rw[fo e,fo e];exact h1
 rw[o5 e,o5 e]
 by_cases h:j=1002
 ·rw[fo h,fo h];exact h2
 rw[o5 h,o5 h]
 by_cases f:j=1003
 ·rw[fo f,fo f];exact h3
 rw[o5 f,o5 f];trivial
theorem Md {F:aA}{k c b d f:Nat}{v:Value}{e c3:List Value}{D O:List (C×C)}(a:tyOk 109 c b) (l:gZ k F v) (h:gb F D e) (j:gb F O c3) :
  bT F (inp [.box c b [v,.map (some d),.map (some f)],.box d 0 e,.box f 0 c3]) (cO (SO k D O)):=by
 refine Tg ⟨a,?_⟩ ⟨rfl,h⟩ ⟨rfl,j⟩;simp only[aB,Rel];exact⟨_,_,rfl,l,_,_,rfl,⟨_,_,rfl,rfl⟩,_,_,rfl,⟨_,_,rfl,rfl⟩,rfl⟩
theorem Qb {P:Program}{f:Nat}{tx:Ty}{b:Bool}{sz t:Nat}{els:List (List C)}{D O:List (C×C)}
  (h:∀k,si k=some els.length->CallsT P f [.own 1000 0,aP tx] (SO k D O) (aR (SO k D O) (.bool b))) :
  iw P f [.own 1000 0,aP tx] [.box 109 [.rw 1001,.mpr 1002,.mpr 1003],.row t sz els,.map D,.map O] (aR [.box 109 [.rw 1001,.mpr 1002,.mpr 1003],.row t sz els,.map D,.map O] (.bool b)):=by
 refine⟨fun F Li vs hl z hr=>?_⟩
 match Li,hl with
 | [x,s,u,y],_ =>
  have q0:=z 1000;have q1:=z 1001;have q2:=z 1002;have q3:=z 1003;have g0:(inp [x,s,u,y]).get 1000=some x:=rfl;have g1:(inp [x,s,u,y]).get 1001=some s:=rfl;have g2:(inp [x,s,u,y]).get 1002=some u:=rfl;have g3:(inp [x,s,u,y]).get 1003=some y:=rfl;rw[g0] at q0;rw[g1] at q1;rw[g2] at q2;rw[g3] at q3;have q0:cN F (inp [x,s,u,y]) (.box 109 [.rw 1001,.mpr 1002,.mpr 1003]) x:=q0;have q1:cN F (inp [x,s,u,y]) (.row t sz els) s:=q1;have q2:cN F (inp [x,s,u,y]) (.map D) u:=q2;have q3:cN F (inp [x,s,u,y]) (.map O) y:=q3;cases x with
  | row=>exact q0.elim
  | box b0 t0 c0 =>
  cases s with
  | box=>exact q1.elim
  | row v1 t1 s1 d x1 =>
  cases u with
  | row=>exact q2.elim
  | box l t2 c2 =>
  cases y with
  | row=>exact q3.elim
  | box p t3 c3 =>
  obtain⟨bc,az⟩:=q0;simp only[aB,Rel] at az;obtain⟨w0,_,rfl,⟨a,c,t',dr,n,xs,rfl,e1⟩,m1,_,rfl,⟨y1,z1,m,rfl⟩,m2,_,rfl,⟨y2,z2,j,rfl⟩,rfl⟩:=az;rw[g1] at e1;rw[g2] at m;rw[g3] at j;injection e1 with e1
  injection e1 with e11 e12 e13 e14 e15
  subst e11 e12 e13 e14 e15;injection m with m
  injection m with e21 e22 e23
  subst e21 e22 e23;injection j with j
  injection j with e31 e32 e33
  subst e31 e32 e33;obtain⟨rfl,rfl,hn,⟨hm,hv⟩,bd⟩:=q1;obtain⟨_,q2⟩:=q2;obtain⟨_,q3⟩:=q3;rw[aB] at hr;obtain⟨u1,us,rfl,r1,r2⟩:=hr;rw[Rel] at r1;obtain⟨gg,tt,cc,r3,rfl⟩:=r1;rw[g0] at r3;injection r3 with r3
  injection r3 with r31 r32 r33
  subst r31 r32 r33;rw[aB] at r2;obtain⟨u2,dd,rfl,r4,r5⟩:=r2;rw[aB] at r5;subst r5
  -- the arguments,in a smaller world
  have aE:∀(L':Loc) (b':Nat) (ty:TypeId) (cs:List Value),L'.get 1000=some (.box b' ty cs)->aB F L' [.own 1000 0,aP tx] [.pointer (some ⟨b',0,none⟩),u2]:=by
   intro L' b' ty cs hL;rw[aB];refine⟨_,_,rfl,by rw[Rel];exact⟨_,_,_,hL,rfl⟩,?_⟩;rw[aB];exact⟨u2,[],rfl,Qa r4,by rw[aB]⟩
  obtain⟨k0,bl,cm⟩:=HG 0 d d hm hm;have ent:=((h k0 (by rw[<-hn];exact bl)).out F [.box 0 109 [.slice (some ⟨0,0,none⟩) d d,.map (some l),.map (some p)],.box l 0 c2,.box p 0 c3] [.pointer (some ⟨0,0,none⟩),u2] rfl
   (Md ⟨by decide,.inl rfl,by decide⟩ (cm F) q2 q3) (aE _ 0 109 _ rfl)).ent
  refine⟨ent,fun F G L v bz ⟨r,q⟩=>⟨gQ.aap _ _ _ _ bz r,q⟩,fun w hs=>?_⟩;have ac:=hs.own 1001 _ g1;simp only[Own.ok] at ac;have hk:∃k,si k=some d/\∀F,gZ k F (.slice a d c):=by
   rcases ac.2 with⟨e,_⟩ | ⟨g,cap,ds,e,_,_,k1,k2,_⟩
   ·injection e with e1 m j
    subst e1 m j;exact⟨1,rfl,fun F=>.inr ⟨0,rfl,rfl⟩⟩
   ·injection e with e1 m j
    subst e1 j;exact HG g d c hm k2
  obtain⟨k,co,ba⟩:=hk;have am:(inp [.box b0 t0 [.slice a d c,.map (some l),.map (some p)],.row (.slice a d c) t sz d x1,.box l 0 c2,.box p 0 c3]).sub [1000,1002,1003]=some [.box b0 t0 [.slice a d c,.map (some l),.map (some p)],.box l 0 c2,.box p 0 c3]:=rfl;have an:[1000,1002,1003].Nodup:=by decide
  refine(((h k (by rw[<-hn];exact co)).out F _ _ rfl (Md bc (ba F) q2 q3) (aE _ b0 t0 _ rfl)).run w (hs.handed am an)).mono ?_;rintro e w' ⟨v,F',Lo,rfl,bt,aw,Mo,cc,l1,l2,l3,l4,rfl,rfl⟩
  match Lo,l1 with
  | [p0,p1,p2],_ =>
   obtain⟨d0,i0⟩:=l4 0 _ _ _ rfl;obtain⟨d1,i1⟩:=l4 1 _ _ _ rfl;obtain⟨d2,i2⟩:=l4 2 _ _ _ rfl;injection i0 with i0
   injection i1 with i1
   injection i2 with i2
   subst i0 i1 i2;obtain⟨ci,bm⟩:=gF hs am an an (fun k hk=>.inl hk) bt aw rfl;have j0:=l2 1000;have j1:=l2 1001;have j2:=l2 1002;have j0:cN F' (inp [.box b0 t0 d0,.box l 0 d1,.box p 0 d2]) (.box 109 [.opq k,.mpr 1001,.mpr 1002]) (.box b0 t0 d0):=j0;have j1:cN F' (inp [.box b0 t0 d0,.box l 0 d1,.box p 0 d2]) (.map D) (.box l 0 d1):=j1;have j2:cN F' (inp [.box b0 t0 d0,.box l 0 d1,.box p 0 d2]) (.map O) (.box p 0 d2):=j2;obtain⟨cy,ab⟩:=j0;simp only[aB,Rel] at ab;obtain⟨w0,_,rfl,cb,m1,_,rfl,⟨y1,z1,m,rfl⟩,m2,_,rfl,⟨y2,z2,j,rfl⟩,rfl⟩:=ab;have m:some (Own.box l 0 d1)=some (.box y1 0 z1):=m;have j:some (Own.box p 0 d2)=some (.box y2 0 z2):=j;injection m with m
   injection m with e21 _ e23
   injection j with j
   injection j with e31 _ e33
   subst e21 e23 e31 e33;have bs:=Gf (ba F') cb;subst bs;refine⟨v,F',[.box b0 t0 [.slice a d c,.map (some l),.map (some p)],.row (.slice a d c) t sz d x1,.box l 0 d1,.box p 0 d2],rfl,ci,bm,⟨[.box 109 [.rw 1001,.mpr 1002,.mpr 1003],.row t sz els,.map D,.map O],.bool b,rfl,Ti ⟨bc,?_⟩ ⟨rfl,rfl,hn,⟨hm,hv⟩,bd.mono aw.le⟩ ⟨rfl,j1.2⟩ ⟨rfl,j2.2⟩,?_,?_,rfl,rfl⟩,rfl,?_⟩
   ·simp only[aB,Rel];exact⟨_,_,rfl,⟨a,c,_,_,d,_,rfl,rfl⟩,_,_,rfl,⟨_,_,rfl,rfl⟩,_,_,rfl,⟨_,_,rfl,rfl⟩,rfl⟩
   ·rw[Rel] at l3 ⊢;exact l3
   ·intro i g ty cs hi
    match i,hi with
    | 0,hi=>injection hi with hi;injection hi with h1 h2 h3;subst h1 h2;exact⟨_,rfl⟩
    | 1,hi=>cases hi
    | 2,hi=>injection hi with hi;injection hi with h1 h2 h3;subst h1 h2;exact⟨_,rfl⟩
    | 3,hi=>injection hi with hi;injection hi with h1 h2 h3;subst h1 h2;exact⟨_,rfl⟩
    | i+4,hi=>cases hi
   ·intro i o hi
    match i,hi with
    | 0,hi=>injection hi with hi;subst hi;exact⟨_,rfl,rfl,rfl⟩
    | 1,hi=>injection hi with hi;subst hi;exact⟨_,rfl,rfl,rfl,rfl⟩
    | 2,hi=>injection hi with hi;subst hi;exact⟨_,rfl,rfl,rfl⟩
    | 3,hi=>injection hi with hi;subst hi;exact⟨_,rfl,rfl,rfl⟩
    | i+4,hi=>cases hi
def wO:Code->Code
 | .seq a _=>a
 | _=>.skip
def gk:Code->Code
 | .seq _ a=>a
 | _=>.skip
def XB:Code->Code
 | .block _ a=>a
 | .loop a=>a
 | _=>.skip
def cd1:Code->Code
 | .cond _ a _=>a
 | _=>.skip
noncomputable def HI:Code:=Tryz.f71.body.getD .skip
noncomputable def k0:Code:=wO HI
noncomputable def k1:Code:=wO (gk HI)
noncomputable def k8:Code:=wO (gk (gk HI))
noncomputable def Wj:Code:=XB (XB (gk (gk (gk HI))))
noncomputable def k9:Code:=wO Wj
noncomputable def kc:Code:=wO (gk Wj)
noncomputable def XC:Code:=XB (wO (gk (gk Wj)))
noncomputable def k10:Code:=wO XC
noncomputable def k11:Code:=wO (gk XC)
noncomputable def k12:Code:=cd1 (gk (gk XC))
noncomputable def k13:Code:=gk (gk (gk Wj))
theorem Ev:Tryz.f71.body=some (k0.seq (k1.seq (k8.seq (.block 2 (.loop (k9.seq (kc.seq ((Code.block 3 (k10.seq (k11.seq (.cond (.tmp 67) k12 .skip)))).seq k13)))))))):=by kernel_rfl
def Qc:cI:={n:=72,own:=[],frz:=[],ord:=[],pan:=[(6,2),(11,3)]}
def z0:au:=(.reg [.op (some 8) (.mov (.t 0)) none,
  .op (some 9) (.mov (.t 0)) none,
  .op (some 10) (.mkmap) none,
  .op (some 11) (.mkmap) none,
  .op (some 12) (.nilck (.t 8)) none,
  .op (some 13) (.fieldA 1 (.t 12)) none,
  .op none (.store 1 (.t 13) (.t 10)) none,
  .op (some 14) (.nilck (.t 9)) none,
  .op (some 15) (.fieldA 2 (.t 14)) none,
  .op none (.store 1 (.t 15) (.t 11)) none])
theorem XD:low Tryz.prog Qc k0=some z0:=by kernel_rfl
def z1:au:=(.seq (.reg [.op (some 16) (.mov (.t 0)) none,
  .op (some 17) (.nilck (.t 16)) none,
  .op (some 18) (.fieldA 0 (.t 17)) none,
  .op (some 19) (.load false 1 (.t 18)) none,
  .op (some 20) (.len (.t 19)) none,
  .op (some 21) (.mov (.c (.int .i64 0))) none])
 (.block 0
 (.loop [22,23,24,5,25,26,27,28,29,30,31,32,33,6,34,35,36,37,38,39,40,41,42,43,44,45,46,47,48,49,50,51,52,53,54,21]
  (.seq (.reg [.op (some 22) (.bin .lss (.t 21) (.t 20)) none])
   (.seq (.cond (.t 22)
   .skip
   (.exit 0))
   (.seq (.block 1
   (.seq (.reg [.op (some 23) (.idxA 3 (.t 19) (.t 21)) none,
     .op (some 24) (.load true 3 (.t 23)) none,
     .op (some 5) (.alloc 33 [(.int .i64 0),(.int .i64 0),(.slice none 0 0)]) none,
     .op none (.store 3 (.t 5) (.t 24)) none])
    (.seq (.reg [.op (some 25) (.fieldA 1 (.t 5)) none,
     .op (some 26) (.load false 1 (.t 25)) none,
     .op (some 27) (.bin .eql (.t 26) (.c (.int .i64 0))) none,
     .op (some 28) (.mov (.t 27)) none,
     .op (some 29) (.fieldA 2 (.t 5)) (some (28,true)),
     .op (some 30) (.load false 1 (.t 29)) (some (28,true)),
     .op (some 31) (.len (.t 30)) (some (28,true)),
     .op (some 32) (.bin .eql (.t 31) (.c (.int .i64 0))) (some (28,true)),
     .op (some 33) (.pick (.t 28) (.t 32) (.c (.bool false))) none,
     .op (some 6) (.mov (.t 33)) none])
    (.seq (.reg [.op (some 34) (.fieldA 0 (.t 5)) none,
     .op (some 35) (.load false 1 (.t 34)) none,
     .op (some 36) (.bin .eql (.t 35) (.c (.int .i64 0))) none,
     .op (some 37) (.mov (.t 36)) none,
     .op (some 38) (.mov (.t 6)) (some (37,true)),
     .op (some 39) (.un .not (.t 38)) (some (37,true)),
     .op (some 40) (.pick (.t 37) (.t 39) (.c (.bool false))) none,
     .op (some 41) (.mov (.t 40)) none,
     .op (some 42) (.fieldA 0 (.t 5)) (some (41,false)),
     .op (some 43) (.load false 1 (.t 42)) (some (41,false)),
     .op (some 44) (.bin .neq (.t 43) (.c (.int .i64 0))) (some (41,false)),
     .op (some 45) (.mov (.t 44)) (some (41,false)),
     .op (some 46) (.mov (.t 0)) (some (45,true)),
     .op (some 47) (.load true 3 (.t 5)) (some (45,true)),
     .op (some 48) (.call 72 [(.t 46),(.t 47)]) (some (45,true)),
     .op (some 49) (.un .not (.t 48)) (some (45,true)),
     .op (some 50) (.pick (.t 45) (.t 49) (.c (.bool false))) (some (41,false)),
     .op (some 51) (.pick (.t 41) (.c (.bool true)) (.t 50)) none])
    (.cond (.t 51)
    (.reg [.op (some 52) (.build [(.int .i64 0)] [(0,1,(.c (.int .i64 1)))]) none,
      .op (some 53) (.mkif 113 (.t 52)) none,
      .pc none (.pan (.t 53)) none])
    .skip)))))
   (.reg [.op (some 54) (.bin .add (.t 21) (.c (.int .i64 1))) none,
    .op (some 21) (.mov (.t 54)) none])))))))
theorem XE:low Tryz.prog Qc k1=some z1:=by kernel_rfl
def z8:au:=(.reg [.op (some 55) (.mov (.t 0)) none,
  .op (some 56) (.nilck (.t 55)) none,
  .op (some 57) (.fieldA 0 (.t 56)) none,
  .op (some 58) (.load false 1 (.t 57)) none,
  .op (some 59) (.len (.t 58)) none,
  .op (some 60) (.mov (.c (.int .i64 0))) none])
theorem XF:low Tryz.prog Qc k8=some z8:=by kernel_rfl
def z9:au:=(.reg [.op (some 61) (.bin .lss (.t 60) (.t 59)) none])
theorem XG:low Tryz.prog Qc k9=some z9:=by kernel_rfl
def zc:au:=(.cond (.t 61)
 .skip
 (.exit 2))
theorem XH:low Tryz.prog Qc kc=some zc:=by kernel_rfl
def XI:au:=(.reg [.op (some 62) (.mov (.t 60)) none,
  .op (some 7) (.mov (.t 62)) none])
theorem U8:low Tryz.prog Qc k10=some XI:=by kernel_rfl
def Wk:au:=(.reg [.op (some 63) (.mov (.t 0)) none,
  .op (some 64) (.mov (.t 7)) none,
  .op (some 65) (.build [(.int .i64 0),(.int .i64 0),(.slice none 0 0)] [(0,1,(.c (.int .i64 9))),(1,1,(.t 64))]) none,
  .pc (some 66) (.call 74 [(.t 63),(.t 65)]) none,
  .op (some 67) (.bin .gtr (.t 66) (.c (.int .i64 8))) none])
theorem U9:low Tryz.prog Qc k11=some Wk:=by kernel_rfl
def YS:au:=(.reg [.op (some 71) (.bin .add (.t 60) (.c (.int .i64 1))) none,
  .op (some 60) (.mov (.t 71)) none])
theorem Va:low Tryz.prog Qc k13=some YS:=by kernel_rfl
section
variable {L:TL}{ρ:aG}
theorem RH (ks:List Nat) {f:Nat}{args a:List C}{K:TL->aG->C->Prop}{x:C}{Lin Lin' Lo:List TO}(h:iw P f a Lin' (aR Lo x)) (n:L.sub ks=some Lin) (e:T.aU ks=true)
  (l:(args.map fun c=>c.aaj.ren (bh ks 1000))=a) (d:Lin.map (TO.aad (C.ren (bh ks 1000)))=Lin') (b:ks.length=Lo.length)
  (k:K ((L.aaf ks).puts ks (Lo.map (TO.aad (C.ren (aN ks))))) ρ (x.ren (aN ks)).slt):kX P f args L ρ K:=by
 subst l d;exact .inpl ks Lin _ n e h fun v Mo ⟨j,m⟩ _ _=>by subst j m;exact⟨b,k⟩
end
def HS (M0:TL) (e:Int) (len i:Nat):TK:=fun M τ=>M=M0/\τ 0=.own 1000 0/\τ 1=IC e/\τ 59=IC len/\τ 60=IC i
theorem Me {n:Int}{t:Ty}(h:t.kind=0):gh n t=(decide (t.id=0)&&decide (t.args.length=0)):=fo h
theorem Ew {n:Int}{t:Ty}(h:¬t.kind=0):gh n t=ins n t:=o5 h
def Vb (s:List Ty) (d:DM) (o:OM):TL:=[(10,.map (j6 IC d)),(11,.map (j6 C.bool o)),(1000,.box 109 [.rw 1001,.mpr 10,.mpr 11]),(1001,.row 33 3 (s.map aD))]
theorem Vc (s:List Ty) (e:Int) (PS:Value->Prop) (r:s.all (gh s.length)=false->PS (dh 1)) (l:s.length<=9223372036854775807) :
  evalTC P ⟨PS,[],none⟩ (.seq z0 (.seq z1 z8)) (fun _ _ _=>False) (fun _ _=>False) (fun M τ=>s.all (gh s.length)=true/\HS (Vb s [] []) e s.length 0 M τ) (cO (pX s)) (kG 0 [.own 1000 0,IC e]):=by
 have o:∀t:Ty,iw P 72 [.own 1000 0,aP t] [.box 109 [.rw 1001,.mpr 1002,.mpr 1003],.row 33 3 (s.map aD),.map [],.map []] (aR [.box 109 [.rw 1001,.mpr 1002,.mpr 1003],.row 33 3 (s.map aD),.map [],.map []] (.bool (ins s.length t))):=fun t=>Qb fun k v=>UQ k s.length [] [] (by rw[v,xo]) l t;have d:(s.map aD).length=s.length:=xo _;have p:=fun t=>@Me s.length t;have m:=fun t=>@Ew s.length t;generalize gh (s.length:Int)=f at r p m ⊢;refine bN s.length 21 [19] () (fun _=>[.rw 1001]) (fun _=>[(10,.map []),(11,.map []),(1000,.box 109 [.rw 1001,.mpr 10,.mpr 11]),(1001,.row 33 3 (s.map aD))]) (fun k _=>(s.drop k).all f=s.all f) rfl (ai rfl) ⟨ai rfl,trivial⟩ ⟨.inl ⟨_,rfl,.inl ⟨rfl,rfl⟩⟩,.inl ⟨_,rfl,.inl ⟨rfl,rfl⟩⟩,.inl ⟨_,rfl,.inl ⟨rfl,rfl⟩⟩,.inl ⟨_,rfl,.inl ⟨rfl,rfl⟩⟩,trivial⟩ (fun _=>rfl) (fun _=>rfl) ?_;rintro k _ v b _ _ _;refine ah (fun a=>?_) (fun j=>?_)
 ·have a:k<s.length:=by rw[d] at a;omega
  refine bf a fun x y w h=>?_;have n:(x.args.map aD).length=x.args.length:=xo _;have c:f x=false->PS (dh 1):=fun q=>r (LF h b q).symm;refine zV.mk (by omega) (by rw[d];omega) ?_;refine S6 y ?_;refine ah (fun h1=>ah (fun h2=>?_) (fun h2=>?_)) (fun h1=>ah (fun h2=>?_) (fun h2=>?_))
  ·have u:f x=decide (x.args.length=0):=by rw[p x h2,aaP h1,aaW]
   refine aV (fun h3=>?_) (fun h3=>?_)
   ·exact vq rfl (c (by rw[u];exact aaS (by rw[n] at h3;omega)))
   refine aV (fun q=>vv h2 q) (fun _=>?_);refine Fit.aae (by omega) (by omega) ?_;exact⟨(k+1,()),⟨a,ur h b (by rw[u];exact aaP (by rw[n] at h3;omega))⟩,⟨bw,ai rfl,trivial⟩,⟨.inl ⟨_,rfl,.inl ⟨rfl,rfl⟩⟩,.inl ⟨_,rfl,.inl ⟨rfl,rfl⟩⟩,.inl ⟨_,rfl,.inl ⟨rfl,rfl⟩⟩,.inl ⟨_,rfl,.inl ⟨rfl,rfl⟩⟩,trivial⟩,bB a⟩
  ·refine aV (fun _=>?_) (fun q=>vv q h2);refine RH [1000,1001,10,11] (o x) rfl rfl rfl rfl rfl ?_;refine aq (fun h4=>?_) (fun h4=>?_)
   ·exact vq rfl (c (by rw[m x h2];simpa using h4))
   refine Fit.aae (by omega) (by omega) ?_;exact⟨(k+1,()),⟨a,ur h b (by rw[m x h2];simpa using h4)⟩,⟨bw,ai rfl,trivial⟩,⟨.inl ⟨_,rfl,.inl ⟨rfl,rfl⟩⟩,.inl ⟨_,rfl,.inl ⟨rfl,rfl⟩⟩,.inl ⟨_,rfl,.inl ⟨rfl,rfl⟩⟩,.inl ⟨_,rfl,.inl ⟨rfl,rfl⟩⟩,trivial⟩,bB a⟩
  ·exact vq rfl (c (by rw[p x h2,aaS h1,aaY]))
  ·refine aV (fun _=>?_) (fun q=>vv q h2);refine RH [1000,1001,10,11] (o x) rfl rfl rfl rfl rfl ?_;refine aq (fun h4=>?_) (fun h4=>?_)
   ·exact vq rfl (c (by rw[m x h2];simpa using h4))
   refine Fit.aae (by omega) (by omega) ?_;exact⟨(k+1,()),⟨a,ur h b (by rw[m x h2];simpa using h4)⟩,⟨bw,ai rfl,trivial⟩,⟨.inl ⟨_,rfl,.inl ⟨rfl,rfl⟩⟩,.inl ⟨_,rfl,.inl ⟨rfl,rfl⟩⟩,.inl ⟨_,rfl,.inl ⟨rfl,rfl⟩⟩,.inl ⟨_,rfl,.inl ⟨rfl,rfl⟩⟩,trivial⟩,bB a⟩
 ·have j:¬k<s.length:=by rw[d] at j;omega
  exact⟨(Hv j b).symm,rfl,rfl,rfl,vz IC (by rw[d]),rfl⟩
theorem lZ {a b:Nat}(h:¬a=b):Nat.beq a b=false:=by
 cases h2:Nat.beq a b with
 | true=>exact vv (aaR h2) h
 | false=>rfl
def MS (G:Nat->Option (Nat×TypeId)) (F0:aA) (Li:List Own) (w0:World) (K:TK) (a:Act) (w:World):Prop :=
 ∃F L ρ M τ,St F L w/\aC L ρ a/\TS G F L ρ M τ/\a.tmps.size=72/\Step F0 (inp Li) w0 F L w/\K M τ
section
variable {G:Nat->Option (Nat×TypeId)}{F0:aA}{Li:List Own}{w0:World}
theorem MS.piece {c:Code}{x:au}(hl:low Tryz.prog Qc c=some x) (t:gA x=[]) {PS:qa}{E:Nat->TK}{N K:TK}{a:Act}{w:World}(h:MS G F0 Li w0 K a w)
  (hK:∀M τ,K M τ->evalTC P PS x E (fun _ _=>False) N M τ) {Q:Exit->Act->World->Prop}
  (hN:∀a' w',a'.defers=a.defers->MS G F0 Li w0 N a' w'->Q .normal a' w')
  (hE:∀j a' w',a'.defers=a.defers->MS G F0 Li w0 (E j) a' w'->Q (.exit j) a' w')
  (hP:∀v n a' w',sj v n->a'.defers=a.defers->PS.ps v->(∃F' L',St F' L' w'/\Step F0 (inp Li) w0 F' L' w'/\Kp G L')->Q (.panic n) a' w'):c.wp P Q a w:=by
 obtain⟨F,L,ρ,M,τ,y,g2,g3,z,u,p⟩:=h;refine wp_mono (fR c hl (fun k p=>by rw[t] at p;cases p) y g2 g3 z (hK M τ p)) ?_;intro e a' w' d;cases e with
 | normal =>
  obtain⟨F',L',ρ',k1,f,o,m,q,k6,M',b,s,k8⟩:=d;exact hN a' w' m ⟨F',L',ρ',M',b,k1,f,s,o,u.trans q,k8⟩
 | exit j =>
  obtain⟨F',L',ρ',k1,f,o,m,q,k6,M',b,s,k8⟩:=d;exact hE j a' w' m ⟨F',L',ρ',M',b,k1,f,s,o,u.trans q,k8⟩
 | ret=>obtain⟨F',L',ρ',_,_,_,_,_,_,M',b,_,h⟩:=d;exact h.elim
 | goto l=>exact d.elim
 | panic n =>
  obtain⟨v,r,F',L',k1,f,o,m,q,kp,hp,_⟩:=d;exact hP v n a' w' r m hp ⟨F',L',k1,u.trans f,kp⟩
 | outgrown=>exact d.elim
def hE (e:Int) (len i:Nat):aG:=bq (some 0) (.own 1000 0) (bq (some 1) (IC e) (bq (some 59) (IC len) (bq (some 60) (IC i) fun _=>.any)))
theorem Qd {F:aA}{L:Loc}{ρ:Env}{τ:aG}{e:Int}{len i:Nat}(h:∀j,aL F L (τ j) (ρ j)) (h0:τ 0=.own 1000 0) (h1:τ 1=IC e) (a:τ 59=IC len) (b:τ 60=IC i):∀j,aL F L (hE e len i j) (ρ j):=by
 intro j
 by_cases k:j=0
 ·subst k;have:=h 0;rw[h0] at this;exact this
 by_cases d:j=1
 ·subst d;have:=h 1;rw[h1] at this;exact this
 by_cases f:j=59
 ·subst f;have:=h 59;rw[a] at this;exact this
 by_cases c:j=60
 ·subst c;have:=h 60;rw[b] at this;exact this
 have o:Nat.beq j 0=false:=lZ k;have m:Nat.beq j 1=false:=lZ d;have l:Nat.beq j 59=false:=lZ f;have n:Nat.beq j 60=false:=lZ c;simp only[hE,bq,o,m,l,n];trivial
theorem MS.weak {K:TK}{a:Act}{w:World}{M0:TL}{e:Int}{len i:Nat}(h:MS G F0 Li w0 K a w) (f:∀M τ,K M τ->HS M0 e len i M τ):MS G F0 Li w0 (fun M τ=>M=M0/\τ=hE e len i) a w:=by
 obtain⟨F,L,ρ,M,τ,c,k,b,d,j,l⟩:=h;obtain⟨h1,h2,h3,h4,h5⟩:=f M τ l;exact⟨F,L,ρ,M,hE e len i,c,k,⟨b.tl,Qd b.env h2 h3 h4 h5,b.kp,b.glob⟩,d,j,h1,rfl⟩
theorem MS.mono {K K':TK}{a:Act}{w:World}(h:MS G F0 Li w0 K a w) (d:∀M τ,K M τ->K' M τ):MS G F0 Li w0 K' a w:=by
 obtain⟨F,L,ρ,M,τ,c,k,b,e,j,f⟩:=h;exact⟨F,L,ρ,M,τ,c,k,b,e,j,d M τ f⟩
theorem MS.int {K:TK}{a:Act}{w:World}{j:Nat}{x:Int}(h:MS G F0 Li w0 K a w) (c:∀M τ,K M τ->τ j=IC x):a.tmps.getD j undef=.int .i64 x:=by
 obtain⟨F,L,ρ,M,τ,f,d,b,k,l,e⟩:=h;have:=b.env j;rw[c M τ e] at this;simp only[aL,Rel] at this;obtain⟨v,h1,rfl,_⟩:=this;rw[d.eq j,h1];rfl
theorem MS.bool {K:TK}{a:Act}{w:World}{j:Nat}{x:Bool}(h:MS G F0 Li w0 K a w) (c:∀M τ,K M τ->τ j=.bool x):a.tmps.getD j undef=.bool x:=by
 obtain⟨F,L,ρ,M,τ,f,d,b,k,l,e⟩:=h;have:=b.env j;rw[c M τ e] at this;simp only[aL,Rel] at this;obtain⟨v,h1,rfl⟩:=this;rw[d.eq j,h1];rfl
theorem MS.wr {M0:TL}{e:Int}{len i:Nat}{a:Act}{w:World}{d:Nat}{v:Value}(h:MS G F0 Li w0 (fun M τ=>M=M0/\τ=hE e len i) a w) (hd:d<72) (h0:d≠0) (h1:d≠1) (h2:d≠59) (h3:d≠60) :
  MS G F0 Li w0 (fun M τ=>M=M0/\τ=hE e len i) (a.put (some d) v) w:=by
 obtain⟨F,L,ρ,M,τ,l,s,c,o,r,rfl,rfl⟩:=h;refine⟨F,L,Fr.put (some d) (.v v) ρ,M,_,l,s.put (d:=some d) (x:=.v v) (fun k hk=>by injection hk with hk;subst hk;omega) rfl cB eZ (fun k g ty cs e=>⟨cs,e⟩),⟨c.tl,fun j=>?_,c.kp,c.glob⟩,by rw[jK];exact o,r,rfl,rfl⟩
 by_cases f:j=d
 ·subst f;have q:Nat.beq j 0=false:=lZ h0;have n:Nat.beq j 1=false:=lZ h1;have m:Nat.beq j 59=false:=lZ h2;have p:Nat.beq j 60=false:=lZ h3;simp only[hE,bq,q,n,m,p];trivial
 ·have:Fr.put (some d) (.v v) ρ j=ρ j:=by
   have b:Nat.beq j d=false:=lZ f;simp only[Fr.put,b]
  rw[this];exact c.env j
theorem MS.defers {K:TK}{a:Act}{w:World}{ds:List Deferred}(h:MS G F0 Li w0 K a w):MS G F0 Li w0 K {a with defers:=ds} w:=by
 obtain⟨F,L,ρ,M,τ,d,b,c,e,j,f⟩:=h;exact⟨F,L,ρ,M,τ,d,⟨b.eq,b.own,b.el⟩,c,e,j,f⟩
theorem Tj:k12=.region 12 #[{dst:=some 68,op:=.move (.tmp 1),type:=43,pos:="unify.go:115",after:=#[],guard:=none},
  {dst:=some 69,op:=.build 113 #[(0,.tmp 68)],type:=113,pos:="unify.go:115",after:=#[{on:=0,ground:=Ground.data}],guard:=none},
  {dst:=some 70,op:=.makeInterface 113 (.tmp 69),type:=20,pos:="unify.go:115",after:=#[{on:=1,ground:=Ground.data}],guard:=none},
  {dst:=none,op:=.defer {callee:=.builtin .panic,args:=#[.tmp 70],argTypes:=#[20]},type:=0,pos:="unify.go:115",after:=#[{on:=2,ground:=Ground.data}],guard:=none}] false:=by kernel_rfl
theorem XJ {a:Act}{w:World}{e:Int}{Q:Exit->Act->World->Prop}(d:a.tmps.size=72) (h1:a.tmps.getD 1 undef=.int .i64 e)
  (h:∀x y z,Q .normal {(((a.put (some 68) x).put (some 69) y).put (some 70) z) with defers:=sW (dh e)::a.defers} w):k12.wp P Q a w:=by
 rw[Tj];apply wp_region;have b:a.tmps[1]?.getD undef=.int .i64 e:=by rw[<-aa9];exact h1
 have c:∀q:1<a.tmps.size,a.tmps[1]'q=.int .i64 e:=fun q=>by rw[Array.getElem?_eq_getElem q] at b;exact b
 simp[wpOps,go_sem,Region.wanted,d,b,c,Array.getElem?_setIfInBounds];exact .inl (.inl (.inl (.inl (h (.int .i64 e) (.agg #[.int .i64 e]) (.iface 113 (.agg #[.int .i64 e]))))))
end
theorem zw {s:List Ty}{n:Nat}:∀{N:Nat}{y:Option (Bool×DM×OM)},dJ s n N=some y->∀i≤N,∃x,dJ s n i=some x
 | 0,y,h,i,hi=>⟨y,by rw[show i=0 by omega];exact h⟩
 | N+1,y,h,i,hi=>by
  by_cases e:i=N+1
  ·exact⟨y,by rw[e];exact h⟩
  ·rw[dJ] at h;cases h1:dJ s n N with
   | none=>simp only[h1] at h;cases h
   | some x=>exact zw h1 i (by omega)
theorem zx {s:List Ty}{n i:Nat}(h:dJ s n i=some none):∀k,dJ s n (i+k)=some none
 | 0=>h
 | k+1=>by rw[<-Nat.add_assoc,dJ,zx h k]
theorem Gg {s:List Ty}{n i:Nat}{b:Bool}{d:DM}{o:OM}{y:Option (Bool×DM×OM)}(h:dJ s n i=some (some (b,d,o))) (a:dJ s n (i+1)=some y) :
  ∃c,bH s n (vr i) d o=some c/\(c=none->y=none)/\∀k e o',c=some (k,e,o')->y=some (b||decide (k>8),e,o'):=by
 rw[dJ] at a;simp only[h] at a;cases h2:bH s n (vr i) d o with
 | none=>simp only[h2] at a;cases a
 | some c =>
  refine⟨c,rfl,?_,?_⟩
  ·rintro rfl;simp only[h2] at a;injection a with a;exact a.symm
  ·rintro k e o' rfl;simp only[h2] at a;injection a with a;exact a.symm
theorem Ve (PS:Value->Prop) (M0:TL) (e:Int) (len i:Nat):evalTC P ⟨PS,[],none⟩ (.seq z9 zc) (fun j M τ=>j=2/\¬i<len/\HS M0 e len i M τ) (fun _ _=>False) (fun M τ=>i<len/\HS M0 e len i M τ) M0 (hE e len i):=by
 refine ah (fun h=>?_) (fun h=>?_)
 ·exact⟨by omega,rfl,rfl,rfl,rfl,rfl⟩
 ·exact⟨rfl,by omega,rfl,rfl,rfl,rfl,rfl⟩
theorem Vf (PS:Value->Prop) (M0:TL) (e:Int) (len i:Nat) (h:i+1<=9223372036854775807):evalTC P ⟨PS,[],none⟩ YS (fun _ _ _=>False) (fun _ _=>False) (fun M τ=>HS M0 e len (i+1) M τ) M0 (hE e len i):=by
 refine Fit.aae (by omega) (by omega) ?_;exact⟨rfl,rfl,rfl,rfl,rfl⟩
theorem XK (s:List Ty) (PS:Value->Prop) (e:Int) (len i:Nat) (d:DM) (o:OM) (b:Option (Int×DM×OM)) (hd:P4 s (vr i) d o (LW s b) (PD b)) (c:b=none->PS (dh 1)) :
  evalTC P ⟨PS,[],none⟩ (.seq XI Wk) (fun _ _ _=>False) (fun _ _=>False) (fun M τ=>∃k a o',b=some (k,a,o')/\HS (Vb s a o') e len i M τ/\τ 67=.bool (decide (k>8))) (Vb s d o) (hE e len i):=by
 refine CJ [1000,1001,10,11] hd rfl rfl rfl rfl rfl (fun v q=>q.2▸c q.1) fun k a o' f _=>?_;exact⟨k,a,o',f,⟨rfl,rfl,rfl,rfl,rfl⟩,rfl⟩
theorem Vg (s:List Ty) (d:DM) (o:OM) (R:List TO->C->Prop) (h:R (JH s d o) (.tup [])):eS (pX s) (Vb s d o) (.tup []) R :=
 vG [1000,1001,10,11] rfl rfl rfl rfl h
theorem Mf {Lin:List TO}{Li:List Own}{F:aA}{args:List C}{d:List Value}{w:World}(m:Nat) (x:Li.length=Lin.length) (o:bT F (inp Li) (cO Lin)) (r:aB F (inp Li) args d) (u:St F (inp Li) w) :
  ∃(G:Nat->Option (Nat×TypeId)) (a:Env),aC (inp Li) a {tmps:=d.toArray++Array.replicate m undef,defers:=[]}/\TS G F (inp Li) a (cO Lin) (kG 0 args)/\(∀k g t cs,(inp Li).get k=some (.box g t cs)->G k=some (g,t)):=by
 have l:=r.len;have key:∀j,∃sv,aL F (inp Li) (kG 0 args j) sv/\conc (inp Li) sv=(d.toArray++Array.replicate m undef).getD j undef/\(∀k off,sv=.own k off->∃g t cs,(inp Li).get k=some (.box g t cs))/\(∀f i,sv=.el f i->f≠none):=by
  intro j;rw[oD];simp only[abd,abm,Nat.sub_zero,aa9];cases e:args[j]? with
  | some c =>
   have b:j<d.length:=by rw[l];exact(aaT.1 e).1
   obtain⟨s1,s2,s3,s⟩:=rD (r.at e (aaQ b));refine⟨_,s1,?_,s3,fun f i e=>vv e (s f i)⟩;rw[s2,Array.getElem?_append_left (by simpa using b)];simp[b]
  | none =>
   have q:d.length<=j:=by rw[l];exact abC.1 e
   refine⟨.v undef,lz,?_,fun _ _ e=>(by cases e),fun _ _ e=>(by cases e)⟩;rw[Array.getElem?_append_right (by simpa using q)];simp only[Array.getElem?_replicate,conc];split<;>rfl
 let a:Env:=fun j=>(key j).choose
 have he:aC (inp Li) a {tmps:=d.toArray++Array.replicate m undef,defers:=[]} :=
  ⟨fun t=>(key t).choose_spec.2.1.symm,fun t k off e=>(key t).choose_spec.2.2.1 k off e,fun t f j e=>(key t).choose_spec.2.2.2 f j e⟩
 let G:Nat->Option (Nat×TypeId):=fun k=>match(inp Li).get k with | some (.box g t _)=>some (g,t) | _=>none
 have p:∀k g t cs,(inp Li).get k=some (.box g t cs)->G k=some (g,t):=fun k g t cs e=>by simp only[G,e]
 have n:Kp G (inp Li):=by
  intro k g t e;simp only[G] at e;split at e
  ·rename_i y z cs h;injection e with e
   injection e with e1 e2
   subst e1 e2;exact⟨cs,h⟩
  ·cases e
 exact⟨G,a,he,⟨o,fun j=>(key j).choose_spec.1,n,u.glob⟩,p⟩
structure FV (s:List Ty) (Lin:List TO) (Mh:DM->OM->TL) (Sd:DM->OM->List TO):Prop where
 len:∀(F:aA) (L:Loc),bT F L (cO Lin)->s.length<=9223372036854775807
 pre:s.length<=9223372036854775807->∀(e:Int) (PS:Value->Prop),(s.all (gh s.length)=false->PS (dh 1)) ->
  evalTC P ⟨PS,[],none⟩ (.seq z0 (.seq z1 z8)) (fun _ _ _=>False) (fun _ _=>False) (fun M τ=>s.all (gh s.length)=true/\HS (Mh [] []) e s.length 0 M τ) (cO Lin) (kG 0 [.own 1000 0,IC e])
 it:∀(n:Nat) (PS:Value->Prop) (e:Int) (i:Nat) (d:DM) (o:OM) (r1:Option (Int×DM×OM)),bH s n (vr i) d o=some r1->(r1=none->PS (dh 1)) ->
  evalTC P ⟨PS,[],none⟩ (.seq XI Wk) (fun _ _ _=>False) (fun _ _=>False) (fun M τ=>∃k d' o',r1=some (k,d',o')/\HS (Mh d' o') e s.length i M τ/\τ 67=.bool (decide (k>8))) (Mh d o) (hE e s.length i)
 ret:∀(d:DM) (o:OM) (R:List TO->C->Prop),R (Sd d o) (.tup [])->eS Lin (Mh d o) (.tup []) R
theorem Tk {v:Value}{b:List PanicEntry}(h:sj v b):∀e∈b,e.goexit=false:=by
 obtain⟨a,rfl,h⟩:=h;intro e he;rcases aaX.1 he with rfl | he
 ·rfl
 ·exact h e he
theorem Gh {s:List Ty}{n:Nat}{r:Option (DM×OM)}(a:bK s n=some r) (b:s.all (gh s.length)=true) :
  ∃y,dJ s n s.length=some y/\(y=none->r=none)/\(∀d o,y=some (true,d,o)->r=none)/\∀d o,y=some (false,d,o)->r=some (d,o):=by
 unfold bK at a;rw[fo b] at a;cases hf:dJ s n s.length with
 | none=>simp only[hf] at a;cases a
 | some y =>
  refine⟨y,rfl,?_,?_,?_⟩
  ·rintro rfl;simp only[hf] at a;injection a with a;exact a.symm
  ·rintro d o rfl;simp only[hf,abm] at a;injection a with a;exact a.symm
  ·rintro d o rfl;simp only[hf] at a;rw[o5 (by decide)] at a;injection a with a;exact a.symm
theorem Jr {s:List Ty}{n:Nat}{r:Option (DM×OM)}(a:bK s n=some r) (b:s.all (gh s.length)=false):r=none:=by
 unfold bK at a;rw[o5 (by rw[b];exact abf)] at a;injection a with a;exact a.symm
theorem Gi {s:List Ty}{Lin:List TO}{Mh:DM->OM->TL}{Sd:DM->OM->List TO}(V:FV s Lin Mh Sd) (e:Int) (n:Nat) (r:Option (DM×OM)) (hr:bK s n=some r) :
  CallsTX P 71 [.own 1000 0,IC e] Lin (fun Mo v=>∃d o,r=some (d,o)/\Mo=Sd d o/\v=.tup []) (PF e r):=by
 refine⟨fun F Li vs hl bb ha=>⟨⟨Tryz.f71,Tryz.func71,by rw[Ev];rfl,by kernel_rfl⟩,gQ.aap,fun w hs=>?_⟩⟩;have bl:=V.len F _ bb;have cl:Tryz.f71.ntmps=72:=by kernel_rfl
 have cp:vs.length=2:=by have:=ha.len;simpa using this
 obtain⟨G,ce,he,ht,bo⟩:=Mf (72-vs.toArray.size) hl bb ha hs;refine wN (t:=113) (x:=.agg #[.int .i64 e]) Tryz.func71 Ev ?_;rw[cl];generalize hR:(fun(en:Ending) (w':World)=>(∃v F' Lo,en=.returned v/\St F' (inp Lo) w'/\Step F (inp Li) w F' (inp Lo) w'/\gQ Li (fun Mo v=>∃d o,r=some (d,o)/\Mo=Sd d o/\v=.tup []) F' Lo v) \/
  ∃v f F' Lo,en=.panicked f/\sj v f/\St F' (inp Lo) w'/\Step F (inp Li) w F' (inp Lo) w'/\Lo.length=Li.length/\(∀(i:Nat) g t cs,Li[i]?=some (.box g t cs)->∃cs',Lo[i]?=some (.box g t cs'))/\PF e r v)=RR
 have Rp:∀v f w',sj v f->PF e r v->(∃F' L',St F' L' w'/\Step F (inp Li) w F' L' w'/\Kp G L')->RR (.panicked f) w':=by
  rintro v f w' l p ⟨F',L',g1,g2,kp⟩;obtain⟨Lo,q1,q2,q3,q4⟩:=sN g1 g2 (fun i g t cs hi=>kp (1000+i) g t (bo _ g t cs (by rw[aI,fo (by omega),show 1000+i-1000=i by omega];exact hi)));rw[<-hR];exact .inr ⟨v,f,F',Lo,rfl,l,q1,q2,q3,q4,p⟩
 have cx:r=none->PF e r (dh 1):=fun h=>⟨h,1,.inl rfl,rfl⟩;have bk:r=none->PF e r (dh e):=fun h=>⟨h,e,.inr rfl,rfl⟩;have M0:MS G F Li w (fun M τ=>M=cO Lin/\τ=kG 0 [.own 1000 0,IC e]) {tmps:=vs.toArray++Array.replicate (72-vs.toArray.size) undef,defers:=[]} w :=
  ⟨F,inp Li,ce,_,_,hs,he,ht,by simp[cp],Step.refl _ _ _,rfl,rfl⟩
 generalize db:({tmps:=vs.toArray++Array.replicate (72-vs.toArray.size) undef,defers:=[]}:Act)=a0 at M0;have bt:a0.defers=[]:=by rw[<-db]
 -- what a panic of a piece means
 have pan:∀(v:Value) (f:List PanicEntry) (a':Act) (w':World),sj v f->(r=none/\v=dh 1)->(∀dd∈a'.defers,dd=sW (dh e))->(∃F' L',St F' L' w'/\Step F (inp Li) w F' L' w'/\Kp G L')->rJ P Tryz.f71 (dh e) RR (.panic f) a' w':=by
  rintro v f a' w' l ⟨bs,rfl⟩ ab c;exact⟨ab,fun _=>Rp _ _ _ l (cx bs) c,fun _=>⟨Tk l,fun ej cb=>Rp _ _ _ cb (bk bs) c⟩⟩
 have aw:∀{a':Act},a'.defers=[]->∀dd∈a'.defers,dd=sW (dh e):=fun h dd hd=>by rw[h] at hd;cases hd
 have bp:=V.pre bl e (fun v=>r=none/\v=dh 1) fun h=>⟨Jr hr h,rfl⟩;refine wp_seq (MS.piece XD rfl M0 (PS:=⟨fun v=>r=none/\v=dh 1,[],none⟩) (E:=fun _ _ _=>False) (N:=fun M τ=>evalTC P ⟨fun v=>r=none/\v=dh 1,[],none⟩ (.seq z1 z8) (fun _ _ _=>False) (fun _ _=>False) (fun M τ=>s.all (gh s.length)=true/\HS (Mh [] []) e s.length 0 M τ) M τ)
  (fun M τ q=>by rw[q.1,q.2];exact bp) (fun a1 w1 ar M1=>?_) (fun j a' w' _ h=>(by obtain⟨_,_,_,_,_,_,_,_,_,_,h⟩:=h;exact h.elim)) (fun v f a' w' l hd p c=>pan v f a' w' l p (aw (hd.trans bt)) c))
 have ar:=ar.trans bt;refine wp_seq (MS.piece XE rfl M1 (PS:=⟨fun v=>r=none/\v=dh 1,[],none⟩) (E:=fun _ _ _=>False) (N:=fun M τ=>evalTC P ⟨fun v=>r=none/\v=dh 1,[],none⟩ z8 (fun _ _ _=>False) (fun _ _=>False) (fun M τ=>s.all (gh s.length)=true/\HS (Mh [] []) e s.length 0 M τ) M τ)
  (fun M τ q=>q) (fun a2 w2 ag M2=>?_) (fun j a' w' _ h=>(by obtain⟨_,_,_,_,_,_,_,_,_,_,h⟩:=h;exact h.elim)) (fun v f a' w' l hd p c=>pan v f a' w' l p (aw (hd.trans ar)) c))
 have ag:=ag.trans ar;refine wp_seq (MS.piece XF rfl M2 (PS:=⟨fun v=>r=none/\v=dh 1,[],none⟩) (E:=fun _ _ _=>False) (N:=fun M τ=>s.all (gh s.length)=true/\HS (Mh [] []) e s.length 0 M τ)
  (fun M τ q=>q) (fun a3 w3 am M3=>?_) (fun j a' w' _ h=>(by obtain⟨_,_,_,_,_,_,_,_,_,_,h⟩:=h;exact h.elim)) (fun v f a' w' l hd p c=>pan v f a' w' l p (aw (hd.trans ag)) c))
 have am:=am.trans ag;have bu:s.all (gh s.length)=true:=by obtain⟨_,_,_,_,_,_,_,_,_,_,h⟩:=M3;exact h.1
 obtain⟨y,hy,yn,yb,yo⟩:=Gh hr bu;have M3:=M3.weak fun M τ q=>q.2;refine wp_block (uU (fun m a1 w1=>∃(i:Nat) (b:Bool) (d:DM) (o:OM),m=s.length-i/\i<=s.length/\dJ s n i=some (some (b,d,o))/\MS G F Li w (fun M τ=>M=Mh d o/\τ=hE e s.length i) a1 w1/\(∀dd∈a1.defers,dd=sW (dh e))/\(b=true->a1.defers≠[])/\(b=false->a1.defers=[])) ?_ ?_)
 ·exact⟨_,0,false,[],[],rfl,abd _,rfl,M3,aw am,(fun h=>by cases h),fun _=>am⟩
 rintro m a4 w4 ⟨i,b,d,o,rfl,hi,hf,M4,aa,al,an⟩;have cm:=Ve (fun v=>r=none/\v=dh 1) (Mh d o) e s.length i;have done:∀(j:Nat) (a':Act) (w':World),a'.defers=a4.defers->MS G F Li w (fun M τ=>j=2/\¬i<s.length/\HS (Mh d o) e s.length i M τ) a' w'->Exit.inBlock 2 (rJ P Tryz.f71 (dh e) RR) (.exit j) a' w':=by
  rintro j a' w' hd ⟨F',L',ρ',M',cd,g1,g2,g3,g4,g5,rfl,aE,hM,_⟩;have cM:i=s.length:=by omega
  rw[cM,hy] at hf;injection hf with hf
  simp only[Exit.inBlock,abm];refine⟨hd▸aa,fun bj=>?_,fun ci f l=>?_⟩
  ·have hb:b=false:=by
    cases b with
    | false=>rfl
    | true=>exact vv (hd▸bj) (al rfl)
   subst hb;have da:=yo d o hf;have hq:=Bl (P:=P) (fn:=Tryz.f71) (rs:=[]) (n:=72) (asg:=[]) (a0:=a') (a':=a') (w':=w') (R:=fun Mo v=>∃d o,r=some (d,o)/\Mo=Sd d o/\v=.tup []) (by kernel_rfl) hl bb bo
    ⟨F',L',ρ',g1,g2,g4,rfl,g5,fun _ _=>rfl,M',cd,g3,by rw[hM];exact V.ret d o _ ⟨d,o,da,rfl,rfl⟩⟩
   obtain⟨_,v,k2,F2,Lo,k3,k4,k5⟩:=hq;exact⟨v,k2,by rw[<-hR];exact .inl ⟨v,F2,Lo,rfl,k3,k4,k5⟩⟩
  ·have hb:b=true:=by
    cases b with
    | true=>rfl
    | false=>exact vv (hd.trans (an rfl)) ci
   subst hb;exact Rp _ _ _ l (bk (yb d o hf)) ⟨F',L',g1,g5,g3.kp⟩
 refine wp_seq (MS.piece XG rfl M4 (PS:=⟨fun v=>r=none/\v=dh 1,[],none⟩) (E:=fun j M τ=>j=2/\¬i<s.length/\HS (Mh d o) e s.length i M τ) (N:=fun M τ=>evalTC P ⟨fun v=>r=none/\v=dh 1,[],none⟩ zc (fun j M τ=>j=2/\¬i<s.length/\HS (Mh d o) e s.length i M τ) (fun _ _=>False) (fun M τ=>i<s.length/\HS (Mh d o) e s.length i M τ) M τ)
  (fun M τ q=>by rw[q.1,q.2];exact cm) (fun a5 w5 ba M5=>?_) (fun j a' w' hd h=>done j a' w' hd h) (fun v f a' w' l hd p c=>pan v f a' w' l p (hd▸aa) c))
 refine wp_seq (MS.piece XH rfl M5 (PS:=⟨fun v=>r=none/\v=dh 1,[],none⟩) (E:=fun j M τ=>j=2/\¬i<s.length/\HS (Mh d o) e s.length i M τ) (N:=fun M τ=>i<s.length/\HS (Mh d o) e s.length i M τ)
  (fun M τ q=>q) (fun a6 w6 av M6=>?_) (fun j a' w' hd h=>?_) (fun v f a' w' l hd p c=>pan v f a' w' l p (hd.trans ba▸aa) c))
 ·-- a variable more
  have av:=av.trans ba;have aE:i<s.length:=by obtain⟨_,_,_,_,_,_,_,_,_,_,h⟩:=M6;exact h.1
  have M6:=M6.weak fun M τ q=>q.2;obtain⟨y1,az⟩:=zw hy (i+1) aE;obtain⟨r1,cF,cX,cf⟩:=Gg hf az;have cy:=V.it n (fun v=>r=none/\v=dh 1) e i d o r1 cF (fun h=>by
   have h1:=zx (az.trans (vz some (cX h))) (s.length-(i+1));rw[show i+1+(s.length-(i+1))=s.length by omega,hy] at h1;injection h1 with h1
   exact⟨yn h1,rfl⟩)
  refine wp_seq (wp_block (wp_seq (MS.piece U8 rfl M6 (PS:=⟨fun v=>r=none/\v=dh 1,[],none⟩) (E:=fun _ _ _=>False) (N:=fun M τ=>evalTC P ⟨fun v=>r=none/\v=dh 1,[],none⟩ Wk (fun _ _ _=>False) (fun _ _=>False) (fun M τ=>∃k u o',r1=some (k,u,o')/\HS (Mh u o') e s.length i M τ/\τ 67=.bool (decide (k>8))) M τ)
   (fun M τ q=>by rw[q.1,q.2];exact cy) (fun a7 w7 ao M7=>?_) (fun j a' w' _ h=>(by obtain⟨_,_,_,_,_,_,_,_,_,_,h⟩:=h;exact h.elim)) (fun v f a' w' l hd p c=>pan v f a' w' l p (hd.trans av▸aa) c))))
  have ao:=ao.trans av;refine wp_seq (MS.piece U9 rfl M7 (PS:=⟨fun v=>r=none/\v=dh 1,[],none⟩) (E:=fun _ _ _=>False) (N:=fun M τ=>∃k u o',r1=some (k,u,o')/\HS (Mh u o') e s.length i M τ/\τ 67=.bool (decide (k>8)))
   (fun M τ q=>q) (fun a8 w8 ac M8=>?_) (fun j a' w' _ h=>(by obtain⟨_,_,_,_,_,_,_,_,_,_,h⟩:=h;exact h.elim)) (fun v f a' w' l hd p c=>pan v f a' w' l p (hd.trans ao▸aa) c))
  have ac:=ac.trans ao;have hk:∃k u o',r1=some (k,u,o'):=by
   obtain⟨_,_,_,_,_,_,_,_,_,_,k,u,o',h,_⟩:=M8;exact⟨k,u,o',h⟩
  obtain⟨k,u,o',rfl⟩:=hk;have M8:MS G F Li w (fun M τ=>HS (Mh u o') e s.length i M τ/\τ 67=.bool (decide (k>8))) a8 w8:=M8.mono fun M τ ⟨k1,d1,o1,h,q⟩=>by
   injection h with h
   injection h with h1 h2
   injection h2 with h2 h3
   subst h1 h2 h3;exact q
  have cz:=M8.bool (j:=67) fun M τ q=>q.2;have cw:=M8.int (j:=1) fun M τ q=>q.1.2.2.1;have bi:a8.tmps.size=72:=by obtain⟨_,_,_,_,_,_,_,_,h,_⟩:=M8;exact h
  have M8:=M8.weak fun M τ q=>q.1
  -- the end of a round
  have fin:∀(a9:Act),MS G F Li w (fun M τ=>M=Mh u o'/\τ=hE e s.length i) a9 w8->(∀dd∈a9.defers,dd=sW (dh e))->((b||decide (k>8))=true->a9.defers≠[])->((b||decide (k>8))=false->a9.defers=[]) ->
    k13.wp P (Exit.then (fun a' w'=>∃m,m<s.length-i/\∃(i:Nat) (b:Bool) (d:DM) (o:OM),m=s.length-i/\i<=s.length/\dJ s n i=some (some (b,d,o))/\MS G F Li w (fun M τ=>M=Mh d o/\τ=hE e s.length i) a' w'/\(∀dd∈a'.defers,dd=sW (dh e))/\(b=true->a'.defers≠[])/\(b=false->a'.defers=[])) (Exit.inBlock 2 (rJ P Tryz.f71 (dh e) RR))) a9 w8:=by
   intro a9 M9 bv al an;have co:=Vf (fun v=>r=none/\v=dh 1) (Mh u o') e s.length i (by omega);refine MS.piece Va rfl M9 (PS:=⟨fun v=>r=none/\v=dh 1,[],none⟩) (E:=fun _ _ _=>False) (N:=fun M τ=>HS (Mh u o') e s.length (i+1) M τ)
    (fun M τ q=>by rw[q.1,q.2];exact co) (fun ec eh ae M10=>?_) (fun j a' w' _ h=>(by obtain⟨_,_,_,_,_,_,_,_,_,_,h⟩:=h;exact h.elim)) (fun v f a' w' l hd p c=>pan v f a' w' l p (hd▸bv) c)
   refine⟨s.length-(i+1),by omega,i+1,b||decide (k>8),u,o',rfl,aE,az.trans (vz some (cf k u o' rfl)),M10.weak fun M τ q=>q,ae▸bv,ae▸al,ae▸an⟩
  refine wp_cond_split (t:=decide (k>8)) cz (fun hk=>?_) (fun hk=>?_)
  ·refine XJ bi cw fun x y z=>?_;refine fin _ (((M8.wr (by omega) (by omega) (by omega) (by omega) (by omega)).wr (by omega) (by omega) (by omega) (by omega) (by omega)).wr (by omega) (by omega) (by omega) (by omega) (by omega)).defers ?_ (fun _ h=>by cases h) (fun h=>by rw[hk,Bool.or_true] at h;cases h);intro dd ab;rcases aaX.1 ab with rfl | ab
   ·rfl
   ·rw[ac] at ab;exact aa dd ab
  ·refine wp_skip ?_;refine fin _ M8 (ac▸aa) (fun h=>?_) (fun h=>?_)
   ·rw[ac];exact al (by rw[hk,Bool.or_false] at h;exact h)
   ·rw[ac];exact an (by rw[hk,Bool.or_false] at h;exact h)
 ·exact done j a' w' (hd.trans ba) h
theorem XL {s:List Ty}{F:aA}{L:Loc}(h:bT F L (cO (pX s))):s.length<=9223372036854775807:=by
 have q:=h 1001;have q:Ac F L (some (.row 33 3 (s.map aD))) (L.get 1001):=q;cases e:L.get 1001 with
 | none=>rw[e] at q;exact q.elim
 | some o =>
  rw[e] at q;cases o with
  | box=>exact q.elim
  | row v t sz n xs =>
   obtain⟨_,_,a,⟨b,_⟩,_⟩:=q;rw[xo] at a;simp only[maxLen] at b;omega
theorem fvU (s:List Ty):FV s (pX s) (Vb s) (JH s) :=
 ⟨fun F L h=>XL h,fun a e PS h=>Vc s e PS h a,fun n PS e i d o b h c=>XK s PS e s.length i d o b (HA s n (vr i) d o b h) c,fun d o R h=>Vg s d o R h⟩
theorem XM (s:List Ty) (e:Int) {n:Nat}{r:Option (DM×OM)}(a:bK s n=some r):En s e r:=Gi (fvU s) e n r a
theorem unify (n:Nat) (s:List Ty) (a b:Ty) (j:s.length<=2 ^ 30) (F:Fuel n s a b) (d:bW a<=2 ^ 40) (c:bW b<=2 ^ 40)
  (f:∀s',LY n s a b s'->s'.length<=2 ^ 30/\(∀x∈s',iA x)/\∃r,j3 s' n=some r):CallsT P 42 [.sl (s.map aD),aP a,aP b] [] (RN n s a b) :=
 t42 n s a b j F (fun s e r h=>XM s e h) d c f
end Go.Fr.Tryz
