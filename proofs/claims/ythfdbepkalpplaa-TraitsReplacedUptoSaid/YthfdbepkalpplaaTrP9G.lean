/- Part of the proofs of the statements of this seat. -/
import Derived.Test.YthfdbepkalpplaaTrP3G
import Derived.Test.YthfdbepkalpplaaFW2
import Derived.WalkSmall
set_option maxRecDepth 10000
set_option linter.unusedVariables false
set_option linter.unusedSimpArgs false
namespace Go.Fr
open Go Go.RowKit
section
variable {P:Program}
theorem Du {f:FuncId}{fn:Func}{c:Code}{sc:ax}{A:cJ}{rs:List RV}{F:aA}{Lin:List Own}{R:aA->List Own->Value->Prop}(a:List SV)
  (hf:P.funcs[f]?=some fn) (hb:fn.body=some c) (hl:low P A c=some sc) (hn:fn.ntmps=A.n) (x:nI P fn.results.toList=some rs) (am:a.length<=A.n)
  (o:∀v∈a,(∀k off,v=.own k off->∃g ty cs,(inp Lin).get k=some (.box g ty cs))/\(∀ad j,v=.el ad j->ad≠none))
  (h:jH P sc (fun _ _ _ _=>False) (fun F' L' ρ'=>nY L' ρ' rs fun d=>J9 F' L' (gD d) R) (fun F' L' ρ'=>nY L' ρ' rs fun d=>J9 F' L' (gD d) R) F (inp Lin) (DF 0 a)) (u:FrameMode) (w:World) (hs:St F (inp Lin) w) :
  CallsD P f (a.map (conc (inp Lin))).toArray u w fun e u' w'=>u'=u/\∃v F' Lo,e=.returned v/\St F' (inp Lo) w'/\Step F (inp Lin) w F' (inp Lo) w'/\R F' Lo v:=by
 refine callsD_of_wp hf hb ?_;have he:aC (inp Lin) (DF 0 a) {tmps:=(a.map (conc (inp Lin))).toArray++Array.replicate (fn.ntmps-(a.map (conc (inp Lin))).toArray.size) undef,defers:=[]}:=by
  have s:∀t,DF 0 a t=.v undef\/DF 0 a t∈a:=by
   intro t;rw[yG];simp only[abr,abB,Nat.sub_zero];cases e:a[t]? with
   | none=>exact .inl rfl
   | some v=>exact .inr (aa8 e)
  refine⟨fun t=>?_,fun t k off e=>?_,fun t ad j e=>?_⟩
  ·rw[yG];simp only[abr,abB,Nat.sub_zero,abp];cases e:a[t]? with
   | some v =>
    have y:t<a.length:=(aa6.1 e).1;rw[Array.getElem?_append_left (by simpa using y)];simp[e]
   | none =>
    have ab:a.length<=t:=abT.1 e;rw[Array.getElem?_append_right (by simpa using ab)];simp only[Array.getElem?_replicate,Option.getD_none,conc];split<;>rfl
  ·rcases s t with h1 | h1
   ·rw[h1] at e;cases e
   ·exact(o _ h1).1 k off e
  ·rcases s t with h1 | h1
   ·rw[h1] at e;cases e
   ·exact(o _ h1).2 ad j e
 refine wp_mono (qU c hl hs he (by simp[hn];omega) h) ?_;intro e a' w' q;have fin:∀{a0:Act},a0.defers=[]->eZ A.n F (inp Lin) w a0 (ef c) (fun F' L' ρ'=>nY L' ρ' rs fun d=>J9 F' L' (gD d) R) a' w'->a'.defers=[]/\∃v,(results fn a'.tmps).run P w'=.ok v w' /\
   ∃v' F' Lo,Ending.returned v=.returned v'/\St F' (inp Lo) w'/\Step F (inp Lin) w F' (inp Lo) w'/\R F' Lo v':=by
  rintro a0 ac ⟨F',L',ρ',g1,g2,g3,g4,m,g6,z⟩;obtain⟨d,hm,⟨ko,Lo,k1,k2,k3⟩⟩:=ou g1 g2 x z;refine⟨g4.trans ac,gD d,?_,gD d,F',Lo,rfl,g1.handed k1 k2,?_,k3⟩
  ·rw[pH];rw[Array.mapM_eq_mapM_toList];simp only[Sem.run_bind,Sem.run_map];rw[hm];simp only[Result.andThen_ok,Sem.run_pure];congr 1
   match d with
   | []=>rfl
   | [t]=>rfl
   | t::u::r =>
    simp only[gD];rw[dif_neg (by simp)]
  ·obtain⟨e1,e2⟩:=cP k1;refine⟨m.le,m.os,m.tape,m.output,m.size,m.same,m.frz,fun b hb=>m.own b ?_⟩;obtain⟨j,p,e,hb⟩:=hb;rw[aJ] at e;split at e
   case isFalse=>cases e
   have y:j-1000<Lo.length:=(aa6.1 e).1;have hk:ko[j-1000]?=some (ko[j-1000]'(by omega)):=aa4 (by omega);exact⟨_,p,by rw[e2 _ _ hk];exact e,hb⟩
 cases e with
 | normal=>exact fin rfl q
 | ret=>exact fin rfl q
 | exit j=>obtain⟨F',L',ρ',_,_,_,_,_,_,h⟩:=q;exact h.elim
 | goto l=>exact q.elim
 | panic c=>exact(noPan q).elim
 | outgrown=>exact q.elim
end
theorem St.aaO {F:aA}{L1 L2:Loc}{w:World}(b:St F L1 w) (h:∀k o,L2.get k=some o->∃a,L1.get k=some a/\a.blk=o.blk/\o.ok w):St F L2 w :=
 ⟨b.frz,fun k o e=>let⟨_,_,_,h3⟩:=h k o e;h3,fun k o g e d=>let⟨a,h1,h2,_⟩:=h k o e;b.off k a g h1 (h2.trans d),
  fun k f o o' g e j d c=>let⟨a,h1,h2,_⟩:=h k o e;let⟨o2,h3,h4,_⟩:=h f o' j;b.sep k f a o2 g h1 h3 (h2.trans d) (h4.trans c),b.glob⟩
theorem Step.aaO {F F':aA}{L L1 L2:Loc}{w w':World}(a:Step F L w F' L1 w') (h:∀k o,L2.get k=some o->∃c,L1.get k=some c/\c.blk=o.blk):Step F L w F' L2 w' :=
 ⟨a.le,a.os,a.tape,a.output,a.size,a.same,a.frz,fun b ⟨k,o,e,hb⟩=>let⟨c,h1,h2⟩:=h k o e;a.own b ⟨k,c,h1,h2.trans hb⟩⟩
end Go.Fr
namespace Go.Fr.Try
open Go Go.RowKit Go.Proofs Go.Fr Go.Fr.T Go.Fr.Api
theorem Uu:∃c,Try.f83.body=some c/\low Try.prog A83 c=some c83:=⟨Try.f83.body.getD .skip,by kernel_rfl,by kernel_rfl⟩
theorem WB {F:aA}{b:Nat}{a:Addr}{n c:Nat}{xs:List Value}(m:(n:Int)+1<=9223372036854775807) (p:n+1<=c) (o:a.off=0) (u:FrameMode) (w:World)
  (h:St F (inp [.box b 107 [.slice (some a) (n+1) c],.row (.slice (some a) (n+1) c) 110 4 (n+1) xs]) w) :
  CallsD P 83 #[.pointer (some ⟨b,0,none⟩)] u w fun e j w'=>j=u/\∃v F' Lo,e=.returned v/\St F' (inp Lo) w'/\Step F (inp [.box b 107 [.slice (some a) (n+1) c],.row (.slice (some a) (n+1) c) 110 4 (n+1) xs]) w F' (inp Lo) w' /\
   (Lo=[.box b 107 [.slice (some a) n c],.row (.slice (some a) (n+1) c) 110 4 (n+1) xs]/\v=.tuple #[]):=by
 obtain⟨l,hb,f⟩:=Uu;refine Du (P:=P) (A:=A83) (rs:=[]) (R:=fun F' Lo v=>Lo=[.box b 107 [.slice (some a) n c],.row (.slice (some a) (n+1) c) 110 4 (n+1) xs]/\v=.tuple #[]) [.own 1000 0] Try.func83 hb f (by kernel_rfl) (by kernel_rfl) (by decide) ?_ ?_ u w h
 ·intro v d;rcases abd.1 d with rfl | d
  ·exact⟨fun k off e=>by injection e with e1 e2;subst e1;exact⟨_,_,_,rfl⟩,fun _ _ e=>by cases e⟩
  ·cases d
 refine Fit.aar (by omega) (by omega) ?_;refine⟨by omega,by omega,by omega,?_⟩;have e:sU (some a) c (0:Int).toNat (((n+1:Nat):Int)-1).toNat 4=.slice (some a) n c:=by
  unfold sU;rw[fo (by show¬c=0;omega),show(((n+1:Nat):Int)-1).toNat=n by omega];rfl
 refine⟨[1000,1001],_,rfl,by decide,?_,rfl⟩;rw[<-e];rfl
theorem w9 {F:aA}{sz:Nat}:∀{l m:List (List C)}{xs:List Value},aR F sz (l++m) xs->aR F sz l (xs.take (l.length*sz))
 | [],m,xs,_=>by simp[aR]
 | e::l,m,xs,h=>by
  rw[abj] at h;simp only[aR] at h ⊢;obtain⟨b,a,rfl,h1,h2,h3,h4⟩:=h;refine⟨b,a.take (l.length*sz),?_,h1,h2,h3,w9 h4⟩;rw[abo,Nat.add_mul,Nat.one_mul,Nat.add_comm (l.length*sz),List.take_append,abA (by omega),show sz+l.length*sz-b.length=l.length*sz by omega]
theorem Uv {F:aA}{f e:Own}{l k:TO}(h0:cZ F (inp [f,e]) l f) (h1:cZ F (inp [f,e]) k e):bV F (inp [f,e]) (cT [l,k]):=by
 intro j;have c:∀{m:Type}(a b:m) (h:1000<=j),[a,b][j-1000]?=if j=1000 then some a else if j=1001 then some b else none:=fun a b h=>by
  by_cases d:j=1000
  ·rw[eu d,show j-1000=0 by omega];rfl
  rw[fo d]
  by_cases c:j=1001
  ·rw[eu c,show j-1000=1 by omega];rfl
  rw[fo c];exact abE (by simp;omega)
 rw[aJ,cG]
 by_cases h:1000<=j
 ·rw[eu h,eu h,c _ _ h,c _ _ h]
  by_cases d:j=1000
  ·rw[eu d,eu d];exact h0
  rw[fo d,fo d]
  by_cases c:j=1001
  ·rw[eu c,eu c];exact h1
  rw[fo c,fo c];trivial
 ·rw[fo h,fo h];trivial
theorem Sz {F:aA}{p:Prog}{gs:List ct}{g:ct}{Li:List Own}{vs:List Value}(hg:gs.length<=400) (hl:Li.length=2) (x:bV F (inp Li) (cT [.box 107 [.rw 1001],AU (gs++[g])])) (ha:aB F (inp Li) [.own 1000 0] vs) (u:FrameMode) (w:World) (hs:St F (inp Li) w) :
  CallsD P 83 vs.toArray u w fun e u' w'=>u'=u/\∃v F' Lo,e=.returned v/\St F' (inp Lo) w'/\Step F (inp Li) w F' (inp Lo) w'/\gV Li (aQ [.box 107 [.rw 1001],AU gs] (.tup [])) F' Lo v:=by
 match Li,hl with
 | [o0,m],_ =>
  have q0:=x 1000;have q1:=x 1001;have q0:cZ F (inp [o0,m]) (.box 107 [.rw 1001]) o0:=q0;have q1:cZ F (inp [o0,m]) (AU (gs++[g])) m:=q1;cases o0 with
  | row=>exact q0.elim
  | box b0 t0 c0 =>
  cases m with
  | box=>exact q1.elim
  | row v1 t1 s1 n1 j =>
  obtain⟨r,z⟩:=q0;obtain⟨rfl,rfl,aw,⟨cl,a,cap,bs,bz⟩,y⟩:=q1;simp only[aB,Rel] at z;obtain⟨v,aE,rfl,⟨a',d,t',al,n',ao,rfl,c⟩,rfl⟩:=z;have c:some (Own.row v1 110 4 n1 j)=some (.row (.slice a' n' d) t' al n' ao):=c;injection c with c
  injection c with n e2 e3 e4 e5
  subst n e2 e3 e4 e5;have hn:n1=gs.length+1:=by rw[aw];simp
  subst hn;have ht:t0=107:=by
   obtain⟨_,h | h,_⟩:=r
   ·exact h.symm
   ·omega
  subst ht;have aa:w.ownsRow 0 110 4 (.slice a' (gs.length+1) d) (gs.length+1) j:=hs.own 1001 _ rfl;obtain⟨bo,an⟩:=aa;rcases an with⟨hz,_⟩ | ⟨l,cp,ch,am,cd,bl,av,cc,ca,cm⟩
  ·cases hz
  injection am with w1 w2 w3
  subst w1 w3;have ag:vs=[.pointer (some ⟨b0,0,none⟩)]:=by
   simp only[aB,Rel] at ha;obtain⟨v,aE,rfl,⟨g',t',cs',c,rfl⟩,rfl⟩:=ha;have c:some (Own.box b0 107 [Value.slice (some ⟨l,0,none⟩) (gs.length+1) d])=some (.box g' t' cs'):=c;injection c with c
   injection c with n
   subst n;rfl
  subst ag;refine(WB (by omega) av rfl u w hs).mono ?_;rintro e u' w' ⟨hu,v,F',Lo,he,g1,g2,rfl,rfl⟩;have bb:j=j.take (gs.length*4)++j.drop (gs.length*4):=(List.take_append_drop _ _).symm;have s:w'.ownsRow 0 110 4 (.slice (some ⟨l,0,none⟩) gs.length d) gs.length (j.take (gs.length*4)):=by
   have h1:=g1.own 1001 _ (show _=some (Own.row (.slice (some ⟨l,0,none⟩) (gs.length+1) d) 110 4 (gs.length+1) j) from rfl);have h1:w'.ownsRow 0 110 4 (.slice (some ⟨l,0,none⟩) (gs.length+1) d) (gs.length+1) j:=h1;rw[bb] at h1;exact ownsRow_pop (by rw[abM];omega) h1
  have q:∀k o,(inp [.box b0 107 [.slice (some ⟨l,0,none⟩) gs.length d],.row (.slice (some ⟨l,0,none⟩) gs.length d) 110 4 gs.length (j.take (gs.length*4))]).get k=some o ->
    ∃m,(inp [.box b0 107 [.slice (some ⟨l,0,none⟩) gs.length d],.row (.slice (some ⟨l,0,none⟩) (gs.length+1) d) 110 4 (gs.length+1) j]).get k=some m/\m.blk=o.blk/\o.ok w':=by
   intro k o f;rw[aJ] at f;split at f
   case isFalse=>cases f
   rename_i bv
   by_cases e0:k=1000
   ·subst e0;injection f with f
    subst f;exact⟨_,rfl,rfl,g1.own 1000 _ rfl⟩
   by_cases n:k=1001
   ·subst n;injection f with f
    subst f;exact⟨_,rfl,rfl,s⟩
   rw[abE (by simp;omega)] at f;cases f
  refine⟨hu,.tuple #[],F',_,he,g1.aaO q,g2.aaO (fun k o h=>let⟨m,a,b,_⟩:=q k o h;⟨m,a,b⟩),[.box 107 [.rw 1001],AU gs],.tup [],rfl,Uv ⟨r,?_⟩ ⟨rfl,rfl,by simp,⟨by omega,some ⟨l,0,none⟩,d,rfl,fun h=>by cases h⟩,?_⟩,by simp only[Rel,aB];exact⟨[],rfl,rfl⟩,fun i g t cs hi=>?_,rfl,rfl⟩
  ·simp only[aB,Rel];exact⟨_,_,rfl,⟨_,_,_,_,_,_,rfl,rfl⟩,rfl⟩
  ·have:=y;rw[abC] at this;have h2:=w9 this;rw[vz] at h2;exact h2.mono g2.le
  ·cases i with
   | zero =>
    injection hi with hi
    injection hi with n e2 e3
    subst n e2;exact⟨_,rfl⟩
   | succ i =>
    cases i with
    | zero=>injection hi with hi;cases hi
    | succ i=>simp at hi
theorem ZO {F:aA}{p:Prog}{bs:List aS}{c:Int}{gs:List ct}{g:ct}{Lo:List Own}{n t1:Nat}{d:List Value}(hg:gs.length<=400) (hl:Lo.length=4) (l:bV F (inp Lo) (cT (PB p bs c (gs++[g])))) (h1:Lo[1]?=some (.box n t1 d)) (u:FrameMode) (w:World) (hs:St F (inp Lo) w) :
  CallsD P 83 #[.pointer (some ⟨n,0,none⟩)] u w fun e u' w'=>u'=u/\∃v F' Lo',e=.returned v/\St F' (inp Lo') w'/\Step F (inp Lo) w F' (inp Lo') w'/\Lo'.length=4/\bV F' (inp Lo') (cT (PB p bs c gs))/\∀(i:Nat) b t cs,Lo[i]?=some (.box b t cs)->∃cs',Lo'[i]?=some (.box b t cs'):=by
 have ht:TS (fun _=>none) F (inp Lo) (fun _=>.v undef) (cT (PB p bs c (gs++[g]))) (fun _=>.any):=⟨l,fun _=>trivial,fun k g t e=>(by cases e),hs.glob⟩;have ao:(cT (PB p bs c (gs++[g]))).sub [1001,1003]=some [.box 107 [.rw 1003],AU (gs++[g])]:=rfl;obtain⟨Li,s,e2,e3⟩:=kN l ao;have z:[1001,1003].Nodup:=by decide
 obtain⟨x1,x2⟩:=cP s;have r:bV F (inp Li) (cT [.box 107 [.rw 1001],AU (gs++[g])]):=lN l e2 s e3;have m:(inp Lo).get 1001=some (.box n t1 d):=by rw[aJ,eu (by omega)];exact h1
 have ha:aB F (inp Li) [.own 1000 0] [.pointer (some ⟨n,0,none⟩)]:=by
  have h0:Li[0]?=some (.box n t1 d):=by rw[<-x2 0 1001 rfl];exact m
  simp only[aB,Rel];refine⟨_,_,rfl,⟨n,t1,d,?_,rfl⟩,rfl⟩;rw[aJ,eu (by omega)];exact h0
 refine(Sz (p:=p) hg e2 r ha u w (hs.handed s z)).mono ?_;rintro e u' w' ⟨hu,v,F',Lr,he,g1,g2,hR⟩;have x:[1001,1003].length=Lr.length:=by
  obtain⟨Mo,c',q1,q2,q3,q4,q5⟩:=hR;rw[<-q1,q5.1];rfl
 obtain⟨c1,f⟩:=gF hs s z z (fun k o=>.inl o) g1 g2 x;obtain⟨y1,y2,M',bj,cc,y3,y4,rfl⟩:=rQ (K:=fun M' _ _=>M'=(((cT (PB p bs c (gs++[g]))).aas [1001,1003]).kills (rowsOf (cT (PB p bs c (gs++[g]))) [1001,1003])).puts [1001,1003] ([TO.box 107 [.rw 1001],AU gs].map (TO.aaq (C.ren (aL [1001,1003]))))) ht rfl rfl rfl rfl s e2 e3
  (fun v' Mo' e _ _=>by obtain⟨q1,q2⟩:=e;subst q1;exact⟨rfl,rfl⟩) v F' Lr g2.le hR
 have ab:((((cT (PB p bs c (gs++[g]))).aas [1001,1003]).kills (rowsOf (cT (PB p bs c (gs++[g]))) [1001,1003])).puts [1001,1003] ([TO.box 107 [.rw 1001],AU gs].map (TO.aaq (C.ren (aL [1001,1003]))))).sub [1000,1001,1002,1003]=some (PB p bs c gs):=rfl;obtain⟨Lo',d1,d2,d3⟩:=kN y3.tl ab;obtain⟨z1,z2⟩:=cP d1;refine⟨hu,v,F',Lo',he,c1.handed d1 (by decide),?_,d2,lN y3.tl d2 d1 d3,fun i b t cs hi=>?_⟩
 ·refine⟨f.le,f.os,f.tape,f.output,f.size,f.same,f.frz,fun b hb=>f.own b ?_⟩;obtain⟨j,q,e,hb⟩:=hb;rw[aJ] at e;split at e
  case isFalse=>cases e
  have a:j-1000<Lo'.length:=(aa6.1 e).1;have o:([1000,1001,1002,1003]:List Nat)[j-1000]?=some (([1000,1001,1002,1003]:List Nat)[j-1000]'(by rw[d2] at a;exact a)):=aa4 _;exact⟨_,q,by rw[z2 _ _ o];exact e,hb⟩
 ·have a:i<4:=by rw[<-hl];exact(aa6.1 hi).1
  have o:([1000,1001,1002,1003]:List Nat)[i]?=some (1000+i):=by
   match i,a with
   | 0,_=>rfl
   | 1,_=>rfl
   | 2,_=>rfl
   | 3,_=>rfl
  have y:(inp Lo).get (1000+i)=some (.box b t cs):=by rw[aJ,eu (by omega),show 1000+i-1000=i by omega];exact hi
  by_cases hm:1000+i∈[1001,1003]
  ·obtain⟨cs',h⟩:=y2 _ b t cs hm y;exact⟨cs',by rw[<-z2 i _ o];exact h⟩
  ·refine⟨cs,?_⟩;rw[<-z2 i _ o];rcases dB [1001,1003] Lr ((inp Lo).aas [1001,1003]) (1000+i) z x with⟨a1,a2⟩ | ⟨i',a1,a2,a3⟩
   ·rw[a1,fH,fo hm];exact y
   ·exact o5 (aa8 a1) hm
theorem WC {F:aA}{p:Prog}{bs:List aS}{c:Int}{gs:List ct}{g:ct}{a:Bool}{i0:Int}{l d:List (List C)}{Lo:List Own}{s t1:Nat}{m:List Value}(hg:gs.length<=400) (hl:Lo.length=5) (o:bV F (inp Lo) (cT (PB p bs c (gs++[g])++[.box 64 [.bool a,IC i0,.sl l,.sl d]]))) (h1:Lo[1]?=some (.box s t1 m)) (u:FrameMode) (w:World) (hs:St F (inp Lo) w) :
  CallsD P 83 #[.pointer (some ⟨s,0,none⟩)] u w fun e u' w'=>u'=u/\∃v F' Lo',e=.returned v/\St F' (inp Lo') w'/\Step F (inp Lo) w F' (inp Lo') w'/\Lo'.length=5/\bV F' (inp Lo') (cT (PB p bs c gs++[.box 64 [.bool a,IC i0,.sl l,.sl d]]))/\∀(i:Nat) b t cs,Lo[i]?=some (.box b t cs)->∃cs',Lo'[i]?=some (.box b t cs'):=by
 have ht:TS (fun _=>none) F (inp Lo) (fun _=>.v undef) (cT (PB p bs c (gs++[g])++[.box 64 [.bool a,IC i0,.sl l,.sl d]])) (fun _=>.any):=⟨o,fun _=>trivial,fun k g t e=>(by cases e),hs.glob⟩;have aw:(cT (PB p bs c (gs++[g])++[.box 64 [.bool a,IC i0,.sl l,.sl d]])).sub [1001,1003]=some [.box 107 [.rw 1003],AU (gs++[g])]:=rfl;obtain⟨Li,z,e2,e3⟩:=kN o aw;have hn:[1001,1003].Nodup:=by decide
 obtain⟨x1,x2⟩:=cP z;have y:bV F (inp Li) (cT [.box 107 [.rw 1001],AU (gs++[g])]):=lN o e2 z e3;have r:(inp Lo).get 1001=some (.box s t1 m):=by rw[aJ,eu (by omega)];exact h1
 have ha:aB F (inp Li) [.own 1000 0] [.pointer (some ⟨s,0,none⟩)]:=by
  have h0:Li[0]?=some (.box s t1 m):=by rw[<-x2 0 1001 rfl];exact r
  simp only[aB,Rel];refine⟨_,_,rfl,⟨s,t1,m,?_,rfl⟩,rfl⟩;rw[aJ,eu (by omega)];exact h0
 refine(Sz (p:=p) hg e2 y ha u w (hs.handed z hn)).mono ?_;rintro e u' w' ⟨hu,v,F',Lr,he,g1,g2,hR⟩;have aa:[1001,1003].length=Lr.length:=by
  obtain⟨Mo,c',q1,q2,q3,q4,q5⟩:=hR;rw[<-q1,q5.1];rfl
 obtain⟨c1,n⟩:=gF hs z hn hn (fun k x=>.inl x) g1 g2 aa;obtain⟨y1,y2,M',bm,cc,y3,y4,rfl⟩:=rQ (K:=fun M' _ _=>M'=(((cT (PB p bs c (gs++[g])++[.box 64 [.bool a,IC i0,.sl l,.sl d]])).aas [1001,1003]).kills (rowsOf (cT (PB p bs c (gs++[g])++[.box 64 [.bool a,IC i0,.sl l,.sl d]])) [1001,1003])).puts [1001,1003] ([TO.box 107 [.rw 1001],AU gs].map (TO.aaq (C.ren (aL [1001,1003]))))) ht rfl rfl rfl rfl z e2 e3
  (fun v' Mo' e _ _=>by obtain⟨q1,q2⟩:=e;subst q1;exact⟨rfl,rfl⟩) v F' Lr g2.le hR
 have ae:((((cT (PB p bs c (gs++[g])++[.box 64 [.bool a,IC i0,.sl l,.sl d]])).aas [1001,1003]).kills (rowsOf (cT (PB p bs c (gs++[g])++[.box 64 [.bool a,IC i0,.sl l,.sl d]])) [1001,1003])).puts [1001,1003] ([TO.box 107 [.rw 1001],AU gs].map (TO.aaq (C.ren (aL [1001,1003]))))).sub [1000,1001,1002,1003,1004]=some (PB p bs c gs++[.box 64 [.bool a,IC i0,.sl l,.sl d]]):=rfl;obtain⟨Lo',d1,d2,d3⟩:=kN y3.tl ae;obtain⟨z1,z2⟩:=cP d1;refine⟨hu,v,F',Lo',he,c1.handed d1 (by decide),?_,d2,lN y3.tl d2 d1 d3,fun i b t cs hi=>?_⟩
 ·refine⟨n.le,n.os,n.tape,n.output,n.size,n.same,n.frz,fun b hb=>n.own b ?_⟩;obtain⟨j,q,e,hb⟩:=hb;rw[aJ] at e;split at e
  case isFalse=>cases e
  have f:j-1000<Lo'.length:=(aa6.1 e).1;have x:([1000,1001,1002,1003,1004]:List Nat)[j-1000]?=some (([1000,1001,1002,1003,1004]:List Nat)[j-1000]'(by rw[d2] at f;exact f)):=aa4 _;exact⟨_,q,by rw[z2 _ _ x];exact e,hb⟩
 ·have f:i<5:=by rw[<-hl];exact(aa6.1 hi).1
  have x:([1000,1001,1002,1003,1004]:List Nat)[i]?=some (1000+i):=by
   match i,f with
   | 0,_=>rfl
   | 1,_=>rfl
   | 2,_=>rfl
   | 3,_=>rfl
   | 4,_=>rfl
  have ab:(inp Lo).get (1000+i)=some (.box b t cs):=by rw[aJ,eu (by omega),show 1000+i-1000=i by omega];exact hi
  by_cases hm:1000+i∈[1001,1003]
  ·obtain⟨cs',h⟩:=y2 _ b t cs hm ab;exact⟨cs',by rw[<-z2 i _ x];exact h⟩
  ·refine⟨cs,?_⟩;rw[<-z2 i _ x];rcases dB [1001,1003] Lr ((inp Lo).aas [1001,1003]) (1000+i) hn aa with⟨a1,a2⟩ | ⟨i',a1,a2,a3⟩
   ·rw[a1,fH,fo hm];exact ab
   ·exact o5 (aa8 a1) hm
end Go.Fr.Try
namespace Go.Fr
open Go Go.RowKit
theorem Step.sub {F F':aA}{L L1 L2:Loc}{w w':World}(a:Step F L w F' L1 w') (h:∀b,L2.owns b->L1.owns b):Step F L w F' L2 w' :=
 ⟨a.le,a.os,a.tape,a.output,a.size,a.same,a.frz,fun b hb=>a.own b (h b hb)⟩
end Go.Fr
namespace Go.Fr.Try
open Go Go.RowKit Go.Proofs Go.Fr Go.Fr.T Go.Fr.Api
theorem Uw {Lin:List TO}{Li:List Own}{F:aA}{args:List C}{l:List Value}{w:World}(m:Nat) (z:Li.length=Lin.length) (s:bV F (inp Li) (cT Lin)) (u:aB F (inp Li) args l) (y:St F (inp Li) w) :
  ∃(G:Nat->Option (Nat×TypeId)) (a:Env),aC (inp Li) a {tmps:=l.toArray++Array.replicate m undef,defers:=[]}/\TS G F (inp Li) a (cT Lin) (ku 0 args)/\(∀k g t cs,(inp Li).get k=some (.box g t cs)->G k=some (g,t))/\(∀k,G k≠none->1000<=k):=by
 have n:=u.len;have key:∀j,∃sv,aN F (inp Li) (ku 0 args j) sv/\conc (inp Li) sv=(l.toArray++Array.replicate m undef).getD j undef/\(∀k off,sv=.own k off->∃g t cs,(inp Li).get k=some (.box g t cs))/\(∀f i,sv=.el f i->f≠none):=by
  intro j;rw[oK];simp only[abr,abB,Nat.sub_zero,abp];cases e:args[j]? with
  | some c =>
   have d:j<l.length:=by rw[n];exact(aa6.1 e).1
   obtain⟨s1,s2,s3,x⟩:=rS (u.at e (aa4 d));refine⟨_,s1,?_,s3,fun f i e=>o5 e (x f i)⟩;rw[s2,Array.getElem?_append_left (by simpa using d)];simp[d]
  | none =>
   have r:l.length<=j:=by rw[n];exact abT.1 e
   refine⟨.v undef,lF,?_,fun _ _ e=>(by cases e),fun _ _ e=>(by cases e)⟩;rw[Array.getElem?_append_right (by simpa using r)];simp only[Array.getElem?_replicate,conc];split<;>rfl
 let a:Env:=fun j=>(key j).choose
 have he:aC (inp Li) a {tmps:=l.toArray++Array.replicate m undef,defers:=[]} :=
  ⟨fun t=>(key t).choose_spec.2.1.symm,fun t k off e=>(key t).choose_spec.2.2.1 k off e,fun t f j e=>(key t).choose_spec.2.2.2 f j e⟩
 let G:Nat->Option (Nat×TypeId):=fun k=>match(inp Li).get k with | some (.box g t _)=>some (g,t) | _=>none
 have q:∀k g t cs,(inp Li).get k=some (.box g t cs)->G k=some (g,t):=fun k g t cs e=>by simp only[G,e]
 have o:Kp G (inp Li):=by
  intro k g t e;simp only[G] at e;split at e
  ·rename_i g' t' cs h;injection e with e
   injection e with e1 e2
   subst e1 e2;exact⟨cs,h⟩
  ·cases e
 have p:∀k,G k≠none->1000<=k:=by
  intro k b;simp only[G] at b;split at b
  ·rename_i g t cs h;rw[aJ] at h;split at h
   ·assumption
   ·cases h
  ·exact o5 rfl b
 exact⟨G,a,he,⟨s,fun j=>(key j).choose_spec.1,o,y.glob⟩,q,p⟩
def FC (G:Nat->Option (Nat×TypeId)) (F0:aA) (Li:List Own) (w0:World) (K:TK) (a:Act) (w:World):Prop :=
 ∃F L ρ M τ,St F L w/\aC L ρ a/\TS G F L ρ M τ/\a.tmps.size=97/\Step F0 (inp Li) w0 F L w/\K M τ
section
variable {G:Nat->Option (Nat×TypeId)}{F0:aA}{Li:List Own}{w0:World}
theorem FC.piece {c:Code}{u:ax}(hl:low Try.prog Q7 c=some u) (hG:∀k,G k≠none->1000<=k) {PS:oE}{R N K:TK}{a:Act}{w:World}(h:FC G F0 Li w0 K a w)
  (hK:∀M τ,K M τ->evalTC P PS u (fun _ _ _=>False) R N M τ) {Q:Exit->Act->World->Prop}
  (hN:∀a' w',a'.defers=a.defers->FC G F0 Li w0 N a' w'->Q .normal a' w')
  (hR:∀a' w',a'.defers=a.defers->FC G F0 Li w0 R a' w'->Q .ret a' w')
  (hP:∀v n a' w',sQ v n->a'.defers=a.defers->(∃F' L',St F' L' w'/\Step F0 (inp Li) w0 F' L' w'/\Aq G PS F' L' v)->Q (.panic n) a' w'):c.wp P Q a w:=by
 obtain⟨F,L,ρ,M,τ,g1,g2,y,x,s,z⟩:=h;refine wp_mono (f7 c hl (fun k _ r=>.inl (hG k r)) g1 g2 y x (hK M τ z)) ?_;intro e a' w' d;cases e with
 | normal =>
  obtain⟨F',L',ρ',k1,f,p,m,o,k6,M',b,q,k8⟩:=d;exact hN a' w' m ⟨F',L',ρ',M',b,k1,f,q,p,s.trans o,k8⟩
 | ret =>
  obtain⟨F',L',ρ',k1,f,p,m,o,k6,M',b,q,k8⟩:=d;exact hR a' w' m ⟨F',L',ρ',M',b,k1,f,q,p,s.trans o,k8⟩
 | exit j=>obtain⟨F',L',ρ',_,_,_,_,_,_,M',b,_,h⟩:=d;exact h.elim
 | goto l=>exact d.elim
 | panic n =>
  obtain⟨v,t,F',L',k1,f,p,m,o,kp⟩:=d;exact hP v n a' w' t m ⟨F',L',k1,s.trans f,kp⟩
 | outgrown=>exact d.elim
end
theorem Fp {F:aA}{L:Loc}{M:TL}(c:Ga F L M):∀{ks:List Nat}{Lin:List TO},M.sub ks=some Lin->∃Li,L.sub ks=some Li/\Li.length=Lin.length/\∀(i:Nat) o p,Lin[i]?=some o->Li[i]?=some p->cZ F L o p
 | [],Lin,h=>by simp only[TL.sub,aa1] at h;subst h;exact⟨[],rfl,rfl,by simp⟩
 | k::ks,Lin,h=>by
  simp only[TL.sub] at h;split at h
  case h_2=>cases h
  rename_i o l h1 h2;injection h with h
  subst h;obtain⟨Li,e,n,j⟩:=Fp c h2;obtain⟨p,m,d⟩:=c k o h1;refine⟨p::Li,by simp only[Loc.sub,m,e],by simp[n],fun i o' f b a=>?_⟩;cases i with
  | zero =>
   simp only[abm,aa1] at b a;subst b a;exact d
  | succ i=>exact j i o' f b a
theorem Ux {F:aA}{L:Loc}{ks:List Nat}{Lin:List TO}{Li:List Own}(e:Li.length=Lin.length) (c:L.sub ks=some Li) (d:∀(i:Nat) o p,Lin[i]?=some o->Li[i]?=some p->cZ F L o p) :
  bV F (inp Li) (cT (Lin.map (TO.aaq (C.ren (bn ks 1000))))):=by
 intro k;rw[cG,aJ];split
 ·rw[abk];cases b:Lin[k-1000]? with
  | none =>
   have:Li[k-1000]?=none:=by rw[abT] at b ⊢;omega
   rw[this];trivial
  | some o =>
   have a:k-1000<Li.length:=by have:=(aa6.1 b).1;omega
   rw[aa4 a];exact(d _ _ _ b (aa4 a)).ren (lX c)
 ·trivial
theorem Fq {L:Loc}{ks:List Nat}{Lo:List Own}(c:L.sub ks=some Lo):∀b,(inp Lo).owns b->L.owns b:=by
 obtain⟨h,d⟩:=cP c;rintro b ⟨j,p,e,hb⟩;rw[aJ] at e;split at e
 case isFalse=>cases e
 have f:j-1000<Lo.length:=(aa6.1 e).1;have a:ks[j-1000]?=some (ks[j-1000]'(by omega)):=aa4 (by omega);exact⟨_,p,by rw[d _ _ a];exact e,hb⟩
theorem Uy:ZK=.region 10 #[{dst:=some 37,op:=.makeFunc (.func 83) #[] #[.tmp 2],type:=1,pos:="traits.go:134",after:=#[],guard:=none},
  {dst:=none,op:=.defer {callee:=.value (.tmp 37),args:=#[],argTypes:=#[]},type:=0,pos:="traits.go:134",after:=#[{on:=0,ground:=Ground.data}],guard:=none}] false:=by kernel_rfl
def dq (v:Value):Deferred:={target:=.fn (.func 83) #[v],args:=#[]}
theorem wpD {a:Act}{w:World}{v:Value}{Q:Exit->Act->World->Prop}(c:a.tmps.size=97) (h2:a.tmps.getD 2 undef=v) (h:Q .normal {(a.put (some 37) (.func (.func 83) #[] #[v])) with defers:=dq v::a.defers} w):ZK.wp P Q a w:=by
 rw[Uy];apply wp_region;have h2':a.tmps[2]?.getD undef=v:=by rw[<-abp];exact h2
 have b:∀q:2<a.tmps.size,a.tmps[2]'q=v:=fun q=>by rw[Array.getElem?_eq_getElem q] at h2';exact h2'
 simp[wpOps,go_sem,Region.wanted,c,h2',b,Array.getElem?_setIfInBounds,Instr.makeFunc]
 first
  | exact .inl (.inl h)
  | (trace_state;sorry)
theorem GR {v:Value}{a:List PanicEntry}(h:sQ v a):settle (.panicking a)=.panicking a:=by
 obtain⟨b,rfl,_⟩:=h;rfl
theorem Rc {F:aA}{L:Loc}{ρ:Env}{τ:aG}{p:Prog}{g:ct}{x:Value}(h:∀j,aN F L (τ j) (ρ j)) (hb:HB p g τ):∀j,aN F L (eB p g j) (Fr.put (some 37) (.v x) ρ j):=by
 obtain⟨h1,h2,h4,h5,h6,n⟩:=hb;intro j
 by_cases a:j=37
 ·subst a;trivial
 have r:Fr.put (some 37) (.v x) ρ j=ρ j:=by
  have b:Nat.beq j 37=false:=mr a;simp only[Fr.put,b]
 rw[r]
 by_cases c:j=1
 ·subst c;have:=h 1;rw[h1] at this;exact this
 by_cases k:j=2
 ·subst k;have:=h 2;rw[h2] at this;exact this
 by_cases e:j=4
 ·subst e;have:=h 4;rw[h4] at this;exact this
 by_cases l:j=5
 ·subst l;have:=h 5;rw[h5] at this;exact this
 by_cases d:j=6
 ·subst d;have:=h 6;rw[h6] at this;exact this
 by_cases f:j=7
 ·subst f;have:=h 7;rw[n] at this;exact this
 have m:Nat.beq j 1=false:=mr c;have s:Nat.beq j 2=false:=mr k;have o:Nat.beq j 4=false:=mr e;have q:Nat.beq j 5=false:=mr l;have u:Nat.beq j 6=false:=mr d;have t:Nat.beq j 7=false:=mr f;simp only[eB,bH,m,s,o,q,u,t];trivial
theorem Uz (p:Prog) (bs:List aS) (c:Int) (gs:List ct) (g:ct) (res:qu) (dl:gs.length<=400)
  (hA:evalTC P ⟨fun _=>True,[],some (AW p bs gs res)⟩ zqA (fun _ _ _=>False) (fun L ρ=>hU L ρ [(7,some (true,4))] fun m=>fe (PB p bs c gs) L (gZ m) (RQ p bs gs res))
   (fun M τ=>(c+1<=400/\(gs.any fun h=>ig h g)=false/\¬bG (lQ g) bs 0>=0)/\M=MB p bs (c+1) (gs++[g])/\HB p g τ) (cT (PB p bs c gs)) (ku 0 (AV p bs g)))
  (hB:c+1<=400/\(gs.any fun h=>ig h g)=false/\¬bG (lQ g) bs 0>=0->evalTC P ⟨fun _=>True,[],some (AW p bs (gs++[g]) res)⟩ ZM (fun _ _ _=>False) (Xe p bs (gs++[g]) res) (fun _ _=>False) (MB p bs (c+1) (gs++[g])) (eB p g)) :
  Ur p bs c gs g res:=by
 refine⟨fun F Li m hl bm ha=>⟨⟨Try.f77,Try.func77,by rw[Fg];rfl,by kernel_rfl⟩,gV.aaC,fun w hs=>?_⟩⟩;have eh:Try.f77.ntmps=97:=by kernel_rfl
 have an:nI P Try.f77.results.toList=some [(7,some (true,4))]:=by kernel_rfl
 have dE:m.length=6:=by have:=ha.len;simpa using this
 obtain⟨G,ee,he,ht,bz,ac⟩:=Uw (97-m.toArray.size) hl bm ha hs;refine calls_of_wp_defers Try.func77 Fg ?_;rw[eh];generalize hR:(fun(en:Ending) (w':World)=>(∃v F' Lo,en=.returned v/\St F' (inp Lo) w'/\Step F (inp Li) w F' (inp Lo) w'/\gV Li (RQ p bs gs res) F' Lo v) \/
  ∃v l F' Lo,en=.panicked l/\sQ v l/\St F' (inp Lo) w'/\Step F (inp Li) w F' (inp Lo) w'/\Lo.length=Li.length/\(∀(i:Nat) g t cs,Li[i]?=some (.box g t cs)->∃cs',Lo[i]?=some (.box g t cs'))/\∃Mo,Mo.length=Lo.length/\bV F' (inp Lo) (cT Mo)/\PQ p bs gs res Mo v)=RR
 have bk:Li.length=4:=hl
 -- the boxes that were handed over
 have ae:∀(i:Nat) b t cs,Li[i]?=some (.box b t cs)->G (1000+i)=some (b,t):=fun i b t cs hi=>bz _ b t cs (by rw[aJ,eu (by omega),show 1000+i-1000=i by omega];exact hi);have cy:∀k b t,G k=some (b,t)->∃cs i,k=1000+i/\i<4/\Li[i]?=some (.box b t cs):=fun k b t e=>by
  obtain⟨cs,h⟩:=ht.kp k b t e;rw[aJ] at h;split at h
  case isFalse=>cases h
  refine⟨cs,k-1000,by omega,?_,h⟩;rw[<-bk];exact(aa6.1 h).1
 -- the box of the goals above
 have bb:∃b1 t1 be,Li[1]?=some (.box b1 t1 be):=by
  have q:=bm 1001;rw[aJ,eu (by omega)] at q;have q:yL F (inp Li) (some (.box 107 [.rw 1003])) (Li[1]?):=q;cases e:Li[1]? with
  | none=>rw[e] at q;exact q.elim
  | some o =>
   rw[e] at q;cases o with
   | row=>exact q.elim
   | box b t cs=>exact⟨b,t,cs,rfl⟩
 obtain⟨b1,t1,be,bb⟩:=bb;have bi:=ae 1 b1 t1 be bb
 -- how a panic ends
 have Rp:∀v l w' F' Lo c' e,sQ v l->res=(.error e,c')->v=Ac e->St F' (inp Lo) w'->Step F (inp Li) w F' (inp Lo) w'->Lo.length=4->bV F' (inp Lo) (cT (PB p bs c' gs))->(∀(i:Nat) g t cs,Li[i]?=some (.box g t cs)->∃cs',Lo[i]?=some (.box g t cs'))->RR (.panicked l) w':=by
  intro v l w' F' Lo c' e q1 q2 q3 q4 q5 q6 q7 q8;rw[<-hR];exact .inr ⟨v,l,F',Lo,rfl,q1,q4,q5,by rw[q6,bk],q8,PB p bs c' gs,by rw[q6];rfl,q7,e,c',q2,rfl,q3⟩
 -- what there is when it panics
 have bo:∀(bv:List ct) (v:Value) (w':World),(∃F' L',St F' L' w'/\Step F (inp Li) w F' L' w'/\Aq G ⟨fun _=>True,[],some (AW p bs bv res)⟩ F' L' v) ->
   ∃F' Lo c' e,St F' (inp Lo) w'/\Step F (inp Li) w F' (inp Lo) w'/\Lo.length=4/\bV F' (inp Lo) (cT (PB p bs c' bv))/\res=(.error e,c')/\v=Ac e/\(∀(i:Nat) g t cs,Li[i]?=some (.box g t cs)->∃cs',Lo[i]?=some (.box g t cs')):=by
  rintro bv v w' ⟨F',L',g1,g2,kp,_,_,ej⟩;obtain⟨M',hp,Mo,am,e,c',hr,rfl,hv⟩:=ej _ rfl;obtain⟨Lo,d1,d2,d3⟩:=Fp hp am;obtain⟨x1,x2⟩:=cP d1;refine⟨F',Lo,c',e,g1.handed d1 (by decide),g2.sub (Fq d1),d2,Ux d2 d1 d3,hr,hv,fun i b t cs hi=>?_⟩;have cd:i<4:=by rw[<-bk];exact(aa6.1 hi).1
  obtain⟨cs',h⟩:=kp _ b t (ae i b t cs hi);have hk:([1000,1001,1002,1003]:List Nat)[i]?=some (1000+i):=by
   match i,cd with
   | 0,_=>rfl
   | 1,_=>rfl
   | 2,_=>rfl
   | 3,_=>rfl
  exact⟨cs',by rw[<-x2 i _ hk];exact h⟩
 have s:∀(v:Value) (l:List PanicEntry) (a':Act) (w':World),sQ v l->a'.defers=[]->(∃F' L',St F' L' w'/\Step F (inp Li) w F' L' w'/\Aq G ⟨fun _=>True,[],some (AW p bs gs res)⟩ F' L' v)->bodyPostD P Try.f77 RR (.panic l) a' w':=by
  intro v l a' w' y hd z;obtain⟨F',Lo,c',e,k1,k2,k3,k4,k5,k6,k7⟩:=bo gs v w' z;show Leaves P Try.f77 a'.tmps RR a'.defers (.panicking l) w';rw[hd];exact Rp v l w' F' Lo c' e y k5 k6 k1 k2 k3 k4 k7
 have dd:∀(v:Value) (l:List PanicEntry) (a':Act) (w':World),sQ v l->a'.defers=[dq (.pointer (some ⟨b1,0,none⟩))]->(∃F' L',St F' L' w'/\Step F (inp Li) w F' L' w'/\Aq G ⟨fun _=>True,[],some (AW p bs (gs++[g]) res)⟩ F' L' v)->bodyPostD P Try.f77 RR (.panic l) a' w':=by
  intro v l a' w' y hd z;obtain⟨F',Lo,c',e,k1,k2,k3,k4,k5,k6,k7⟩:=bo (gs++[g]) v w' z;show Leaves P Try.f77 a'.tmps RR a'.defers (.panicking l) w';rw[hd];obtain⟨dn,ao⟩:=k7 1 b1 t1 be bb;refine leaves_cons (f:=83) (args:=#[.pointer (some ⟨b1,0,none⟩)]) (by simp) (by simp[invoke]) ?_;refine(ZO dl k3 k4 ao (.panicking l) w' k1).mono ?_;rintro en u' w2 ⟨rfl,v2,F2,Lo2,rfl,m1,m2,m3,m4,m5⟩;show Leaves P Try.f77 a'.tmps RR [] (settle (.panicking l)) w2;rw[GR y];exact Rp v l w2 F2 Lo2 c' e y k5 k6 m1 (k2.trans m2) m3 m4 fun i b t cs hi=>let⟨cs',h⟩:=k7 i b t cs hi;m5 i b t cs' h
 -- how it returns
 have u:∀(a':Act) (w':World),a'.defers=[]->FC G F Li w (fun L ρ=>hU L ρ [(7,some (true,4))] fun m=>fe (PB p bs c gs) L (gZ m) (RQ p bs gs res)) a' w'->bodyPostD P Try.f77 RR .ret a' w':=by
  rintro a' w' hd ⟨F',L',ρ',M',dg,g1,g2,g3,g4,g5,cX⟩;have hq:=BH (P:=P) (fn:=Try.f77) (rs:=[(7,some (true,4))]) (n:=97) (asg:=[]) (a0:=a') (a':=a') (w':=w') an hl bm bz
   ⟨F',L',ρ',g1,g2,g4,rfl,g5,fun _ _=>rfl,M',dg,g3,cX⟩
  obtain⟨_,v,k2,F2,Lo,k3,k4,k5⟩:=hq;show Leaves P Try.f77 a'.tmps RR a'.defers .returning w';rw[hd];exact⟨v,k2,by rw[<-hR];exact .inl ⟨v,F2,Lo,rfl,k3,k4,k5⟩⟩
 have Mx:∀(a':Act) (w':World),a'.defers=[dq (.pointer (some ⟨b1,0,none⟩))]->FC G F Li w (Xe p bs (gs++[g]) res) a' w'->bodyPostD P Try.f77 RR .ret a' w':=by
  rintro a' w' hd ⟨F',L',ρ',M',dg,g1,g2,g3,g4,g5,h7,r,c',hr,am⟩;rw[jz] at am;obtain⟨Lo,d1,d2,d3⟩:=kN g3.tl am;obtain⟨x1,x2⟩:=cP d1;have dC:bV F' (inp Lo) (cT (PB p bs c' (gs++[g])++[.box 64 [.bool r.assumed,IC r.index,.sl (r.types.map aD),.sl (r.proofs.map iE)]])):=lN g3.tl d2 d1 d3;have ao:∀(i:Nat) b t cs,Li[i]?=some (.box b t cs)->∃cs',Lo[i]?=some (.box b t cs'):=fun i b t cs hi=>by
   have cd:i<4:=by rw[<-bk];exact(aa6.1 hi).1
   obtain⟨cs',h⟩:=g3.kp _ b t (ae i b t cs hi);have hk:([1000,1001,1002,1003,7]:List Nat)[i]?=some (1000+i):=by
    match i,cd with
    | 0,_=>rfl
    | 1,_=>rfl
    | 2,_=>rfl
    | 3,_=>rfl
   exact⟨cs',by rw[<-x2 i _ hk];exact h⟩
  have ar:ρ' 7=.own 7 0/\∃b7 t7 bj,L'.get 7=some (.box b7 t7 bj):=by
   have:=g3.env 7;rw[h7] at this;exact this
  obtain⟨ar,b7,t7,bj,dp⟩:=ar;have cY:Lo[4]?=some (.box b7 t7 bj):=by rw[<-x2 4 7 rfl];exact dp
  have dx:a'.tmps.getD 7 undef=.pointer (some ⟨b7,0,none⟩):=by
   rw[g2.eq 7,ar];simp only[conc,dp]
  show Leaves P Try.f77 a'.tmps RR a'.defers .returning w';rw[hd];obtain⟨dn,cb⟩:=ao 1 b1 t1 be bb;refine leaves_cons (f:=83) (args:=#[.pointer (some ⟨b1,0,none⟩)]) (by simp) (by simp[invoke]) ?_;refine(WC dl d2 dC cb .returning w' (g1.handed d1 (by decide))).mono ?_;rintro en u' w2 ⟨rfl,v2,F2,Lo2,rfl,m1,m2,m3,m4,m5⟩;show Leaves P Try.f77 a'.tmps RR [] .returning w2;obtain⟨dk,cf⟩:=m5 4 b7 t7 bj cY;have ag:(inp Lo2).get 1004=some (.box b7 t7 dk):=by rw[aJ,eu (by omega)];exact cf
  have av:∀j,j≠7->Fr.put (some 7) (.own 1004 0) (fun j=>.v (a'.tmps.getD j undef)) j=.v (a'.tmps.getD j undef):=fun j hj=>by
   have b:Nat.beq j 7=false:=mr hj;simp only[Fr.put,b]
  have ci:∀j,j≠7->bH (some 7) (.own 1004 0) (fun _=>.any) j=.any:=fun j hj=>by
   have b:Nat.beq j 7=false:=mr hj;simp only[bH,b]
  have hq:=BH (P:=P) (G:=G) (F:=F) (w:=w) (fn:=Try.f77) (rs:=[(7,some (true,4))]) (n:=97) (asg:=[]) (a0:=a') (a':=a') (w':=w2) (R:=RQ p bs gs res) an hl bm bz
   ⟨F2,inp Lo2,Fr.put (some 7) (.own 1004 0) (fun j=>.v (a'.tmps.getD j undef)),m1,?_,g4,rfl,(g5.sub (Fq d1)).trans m2,fun _ _=>rfl,cT (PB p bs c' gs++[.box 64 [.bool r.assumed,IC r.index,.sl (r.types.map aD),.sl (r.proofs.map iE)]]),bH (some 7) (.own 1004 0) (fun _=>.any),⟨m4,fun j=>?_,fun k b t e=>?_,m1.glob⟩,?_⟩
  ·obtain⟨_,v,k2,F3,Lo3,k3,k4,k5⟩:=hq;exact⟨v,k2,by rw[<-hR];exact .inl ⟨v,F3,Lo3,rfl,k3,k4,k5⟩⟩
  ·refine⟨fun j=>?_,fun j k off e=>?_,fun j ad i e=>?_⟩
   ·by_cases hj:j=7
    ·subst hj;rw[dx];show _=conc (inp Lo2) (.own 1004 0);simp only[conc,ag]
    ·rw[av j hj];rfl
   ·by_cases hj:j=7
    ·subst hj;have e:SV.own 1004 0=.own k off:=e;injection e with e1 e2
     subst e1;exact⟨_,_,_,ag⟩
    ·rw[av j hj] at e;cases e
   ·by_cases hj:j=7
    ·subst hj;have e:SV.own 1004 0=.el ad i:=e;cases e
    ·rw[av j hj] at e;cases e
  ·by_cases hj:j=7
   ·subst hj;exact⟨rfl,_,_,_,ag⟩
   ·rw[ci j hj];trivial
  ·obtain⟨cs,i,rfl,fd,hi⟩:=cy k b t e;obtain⟨cs',h'⟩:=ao i b t cs hi;obtain⟨cM,dy⟩:=m5 i b t cs' h';exact⟨cM,by rw[aJ,eu (by omega),show 1000+i-1000=i by omega];exact dy⟩
  ·exact qa [1000,1001,1002,1003] rfl rfl rfl rfl ⟨r,c',hr,rfl,by rw[jz];rfl⟩
 -- the pieces
 have M0:FC G F Li w (fun M τ=>M=cT (PB p bs c gs)/\τ=ku 0 (AV p bs g)) {tmps:=m.toArray++Array.replicate (97-m.toArray.size) undef,defers:=[]} w :=
  ⟨F,inp Li,ee,_,_,hs,he,ht,by simp[dE],Step.refl _ _ _,rfl,rfl⟩
 generalize ea:({tmps:=m.toArray++Array.replicate (97-m.toArray.size) undef,defers:=[]}:Act)=a0 at M0;have cm:a0.defers=[]:=by rw[<-ea]
 refine wp_seq (FC.piece Wp ac M0 (PS:=⟨fun _=>True,[],some (AW p bs gs res)⟩) (R:=(fun L ρ=>hU L ρ [(7,some (true,4))] fun m=>fe (PB p bs c gs) L (gZ m) (RQ p bs gs res))) (N:=(fun M τ=>evalTC P ⟨fun _=>True,[],some (AW p bs gs res)⟩ (.seq ZL (.seq Xd (.seq Wo (.seq UX (.seq Uq Sy))))) (fun _ _ _=>False) (fun L ρ=>hU L ρ [(7,some (true,4))] fun m=>fe (PB p bs c gs) L (gZ m) (RQ p bs gs res)) (fun M τ=>(c+1<=400/\(gs.any fun h=>ig h g)=false/\¬bG (lQ g) bs 0>=0)/\M=MB p bs (c+1) (gs++[g])/\HB p g τ) M τ))
  (fun M τ q=>by rw[q.1,q.2];exact hA) (fun a1 w1 aw M1=>?_) (fun a' w' hd h=>u a' w' (hd.trans cm) h) (fun v l a' w' y hd z=>s v l a' w' y (hd.trans cm) z))
 have aw:=aw.trans cm;refine wp_seq (FC.piece Wq ac M1 (PS:=⟨fun _=>True,[],some (AW p bs gs res)⟩) (R:=(fun L ρ=>hU L ρ [(7,some (true,4))] fun m=>fe (PB p bs c gs) L (gZ m) (RQ p bs gs res))) (N:=(fun M τ=>evalTC P ⟨fun _=>True,[],some (AW p bs gs res)⟩ (.seq Xd (.seq Wo (.seq UX (.seq Uq Sy)))) (fun _ _ _=>False) (fun L ρ=>hU L ρ [(7,some (true,4))] fun m=>fe (PB p bs c gs) L (gZ m) (RQ p bs gs res)) (fun M τ=>(c+1<=400/\(gs.any fun h=>ig h g)=false/\¬bG (lQ g) bs 0>=0)/\M=MB p bs (c+1) (gs++[g])/\HB p g τ) M τ))
  (fun M τ q=>q) (fun a2 w2 bc M2=>?_) (fun a' w' hd h=>u a' w' (hd.trans aw) h) (fun v l a' w' y hd z=>s v l a' w' y (hd.trans aw) z))
 have bc:=bc.trans aw;refine wp_seq (FC.piece Wr ac M2 (PS:=⟨fun _=>True,[],some (AW p bs gs res)⟩) (R:=(fun L ρ=>hU L ρ [(7,some (true,4))] fun m=>fe (PB p bs c gs) L (gZ m) (RQ p bs gs res))) (N:=(fun M τ=>evalTC P ⟨fun _=>True,[],some (AW p bs gs res)⟩ (.seq Wo (.seq UX (.seq Uq Sy))) (fun _ _ _=>False) (fun L ρ=>hU L ρ [(7,some (true,4))] fun m=>fe (PB p bs c gs) L (gZ m) (RQ p bs gs res)) (fun M τ=>(c+1<=400/\(gs.any fun h=>ig h g)=false/\¬bG (lQ g) bs 0>=0)/\M=MB p bs (c+1) (gs++[g])/\HB p g τ) M τ))
  (fun M τ q=>q) (fun a3 w3 bd M3=>?_) (fun a' w' hd h=>u a' w' (hd.trans bc) h) (fun v l a' w' y hd z=>s v l a' w' y (hd.trans bc) z))
 have bd:=bd.trans bc;refine wp_seq (FC.piece Ws ac M3 (PS:=⟨fun _=>True,[],some (AW p bs gs res)⟩) (R:=(fun L ρ=>hU L ρ [(7,some (true,4))] fun m=>fe (PB p bs c gs) L (gZ m) (RQ p bs gs res))) (N:=(fun M τ=>evalTC P ⟨fun _=>True,[],some (AW p bs gs res)⟩ (.seq UX (.seq Uq Sy)) (fun _ _ _=>False) (fun L ρ=>hU L ρ [(7,some (true,4))] fun m=>fe (PB p bs c gs) L (gZ m) (RQ p bs gs res)) (fun M τ=>(c+1<=400/\(gs.any fun h=>ig h g)=false/\¬bG (lQ g) bs 0>=0)/\M=MB p bs (c+1) (gs++[g])/\HB p g τ) M τ))
  (fun M τ q=>q) (fun a4 w4 az M4=>?_) (fun a' w' hd h=>u a' w' (hd.trans bd) h) (fun v l a' w' y hd z=>s v l a' w' y (hd.trans bd) z))
 have az:=az.trans bd;refine wp_seq (FC.piece Wt ac M4 (PS:=⟨fun _=>True,[],some (AW p bs gs res)⟩) (R:=(fun L ρ=>hU L ρ [(7,some (true,4))] fun m=>fe (PB p bs c gs) L (gZ m) (RQ p bs gs res))) (N:=(fun M τ=>evalTC P ⟨fun _=>True,[],some (AW p bs gs res)⟩ (.seq Uq Sy) (fun _ _ _=>False) (fun L ρ=>hU L ρ [(7,some (true,4))] fun m=>fe (PB p bs c gs) L (gZ m) (RQ p bs gs res)) (fun M τ=>(c+1<=400/\(gs.any fun h=>ig h g)=false/\¬bG (lQ g) bs 0>=0)/\M=MB p bs (c+1) (gs++[g])/\HB p g τ) M τ))
  (fun M τ q=>q) (fun a5 w5 ba M5=>?_) (fun a' w' hd h=>u a' w' (hd.trans az) h) (fun v l a' w' y hd z=>s v l a' w' y (hd.trans az) z))
 have ba:=ba.trans az;refine wp_seq (FC.piece Wu ac M5 (PS:=⟨fun _=>True,[],some (AW p bs gs res)⟩) (R:=(fun L ρ=>hU L ρ [(7,some (true,4))] fun m=>fe (PB p bs c gs) L (gZ m) (RQ p bs gs res))) (N:=(fun M τ=>evalTC P ⟨fun _=>True,[],some (AW p bs gs res)⟩ Sy (fun _ _ _=>False) (fun L ρ=>hU L ρ [(7,some (true,4))] fun m=>fe (PB p bs c gs) L (gZ m) (RQ p bs gs res)) (fun M τ=>(c+1<=400/\(gs.any fun h=>ig h g)=false/\¬bG (lQ g) bs 0>=0)/\M=MB p bs (c+1) (gs++[g])/\HB p g τ) M τ))
  (fun M τ q=>q) (fun a6 w6 aE M6=>?_) (fun a' w' hd h=>u a' w' (hd.trans ba) h) (fun v l a' w' y hd z=>s v l a' w' y (hd.trans ba) z))
 have aE:=aE.trans ba;refine wp_seq (FC.piece Wv ac M6 (PS:=⟨fun _=>True,[],some (AW p bs gs res)⟩) (R:=(fun L ρ=>hU L ρ [(7,some (true,4))] fun m=>fe (PB p bs c gs) L (gZ m) (RQ p bs gs res))) (N:=(fun M τ=>(c+1<=400/\(gs.any fun h=>ig h g)=false/\¬bG (lQ g) bs 0>=0)/\M=MB p bs (c+1) (gs++[g])/\HB p g τ))
  (fun M τ q=>q) (fun a7 w7 ca M7=>?_) (fun a' w' hd h=>u a' w' (hd.trans aE) h) (fun v l a' w' y hd z=>s v l a' w' y (hd.trans aE) z))
 have ca:=ca.trans aE;obtain⟨F7,L7,fr,N7,fb,f1,f2,f3,f4,f5,cl,rfl,da⟩:=M7;have dj:a7.tmps.getD 2 undef=.pointer (some ⟨b1,0,none⟩):=by
  have h2:=f3.env 2;rw[da.2.1] at h2;obtain⟨h2,_⟩:=h2;obtain⟨cs',hg⟩:=f3.kp 1001 b1 t1 bi;rw[f2.eq 2,h2];simp only[conc,hg]
 refine wp_seq (wpD f4 dj ?_);have MD:FC G F Li w (fun M τ=>M=MB p bs (c+1) (gs++[g])/\τ=eB p g) {(a7.put (some 37) (.func (.func 83) #[] #[.pointer (some ⟨b1,0,none⟩)])) with defers:=dq (.pointer (some ⟨b1,0,none⟩))::a7.defers} w7:=by
  have cc:=f2.put (L':=L7) (d:=some 37) (v:=.func (.func 83) #[] #[.pointer (some ⟨b1,0,none⟩)]) (x:=.v (.func (.func 83) #[] #[.pointer (some ⟨b1,0,none⟩)])) (fun k hk=>by injection hk with hk;subst hk;omega) rfl cK fD (fun k g ty cs e=>⟨cs,e⟩);exact⟨F7,L7,_,_,_,f1,⟨cc.eq,cc.own,cc.el⟩,⟨f3.tl,Rc f3.env da,f3.kp,f3.glob⟩,by simpa[Act.put] using f4,f5,rfl,rfl⟩
 have cz:(dq (.pointer (some ⟨b1,0,none⟩))::a7.defers)=[dq (.pointer (some ⟨b1,0,none⟩))]:=by rw[ca]
 refine FC.piece Ww ac MD (PS:=⟨fun _=>True,[],some (AW p bs (gs++[g]) res)⟩) (R:=Xe p bs (gs++[g]) res) (N:=fun _ _=>False)
  (fun M τ q=>by rw[q.1,q.2];exact hB cl) (fun a' w' _ h=>(by obtain⟨_,_,_,_,_,_,_,_,_,_,h⟩:=h;exact h.elim)) (fun a' w' hd h=>Mx a' w' (hd.trans cz) h) (fun v l a' w' y hd z=>dd v l a' w' y (hd.trans cz) z)
theorem Fs {f:Int->ct->qu}(hf:∀c g r d,0<=c->c<=400->f c g=(.ok r,d)->c<d/\d<=400):∀(l:List ct) (c:Int) (a:List gR) ps b,0<=c->c<=400->fQ f l c a=(.ok ps,b)->c<=b/\b<=400
 | [],c,a,ps,b,h0,h4,h=>by
  have h:(Except.ok a,c)=((Except.ok ps:Except Int (List gR)),b):=h;injection h with h1 h2
  subst h2;exact⟨abn _,h4⟩
 | g::l,c,a,ps,b,h0,h4,h=>by
  rw[fQ] at h;cases j:f c g with
  | mk k d =>
   rw[j] at h;cases k with
   | error e=>injection h with h;cases h
   | ok r =>
    have h1:=hf c g r d h0 h4 j;have h2:=Fs hf l d (a++[r]) ps b (by omega) h1.2 h;omega
theorem o7 (p:Prog) (bs:List aS):∀(n:Nat) (j:List ct) (c:Int) (g:ct) r d,0<=c->c<=400->cN p bs n j c g=(.ok r,d)->c<d/\d<=400
 | 0,j,c,g,r,d,_,_,h=>by rw[cN] at h;injection h with h;cases h
 | n+1,j,c,g,r,d,h0,h4,h=>by
  rw[cN] at h;split at h
  ·injection h with h;cases h
  rename_i t;split at h
  ·injection h with h;cases h
  split at h
  ·injection h with _ h;subst h;omega
  cases l:nB g p.impls 0 with
  | none=>rw[l] at h;injection h with h;cases h
  | some q =>
   obtain⟨k,x,ts⟩:=q;rw[l] at h;simp only at h;cases m:fQ (cN p bs n (j++[g])) (x.bounds.map (kT ts)) (c+1) [] with
   | mk o s =>
    rw[m] at h;cases o with
    | error e=>injection h with h;cases h
    | ok ps =>
     injection h with _ h
     subst h;have:=Fs (f:=cN p bs n (j++[g])) (fun c q r d a b=>o7 p bs n (j++[g]) c q r d a b) (x.bounds.map (kT ts)) (c+1) [] ps s (by omega) (by omega) m;omega
theorem t77 (p:Prog) (bs:List aS) (b:p.impls.length<=9223372036854775807):∀(n:Nat) (gs:List ct) (c:Int) (g:ct),0<=c->c<=400->(gs.length:Int)<=c->401<=(n:Int)+c->Ur p bs c gs g (cN p bs n gs c g)
 | 0,gs,c,g,h0,h4,_,e=>o5 e (by omega)
 | n+1,gs,c,g,h0,h4,s,e=>by
  generalize a:cN p bs (n+1) gs c g=res;have a:=a;rw[cN] at a;refine Uz p bs c gs g res (by omega) (Wy p bs c gs g res ⟨h0,h4⟩ s (fun h=>by rw[eu h] at a;exact a.symm) (fun h h2=>by rw[fo h,eu h2] at a;exact a.symm)
   (fun h h2 h3=>by rw[fo h,fo (by rw[h2];exact abt),eu h3] at a;exact a.symm)) ?_
  rintro⟨k1,j,o⟩;rw[fo (by omega),fo (by rw[j];exact abt),fo o] at a;refine WA p bs (c+1) (gs++[g]) g res (cN p bs n (gs++[g])) (nB g) ⟨by omega,by omega⟩ (by rw[abP];simp;omega) b (fun k=>rfl) (fun x l k=>rfl) (fun h=>?_) (fun k x ts h=>?_) fun d f h1 h2=>⟨t77 p bs b n (gs++[g]) d f (by omega) h2 (by rw[abP];simp;omega) (by omega),fun r m h=>o7 p bs n (gs++[g]) d f r m (by omega) h2 h⟩
  ·rw[h] at a;exact a.symm
  ·rw[h] at a;simp only at a;rw[<-a];cases fQ (cN p bs n (gs++[g])) (x.bounds.map (kT ts)) (c+1) [] with
   | mk q d=>cases q<;>rfl
theorem Iy:∀{bs:List Own}{n m:Nat},Dz bs [n,m]->∃g t cs b a cs',bs=[.box g (t+1) cs,.box b (a+1) cs']/\cs.length=n/\cs'.length=m
 | [],_,_,h=>h.elim
 | [_],_,_,h=>h.2.elim
 | [o,p],n,m,h=>by
  cases o with
  | row=>exact h.1.elim
  | box g t cs =>
   cases t with
   | zero=>exact o5 rfl (xQ h.1)
   | succ t =>
    cases p with
    | row=>exact h.2.1.elim
    | box b a cs' =>
     cases a with
     | zero=>exact o5 rfl (xQ h.2.1)
     | succ a=>exact⟨g,t,cs,b,a,cs',rfl,h.1,h.2.1⟩
 | _::_::_::_,_,_,h=>h.2.2.elim
def AX:gR:=.mk false 0 [] []
def WD (v:Value):List (List Value):=match v with
 | .iface _ (.int _ n)=>[[.bool false,.int .i64 0,.slice none 0 0,.slice none 0 0],[.int .i64 n]]
 | _=>[]
theorem UA (bs:List Own) (w:World) (hb:Dz bs [4,1]):CallsD P 76 (bs.map mg).toArray .returning w fun e f w'=>e=.returned (.tuple #[])/\f=.returning/\w'=w:=by
 have c:Try.f76.ntmps=13:=by kernel_rfl
 have h:Try.f76.results=#[]:=by kernel_rfl
 obtain⟨g,t,cs,k,j,cs',rfl,_,_⟩:=Iy hb;refine callsD_of_wpS Try.func76 rfl fun a cs d=>?_;apply wpS_seq;apply wpS_region;simp[wpOpsS,go_sem,recoverD,d,c,Exit.thenS,mg];refine wpS_of_wp (wp_block (wp_seq (wp_region ?_)));have b:P.underlying 20=some (.interface #[]):=by kernel_rfl
 have he:∀w:World,(Op.equal 20 .nilIface .nilIface).run P w=.ok true w:=fun w=>FH b;simp[wpOps,go_sem,Exit.then,he,Exit.inBlock];refine .inl ?_;apply wp_cond_true
 ·simp[Act.eval,Array.replicate]
 apply wp_region;cases a
 simp_all [wpOps,go_sem,bodyPostS,results,Exit.inBlock]
theorem Rf:oL P 76 (fun v=>∃n,v=Ac n) [4,1] WD:=by
 refine wR Try.func76 Qo rfl UA ?_;rintro F bs v ⟨n,rfl⟩ hb;obtain⟨g,t,cs,h,f,cs',rfl,h1,h2⟩:=Iy hb
 match cs,h1 with
 | [a,b,c,d],_ =>
  match cs',h2 with
  | [x],_=>(try intro j)<;>(try intro e)<;>exact rfl
theorem Ci {f:Int->ct->qu}{E:Int->Prop}(hf:∀c g e d,f c g=(.error e,d)->E e):∀(l:List ct) (c:Int) (a:List gR) e b,fQ f l c a=(.error e,b)->E e
 | [],c,a,e,b,h=>by
  have h:(Except.ok a,c)=((Except.error e:Except Int (List gR)),b):=h;injection h with h;cases h
 | g::l,c,a,e,b,h=>by
  rw[fQ] at h;cases j:f c g with
  | mk k d =>
   rw[j] at h;cases k with
   | error m =>
    injection h with h
    injection h with h
    subst h;exact hf c g _ _ j
   | ok r=>exact Ci hf l d (a++[r]) e b h
theorem sj (p:Prog) (bs:List aS):∀(n:Nat) (a:List ct) (c:Int) (g:ct) e d,cN p bs n a c g=(.error e,d)->e=2\/e=9\/e=15
 | 0,a,c,g,e,d,h=>by rw[cN] at h;injection h with h;injection h with h;exact .inl h.symm
 | n+1,a,c,g,e,d,h=>by
  rw[cN] at h;split at h
  ·injection h with h;injection h with h;exact .inl h.symm
  split at h
  ·injection h with h;injection h with h;exact .inr (.inr h.symm)
  split at h
  ·injection h with h;cases h
  cases b:nB g p.impls 0 with
  | none=>rw[b] at h;injection h with h;injection h with h;exact .inr (.inl h.symm)
  | some q =>
   obtain⟨k,x,ts⟩:=q;rw[b] at h;simp only at h;cases j:fQ (cN p bs n (a++[g])) (x.bounds.map (kT ts)) (c+1) [] with
   | mk l o =>
    rw[j] at h;cases l with
    | ok ps=>injection h with h;cases h
    | error m =>
     injection h with h
     injection h with h
     subst h;exact Ci (f:=cN p bs n (a++[g])) (E:=fun e=>e=2\/e=9\/e=15) (fun c q e d h=>sj p bs n (a++[g]) c q e d h) _ _ _ _ _ j
theorem CallsTS.toX {P:Program}{f:Nat}{args:List C}{Lin:List TO}{R:List TO->C->Prop}{Pp:List TO->Value->Prop}{Pq:Value->Prop}(h:CallsTS P f args Lin R Pp) (l:∀Mo v,Pp Mo v->Pq v):CallsTX P f args Lin R Pq :=
 ⟨fun F Li n h1 h2 h3=>let k:=h.out F Li n h1 h2 h3;⟨k.ent,k.mono,fun w o=>(k.run w o).mono fun e w' q=>by
  rcases q with q | ⟨v,a,F',Lo,b,p,d,m,r,c,Mo,s,t,j⟩
  ·exact .inl q
  ·exact .inr ⟨v,a,F',Lo,b,p,d,m,r,c,l _ _ j⟩⟩⟩
theorem Rh (L1:TL) (ks ko:List Nat) {L:TL}{ρ:aG}{PS:oE}{Pp:Value->Prop}{f:Nat}{args a:List C}{K:TL->aG->C->Prop}{Lin Lin':List TO}(h:CallsTX P f a Lin' (fun _ _=>False) Pp) (p:gives L L1 L1) (m:L1.sub ks=some Lin)
  (b:(covers L L1&&T.aU ks&&T.aU ko&&jP L1 ks ko&&aH Lin ks ko)=true) (d:(args.map fun c=>c.aaw.ren (bn ks 1000))=a) (e:Lin.map (TO.aaq (C.ren (bn ks 1000)))=Lin') (k:∀v,Pp v->PS.ps v)
  (o:jQ L1 ks PS.hb=true:=by rfl):lK P PS f args L ρ K:=by
 subst d e;simp only[xo] at b;obtain⟨⟨⟨⟨n,l⟩,j⟩,c3⟩,c4⟩:=b;exact⟨[],ks,ko,L1,Lin,_,_,.inr ⟨p,n⟩,m,l,j,c3,c4,o,h,k,fun v Mo q=>q.elim⟩
noncomputable def iA (p:Prog) (bs:List aS) (tr:Int) (t:Ty):gR×Int:=match(cN p bs 401 [] 0 ⟨tr,t⟩).1 with
 | .ok r=>(r,0)
 | .error e=>(AX,e)
theorem Xf (p:Prog) (bs:List aS) (tr:Int) (t:Ty) (k:p.impls.length<=9223372036854775807):CallsT P 34 [nD p,.sl (bs.map aV),IC tr,aK t] [] (aQ [] (.tup [.agg (iE (iA p bs tr t).1),IC (iA p bs tr t).2])):=by
 have b:=t77 p bs k 401 [] 0 ⟨tr,t⟩ (by omega) (by omega) (by simp) (by omega);have a:=sj p bs 401 [] 0 ⟨tr,t⟩;unfold iA;generalize cN p bs 401 [] 0 ⟨tr,t⟩=res at b a ⊢;obtain⟨o,u⟩:=res;refine gX (PS:=fun v=>∃e,o=.error e/\v=Ac e) (ns:=[4,1]) (out:=WD) Try.func34 Qn (oL.mono Rf fun v ⟨e,_,h⟩=>⟨e,h⟩) (fun v ⟨e,_,h⟩=>by subst h;rfl) rfl rfl ?_ fun hw ho=>?_
 ·rintro v ⟨e,rfl,rfl⟩;have he:=a e u rfl;refine⟨.tup [.agg (iE AX),IC e],.tuple #[.agg #[.bool false,.int .i64 0,.slice none 0 0,.slice none 0 0],.int .i64 e],?_,?_,?_⟩
  ·intro L ρ h;obtain⟨a1,g1,t1,w⟩:=h 0 8 _ rfl rfl;obtain⟨x,g2,t2,b2⟩:=h 1 9 _ rfl rfl;simp only[nY,a1,w,x,b2];rfl
  ·intro F L;have n:Rel F L (.sl []) (.slice none 0 0):=by
    rw[Rel];exact⟨none,0,rfl,abh _,by decide,fun _=>⟨rfl,rfl⟩,1,by rw[gU];trivial⟩
   have hb:Rel F L (.bool false) (.bool false):=by rw[Rel]
   have l:aB F L [] []:=by rw[aB]
   have cons:∀{c cs v s},Rel F L c v->aB F L cs s->aB F L (c::cs) (v::s):=fun h1 h2=>by
    rw[aB];exact⟨_,_,rfl,h1,h2⟩
   rw[Rel];refine⟨[.agg [.bool false,.int .i64 0,.slice none 0 0,.slice none 0 0].toArray,.int .i64 e],rfl,cons ?_ (cons (YU (by omega) (by omega)) l)⟩;rw[Rel];exact⟨[.bool false,.int .i64 0,.slice none 0 0,.slice none 0 0],rfl,by rw[jz];exact cons hb (cons (YU (m:=0) (by omega) (by omega)) (cons n (cons n l)))⟩
  ·intro Mo d;have d:Mo=[]:=d;subst d;exact⟨rfl,rfl⟩
 refine⟨rfl,?_⟩;cases o with
 | error e =>
  have h:CallsTX P 77 (AV p bs ⟨tr,t⟩) (PB p bs 0 []) (fun _ _=>False) (fun v=>v=Ac e):=CallsTS.toX (CallsTS.imp b (fun Mo v ⟨r,j,q,_⟩=>by cases q) fun Mo v q=>q) fun Mo v ⟨y,j,q,_,f⟩=>by cases q;exact f
  exact Rh [(8,.box 64 [.bool false,IC 0,.nils,.nils]),(9,.box 45 [IC 0]),(10,.box 3 [IC 0]),(11,.box 107 [.rw 2000]),(12,.box 108 [.fn 77 [] [.own 10 0,.own 11 0,.pt [.sl (bs.map aV)] 0,.pt (kG p) 0,.own 12 0]]),(2000,.row 110 4 [])] [10,11,12,2000] [10,11,12,2000] h ⟨.inl ⟨_,rfl,.inl ⟨rfl,rfl⟩⟩,.inl ⟨_,rfl,.inl ⟨rfl,rfl⟩⟩,.inl ⟨_,rfl,.inl ⟨rfl,rfl⟩⟩,.inl ⟨_,rfl,.inr ⟨107,_,_,rfl,rfl,_,_,rfl,jf rfl rfl,rfl⟩⟩,.inl ⟨_,rfl,.inl ⟨rfl,rfl⟩⟩,.inr ⟨rfl,110,4,rfl⟩,trivial⟩ rfl rfl rfl rfl (fun v q=>⟨e,rfl,q⟩)
 | ok r =>
  have h:CallsTX P 77 (AV p bs ⟨tr,t⟩) (PB p bs 0 []) (aQ (PB p bs u []) (.agg [.bool r.assumed,IC r.index,.sl (r.types.map aD),.sl (r.proofs.map iE)])) (fun v=>False):=CallsTS.toX (CallsTS.imp b (fun Mo v ⟨r',j,q,z,f⟩=>by cases q;exact⟨z,by rw[f,jz]⟩) fun Mo v q=>q) fun Mo v ⟨y,j,q,_,f⟩=>by cases q
  refine Tj [(8,.box 64 [.bool false,IC 0,.nils,.nils]),(9,.box 45 [IC 0]),(10,.box 3 [IC 0]),(11,.box 107 [.rw 2000]),(12,.box 108 [.fn 77 [] [.own 10 0,.own 11 0,.pt [.sl (bs.map aV)] 0,.pt (kG p) 0,.own 12 0]]),(2000,.row 110 4 [])] [10,11,12,2000] [10,11,12,2000] h ⟨.inl ⟨_,rfl,.inl ⟨rfl,rfl⟩⟩,.inl ⟨_,rfl,.inl ⟨rfl,rfl⟩⟩,.inl ⟨_,rfl,.inl ⟨rfl,rfl⟩⟩,.inl ⟨_,rfl,.inr ⟨107,_,_,rfl,rfl,_,_,rfl,jf rfl rfl,rfl⟩⟩,.inl ⟨_,rfl,.inl ⟨rfl,rfl⟩⟩,.inr ⟨rfl,110,4,rfl⟩,trivial⟩ rfl rfl rfl rfl rfl (fun v q=>q.elim) fun _ _=>?_;rw[jz];exact ay rfl rfl
end Go.Fr.Try
