/- Part of the proofs of the statements of this seat. -/
import Derived.Test.YthfdbepkalpplaaTrP4G
import Derived.Test.YthfdbepkalpplaaFW2
set_option maxRecDepth 10000
set_option linter.unusedVariables false
set_option linter.unusedSimpArgs false
namespace Go.Fr.Try
open Go Go.RowKit Go.Proofs Go.Fr Go.Fr.T Go.Fr.Api
theorem Ya {F:aA}{p:Prog}{f:List bh}{c:Int}{gs:List cB}{g:cB}{Lo:List Own}{o t1:Nat}{a:List Value}(hg:gs.length<=400) (hl:Lo.length=4) (m:bS F (inp Lo) (cJ (PB p f c (gs++[g])))) (h1:Lo[1]?=some (.box o t1 a)) (u:FrameMode) (w:World) (hs:St F (inp Lo) w) :
  CallsD P 83 #[.pointer (some ⟨o,0,none⟩)] u w fun e u' w'=>u'=u/\∃v F' Lo',e=.returned v/\St F' (inp Lo') w'/\Step F (inp Lo) w F' (inp Lo') w'/\Lo'.length=4/\bS F' (inp Lo') (cJ (PB p f c gs))/\∀(i:Nat) b t cs,Lo[i]?=some (.box b t cs)->∃cs',Lo'[i]?=some (.box b t cs'):=by
 have ht:TS (fun _=>none) F (inp Lo) (fun _=>.v undef) (cJ (PB p f c (gs++[g]))) (fun _=>.any):=⟨m,fun _=>trivial,fun k g t e=>(by cases e),hs.glob⟩;have ac:(cJ (PB p f c (gs++[g]))).sub [1001,1003]=some [.box 107 [.rw 1003],Ai (gs++[g])]:=rfl;obtain⟨Li,z,e2,e3⟩:=kE m ac;have hn:[1001,1003].Nodup:=by decide
 obtain⟨x1,x2⟩:=cE z;have y:bS F (inp Li) (cJ [.box 107 [.rw 1001],Ai (gs++[g])]):=lz m e2 z e3;have n:(inp Lo).get 1001=some (.box o t1 a):=by rw[aH,eu (by omega)];exact h1
 have ha:aB F (inp Li) [.own 1000 0] [.pointer (some ⟨o,0,none⟩)]:=by
  have h0:Li[0]?=some (.box o t1 a):=by rw[<-x2 0 1001 rfl];exact n
  simp only[aB,Rel];refine⟨_,_,rfl,⟨o,t1,a,?_,rfl⟩,rfl⟩;rw[aH,eu (by omega)];exact h0
 refine(Rj (p:=p) hg e2 y ha u w (hs.handed z hn)).mono ?_;rintro e u' w' ⟨hu,v,F',Lr,he,g1,g2,hR⟩;have x:[1001,1003].length=Lr.length:=by
  obtain⟨Mo,c',q1,q2,q3,q4,q5⟩:=hR;rw[<-q1,q5.1];rfl
 obtain⟨c1,l⟩:=gh hs z hn hn (fun k r=>.inl r) g1 g2 x;obtain⟨y1,y2,M',bj,cc,y3,y4,rfl⟩:=rz (K:=fun M' _ _=>M'=(((cJ (PB p f c (gs++[g]))).aae [1001,1003]).kills (rowsOf (cJ (PB p f c (gs++[g]))) [1001,1003])).puts [1001,1003] ([TO.box 107 [.rw 1001],Ai gs].map (TO.aad (C.ren (aJ [1001,1003]))))) ht rfl rfl rfl rfl z e2 e3
  (fun v' Mo' e _ _=>by obtain⟨q1,q2⟩:=e;subst q1;exact⟨rfl,rfl⟩) v F' Lr g2.le hR
 have an:((((cJ (PB p f c (gs++[g]))).aae [1001,1003]).kills (rowsOf (cJ (PB p f c (gs++[g]))) [1001,1003])).puts [1001,1003] ([TO.box 107 [.rw 1001],Ai gs].map (TO.aad (C.ren (aJ [1001,1003]))))).sub [1000,1001,1002,1003]=some (PB p f c gs):=rfl;obtain⟨Lo',d1,d2,d3⟩:=kE y3.tl an;obtain⟨z1,z2⟩:=cE d1;refine⟨hu,v,F',Lo',he,c1.handed d1 (by decide),?_,d2,lz y3.tl d2 d1 d3,fun i b t cs hi=>?_⟩
 ·refine⟨l.le,l.os,l.tape,l.output,l.size,l.same,l.frz,fun b hb=>l.own b ?_⟩;obtain⟨j,q,e,hb⟩:=hb;rw[aH] at e;split at e
  case isFalse=>cases e
  have d:j-1000<Lo'.length:=(aaR.1 e).1;have r:([1000,1001,1002,1003]:List Nat)[j-1000]?=some (([1000,1001,1002,1003]:List Nat)[j-1000]'(by rw[d2] at d;exact d)):=aaO _;exact⟨_,q,by rw[z2 _ _ r];exact e,hb⟩
 ·have d:i<4:=by rw[<-hl];exact(aaR.1 hi).1
  have r:([1000,1001,1002,1003]:List Nat)[i]?=some (1000+i):=by
   match i,d with
   | 0,_=>rfl
   | 1,_=>rfl
   | 2,_=>rfl
   | 3,_=>rfl
  have s:(inp Lo).get (1000+i)=some (.box b t cs):=by rw[aH,eu (by omega),show 1000+i-1000=i by omega];exact hi
  by_cases hm:1000+i∈[1001,1003]
  ·obtain⟨cs',h⟩:=y2 _ b t cs hm s;exact⟨cs',by rw[<-z2 i _ r];exact h⟩
  ·refine⟨cs,?_⟩;rw[<-z2 i _ r];rcases cU [1001,1003] Lr ((inp Lo).aae [1001,1003]) (1000+i) hn x with⟨a1,a2⟩ | ⟨i',a1,a2,a3⟩
   ·rw[a1,eX,fo hm];exact s
   ·exact fL (aaW a1) hm
theorem Vu {F:aA}{p:Prog}{n:List bh}{c:Int}{gs:List cB}{g:cB}{d:Bool}{i0:Int}{m a:List (List C)}{Lo:List Own}{x t1:Nat}{f:List Value}(hg:gs.length<=400) (hl:Lo.length=5) (r:bS F (inp Lo) (cJ (PB p n c (gs++[g])++[.box 64 [.bool d,IC i0,.sl m,.sl a]]))) (h1:Lo[1]?=some (.box x t1 f)) (u:FrameMode) (w:World) (hs:St F (inp Lo) w) :
  CallsD P 83 #[.pointer (some ⟨x,0,none⟩)] u w fun e u' w'=>u'=u/\∃v F' Lo',e=.returned v/\St F' (inp Lo') w'/\Step F (inp Lo) w F' (inp Lo') w'/\Lo'.length=5/\bS F' (inp Lo') (cJ (PB p n c gs++[.box 64 [.bool d,IC i0,.sl m,.sl a]]))/\∀(i:Nat) b t cs,Lo[i]?=some (.box b t cs)->∃cs',Lo'[i]?=some (.box b t cs'):=by
 have ht:TS (fun _=>none) F (inp Lo) (fun _=>.v undef) (cJ (PB p n c (gs++[g])++[.box 64 [.bool d,IC i0,.sl m,.sl a]])) (fun _=>.any):=⟨r,fun _=>trivial,fun k g t e=>(by cases e),hs.glob⟩;have ag:(cJ (PB p n c (gs++[g])++[.box 64 [.bool d,IC i0,.sl m,.sl a]])).sub [1001,1003]=some [.box 107 [.rw 1003],Ai (gs++[g])]:=rfl;obtain⟨Li,e1,e2,e3⟩:=kE r ag;have hn:[1001,1003].Nodup:=by decide
 obtain⟨x1,x2⟩:=cE e1;have ab:bS F (inp Li) (cJ [.box 107 [.rw 1001],Ai (gs++[g])]):=lz r e2 e1 e3;have s:(inp Lo).get 1001=some (.box x t1 f):=by rw[aH,eu (by omega)];exact h1
 have ha:aB F (inp Li) [.own 1000 0] [.pointer (some ⟨x,0,none⟩)]:=by
  have h0:Li[0]?=some (.box x t1 f):=by rw[<-x2 0 1001 rfl];exact s
  simp only[aB,Rel];refine⟨_,_,rfl,⟨x,t1,f,?_,rfl⟩,rfl⟩;rw[aH,eu (by omega)];exact h0
 refine(Rj (p:=p) hg e2 ab ha u w (hs.handed e1 hn)).mono ?_;rintro e u' w' ⟨hu,v,F',Lr,he,g1,g2,hR⟩;have aa:[1001,1003].length=Lr.length:=by
  obtain⟨Mo,c',q1,q2,q3,q4,q5⟩:=hR;rw[<-q1,q5.1];rfl
 obtain⟨c1,o⟩:=gh hs e1 hn hn (fun k y=>.inl y) g1 g2 aa;obtain⟨y1,y2,M',bm,cc,y3,y4,rfl⟩:=rz (K:=fun M' _ _=>M'=(((cJ (PB p n c (gs++[g])++[.box 64 [.bool d,IC i0,.sl m,.sl a]])).aae [1001,1003]).kills (rowsOf (cJ (PB p n c (gs++[g])++[.box 64 [.bool d,IC i0,.sl m,.sl a]])) [1001,1003])).puts [1001,1003] ([TO.box 107 [.rw 1001],Ai gs].map (TO.aad (C.ren (aJ [1001,1003]))))) ht rfl rfl rfl rfl e1 e2 e3
  (fun v' Mo' e _ _=>by obtain⟨q1,q2⟩:=e;subst q1;exact⟨rfl,rfl⟩) v F' Lr g2.le hR
 have av:((((cJ (PB p n c (gs++[g])++[.box 64 [.bool d,IC i0,.sl m,.sl a]])).aae [1001,1003]).kills (rowsOf (cJ (PB p n c (gs++[g])++[.box 64 [.bool d,IC i0,.sl m,.sl a]])) [1001,1003])).puts [1001,1003] ([TO.box 107 [.rw 1001],Ai gs].map (TO.aad (C.ren (aJ [1001,1003]))))).sub [1000,1001,1002,1003,1004]=some (PB p n c gs++[.box 64 [.bool d,IC i0,.sl m,.sl a]]):=rfl;obtain⟨Lo',d1,d2,d3⟩:=kE y3.tl av;obtain⟨z1,z2⟩:=cE d1;refine⟨hu,v,F',Lo',he,c1.handed d1 (by decide),?_,d2,lz y3.tl d2 d1 d3,fun i b t cs hi=>?_⟩
 ·refine⟨o.le,o.os,o.tape,o.output,o.size,o.same,o.frz,fun b hb=>o.own b ?_⟩;obtain⟨j,q,e,hb⟩:=hb;rw[aH] at e;split at e
  case isFalse=>cases e
  have l:j-1000<Lo'.length:=(aaR.1 e).1;have y:([1000,1001,1002,1003,1004]:List Nat)[j-1000]?=some (([1000,1001,1002,1003,1004]:List Nat)[j-1000]'(by rw[d2] at l;exact l)):=aaO _;exact⟨_,q,by rw[z2 _ _ y];exact e,hb⟩
 ·have l:i<5:=by rw[<-hl];exact(aaR.1 hi).1
  have y:([1000,1001,1002,1003,1004]:List Nat)[i]?=some (1000+i):=by
   match i,l with
   | 0,_=>rfl
   | 1,_=>rfl
   | 2,_=>rfl
   | 3,_=>rfl
   | 4,_=>rfl
  have z:(inp Lo).get (1000+i)=some (.box b t cs):=by rw[aH,eu (by omega),show 1000+i-1000=i by omega];exact hi
  by_cases hm:1000+i∈[1001,1003]
  ·obtain⟨cs',h⟩:=y2 _ b t cs hm z;exact⟨cs',by rw[<-z2 i _ y];exact h⟩
  ·refine⟨cs,?_⟩;rw[<-z2 i _ y];rcases cU [1001,1003] Lr ((inp Lo).aae [1001,1003]) (1000+i) hn aa with⟨a1,a2⟩ | ⟨i',a1,a2,a3⟩
   ·rw[a1,eX,fo hm];exact z
   ·exact fL (aaW a1) hm
end Go.Fr.Try
namespace Go.Fr
open Go Go.RowKit
theorem Step.sub {F F':aA}{L L1 L2:Loc}{w w':World}(a:Step F L w F' L1 w') (h:∀b,L2.owns b->L1.owns b):Step F L w F' L2 w' :=
 ⟨a.le,a.os,a.tape,a.output,a.size,a.same,a.frz,fun b hb=>a.own b (h b hb)⟩
end Go.Fr
namespace Go.Fr.Try
open Go Go.RowKit Go.Proofs Go.Fr Go.Fr.T Go.Fr.Api
theorem S8 {Lin:List TO}{Li:List Own}{F:aA}{args:List C}{l:List Value}{w:World}(m:Nat) (z:Li.length=Lin.length) (p:bS F (inp Li) (cJ Lin)) (u:aB F (inp Li) args l) (y:St F (inp Li) w) :
  ∃(G:Nat->Option (Nat×TypeId)) (a:Env),aD (inp Li) a {tmps:=l.toArray++Array.replicate m undef,defers:=[]}/\TS G F (inp Li) a (cJ Lin) (j5 0 args)/\(∀k g t cs,(inp Li).get k=some (.box g t cs)->G k=some (g,t))/\(∀k,G k≠none->1000<=k):=by
 have n:=u.len;have key:∀j,∃sv,aN F (inp Li) (j5 0 args j) sv/\conc (inp Li) sv=(l.toArray++Array.replicate m undef).getD j undef/\(∀k off,sv=.own k off->∃g t cs,(inp Li).get k=some (.box g t cs))/\(∀f i,sv=.el f i->f≠none):=by
  intro j;rw[n8];simp only[aa8,abj,Nat.sub_zero,aa6];cases e:args[j]? with
  | some c =>
   have d:j<l.length:=by rw[n];exact(aaR.1 e).1
   obtain⟨s1,s2,s3,x⟩:=rB (u.at e (aaO d));refine⟨_,s1,?_,s3,fun f i e=>fL e (x f i)⟩;rw[s2,Array.getElem?_append_left (by simpa using d)];simp[d]
  | none =>
   have r:l.length<=j:=by rw[n];exact aby.1 e
   refine⟨.v undef,lf,?_,fun _ _ e=>(by cases e),fun _ _ e=>(by cases e)⟩;rw[Array.getElem?_append_right (by simpa using r)];simp only[Array.getElem?_replicate,conc];split<;>rfl
 let a:Env:=fun j=>(key j).choose
 have he:aD (inp Li) a {tmps:=l.toArray++Array.replicate m undef,defers:=[]} :=
  ⟨fun t=>(key t).choose_spec.2.1.symm,fun t k off e=>(key t).choose_spec.2.2.1 k off e,fun t f j e=>(key t).choose_spec.2.2.2 f j e⟩
 let G:Nat->Option (Nat×TypeId):=fun k=>match(inp Li).get k with | some (.box g t _)=>some (g,t) | _=>none
 have q:∀k g t cs,(inp Li).get k=some (.box g t cs)->G k=some (g,t):=fun k g t cs e=>by simp only[G,e]
 have s:Kp G (inp Li):=by
  intro k g t e;simp only[G] at e;split at e
  ·rename_i g' t' cs h;injection e with e
   injection e with e1 e2
   subst e1 e2;exact⟨cs,h⟩
  ·cases e
 have o:∀k,G k≠none->1000<=k:=by
  intro k b;simp only[G] at b;split at b
  ·rename_i g t cs h;rw[aH] at h;split at h
   ·assumption
   ·cases h
  ·exact fL rfl b
 exact⟨G,a,he,⟨p,fun j=>(key j).choose_spec.1,s,y.glob⟩,q,o⟩
def EZ (G:Nat->Option (Nat×TypeId)) (F0:aA) (Li:List Own) (w0:World) (K:TK) (a:Act) (w:World):Prop :=
 ∃F L ρ M τ,St F L w/\aD L ρ a/\TS G F L ρ M τ/\a.tmps.size=97/\Step F0 (inp Li) w0 F L w/\K M τ
section
variable {G:Nat->Option (Nat×TypeId)}{F0:aA}{Li:List Own}{w0:World}
theorem EZ.piece {c:Code}{u:au}(y:low Try.prog Qc c=some u) (hG:∀k,G k≠none->1000<=k) {PS:nU}{R N K:TK}{a:Act}{w:World}(h:EZ G F0 Li w0 K a w)
  (hK:∀M τ,K M τ->evalTC P PS u (fun _ _ _=>False) R N M τ) {Q:Exit->Act->World->Prop}
  (z:∀a' w',a'.defers=a.defers->EZ G F0 Li w0 N a' w'->Q .normal a' w')
  (hR:∀a' w',a'.defers=a.defers->EZ G F0 Li w0 R a' w'->Q .ret a' w')
  (hP:∀v p a' w',rY v p->a'.defers=a.defers->(∃F' L',St F' L' w'/\Step F0 (inp Li) w0 F' L' w'/\zQ G PS F' L' v)->Q (.panic p) a' w'):c.wp P Q a w:=by
 obtain⟨F,L,ρ,M,τ,g1,g2,g3,g4,s,hk⟩:=h;refine wp_mono (fH c y (fun k _ q=>.inl (hG k q)) g1 g2 g3 g4 (hK M τ hk)) ?_;intro e a' w' d;cases e with
 | normal =>
  obtain⟨F',L',ρ',k1,f,n,m,o,x,M',b,t,k8⟩:=d;exact z a' w' m ⟨F',L',ρ',M',b,k1,f,t,n,s.trans o,k8⟩
 | ret =>
  obtain⟨F',L',ρ',k1,f,n,m,o,x,M',b,t,k8⟩:=d;exact hR a' w' m ⟨F',L',ρ',M',b,k1,f,t,n,s.trans o,k8⟩
 | exit j=>obtain⟨F',L',ρ',_,_,_,_,_,_,M',b,_,h⟩:=d;exact h.elim
 | goto l=>exact d.elim
 | panic p =>
  obtain⟨v,r,F',L',k1,f,n,m,o,kp⟩:=d;exact hP v p a' w' r m ⟨F',L',k1,s.trans f,kp⟩
 | outgrown=>exact d.elim
end
theorem EQ {F:aA}{L:Loc}{M:TL}(c:Fw F L M):∀{ks:List Nat}{Lin:List TO},M.sub ks=some Lin->∃Li,L.sub ks=some Li/\Li.length=Lin.length/\∀(i:Nat) o p,Lin[i]?=some o->Li[i]?=some p->cK F L o p
 | [],Lin,h=>by simp only[TL.sub,xo] at h;subst h;exact⟨[],rfl,rfl,by simp⟩
 | k::ks,Lin,h=>by
  simp only[TL.sub] at h;split at h
  case h_2=>cases h
  rename_i o l h1 n;injection h with h
  subst h;obtain⟨Li,e,d,m⟩:=EQ c n;obtain⟨p,f,q⟩:=c k o h1;refine⟨p::Li,by simp only[Loc.sub,f,e],by simp[d],fun i o' j b a=>?_⟩;cases i with
  | zero =>
   simp only[aa3,xo] at b a;subst b a;exact q
  | succ i=>exact m i o' j b a
theorem S9 {F:aA}{L:Loc}{ks:List Nat}{Lin:List TO}{Li:List Own}(e:Li.length=Lin.length) (c:L.sub ks=some Li) (d:∀(i:Nat) o p,Lin[i]?=some o->Li[i]?=some p->cK F L o p) :
  bS F (inp Li) (cJ (Lin.map (TO.aad (C.ren (bB ks 1000))))):=by
 intro k;rw[cA,aH];split
 ·rw[aa4];cases b:Lin[k-1000]? with
  | none =>
   have:Li[k-1000]?=none:=by rw[aby] at b ⊢;omega
   rw[this];trivial
  | some o =>
   have a:k-1000<Li.length:=by have:=(aaR.1 b).1;omega
   rw[aaO a];exact(d _ _ _ b (aaO a)).ren (lI c)
 ·trivial
theorem ER {L:Loc}{ks:List Nat}{Lo:List Own}(c:L.sub ks=some Lo):∀b,(inp Lo).owns b->L.owns b:=by
 obtain⟨h,f⟩:=cE c;rintro b ⟨j,p,e,hb⟩;rw[aH] at e;split at e
 case isFalse=>cases e
 have a:j-1000<Lo.length:=(aaR.1 e).1;have d:ks[j-1000]?=some (ks[j-1000]'(by omega)):=aaO (by omega);exact⟨_,p,by rw[f _ _ d];exact e,hb⟩
theorem Ta:X6=.region 10 #[{dst:=some 37,op:=.makeFunc (.func 83) #[] #[.tmp 2],type:=1,pos:="traits.go:134",after:=#[],guard:=none},
  {dst:=none,op:=.defer {callee:=.value (.tmp 37),args:=#[],argTypes:=#[]},type:=0,pos:="traits.go:134",after:=#[{on:=0,ground:=Ground.data}],guard:=none}] false:=by kernel_rfl
def dq (v:Value):Deferred:={target:=.fn (.func 83) #[v],args:=#[]}
theorem wpD {a:Act}{w:World}{v:Value}{Q:Exit->Act->World->Prop}(d:a.tmps.size=97) (e:a.tmps.getD 2 undef=v) (h:Q .normal {(a.put (some 37) (.func (.func 83) #[] #[v])) with defers:=dq v::a.defers} w):X6.wp P Q a w:=by
 rw[Ta];apply wp_region;have b:a.tmps[2]?.getD undef=v:=by rw[<-aa6];exact e
 have c:∀q:2<a.tmps.size,a.tmps[2]'q=v:=fun q=>by rw[Array.getElem?_eq_getElem q] at b;exact b
 simp[wpOps,go_sem,Region.wanted,d,b,c,Array.getElem?_setIfInBounds,Instr.makeFunc]
 first
  | exact .inl (.inl h)
  | (trace_state;sorry)
theorem Gi {v:Value}{b:List PanicEntry}(h:rY v b):settle (.panicking b)=.panicking b:=by
 obtain⟨a,rfl,_⟩:=h;rfl
theorem Qi {F:aA}{L:Loc}{ρ:Env}{τ:aM}{p:Prog}{g:cB}{x:Value}(h:∀j,aN F L (τ j) (ρ j)) (hb:HB p g τ):∀j,aN F L (eB p g j) (Fr.put (some 37) (.v x) ρ j):=by
 obtain⟨h1,z,m,h5,w,n⟩:=hb;intro j
 by_cases a:j=37
 ·subst a;trivial
 have s:Fr.put (some 37) (.v x) ρ j=ρ j:=by
  have b:Nat.beq j 37=false:=lR a;simp only[Fr.put,b]
 rw[s]
 by_cases f:j=1
 ·subst f;have:=h 1;rw[h1] at this;exact this
 by_cases d:j=2
 ·subst d;have:=h 2;rw[z] at this;exact this
 by_cases c:j=4
 ·subst c;have:=h 4;rw[m] at this;exact this
 by_cases k:j=5
 ·subst k;have:=h 5;rw[h5] at this;exact this
 by_cases e:j=6
 ·subst e;have:=h 6;rw[w] at this;exact this
 by_cases l:j=7
 ·subst l;have:=h 7;rw[n] at this;exact this
 have r:Nat.beq j 1=false:=lR f;have u:Nat.beq j 2=false:=lR d;have t:Nat.beq j 4=false:=lR c;have y:Nat.beq j 5=false:=lR k;have o:Nat.beq j 6=false:=lR e;have q:Nat.beq j 7=false:=lR l;simp only[eB,bA,r,u,t,y,o,q];trivial
theorem Tc (p:Prog) (l:List bh) (c:Int) (gs:List cB) (g:cB) (res:pW) (cy:gs.length<=400)
  (hA:evalTC P ⟨fun _=>True,[],some (Ak p l gs res)⟩ Y5 (fun _ _ _=>False) (fun L ρ=>gR L ρ [(7,some (true,4))] fun u=>gD (PB p l c gs) L (gQ u) (RQ p l gs res))
   (fun M τ=>(c+1<=400/\(gs.any fun h=>iM h g)=false/\¬aW (lT g) l 0>=0)/\M=MB p l (c+1) (gs++[g])/\HB p g τ) (cJ (PB p l c gs)) (j5 0 (Aj p l g)))
  (hB:c+1<=400/\(gs.any fun h=>iM h g)=false/\¬aW (lT g) l 0>=0->evalTC P ⟨fun _=>True,[],some (Ak p l (gs++[g]) res)⟩ X8 (fun _ _ _=>False) (VP p l (gs++[g]) res) (fun _ _=>False) (MB p l (c+1) (gs++[g])) (eB p g)) :
  S2 p l c gs g res:=by
 refine⟨fun F Li u hl bj ha=>⟨⟨Try.f77,Try.func77,by rw[EL];rfl,by kernel_rfl⟩,gP.aao,fun w hs=>?_⟩⟩;have eb:Try.f77.ntmps=97:=by kernel_rfl
 have av:mV P Try.f77.results.toList=some [(7,some (true,4))]:=by kernel_rfl
 have dy:u.length=6:=by have:=ha.len;simpa using this
 obtain⟨G,ed,he,ht,cm,ae⟩:=S8 (97-u.toArray.size) hl bj ha hs;refine calls_of_wp_defers Try.func77 EL ?_;rw[eb];generalize hR:(fun(en:Ending) (w':World)=>(∃v F' Lo,en=.returned v/\St F' (inp Lo) w'/\Step F (inp Li) w F' (inp Lo) w'/\gP Li (RQ p l gs res) F' Lo v) \/
  ∃v s F' Lo,en=.panicked s/\rY v s/\St F' (inp Lo) w'/\Step F (inp Li) w F' (inp Lo) w'/\Lo.length=Li.length/\(∀(i:Nat) g t cs,Li[i]?=some (.box g t cs)->∃cs',Lo[i]?=some (.box g t cs'))/\∃Mo,Mo.length=Lo.length/\bS F' (inp Lo) (cJ Mo)/\PQ p l gs res Mo v)=RR
 have bk:Li.length=4:=hl
 -- the boxes that were handed over
 have am:∀(i:Nat) b t cs,Li[i]?=some (.box b t cs)->G (1000+i)=some (b,t):=fun i b t cs hi=>cm _ b t cs (by rw[aH,eu (by omega),show 1000+i-1000=i by omega];exact hi);have cY:∀k b t,G k=some (b,t)->∃cs i,k=1000+i/\i<4/\Li[i]?=some (.box b t cs):=fun k b t e=>by
  obtain⟨cs,h⟩:=ht.kp k b t e;rw[aH] at h;split at h
  case isFalse=>cases h
  refine⟨cs,k-1000,by omega,?_,h⟩;rw[<-bk];exact(aaR.1 h).1
 -- the box of the goals above
 have az:∃b1 t1 ay,Li[1]?=some (.box b1 t1 ay):=by
  have q:=bj 1001;rw[aH,eu (by omega)] at q;have q:x7 F (inp Li) (some (.box 107 [.rw 1003])) (Li[1]?):=q;cases e:Li[1]? with
  | none=>rw[e] at q;exact q.elim
  | some o =>
   rw[e] at q;cases o with
   | row=>exact q.elim
   | box b t cs=>exact⟨b,t,cs,rfl⟩
 obtain⟨b1,t1,ay,az⟩:=az;have bl:=am 1 b1 t1 ay az
 -- how a panic ends
 have Rp:∀v s w' F' Lo c' e,rY v s->res=(.error e,c')->v=zE e->St F' (inp Lo) w'->Step F (inp Li) w F' (inp Lo) w'->Lo.length=4->bS F' (inp Lo) (cJ (PB p l c' gs))->(∀(i:Nat) g t cs,Li[i]?=some (.box g t cs)->∃cs',Lo[i]?=some (.box g t cs'))->RR (.panicked s) w':=by
  intro v s w' F' Lo c' e q1 q2 q3 q4 q5 q6 q7 q8;rw[<-hR];exact .inr ⟨v,s,F',Lo,rfl,q1,q4,q5,by rw[q6,bk],q8,PB p l c' gs,by rw[q6];rfl,q7,e,c',q2,rfl,q3⟩
 -- what there is when it panics
 have bo:∀(bu:List cB) (v:Value) (w':World),(∃F' L',St F' L' w'/\Step F (inp Li) w F' L' w'/\zQ G ⟨fun _=>True,[],some (Ak p l bu res)⟩ F' L' v) ->
   ∃F' Lo c' e,St F' (inp Lo) w'/\Step F (inp Li) w F' (inp Lo) w'/\Lo.length=4/\bS F' (inp Lo) (cJ (PB p l c' bu))/\res=(.error e,c')/\v=zE e/\(∀(i:Nat) g t cs,Li[i]?=some (.box g t cs)->∃cs',Lo[i]?=some (.box g t cs')):=by
  rintro bu v w' ⟨F',L',g1,g2,kp,_,_,dT⟩;obtain⟨M',hp,Mo,ao,e,c',hr,rfl,hv⟩:=dT _ rfl;obtain⟨Lo,d1,d2,d3⟩:=EQ hp ao;obtain⟨x1,x2⟩:=cE d1;refine⟨F',Lo,c',e,g1.handed d1 (by decide),g2.sub (ER d1),d2,S9 d2 d1 d3,hr,hv,fun i b t cs hi=>?_⟩;have cb:i<4:=by rw[<-bk];exact(aaR.1 hi).1
  obtain⟨cs',h⟩:=kp _ b t (am i b t cs hi);have hk:([1000,1001,1002,1003]:List Nat)[i]?=some (1000+i):=by
   match i,cb with
   | 0,_=>rfl
   | 1,_=>rfl
   | 2,_=>rfl
   | 3,_=>rfl
  exact⟨cs',by rw[<-x2 i _ hk];exact h⟩
 have z:∀(v:Value) (s:List PanicEntry) (a':Act) (w':World),rY v s->a'.defers=[]->(∃F' L',St F' L' w'/\Step F (inp Li) w F' L' w'/\zQ G ⟨fun _=>True,[],some (Ak p l gs res)⟩ F' L' v)->bodyPostD P Try.f77 RR (.panic s) a' w':=by
  intro v s a' w' hc m hx;obtain⟨F',Lo,c',e,k1,k2,k3,k4,k5,k6,k7⟩:=bo gs v w' hx;show Leaves P Try.f77 a'.tmps RR a'.defers (.panicking s) w';rw[m];exact Rp v s w' F' Lo c' e hc k5 k6 k1 k2 k3 k4 k7
 have da:∀(v:Value) (s:List PanicEntry) (a':Act) (w':World),rY v s->a'.defers=[dq (.pointer (some ⟨b1,0,none⟩))]->(∃F' L',St F' L' w'/\Step F (inp Li) w F' L' w'/\zQ G ⟨fun _=>True,[],some (Ak p l (gs++[g]) res)⟩ F' L' v)->bodyPostD P Try.f77 RR (.panic s) a' w':=by
  intro v s a' w' hc m hx;obtain⟨F',Lo,c',e,k1,k2,k3,k4,k5,k6,k7⟩:=bo (gs++[g]) v w' hx;show Leaves P Try.f77 a'.tmps RR a'.defers (.panicking s) w';rw[m];obtain⟨dn,ar⟩:=k7 1 b1 t1 ay az;refine leaves_cons (f:=83) (args:=#[.pointer (some ⟨b1,0,none⟩)]) (by simp) (by simp[invoke]) ?_;refine(Ya cy k3 k4 ar (.panicking s) w' k1).mono ?_;rintro en u' w2 ⟨rfl,v2,F2,Lo2,rfl,m1,m2,m3,m4,m5⟩;show Leaves P Try.f77 a'.tmps RR [] (settle (.panicking s)) w2;rw[Gi hc];exact Rp v s w2 F2 Lo2 c' e hc k5 k6 m1 (k2.trans m2) m3 m4 fun i b t cs hi=>let⟨cs',h⟩:=k7 i b t cs hi;m5 i b t cs' h
 -- how it returns
 have y:∀(a':Act) (w':World),a'.defers=[]->EZ G F Li w (fun L ρ=>gR L ρ [(7,some (true,4))] fun u=>gD (PB p l c gs) L (gQ u) (RQ p l gs res)) a' w'->bodyPostD P Try.f77 RR .ret a' w':=by
  rintro a' w' m ⟨F',L',ρ',M',dj,g1,g2,g3,g4,g5,dd⟩;have hq:=Bd (P:=P) (fn:=Try.f77) (rs:=[(7,some (true,4))]) (n:=97) (asg:=[]) (a0:=a') (a':=a') (w':=w') av hl bj cm
   ⟨F',L',ρ',g1,g2,g4,rfl,g5,fun _ _=>rfl,M',dj,g3,dd⟩
  obtain⟨_,v,k2,F2,Lo,k3,k4,k5⟩:=hq;show Leaves P Try.f77 a'.tmps RR a'.defers .returning w';rw[m];exact⟨v,k2,by rw[<-hR];exact .inl ⟨v,F2,Lo,rfl,k3,k4,k5⟩⟩
 have TN:∀(a':Act) (w':World),a'.defers=[dq (.pointer (some ⟨b1,0,none⟩))]->EZ G F Li w (VP p l (gs++[g]) res) a' w'->bodyPostD P Try.f77 RR .ret a' w':=by
  rintro a' w' m ⟨F',L',ρ',M',dj,g1,g2,g3,g4,g5,h7,r,c',hr,ao⟩;rw[js] at ao;obtain⟨Lo,d1,d2,d3⟩:=kE g3.tl ao;obtain⟨x1,x2⟩:=cE d1;have dE:bS F' (inp Lo) (cJ (PB p l c' (gs++[g])++[.box 64 [.bool r.assumed,IC r.index,.sl (r.types.map aI),.sl (r.proofs.map iL)]])):=lz g3.tl d2 d1 d3;have ar:∀(i:Nat) b t cs,Li[i]?=some (.box b t cs)->∃cs',Lo[i]?=some (.box b t cs'):=fun i b t cs hi=>by
   have cb:i<4:=by rw[<-bk];exact(aaR.1 hi).1
   obtain⟨cs',h⟩:=g3.kp _ b t (am i b t cs hi);have hk:([1000,1001,1002,1003,7]:List Nat)[i]?=some (1000+i):=by
    match i,cb with
    | 0,_=>rfl
    | 1,_=>rfl
    | 2,_=>rfl
    | 3,_=>rfl
   exact⟨cs',by rw[<-x2 i _ hk];exact h⟩
  have ax:ρ' 7=.own 7 0/\∃b7 t7 bi,L'.get 7=some (.box b7 t7 bi):=by
   have:=g3.env 7;rw[h7] at this;exact this
  obtain⟨ax,b7,t7,bi,cx⟩:=ax;have cX:Lo[4]?=some (.box b7 t7 bi):=by rw[<-x2 4 7 rfl];exact cx
  have ej:a'.tmps.getD 7 undef=.pointer (some ⟨b7,0,none⟩):=by
   rw[g2.eq 7,ax];simp only[conc,cx]
  show Leaves P Try.f77 a'.tmps RR a'.defers .returning w';rw[m];obtain⟨dn,bz⟩:=ar 1 b1 t1 ay az;refine leaves_cons (f:=83) (args:=#[.pointer (some ⟨b1,0,none⟩)]) (by simp) (by simp[invoke]) ?_;refine(Vu cy d2 dE bz .returning w' (g1.handed d1 (by decide))).mono ?_;rintro en u' w2 ⟨rfl,v2,F2,Lo2,rfl,m1,m2,m3,m4,m5⟩;show Leaves P Try.f77 a'.tmps RR [] .returning w2;obtain⟨dg,bp⟩:=m5 4 b7 t7 bi cX;have an:(inp Lo2).get 1004=some (.box b7 t7 dg):=by rw[aH,eu (by omega)];exact bp
  have aw:∀j,j≠7->Fr.put (some 7) (.own 1004 0) (fun j=>.v (a'.tmps.getD j undef)) j=.v (a'.tmps.getD j undef):=fun j hj=>by
   have b:Nat.beq j 7=false:=lR hj;simp only[Fr.put,b]
  have cl:∀j,j≠7->bA (some 7) (.own 1004 0) (fun _=>.any) j=.any:=fun j hj=>by
   have b:Nat.beq j 7=false:=lR hj;simp only[bA,b]
  have hq:=Bd (P:=P) (G:=G) (F:=F) (w:=w) (fn:=Try.f77) (rs:=[(7,some (true,4))]) (n:=97) (asg:=[]) (a0:=a') (a':=a') (w':=w2) (R:=RQ p l gs res) av hl bj cm
   ⟨F2,inp Lo2,Fr.put (some 7) (.own 1004 0) (fun j=>.v (a'.tmps.getD j undef)),m1,?_,g4,rfl,(g5.sub (ER d1)).trans m2,fun _ _=>rfl,cJ (PB p l c' gs++[.box 64 [.bool r.assumed,IC r.index,.sl (r.types.map aI),.sl (r.proofs.map iL)]]),bA (some 7) (.own 1004 0) (fun _=>.any),⟨m4,fun j=>?_,fun k b t e=>?_,m1.glob⟩,?_⟩
  ·obtain⟨_,v,k2,F3,Lo3,k3,k4,k5⟩:=hq;exact⟨v,k2,by rw[<-hR];exact .inl ⟨v,F3,Lo3,rfl,k3,k4,k5⟩⟩
  ·refine⟨fun j=>?_,fun j k off e=>?_,fun j ad i e=>?_⟩
   ·by_cases hj:j=7
    ·subst hj;rw[ej];show _=conc (inp Lo2) (.own 1004 0);simp only[conc,an]
    ·rw[aw j hj];rfl
   ·by_cases hj:j=7
    ·subst hj;have e:SV.own 1004 0=.own k off:=e;injection e with e1 e2
     subst e1;exact⟨_,_,_,an⟩
    ·rw[aw j hj] at e;cases e
   ·by_cases hj:j=7
    ·subst hj;have e:SV.own 1004 0=.el ad i:=e;cases e
    ·rw[aw j hj] at e;cases e
  ·by_cases hj:j=7
   ·subst hj;exact⟨rfl,_,_,_,an⟩
   ·rw[cl j hj];trivial
  ·obtain⟨cs,i,rfl,eQ,hi⟩:=cY k b t e;obtain⟨cs',h'⟩:=ar i b t cs hi;obtain⟨cM,eh⟩:=m5 i b t cs' h';exact⟨cM,by rw[aH,eu (by omega),show 1000+i-1000=i by omega];exact eh⟩
  ·exact pU [1000,1001,1002,1003] rfl rfl rfl rfl ⟨r,c',hr,rfl,by rw[js];rfl⟩
 -- the pieces
 have M0:EZ G F Li w (fun M τ=>M=cJ (PB p l c gs)/\τ=j5 0 (Aj p l g)) {tmps:=u.toArray++Array.replicate (97-u.toArray.size) undef,defers:=[]} w :=
  ⟨F,inp Li,ed,_,_,hs,he,ht,by simp[dy],Step.refl _ _ _,rfl,rfl⟩
 generalize eg:({tmps:=u.toArray++Array.replicate (97-u.toArray.size) undef,defers:=[]}:Act)=a0 at M0;have cc:a0.defers=[]:=by rw[<-eg]
 refine wp_seq (EZ.piece Vh ae M0 (PS:=⟨fun _=>True,[],some (Ak p l gs res)⟩) (R:=(fun L ρ=>gR L ρ [(7,some (true,4))] fun u=>gD (PB p l c gs) L (gQ u) (RQ p l gs res))) (N:=(fun M τ=>evalTC P ⟨fun _=>True,[],some (Ak p l gs res)⟩ (.seq X7 (.seq VO (.seq Vg (.seq Tm (.seq S1 Ri))))) (fun _ _ _=>False) (fun L ρ=>gR L ρ [(7,some (true,4))] fun u=>gD (PB p l c gs) L (gQ u) (RQ p l gs res)) (fun M τ=>(c+1<=400/\(gs.any fun h=>iM h g)=false/\¬aW (lT g) l 0>=0)/\M=MB p l (c+1) (gs++[g])/\HB p g τ) M τ))
  (fun M τ q=>by rw[q.1,q.2];exact hA) (fun a1 w1 aE M1=>?_) (fun a' w' m h=>y a' w' (m.trans cc) h) (fun v s a' w' hc m hx=>z v s a' w' hc (m.trans cc) hx))
 have aE:=aE.trans cc;refine wp_seq (EZ.piece Vi ae M1 (PS:=⟨fun _=>True,[],some (Ak p l gs res)⟩) (R:=(fun L ρ=>gR L ρ [(7,some (true,4))] fun u=>gD (PB p l c gs) L (gQ u) (RQ p l gs res))) (N:=(fun M τ=>evalTC P ⟨fun _=>True,[],some (Ak p l gs res)⟩ (.seq VO (.seq Vg (.seq Tm (.seq S1 Ri)))) (fun _ _ _=>False) (fun L ρ=>gR L ρ [(7,some (true,4))] fun u=>gD (PB p l c gs) L (gQ u) (RQ p l gs res)) (fun M τ=>(c+1<=400/\(gs.any fun h=>iM h g)=false/\¬aW (lT g) l 0>=0)/\M=MB p l (c+1) (gs++[g])/\HB p g τ) M τ))
  (fun M τ q=>q) (fun a2 w2 bc M2=>?_) (fun a' w' m h=>y a' w' (m.trans aE) h) (fun v s a' w' hc m hx=>z v s a' w' hc (m.trans aE) hx))
 have bc:=bc.trans aE;refine wp_seq (EZ.piece Vj ae M2 (PS:=⟨fun _=>True,[],some (Ak p l gs res)⟩) (R:=(fun L ρ=>gR L ρ [(7,some (true,4))] fun u=>gD (PB p l c gs) L (gQ u) (RQ p l gs res))) (N:=(fun M τ=>evalTC P ⟨fun _=>True,[],some (Ak p l gs res)⟩ (.seq Vg (.seq Tm (.seq S1 Ri))) (fun _ _ _=>False) (fun L ρ=>gR L ρ [(7,some (true,4))] fun u=>gD (PB p l c gs) L (gQ u) (RQ p l gs res)) (fun M τ=>(c+1<=400/\(gs.any fun h=>iM h g)=false/\¬aW (lT g) l 0>=0)/\M=MB p l (c+1) (gs++[g])/\HB p g τ) M τ))
  (fun M τ q=>q) (fun a3 w3 bd M3=>?_) (fun a' w' m h=>y a' w' (m.trans bc) h) (fun v s a' w' hc m hx=>z v s a' w' hc (m.trans bc) hx))
 have bd:=bd.trans bc;refine wp_seq (EZ.piece Vk ae M3 (PS:=⟨fun _=>True,[],some (Ak p l gs res)⟩) (R:=(fun L ρ=>gR L ρ [(7,some (true,4))] fun u=>gD (PB p l c gs) L (gQ u) (RQ p l gs res))) (N:=(fun M τ=>evalTC P ⟨fun _=>True,[],some (Ak p l gs res)⟩ (.seq Tm (.seq S1 Ri)) (fun _ _ _=>False) (fun L ρ=>gR L ρ [(7,some (true,4))] fun u=>gD (PB p l c gs) L (gQ u) (RQ p l gs res)) (fun M τ=>(c+1<=400/\(gs.any fun h=>iM h g)=false/\¬aW (lT g) l 0>=0)/\M=MB p l (c+1) (gs++[g])/\HB p g τ) M τ))
  (fun M τ q=>q) (fun a4 w4 bb M4=>?_) (fun a' w' m h=>y a' w' (m.trans bd) h) (fun v s a' w' hc m hx=>z v s a' w' hc (m.trans bd) hx))
 have bb:=bb.trans bd;refine wp_seq (EZ.piece Vl ae M4 (PS:=⟨fun _=>True,[],some (Ak p l gs res)⟩) (R:=(fun L ρ=>gR L ρ [(7,some (true,4))] fun u=>gD (PB p l c gs) L (gQ u) (RQ p l gs res))) (N:=(fun M τ=>evalTC P ⟨fun _=>True,[],some (Ak p l gs res)⟩ (.seq S1 Ri) (fun _ _ _=>False) (fun L ρ=>gR L ρ [(7,some (true,4))] fun u=>gD (PB p l c gs) L (gQ u) (RQ p l gs res)) (fun M τ=>(c+1<=400/\(gs.any fun h=>iM h g)=false/\¬aW (lT g) l 0>=0)/\M=MB p l (c+1) (gs++[g])/\HB p g τ) M τ))
  (fun M τ q=>q) (fun a5 w5 be M5=>?_) (fun a' w' m h=>y a' w' (m.trans bb) h) (fun v s a' w' hc m hx=>z v s a' w' hc (m.trans bb) hx))
 have be:=be.trans bb;refine wp_seq (EZ.piece Vm ae M5 (PS:=⟨fun _=>True,[],some (Ak p l gs res)⟩) (R:=(fun L ρ=>gR L ρ [(7,some (true,4))] fun u=>gD (PB p l c gs) L (gQ u) (RQ p l gs res))) (N:=(fun M τ=>evalTC P ⟨fun _=>True,[],some (Ak p l gs res)⟩ Ri (fun _ _ _=>False) (fun L ρ=>gR L ρ [(7,some (true,4))] fun u=>gD (PB p l c gs) L (gQ u) (RQ p l gs res)) (fun M τ=>(c+1<=400/\(gs.any fun h=>iM h g)=false/\¬aW (lT g) l 0>=0)/\M=MB p l (c+1) (gs++[g])/\HB p g τ) M τ))
  (fun M τ q=>q) (fun a6 w6 ba M6=>?_) (fun a' w' m h=>y a' w' (m.trans be) h) (fun v s a' w' hc m hx=>z v s a' w' hc (m.trans be) hx))
 have ba:=ba.trans be;refine wp_seq (EZ.piece Vn ae M6 (PS:=⟨fun _=>True,[],some (Ak p l gs res)⟩) (R:=(fun L ρ=>gR L ρ [(7,some (true,4))] fun u=>gD (PB p l c gs) L (gQ u) (RQ p l gs res))) (N:=(fun M τ=>(c+1<=400/\(gs.any fun h=>iM h g)=false/\¬aW (lT g) l 0>=0)/\M=MB p l (c+1) (gs++[g])/\HB p g τ))
  (fun M τ q=>q) (fun a7 w7 cf M7=>?_) (fun a' w' m h=>y a' w' (m.trans ba) h) (fun v s a' w' hc m hx=>z v s a' w' hc (m.trans ba) hx))
 have cf:=cf.trans ba;obtain⟨F7,L7,fa,N7,eN,f1,f2,f3,f4,f5,ci,rfl,dp⟩:=M7;have cz:a7.tmps.getD 2 undef=.pointer (some ⟨b1,0,none⟩):=by
  have h2:=f3.env 2;rw[dp.2.1] at h2;obtain⟨h2,_⟩:=h2;obtain⟨cs',hg⟩:=f3.kp 1001 b1 t1 bl;rw[f2.eq 2,h2];simp only[conc,hg]
 refine wp_seq (wpD f4 cz ?_);have MD:EZ G F Li w (fun M τ=>M=MB p l (c+1) (gs++[g])/\τ=eB p g) {(a7.put (some 37) (.func (.func 83) #[] #[.pointer (some ⟨b1,0,none⟩)])) with defers:=dq (.pointer (some ⟨b1,0,none⟩))::a7.defers} w7:=by
  have ca:=f2.put (L':=L7) (d:=some 37) (v:=.func (.func 83) #[] #[.pointer (some ⟨b1,0,none⟩)]) (x:=.v (.func (.func 83) #[] #[.pointer (some ⟨b1,0,none⟩)])) (fun k hk=>by injection hk with hk;subst hk;omega) rfl cC eV (fun k g ty cs e=>⟨cs,e⟩);exact⟨F7,L7,_,_,_,f1,⟨ca.eq,ca.own,ca.el⟩,⟨f3.tl,Qi f3.env dp,f3.kp,f3.glob⟩,by simpa[Act.put] using f4,f5,rfl,rfl⟩
 have df:(dq (.pointer (some ⟨b1,0,none⟩))::a7.defers)=[dq (.pointer (some ⟨b1,0,none⟩))]:=by rw[cf]
 refine EZ.piece Vo ae MD (PS:=⟨fun _=>True,[],some (Ak p l (gs++[g]) res)⟩) (R:=VP p l (gs++[g]) res) (N:=fun _ _=>False)
  (fun M τ q=>by rw[q.1,q.2];exact hB ci) (fun a' w' _ h=>(by obtain⟨_,_,_,_,_,_,_,_,_,_,h⟩:=h;exact h.elim)) (fun a' w' m h=>TN a' w' (m.trans df) h) (fun v s a' w' hc m hx=>da v s a' w' hc (m.trans df) hx)
theorem ES {f:Int->cB->pW}(hf:∀c g r d,0<=c->c<=400->f c g=(.ok r,d)->c<d/\d<=400):∀(l:List cB) (c:Int) (a:List iq) ps b,0<=c->c<=400->gC f l c a=(.ok ps,b)->c<=b/\b<=400
 | [],c,a,ps,b,h0,j,h=>by
  have h:(Except.ok a,c)=((Except.ok ps:Except Int (List iq)),b):=h;injection h with h1 k
  subst k;exact⟨abb _,j⟩
 | g::l,c,a,ps,b,h0,j,h=>by
  rw[gC] at h;cases m:f c g with
  | mk n d =>
   rw[m] at h;cases n with
   | error e=>injection h with h;cases h
   | ok r =>
    have h1:=hf c g r d h0 j m;have k:=ES hf l d (a++[r]) ps b (by omega) h1.2 h;omega
theorem qP (p:Prog) (o:List bh):∀(n:Nat) (j:List cB) (c:Int) (g:cB) r d,0<=c->c<=400->dh p o n j c g=(.ok r,d)->c<d/\d<=400
 | 0,j,c,g,r,d,_,_,h=>by rw[dh] at h;injection h with h;cases h
 | n+1,j,c,g,r,d,h0,u,h=>by
  rw[dh] at h;split at h
  ·injection h with h;cases h
  rename_i v;split at h
  ·injection h with h;cases h
  split at h
  ·injection h with _ h;subst h;omega
  cases l:qO g p.impls 0 with
  | none=>rw[l] at h;injection h with h;cases h
  | some q =>
   obtain⟨k,x,ts⟩:=q;rw[l] at h;simp only at h;cases m:gC (dh p o n (j++[g])) (x.bounds.map (mT ts)) (c+1) [] with
   | mk s t =>
    rw[m] at h;cases s with
    | error e=>injection h with h;cases h
    | ok ps =>
     injection h with _ h
     subst h;have:=ES (f:=dh p o n (j++[g])) (fun c q r d a b=>qP p o n (j++[g]) c q r d a b) (x.bounds.map (mT ts)) (c+1) [] ps t (by omega) (by omega) m;omega
theorem Y6 (p:Prog) (b:List bh) (e:p.impls.length<=9223372036854775807):∀(n:Nat) (gs:List cB) (c:Int) (g:cB),0<=c->c<=400->(gs.length:Int)<=c->401<=(n:Int)+c->S2 p b c gs g (dh p b n gs c g)
 | 0,gs,c,g,h0,j,_,o=>fL o (by omega)
 | n+1,gs,c,g,h0,j,v,o=>by
  generalize a:dh p b (n+1) gs c g=res;have a:=a;rw[dh] at a;refine Tc p b c gs g res (by omega) (Vq p b c gs g res ⟨h0,j⟩ v (fun h=>by rw[eu h] at a;exact a.symm) (fun h d=>by rw[fo h,eu d] at a;exact a.symm)
   (fun h d s=>by rw[fo h,fo (by rw[d];exact aa7),eu s] at a;exact a.symm)) ?_
  rintro⟨k1,u,t⟩;rw[fo (by omega),fo (by rw[u];exact aa7),fo t] at a;refine Vs p b (c+1) (gs++[g]) g res (dh p b n (gs++[g])) (qO g) ⟨by omega,by omega⟩ (by rw[abI];simp;omega) e (fun k=>rfl) (fun x l k=>rfl) (fun h=>?_) (fun k x ts h=>?_) fun f m h1 d=>⟨Y6 p b e n (gs++[g]) f m (by omega) d (by rw[abI];simp;omega) (by omega),fun r q h=>qP p b n (gs++[g]) f m r q (by omega) d h⟩
  ·rw[h] at a;exact a.symm
  ·rw[h] at a;simp only at a;rw[<-a];cases gC (dh p b n (gs++[g])) (x.bounds.map (mT ts)) (c+1) [] with
   | mk w f=>cases w<;>rfl
theorem HV:∀{c:List Own}{n m:Nat},Da c [n,m]->∃g t cs b a cs',c=[.box g (t+1) cs,.box b (a+1) cs']/\cs.length=n/\cs'.length=m
 | [],_,_,h=>h.elim
 | [_],_,_,h=>h.2.elim
 | [o,p],n,m,h=>by
  cases o with
  | row=>exact h.1.elim
  | box g t cs =>
   cases t with
   | zero=>exact fL rfl (wW h.1)
   | succ t =>
    cases p with
    | row=>exact h.2.1.elim
    | box b a cs' =>
     cases a with
     | zero=>exact fL rfl (wW h.2.1)
     | succ a=>exact⟨g,t,cs,b,a,cs',rfl,h.1,h.2.1⟩
 | _::_::_::_,_,_,h=>h.2.2.elim
def Al:iq:=.mk false 0 [] []
def Vv (v:Value):List (List Value):=match v with
 | .iface _ (.int _ n)=>[[.bool false,.int .i64 0,.slice none 0 0,.slice none 0 0],[.int .i64 n]]
 | _=>[]
theorem Td (c:List Own) (w:World) (hb:Da c [4,1]):CallsD P 76 (c.map lN).toArray .returning w fun e f w'=>e=.returned (.tuple #[])/\f=.returning/\w'=w:=by
 have h:Try.f76.ntmps=13:=by kernel_rfl
 have l:Try.f76.results=#[]:=by kernel_rfl
 obtain⟨g,t,cs,j,k,cs',rfl,_,_⟩:=HV hb;refine callsD_of_wpS Try.func76 rfl fun a cs d=>?_;apply wpS_seq;apply wpS_region;simp[wpOpsS,go_sem,recoverD,d,h,Exit.thenS,lN];refine wpS_of_wp (wp_block (wp_seq (wp_region ?_)));have b:P.underlying 20=some (.interface #[]):=by kernel_rfl
 have he:∀w:World,(Op.equal 20 .nilIface .nilIface).run P w=.ok true w:=fun w=>E6 b;simp[wpOps,go_sem,Exit.then,he,Exit.inBlock];refine .inl ?_;apply wp_cond_true
 ·simp[Act.eval,Array.replicate]
 apply wp_region;cases a
 simp_all [wpOps,go_sem,bodyPostS,results,Exit.inBlock]
theorem Qj:n9 P 76 (fun v=>∃n,v=zE n) [4,1] Vv:=by
 refine vX Try.func76 Ph rfl Td ?_;rintro F k v ⟨n,rfl⟩ hb;obtain⟨g,t,cs,f,h,cs',rfl,h1,e⟩:=HV hb
 match cs,h1 with
 | [a,b,c,d],_ =>
  match cs',e with
  | [x],_=>(try intro l)<;>(try intro j)<;>exact rfl
theorem BO {f:Int->cB->pW}{E:Int->Prop}(hf:∀c g e d,f c g=(.error e,d)->E e):∀(l:List cB) (c:Int) (a:List iq) e b,gC f l c a=(.error e,b)->E e
 | [],c,a,e,b,h=>by
  have h:(Except.ok a,c)=((Except.error e:Except Int (List iq)),b):=h;injection h with h;cases h
 | g::l,c,a,e,b,h=>by
  rw[gC] at h;cases j:f c g with
  | mk k d =>
   rw[j] at h;cases k with
   | error m =>
    injection h with h
    injection h with h
    subst h;exact hf c g _ _ j
   | ok r=>exact BO hf l d (a++[r]) e b h
theorem rJ (p:Prog) (l:List bh):∀(n:Nat) (a:List cB) (c:Int) (g:cB) e b,dh p l n a c g=(.error e,b)->e=2\/e=9\/e=15
 | 0,a,c,g,e,b,h=>by rw[dh] at h;injection h with h;injection h with h;exact .inl h.symm
 | n+1,a,c,g,e,b,h=>by
  rw[dh] at h;split at h
  ·injection h with h;injection h with h;exact .inl h.symm
  split at h
  ·injection h with h;injection h with h;exact .inr (.inr h.symm)
  split at h
  ·injection h with h;cases h
  cases d:qO g p.impls 0 with
  | none=>rw[d] at h;injection h with h;injection h with h;exact .inr (.inl h.symm)
  | some q =>
   obtain⟨k,x,ts⟩:=q;rw[d] at h;simp only at h;cases j:gC (dh p l n (a++[g])) (x.bounds.map (mT ts)) (c+1) [] with
   | mk m r =>
    rw[j] at h;cases m with
    | ok ps=>injection h with h;cases h
    | error o =>
     injection h with h
     injection h with h
     subst h;exact BO (f:=dh p l n (a++[g])) (E:=fun e=>e=2\/e=9\/e=15) (fun c q e b h=>rJ p l n (a++[g]) c q e b h) _ _ _ _ _ j
theorem CallsTS.toX {P:Program}{f:Nat}{args:List C}{Lin:List TO}{R:List TO->C->Prop}{Pp:List TO->Value->Prop}{Pq:Value->Prop}(h:CallsTS P f args Lin R Pp) (p:∀Mo v,Pp Mo v->Pq v):CallsTX P f args Lin R Pq :=
 ⟨fun F Li m h1 s d=>let k:=h.out F Li m h1 s d;⟨k.ent,k.mono,fun w j=>(k.run w j).mono fun e w' q=>by
  rcases q with q | ⟨v,t,F',Lo,n,c,r,a,o,l,Mo,u,x,b⟩
  ·exact .inl q
  ·exact .inr ⟨v,t,F',Lo,n,c,r,a,o,l,p _ _ b⟩⟩⟩
theorem Qk (L1:TL) (ks ko:List Nat) {L:TL}{ρ:aM}{PS:nU}{Pp:Value->Prop}{f:Nat}{args a:List C}{K:TL->aM->C->Prop}{Lin Lin':List TO}(h:CallsTX P f a Lin' (fun _ _=>False) Pp) (n:gives L L1 L1) (k:L1.sub ks=some Lin)
  (b:(covers L L1&&T.aS ks&&T.aS ko&&jI L1 ks ko&&aK Lin ks ko)=true) (o:(args.map fun c=>c.aaj.ren (bB ks 1000))=a) (e:Lin.map (TO.aad (C.ren (bB ks 1000)))=Lin') (m:∀v,Pp v->PS.ps v)
  (l:jJ L1 ks PS.hb=true:=by rfl):lq P PS f args L ρ K:=by
 subst o e;simp only[v5] at b;obtain⟨⟨⟨⟨c0,d⟩,j⟩,c3⟩,c4⟩:=b;exact⟨[],ks,ko,L1,Lin,_,_,.inr ⟨n,c0⟩,k,d,j,c3,c4,l,h,m,fun v Mo q=>q.elim⟩
noncomputable def iN (p:Prog) (a:List bh) (tr:Int) (t:Ty):iq×Int:=match(dh p a 401 [] 0 ⟨tr,t⟩).1 with
 | .ok r=>(r,0)
 | .error e=>(Al,e)
theorem VQ (p:Prog) (a:List bh) (tr:Int) (t:Ty) (l:p.impls.length<=9223372036854775807):CallsT P 34 [mQ p,.sl (a.map aZ),IC tr,aV t] [] (aU [] (.tup [.agg (iL (iN p a tr t).1),IC (iN p a tr t).2])):=by
 have f:=Y6 p a l 401 [] 0 ⟨tr,t⟩ (by omega) (by omega) (by simp) (by omega);have b:=rJ p a 401 [] 0 ⟨tr,t⟩;unfold iN;generalize dh p a 401 [] 0 ⟨tr,t⟩=res at f b ⊢;obtain⟨s,u⟩:=res;refine gM (PS:=fun v=>∃e,s=.error e/\v=zE e) (ns:=[4,1]) (out:=Vv) Try.func34 Pg (n9.mono Qj fun v ⟨e,_,h⟩=>⟨e,h⟩) (fun v ⟨e,_,h⟩=>by subst h;rfl) rfl rfl ?_ fun hw ho=>?_
 ·rintro v ⟨e,rfl,rfl⟩;have he:=b e u rfl;refine⟨.tup [.agg (iL Al),IC e],.tuple #[.agg #[.bool false,.int .i64 0,.slice none 0 0,.slice none 0 0],.int .i64 e],?_,?_,?_⟩
  ·intro L ρ h;obtain⟨a1,g1,t1,x⟩:=h 0 8 _ rfl rfl;obtain⟨z,g2,t2,b2⟩:=h 1 9 _ rfl rfl;simp only[nH,a1,x,z,b2];rfl
  ·intro F L;have o:Rel F L (.sl []) (.slice none 0 0):=by
    rw[Rel];exact⟨none,0,rfl,aa0 _,by decide,fun _=>⟨rfl,rfl⟩,1,by rw[gK];trivial⟩
   have hb:Rel F L (.bool false) (.bool false):=by rw[Rel]
   have w:aB F L [] []:=by rw[aB]
   have cons:∀{c cs v n},Rel F L c v->aB F L cs n->aB F L (c::cs) (v::n):=fun h1 h2=>by
    rw[aB];exact⟨_,_,rfl,h1,h2⟩
   rw[Rel];refine⟨[.agg [.bool false,.int .i64 0,.slice none 0 0,.slice none 0 0].toArray,.int .i64 e],rfl,cons ?_ (cons (Xg (by omega) (by omega)) w)⟩;rw[Rel];exact⟨[.bool false,.int .i64 0,.slice none 0 0,.slice none 0 0],rfl,by rw[js];exact cons hb (cons (Xg (m:=0) (by omega) (by omega)) (cons o (cons o w)))⟩
  ·intro Mo d;have d:Mo=[]:=d;subst d;exact⟨rfl,rfl⟩
 refine⟨rfl,?_⟩;cases s with
 | error e =>
  have h:CallsTX P 77 (Aj p a ⟨tr,t⟩) (PB p a 0 []) (fun _ _=>False) (fun v=>v=zE e):=CallsTS.toX (CallsTS.imp f (fun Mo v ⟨r,k,q,_⟩=>by cases q) fun Mo v q=>q) fun Mo v ⟨e',k,q,_,j⟩=>by cases q;exact j
  exact Qk [(8,.box 64 [.bool false,IC 0,.nils,.nils]),(9,.box 45 [IC 0]),(10,.box 3 [IC 0]),(11,.box 107 [.rw 2000]),(12,.box 108 [.fn 77 [] [.own 10 0,.own 11 0,.pt [.sl (a.map aZ)] 0,.pt (kg p) 0,.own 12 0]]),(2000,.row 110 4 [])] [10,11,12,2000] [10,11,12,2000] h ⟨.inl ⟨_,rfl,.inl ⟨rfl,rfl⟩⟩,.inl ⟨_,rfl,.inl ⟨rfl,rfl⟩⟩,.inl ⟨_,rfl,.inl ⟨rfl,rfl⟩⟩,.inl ⟨_,rfl,.inr ⟨107,_,_,rfl,rfl,_,_,rfl,sN rfl rfl,rfl⟩⟩,.inl ⟨_,rfl,.inl ⟨rfl,rfl⟩⟩,.inr ⟨rfl,110,4,rfl⟩,trivial⟩ rfl rfl rfl rfl (fun v q=>⟨e,rfl,q⟩)
 | ok r =>
  have h:CallsTX P 77 (Aj p a ⟨tr,t⟩) (PB p a 0 []) (aU (PB p a u []) (.agg [.bool r.assumed,IC r.index,.sl (r.types.map aI),.sl (r.proofs.map iL)])) (fun v=>False):=CallsTS.toX (CallsTS.imp f (fun Mo v ⟨r',k,q,y,j⟩=>by cases q;exact⟨y,by rw[j,js]⟩) fun Mo v q=>q) fun Mo v ⟨e',k,q,_,j⟩=>by cases q
  refine R5 [(8,.box 64 [.bool false,IC 0,.nils,.nils]),(9,.box 45 [IC 0]),(10,.box 3 [IC 0]),(11,.box 107 [.rw 2000]),(12,.box 108 [.fn 77 [] [.own 10 0,.own 11 0,.pt [.sl (a.map aZ)] 0,.pt (kg p) 0,.own 12 0]]),(2000,.row 110 4 [])] [10,11,12,2000] [10,11,12,2000] h ⟨.inl ⟨_,rfl,.inl ⟨rfl,rfl⟩⟩,.inl ⟨_,rfl,.inl ⟨rfl,rfl⟩⟩,.inl ⟨_,rfl,.inl ⟨rfl,rfl⟩⟩,.inl ⟨_,rfl,.inr ⟨107,_,_,rfl,rfl,_,_,rfl,sN rfl rfl,rfl⟩⟩,.inl ⟨_,rfl,.inl ⟨rfl,rfl⟩⟩,.inr ⟨rfl,110,4,rfl⟩,trivial⟩ rfl rfl rfl rfl rfl (fun v q=>q.elim) fun _ _=>?_;rw[js];exact aC rfl rfl
theorem C8 {p:iq->Prop}(h:∀x,(∀q∈x.proofs,p q)->p x):∀x,p x
 | .mk b i l ps=>h _ fun q a=>C8 h q
termination_by x=>SizeOf.sizeOf x
decreasing_by
 have:=List.sizeOf_lt_of_mem (show q∈ps from a);simp only[iq.mk.sizeOf_spec];omega
theorem Ql {a b:iq}:a=b↔a.assumed=b.assumed/\a.index=b.index/\a.types=b.types/\a.proofs=b.proofs:=by
 cases a;cases b;rw[iq.mk.injEq];rfl
theorem Qm {l:List iq}{k:Nat}{x:iq}{K:List C->Prop}(a:l[k]?=some x) (h:K [.bool x.assumed,IC x.index,.sl (x.types.map aI),.sl (x.proofs.map iL)]):uY (l.map iL) (k:Int) 4 K:=FC a (js x) rfl h
abbrev kJ (x:iq):C:=.agg [.bool x.assumed,IC x.index,.sl (x.types.map aI),.sl (x.proofs.map iL)]
theorem Qn (x:iq):C.agg (iL x)=kJ x:=by rw[js]
theorem Yb (a b:iq) (V:Bool) (s:iq->iq->Bool) (v:V=true↔a=b) (h:∀x y,s x y=true↔x=y) (ih:∀x∈a.proofs,∀y,CallsT P 35 [kJ x,kJ y] [] (aU [] (.bool (s x y)))):CallsT P 35 [kJ a,kJ b] [] (aU [] (.bool V)):=by
 have e:=t45 a.types b.types;rw[pT] at e;have n:=@pu (a.types=b.types);generalize uP (a.types=b.types)=tt at e n;rw[Ql] at v;obtain⟨v1,v2⟩:=C3 v;have r:(a.proofs.map iL).length=a.proofs.length:=vz _;have eb:(b.proofs.map iL).length=b.proofs.length:=vz _;refine af Try.func35 OI rfl fun hw _=>?_;have t:a.proofs.length<=9223372036854775807:=by have:=gZ hw.1.2.2.2.1;rwa [r] at this
 refine aR (fun q=>aC rfl (vv C.bool (v2 fun z=>q z.1).symm)) (fun q1=>?_);refine aR (fun q=>aC rfl (vv C.bool (v2 fun z=>q z.2.1).symm)) (fun q2=>?_);refine aY e rfl fun _=>?_;refine aq (fun q=>aC rfl (vv C.bool (v2 fun z=>by rw[n.2 z.2.2.1] at q;cases q).symm)) (fun m=>?_);have m:=n.1 (by simpa using m);refine aR (fun q=>aC rfl (vv C.bool (v2 fun z=>q (by rw[z.2.2.2])).symm)) (fun u=>?_);have u:((a.proofs.map iL).length:Int)=((b.proofs.map iL).length:Int):=u;have w:a.proofs.length=b.proofs.length:=by omega
 have w1:a.proofs=b.proofs->true=V:=fun z=>(v1 ⟨q1,q2,m,z⟩).symm;have w2:¬a.proofs=b.proofs->false=V:=fun z=>(v2 fun y=>z y.2.2.2).symm;refine bX a.proofs.length 5 [] () (fun _=>[]) (fun _=>[]) (fun k _=>a.proofs.take k=b.proofs.take k) (by simp) (ai rfl) trivial trivial (fun _=>rfl) (fun _=>rfl) ?_;rintro k _ hk c _ _ _;have c:a.proofs.take k=b.proofs.take k:=c;refine ah (fun d=>?_) (fun j=>?_)
 ·have d:k<a.proofs.length:=by rw[r] at d;omega
  refine dP d fun x f o=>?_;refine dP (l:=b.proofs) (k:=k) (by omega) fun y p ad=>?_;refine Qm f ?_;refine Qm p ?_;refine bD (ih x o y) rfl fun _=>?_;refine aq (fun q=>?_) (fun q=>?_)
  ·refine aC rfl (vv C.bool (w2 fun z=>?_));rw[z,p] at f;injection f with f
   rw[(h x y).2 f.symm] at q;cases q
  ·have q:=(h x y).1 (by simpa using q);refine Fit.aaf (by omega) (by omega) ?_;refine⟨(k+1,()),⟨d,?_⟩,⟨bM,trivial⟩,trivial,bN d⟩;show a.proofs.take (k+1)=b.proofs.take (k+1);rw[gV f,gV p,c,q]
 ·have j:¬k<a.proofs.length:=by rw[r] at j;omega
  rw[abA (by omega),abA (by omega)] at c;exact aC rfl (vv C.bool (w1 c))
theorem t35:∀a b:iq,CallsT P 35 [kJ a,kJ b] [] (aU [] (.bool (uP (a=b)))):=C8 (p:=fun a=>∀b:iq,CallsT P 35 [kJ a,kJ b] [] (aU [] (.bool (uP (a=b))))) fun a d b =>
 Yb a b _ (fun x y=>uP (x=y)) pu (fun x y=>pu) fun x c y=>d x c y
mutual
/-- how many proofs a proof consists of -/
def ET:iq->Nat
 | .mk _ _ _ ps=>wm ps+1
def wm:List iq->Nat
 | []=>0
 | x::l=>ET x+wm l
end
theorem Gj (x:iq):ET x=wm x.proofs+1:=by cases x;rfl
theorem zJ:∀(l:List iq) (x:iq),wm (l++[x])=wm l+ET x
 | [],x=>by rw[abp,wm,wm];simp[wm]
 | y::l,x=>by rw[aa1,wm,zJ l x,wm];omega
theorem ME {l:List iq}{k:Nat}{x:iq}(c:l.drop k=x::l.drop (k+1)) (f:l.take (k+1)=l.take k++[x]):wm l=wm (l.take k)+ET x+wm (l.drop (k+1)):=by
 have:∀a b:List iq,wm (a++b)=wm a+wm b:=by
  intro a b
  induction a with
  | nil=>simp[wm]
  | cons y a d=>rw[aa1,wm,d,wm];omega
 have e:=this (l.take k) (l.drop k);rw[List.take_append_drop,c,wm] at e;omega
theorem t36:∀(a:iq) (n:Int),(ET a:Int)<=n->n<=1000->CallsT P 36 [kJ a,IC n] [] (aU [] (IC (ET a))):=C8 (p:=fun a=>∀n:Int,(ET a:Int)<=n->n<=1000->CallsT P 36 [kJ a,IC n] [] (aU [] (IC (ET a)))) fun a w n hn ab=>by
 have t:(a.proofs.map iL).length=a.proofs.length:=vz _;have f:=Gj a;have b:=fun(k:Nat) (x:iq) (y:a.proofs.drop k=x::a.proofs.drop (k+1)) (l:a.proofs.take (k+1)=a.proofs.take k++[x])=>ME y l;have e:=zJ;have d:wm []=0:=rfl;have h:∀x,1<=ET x:=fun x=>by rw[Gj];omega
 generalize ET=sz at w hn f b e h ⊢;generalize wm=sl at f b e d;refine af Try.func36 OJ rfl fun z _=>?_;have u:a.proofs.length<=9223372036854775807:=by have:=gZ z.1.2.2.2.1;rwa [t] at this
 refine bX a.proofs.length 6 [5] (1:Int) (fun s=>[IC s]) (fun _=>[]) (fun k s=>s=1+(sl (a.proofs.take k):Int)) (by rw[List.take_zero,d];rfl) (ai rfl) ⟨ai rfl,trivial⟩ trivial (fun _=>rfl) (fun _=>rfl) ?_;rintro k s hk m _ _ _;have m:s=1+(sl (a.proofs.take k):Int):=m;refine ah (fun c=>?_) (fun j=>?_)
 ·have c:k<a.proofs.length:=by rw[t] at c;omega
  refine aX c fun x v r o=>?_;have l:=gV v;have h1:=b k x o l;have h2:=e (a.proofs.take k) x;rw[<-l] at h2;refine ah (fun _=>?_) (fun q=>fL (show s<=n by omega) q);refine Qm v ?_;refine Fit.aaf (by omega) (by omega) ?_;refine aY (w x r (n-s) (by omega) (by omega)) rfl fun _=>?_;refine Fit.aaf (by omega) (by omega) ?_;refine Fit.aaf (by omega) (by omega) ?_;exact⟨(k+1,s+(sz x:Int)),⟨c,(by show s+(sz x:Int)=1+(sl (a.proofs.take (k+1)):Int);omega)⟩,⟨bM,ai rfl,trivial⟩,trivial,bN c⟩
 ·have j:¬k<a.proofs.length:=by rw[t] at j;omega
  rw[abA (by omega)] at m;exact aC rfl (vv IC (by omega))
def MF (a:List bh) (tr:Int) (t:Ty) (i:Int) (n m:Nat):Bool:=decide (t.kind=5)&&(ef i a.length&&((match a[i.toNat]? with
 | some b=>decide (b.param=t.id)&&decide (b.trait=tr)
 | none=>false)&&decide (n+m=0)))
mutual
def qQ (p:Prog) (bs:List bh):Int->Ty->iq->Bool
 | tr,t,.mk true i ts ps=>MF bs tr t i ts.length ps.length
 | tr,t,.mk false i ts ps=>ef i p.impls.length&&(match p.impls[i.toNat]? with
  | none=>false
  | some x=>decide (x.trait=tr)&&(decide ((ts.length:Int)=x.params)&&(decide (ps.length=x.bounds.length)&&(eqB (subst ts x.type) t&&Am p bs ts x.bounds ps))))
def Am (p:Prog) (bs:List bh) (ts:List Ty):List bh->List iq->Bool
 | b::l,q::ps=>ef b.param ts.length&&(qQ p bs b.trait ((ts[b.param.toNat]?).getD zT) q&&Am p bs ts l ps)
 | _,_=>true
end
theorem Yc (x y:Ty):CallsT P 80 [aV x,aV y] [] (aU [] (.bool (eqB x y))):=by
 have:=YR x y;rw[pT,CN] at this;exact this
theorem Yd (p:Prog) (a:List bh) (tr:Int) (t:Ty) (x:iq) (u:x.assumed=true):CallsT P 37 [mQ p,.sl (a.map aZ),IC tr,aV t,kJ x] [] (aU [] (.bool (MF a tr t x.index x.types.length x.proofs.length))):=by
 have f:=t85 (a.map aZ) x.index;have s:(a.map aZ).length=a.length:=vz _;have j:(x.types.map aI).length=x.types.length:=vz _;have n:(x.proofs.map iL).length=x.proofs.length:=vz _;rw[s] at f;have e:MF a tr t x.index x.types.length x.proofs.length=(decide (t.kind=5)&&(ef x.index a.length&&((match a[x.index.toNat]? with
 | some b=>decide (b.param=t.id)&&decide (b.trait=tr)
 | none=>false)&&decide (x.types.length+x.proofs.length=0)))):=rfl
 generalize MF a tr t x.index x.types.length x.proofs.length=V at e ⊢;have hi:=@eM x.index a.length;generalize ef x.index a.length=ib at e f hi;refine af Try.func37 GQ rfl fun o _=>?_;have w:x.types.length<=9223372036854775807:=by have:=gZ o.2.2.2.2.1.2.2.1;rwa [j] at this
 have v:x.proofs.length<=9223372036854775807:=by have:=gZ o.2.2.2.2.1.2.2.2.1;rwa [n] at this
 refine aq (fun _=>?_) (fun q=>fL (show x.assumed=false from q) (by rw[u];exact Bool.noConfusion));refine ah (fun h=>?_) (fun h=>?_)
 ·have h:t.kind=5:=h;refine bD f rfl fun _=>?_;refine aq (fun c=>?_) (fun c=>?_)
  ·have c:ib=true:=c;have hi:=hi.1 c;refine dP (l:=a) (k:=x.index.toNat) (by omega) fun b hb r=>?_;refine BG hi.1 hb ?_;rw[hb,aaN h,c] at e;refine aq (fun d=>?_) (fun d=>?_)
   ·refine Br (m:=zR ((x.types.map aI).length+(x.proofs.map iL).length)) rfl ?_;refine aC rfl (vv C.bool ?_);have d:(decide (b.param=t.id)&&decide (b.trait=tr))=true:=d;rw[e];simp only[d,aaS,decide_eq_decide];unfold zR;rw[IntKind.wrap_i64,j,n];omega
   ·refine aC rfl (vv C.bool ?_);have d:(decide (b.param=t.id)&&decide (b.trait=tr))=false:=d;rw[e];simp only[d,aaV,abh]
  ·have c:ib=false:=c;exact aC rfl (vv C.bool (by rw[e,c];simp))
 ·exact aC rfl (vv C.bool (by rw[e,aaP (show¬t.kind=5 from h)];rfl))
theorem Te {l:List Ty}{z:Int}{x:Ty}{K:List C->Prop}(h0:0<=z) (a:l[z.toNat]?=some x) (h:K [IC x.kind,IC x.id,.sl (x.args.map aI)]):uY (l.map aI) z 3 K :=
 ⟨_,h0,by rw[aa4,a];exact vv some (iJ x),rfl,h⟩
structure Ye (p:Prog) (tr:Int) (t:Ty) (x:iq) (V:Bool) (pvL:List Ty->List bh->List iq->Bool):Prop where
 h0:ef x.index p.impls.length=false->V=false
 h1:∀y,0<=x.index->p.impls[x.index.toNat]?=some y->(¬y.trait=tr->V=false)/\(¬(x.types.length:Int)=y.params->V=false)/\(¬x.proofs.length=y.bounds.length->V=false)/\(eqB (subst x.types y.type) t=false->V=false) /\
  (y.trait=tr->(x.types.length:Int)=y.params->x.proofs.length=y.bounds.length->eqB (subst x.types y.type) t=true->pvL x.types y.bounds x.proofs=V)/\ji y.type
theorem Yf (p:Prog) (bs:List bh) (tr:Int) (t:Ty) (x:iq) (hx:x.assumed=false) (V:Bool) (pv:Int->Ty->iq->Bool) (o:List Ty->List bh->List iq->Bool) (X:Ye p tr t x V o)
  (e:∀ts,o ts [] []=true) (d:∀ts b l q ps,o ts (b::l) (q::ps)=(ef b.param ts.length&&(pv b.trait ((ts[b.param.toNat]?).getD zT) q&&o ts l ps)))
  (ih:∀q∈x.proofs,∀tr t,CallsT P 37 [mQ p,.sl (bs.map aZ),IC tr,aV t,kJ q] [] (aU [] (.bool (pv tr t q)))):CallsT P 37 [mQ p,.sl (bs.map aZ),IC tr,aV t,kJ x] [] (aU [] (.bool V)):=by
 obtain⟨h0,h1⟩:=X;have v:=t86 (p.impls.map dH) x.index;have ei:(p.impls.map dH).length=p.impls.length:=vz _;have et:(x.types.map aI).length=x.types.length:=vz _;have ep:(x.proofs.map iL).length=x.proofs.length:=vz _;have j:=YQ (x.types.map aI);rw[ei] at v;rw[et] at j;have hi:=@eM x.index p.impls.length;have hj:=fun i=>@eM i x.types.length;generalize ef x.index p.impls.length=ib at h0 v hi;have aa:=fun z h=>t16 x.types z h;have w:=Yc;generalize eqB=eb at h1 w;generalize subst x.types=sb at h1 aa;generalize f:(fun i=>ef i x.types.length)=jb at j;have f:∀i,ef i x.types.length=jb i:=fun i=>by rw[<-f]
 have j:∀n:Int,CallsT P 84 [.sl (x.types.map aI),IC n] [] (aU [] (.bool (jb n))):=fun n=>by rw[<-f];exact j n
 simp only[f] at hj;have d:=fun b l q ps=>d x.types b l q ps;simp only[f] at d;have e:=e x.types;have h1:=fun y a b=>h1 y a b;generalize o x.types=pl at h1 d e;refine af Try.func37 GQ rfl fun hw _=>?_;have w2:x.proofs.length<=9223372036854775807:=by have:=gZ hw.2.2.2.2.1.2.2.2.1;rwa [ep] at this
 refine aq (fun q=>fL (show x.assumed=true from q) (by rw[hx];exact Bool.noConfusion)) (fun _=>?_);refine aY v rfl fun _=>?_;refine aq (fun q=>?_) (fun q=>?_)
 ·exact aC rfl (vv C.bool (h0 (by simpa using q)).symm)
 have hi:=hi.1 (by simpa using q);refine dP (l:=p.impls) (k:=x.index.toNat) (by omega) fun y hy ba=>?_;refine j4 hi.1 hy ?_;have h1:=h1 y hi.1 hy;have r:(y.bounds.map aZ).length=y.bounds.length:=vz _;refine aR (fun q=>aC rfl (vv C.bool (h1.1 q).symm)) (fun e1=>?_);refine aR (fun q=>aC rfl (vv C.bool (h1.2.1 fun z=>q (by rw[et];exact z)).symm)) (fun e2=>?_);refine aR (fun q=>aC rfl (vv C.bool (h1.2.2.1 fun z=>q (by rw[ep,r,z])).symm)) (fun e3=>?_);refine bD (aa y.type h1.2.2.2.2.2) rfl fun _=>?_;refine bD (w (sb y.type) t) rfl fun _=>?_;refine aq (fun q=>?_) (fun e4=>?_)
 ·exact aC rfl (vv C.bool (h1.2.2.2.1 (by simpa using q)).symm)
 have e2:(x.types.length:Int)=y.params:=by rw[<-et];exact e2
 have e3:x.proofs.length=y.bounds.length:=by
  have e3:((x.proofs.map iL).length:Int)=((y.bounds.map aZ).length:Int):=e3;omega
 have hV:=h1.2.2.2.2.1 e1 e2 e3 (by simpa using e4);refine bX y.bounds.length 95 [] () (fun _=>[]) (fun _=>[(12,.box 56 [IC y.trait,IC y.module,IC y.params,.sl (y.bounds.map aZ),IC y.type.kind,IC y.type.id,.sl (y.type.args.map aI),IC y.func])]) (fun k _=>pl (y.bounds.drop k) (x.proofs.drop k)=V) hV (ai rfl) trivial ⟨.inl ⟨_,rfl,.inl ⟨rfl,rfl⟩⟩,trivial⟩ (fun _=>rfl) (fun _=>rfl) ?_;rintro k _ hk c _ _ _;have c:pl (y.bounds.drop k) (x.proofs.drop k)=V:=c;refine ah (fun m=>?_) (fun s=>?_)
 ·have m:k<y.bounds.length:=by rw[r] at m;omega
  refine aX m fun b hb aE al=>?_;refine aX (l:=x.proofs) (k:=k) (by omega) fun q hq ag ac=>?_;rw[al,ac,d] at c;refine BG (by omega) (show y.bounds[((k:Int)).toNat]?=some b from hb) ?_;refine bD (j b.param) rfl fun _=>?_;refine aq (fun z=>?_) (fun z=>?_)
  ·exact aC rfl (vv C.bool (by rw[<-c,show jb b.param=false by simpa using z];rfl))
  have z:jb b.param=true:=by simpa using z
  have am:=(hj b.param).1 z;rw[z,aaS] at c;refine dP (l:=x.types) (k:=b.param.toNat) (by omega) fun u hu ay=>?_;refine Te am.1 hu ?_;refine Qm hq ?_;rw[hu] at c;refine bD (ih q ag b.trait u) rfl fun _=>?_;refine aq (fun z=>?_) (fun z=>?_)
  ·exact aC rfl (vv C.bool (by rw[<-c,show pv b.trait ((some u).getD zT) q=false by simpa using z];rfl))
  rw[show pv b.trait ((some u).getD zT) q=true by simpa using z,aaS] at c;refine Fit.aaf (by omega) (by omega) ?_;exact⟨(k+1,()),⟨m,c⟩,⟨bM,trivial⟩,⟨.inl ⟨_,rfl,.inl ⟨rfl,rfl⟩⟩,trivial⟩,bN m⟩
 ·have s:¬k<y.bounds.length:=by rw[r] at s;omega
  rw[bQ s,bQ (l:=x.proofs) (by omega),e] at c;exact aC rfl (vv C.bool c)
theorem Yg (p:Prog) (c:List bh) (hB:∀x∈p.impls,ji x.type):∀(x:iq) (tr:Int) (t:Ty),CallsT P 37 [mQ p,.sl (c.map aZ),IC tr,aV t,kJ x] [] (aU [] (.bool (qQ p c tr t x))):=C8 (p:=fun x=>∀(tr:Int) (t:Ty),CallsT P 37 [mQ p,.sl (c.map aZ),IC tr,aV t,kJ x] [] (aU [] (.bool (qQ p c tr t x)))) fun x n tr t=>by
 obtain⟨a,i,ts,ps⟩:=x;cases a with
 | true =>
  have:=Yd p c tr t (.mk true i ts ps) rfl;rw[qQ];exact this
 | false =>
  refine Yf p c tr t (.mk false i ts ps) rfl _ (qQ p c) (Am p c) ⟨fun h=>?_,fun y h0 d=>?_⟩ (fun ts=>by rw[Am];intros;contradiction) (fun ts b l q ps=>by rw[Am]) n
  ·rw[qQ,show ef i p.impls.length=false from h];rfl
  ·have d:p.impls[i.toNat]?=some y:=d;have m:=(aaR.1 d).1;have h0:0<=i:=h0;have e:qQ p c tr t (.mk false i ts ps)=(decide (y.trait=tr)&&(decide ((ts.length:Int)=y.params)&&(decide (ps.length=y.bounds.length)&&(eqB (subst ts y.type) t&&Am p c ts y.bounds ps)))):=by
    rw[qQ,eM.2 ⟨h0,by omega⟩,aaS];simp only[d]
   rw[e];refine⟨fun h=>?_,fun h=>?_,fun h=>?_,fun h=>?_,fun k j o f=>?_,hB y (aaW d)⟩
   ·rw[aaP h];rfl
   ·rw[aaP (show¬(ts.length:Int)=y.params from h)];simp
   ·rw[aaP (show¬ps.length=y.bounds.length from h)];simp
   ·rw[show eqB (subst ts y.type) t=false from h];simp
   ·rw[aaN k,aaN (show(ts.length:Int)=y.params from j),aaN (show ps.length=y.bounds.length from o),show eqB (subst ts y.type) t=true from f];rfl
end Go.Fr.Try
