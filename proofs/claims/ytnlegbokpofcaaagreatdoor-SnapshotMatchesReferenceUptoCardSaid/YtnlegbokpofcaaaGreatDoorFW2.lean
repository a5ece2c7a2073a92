/- Part of the proofs of the statements of this seat. -/
import Derived.Test.YtnlegbokpofcaaaGreatDoorFW1
import Derived.Tactics
import Derived.Tactics2
import Derived.Defers
import Derived.Recover
import Derived.OneCell
set_option maxRecDepth 10000
set_option linter.unusedVariables false
set_option linter.unusedSimpArgs false
namespace Go.Fr.T
open Go Go.RowKit Go.Fr
section
variable {P:Program}{G:Nat->Option (Nat×TypeId)}{F:aJ}{L:Loc}{ρ:Env}{M:TL}{τ:bg}
theorem lg {k:IntKind}{n:Int}(h:(Lit.int k n).wf=true):bh F L (.int k n) (.v (.int k n)):=⟨_,rfl,by simp only[Rel];exact⟨trivial,h⟩⟩
theorem gX {b:Bool}:bh F L (.bool b) (.v (.bool b)):=⟨_,rfl,by simp only[Rel]⟩
theorem zE {s:ByteArray}(h:s.size<=maxLen):bh F L (.str s) (.v (.string s)):=⟨_,rfl,by simp only[Rel];exact⟨trivial,h⟩⟩
theorem Ls {es:List C}{vs:List Value}{c:Addr}{j:Nat}{a:Array Value}{t:TypeId}{e:Nat×Nat}(hb:F c.block=some (.cells a t e)) (d:c.spot=none)
  (h:∀(i:Nat) v,vs[i]?=some v->a[c.off+j+i]?=some v/\qf e (c.off+j+i)) (f:eP es=true) (k:aK F [] es vs):bh F L (.pt es 0) (.el (some c) j):=by
 obtain⟨b,o,l⟩:=c;simp only at d;subst d;exact⟨b,o,j,vs,.inr rfl,⟨o+j,a,t,e,hb,rfl,h⟩,f,k⟩
theorem BQ:∀{p:List UInt8}{xs:List Value},aT F 1 (ah p) xs->xs=p.map fun b=>Value.int .u8 b.toNat
 | [],xs,h=>by simpa[ah,aT] using h
 | b::p,xs,h=>by
  simp only[ah,acU,aT] at h;obtain⟨vs,c,rfl,f,j,a,d⟩:=h;simp only[aK,Rel] at a;obtain⟨v,e,rfl,⟨rfl,_⟩,rfl⟩:=a;rw[BQ (p:=p) d];rfl
theorem xg {a:Option Addr}{sz c:Nat}{bs:List UInt8}(k:ij F a sz 0 (ah bs)) (hn:a=none->ah bs=[]/\c=0) :
  (cC F a 0 (bs.map fun b=>Value.int .u8 b.toNat))\/bs.length=0:=by
 rw[n8] at k;cases hb:bs with
 | nil=>exact .inr rfl
 | cons b0 o =>
  refine .inl ?_;have h0:=k 0 [iX b0] (by simp[ah,hb]);obtain⟨us,r,⟨z,n,t,y,e,f,j,_⟩,_,h⟩:=h0;have l:sz=1:=by rw[<-r,h.len];rfl
  subst l;rw[<-hb];refine⟨z,n,t,y,e,f,j,fun i v hi=>?_⟩;simp only[adp,Option.map_eq_some_iff] at hi;obtain⟨b,m,rfl⟩:=hi;obtain⟨us,r,⟨ab,p,t',s,e',d,q,w⟩,_,h⟩:=k i [iX b] (by simp[ah,m]);rw[e] at e';injection e' with e'
  subst e';rw[f] at d;injection d with d
  injection d with q1 q2 q3
  subst q1 q3;simp only[aK,Rel] at h;obtain⟨u,x,rfl,⟨rfl,_⟩,rfl⟩:=h;have:=w 0 _ (by simp;rfl);simpa using this
theorem Pg {els:List (List C)}{a:Option Addr}{c sz:Nat}(b:els.length<=c) (d:els.length<=maxLen) (f:a=none->els=[]/\c=0) (e:ij F a sz 0 els):bh F L (.sl els) (.v (.slice a els.length c)) :=
 ⟨_,rfl,by simp only[Rel];exact⟨a,c,rfl,b,d,f,sz,e⟩⟩
set_option maxHeartbeats 1000000 in
theorem Ph:∀{ks:List Bool}{cs ds:List C}{e b:Bool}{vs us:List Value},wk ks cs ds e=some b->aK F L cs vs->aK F L ds us->jN ks vs.toArray.toList us.toArray.toList e=some b:=by
 intro ks
 induction ks with
 | nil =>
  intro cs ds e b vs us h d a;cases cs with
  | cons c cs=>simp[wk] at h
  | nil =>
   cases ds with
   | cons c cs=>simp[wk] at h
   | nil =>
    simp only[aK] at d a;subst d a;simpa[jN,wk] using h
 | cons k ks l =>
  intro cs ds e b vs us h d a;cases cs with
  | nil=>cases k<;>simp[wk] at h
  | cons c cs =>
   cases ds with
   | nil=>cases k<;>cases c<;>simp[wk] at h
   | cons n ds =>
    cases k<;>cases c<;>try (simp[wk] at h;done)
    all_goals cases n<;>try (simp[wk] at h;done)
    all_goals simp only[aK,Rel] at d a
    ·obtain⟨v,j,rfl,rfl,d⟩:=d;obtain⟨u,f,rfl,rfl,a⟩:=a;simp only[wk] at h;have:=l h d a;simp only[jN];exact this
    ·obtain⟨v,j,rfl,⟨rfl,_⟩,d⟩:=d;obtain⟨u,f,rfl,⟨rfl,_⟩,a⟩:=a;simp only[wk] at h;split at h
     case h_2=>cases h
     rename_i m;have:=l h d a;simp only[jN,m];exact this
theorem tG.len:∀{es:List (C×C)}{vs:List Value},tG F es vs->vs.length=es.length
 | [],vs,h=>by simp only[tG] at h;subst h;rfl
 | (k,c)::l,vs,h=>by
  simp only[tG] at h;obtain⟨b,v,a,rfl,_,_,h⟩:=h;simp[tG.len h]
theorem YI {o:fD}{V:C->Prop}(ht:TS G F L ρ M τ) (h:outT o M τ V):aV o F L ρ (fun sv=>∃c,bh F L c sv/\V c):=by
 have he:=ht.env;cases o<;>simp only[outT] at h<;>simp only[aV]
 case mov x=>exact⟨_,eY he x,h⟩
 case pick c a b =>
  split at h
  case h_2=>exact h.elim
  rename_i t hc;rw[jq he hc];cases t
  ·exact⟨_,eY he b,h⟩
  ·exact⟨_,eY he a,h⟩
 case build zs ps =>
  rw[gA] at h;obtain⟨cs,hc,h⟩:=wm h;obtain⟨us,h1,h2⟩:=BP he ps (ol zs) hc;rw[h1];exact⟨.agg cs,⟨_,rfl,by simp only[Rel];exact⟨us,rfl,h2⟩⟩,h⟩
 case load agg n x =>
  split at h
  ·rename_i k off w;obtain⟨d,_⟩:=iz he w;rw[d];split at h
   case h_3=>exact h.elim
   case h_2 =>
    rename_i t pre cs post hk;obtain⟨g,ty,v1,v2,v3,hL,ba,hr,cr,ak⟩:=zD ht.tl hk;rcases h with⟨o,rfl,h⟩ | ⟨us,e,hl,h⟩
    case inr =>
     have p:=((ba.lift (L:=L)).drop off).take n;rw[e] at p;have aa:((v1.drop off).take n).length=n:=by rw[p.len];exact cg hl
     have hp:(((v1++(v2++v3)).drop off).take n)=(v1.drop off).take n:=by
      by_cases bb:n=0
      ·subst bb;simp
      have:off+n<=v1.length:=by simp at aa;omega
      rw[List.drop_append_of_le_length (by omega),List.take_append_of_le_length (by simp;omega)]
     simp only[hL];rw[hp,iM ak.2.2 (fR aa)];exact⟨_,dH p,h⟩
    split at h
    case h_2=>exact h.elim
    rename_i hl;have p:=(hr.drop o).take n;have aa:((v2.drop o).take n).length=n:=by rw[p.len];exact cg hl
    simp only[hL]
    by_cases bb:n=0
    ·subst bb;rw[iM ak.2.2 (fR (by simp))];simp only[List.take_zero] at h p ⊢;exact⟨_,dH p,h⟩
    have hn:o+n<=v2.length:=by simp at aa;omega
    have hp:=EA (v1:=v1) (v3:=v3) aa hn;rw[<-ba.len,hp,iM ak.2.2 (fR aa)];exact⟨_,dH p,h⟩
   rename_i t cs hk;obtain⟨g,ty,vs,hL,hr,ak⟩:=mY ht.tl hk;split at h
   case h_2=>exact h.elim
   rename_i hl;have p:=(hr.drop off).take n;simp only[hL];rw[iM ak.2.2 (fR (by rw[p.len];exact cg hl))];exact⟨_,dH p,h⟩
  ·rename_i es off w;split at h
   case h_2=>exact h.elim
   rename_i hl;obtain⟨b,o,j,vs,d,hp,ho,hr⟩:=rP he w;have p:aK F L ((es.drop off).take n) ((vs.drop off).take n):=((hr.drop off).take n).lift;rcases d with⟨d,rfl⟩ | d
   ·rw[d];exact⟨_,by rw[p.len];exact cg hl,.inl (kZ (es:=es) hp),_,dH p,h⟩
   ·rw[d];exact⟨_,by rw[p.len];exact cg hl,.inl (kZ (es:=es) hp),_,dH p,h⟩
  ·rename_i k off w;split at h
   case h_3=>exact h.elim
   case h_2 =>
    rename_i t pre cs post hk;obtain⟨g',cl,cf,d,be⟩:=pR he w;obtain⟨g,ty,v1,v2,v3,hL,ba,hr,cr,ak⟩:=zD ht.tl hk;rw[hL] at d;injection d with d
    injection d with q1 q2 q3
    subst q1 q2 q3;rcases h with⟨o,rfl,h⟩ | ⟨us,e,hl,h⟩
    case inr =>
     have p:=((ba.lift (L:=L)).drop off).take n;rw[e] at p;have aa:((v1.drop off).take n).length=n:=by rw[p.len];exact cg hl
     have ay:∀(i:Nat) (u:Value),((v1.drop off).take n)[i]?=some u->(v1++(v2++v3))[off+i]?=some u:=by
      intro i u hu;rw[adn] at hu;split at hu
      case isFalse=>cases hu
      rw[adj] at hu;rw[acY (acP.1 hu).1];exact hu
     rcases be with e2 | ⟨b,q,j,e2,e3⟩
     ·rw[e2];exact⟨_,aa,.inr (.inr (.inr ⟨k,g,ty,_,_,hL,ak.2.2,rfl,fun i u hu=>by rw[Nat.add_zero];exact ay i u hu⟩)),_,dH p,h⟩
     ·injection e3 with e3
      injection e3 with e3
      injection e3 with q1 q2 q3
      subst q1;rw[e2];exact⟨_,aa,.inr (.inr (.inr ⟨k,g,ty,_,q,hL,ak.2.2,rfl,fun i u hu=>by rw[<-q2];exact ay i u hu⟩)),_,dH p,h⟩
    split at h
    case h_2=>exact h.elim
    rename_i hl;have p:=(hr.drop o).take n;have aa:((v2.drop o).take n).length=n:=by rw[p.len];exact cg hl
    have ay:∀(i:Nat) (u:Value),((v2.drop o).take n)[i]?=some u->(v1++(v2++v3))[pre.length+o+i]?=some u:=by
     intro i u hu;rw[adn] at hu;split at hu
     case isFalse=>cases hu
     rw[adj] at hu;have bx:=(acP.1 hu).1;rw[<-ba.len,ac7 (by omega),show v1.length+o+i-v1.length=o+i by omega,acY bx];exact hu
    rcases be with e2 | ⟨b,q,j,e2,e3⟩
    ·rw[e2];exact⟨_,aa,.inr (.inr (.inr ⟨k,g,ty,_,_,hL,ak.2.2,rfl,fun i u hu=>by rw[Nat.add_zero];exact ay i u hu⟩)),_,dH p,h⟩
    ·injection e3 with e3
     injection e3 with e3
     injection e3 with q1 q2 q3
     subst q1;rw[e2];exact⟨_,aa,.inr (.inr (.inr ⟨k,g,ty,_,q,hL,ak.2.2,rfl,fun i u hu=>by rw[<-q2];exact ay i u hu⟩)),_,dH p,h⟩
   rename_i t cs hk;obtain⟨g',cl,cf,d,be⟩:=pR he w;obtain⟨g,ty,vs,hL,hr,ak⟩:=mY ht.tl hk;rw[hL] at d;injection d with d
   injection d with q1 q2 q3
   subst q1 q2 q3;split at h
   case h_2=>exact h.elim
   rename_i hl;have p:=(hr.drop off).take n;have aa:((vs.drop off).take n).length=n:=by rw[p.len];exact cg hl
   have ay:∀(i:Nat) (u:Value),((vs.drop off).take n)[i]?=some u->vs[off+i]?=some u:=by
    intro i u hu;rw[adn] at hu;split at hu
    case isFalse=>cases hu
    rwa [adj] at hu
   rcases be with e2 | ⟨b,o,j,e2,e3⟩
   ·rw[e2];exact⟨_,aa,.inr (.inr (.inr ⟨k,g,ty,vs,off,hL,ak.2.2,rfl,fun i u hu=>by rw[Nat.add_zero];exact ay i u hu⟩)),_,dH p,h⟩
   ·injection e3 with e3
    injection e3 with e3
    injection e3 with q1 q2 q3
    subst q1 q2;rw[e2];exact⟨_,aa,.inr (.inr (.inr ⟨k,g,ty,vs,o,hL,ak.2.2,rfl,fun i u hu=>ay i u hu⟩)),_,dH p,h⟩
  ·rename_i k j off w;split at h
   case h_2=>exact h.elim
   rename_i t sz els hk;obtain⟨es,h1,h2,h3⟩:=h;obtain⟨ad,t',ax,m,c,bA,d,e2⟩:=yp he w;obtain⟨v,xs,e3,_,hr⟩:=mZ ht.tl hk;rw[e2] at e3;injection e3 with e3
   injection e3 with q1 q2 q3 q4 q5
   subst q2 q3 q5;obtain⟨vs,k1,k2,k3,k4⟩:=hr.at h1;have p:aK F L ((es.drop off).take n) ((vs.drop off).take n):=((k3.drop off).take n).lift;rw[d];refine⟨_,by rw[p.len];exact cg h2,.inr (.inl ⟨k,_,_,_,_,_,ad,c,e2,rfl,rfl,fun i u hu=>?_⟩),_,dH p,h3⟩;rw[adn] at hu;split at hu
   case isFalse=>cases hu
   rw[adj] at hu;rw[Nat.add_assoc];exact k4 _ _ hu
  ·rename_i k bp j w;split at h
   case h_2=>exact h.elim
   rename_i hn;obtain rfl:=vz hn;obtain⟨o,h1,h2⟩:=h;obtain⟨g,t,cs,ad,d,e2,e3⟩:=Pc he w;rw[e2];exact⟨_,rfl,.inl (Gp e3 (v:=.pointer (some ⟨g,o,none⟩)) (by rw[adp,h1];rfl)),.ownv k o,⟨_,.inl rfl,by simp only[Rel];exact⟨g,t,cs,d,rfl⟩⟩,h2⟩
  ·exact h.elim
 case loadR agg n x =>
  split at h
  ·rename_i k off w;obtain⟨d,_⟩:=iz he w;rw[d];split at h
   case h_2=>exact h.elim
   rename_i t cs hk;obtain⟨g,ty,vs,hL,hr,ak⟩:=mY ht.tl hk;split at h
   case h_2=>exact h.elim
   rename_i hl;have p:=(hr.drop off).take n;simp only[hL];rw[iM ak.2.2 (fR (by rw[p.len];exact cg hl))];exact⟨_,dH p,h⟩
  ·rename_i es off w;split at h
   case h_2=>exact h.elim
   rename_i hl;obtain⟨b,o,j,vs,d,hp,ho,hr⟩:=rP he w;have p:aK F L ((es.drop off).take n) ((vs.drop off).take n):=((hr.drop off).take n).lift;rcases d with⟨d,rfl⟩ | d
   ·rw[d];exact⟨_,by rw[p.len];exact cg hl,.inl (kZ (es:=es) hp),_,dH p,h⟩
   ·rw[d];exact⟨_,by rw[p.len];exact cg hl,.inl (kZ (es:=es) hp),_,dH p,h⟩
  ·rename_i k off w;split at h
   case h_2=>exact h.elim
   rename_i t cs hk;obtain⟨g',cl,cf,d,be⟩:=pR he w;obtain⟨g,ty,vs,hL,hr,ak⟩:=mY ht.tl hk;rw[hL] at d;injection d with d
   injection d with q1 q2 q3
   subst q1 q2 q3;split at h
   case h_2=>exact h.elim
   rename_i hl;have p:=(hr.drop off).take n;have aa:((vs.drop off).take n).length=n:=by rw[p.len];exact cg hl
   have ay:∀(i:Nat) (u:Value),((vs.drop off).take n)[i]?=some u->vs[off+i]?=some u:=by
    intro i u hu;rw[adn] at hu;split at hu
    case isFalse=>cases hu
    rwa [adj] at hu
   rcases be with e2 | ⟨b,o,j,e2,e3⟩
   ·rw[e2];exact⟨_,aa,.inr (.inr (.inr ⟨k,g,ty,vs,off,hL,ak.2.2,rfl,fun i u hu=>by rw[Nat.add_zero];exact ay i u hu⟩)),_,dH p,h⟩
   ·injection e3 with e3
    injection e3 with e3
    injection e3 with q1 q2 q3
    subst q1 q2;rw[e2];exact⟨_,aa,.inr (.inr (.inr ⟨k,g,ty,vs,o,hL,ak.2.2,rfl,fun i u hu=>ay i u hu⟩)),_,dH p,h⟩
  ·rename_i k j off w;split at h
   case h_2=>exact h.elim
   rename_i t sz els hk;obtain⟨es,h1,h2,h3⟩:=h;obtain⟨ad,t',ax,m,c,bA,d,e2⟩:=yp he w;obtain⟨v,xs,e3,_,hr⟩:=mZ ht.tl hk;rw[e2] at e3;injection e3 with e3
   injection e3 with q1 q2 q3 q4 q5
   subst q2 q3 q5;obtain⟨vs,k1,k2,k3,k4⟩:=hr.at h1;have p:aK F L ((es.drop off).take n) ((vs.drop off).take n):=((k3.drop off).take n).lift;rw[d];refine⟨_,by rw[p.len];exact cg h2,.inr (.inl ⟨k,_,_,_,_,_,ad,c,e2,rfl,rfl,fun i u hu=>?_⟩),_,dH p,h3⟩;rw[adn] at hu;split at hu
   case isFalse=>cases hu
   rw[adj] at hu;rw[Nat.add_assoc];exact k4 _ _ hu
  ·exact h.elim
 case loadD agg n x =>
  split at h
  ·rename_i k off w;obtain⟨d,_⟩:=iz he w;rw[d];split at h
   case h_3=>exact h.elim
   case h_2 =>
    rename_i t pre cs post hk;obtain⟨g,ty,v1,v2,v3,hL,ba,hr,cr,ak⟩:=zD ht.tl hk;rcases h with⟨o,rfl,h⟩ | ⟨us,e,hl,h⟩
    case inr =>
     have p:=((ba.lift (L:=L)).drop off).take n;rw[e] at p;have aa:((v1.drop off).take n).length=n:=by rw[p.len];exact cg hl
     have hp:(((v1++(v2++v3)).drop off).take n)=(v1.drop off).take n:=by
      by_cases bb:n=0
      ·subst bb;simp
      have:off+n<=v1.length:=by simp at aa;omega
      rw[List.drop_append_of_le_length (by omega),List.take_append_of_le_length (by simp;omega)]
     simp only[hL];rw[hp,iM ak.2.2 (fR aa)];exact⟨_,dH p,h⟩
    split at h
    case h_2=>exact h.elim
    rename_i hl;have p:=(hr.drop o).take n;have aa:((v2.drop o).take n).length=n:=by rw[p.len];exact cg hl
    simp only[hL]
    by_cases bb:n=0
    ·subst bb;rw[iM ak.2.2 (fR (by simp))];simp only[List.take_zero] at h p ⊢;exact⟨_,dH p,h⟩
    have hn:o+n<=v2.length:=by simp at aa;omega
    have hp:=EA (v1:=v1) (v3:=v3) aa hn;rw[<-ba.len,hp,iM ak.2.2 (fR aa)];exact⟨_,dH p,h⟩
   rename_i t cs hk;obtain⟨g,ty,vs,hL,hr,ak⟩:=mY ht.tl hk;split at h
   case h_2=>exact h.elim
   rename_i hl;have p:=(hr.drop off).take n;simp only[hL];rw[iM ak.2.2 (fR (by rw[p.len];exact cg hl))];exact⟨_,dH p,h⟩
  ·rename_i es off w;split at h
   case h_2=>exact h.elim
   rename_i hl;obtain⟨b,o,j,vs,d,hp,ho,hr⟩:=rP he w;have p:aK F L ((es.drop off).take n) ((vs.drop off).take n):=((hr.drop off).take n).lift;rcases d with⟨d,rfl⟩ | d
   ·rw[d];exact⟨_,by rw[p.len];exact cg hl,.inl (kZ (es:=es) hp),_,dH p,h⟩
   ·rw[d];exact⟨_,by rw[p.len];exact cg hl,.inl (kZ (es:=es) hp),_,dH p,h⟩
  ·exact h.elim
 case loadF agg n x =>
  split at h
  ·rename_i es off w;split at h
   case h_2=>exact h.elim
   rename_i hl;obtain⟨b,o,j,vs,d,hp,ho,hr⟩:=rP he w;have p:aK F L ((es.drop off).take n) ((vs.drop off).take n):=((hr.drop off).take n).lift;rcases d with⟨d,rfl⟩ | d
   ·rw[d];exact⟨_,by rw[p.len];exact cg hl,.inl (kZ (es:=es) hp),_,dH p,h⟩
   ·rw[d];exact⟨_,by rw[p.len];exact cg hl,.inl (kZ (es:=es) hp),_,dH p,h⟩
  ·exact h.elim
 case loadK key agg n x =>
  split at h
  ·rename_i k off w;obtain⟨d,_⟩:=iz he w;rw[d];split at h
   case h_2=>exact h.elim
   rename_i hb;simp only[hb];split at h
   case h_2=>exact h.elim
   rename_i t cs hk;obtain⟨g,ty,vs,hL,hr,ak⟩:=mY ht.tl hk;split at h
   case h_2=>exact h.elim
   rename_i hl;have p:=(hr.drop off).take n;simp only[hL];rw[iM ak.2.2 (fR (by rw[p.len];exact cg hl))];exact⟨_,dH p,h⟩
  ·exact h.elim
 case b2sD x =>
  split at h
  ·rename_i els w;obtain⟨bs,rfl,h⟩:=h;obtain⟨a,c,sz,d,e2,e3,e4,e5⟩:=lf he w;rw[d];have aa:(ah bs).length=bs.length:=by simp[ah]
   refine⟨bs.map fun b=>Value.int .u8 b.toNat,by simp[aa],?_,bs,rfl,_,zE ?_,h⟩
   ·rcases xg e5 e4 with h1 | h1
    ·exact .inl h1
    ·exact .inr (by rw[aa];exact h1)
   ·rw[aa] at e2;show bs.toArray.size<=maxLen;simp;exact(by simpa[ah] using e3)
  ·exact h.elim
 case b2sR x =>
  split at h
  case h_2=>exact h.elim
  rename_i k w;split at h
  case h_2=>exact h.elim
  rename_i t sz els hk;split at h
  case h_2=>exact h.elim
  rename_i bv;have:=vz bv;subst this;obtain⟨bs,rfl,h⟩:=h;obtain⟨a,c,t',ax,n,bA,d,e2⟩:=uH he w;obtain⟨v,xs,e3,⟨hm,a',c',q6,q7⟩,hr⟩:=mZ ht.tl hk;have aa:(ah bs).length=bs.length:=by simp[ah]
  rw[e2] at e3;injection e3 with e3
  injection e3 with q1 q2 q3 q4 q5
  subst q2 q3 q4 q5;have w:=BQ hr;subst w;rw[<-q1] at q6;injection q6 with q6 q8
  subst q6;rw[d];refine⟨k,_,c,bs,e2,aa.symm,q7,_,zE ?_,h⟩;show bs.toArray.size<=maxLen;simp;omega
 case mkif t x =>
  split at h
  ·rename_i k n w;obtain⟨d,e2⟩:=gP he w;rw[d];exact⟨.ifc t (.int k n),⟨_,rfl,by simp only[Rel];exact⟨_,rfl,rfl,e2⟩⟩,h⟩
  ·rename_i b w;rw[jq he w];exact⟨.ifc t (.bool b),⟨_,rfl,by simp only[Rel];exact⟨_,rfl,rfl⟩⟩,h⟩
  ·rename_i s w;obtain⟨d,e2⟩:=yj he w;rw[d];exact⟨.ifc t (.str s),⟨_,rfl,by simp only[Rel];exact⟨_,rfl,rfl,e2⟩⟩,h⟩
  ·rename_i es off w;obtain⟨b,o,j,vs,d,hp,ho,hr⟩:=rP he w;rcases d with⟨d,rfl⟩ | d
   ·rw[d];exact⟨.ifc t (.pt es off),⟨_,rfl,by simp only[Rel];exact⟨_,rfl,b,o,vs,rfl,hp,ho,hr⟩⟩,h⟩
   ·rw[d];exact⟨.ifc t (.pt es off),⟨_,rfl,by simp only[Rel];exact⟨_,rfl,b,o+j,vs,by rw[cZ],hp,ho,hr⟩⟩,h⟩
  ·rename_i k off w;obtain⟨d,g,t',cs,e2⟩:=iz he w;rw[d];simp only[e2];exact⟨.ifo none t k off,⟨_,rfl,by simp only[Rel];exact⟨g,t',cs,e2,rfl⟩⟩,h⟩
  ·rename_i k off w;obtain⟨g,t',cs,d,e2⟩:=pR he w;rcases e2 with e2 | ⟨b,o,j,e2,e3⟩
   ·rw[e2];exact⟨.ifo none t k off,⟨_,rfl,by simp only[Rel];exact⟨g,t',cs,d,rfl⟩⟩,h⟩
   ·rw[e2];exact⟨.ifo none t k off,⟨_,rfl,by simp only[Rel];exact⟨g,t',cs,d,by rw[cZ,e3];rfl⟩⟩,h⟩
  ·rename_i cs w;split at h
   case h_2=>exact h.elim
   rename_i hp;rw[gA] at h;obtain⟨vs,d,e2⟩:=CX he w;rw[d];exact⟨.ifc t (.agg cs),⟨_,rfl,by simp only[Rel];exact⟨_,rfl,vs,rfl,jb hp e2⟩⟩,h⟩
  ·exact h.elim
 case mkmv nm x =>
  split at h
  ·rename_i t c w;obtain⟨u,d,hr⟩:=CY he w;rw[d];exact⟨.mval nm (.ifc t c),⟨_,rfl,by simp only[Rel];exact⟨_,rfl,_,rfl,hr⟩⟩,h⟩
  ·rename_i t k off w;obtain⟨g,t',cs,hg,d⟩:=qp he w;rw[d];exact⟨.ifo (some nm) t k off,⟨_,rfl,by simp only[Rel];exact⟨g,t',cs,hg,rfl⟩⟩,h⟩
  ·exact h.elim
 case nilck x =>
  split at h
  ·rename_i k off w;obtain⟨d,e2⟩:=iz he w;rw[d];exact⟨.own k off,⟨rfl,e2⟩,h⟩
  ·rename_i es off w;obtain⟨b,o,j,vs,d,hp,ho,hr⟩:=rP he w;rcases d with⟨d,rfl⟩ | d
   ·rw[d];exact⟨.pt es off,⟨b,o,0,vs,.inl ⟨rfl,rfl⟩,hp,ho,hr⟩,h⟩
   ·rw[d];exact⟨by simp,.pt es off,⟨b,o,j,vs,.inr rfl,hp,ho,hr⟩,h⟩
  ·rename_i k off w;obtain⟨g,t,cs,d,e2⟩:=pR he w;rcases e2 with e2 | ⟨b,o,j,e2,e3⟩
   ·rw[e2];exact⟨.ownv k off,⟨_,.inl rfl,by simp only[Rel];exact⟨g,t,cs,d,rfl⟩⟩,h⟩
   ·rw[e2];exact⟨by simp,.ownv k off,⟨_,.inr ⟨b,o,j,rfl,rfl⟩,by simp only[Rel];exact⟨g,t,cs,d,e3.symm⟩⟩,h⟩
  ·rename_i f fi ca w;obtain⟨cM,dd,d,h1,h2⟩:=zB he w;rw[d];exact⟨.fn f fi ca,⟨_,rfl,by simp only[Rel];exact⟨cM,dd,rfl,h1,h2⟩⟩,h⟩
  ·rename_i nm c w;split at h
   case h_2=>exact h.elim
   rename_i t c;obtain⟨u,d,hr⟩:=zC he w;have du:=hr;simp only[Rel] at hr;obtain⟨u',rfl,hu⟩:=hr;rw[d];exact⟨h.1,.mval nm (.ifc t c),⟨_,rfl,by simp only[Rel];exact⟨_,rfl,_,rfl,hu⟩⟩,h.2⟩
  ·rename_i nm t k off w;obtain⟨g,t',cs,hg,d⟩:=qp he w;rw[d];exact⟨h.1,.ifo (some nm) t k off,⟨_,rfl,by simp only[Rel];exact⟨g,t',cs,hg,rfl⟩⟩,h.2⟩
  ·exact h.elim
 case bin op x y =>
  split at h
  ·rename_i k a k' b w hy;obtain⟨d,w1⟩:=gP he w;obtain⟨e2,w2⟩:=gP he hy;rw[d,e2];split at h
   ·rename_i cc;simp only[cc];exact Ll w1 h fun v hv hV=>⟨_,zA hv,hV⟩
   ·rename_i cc;simp only[cc];split at h
    case h_2=>exact h.elim
    rename_i hk;simp only[hk];exact JI w1 h fun v hv hV=>⟨_,zA hv,hV⟩
  ·rename_i a b w hy;rw[(yj he w).1,(yj he hy).1];exact JJ h fun v hv hV=>⟨_,zA hv,hV⟩
  ·exact h.elim
 case eqB neg x y =>
  split at h
  case h_2=>exact h.elim
  rename_i a b w hy;rw[jq he w,jq he hy];exact⟨_,gX,h⟩
 case eqS neg x y =>
  have hy:isNil y=true->ev ρ y=.v (.slice none 0 0):=by
   unfold isNil;split
   ·intro _;rfl
   ·intro e;cases e
  split at h
  ·rename_i els h1 w;obtain⟨a,c,sz,d,e2,e3,e4,e5⟩:=Ur he w;rw[d,hy h1];refine⟨_,gX,h _ fun bi=>?_⟩;cases a with
   | none=>exact s6 (e4 rfl).1 bi
   | some a=>rfl
  ·rename_i els h1 w;obtain⟨a,sz,d,_⟩:=C2 he w;rw[d,hy h1];exact⟨_,gX,h⟩
  ·rename_i h1 w;rw[rO he w,hy h1];exact⟨_,gX,h⟩
  ·exact h.elim
 case eqN neg x =>
  split at h
  ·rename_i t c w;obtain⟨u,d,_⟩:=CY he w;rw[d];exact⟨_,gX,h⟩
  ·rename_i t k off w;obtain⟨g,t',cs,hg,d⟩:=qp he w;rw[d];exact⟨_,gX,h⟩
  ·rename_i k w;split at h
   case h_2=>exact h.elim
   rename_i b hb;obtain⟨v,d,h1⟩:=HK he w;rw[d];obtain⟨q1,q2⟩:=Ku h1 hb;cases b with
   | true=>rw[q1 rfl];exact⟨_,gX,h⟩
   | false=>obtain⟨t,u,rfl⟩:=q2 rfl;exact⟨_,gX,h⟩
  ·exact h.elim
 case tas t z x =>
  have hz:Rel F L (cv z).cel z:=mL (Wx z);split at h
  ·rename_i t' c w;obtain⟨u,d,hr⟩:=CY he w;rw[d];simp only[HE] at h;cases hb:Nat.beq t' t with
   | true =>
    rw[hb] at h;simp only[hb];exact⟨.tup [c,.bool true],⟨_,rfl,by simp only[Rel];exact⟨[u,.bool true],rfl,by simp only[aK,Rel];exact⟨_,_,rfl,hr.lift,_,_,rfl,rfl,rfl⟩⟩⟩,h⟩
   | false =>
    rw[hb] at h;simp only[hb];exact⟨.tup [(cv z).cel,.bool false],⟨_,rfl,by simp only[Rel];exact⟨[z,.bool false],rfl,by simp only[aK,Rel];exact⟨_,_,rfl,hz,_,_,rfl,rfl,rfl⟩⟩⟩,h⟩
  ·rename_i t' k off w;obtain⟨g,t0,cs,hg,d⟩:=qp he w;rw[d];simp only[HE] at h;cases hb:Nat.beq t' t with
   | true =>
    rw[hb] at h;simp only[Ew,hb];exact⟨.tup [.own k off,.bool true],⟨_,rfl,by simp only[Rel];exact⟨[.pointer (some ⟨g,off,none⟩),.bool true],rfl,by simp only[aK,Rel];exact⟨_,_,rfl,⟨g,t0,cs,hg,rfl⟩,_,_,rfl,rfl,rfl⟩⟩⟩,h⟩
   | false =>
    rw[hb] at h;simp only[Ew,hb];exact⟨.tup [(cv z).cel,.bool false],⟨_,rfl,by simp only[Rel];exact⟨[z,.bool false],rfl,by simp only[aK,Rel];exact⟨_,_,rfl,hz,_,_,rfl,rfl,rfl⟩⟩⟩,h⟩
  ·exact h.elim
 case eqA neg ks x y =>
  split at h
  case h_2=>exact h.elim
  rename_i cs ds w hy;split at h
  case h_2=>exact h.elim
  rename_i b hb;obtain⟨vs,d,h1⟩:=CX he w;obtain⟨us,e2,h2⟩:=CX he hy;simp only[d,e2];rw[Ph hb h1 h2];exact⟨_,gX,h⟩
 case un op x =>
  split at h
  ·rename_i b w;rw[jq he w];exact⟨_,gX,h⟩
  ·rename_i k n w;rw[(gP he w).1];exact⟨⟨_,lg (wf_wrap _ _),h.out⟩⟩
  ·rename_i k n w;rw[(gP he w).1];exact⟨_,lg (wf_wrap _ _),h⟩
  ·exact h.elim
 case conv k x =>
  split at h
  case h_2=>exact h.elim
  rename_i k' n w;rw[(gP he w).1];exact⟨⟨_,lg (wf_wrap _ _),h.out⟩⟩
 case b2s x =>
  split at h
  ·rename_i els w;obtain⟨bs,rfl,h⟩:=h;obtain⟨a,c,sz,d,e2,e3,e4,e5⟩:=lf he w;rw[d];have aa:(ah bs).length=bs.length:=by simp[ah]
   refine⟨bs.map fun b=>Value.int .u8 b.toNat,by simp[aa],?_,bs,rfl,_,zE ?_,h⟩
   ·rcases xg e5 e4 with h1 | h1
    ·exact .inl h1
    ·exact .inr (.inr (.inl (by rw[aa];exact h1)))
   ·rw[aa] at e2;show bs.toArray.size<=maxLen;simp;exact(by simpa[ah] using e3)
  ·exact h.elim
 case mkfn f fi ca=>exact⟨.fn f _ _,⟨_,rfl,by simp only[Rel];exact⟨_,_,rfl,dV he fi,dV he ca⟩⟩,h⟩
 case slc sz x lo hi =>
  split at h
  case h_2=>exact h.elim
  rename_i els w;split at h
  case h_2=>exact h.elim
  rename_i l r hl hh;obtain⟨h1,h2,h3,h4,h5⟩:=h;obtain⟨a,c,ax,d,e2,e3,e4,e5⟩:=lf he w;rw[d];simp only[HM he hl,HM he hh];refine⟨h1,h2,by omega,_,?_,h5⟩;have aa:((els.drop l.toNat).take (r.toNat-l.toNat)).length=r.toNat-l.toNat:=by simp;omega
  have hs:els≠[]->ax=sz:=by
   intro bi;obtain⟨es,co⟩:=List.exists_mem_of_ne_nil _ bi;obtain⟨i,hi⟩:=adh.1 co;obtain⟨vs,k1,_,_,k4⟩:=n8.1 e5 i es hi;rw[<-k1,k4.len,h4 es co]
  have key:=Lp (l:=l.toNat) (h:=r.toNat) e5 e4 (by omega) (by omega) e2;unfold gU;have:=Pg (F:=F) (L:=L) (els:=(els.drop l.toNat).take (r.toNat-l.toNat)) (a:=if c=l.toNat then a else a.map (·.add (l.toNat*sz))) (c:=c-l.toNat) (sz:=sz) (by rw[aa];omega) (by rw[aa];omega) ?_ ?_
  ·rw[aa] at this;exact this
  ·intro hn;have ha:a=none:=by
    split at hn
    ·exact hn
    ·cases a with
     | none=>rfl
     | some a=>simp at hn
   obtain⟨q1,q2⟩:=e4 ha;subst q1;simp;omega
  ·by_cases bi:els=[]
   ·subst bi;simp only[List.drop_nil,List.take_nil,ij]
   ·rw[hs bi] at key;exact key
 case fieldA off x =>
  split at h
  ·rename_i k o w;obtain⟨d,e2⟩:=iz he w;rw[d];exact⟨.own k (o+off),⟨rfl,e2⟩,h⟩
  ·rename_i es o w;obtain⟨b,q,j,vs,d,hp,ho,hr⟩:=rP he w;have cw:∀j',q+j'=q+j+off->O5 F b (q+j') (o+off) vs:=by
    intro j' hj;obtain⟨ch,ci,t,fr,k1,k2,k3⟩:=hp;exact⟨ch,ci,t,fr,k1,by omega,k3⟩
   rcases d with⟨d,rfl⟩ | d
   ·rw[d];exact⟨.pt es (o+off),⟨b,q,off,vs,.inr rfl,cw _ (by omega),ho,hr⟩,h⟩
   ·rw[d];exact⟨.pt es (o+off),⟨b,q,j+off,vs,.inr rfl,cw _ (by omega),ho,hr⟩,h⟩
  ·rename_i k j o w;obtain⟨ad,t,sz,n,c,xs,d,e2⟩:=yp he w;rw[d];exact⟨.elr k j (o+off),⟨ad,t,sz,n,c,xs,by rw[Nat.add_assoc],e2⟩,h⟩
  ·rename_i k o w;obtain⟨g,t,cs,d,e2⟩:=pR he w;rcases e2 with e2 | ⟨b,q,j,e2,e3⟩
   ·rw[e2];exact⟨.ownv k (o+off),⟨_,.inr ⟨g,o,off,rfl,rfl⟩,by simp only[Rel];exact⟨g,t,cs,d,rfl⟩⟩,h⟩
   ·rw[e2];injection e3 with e3
    injection e3 with e3
    injection e3 with e4 e5
    subst e4;exact⟨.ownv k (o+off),⟨_,.inr ⟨g,q,j+off,rfl,rfl⟩,by simp only[Rel];exact⟨g,t,cs,d,by rw[e5,Nat.add_assoc]⟩⟩,h⟩
  ·exact h.elim
 case idxA sz x i =>
  split at h
  ·rename_i els k i w hi;obtain⟨es,h1,h2,h3,h4⟩:=h;obtain⟨a,c,ax,d,e2,e3,e4,e5⟩:=lf he w;rw[d,(gP he hi).1];have bx:i.toNat<els.length:=(acP.1 h2).1;obtain⟨vs,k1,⟨ad,ci,t,fr,e,hb,cY,hv⟩,k3,k4⟩:=n8.1 e5 _ _ h2;have hs:ax=sz:=by rw[<-k1,k4.len,cg h3]
   subst hs;subst e;refine⟨by simp,h1,by omega,_,Ls hb cY (fun i v hi=>?_) k3 k4,h4⟩;have:=hv i v hi;simpa using this
  ·rename_i k i' i w hi;split at h
   case h_2=>exact h.elim
   rename_i t ax els hk;split at h
   case h_2=>exact h.elim
   rename_i bv;have:=vz bv;subst this;obtain⟨h1,h2,h3⟩:=h;obtain⟨a,c,t',ax,n,bA,d,e2⟩:=uH he (C0 w);obtain⟨v,xs,e3,⟨_,a',c',q6,q7⟩,hr⟩:=mZ ht.tl hk;rw[e2] at e3;injection e3 with e3
   injection e3 with q1 q2 q3 q4 q5
   subst q2 q3 q4;rw[d,(gP he hi).1];cases a with
   | none =>
    rw[<-q1] at q6;injection q6 with q6
    have:=q7 q6.symm;omega
   | some ad=>exact⟨by simp,h1,h2,.elr k i.toNat 0,⟨ad,_,_,_,c,_,by simp,e2⟩,h3⟩
  ·rename_i k bp k' i w hi;split at h
   case h_2=>exact h.elim
   rename_i bv;obtain rfl:=vz bv;obtain⟨h1,h2,h3⟩:=h;obtain⟨g,t,cs,ad,d,e2,e3,e4⟩:=HL he (HN w);rw[e2,(gP he hi).1];exact⟨by simp,h1,h2,.slp k bp i.toNat,⟨g,t,cs,ad,d,by rw[Nat.mul_one],e4⟩,h3⟩
  ·exact h.elim
 case extr x i =>
  split at h
  case h_2=>exact h.elim
  rename_i cs w;split at h
  case h_2=>exact h.elim
  rename_i v hv;obtain⟨vs,d,hr⟩:=O9 he w;rw[d];have bx:i<vs.length:=by rw[hr.len];exact(acP.1 hv).1
  simp only[w8 bx];exact⟨_,mq (hr.at hv (w8 bx)),h⟩
 case len x =>
  have wl:∀n:Nat,n<=maxLen->(Lit.int .i64 (n:Int)).wf=true:=by
   intro n hn;simp only[maxLen] at hn;simp[Lit.wf,IntKind.min,IntKind.max,IntKind.bits,IntKind.signed];omega
  split at h
  ·rename_i els w;obtain⟨a,c,ax,d,e2,e3,e4,e5⟩:=lf he w;rw[d];exact⟨_,lg (wl _ e3),h⟩
  ·rename_i k w;split at h
   case h_2=>exact h.elim
   rename_i t ax els hk;obtain⟨a,c,t',ax,n,bA,d,e2⟩:=uH he (C0 w);obtain⟨v,xs,e3,⟨hm,_⟩,hr⟩:=mZ ht.tl hk;rw[e2] at e3;injection e3 with e3
   injection e3 with q1 q2 q3 q4 q5
   subst q4;rw[d];exact⟨_,lg (wl _ hm),h⟩
  ·rename_i k w;obtain⟨n,h1,h2,h3⟩:=h;obtain⟨v,d,e2⟩:=HK he (Pe w);obtain⟨a,c,rfl⟩:=Ow e2 h1;rw[d];exact⟨_,lg (wl _ (by simpa[maxLen] using h2)),h3⟩
  ·rename_i k bp w;obtain⟨g,t,cs,ad,d,e2,e3,e4⟩:=HL he (HN w);rw[e2];exact⟨_,lg (wl _ e3),h⟩
  ·exact h.elim
 case lenS x =>
  split at h
  case h_2=>exact h.elim
  rename_i s w;obtain⟨d,e2⟩:=yj he w;rw[d];refine⟨_,lg ?_,h⟩;simp only[maxLen] at e2;simp[Lit.wf,IntKind.min,IntKind.max,IntKind.bits,IntKind.signed];omega
 case mm mx args =>
  split at h
  case h_2=>exact h.elim
  rename_i k a l hl;split at h
  case h_2=>exact h.elim
  rename_i m hm
  match args,hl with
  | x::args,hl =>
   simp only[acU,List.cons.injEq] at hl;obtain⟨w,rfl⟩:=hl;simp only[acU,(gP he w).1,Lm he mx args hm];exact⟨_,lg h.1,h.2⟩
end
theorem TL.aa4 (L:TL) (k:Nat) (o:TO) (j:Nat):(L.set k o).get j=if j=k then some o else L.get j:=by
 induction L with
 | nil =>
  simp only[TL.set,TL.get];cases h:Nat.beq k j with
  | true=>have:=vz h;simp[this]
  | false=>have:=gF h;simp;omega
 | cons p l b =>
  obtain⟨i,q⟩:=p;simp only[TL.set];cases h:Nat.beq i k with
  | true =>
   have e:=vz h;subst e;simp only[TL.get];cases a:Nat.beq i j with
   | true=>have:=vz a;simp[this]
   | false=>have:=gF a;simp;omega
  | false =>
   have c:=gF h;simp only[];cases d:Nat.ble i k with
   | true =>
    simp only[TL.get];cases a:Nat.beq i j with
    | true=>have:=vz a;simp;omega
    | false=>simpa using b
   | false =>
    simp only[TL.get];cases a:Nat.beq k j with
    | true=>have:=vz a;simp[this]
    | false =>
     have:=gF a;simp only[];rw[s8 (by omega)]
theorem TL.abg (L:TL) (k j:Nat):(L.del k).get j=if j=k then none else L.get j:=by
 induction L with
 | nil=>simp[TL.del,TL.get]
 | cons p l c =>
  obtain⟨i,q⟩:=p;simp only[TL.del];cases h:Nat.beq i k with
  | true =>
   have e:=vz h;subst e;simp only[TL.get,c]
   by_cases b:j=i
   ·simp[b]
   ·have:Nat.beq i j=false:=by cases a:Nat.beq i j with | true=>exact s6 (vz a).symm b | false=>rfl
    simp[b,this]
  | false =>
   have d:=gF h;simp only[TL.get];cases a:Nat.beq i j with
   | true=>have:=vz a;simp;omega
   | false=>simpa using c
theorem vB:∀(l:List TO) (k j:Nat),TL.get (jP k l) j=if k<=j then l[j-k]? else none
 | [],k,j=>by simp[jP,TL.get]
 | o::l,k,j=>by
  simp only[jP,TL.get];cases h:Nat.beq k j with
  | true=>have:=vz h;subst this;simp
  | false =>
   have b:=gF h;simp only[vB l (k+1) j]
   by_cases a:k<=j
   ·rw[o6 (by omega),o6 a,show j-k=(j-(k+1))+1 by omega,ady]
   ·rw[s8 (by omega),s8 a]
theorem dh (l:List TO) (j:Nat):TL.get (jQ l) j=if 1000<=j then l[j-1000]? else none:=vB l 1000 j
theorem EC:∀{L:TL}{ks:List Nat}{l:List TO},L.sub ks=some l->l.length=ks.length/\∀(i:Nat) (k:Nat),ks[i]?=some k->L.get k=l[i]?
 | L,[],l,h=>by simp only[TL.sub,w7] at h;subst h;simp
 | L,k::ks,l,h=>by
  simp only[TL.sub] at h;split at h
  case h_2=>cases h
  rename_i o f a b;injection h with h
  subst h;obtain⟨c,e⟩:=EC b;refine⟨by simp[c],fun i d hi=>?_⟩;cases i with
  | zero=>simp at hi;subst hi;simpa using a
  | succ i=>simp at hi;simpa using e i d hi
theorem pU:∀(ks:List Nat) (L:TL) (j:Nat),(L.aa7 ks).get j=if j∈ks then none else L.get j
 | [],L,j=>by simp[TL.aa7]
 | k::ks,L,j=>by
  simp only[TL.aa7,pU ks,TL.abg,acQ]
  by_cases a:j=k<;>by_cases b:j∈ks<;>simp[a,b]
theorem nR:∀(ko:List Nat) (l:List TO) (L:TL) (j:Nat),ko.Nodup->ko.length=l.length ->
  ((L.puts ko l).get j=L.get j/\j∉ko)\/∃i,ko[i]?=some j/\(L.puts ko l).get j=l[i]?/\i<l.length
 | [],l,L,j,_,h=>by
  refine .inl ⟨?_,by simp⟩;cases l<;>rfl
 | k::ko,[],L,j,_,h=>by simp at h
 | k::ko,o::l,L,j,d,h=>by
  simp only[xo,Nat.add_right_cancel_iff] at h;rw[List.nodup_cons] at d;simp only[TL.puts];rcases nR ko l (L.set k o) j d.2 h with⟨a,b⟩ | ⟨i,a,b,e⟩
  ·rw[TL.aa4] at a
   by_cases c:j=k
   ·subst c;rw[o6 rfl] at a;exact .inr ⟨0,by simp,by simpa using a,by simp⟩
   ·rw[s8 c] at a;exact .inl ⟨a,by simp[c,b]⟩
  ·exact .inr ⟨i+1,by simpa using a,by simpa using b,by simp;omega⟩
theorem rQ (g:C->C):∀(L:TL) (k:Nat),(TL.aa8 g L).get k=(L.get k).map (TO.aa8 g)
 | [],k=>rfl
 | (j,o)::l,k=>by
  simp only[TL.aa8,TL.get];cases h:Nat.beq j k with
  | true=>rfl
  | false=>exact rQ g l k
section
variable {P:Program}{G:Nat->Option (Nat×TypeId)}{F:aJ}{L:Loc}{ρ:Env}{M:TL}{τ:bg}
theorem C3 (d:Option Nat) (c:C) (τ:bg) (t:Nat):bV d c τ t=match d with | some k=>if t=k then c else τ t | none=>τ t:=by
 cases d with
 | none=>rfl
 | some k =>
  simp only[bV];cases h:Nat.beq t k with
  | true=>have:=vz h;simp[this]
  | false=>have:=gF h;simp[this]
theorem Pj {F:aJ}{L:Loc}{τ:bg}{ρ:Env}(h:∀j,bh F L (τ j) (ρ j)) {c:C}{sv:SV}(a:bh F L c sv) (d:Option Nat):∀j,bh F L (bV d c τ j) (put d sv ρ j):=by
 intro j;rw[C3,put_eq];cases d with
 | none=>exact h j
 | some k =>
  simp only[];split
  ·exact a
  ·exact h j
theorem TS.put (a:TS G F L ρ M τ) {c:C}{sv:SV}(b:bh F L c sv) (d:Option Nat):TS G F L (put d sv ρ) M (bV d c τ):=⟨a.tl,Pj a.env b d,a.kp,a.glob⟩
theorem fA {F:aJ}{L:Loc}{a:Option TO}{b:Option Own}(h:Ld F L a b):(a=none/\b=none)\/∃o p,a=some o/\b=some p/\dW F L o p:=by
 cases a<;>cases b<;>simp only[Ld] at h
 ·exact .inl ⟨rfl,rfl⟩
 ·exact .inr ⟨_,_,rfl,rfl,h⟩
theorem TS.new {F':aJ}(d:F.le F') (b:TS G F L ρ M τ) {k:Nat}(l:L.get k=none) {o:Own}{to:TO}(n:dW F' (L.set k o) to o):TS G F' (L.set k o) ρ (M.set k to) τ:=by
 have a:Ext L (L.set k o):=by
  intro j p e;refine⟨p,?_,Own.abf p⟩;rw[Loc.aa4,s8 (by rintro rfl;rw[l] at e;cases e)];exact e
 refine⟨fun j=>?_,fun j=>(b.env j).ext d a,fun j g t e=>?_,b.glob.mono d⟩
 ·rw[TL.aa4,Loc.aa4];split
  ·exact n
  ·rcases fA (b.tl j) with⟨c,f⟩ | ⟨p,q,c,f,m⟩
   ·rw[c,f];trivial
   ·rw[c,f];exact m.ext d a
 ·obtain⟨cs,h⟩:=b.kp j g t e;exact⟨cs,by rw[Loc.aa4,s8 (by rintro rfl;rw[l] at h;cases h)];exact h⟩
theorem TS.mono {F':aJ}(b:F.le F') (a:TS G F L ρ M τ):TS G F' L ρ M τ:=⟨a.tl.mono b,fun j=>(a.env j).mono b,a.kp,a.glob.mono b⟩
theorem TS.turn (c:TS G F L ρ M τ) {k:Nat}{o o':Own}(m:L.get k=some o) (s:Own.like o o') (b:∀g t cs,o=.box g t cs->∃cs',o'=.box g t cs') {to:TO}(r:∀L',Ext L L'->dW F L' to o') :
  TS G F (L.set k o') ρ (M.set k to) τ:=by
 have a:Ext L (L.set k o'):=by
  intro j p e;rw[Loc.aa4];split
  ·rename_i d;subst d;rw[m] at e;injection e with e
   subst e;exact⟨o',rfl,s⟩
  ·exact⟨p,e,Own.abf p⟩
 refine⟨fun j=>?_,fun j=>(c.env j).ext (aJ.le_refl F) a,fun j g t e=>?_,c.glob⟩
 ·rw[TL.aa4,Loc.aa4];split
  ·exact r _ a
  ·rcases fA (c.tl j) with⟨f,l⟩ | ⟨p,q,f,l,n⟩
   ·rw[f,l];trivial
   ·rw[f,l];exact n.ext (aJ.le_refl F) a
 ·obtain⟨cs,h⟩:=c.kp j g t e;rw[Loc.aa4];split
  ·rename_i d;subst d;rw[m] at h;injection h with h
   obtain⟨cs',e'⟩:=b g t cs h;exact⟨cs',by rw[e']⟩
  ·exact⟨cs,h⟩
theorem lZ {L':Loc}{k:Nat}(d:∀g t cs,L.get k≠some (.box g t cs)) (n:∀j,j≠k->∀o,L.get j=some o->∃o',L'.get j=some o'/\Own.like o o') {F':aJ}(f:F.le F') (c:C) (v:Value) (r:c.leaf=true)
  (h:Rel F L c v):Rel F' L' (iA k c) v:=by
 cases c<;>simp only[C.leaf,acZ] at r<;>simp only[iA]
 case rw j =>
  cases q:Nat.beq j k with
  | true=>simp only[Rel]
  | false=>exact bU f (fun p e=>by
    rcases e with⟨off,e⟩ | e | e | ⟨_,_,_,e⟩ | ⟨_,_,e⟩
    ·cases e
    ·injection e with e;subst e;exact n j (gF q)
    ·cases e
    ·cases e
    ·cases e) rfl h
 case own j off =>
  refine bU f (fun p e=>?_) rfl h;rcases e with⟨off,e⟩ | e | e | ⟨_,_,_,e⟩ | ⟨_,_,e⟩
  ·injection e with e e2
   subst e;simp only[Rel] at h;obtain⟨g,t,cs,l,_⟩:=h;exact n j (by rintro rfl;exact d _ _ _ l)
  ·cases e
  ·cases e
  ·cases e
  ·cases e
 case ifo m ti j off =>
  refine bU f (fun p e=>?_) rfl h;rcases e with⟨off,e⟩ | e | e | ⟨_,_,_,e⟩ | ⟨_,_,e⟩
  ·cases e
  ·cases e
  ·cases e
  ·injection e with _ _ e
   subst e;simp only[Rel] at h;obtain⟨g,t,cs,l,_⟩:=h;exact n j (by rintro rfl;exact d _ _ _ l)
  ·cases e
 case elr j a b =>
  cases q:Nat.beq j k with
  | true=>simp only[Rel]
  | false=>exact bU f (fun p e=>by
    rcases e with⟨off,e⟩ | e | e | ⟨_,_,_,e⟩ | ⟨_,_,e⟩<;>first | cases e;done | skip
    injection e with e;subst e;exact n j (gF q)) rfl h
 case mpr j =>
  refine bU f (fun p e=>?_) rfl h;rcases e with⟨off,e⟩ | e | e | ⟨_,_,_,e⟩ | ⟨_,_,e⟩
  ·cases e
  ·cases e
  ·injection e with e
   subst e;simp only[Rel] at h;obtain⟨g,cs,l,_⟩:=h;exact n j (by rintro rfl;exact d _ _ _ l)
  ·cases e
  ·cases e
 case slo j a =>
  refine sQ f ?_ h;simp only[Rel] at h;obtain⟨g,t,cs,s,l,_⟩:=h;exact n j (by rintro rfl;exact d _ _ _ l)
 case slp=>simp only[Rel]
 all_goals
  exact bU f (fun p e=>by rcases e with⟨off,e⟩ | e | e | ⟨_,_,_,e⟩ | ⟨_,_,e⟩<;>cases e) rfl h
theorem qq {L':Loc}{k:Nat}(d:∀g t cs,L.get k≠some (.box g t cs)) (p:∀j,j≠k->∀o,L.get j=some o->∃o',L'.get j=some o'/\Own.like o o') {F':aJ}(n:F.le F') (c:C) (sv:SV) (s:c.leaf=true)
  (h:bh F L c sv):bh F' L' (iA k c) sv:=by
 cases c<;>simp only[C.leaf,acZ] at s<;>simp only[iA]
 case rw j =>
  cases r:Nat.beq j k with
  | true=>trivial
  | false=>exact dU n (fun q e=>by
    rcases e with⟨off,e⟩ | ⟨off,e⟩ | e | ⟨a,b,e⟩ | e | ⟨_,_,_,e⟩<;>first | cases e;done | skip
    injection e with e;subst e;exact p j (gF r)) rfl h
 case elr j a b =>
  cases r:Nat.beq j k with
  | true=>trivial
  | false=>exact dU n (fun q e=>by
    rcases e with⟨off,e⟩ | ⟨off,e⟩ | e | ⟨a,b,e⟩ | e | ⟨_,_,_,e⟩<;>first | cases e;done | skip
    injection e with e;subst e;exact p j (gF r)) rfl h
 case own j off =>
  refine dU n (fun q e=>?_) rfl h;obtain⟨_,g,t,cs,l⟩:=h;rcases e with⟨off,e⟩ | ⟨off,e⟩ | e | ⟨a,b,e⟩ | e | ⟨_,_,_,e⟩<;>first | cases e;done | skip
  injection e with e
  subst e;exact p j (by rintro rfl;exact d _ _ _ l)
 case ifo m ti j off =>
  refine dU n (fun q e=>?_) rfl h;obtain⟨v,_,f⟩:=h;simp only[Rel] at f;obtain⟨g,t,cs,l,_⟩:=f;rcases e with⟨off,e⟩ | ⟨off,e⟩ | e | ⟨a,b,e⟩ | e | ⟨_,_,_,e⟩<;>first | cases e;done | skip
  injection e with _ _ e
  subst e;exact p j (by rintro rfl;exact d _ _ _ l)
 case ownv j off =>
  refine dU n (fun q e=>?_) rfl h;obtain⟨v,_,f⟩:=h;simp only[Rel] at f;obtain⟨g,t,cs,l,_⟩:=f;rcases e with⟨off,e⟩ | ⟨off,e⟩ | e | ⟨a,b,e⟩ | e | ⟨_,_,_,e⟩<;>first | cases e;done | skip
  injection e with e
  subst e;exact p j (by rintro rfl;exact d _ _ _ l)
 case mpr j =>
  refine dU n (fun q e=>?_) rfl h;obtain⟨v,_,f⟩:=h;simp only[Rel] at f;obtain⟨g,cs,l,_⟩:=f;rcases e with⟨off,e⟩ | ⟨off,e⟩ | e | ⟨a,b,e⟩ | e | ⟨_,_,_,e⟩<;>first | cases e;done | skip
  injection e with e
  subst e;exact p j (by rintro rfl;exact d _ _ _ l)
 case slo j a =>
  refine vu n ?_ h;obtain⟨v,_,f⟩:=h;simp only[Rel] at f;obtain⟨g,t,cs,u,l,_⟩:=f;exact p j (by rintro rfl;exact d _ _ _ l)
 case slp=>trivial
 all_goals
  exact dU n (fun q e=>by rcases e with⟨off,e⟩ | ⟨off,e⟩ | e | ⟨a,b,e⟩ | e | ⟨_,_,_,e⟩<;>cases e) rfl h
theorem dW.acv {L':Loc}{k:Nat}(a:∀g t cs,L.get k≠some (.box g t cs)) (d:∀j,j≠k->∀o,L.get j=some o->∃o',L'.get j=some o'/\Own.like o o') {F':aJ}(b:F.le F'):∀{o:TO}{p:Own},dW F L o p->dW F' L' (o.aa8 (C.kill k)) p
 | .box t cs,.box g f vs,r=>⟨r.1,r.2.map fun c _ v h=>Rel.mp (lZ a d b) 3 h⟩
 | .row t sz els,.row v f m n xs,r=>⟨r.1,r.2.1,r.2.2.1,r.2.2.2.1,r.2.2.2.2.mono b⟩
 | .box _ _,.row ..,r=>r.elim
 | .row ..,.box ..,r=>r.elim
 | .map _,.row ..,r=>r.elim
 | .map es,.box g f vs,r=>⟨r.1,r.2.mono b⟩
 | .win ..,.row ..,r=>r.elim
 | .win ..,.box ..,⟨q,v1,w,v3,e,s,l,u⟩=>⟨q,v1,w,v3,e,s.mono b,l.map fun c _ v h=>Rel.mp (lZ a d b) 3 h,u.mono b⟩
theorem TS.acv (b:TS G F L ρ M τ) {k:Nat}{o':Own}(a:∀g t cs,L.get k≠some (.box g t cs)) {to:TO}(n:dW F (L.set k o') to o') :
  TS G F (L.set k o') ρ ((M.aa8 (C.kill k)).set k to) (fun j=>(τ j).kill k):=by
 have c:∀j,j≠k->∀o,L.get j=some o->∃p,(L.set k o').get j=some p/\Own.like o p:=fun j l o e=>⟨o,by rw[Loc.aa4,s8 l];exact e,Own.abf o⟩;refine⟨fun j=>?_,fun j=>bh.mp (lZ a c (aJ.le_refl F)) (qq a c (aJ.le_refl F)) 3 (b.env j),fun j g t e=>?_,b.glob⟩
 ·rw[TL.aa4,Loc.aa4,rQ];split
  ·exact n
  ·rcases fA (b.tl j) with⟨d,f⟩ | ⟨p,q,d,f,m⟩
   ·rw[d,f];trivial
   ·rw[d,f];exact m.acv a c (aJ.le_refl F)
 ·obtain⟨cs,h⟩:=b.kp j g t e;exact⟨cs,by rw[Loc.aa4,s8 (by rintro rfl;exact a _ _ _ h)];exact h⟩
theorem jF {a:Option Addr}{sz b:Nat}{els:List (List C)}(h:ij F a b 0 els) (z:∀es∈els,es.length=sz):∃xs,xs.length=els.length*sz/\(cC F a 0 xs\/(els.length=0/\xs=[]))/\aT F sz els xs:=by
 cases f:els with
 | nil=>exact⟨[],by simp,.inr ⟨rfl,rfl⟩,by simp only[aT]⟩
 | cons o k =>
  rw[f] at h z;have h0:=n8.1 h 0 o (by simp);obtain⟨am,k1,⟨e,m,t,w,ea,hb,p,_⟩,_,k4⟩:=h0;have r:b=sz:=by rw[<-k1,k4.len,z o (by simp)]
  subst r;subst ea;have key:∀(l:List (List C)) (i:Nat),ij F (some e) b i l->∃xs,aT F b l xs/\∀(j:Nat) v,xs[j]?=some v->m[e.off+i*b+j]?=some v/\qf w (e.off+i*b+j):=by
   intro l
   induction l with
   | nil=>intro i _;exact⟨[],by simp only[aT],by simp⟩
   | cons es l ih =>
    intro i u;simp only[ij] at u;obtain⟨⟨vs,q1,⟨ar,x,t',ac,e',c,y,hv⟩,q3,q4⟩,q5⟩:=u;injection e' with e'
    subst e';rw[hb] at c;injection c with c
    injection c with r1 r2 r3
    subst r1 r3;obtain⟨xs,n,q⟩:=ih (i+1) q5;refine⟨vs++xs,by simp only[aT];exact⟨vs,xs,rfl,q1,q3,q4,n⟩,fun j v d=>?_⟩
    by_cases s:j<vs.length
    ·rw[acY s] at d;exact hv j v d
    ·rw[ac7 (by omega)] at d;have:=q _ _ d;rw[show e.off+i*b+j=e.off+(i+1)*b+(j-vs.length) by rw[q1,Nat.add_mul];omega];exact this
  obtain⟨xs,n,q⟩:=key (o::k) 0 h;exact⟨xs,j8 n,.inl ⟨e,m,t,w,rfl,hb,p,fun j v d=>by have:=q j v d;simpa using this⟩,n⟩
theorem aT.ones {sz:Nat}:∀{l:List (List C)}{xs:List Value},aT F sz l xs->∀u∈xs,u.oneCell'=true
 | [],xs,h=>by simp only[aT] at h;subst h;simp
 | es::l,xs,h=>by
  simp only[aT] at h;obtain⟨vs,b,rfl,f,d,c,e⟩:=h;intro u a;rcases acN.1 a with a | a
  ·exact lY c d u a
  ·exact aT.ones e u a
theorem vC (bs:List UInt8):aT F 1 (ah bs) (bs.map fun b=>Value.int .u8 b.toNat):=by
 induction bs with
 | nil=>simp only[ah,adA,aT]
 | cons b bs a =>
  simp only[ah,acU,aT];refine⟨[.int .u8 b.toNat],_,rfl,rfl,rfl,?_,a⟩;simp only[aK,Rel];refine⟨_,_,rfl,⟨rfl,?_⟩,rfl⟩;have:=b.toNat_lt;simp[Lit.wf,IntKind.min,IntKind.max,IntKind.bits,IntKind.signed];omega
theorem aT.set {sz:Nat}:∀{l:List (List C)}{xs:List Value},aT F sz l xs->∀{j:Nat}{es ds:List C}{us:List Value}{off:Nat},l[j]?=some es->off+us.length<=sz->aK F [] ds us->eP ds=true ->
  aT F sz (l.set j (iy es off ds)) (bq xs (j*sz+off) us)
 | [],xs,h,j,es,ds,us,off,e,_,_,_=>by simp at e
 | x::l,xs,h,j,es,ds,us,off,e,p,m,f=>by
  simp only[aT] at h;obtain⟨vs,d,rfl,k,b,n,o⟩:=h;cases j with
  | zero =>
   simp only[ac6,w7] at e;subst e;simp only[List.set_cons_zero,aT];refine⟨bq vs off us,d,?_,?_,?_,ku n m,o⟩
   ·simp only[bq,Nat.zero_mul,Nat.zero_add];rw[List.take_append_of_le_length (by omega),List.drop_append_of_le_length (by omega)];simp
   ·simp only[bq,yo,ac2,ads];omega
   ·rw[jA] at b f ⊢;intro c a;simp only[iy,acN] at a;rcases a with(a | a) | a
    ·exact b c (List.mem_of_mem_take a)
    ·exact f c a
    ·exact b c (List.mem_of_mem_drop a)
  | succ j =>
   simp only[List.set_cons_succ,aT];have q:=aT.set o (j:=j) (by simpa using e) p m f;refine⟨vs,_,?_,k,b,n,q⟩;simp only[bq];rw[show(j+1)*sz+off=vs.length+(j*sz+off) by rw[k,Nat.add_mul];omega];rw[List.take_length_add_append,show vs.length+(j*sz+off)+us.length=vs.length+(j*sz+off+us.length) by omega,List.drop_length_add_append];simp[acM]
end
section
variable {P:Program}{G:Nat->Option (Nat×TypeId)}{F:aJ}{L:Loc}{ρ:Env}{M:TL}{τ:bg}
def Both (G:Nat->Option (Nat×TypeId)) (K:TK):dP:=fun F L ρ=>∃M τ,TS G F L ρ M τ/\K M τ
theorem oL {k:Nat}{a:Option Addr}{c n:Nat}{t sz:Nat}{xs:List Value}(h:L.get k=some (.row (.slice a n c) t sz n xs)):bh F L (.rw k) (.v (.slice a n c)) :=
 ⟨_,rfl,by simp only[Rel];exact⟨a,c,t,sz,n,xs,rfl,h⟩⟩
theorem Us {g:Nat}{F':aJ}{t:TypeId}{cs:List C}{vs:List Value}(c:F' g=some (.cells vs.toArray t (0,0))) (a:eP cs=true) (b:aK F' [] cs vs):bh F' L (.pt cs 0) (.v (.pointer (some ⟨g,0,none⟩))) :=
 ⟨g,0,0,vs,.inl ⟨rfl,rfl⟩,⟨0,_,t,(0,0),c,rfl,fun i v hi=>⟨by simpa using hi,sL _⟩⟩,a,b⟩
theorem kF (b:∀j,bh F L (τ j) (ρ j)) {sz:Nat}:∀{xs:List X},rK τ sz xs=true->gD L ρ sz xs=true/\aT F sz (wh τ xs) (cellsOf L ρ xs)/\(wh τ xs).length=xs.length
 | [],_=>⟨rfl,by simp only[wh,cellsOf,aT],rfl⟩
 | x::xs,h=>by
  simp only[rK] at h;split at h
  case h_2=>cases h
  rename_i e d m f;obtain⟨n,k,l⟩:=kF b h;have a:=iO b e;have c:(aZ (val L ρ x)).length=sz:=by rw[a.len];exact cg d
  refine⟨by simp only[gD,fR c];exact n,?_,by simp only[wh,xo,l]⟩;simp only[wh,cellsOf,aT];exact⟨_,_,rfl,c,pT m,mM (jb f a),k⟩
theorem C4 {t:Nat}(h:Om t=true):t<1048576/\t≠0:=by
 unfold Om at h;split at h
 ·cases h
 ·rename_i a;have:=ac8 h;exact⟨by omega,fun e=>by subst e;simp at a⟩
theorem HO {t:TypeId}{x:X}{k:Nat}{K:TK}(f:TS G F L ρ M τ) (n:M.get k=none) (m:(eD τ x).okc=true) (b:t<1048576/\t≠0) (h:K (M.set k (.box t (eW (eD τ x)))) (bV (some k) (.own k 0) τ)) (g:Nat) :
  Both G K F (L.set k (.box g t (aZ (val L ρ x)))) (put (some k) (.own k 0) ρ):=by
 have d:=dm f.tl n;have a:Ext L (L.set k (.box g t (aZ (val L ρ x)))):=by
  intro j p e;refine⟨p,?_,Own.abf p⟩;rw[Loc.aa4,s8 (by rintro rfl;rw[d] at e;cases e)];exact e
 have l:=f.new (aJ.le_refl F) d (o:=.box g t (aZ (val L ρ x))) (to:=.box t (eW (eD τ x))) ⟨⟨b.1,.inl rfl,b.2⟩,(iO f.env m).ext (aJ.le_refl F) a⟩;exact⟨_,_,l.put (c:=.own k 0) (sv:=.own k 0) ⟨rfl,g,t,_,by rw[Loc.aa4,o6 rfl]⟩ (some k),h⟩
theorem BS {t:TypeId}{zs:List Value}{k:Nat}{K:TK}(d:TS G F L ρ M τ) (f:M.get k=none) (a:t<1048576/\t≠0) (h:K (M.set k (.box t (zs.map tQ))) (bV (some k) (.own k 0) τ)) (g:Nat) :
  Both G K F (L.set k (.box g t zs)) (put (some k) (.own k 0) ρ):=by
 have b:=dm d.tl f;have e:=d.new (aJ.le_refl F) b (o:=.box g t zs) (to:=.box t (zs.map tQ)) ⟨⟨a.1,.inl rfl,a.2⟩,ol zs⟩;exact⟨_,_,e.put (c:=.own k 0) (sv:=.own k 0) ⟨rfl,g,t,_,by rw[Loc.aa4,o6 rfl]⟩ (some k),h⟩
theorem HS {e n sz:Nat}{xs:List X}{d:Option Nat}{K:TK}(a:TS G F L ρ M τ) (l:rK τ sz xs=true) (j:xs.length=n) (q:n<=maxLen) (h:K M (bV d (.slx (wh τ xs)) τ)) {g:Nat}{F':aJ}(b:F.le F')
  (k:F' g=some (.cells (cellsOf L ρ xs).toArray e (0,0))):Both G K F' L (put d (.v (.slice (some ⟨g,0,none⟩) n n)) ρ):=by
 obtain⟨p,f,m⟩:=kF a.env l;have o:cC F' (some ⟨g,0,none⟩) 0 (cellsOf L ρ xs):=⟨_,_,_,_,rfl,k,rfl,fun i v hi=>⟨by simpa using hi,sL _⟩⟩;refine⟨_,_,(a.mono b).put (c:=.slx (wh τ xs)) ⟨_,rfl,?_⟩ d,h⟩;simp only[Rel];exact⟨⟨g,0,none⟩,by rw[m,j],by omega,sz,(f.mono b).frz o⟩
theorem zF (f:∀j,bh F L (τ j) (ρ j)) {k g:Nat}{t:TypeId}{cs:List Value}(d:L.get k=some (.box g t cs)):∀{xs:List X}{a:List Nat},wZ k τ xs=some a ->
  gD L ρ 1 xs=true/\cellsOf L ρ xs=a.map (fun o=>.pointer (some ⟨g,o,none⟩))/\a.length=xs.length
 | [],a,h=>by
  simp only[wZ,w7] at h;subst h;exact⟨rfl,rfl,rfl⟩
 | x::xs,a,h=>by
  simp only[wZ] at h;split at h
  case h_2=>cases h
  rename_i j off l u s;split at h
  case h_2=>cases h
  rename_i n;obtain rfl:=vz n;injection h with h
  subst h;obtain⟨q,m,p⟩:=zF f d s;have c:=CZ f x;rw[u] at c;simp only[Rel] at c;obtain⟨v,w,cs',b,r⟩:=c;rw[d] at b;injection b with b
  injection b with q1 q2 q3
  subst q1;have e:aZ (val L ρ x)=[.pointer (some ⟨g,off,none⟩)]:=by rw[r];rfl
  exact⟨by simp only[gD,e,iV];exact q,by simp only[cellsOf,e,m];rfl,by simp[p]⟩
theorem HT {e n k:Nat}{b:List Nat}{xs:List X}{d:Option Nat}{K:TK}(o:TS G F L ρ M τ) (f:wZ k τ xs=some b) (q:xs≠[]) (r:xs.length=n) (hm:n<=maxLen) (h:K M (bV d (.slo k b) τ)) :
  gD L ρ 1 xs=true/\∀{g:Nat}{F':aJ},F.le F'->F' g=some (.cells (cellsOf L ρ xs).toArray e (0,0))->Both G K F' L (put d (.v (.slice (some ⟨g,0,none⟩) n n)) ρ):=by
 obtain⟨x,a,rfl⟩:∃x a,xs=x::a:=by
  cases xs with
  | nil=>exact s6 rfl q
  | cons x a=>exact⟨x,a,rfl⟩
 have m:∃g t cs,L.get k=some (.box g t cs):=by
  have f:=f;simp only[wZ] at f;split at f
  case h_2=>cases f
  rename_i j off l hx hl;split at f
  case h_2=>cases f
  rename_i z;obtain rfl:=vz z;have p:=CZ o.env x;rw[hx] at p;simp only[Rel] at p;obtain⟨w,t',cs',e1,e2⟩:=p;exact⟨w,t',cs',e1⟩
 obtain⟨gb,t,cs,m⟩:=m;obtain⟨k1,y,s⟩:=zF o.env m f;refine⟨k1,fun{g F'} hF hg=>?_⟩;have u:cC F' (some ⟨g,0,none⟩) 0 (cellsOf L ρ (x::a)):=⟨_,_,_,_,rfl,hg,rfl,fun i v hi=>⟨by simpa using hi,sL _⟩⟩;refine⟨_,_,(o.mono hF).put (c:=.slo k b) ⟨_,rfl,?_⟩ d,h⟩;simp only[Rel];exact⟨gb,t,cs,⟨g,0,none⟩,m,by rw[s,r],by rw[s,r];exact hm,by rw[y] at u;exact u⟩
theorem Pk {e n sz:Nat}{xs:List X}{k:Nat}{K:TK}(a:TS G F L ρ M τ) (p:rK τ sz xs=true) (m:xs.length=n) (q:n<=maxLen) (l:M.get k=none) (h:K (M.set k (.row e sz (wh τ xs))) (bV (some k) (.rw k) τ)) (g:Nat) :
  Both G K F (L.set k (.row (.slice (some ⟨g,0,none⟩) n n) e sz n (cellsOf L ρ xs))) (put (some k) (.v (.slice (some ⟨g,0,none⟩) n n)) ρ):=by
 obtain⟨r,f,j⟩:=kF a.env p;have b:=dm a.tl l;have d:=a.new (aJ.le_refl F) b (o:=.row (.slice (some ⟨g,0,none⟩) n n) e sz n (cellsOf L ρ xs)) (to:=.row e sz (wh τ xs)) ⟨rfl,rfl,by rw[j,m],⟨q,_,_,rfl,fun e=>(by cases e)⟩,f⟩;exact⟨_,_,d.put (c:=.rw k) (oL (by rw[Loc.aa4,o6 rfl])) (some k),h⟩
theorem qt {e sz:Nat}{k:Nat}{els news:List (List C)}{d:Option Nat}{K:TK}(b:TS G F L ρ M τ) {s:Value}{xs ys:List Value}(f:L.get k=some (.row s e sz els.length xs)) (o:aT F sz els xs) (n:aT F sz news ys)
  (p:els.length+news.length<=maxLen) (h:K ((M.aa8 (C.kill k)).set k (.row e sz (els++news))) (bV d (.rw k) fun j=>(τ j).kill k)) {v:Value}(m:∃a c,v=.slice a (els.length+news.length) c/\(a=none->els.length+news.length=0)) :
  Both G K F (L.set k (.row v e sz (els.length+news.length) (xs++ys))) (put d (.v v) ρ):=by
 obtain⟨a,c,rfl,l⟩:=m;have q:=b.acv (k:=k) (o':=.row (.slice a (els.length+news.length) c) e sz (els.length+news.length) (xs++ys)) (to:=.row e sz (els++news)) (fun g t cs e=>by rw[f] at e;injection e with e;cases e)
  ⟨rfl,rfl,by simp,⟨p,a,c,rfl,l⟩,o.append n⟩
 exact⟨_,_,q.put (c:=.rw k) (oL (by rw[Loc.aa4,o6 rfl])) d,h⟩
theorem oM {e sz:Nat}{k:Nat}{news:List (List C)}{d:Option Nat}{K:TK}(b:TS G F L ρ M τ) {ys:List Value}(f:M.get k=none) (m:aT F sz news ys)
  (p:news.length<=maxLen) (h:K (M.set k (.row e sz news)) (bV d (.rw k) τ)) {v:Value}(l:∃a c,v=.slice a (0+news.length) c/\(a=none->0+news.length=0)) :
  Both G K F (L.set k (.row v e sz (0+news.length) ([]++ys))) (put d (.v v) ρ):=by
 obtain⟨a,c,rfl,j⟩:=l;have n:=b.new (aJ.le_refl F) (dm b.tl f) (o:=.row (.slice a (0+news.length) c) e sz (0+news.length) ([]++ys)) (to:=.row e sz news) ⟨rfl,rfl,by simp,⟨by omega,a,c,rfl,j⟩,m⟩;exact⟨_,_,n.put (c:=.rw k) (oL (by rw[Loc.aa4,o6 rfl])) d,h⟩
theorem sU {x:X}{k e sz:Nat}{els:List (List C)}(d:TS G F L ρ M τ) (q:eD τ x=.rw k) (j:M.get k=some (.row e sz els)) :
  ∃a c xs,ev ρ x=.v (.slice a els.length c)/\L.get k=some (.row (.slice a els.length c) e sz els.length xs)/\aT F sz els xs/\els.length<=maxLen:=by
 obtain⟨a,c,r,l,n,h,o,f⟩:=uH d.env q;obtain⟨v,xs,b,⟨p,_⟩,m⟩:=mZ d.tl j;rw[f] at b;injection b with b
 injection b with q1 q2 q3 q4 q5
 subst q2 q3 q4 q5;exact⟨a,c,_,o,f,m,p⟩
set_option maxHeartbeats 1000000 in
theorem Lu {e sz b:Nat}{s x:X}{d:Option Nat}{K:TK}(j:TS G F L ρ M τ) (h:Uo e sz b (eD τ s) (eD τ x) d M τ K):∃sv xv,ev ρ s=.v sv/\ev ρ x=.v xv/\Kv F L e sz b sv xv fun L1 v=>Both G K F L1 (Fr.put d (.v v) ρ):=by
 have he:=j.env;simp only[Uo,hO] at h;split at h
 ·rename_i k news hs m;split at h
  case h_2=>exact h.elim
  rename_i e' be els n;split at h
  case h_2=>exact h.elim
  rename_i h1 h2;obtain rfl:=vz h1;obtain rfl:=vz h2;obtain⟨g1,l,t,g4⟩:=h;obtain⟨a,c,xs,e1,e2,hr,hm⟩:=sU j hs n;obtain⟨q,p,ar,y,e4,e5,e6,e7⟩:=lf he m;obtain⟨ys,y1,y2,y3⟩:=jF e7 g1;exact⟨_,_,e1,y,k,els.length,xs,news.length,ys,.inl e2,⟨q,p,rfl,y1,y2.imp id .inl⟩,y3.ones,l,t,fun v w=>qt j e2 hr y3 l g4 w⟩
 ·rename_i news k hs m;split at h
  case h_2=>exact h.elim
  rename_i n;obtain⟨g1,l,t,g4⟩:=h;obtain⟨q,p,ar,y,e4,e5,e6,e7⟩:=lf he m;obtain⟨ys,y1,y2,y3⟩:=jF e7 g1;simp only[acV] at l t;exact⟨_,_,rO he hs,y,k,0,[],news.length,ys,.inr (.inl ⟨dm j.tl n,rfl,rfl,rfl⟩),⟨q,p,rfl,y1,y2.imp id .inl⟩,y3.ones,l,t,fun v w=>oM j n y3 (by omega) g4 w⟩
 ·rename_i els news k hs m;split at h
  case h_2=>exact h.elim
  rename_i n;obtain⟨g0,bo,g1,l,t,g4⟩:=h;obtain⟨a,bD,e1,hm,e2⟩:=C2 he hs;obtain⟨q,p,ar,y,e4,e5,e6,e7⟩:=lf he m;obtain⟨ys,y1,y2,y3⟩:=jF e7 g1;obtain⟨xs,x1,x2,x3⟩:=jF e2 bo;refine⟨_,_,e1,y,k,els.length,xs,news.length,ys,.inr (.inr ⟨dm j.tl n,a,rfl,g0,x1,x2⟩),⟨q,p,rfl,y1,y2.imp id .inl⟩,y3.ones,l,t,fun v w=>?_⟩;obtain⟨av,cv,rfl,hn⟩:=w;have h1:=j.new (aJ.le_refl F) (dm j.tl n) (o:=.row (.slice av (els.length+news.length) cv) e sz (els.length+news.length) (xs++ys)) (to:=.row e sz (els++news)) ⟨rfl,rfl,by simp,⟨l,av,cv,rfl,hn⟩,x3.append y3⟩;exact⟨_,_,h1.put (c:=.rw k) (oL (by rw[Loc.aa4,o6 rfl])) _,g4⟩
 ·rename_i k k' hs m;have m:=C0 m;split at h
  case h_2=>exact h.elim
  rename_i e' be els bj az news n r;split at h
  case h_2=>exact h.elim
  rename_i h1 h2 h3;obtain rfl:=vz h1;obtain rfl:=vz h2;obtain rfl:=vz h3;obtain⟨g1,l,t,g4⟩:=h;obtain⟨a,c,xs,e1,e2,hr,hm⟩:=sU j hs n;obtain⟨q,p,ys,y,e4,f,bi⟩:=sU j m r;refine⟨_,_,e1,y,k,els.length,xs,news.length,ys,.inl e2,⟨q,p,rfl,j8 f,?_⟩,f.ones,l,t,fun v w=>qt j e2 hr f l g4 w⟩;cases q with
  | some ad=>exact .inr (.inr ⟨k',_,_,_,_,_,ad,p,e4,rfl,rfl,fun i u hu=>hu⟩)
  | none =>
   obtain⟨v,bb,z,⟨_,a2,c2,q2,q3⟩,q4⟩:=mZ j.tl r;rw[e4] at z;injection z with z
   injection z with r1 r2 r3 r4 r5
   rw[<-r1] at q2;injection q2 with q2
   have hz:=q3 q2.symm;have hl:=j8 f;refine .inr (.inl ⟨hz,List.length_eq_zero_iff.1 (by rw[hl,hz];simp)⟩)
 ·rename_i k' k hs m;have m:=C0 m;split at h
  case h_2=>exact h.elim
  rename_i bj az news n r;split at h
  case h_2=>exact h.elim
  rename_i h3;obtain rfl:=vz h3;obtain⟨g1,l,t,g4⟩:=h;obtain⟨q,p,ys,y,e4,f,bi⟩:=sU j m r;simp only[acV] at l t;refine⟨_,_,rO he hs,y,k,0,[],news.length,ys,.inr (.inl ⟨dm j.tl n,rfl,rfl,rfl⟩),⟨q,p,rfl,j8 f,?_⟩,f.ones,l,t,fun v w=>oM j n f (by omega) g4 w⟩;cases q with
  | some ad=>exact .inr (.inr ⟨k',_,_,_,_,_,ad,p,e4,rfl,rfl,fun i u hu=>hu⟩)
  | none =>
   obtain⟨v,bb,z,⟨_,a2,c2,q2,q3⟩,q4⟩:=mZ j.tl r;rw[e4] at z;injection z with z
   injection z with r1 r2 r3 r4 r5
   rw[<-r1] at q2;injection q2 with q2
   have hz:=q3 q2.symm;have hl:=j8 f;refine .inr (.inl ⟨hz,List.length_eq_zero_iff.1 (by rw[hl,hz];simp)⟩)
 ·exact h.elim
theorem Pm {e sz b:Nat}{zs:List Value}{s x:X}{d:Option Nat}{K:TK}(a:TS G F L ρ M τ) (h:cV P (.app e sz b zs s x) d M τ K):evalOp P (.app e sz b zs s x) d F L ρ (Both G K):=by
 obtain⟨sv,k,c,j,f⟩:=Lu a h;simp only[evalOp,c,j];exact f
set_option maxHeartbeats 1000000 in
theorem Lv {e sz b:Nat}{zs:List Value}{s x:X}{d:Option Nat}{K:TK}(f:TS G F L ρ M τ) (h:cV P (.appD e sz b zs s x) d M τ K):evalOp P (.appD e sz b zs s x) d F L ρ (Both G K):=by
 have he:=f.env;simp only[cV,hO,gA,fN] at h;simp only[evalOp];split at h
 ·rename_i k news hs hx;split at h
  case h_2=>exact h.elim
  rename_i e' ay els m;split at h
  case h_2=>exact h.elim
  rename_i h1 h2;obtain rfl:=vz h1;obtain rfl:=vz h2;obtain⟨w,j,n,p⟩:=h;obtain⟨a,c,xs,e1,e2,hr,hm⟩:=sU f hs m;obtain⟨q,c',u,t,e4,e5,e6,e7⟩:=lf he hx;obtain⟨ys,y,z,l⟩:=jF e7 w;rw[e1,t];exact⟨k,els.length,xs,news.length,ys,.inl e2,⟨q,c',rfl,y,z⟩,l.ones,j,n,fun v r _=>qt f e2 hr l j p r⟩
 ·rename_i news k hs hx;split at h
  case h_2=>exact h.elim
  rename_i m;obtain⟨w,j,n,p⟩:=h;obtain⟨q,c',u,t,e4,e5,e6,e7⟩:=lf he hx;obtain⟨ys,y,z,l⟩:=jF e7 w;simp only[acV] at j n;rw[rO he hs,t];exact⟨k,0,[],news.length,ys,.inr (.inl ⟨rfl,dm f.tl m,rfl,rfl,rfl⟩),⟨q,c',rfl,y,z⟩,l.ones,j,n,fun v r _=>oM f m l (by omega) p r⟩
 ·rename_i els news k hs hx;split at h
  case h_2=>exact h.elim
  rename_i m;obtain⟨g0,ak,w,j,n,p⟩:=h;obtain⟨a,ba,e1,hm,e2⟩:=C2 he hs;obtain⟨q,c',u,t,e4,e5,e6,e7⟩:=lf he hx;obtain⟨ys,y,z,l⟩:=jF e7 w;obtain⟨xs,x1,x2,x3⟩:=jF e2 ak;rw[e1,t];refine⟨k,els.length,xs,news.length,ys,.inr (.inr ⟨rfl,dm f.tl m,a,rfl,g0,x1,x2⟩),⟨q,c',rfl,y,z⟩,l.ones,j,n,fun v r _=>?_⟩;obtain⟨av,cv,rfl,hn⟩:=r;have h1:=f.new (aJ.le_refl F) (dm f.tl m) (o:=.row (.slice av (els.length+news.length) cv) e sz (els.length+news.length) (xs++ys)) (to:=.row e sz (els++news)) ⟨rfl,rfl,by simp,⟨j,av,cv,rfl,hn⟩,x3.append l⟩;exact⟨_,_,h1.put (c:=.rw k) (oL (by rw[Loc.aa4,o6 rfl])) _,p⟩
 ·exact h.elim
theorem qw {F:aJ}(a:IntKind):∀m:Nat,aT F 1 (List.replicate m [C.int a 0]) (List.replicate m (Value.int a 0))
 | 0=>by simp only[List.replicate_zero,aT]
 | m+1=>by
  simp only[adB,aT];refine⟨[.int a 0],_,rfl,rfl,rfl,?_,qw a m⟩;simp only[aK,Rel];exact⟨_,_,rfl,⟨rfl,by cases a<;>rfl⟩,rfl⟩
theorem Lw {e b:Nat}{j:IntKind}{s x:X}{d:Option Nat}{K:TK}(n:TS G F L ρ M τ) (h:cV P (.appZ e b j s x) d M τ K):evalOp P (.appZ e b j s x) d F L ρ (Both G K):=by
 have t:=n.env;simp only[cV,hO,gA,fN] at h;simp only[evalOp];split at h
 ·rename_i k kx i r u;split at h
  case h_2=>exact h.elim
  rename_i e' z els o;split at h
  case h_2=>exact h.elim
  rename_i h1 y;obtain rfl:=vz h1;obtain rfl:=vz y;obtain⟨m,rfl,g1,f,l,p⟩:=h;obtain⟨a,c,xs,e1,w,hr,hm⟩:=sU n r o;rw[e1,(gP t u).1];rw[adw] at f l;refine⟨k,els.length,xs,.inl w,f,l,fun v q=>?_⟩;have:=qt (news:=List.replicate m [C.int j 0]) (v:=v) n w hr (qw j m) (by rw[adw];exact f) p (by rw[adw];exact q);rw[adw] at this;exact this
 ·rename_i kx i k r u;split at h
  case h_2=>exact h.elim
  rename_i o;obtain⟨m,rfl,g1,f,l,p⟩:=h;rw[rO t r,(gP t u).1];rw[adw] at f l;simp only[acV] at f l;refine⟨k,0,[],.inr ⟨dm n.tl o,rfl,rfl,rfl⟩,f,l,fun v q=>?_⟩;have:=oM (news:=List.replicate m [C.int j 0]) (v:=v) n o (qw j m) (by rw[adw];omega) p (by rw[adw];exact q);rw[adw] at this;exact this
 ·exact h.elim
theorem JK {n:Nat}{y x:X}{d:Option Nat}{K:TK}(ht:TS G F L ρ M τ) (h:storeT false n y x d M τ K):evalOp P (.store n y x) d F L ρ (Both G K):=by
 have he:=ht.env;simp only[storeT,hO,gA,fN] at h;simp only[evalOp];split at h
 ·rename_i k off h1 h2 h3 hy;split at h
  case h_3=>exact h.elim
  case h_2 =>
   rename_i t pre cs post hk;rcases h with⟨o,rfl,h⟩ | ⟨pre',bj,bp,bm,h⟩
   case inr =>
    obtain⟨g,ty,v1,w,v3,hL,u,z,ao,l⟩:=zD ht.tl hk;have p:=iO he h1;have f:(aZ (val L ρ x)).length=n:=by rw[p.len];exact cg h2
    have r:iV (aZ (val L ρ x)) n=true:=fR f;have ho:=sS (lY p h3);rw[r,ho,(iz he hy).1];simp only[hL];have aw:off+n<=v1.length:=by rw[u.len];exact bj
    have s:(((v1++(w++v3)).drop off).take n).length=n:=by
     simp;omega
    rw[iM l.2.2 (fR s)];have am:bq (v1++(w++v3)) off (aZ (val L ρ x))=bq v1 off (aZ (val L ρ x))++(w++v3):=by
     simp only[bq];rw[List.take_append_of_le_length (by omega),f,List.drop_append_of_le_length aw];simp
    have bl:aK F [] pre' (bq v1 off (aZ (val L ρ x))):=by rw[<-bm];exact ku u (jb bp p)
    have h4:=ht.turn (o':=.box g ty (bq (v1++(w++v3)) off (aZ (val L ρ x)))) (to:=.win t pre' cs post) hL ⟨rfl,rfl⟩ (fun g' t' cs' e=>by injection e with a b c;subst a b;exact⟨_,rfl⟩)
     (fun L' hx=>⟨l,_,w,v3,am,bl,z.ext (aJ.le_refl F) hx,ao⟩)
    exact⟨_,_,h4.put (c:=.und) (sv:=.v undef) ⟨_,rfl,by simp only[Rel]⟩ d,h⟩
   split at h
   case h_2=>exact h.elim
   rename_i hl;obtain⟨g,ty,v1,w,v3,hL,u,z,ao,l⟩:=zD ht.tl hk;have p:=iO he h1;have f:(aZ (val L ρ x)).length=n:=by rw[p.len];exact cg h2
   have r:iV (aZ (val L ρ x)) n=true:=fR f;have ho:=sS (lY p h3);rw[r,ho,(iz he hy).1];simp only[hL];have ag:=(z.drop o).take n;have ac:((w.drop o).take n).length=n:=by rw[ag.len];exact cg hl
   have s:(((v1++(w++v3)).drop (pre.length+o)).take n).length=n:=by
    rw[<-u.len];simp at ac ⊢;omega
   rw[iM l.2.2 (fR s)];have am:bq (v1++(w++v3)) (pre.length+o) (aZ (val L ρ x))=v1++(bq w o (aZ (val L ρ x))++v3):=by
    by_cases bu:n=0
    ·have:aZ (val L ρ x)=[]:=ade (by omega);rw[this];simp[bq]
    have hn:o+n<=w.length:=by simp at ac;omega
    simp only[bq];rw[<-u.len,List.take_append,adv (by omega),show v1.length+o-v1.length=o by omega,List.take_append_of_le_length (by omega),f,Nat.add_assoc,List.drop_append,List.drop_eq_nil_of_le (by omega),show v1.length+(o+n)-v1.length=o+n by omega,List.drop_append_of_le_length hn];simp
   have h4:=ht.turn (o':=.box g ty (bq (v1++(w++v3)) (pre.length+o) (aZ (val L ρ x)))) (to:=.win t pre (iy cs o (eW (eD τ x))) post) hL ⟨rfl,rfl⟩ (fun g' t' cs' e=>by injection e with a b c;subst a b;exact⟨_,rfl⟩)
    (fun L' hx=>⟨l,v1,_,v3,am,u,(ku z p).ext (aJ.le_refl F) hx,ao⟩)
   exact⟨_,_,h4.put (c:=.und) (sv:=.v undef) ⟨_,rfl,by simp only[Rel]⟩ d,h⟩
  rename_i t cs hk;split at h
  case h_2=>exact h.elim
  rename_i hl;obtain⟨g,ty,vs,hL,z,l⟩:=mY ht.tl hk;have p:=iO he h1;have r:iV (aZ (val L ρ x)) n=true:=fR (by rw[p.len];exact cg h2);have ho:=sS (lY p h3);rw[r,ho,(iz he hy).1];simp only[hL];have ag:=(z.drop off).take n;rw[iM l.2.2 (fR (by rw[ag.len];exact cg hl))];have h4:=ht.turn (o':=.box g ty (bq vs off (aZ (val L ρ x)))) (to:=.box t (iy cs off (eW (eD τ x)))) hL ⟨rfl,rfl⟩ (fun g' t' cs' e=>by injection e with a b c;subst a b;exact⟨_,rfl⟩)
   (fun L' hx=>⟨l,(ku z p).ext (aJ.le_refl F) hx⟩)
  exact⟨_,_,h4.put (c:=.und) (sv:=.v undef) ⟨_,rfl,by simp only[Rel]⟩ d,h⟩
 ·rename_i k j off h1 h2 h3 hy;split at h
  case h_2=>exact h.elim
  rename_i t sz els h0 hk hp;obtain⟨r0,es,r1,r2,r3⟩:=h;obtain⟨ad,t',q,m,c,bk,e1,e2⟩:=yp he hy;obtain⟨v,xs,e3,⟨hm,q6⟩,z⟩:=mZ ht.tl hk;rw[e2] at e3;injection e3 with e3
  injection e3 with q1 q2 q3 q4 q5
  subst q1 q2 q3 q4 q5;have p:=iO he h1;have f:(aZ (val L ρ x)).length=n:=by rw[p.len];exact cg h2
  have r:iV (aZ (val L ρ x)) n=true:=fR f;have ho:=sS (lY p h3);rw[r,ho,e1];have bB:es.length=q:=by
   obtain⟨us,u1,_,u3,_⟩:=z.at r1;rw[<-u1,u3.len]
  have hn:off+n<=q:=ac8 r0;have av:=z.set (ds:=(eW (eD τ x)).map C.can) (us:=aZ (val L ρ x)) (off:=off) r1 (by rw[f];exact hn) (mM (jb hp p)) (pT h3);have ay:j<els.length:=(acP.1 r1).1;have bs:=j8 z;have h4:=ht.turn (o':=.row (.slice (some ad) els.length c) t' q els.length (bq bk (j*q+off) (aZ (val L ρ x)))) (to:=.row t' q (els.set j (iy es off ((eW (eD τ x)).map C.can)))) e2 ⟨rfl,rfl,rfl⟩
   (fun g' bz cs' e=>by cases e) (fun L' hx=>⟨rfl,rfl,by simp,⟨hm,_,_,rfl,fun e=>(by cases e)⟩,av⟩)
  refine⟨.inl ⟨k,_,_,_,_,_,ad,c,e2,rfl,rfl,?_,lY p h3,_,_,h4.put (c:=.und) (sv:=.v undef) ⟨_,rfl,by simp only[Rel]⟩ d,r3 es r1⟩⟩;rw[bs,f];have:(j+1)*q<=els.length*q:=Nat.mul_le_mul_right _ ay;rw[Nat.add_mul] at this;omega
 ·exact h.elim
theorem Gr {n:Nat}{y x:X}{d:Option Nat}{K:TK}(o:TS G F L ρ M τ) (h:Gm n y x d M τ K):evalOp P (.store n y x) d F L ρ (Both G K):=by
 have s:=o.env;unfold Gm at h;split at h
 ·rename_i es off b hy hx;split at h
  case h_2=>exact h.elim
  rename_i z;obtain rfl:=vz z;obtain⟨p,t⟩:=h;obtain⟨b',q,j,vs,l,hp,ho,hr⟩:=rP s hy;have ex:=jq s hx;have f:vs[off]?=some (.bool b):=by
   obtain⟨r1,r2⟩:=kV.1 hr;have a:off<vs.length:=by rw[r1];exact(acP.1 p).1
   have:=r2 off _ _ p (w8 a);simp only[Rel] at this;rw[w8 a,this]
  have k:cC F (some ⟨b',q,none⟩) j [.bool b]:=by
   have:=kZ (n:=1) (es:=es) hp;have e:(vs.drop off).take 1=[.bool b]:=by
    have a:off<vs.length:=(acP.1 f).1;rw[adG a];rw[w8 a] at f;injection f with f
    rw[f];rfl
   rwa [e] at this
  have r:Both G K F L (Fr.put d (.v undef) ρ):=⟨_,_,o.put (c:=.und) (sv:=.v undef) ⟨_,rfl,by simp only[Rel]⟩ d,t⟩;have m:∀u∈[Value.bool b],u.oneCell'=true:=fun u hu=>by rw[adr.1 hu];rfl
  have w:aZ (val L ρ x)=[.bool b]:=by simp only[val,ex,conc,aZ]
  have e3:iV [Value.bool b] 1=true:=rfl;have e4:mC [Value.bool b]=true:=rfl;simp only[evalOp,w,e3,e4];rcases l with⟨l,rfl⟩ | l
  ·rw[l];exact⟨.inr ⟨k,m,r⟩⟩
  ·rw[l];exact⟨.inr ⟨k,m,r⟩⟩
 ·exact JK o h
theorem zG {n:Nat}{y x:X}{d:Option Nat}{K:TK}(j:TS G F L ρ M τ) (h:storeT true n y x d M τ K):evalOp P (.storeD n y x) d F L ρ (Both G K):=by
 have r:=j.env;simp only[storeT,hO,gA,fN] at h;simp only[evalOp];split at h
 ·rename_i k off h1 s h3 w;split at h
  case h_3=>exact h.elim
  case h_2=>exact h.elim
  rename_i t cs u;split at h
  case h_2=>exact h.elim
  rename_i hl;obtain⟨g,ty,vs,q,p,f⟩:=mY j.tl u;have o:=iO r h1;have m:iV (aZ (val L ρ x)) n=true:=fR (by rw[o.len];exact cg s);have z:=sS (lY o h3);rw[m,z,(iz r w).1];simp only[q];have l:=(p.drop off).take n;rw[iM f.2.2 (fR (by rw[l.len];exact cg hl))];have h4:=j.turn (o':=.box g ty (bq vs off (aZ (val L ρ x)))) (to:=.box t (iy cs off (eW (eD τ x)))) q ⟨rfl,rfl⟩ (fun g' t' cs' e=>by injection e with a b c;subst a b;exact⟨_,rfl⟩)
   (fun L' hx=>⟨f,(ku p o).ext (aJ.le_refl F) hx⟩)
  exact⟨_,_,h4.put (c:=.und) (sv:=.v undef) ⟨_,rfl,by simp only[Rel]⟩ d,h⟩
 ·exact h.elim
 ·exact h.elim
theorem JL {e sz b:Nat}{zs:List Value}{l c:X}{d:Option Nat}{K:TK}(j:TS G F L ρ M τ) (h:cV P (.makeS e sz b zs l c) d M τ K):evalOp P (.makeS e sz b zs l c) d F L ρ (Both G K):=by
 have r:=j.env;simp only[cV,hO,gA,fN] at h;simp only[evalOp];split at h
 case h_2=>exact h.elim
 rename_i k1 n k2 m k w z;split at h
 case h_2=>exact h.elim
 rename_i t x s;rw[(gP r w).1,(gP r z).1];have f:=dm j.tl t;simp only[f];obtain⟨u,q,g3,p,y⟩:=h;refine⟨u,q,g3,p,fun g=>?_⟩;have hz:aK F [] ((zs.map tQ).map C.can) zs:=mM (ol zs);have a:∀i:Nat,aT F sz (List.replicate i ((zs.map tQ).map C.can)) (List.replicate i zs).flatten:=by
  intro i
  induction i with
  | zero=>simp only[List.replicate_zero,List.flatten_nil,aT]
  | succ i v =>
   simp only[adB,List.flatten_cons,aT];exact⟨zs,_,rfl,by have:=cg x;simpa using this,pT s,hz,v⟩
 have h3:=j.new (aJ.le_refl F) f (o:=.row (.slice (some ⟨g,0,none⟩) n.toNat m.toNat) e sz n.toNat (List.replicate n.toNat zs).flatten) (to:=.row e sz (List.replicate n.toNat ((zs.map tQ).map C.can)))
  ⟨rfl,rfl,by simp,⟨acO (Int.toNat_le_toNat q) p,_,_,rfl,fun e=>(by cases e)⟩,a _⟩
 exact⟨_,_,h3.put (c:=.rw k) (oL (by rw[Loc.aa4,o6 rfl])) (some k),y⟩
end
section
variable {P:Program}{G:Nat->Option (Nat×TypeId)}{F:aJ}{L:Loc}{ρ:Env}{M:TL}{τ:bg}
theorem C5:∀{ks:List Nat}{i j m:Nat},cn ks i j=some m->∃n,ks[n]?=some j/\m=i+n
 | [],_,_,_,h=>by simp[cn] at h
 | k::ks,i,j,m,h=>by
  simp only[cn] at h;cases a:Nat.beq j k with
  | true =>
   have:=vz a;subst this;rw[a] at h;injection h with h
   exact⟨0,by simp,by omega⟩
  | false =>
   rw[a] at h;obtain⟨n,b,c⟩:=C5 h;exact⟨n+1,by simpa using b,by omega⟩
theorem nS {ko:List Nat}{j m:Nat}(h:bF ko j=some m):1000<=j/\ko[j-1000]?=some m:=by
 simp only[bF] at h;split at h
 ·rename_i a;exact⟨ac8 a,h⟩
 ·cases h
theorem dS:∀{l:List Nat},bR l=true->l.Nodup
 | [],_=>List.nodup_nil
 | k::l,h=>by
  simp only[bR] at h;split at h
  ·cases h
  ·rename_i a;exact List.nodup_cons.2 ⟨fun b=>(by rw[dQ.2 b] at a;cases a),dS h⟩
theorem Lx {L':Loc}{f:Nat->Option Nat}(k:∀j m,f j=some m->∀o,L.get j=some o->L'.get m=some o) (c:C) (v:Value) (r:c.leaf=true) (h:Rel F L c v):Rel F L' (vp f c) v:=by
 cases c<;>simp only[C.leaf,acZ] at r<;>simp only[vp]
 case rw j =>
  simp only[Rel] at h;obtain⟨a,c,t,sz,n,xs,rfl,h⟩:=h;cases d:f j with
  | none=>simp only[Rel]
  | some m=>simp only[Rel];exact⟨a,c,t,sz,n,xs,rfl,k j m d _ h⟩
 case own j off =>
  simp only[Rel] at h;obtain⟨g,t,cs,h,rfl⟩:=h;cases d:f j with
  | none=>simp only[Rel]
  | some m=>simp only[Rel];exact⟨g,t,cs,k j m d _ h,rfl⟩
 case ifo m ti j off =>
  simp only[Rel] at h;obtain⟨g,t,cs,h,rfl⟩:=h;cases d:f j with
  | none=>simp only[Rel]
  | some m=>simp only[Rel];exact⟨g,t,cs,k j m d _ h,rfl⟩
 case mpr j =>
  simp only[Rel] at h;obtain⟨g,cs,h,rfl⟩:=h;cases d:f j with
  | none=>simp only[Rel]
  | some m=>simp only[Rel];exact⟨g,cs,k j m d _ h,rfl⟩
 case ownv=>exact h.elim
 case elr j a b =>
  simp only[Rel] at h;obtain⟨l,t,sz,n,c,xs,rfl,h⟩:=h;cases d:f j with
  | none=>simp only[Rel]
  | some m=>simp only[Rel];exact⟨l,t,sz,n,c,xs,rfl,k j m d _ h⟩
 case slo j a =>
  simp only[Rel] at h;obtain⟨g,t,cs,l,h,p,s,q⟩:=h;cases d:f j with
  | none=>simp only[Rel]
  | some m=>simp only[Rel];exact⟨g,t,cs,l,k j m d _ h,p,s,q⟩
 case slp=>exact h.elim
 all_goals
  exact bU (aJ.le_refl F) (fun u e=>by rcases e with⟨off,e⟩ | e | e | ⟨_,_,_,e⟩ | ⟨_,_,e⟩<;>cases e) rfl h
theorem Rel.ren {L':Loc}{f:Nat->Option Nat}(a:∀j m,f j=some m->∀o,L.get j=some o->L'.get m=some o) {c:C}{v:Value}(h:Rel F L c v):Rel F L' (c.ren f) v:=Rel.mp (Lx a) 3 h
theorem dW.ren {L':Loc}{f:Nat->Option Nat}(a:∀j m,f j=some m->∀o,L.get j=some o->L'.get m=some o):∀{o:TO}{p:Own},dW F L o p->dW F L' (o.aa8 (C.ren f)) p
 | .box t cs,.box g b vs,r=>⟨r.1,r.2.map fun c _ v h=>h.ren a⟩
 | .row t sz els,.row v b k n xs,r=>r
 | .box _ _,.row ..,r=>r.elim
 | .row ..,.box ..,r=>r.elim
 | .map _,.row ..,r=>r.elim
 | .map es,.box g b vs,r=>r
 | .win ..,.row ..,r=>r.elim
 | .win ..,.box ..,⟨l,v1,u,v3,e,q,d,s⟩=>⟨l,v1,u,v3,e,q,d.map fun c _ v h=>h.ren a,s⟩
theorem rR (e:ep F L M):∀{ks:List Nat}{Lin:List TO},M.sub ks=some Lin->∃Li,L.sub ks=some Li/\Li.length=Lin.length/\∀(i:Nat) o p,Lin[i]?=some o->Li[i]?=some p->dW F L o p
 | [],Lin,h=>by simp only[TL.sub,w7] at h;subst h;exact⟨[],rfl,rfl,by simp⟩
 | k::ks,Lin,h=>by
  simp only[TL.sub] at h;split at h
  case h_2=>cases h
  rename_i o l j m;injection h with h
  subst h;obtain⟨Li,r,s,q⟩:=rR e m;rcases fA (e k) with⟨a,f⟩ | ⟨o',p,a,f,n⟩
  ·rw[j] at a;cases a
  ·rw[j] at a;injection a with a
   subst a;refine⟨p::Li,by simp only[Loc.sub,f,r],by simp[s],fun i c b hi d=>?_⟩;cases i with
   | zero=>simp only[ac6,w7] at hi d;subst hi;subst d;exact n
   | succ i=>exact q i c b (by simpa using hi) (by simpa using d)
theorem oN {ks:List Nat}{Li:List Own}(d:L.sub ks=some Li):∀j m,cn ks 1000 j=some m->∀o,L.get j=some o->(inp Li).get m=some o:=by
 intro j m h o c;obtain⟨n,a,rfl⟩:=C5 h;obtain⟨_,b⟩:=fE d;rw[bE,o6 (by omega),show 1000+n-1000=n by omega,<-b n j a];exact c
theorem uI (e:ep F L M) {ks:List Nat}{Lin:List TO}{Li:List Own}(f:Li.length=Lin.length) (d:L.sub ks=some Li) (c:∀(i:Nat) o p,Lin[i]?=some o->Li[i]?=some p->dW F L o p) :
  ep F (inp Li) (jQ (Lin.map (TO.aa8 (C.ren (cn ks 1000))))):=by
 intro k;rw[dh,bE];split
 ·rw[adp];cases b:Lin[k-1000]? with
  | none =>
   have:Li[k-1000]?=none:=by rw[adC] at b ⊢;omega
   rw[this];trivial
  | some o =>
   have a:k-1000<Li.length:=by have:=(acP.1 b).1;omega
   rw[w8 a];exact(c _ _ _ b (w8 a)).ren (oN d)
 ·trivial
def nI (L:Loc) (k:Nat):Loc:=match L.get k with | some (.row ..)=>L.del k | _=>L
def om:List Nat->Loc->Loc
 | [],L=>L
 | k::ks,L=>om ks (nI L k)
theorem wu (k:Nat):(∀c v,c.leaf=true->Rel F L c v->Rel F (nI L k) (iA k c) v)/\(∀c sv,c.leaf=true->bh F L c sv->bh F (nI L k) (iA k c) sv):=by
 by_cases a:∃v t sz n xs,L.get k=some (.row v t sz n xs)
 ·obtain⟨v,t,sz,n,xs,a⟩:=a;have e:nI L k=L.del k:=by simp only[nI,a]
  rw[e];have d:∀g t cs,L.get k≠some (.box g t cs):=fun g t cs h=>by rw[a] at h;injection h with h;cases h
  have b:∀j,j≠k->∀o,L.get j=some o->∃o',(L.del k).get j=some o'/\Own.like o o':=fun j f o l=>⟨o,by rw[Loc.abg,s8 f];exact l,Own.abf o⟩;exact⟨lZ d b (aJ.le_refl F),qq d b (aJ.le_refl F)⟩
 ·have e:nI L k=L:=by
   simp only[nI];split
   ·rename_i h;exact s6 ⟨_,_,_,_,_,h⟩ a
   ·rfl
  rw[e];refine⟨fun c v m h=>?_,fun c sv m h=>?_⟩
  ·cases c<;>simp only[iA]<;>first
    | exact h
    | exact h.elim
    | (split<;>first | exact h | (simp only[Rel];done))
  ·cases c<;>simp only[iA]<;>first
    | exact h
    | trivial
    | (split<;>first | exact h | trivial)
theorem Rel.kills:∀(ks:List Nat) {L:Loc}{c:C}{v:Value},Rel F L c v->Rel F (om ks L) (C.kills ks c) v
 | [],L,c,v,h=>h
 | k::ks,L,c,v,h=>Rel.kills ks (Rel.mp (wu k).1 3 h)
theorem bh.kills:∀(ks:List Nat) {L:Loc}{c:C}{sv:SV},bh F L c sv->bh F (om ks L) (C.kills ks c) sv
 | [],L,c,sv,h=>h
 | k::ks,L,c,sv,h=>bh.kills ks (bh.mp (wu k).1 (wu k).2 3 h)
theorem dW.kills (ks:List Nat) {L:Loc}:∀{o:TO}{p:Own},dW F L o p->dW F (om ks L) (o.aa8 (C.kills ks)) p
 | .box t cs,.box g a vs,r=>⟨r.1,r.2.map fun c _ v h=>h.kills ks⟩
 | .row t sz els,.row v a d n xs,r=>r
 | .box _ _,.row ..,r=>r.elim
 | .row ..,.box ..,r=>r.elim
 | .map _,.row ..,r=>r.elim
 | .map es,.box g a vs,r=>r
 | .win ..,.row ..,r=>r.elim
 | .win ..,.box ..,⟨f,v1,l,v3,e,j,b,k⟩=>⟨f,v1,l,v3,e,j,b.map fun c _ v h=>h.kills ks,k⟩
theorem ED {k j:Nat}{o:Own}(h:(nI L k).get j=some o):L.get j=some o/\(j=k->∃g t cs,o=.box g t cs):=by
 unfold nI at h;split at h
 ·rw[Loc.abg] at h;split at h
  ·cases h
  ·rename_i a;exact⟨h,fun e=>s6 e a⟩
 ·rename_i b;refine⟨h,fun e=>?_⟩;subst e;cases o with
  | box g t cs=>exact⟨g,t,cs,rfl⟩
  | row v t sz n xs=>exact s6 h (b v t sz n xs)
theorem qx:∀{ks:List Nat}{L:Loc}{j:Nat}{o:Own},(om ks L).get j=some o->L.get j=some o/\(j∈ks->∃g t cs,o=.box g t cs)
 | [],L,j,o,h=>⟨h,by simp⟩
 | k::ks,L,j,o,h=>by
  obtain⟨a,b⟩:=qx (ks:=ks) h;obtain⟨d,c⟩:=ED a;exact⟨d,fun f=>by
   rcases acQ.1 f with e | e
   ·exact c e
   ·exact b e⟩
theorem zH (ks:List Nat) (M:TL) (k:Nat):(TL.kills ks M).get k=(M.get k).map (TO.aa8 (C.kills ks)):=by
 cases ks with
 | nil =>
  simp only[TL.kills];cases M.get k with
  | none=>rfl
  | some o =>
   cases o with
   | box t cs =>
    have e:(C.kills []:C->C)=id:=rfl;simp[TO.aa8,e]
   | row t sz els=>rfl
   | map es=>rfl
   | win t pre cs post =>
    have e:(C.kills []:C->C)=id:=rfl;simp[TO.aa8,e]
 | cons a ks=>exact rQ _ _ _
theorem zI (ks:List Nat) (τ:bg) (j:Nat):fQ ks τ j=(τ j).kills ks:=by cases ks<;>rfl
def C6:TO->Bool
 | .row _ _ _=>true
 | _=>false
theorem fI:∀{Lin:List TO}{ks ko:List Nat},aY Lin ks ko=true->∀(i:Nat) o,Lin[i]?=some o->C6 o=false->∃k,ks[i]?=some k/\ko[i]?=some k
 | [],_,_,_,i,o,e,_=>by simp at e
 | .box d f::l,[],ko,h,i,o,e,_=>by cases ko<;>simp[aY] at h
 | .box d f::l,k::ks,[],h,i,o,e,_=>by simp[aY] at h
 | .box d f::l,k::ks,c::ko,h,i,o,e,a=>by
  simp only[aY] at h;split at h
  case h_2=>cases h
  rename_i b;have:=vz b;subst this;cases i with
  | zero=>exact⟨k,by simp,by simp⟩
  | succ i=>simpa using fI h i o (by simpa using e) a
 | .map es::l,[],ko,h,i,o,e,_=>by cases ko<;>simp[aY] at h
 | .map es::l,k::ks,[],h,i,o,e,_=>by simp[aY] at h
 | .map es::l,k::ks,c::ko,h,i,o,e,a=>by
  simp only[aY] at h;split at h
  case h_2=>cases h
  rename_i b;have:=vz b;subst this;cases i with
  | zero=>exact⟨k,by simp,by simp⟩
  | succ i=>simpa using fI h i o (by simpa using e) a
 | .win ..::l,[],ko,h,i,o,e,_=>by cases ko<;>simp[aY] at h
 | .win ..::l,k::ks,[],h,i,o,e,_=>by simp[aY] at h
 | .win ..::l,k::ks,c::ko,h,i,o,e,a=>by
  simp only[aY] at h;split at h
  case h_2=>cases h
  rename_i b;have:=vz b;subst this;cases i with
  | zero=>exact⟨k,by simp,by simp⟩
  | succ i=>simpa using fI h i o (by simpa using e) a
 | .row ..::l,k::ks,c::ko,h,i,o,e,a=>by
  simp only[aY] at h;cases i with
  | zero =>
   simp only[ac6,w7] at e;subst e;cases a
  | succ i=>simpa using fI h i o (by simpa using e) a
 | .row ..::l,k::ks,[],h,i,o,e,a=>by
  simp only[aY] at h;cases i with
  | zero =>
   simp only[ac6,w7] at e;subst e;cases a
  | succ i =>
   obtain⟨c,m,j⟩:=fI h i o (by simpa using e) a;simp at j
 | .row ..::l,[],ko,h,i,o,e,_=>by simp[aY] at h
theorem zJ {Lin:List TO}{ks ko:List Nat}(h:aY Lin ks ko=true) (i:Nat) (t:TypeId) (cs:List C) (e:Lin[i]?=some (.box t cs)):∃k,ks[i]?=some k/\ko[i]?=some k:=fI h i _ e rfl
theorem sV {M:TL}{ks:List Nat}:∀{ko:List Nat},lN M ks ko=true->∀k∈ko,k∈ks\/M.get k=none
 | [],_,k,a=>by simp at a
 | k0::ko,h,k,a=>by
  simp only[lN] at h;rcases acQ.1 a with e | e
  ·subst e;split at h
   ·rename_i b;exact .inl (dQ.1 b)
   ·rename_i b c;exact .inr c
   ·cases h
  ·split at h
   ·exact sV h k e
   ·exact sV h k e
   ·cases h
theorem dL {ko:List Nat}{Lo:List Own}{L:Loc}(c:ko.Nodup) (f:ko.length=Lo.length) {i k:Nat}{o:Own}(b:ko[i]?=some k) (e:Lo[i]?=some o):(L.puts ko Lo).get k=some o:=by
 rcases eH ko Lo L k c f with⟨_,a⟩ | ⟨h,d,a,_⟩
 ·exact s6 (acS b) a
 ·have:=BD c d b;subst this;rw[a,e]
theorem uJ {k:Nat}{t sz:Nat}{els:List (List C)}(h:M.get k=some (.row t sz els)):∀{ks:List Nat},k∈ks->k∈rowsOf M ks
 | [],a=>by cases a
 | j::ks,a=>by
  simp only[rowsOf];rcases acQ.1 a with rfl | a
  ·rw[h];simp
  ·split
   ·exact adb _ (uJ h a)
   ·exact uJ h a
theorem zK {ks:List Nat}{k:Nat}{o:Own}(e:ep F L M) (f:k∈ks) (h:L.get k=some o) (hb:k∈rowsOf M ks->∃g t cs,o=.box g t cs):∃g t cs,o=.box g t cs:=by
 rcases fA (e k) with⟨d,a⟩ | ⟨q,p,d,a,c⟩
 ·rw[h] at a;cases a
 ·rw[h] at a;injection a with a
  subst a;cases q with
  | row t sz els=>exact hb (uJ d f)
  | box t cs =>
   cases o with
   | row=>exact c.elim
   | box g b cs'=>exact⟨g,b,cs',rfl⟩
  | map es =>
   cases o with
   | row=>exact c.elim
   | box g b cs'=>exact⟨g,b,cs',rfl⟩
  | win t pre cs post =>
   cases o with
   | row=>exact c.elim
   | box g b cs'=>exact⟨g,b,cs',rfl⟩
theorem wz {f:Nat}{args:List C}{vs:List Value}{ks ko:List Nat}{Lin:List TO}{R:List TO->C->Prop}{K:TL->bg->C->Prop}(ht:TS G F L ρ M τ) (ha:aK F L args vs)
  (h1:M.sub ks=some Lin) (h2:bR ks=true) (h3:bR ko=true) (h4:lN M ks ko=true) (h5:aY Lin ks ko=true)
  (h6:CallsT P f (args.map fun c=>c.abk.ren (cn ks 1000)) (Lin.map (TO.aa8 (C.ren (cn ks 1000)))) R)
  (h7:∀v Mo,R Mo v->Wf v->(∀o∈Mo,o.Wf)->ko.length=Mo.length/\K (((M.aa7 ks).kills (rowsOf M ks)).puts ko (Mo.map (TO.aa8 (C.ren (bF ko))))) (fQ (rowsOf M ks) τ) (v.ren (bF ko)).slt) :
  eX P f vs F L (fun F' L' v=>∃M' al c,TS G F' L' ρ M' al/\bh F' L' c (.v v)/\K M' al c):=by
 obtain⟨Li,e1,e2,e3⟩:=rR ht.tl h1;have hn:=dS h2;have d:=dS h3;have am:∀k,k∈ko->k∈ks\/L.get k=none:=fun k q=>(sV h4 k q).imp id fun e=>dm ht.tl e;have bb:=fE e1;refine⟨ks,ko,Li,iN Li R,e1,hn,d,am,h6.out F Li vs (by simp[e2]) (uI ht.tl e2 e1 e3) ?_,?_⟩
 ·exact ha.map fun c _ v hc=>(ld hc).ren (oN e1)
 ·rintro v F' Lo hF ⟨Mo,c,q1,q2,q3,q4,q5⟩;have ay:∀o∈Mo,o.Wf:=by
   intro o z;obtain⟨i,hi⟩:=adh.1 z;have l:i<Lo.length:=by rw[<-q1];exact(acP.1 hi).1
   have:=q2 (1000+i);rw[dh,bE,o6 (by omega),o6 (by omega),show 1000+i-1000=i by omega,hi,w8 l] at this;exact dW.wf this
  obtain⟨k1,k2⟩:=h7 c Mo q5 q3.wf ay;have a:ko.length=Lo.length:=by rw[k1,q1]
  have b:∀k g t cs,k∈ks->L.get k=some (.box g t cs)->∃cs',Loc.get ((L.aa7 ks).puts ko Lo) k=some (.box g t cs'):=by
   intro k g t cs q hg;obtain⟨i,hi⟩:=adh.1 q;have u:Li[i]?=some (.box g t cs):=by rw[<-bb.2 i k hi];exact hg
   have l:i<Lin.length:=by rw[<-e2];exact(acP.1 u).1
   have hr:=e3 i _ _ (w8 l) u;cases hL:Lin[i] with
   | row=>rw[hL] at hr;exact hr.elim
   | box t' cs' =>
    obtain⟨k',n,b2⟩:=zJ h5 i t' cs' (by rw[w8 l,hL]);rw[hi] at n;injection n with n
    subst n;obtain⟨w,r⟩:=q4 i g t cs u;exact⟨w,dL d a b2 r⟩
   | map es =>
    obtain⟨k',n,b2⟩:=fI h5 i (.map es) (by rw[w8 l,hL]) rfl;rw[hi] at n;injection n with n
    subst n;obtain⟨w,r⟩:=q4 i g t cs u;exact⟨w,dL d a b2 r⟩
   | win t0 p0 c0 q0 =>
    obtain⟨k',n,b2⟩:=fI h5 i (.win t0 p0 c0 q0) (by rw[w8 l,hL]) rfl;rw[hi] at n;injection n with n
    subst n;obtain⟨w,r⟩:=q4 i g t cs u;exact⟨w,dL d a b2 r⟩
  refine⟨a,b,?_⟩;generalize x:(L.aa7 ks).puts ko Lo=L' at b
  -- what was there before
  have ac:∀k,k∉ks->∀o,L.get k=some o->L'.get k=some o:=by
   intro k q o z;rw[<-x];rcases eH ko Lo (L.aa7 ks) k d a with⟨y,a2⟩ | ⟨i,y,a2,a3⟩
   ·rw[y,gH,s8 q];exact z
   ·rcases am k (acS y) with e | e
    ·exact s6 e q
    ·rw[z] at e;cases e
  have ad:Ext (om (rowsOf M ks) L) L':=by
   intro k o z;obtain⟨g1,g2⟩:=qx z
   by_cases q:k∈ks
   ·obtain⟨g,t,cs,rfl⟩:=zK ht.tl q g1 g2;obtain⟨cs',h⟩:=b k g t cs q g1;exact⟨_,h,rfl,rfl⟩
   ·exact⟨o,ac k q o g1,Own.abf o⟩
  have s:∀j m,bF ko j=some m->∀o,(inp Lo).get j=some o->L'.get m=some o:=by
   intro j m hj o z;obtain⟨y,a2⟩:=nS hj;rw[bE,o6 y] at z;rw[<-x];exact dL d a a2 z
  refine⟨_,_,_,⟨fun k=>?_,fun j=>?_,fun k g t e=>?_,ht.glob.mono hF⟩,mq (q3.ren s),k2⟩
  ·rcases nR ko (Mo.map (TO.aa8 (C.ren (bF ko)))) ((M.aa7 ks).kills (rowsOf M ks)) k d (by simp[k1]) with⟨y,a2⟩ | ⟨i,y,a2,a3⟩
   ·have ae:L'.get k=(L.aa7 ks).get k:=by
     rw[<-x];rcases eH ko Lo (L.aa7 ks) k d a with⟨n,_⟩ | ⟨i,n,_,_⟩
     ·exact n
     ·exact s6 (acS n) a2
    rw[y,ae,zH,pU,gH];split
    ·trivial
    ·rcases fA (ht.tl k) with⟨c1,c2⟩ | ⟨o,p,c1,c2,hr⟩
     ·rw[c1,c2];trivial
     ·rw[c1,c2];exact(hr.kills (rowsOf M ks)).ext hF ad
   ·rw[a2,adp];have l:i<Mo.length:=by simpa using a3
    have ab:i<Lo.length:=by omega
    have ae:L'.get k=some (Lo[i]):=by rw[<-x];exact dL d a y (w8 ab)
    rw[ae,w8 l];have:=q2 (1000+i);rw[dh,bE,o6 (by omega),o6 (by omega),show 1000+i-1000=i by omega,w8 l,w8 ab] at this;exact dW.ren s this
  ·rw[zI];exact((ht.env j).kills (rowsOf M ks)).ext hF ad
  ·obtain⟨cs,h⟩:=ht.kp k g t e
   by_cases q:k∈ks
   ·exact b k g t cs q h
   ·exact⟨cs,ac k q _ h⟩
theorem BU {f:Nat}{args:List C}{vs:List Value}{ks:List Nat}{Lin:List TO}{R:List TO->C->Prop}{K:TL->bg->C->Prop}(ht:TS G F L ρ M τ) (ha:aK F L args vs)
  (h1:M.sub ks=some Lin) (h2:bR ks=true) (h6:yg P f (args.map fun c=>c.abk.ren (cn ks 1000)) (Lin.map (TO.aa8 (C.ren (cn ks 1000)))) R)
  (h7:∀v Mo,R Mo v->Wf v->(∀o∈Mo,o.Wf)->ks.length=Mo.length/\K ((M.aa7 ks).puts ks (Mo.map (TO.aa8 (C.ren (bF ks))))) τ (v.ren (bF ks)).slt) :
  eX P f vs F L (fun F' L' v=>∃M' ad c,TS G F' L' ρ M' ad/\bh F' L' c (.v v)/\K M' ad c):=by
 obtain⟨Li,e1,e2,e3⟩:=rR ht.tl h1;have r:=dS h2;have ae:=fE e1;refine⟨ks,ks,Li,_,e1,r,r,fun k d=>.inl d,h6.out F Li vs (by simp[e2]) (uI ht.tl e2 e1 e3) ?_,?_⟩
 ·exact ha.map fun c _ v hc=>(ld hc).ren (oN e1)
 ·rintro v F' Lo hF ⟨⟨Mo,c,q1,q2,q3,q4,q5⟩,bp,al⟩;have ap:∀o∈Mo,o.Wf:=by
   intro o s;obtain⟨i,hi⟩:=adh.1 s;have u:i<Lo.length:=by rw[<-q1];exact(acP.1 hi).1
   have:=q2 (1000+i);rw[dh,bE,o6 (by omega),o6 (by omega),show 1000+i-1000=i by omega,hi,w8 u] at this;exact dW.wf this
  obtain⟨k1,k2⟩:=h7 c Mo q5 q3.wf ap;have a:ks.length=Lo.length:=by rw[k1,q1]
  have b:∀k g t cs,k∈ks->L.get k=some (.box g t cs)->∃cs',Loc.get ((L.aa7 ks).puts ks Lo) k=some (.box g t cs'):=by
   intro k g t cs d hg;obtain⟨i,hi⟩:=adh.1 d;have ab:Li[i]?=some (.box g t cs):=by rw[<-ae.2 i k hi];exact hg
   obtain⟨ax,ak⟩:=q4 i g t cs ab;exact⟨ax,dL r a hi ak⟩
  refine⟨a,b,?_⟩;generalize n:(L.aa7 ks).puts ks Lo=L' at b;have x:∀k,k∉ks->∀o,L.get k=some o->L'.get k=some o:=by
   intro k d o s;rw[<-n];rcases eH ks Lo (L.aa7 ks) k r a with⟨q,a2⟩ | ⟨i,q,a2,a3⟩
   ·rw[q,gH,s8 d];exact s
   ·exact s6 (acS q) d
  have y:Ext L L':=by
   intro k o s
   by_cases d:k∈ks
   ·obtain⟨i,hi⟩:=adh.1 d;have ab:Li[i]?=some o:=by rw[<-ae.2 i k hi];exact s
    obtain⟨o',h1,h2⟩:=al i o ab;exact⟨o',by rw[<-n];exact dL r a hi h1,h2⟩
   ·exact⟨o,x k d o s,Own.abf o⟩
  have l:∀j m,bF ks j=some m->∀o,(inp Lo).get j=some o->L'.get m=some o:=by
   intro j m hj o s;obtain⟨q,a2⟩:=nS hj;rw[bE,o6 q] at s;rw[<-n];exact dL r a a2 s
  refine⟨_,_,_,⟨fun k=>?_,fun j=>(ht.env j).ext hF y,fun k g t e=>?_,ht.glob.mono hF⟩,mq (q3.ren l),k2⟩
  ·rcases nR ks (Mo.map (TO.aa8 (C.ren (bF ks)))) (M.aa7 ks) k r (by simp[k1]) with⟨q,a2⟩ | ⟨i,q,a2,a3⟩
   ·have z:L'.get k=(L.aa7 ks).get k:=by
     rw[<-n];rcases eH ks Lo (L.aa7 ks) k r a with⟨b1,_⟩ | ⟨i,b1,_,_⟩
     ·exact b1
     ·exact s6 (acS b1) a2
    rw[q,z,pU,gH];split
    ·trivial
    ·rcases fA (ht.tl k) with⟨c1,c2⟩ | ⟨o,p,c1,c2,hr⟩
     ·rw[c1,c2];trivial
     ·rw[c1,c2];exact hr.ext hF y
   ·rw[a2,adp];have u:i<Mo.length:=by simpa using a3
    have w:i<Lo.length:=by omega
    have z:L'.get k=some (Lo[i]):=by rw[<-n];exact dL r a q (w8 w)
    rw[z,w8 u];have:=q2 (1000+i);rw[dh,bE,o6 (by omega),o6 (by omega),show 1000+i-1000=i by omega,w8 u,w8 w] at this;exact dW.ren l this
  ·obtain⟨cs,h⟩:=ht.kp k g t e
   by_cases d:k∈ks
   ·exact b k g t cs d h
   ·exact⟨cs,x k d _ h⟩
theorem sW {ks:List Nat}:∀{ko:List Nat},(∀k∈ko,k∈ks)->lN M ks ko=true
 | [],_=>rfl
 | k::ko,h=>by
  simp only[lN,dQ.2 (h k (by simp))];exact sW fun j a=>h j (by simp[a])
def YJ (hb:List (Nat×Nat)) (L:Loc):Prop:=∀k n,(k,n)∈hb->∃g t cs,L.get k=some (.box g t cs)/\cs.length=n
def Ly (F':aJ) (L':Loc) (M':TL):Prop:=∀k o,M'.get k=some o->∃p,L'.get k=some p/\dW F' L' o p
theorem BV {F':aJ}{L':Loc}{M':TL}(h:ep F' L' M'):Ly F' L' M':=fun k o e=>by
 rcases fA (h k) with⟨a,b⟩ | ⟨o',p,a,b,c⟩
 ·rw[e] at a;cases a
 ·rw[e] at a;injection a with a
  subst a;exact⟨p,b,c⟩
def LC (PS:qX) (F':aJ) (L':Loc) (v:Value):Prop:=∀s,PS.st=some s->∃M',Ly F' L' M'/\s M' v
theorem LC.no {PS:qX}(h:PS.st=none) {F':aJ}{L':Loc}{v:Value}:LC PS F' L' v:=fun s e=>by rw[h] at e;cases e
def AP (G:Nat->Option (Nat×TypeId)) (PS:qX) (F':aJ) (L':Loc) (v:Value):Prop:=Kp G L'/\PS.ps v/\YJ PS.hb L'/\LC PS F' L' v
theorem EF:∀{hb:List (Nat×Nat)}{ks:List Nat},mF M ks hb=true->∀k n,(k,n)∈hb->k∉ks/\∃t cs,M.get k=some (.box t cs)/\cs.length=n
 | [],ks,_,k,n,h=>by cases h
 | (j,m)::l,ks,h,k,n,a=>by
  simp only[mF] at h;split at h
  case h_2=>cases h
  rename_i t cs b c;split at h
  case h_2=>cases h
  rename_i d;rcases acQ.1 a with e | a
  ·simp only[Prod.mk.injEq] at e;obtain⟨rfl,rfl⟩:=e;exact⟨fun f=>(by rw[dQ.2 f] at b;cases b),t,cs,c,cg d⟩
  ·exact EF h k n a
theorem LD {hb:List (Nat×Nat)}{ks:List Nat}{L':Loc}(b:ep F L M) (h:mF M ks hb=true) (c:∀k g t cs,k∉ks->L.get k=some (.box g t cs)->L'.get k=some (.box g t cs)):YJ hb L':=by
 intro k n f;obtain⟨j,t,cs,a,l⟩:=EF h k n f;obtain⟨g,ty,vs,e,d,_⟩:=mY b a;exact⟨g,ty,vs,c k g ty vs j e,by rw[d.len,l]⟩
theorem yq {ks ko:List Nat}{Lin:List TO}{Li:List Own}{R:List TO->C->Prop}{K:TL->bg->C->Prop}(ht:TS G F L ρ M τ)
  (h2:bR ks=true) (h3:bR ko=true) (h4:lN M ks ko=true) (h5:aY Lin ks ko=true) (e1:L.sub ks=some Li) (e2:Li.length=Lin.length) (e3:∀(i:Nat) o p,Lin[i]?=some o->Li[i]?=some p->dW F L o p)
  (h7:∀v Mo,R Mo v->Wf v->(∀o∈Mo,o.Wf)->ko.length=Mo.length/\K (((M.aa7 ks).kills (rowsOf M ks)).puts ko (Mo.map (TO.aa8 (C.ren (bF ko))))) (fQ (rowsOf M ks) τ) (v.ren (bF ko)).slt) :
  ∀v F' Lo,F.le F'->iN Li R F' Lo v->ko.length=Lo.length/\(∀k g t cs,k∈ks->L.get k=some (.box g t cs)->∃cs',Loc.get ((L.aa7 ks).puts ko Lo) k=some (.box g t cs')) /\
   ∃M' ak c,TS G F' ((L.aa7 ks).puts ko Lo) ρ M' ak/\bh F' ((L.aa7 ks).puts ko Lo) c (.v v)/\K M' ak c:=by
 have hn:=dS h2;have l:=dS h3;have ay:∀k,k∈ko->k∈ks\/L.get k=none:=fun k n=>(sV h4 k n).imp id fun e=>dm ht.tl e;have az:=fE e1;rintro v F' Lo hF ⟨Mo,c,q1,q2,q3,q4,q5⟩;have av:∀o∈Mo,o.Wf:=by
  intro o y;obtain⟨i,hi⟩:=adh.1 y;have d:i<Lo.length:=by rw[<-q1];exact(acP.1 hi).1
  have:=q2 (1000+i);rw[dh,bE,o6 (by omega),o6 (by omega),show 1000+i-1000=i by omega,hi,w8 d] at this;exact dW.wf this
 obtain⟨k1,k2⟩:=h7 c Mo q5 q3.wf av;have a:ko.length=Lo.length:=by rw[k1,q1]
 have b:∀k g t cs,k∈ks->L.get k=some (.box g t cs)->∃cs',Loc.get ((L.aa7 ks).puts ko Lo) k=some (.box g t cs'):=by
  intro k g t cs n hg;obtain⟨i,hi⟩:=adh.1 n;have s:Li[i]?=some (.box g t cs):=by rw[<-az.2 i k hi];exact hg
  have d:i<Lin.length:=by rw[<-e2];exact(acP.1 s).1
  have hr:=e3 i _ _ (w8 d) s;cases hL:Lin[i] with
  | row=>rw[hL] at hr;exact hr.elim
  | box t' cs' =>
   obtain⟨k',f,b2⟩:=zJ h5 i t' cs' (by rw[w8 d,hL]);rw[hi] at f;injection f with f
   subst f;obtain⟨u,q⟩:=q4 i g t cs s;exact⟨u,dL l a b2 q⟩
  | map es =>
   obtain⟨k',f,b2⟩:=fI h5 i (.map es) (by rw[w8 d,hL]) rfl;rw[hi] at f;injection f with f
   subst f;obtain⟨u,q⟩:=q4 i g t cs s;exact⟨u,dL l a b2 q⟩
  | win t0 p0 c0 q0 =>
   obtain⟨k',f,b2⟩:=fI h5 i (.win t0 p0 c0 q0) (by rw[w8 d,hL]) rfl;rw[hi] at f;injection f with f
   subst f;obtain⟨u,q⟩:=q4 i g t cs s;exact⟨u,dL l a b2 q⟩
 refine⟨a,b,?_⟩;generalize w:(L.aa7 ks).puts ko Lo=L' at b
 -- what was there before
 have aa:∀k,k∉ks->∀o,L.get k=some o->L'.get k=some o:=by
  intro k n o y;rw[<-w];rcases eH ko Lo (L.aa7 ks) k l a with⟨x,a2⟩ | ⟨i,x,a2,a3⟩
  ·rw[x,gH,s8 n];exact y
  ·rcases ay k (acS x) with e | e
   ·exact s6 e n
   ·rw[y] at e;cases e
 have ab:Ext (om (rowsOf M ks) L) L':=by
  intro k o y;obtain⟨g1,g2⟩:=qx y
  by_cases n:k∈ks
  ·obtain⟨g,t,cs,rfl⟩:=zK ht.tl n g1 g2;obtain⟨cs',h⟩:=b k g t cs n g1;exact⟨_,h,rfl,rfl⟩
  ·exact⟨o,aa k n o g1,Own.abf o⟩
 have r:∀j m,bF ko j=some m->∀o,(inp Lo).get j=some o->L'.get m=some o:=by
  intro j m hj o y;obtain⟨x,a2⟩:=nS hj;rw[bE,o6 x] at y;rw[<-w];exact dL l a a2 y
 refine⟨_,_,_,⟨fun k=>?_,fun j=>?_,fun k g t e=>?_,ht.glob.mono hF⟩,mq (q3.ren r),k2⟩
 ·rcases nR ko (Mo.map (TO.aa8 (C.ren (bF ko)))) ((M.aa7 ks).kills (rowsOf M ks)) k l (by simp[k1]) with⟨x,a2⟩ | ⟨i,x,a2,a3⟩
  ·have ac:L'.get k=(L.aa7 ks).get k:=by
    rw[<-w];rcases eH ko Lo (L.aa7 ks) k l a with⟨f,_⟩ | ⟨i,f,_,_⟩
    ·exact f
    ·exact s6 (acS f) a2
   rw[x,ac,zH,pU,gH];split
   ·trivial
   ·rcases fA (ht.tl k) with⟨c1,c2⟩ | ⟨o,p,c1,c2,hr⟩
    ·rw[c1,c2];trivial
    ·rw[c1,c2];exact(hr.kills (rowsOf M ks)).ext hF ab
  ·rw[a2,adp];have d:i<Mo.length:=by simpa using a3
   have z:i<Lo.length:=by omega
   have ac:L'.get k=some (Lo[i]):=by rw[<-w];exact dL l a x (w8 z)
   rw[ac,w8 d];have:=q2 (1000+i);rw[dh,bE,o6 (by omega),o6 (by omega),show 1000+i-1000=i by omega,w8 d,w8 z] at this;exact dW.ren r this
 ·rw[zI];exact((ht.env j).kills (rowsOf M ks)).ext hF ab
 ·obtain⟨cs,h⟩:=ht.kp k g t e
  by_cases n:k∈ks
  ·exact b k g t cs n h
  ·exact⟨cs,aa k n _ h⟩
theorem zL {PS:qX}{Pp:Value->Prop}{f:Nat}{args:List C}{vs:List Value}{ks ko:List Nat}{Lin:List TO}{R:List TO->C->Prop}{K:TL->bg->C->Prop}(a:TS G F L ρ M τ) (ha:aK F L args vs)
  (h1:M.sub ks=some Lin) (w:bR ks=true) (z:bR ko=true) (y:lN M ks ko=true) (h5:aY Lin ks ko=true) (r:mF M ks PS.hb=true)
  (h6:CallsTX P f (args.map fun c=>c.abk.ren (cn ks 1000)) (Lin.map (TO.aa8 (C.ren (cn ks 1000)))) R Pp) (n:∀v,Pp v->PS.ps v) (p:PS.st=none)
  (h7:∀v Mo,R Mo v->Wf v->(∀o∈Mo,o.Wf)->ko.length=Mo.length/\K (((M.aa7 ks).kills (rowsOf M ks)).puts ko (Mo.map (TO.aa8 (C.ren (bF ko))))) (fQ (rowsOf M ks) τ) (v.ren (bF ko)).slt) :
  ∃Li,L.sub ks=some Li/\ks.Nodup/\ko.Nodup/\(∀k,k∈ko->k∈ks\/L.get k=none)/\vX P f vs.toArray F Li (iN Li R) Pp/\(∀v F' L',zn ks L L'->Pp v->AP G PS F' L' v) /\
  ∀v F' Lo,F.le F'->iN Li R F' Lo v->ko.length=Lo.length/\(∀k g t cs,k∈ks->L.get k=some (.box g t cs)->∃cs',Loc.get ((L.aa7 ks).puts ko Lo) k=some (.box g t cs')) /\
   ∃M' j c,TS G F' ((L.aa7 ks).puts ko Lo) ρ M' j/\bh F' ((L.aa7 ks).puts ko Lo) c (.v v)/\K M' j c:=by
 obtain⟨Li,d,s,x⟩:=rR a.tl h1;have hn:=dS w;have m:=dS z;have u:∀k,k∈ko->k∈ks\/L.get k=none:=fun k l=>(sV y k l).imp id fun e=>dm a.tl e;have al:=fE d;refine⟨Li,d,hn,m,u,h6.out F Li vs (by simp[s]) (uI a.tl s d x) ?_,fun v F' L' b hv=>⟨fun k g t e=>let⟨cs,h⟩:=a.kp k g t e;let⟨cs',h',_⟩:=b k g t cs h;⟨cs',h'⟩,n v hv,LD a.tl r fun k g t cs l e=>let⟨cs',h',q⟩:=b k g t cs e;by rw[h',q l],LC.no p⟩,?_⟩
 ·exact ha.map fun c _ v hc=>(ld hc).ren (oN d)
 ·exact yq a w z y h5 d s x h7
theorem BW {PS:qX}{Pp:Value->Prop}{f:Nat}{args:List C}{vs:List Value}{ks ko:List Nat}{Lin:List TO}{R:List TO->C->Prop}{K:TL->bg->C->Prop}(k:TS G F L ρ M τ) (t:aK F L args vs)
  (x:M.sub ks=some Lin) (h:bR ks=true) (z:bR ko=true) (s:lN M ks ko=true) (u:aY Lin ks ko=true) (e:mF M ks PS.hb=true)
  (y:CallsTX P f (args.map fun c=>c.abk.ren (cn ks 1000)) (Lin.map (TO.aa8 (C.ren (cn ks 1000)))) R Pp) (b:∀v,Pp v->PS.ps v) (d:PS.st=none)
  (l:∀v Mo,R Mo v->Wf v->(∀o∈Mo,o.Wf)->ko.length=Mo.length/\K (((M.aa7 ks).kills (rowsOf M ks)).puts ko (Mo.map (TO.aa8 (C.ren (bF ko))))) (fQ (rowsOf M ks) τ) (v.ren (bF ko)).slt) :
  ga P (AP G PS) f vs F L (fun F' L' v=>∃M' a c,TS G F' L' ρ M' a/\bh F' L' c (.v v)/\K M' a c):=by
 obtain⟨Li,w,r,n,j,q5,m,p⟩:=zL k t x h z s u e y b d l;exact⟨ks,ko,Li,iN Li R,fun _ _=>Pp,w,r,n,j,q5.toS,fun v F' Lo _ _ hb q=>m v F' _ hb q,p⟩
theorem jG:∀{Lin:List TO}{ks ko:List Nat},aY Lin ks ko=true->aY Lin ks ks=true
 | [],ks,ko,h=>by simp only[aY]
 | .box t cs::l,[],ko,h=>by simp only[aY] at h;cases h
 | .map es::l,[],ko,h=>by simp only[aY] at h;cases h
 | .win ..::l,[],ko,h=>by simp only[aY] at h;cases h
 | .row t sz els::l,[],ko,h=>by simp only[aY] at h;cases h
 | .box t cs::l,k::ks,[],h=>by simp only[aY] at h;cases h
 | .map es::l,k::ks,[],h=>by simp only[aY] at h;cases h
 | .win ..::l,k::ks,[],h=>by simp only[aY] at h;cases h
 | .box t cs::l,k::ks,a::ko,h=>by
  have e:Nat.beq k k=true:=by simp
  simp only[aY] at h ⊢;split at h
  ·rw[e];exact jG h
  ·cases h
 | .map es::l,k::ks,a::ko,h=>by
  have e:Nat.beq k k=true:=by simp
  simp only[aY] at h ⊢;split at h
  ·rw[e];exact jG h
  ·cases h
 | .win ..::l,k::ks,a::ko,h=>by
  have e:Nat.beq k k=true:=by simp
  simp only[aY] at h ⊢;split at h
  ·rw[e];exact jG h
  ·cases h
 | .row t sz els::l,k::ks,[],h=>by
  simp only[aY] at h ⊢;exact jG h
 | .row t sz els::l,k::ks,a::ko,h=>by
  simp only[aY] at h ⊢;exact jG h
theorem Gs {PS:qX}{Pp:Value->Prop}{f:Nat}{args:List C}{vs:List Value}{ks:List Nat}{Lin:List TO}{R:List TO->C->Prop}{K:TL->bg->C->Prop}(x:TS G F L ρ M τ) (ha:aK F L args vs)
  (h1:M.sub ks=some Lin) (h2:bR ks=true) (h6:pQ P f (args.map fun c=>c.abk.ren (cn ks 1000)) (Lin.map (TO.aa8 (C.ren (cn ks 1000)))) R Pp) (aw:∀v,Pp v->PS.ps v) (aE:PS.st=none) (az:mF M ks PS.hb=true)
  (h7:∀v Mo,R Mo v->Wf v->(∀o∈Mo,o.Wf)->ks.length=Mo.length/\K ((M.aa7 ks).puts ks (Mo.map (TO.aa8 (C.ren (bF ks))))) τ (v.ren (bF ks)).slt) :
  ga P (AP G PS) f vs F L (fun F' L' v=>∃M' ag c,TS G F' L' ρ M' ag/\bh F' L' c (.v v)/\K M' ag c):=by
 obtain⟨Li,e1,e2,e3⟩:=rR x.tl h1;have s:=dS h2;have ak:=fE e1;refine⟨ks,ks,Li,_,fun _ _=>Pp,e1,s,s,fun k d=>.inl d,(h6.out F Li vs (by simp[e2]) (uI x.tl e2 e1 e3) ?_).toS,fun v F' Lo _ _ ae hv=>⟨fun k g t e=>let⟨cs,h⟩:=x.kp k g t e;let⟨cs',h',_⟩:=ae k g t cs h;⟨cs',h'⟩,aw v hv,LD x.tl az fun k g t cs d e=>let⟨cs',h',q⟩:=ae k g t cs e;by rw[h',q d],LC.no aE⟩,?_⟩
 ·exact ha.map fun c _ v hc=>(ld hc).ren (oN e1)
 ·rintro v F' Lo hF ⟨⟨Mo,c,q1,q2,q3,q4,q5⟩,bz,an⟩;have av:∀o∈Mo,o.Wf:=by
   intro o u;obtain⟨i,hi⟩:=adh.1 u;have w:i<Lo.length:=by rw[<-q1];exact(acP.1 hi).1
   have:=q2 (1000+i);rw[dh,bE,o6 (by omega),o6 (by omega),show 1000+i-1000=i by omega,hi,w8 w] at this;exact dW.wf this
  obtain⟨k1,k2⟩:=h7 c Mo q5 q3.wf av;have a:ks.length=Lo.length:=by rw[k1,q1]
  have b:∀k g t cs,k∈ks->L.get k=some (.box g t cs)->∃cs',Loc.get ((L.aa7 ks).puts ks Lo) k=some (.box g t cs'):=by
   intro k g t cs d hg;obtain⟨i,hi⟩:=adh.1 d;have ad:Li[i]?=some (.box g t cs):=by rw[<-ak.2 i k hi];exact hg
   obtain⟨bb,am⟩:=q4 i g t cs ad;exact⟨bb,dL s a hi am⟩
  refine⟨a,b,?_⟩;generalize n:(L.aa7 ks).puts ks Lo=L' at b;have z:∀k,k∉ks->∀o,L.get k=some o->L'.get k=some o:=by
   intro k d o u;rw[<-n];rcases eH ks Lo (L.aa7 ks) k s a with⟨r,a2⟩ | ⟨i,r,a2,a3⟩
   ·rw[r,gH,s8 d];exact u
   ·exact s6 (acS r) d
  have aa:Ext L L':=by
   intro k o u
   by_cases d:k∈ks
   ·obtain⟨i,hi⟩:=adh.1 d;have ad:Li[i]?=some o:=by rw[<-ak.2 i k hi];exact u
    obtain⟨o',h1,h2⟩:=an i o ad;exact⟨o',by rw[<-n];exact dL s a hi h1,h2⟩
   ·exact⟨o,z k d o u,Own.abf o⟩
  have l:∀j m,bF ks j=some m->∀o,(inp Lo).get j=some o->L'.get m=some o:=by
   intro j m hj o u;obtain⟨r,a2⟩:=nS hj;rw[bE,o6 r] at u;rw[<-n];exact dL s a a2 u
  refine⟨_,_,_,⟨fun k=>?_,fun j=>(x.env j).ext hF aa,fun k g t e=>?_,x.glob.mono hF⟩,mq (q3.ren l),k2⟩
  ·rcases nR ks (Mo.map (TO.aa8 (C.ren (bF ks)))) (M.aa7 ks) k s (by simp[k1]) with⟨r,a2⟩ | ⟨i,r,a2,a3⟩
   ·have ab:L'.get k=(L.aa7 ks).get k:=by
     rw[<-n];rcases eH ks Lo (L.aa7 ks) k s a with⟨b1,_⟩ | ⟨i,b1,_,_⟩
     ·exact b1
     ·exact s6 (acS b1) a2
    rw[r,ab,pU,gH];split
    ·trivial
    ·rcases fA (x.tl k) with⟨c1,c2⟩ | ⟨o,p,c1,c2,hr⟩
     ·rw[c1,c2];trivial
     ·rw[c1,c2];exact hr.ext hF aa
   ·rw[a2,adp];have w:i<Mo.length:=by simpa using a3
    have y:i<Lo.length:=by omega
    have ab:L'.get k=some (Lo[i]):=by rw[<-n];exact dL s a r (w8 y)
    rw[ab,w8 w];have:=q2 (1000+i);rw[dh,bE,o6 (by omega),o6 (by omega),show 1000+i-1000=i by omega,w8 w,w8 y] at this;exact dW.ren l this
  ·obtain⟨cs,h⟩:=x.kp k g t e
   by_cases d:k∈ks
   ·exact b k g t cs d h
   ·exact⟨cs,z k d _ h⟩
theorem BX {ps:Value->Prop}{hb:List (Nat×Nat)}{st:TL->Value->Prop}{PS:qX}{Pp:List TO->Value->Prop}{f:Nat}{args:List C}{vs:List Value}{ks ko:List Nat}{Lin:List TO}{R:List TO->C->Prop}{K:TL->bg->C->Prop}(l:TS G F L ρ M τ) (ha:aK F L args vs)
  (z:PS=⟨ps,hb,some st⟩) (h1:M.sub ks=some Lin) (j:bR ks=true) (h3:bR ko=true) (h4:lN M ks ko=true) (h5:aY Lin ks ko=true) (ae:mF M ks hb=true)
  (h6:CallsTS P f (args.map fun c=>c.abk.ren (cn ks 1000)) (Lin.map (TO.aa8 (C.ren (cn ks 1000)))) R Pp)
  (ab:∀v Mo,Pp Mo v->(∀o∈Mo,o.Wf)->ks.length=Mo.length->ps v/\st (((M.aa7 ks).kills (rowsOf M ks)).puts ks (Mo.map (TO.aa8 (C.ren (bF ks))))) v)
  (h7:∀v Mo,R Mo v->Wf v->(∀o∈Mo,o.Wf)->ko.length=Mo.length/\K (((M.aa7 ks).kills (rowsOf M ks)).puts ko (Mo.map (TO.aa8 (C.ren (bF ko))))) (fQ (rowsOf M ks) τ) (v.ren (bF ko)).slt) :
  ga P (AP G PS) f vs F L (fun F' L' v=>∃M' d c,TS G F' L' ρ M' d/\bh F' L' c (.v v)/\K M' d c):=by
 subst z;obtain⟨Li,m,x,e3⟩:=rR l.tl h1;have hn:=dS j;have aa:=dS h3;have al:∀k,k∈ko->k∈ks\/L.get k=none:=fun k n=>(sV h4 k n).imp id fun e=>dm l.tl e;obtain⟨ag,ak⟩:=fE m;refine⟨ks,ko,Li,iN Li R,_,m,hn,aa,al,h6.out F Li vs (by simp[x]) (uI l.tl x m e3) (ha.map fun c _ v hc=>(ld hc).ren (oN m)),?_,yq l j h3 h4 h5 m x e3 h7⟩;rintro v F' Lo hF p r ⟨Mo,q1,q2,q3⟩;have y:∀o∈Mo,o.Wf:=by
  intro o ho;obtain⟨i,hi⟩:=adh.1 ho;have a:i<Lo.length:=by rw[<-q1];exact(acP.1 hi).1
  have:=q2 (1000+i);rw[dh,bE,o6 (by omega),o6 (by omega),show 1000+i-1000=i by omega,hi,w8 a] at this;exact dW.wf this
 obtain⟨p1,p2⟩:=ab v Mo q3 y (by omega);have w:iN Li (fun Mo' _=>Mo'=Mo) F' Lo undef:=by
  refine⟨Mo,.any,q1,q2,by simp only[Rel],fun i g t cs e=>?_,rfl⟩;have a:i<ks.length:=by rw[<-ag];exact(acP.1 e).1
  have u:=ak i _ (w8 a);rw[e] at u;obtain⟨cs',h,_⟩:=r _ g t cs u;have j:Loc.get ((L.aa7 ks).puts ks Lo) ks[i]=Lo[i]?:=by
   have b:i<Lo.length:=by omega
   rw[w8 b];exact dL hn p (w8 a) (w8 b)
  exact⟨cs',by rw[<-j];exact h⟩
 have ad:aY Lin ks ks=true:=jG h5;obtain⟨_,_,M',d,c,t1,_,rfl⟩:=yq (K:=fun M' _ _=>M'=((M.aa7 ks).kills (rowsOf M ks)).puts ks (Mo.map (TO.aa8 (C.ren (bF ks))))) l j j (sW fun k n=>n) ad m x e3
  (fun v' Mo' e _ _=>by subst e;exact⟨by omega,rfl⟩) undef F' Lo hF w
 exact⟨t1.kp,p1,LD l.tl ae fun k g t cs n e=>(let⟨cs',h',q⟩:=r k g t cs e;by rw[h',q n]),fun s e=>by injection e with e;subst e;exact⟨_,BV t1.tl,p2⟩⟩
theorem TS.same {L2:Loc}(a:TS G F L ρ M τ) (b:L.sameAs L2):TS G F L2 ρ M τ:=by
 have f:Ext L L2:=fun k o e=>⟨o,by rw[b k];exact e,Own.abf o⟩;refine⟨fun k=>?_,fun j=>(a.env j).ext (aJ.le_refl F) f,fun k g t e=>?_,a.glob⟩
 ·rcases fA (a.tl k) with⟨d,c⟩ | ⟨o,p,d,c,l⟩
  ·rw[b k,d,c];trivial
  ·rw[b k,d,c];exact l.ext (aJ.le_refl F) f
 ·obtain⟨cs,h⟩:=a.kp k g t e;exact⟨cs,by rw[b k];exact h⟩
theorem zM:∀{ks a:List Nat},wY ks a=true->∀k∈ks,k∉a
 | [],a,_,k,h=>by cases h
 | j::ks,a,h,k,b=>by
  simp only[wY] at h;split at h
  ·cases h
  ·rename_i c;rcases acQ.1 b with rfl | b
   ·intro d;rw[dQ.2 d] at c;cases c
   ·exact zM h k b
theorem qA {PS:qX}{s:List Nat}{f:Nat}{args:List C}{vs:List Value}{K:TL->bg->C->Prop}(x:TS G F L ρ M τ) (ha:aK F L args vs) (h:nH P PS s f args M τ K) (j:PS.st=none) :
  CallXDPt P (AP G PS) s f vs F L (fun F' L' v=>∃M' b c,TS G F' L' ρ M' b/\bh F' L' c (.v v)/\K M' b c):=by
 obtain⟨ks,Lin,R,Pp,h1,n,h0,h5,m,h6,d,y⟩:=h;have h4:lN M ks ks=true:=sW (fun k u=>u);obtain⟨Li,q1,p,q3,q4,q5,z,q7⟩:=zL x ha h1 n n h4 h5 m h6 d j y;refine⟨ks,Li,iN Li R,fun _ _=>Pp,q1,p,zM h0,q5.toS,fun v F' L' Lo _ _ l hp=>z v F' L' l hp,fun v F' Lo hF r=>?_⟩;obtain⟨q,a2,M',b,c,a3,a4,a5⟩:=q7 v F' Lo hF r;have a:=nQ (L:=L) p q;refine⟨q,fun i g t cs e=>?_,fun _=>⟨M',b,c,a3.same a,a4.ext (aJ.le_refl F') fun k o e=>⟨o,by rw[a k];exact e,Own.abf o⟩,a5⟩⟩;obtain⟨Mo,c',_,_,_,w,_⟩:=r;exact w i g t cs e
theorem rS {ps:Value->Prop}{hb:List (Nat×Nat)}{st:TL->Value->Prop}{PS:qX}{fb:List Nat}{f:Nat}{args:List C}{vs:List Value}{K:TL->bg->C->Prop}(w:TS G F L ρ M τ) (ha:aK F L args vs) (ac:PS=⟨ps,hb,some st⟩) (h:yh P ps hb st fb f args M τ K) :
  CallXDPt P (AP G PS) fb f vs F L (fun F' L' v=>∃M' d c,TS G F' L' ρ M' d/\bh F' L' c (.v v)/\K M' d c):=by
 subst ac;obtain⟨ks,Lin,R,Pp,h1,h2,h0,h5,ak,h6,ad,h7⟩:=h;have h4:lN M ks ks=true:=sW (fun k b=>b);obtain⟨Li,x,e2,e3⟩:=rR w.tl h1;have hn:=dS h2;obtain⟨bk,bo⟩:=fE x;refine⟨ks,Li,iN Li R,_,x,hn,zM h0,h6.out F Li vs (by simp[e2]) (uI w.tl e2 x e3) (ha.map fun c _ v hc=>(ld hc).ren (oN x)),?_,fun v F' Lo hF hR=>?_⟩
 ·rintro v F' L' Lo hF aa u ⟨Mo,q1,q2,q3⟩;have ab:∀o∈Mo,o.Wf:=by
   intro o z;obtain⟨i,hi⟩:=adh.1 z;have l:i<Lo.length:=by rw[<-q1];exact(acP.1 hi).1
   have:=q2 (1000+i);rw[dh,bE,o6 (by omega),o6 (by omega),show 1000+i-1000=i by omega,hi,w8 l] at this;exact dW.wf this
  obtain⟨y1,y2⟩:=fE aa;obtain⟨p1,p2⟩:=ad v Mo q3 ab (by omega);have r:∀j m,bF ks j=some m->∀o,(inp Lo).get j=some o->L'.get m=some o:=by
   intro j m hj o z;obtain⟨n,y⟩:=nS hj;rw[bE,o6 n] at z;rw[y2 _ _ y];exact z
  refine⟨fun k g t e=>let⟨cs,h⟩:=w.kp k g t e;let⟨cs',h',_⟩:=u k g t cs h;⟨cs',h'⟩,p1,LD w.tl ak fun k g t cs b e=>(let⟨cs',h',q⟩:=u k g t cs e;by rw[h',q b]),fun s e=>?_⟩;injection e with e
  subst e;refine⟨_,fun k o b=>?_,p2⟩;rcases nR ks (Mo.map (TO.aa8 (C.ren (bF ks)))) [] k hn (by simp;omega) with⟨n,y⟩ | ⟨i,n,y,a3⟩
  ·rw[n] at b;cases b
  ·rw[y,adp] at b;have l:i<Mo.length:=by simpa using a3
   have p:i<Lo.length:=by omega
   rw[w8 l] at b;injection b with b
   subst b;refine⟨Lo[i],by rw[y2 _ _ n];exact w8 p,?_⟩;have:=q2 (1000+i);rw[dh,bE,o6 (by omega),o6 (by omega),show 1000+i-1000=i by omega,w8 l,w8 p] at this;exact dW.ren r this
 ·obtain⟨n,y,M',d,c,a3,a4,a5⟩:=yq w h2 h2 h4 h5 x e2 e3 h7 v F' Lo hF hR;have a:=nQ (L:=L) hn n;refine⟨n,fun i g t cs e=>?_,fun _=>⟨M',d,c,a3.same a,a4.ext (aJ.le_refl F') fun k o e=>⟨o,by rw[a k];exact e,Own.abf o⟩,a5⟩⟩;obtain⟨Mo,c',_,_,_,b4,_⟩:=hR;exact b4 i g t cs e
end
section
variable {P:Program}{G:Nat->Option (Nat×TypeId)}{F:aJ}{L:Loc}{ρ:Env}{M:TL}{τ:bg}{a:Act}{w:World}
theorem EG {F':aJ}(m:F.le F') {k:Nat}{a:Option Addr}{c:Nat}{t sz:Nat}{els:List (List C)}{xs:List Value}(p:L.get k=some (.row (.slice a els.length c) t sz els.length xs))
  (s:Rel F' (L.del k) (.sl els) (.slice a els.length c)):(∀d v,C.leaf d=true->Rel F L d v->Rel F' (L.del k) (oK k els d) v)/\(∀d sv,C.leaf d=true->bh F L d sv->bh F' (L.del k) (oK k els d) sv):=by
 have l:∀j,j≠k->∀o,L.get j=some o->∃o',(L.del k).get j=some o'/\Own.like o o':=fun j f o x=>⟨o,by rw[Loc.abg,s8 f];exact x,Own.abf o⟩;have b:∀g t cs,L.get k≠some (.box g t cs):=fun g t cs h=>by rw[p] at h;injection h with h;cases h
 constructor
 ·intro d v r h;cases d<;>simp only[C.leaf,acZ] at r
  case rw j =>
   simp only[oK];cases f:Nat.beq j k with
   | true =>
    have:=vz f;subst this;simp only[Rel] at h;obtain⟨u,y,z,q,n',n,rfl,h⟩:=h;rw[p] at h;injection h with h
    injection h with q1 q2 q3 q4 q5
    rw[<-q1];exact s
   | false =>
    have:=lZ b l m (.rw j) v rfl h;simpa only[iA,f] using this
  all_goals
   have:=lZ b l m _ v rfl h;simpa only[iA,oK] using this
 ·intro d sv r h;cases d<;>simp only[C.leaf,acZ] at r
  case rw j =>
   simp only[oK];cases f:Nat.beq j k with
   | true =>
    have:=vz f;subst this;simp only[bh,Rel] at h;obtain⟨v,e,u,y,z,q,n',n,rfl,h⟩:=h;rw[p] at h;injection h with h
    injection h with q1 q2 q3 q4 q5
    rw[<-q1] at e;exact⟨_,e,s⟩
   | false =>
    have:=qq b l m (.rw j) sv rfl h;simpa only[iA,f] using this
  all_goals
   have:=qq b l m _ sv rfl h;simpa only[iA,oK] using this
theorem dW.frz {F':aJ}(b:F.le F') {k:Nat}{els:List (List C)}(f:∀d v,C.leaf d=true->Rel F L d v->Rel F' (L.del k) (oK k els d) v):∀{o:TO}{p:Own},dW F L o p->dW F' (L.del k) (o.aa8 (C.frz k els)) p
 | .box t cs,.box g j vs,r=>⟨r.1,r.2.map fun c _ v h=>Rel.mp f 3 h⟩
 | .row t sz els,.row v j m n xs,r=>⟨r.1,r.2.1,r.2.2.1,r.2.2.2.1,r.2.2.2.2.mono b⟩
 | .box _ _,.row ..,r=>r.elim
 | .row ..,.box ..,r=>r.elim
 | .map _,.row ..,r=>r.elim
 | .map es,.box g j vs,r=>⟨r.1,r.2.mono b⟩
 | .win ..,.row ..,r=>r.elim
 | .win ..,.box ..,⟨q,v1,x,v3,e,s,l,u⟩=>⟨q,v1,x,v3,e,s.mono b,l.map fun c _ v h=>Rel.mp f 3 h,u.mono b⟩
theorem uK {k:Nat}{t sz:Nat}{els:List (List C)}(hs:St F L w) (he:aN L ρ a) (m:TS G F L ρ M τ) (z:M.get k=some (.row t sz els)) :
  ∃F' L',St F' L' w/\aN L' ρ a/\Step F L w F' L' w/\TS G F' L' ρ ((M.del k).aa8 (C.frz k els)) (fun j=>(τ j).frz k els)/\(∀{c v},Rel F L c v->Rel F' L' (c.frz k els) v):=by
 obtain⟨v,xs,s,⟨hm,q,cv,rfl,y⟩,hr⟩:=mZ m.tl z;obtain⟨F',L',g1,g2,g3,f,b,rfl⟩:=pI (KK:=fun F' L'=>F.le F'/\Kz F' (.slice q els.length cv) sz els.length xs/\L'=L.del k) hs he ⟨_,_,_,_,_,s,fun F' f b=>⟨f,b,rfl⟩⟩;have n:Rel F' (L.del k) (.sl els) (.slice q els.length cv):=by
  simp only[Rel];rcases b with⟨d,l,x⟩ | ⟨ad,c2,d,l,x⟩
  ·injection d with q1 q2 q3
   have:els=[]:=List.length_eq_zero_iff.1 q2;subst this;exact⟨q,cv,rfl,by simp,by simp,fun _=>⟨rfl,q3⟩,sz,by simp only[ij]⟩
  ·injection d with q1 q2 q3
   subst q1 q3;exact⟨some ad,cv,rfl,x,hm,fun e=>(by cases e),sz,(hr.mono f).frz l⟩
 obtain⟨u,l2⟩:=EG f s n;refine⟨F',L.del k,g1,g2,g3,⟨fun j=>?_,fun j=>bh.mp u l2 3 (m.env j),fun j g t e=>?_,m.glob.mono f⟩,fun h=>Rel.mp u 3 h⟩
 ·rw[rQ,TL.abg,Loc.abg];split
  ·trivial
  ·rcases fA (m.tl j) with⟨d,l⟩ | ⟨o,p,d,l,r⟩
   ·rw[d,l];trivial
   ·rw[d,l];exact r.frz f u
 ·obtain⟨cs,h⟩:=m.kp j g t e;exact⟨cs,by rw[Loc.abg,s8 (by rintro rfl;rw[s] at h;injection h with h;cases h)];exact h⟩
def zN (k g:Nat):SV->SV
 | .own b off=>match Nat.beq b k with | true=>.v (.pointer (some ⟨g,off,none⟩)) | false=>.own b off
 | .v x=>.v x
 | .el a i=>.el a i
theorem LF {F':aJ}(q:F.le F') {k g:Nat}{t:TypeId}{vs:List Value}{es:List C}(u:L.get k=some (.box g t vs)) (hg:F' g=some (.cells vs.toArray t (0,0))) (z:eP es=true) (y:aK F' [] es vs) :
  (∀d v,C.leaf d=true->Rel F L d v->Rel F' (L.del k) (sP k es d) v)/\(∀d sv,C.leaf d=true->bh F L d sv->bh F' (L.del k) (sP k es d) (zN k g sv)):=by
 have r:∀j,j≠k->∀o,L.get j=some o->∃o',(L.del k).get j=some o'/\Own.like o o':=fun j f o ho=>⟨o,by rw[Loc.abg,s8 f];exact ho,Own.abf o⟩;have p:∀o,O5 F' g o o vs:=fun o=>⟨0,_,t,(0,0),hg,by omega,fun i v hi=>⟨by simpa using hi,sL _⟩⟩;constructor
 ·intro d v hc h;cases d<;>simp only[C.leaf,acZ] at hc<;>simp only[sP]
  case own j off =>
   cases f:Nat.beq j k with
   | true =>
    have:=vz f;subst this;simp only[Rel] at h ⊢;obtain⟨g',t',cs,e,rfl⟩:=h;rw[u] at e;injection e with e
    injection e with e1 e2 e3
    subst e1;exact⟨_,_,vs,rfl,p off,z,y⟩
   | false=>exact bU q (fun s e=>by
     rcases e with⟨off,e⟩ | e | e | ⟨_,_,_,e⟩ | ⟨_,_,e⟩
     ·injection e with e;subst e;exact r j (gF f)
     ·cases e
     ·cases e
     ·cases e
     ·cases e) rfl h
  case ifo m ti j off =>
   cases f:Nat.beq j k with
   | true =>
    have:=vz f;subst this;simp only[Rel] at h;obtain⟨g',t',cs,e,rfl⟩:=h;rw[u] at e;injection e with e
    injection e with e1 e2 e3
    subst e1;cases m with
    | none=>simp only[Rel];exact⟨_,rfl,_,_,vs,rfl,p off,z,y⟩
    | some nm=>simp only[Rel];exact⟨_,rfl,_,rfl,_,_,vs,rfl,p off,z,y⟩
   | false=>exact bU q (fun s e=>by
     rcases e with⟨off,e⟩ | e | e | ⟨_,_,_,e⟩ | ⟨_,_,e⟩
     ·cases e
     ·cases e
     ·cases e
     ·injection e with _ _ e;subst e;exact r j (gF f)
     ·cases e) rfl h
  case rw j =>
   refine bU q (fun s e=>?_) rfl h;rcases e with⟨off,e⟩ | e | e | ⟨_,_,_,e⟩ | ⟨_,_,e⟩
   ·cases e
   ·injection e with e
    subst e;refine r j ?_;rintro rfl;simp only[Rel] at h;obtain⟨a',c',t',ak,n',ae,rfl,h⟩:=h;rw[u] at h;injection h with h
    cases h
   ·cases e
   ·cases e
   ·cases e
  case mpr j =>
   cases f:Nat.beq j k with
   | true=>simp only[Rel]
   | false=>exact bU q (fun s e=>by
     rcases e with⟨off,e⟩ | e | e | ⟨_,_,_,e⟩ | ⟨_,_,e⟩
     ·cases e
     ·cases e
     ·injection e with e;subst e;exact r j (gF f)
     ·cases e
     ·cases e) rfl h
  case ownv=>exact h.elim
  case elr j a b =>
   refine bU q (fun s e=>?_) rfl h;rcases e with⟨off,e⟩ | e | e | ⟨_,_,_,e⟩ | ⟨_,_,e⟩<;>first | cases e;done | skip
   injection e with e
   subst e;refine r j ?_;rintro rfl;simp only[Rel] at h;obtain⟨ad,t,sz,n,c,xs,_,h⟩:=h;rw[u] at h;injection h with h
   cases h
  case slo j a =>
   cases f:Nat.beq j k with
   | true=>simp only[Rel]
   | false=>exact sQ q (r j (gF f)) h
  case slp=>exact h.elim
  all_goals
   exact bU q (fun s e=>by rcases e with⟨off,e⟩ | e | e | ⟨_,_,_,e⟩ | ⟨_,_,e⟩<;>cases e) rfl h
 ·intro d sv hc h;have keep:∀{c:C},(∀j off,c≠.own j off)->c.leaf=true->c≠.any->bh F L c sv->zN k g sv=sv:=by
   intro c an hl al hv;cases sv with
   | v x=>rfl
   | el a i=>rfl
   | own k' off =>
    exfalso;cases c<;>simp only[C.leaf,acZ] at hl<;>first
     | exact an _ _ rfl
     | exact al rfl
     | (obtain⟨v,e,_⟩:=hv;cases e;done)
     | (obtain⟨b,o,j,us,e | e,_⟩:=hv
        ·cases e.1
        ·cases e)
     | (obtain⟨ad,t,sz,n,c,xs,e,_⟩:=hv;cases e;done)
     | (obtain⟨_,_,_,_,_,e,_⟩:=hv;cases e;done)
     | (obtain⟨v,e | ⟨b,o,j,e,_⟩,_⟩:=hv
        ·cases e
        ·cases e)
  cases d<;>simp only[C.leaf,acZ] at hc<;>simp only[sP]
  case any=>trivial
  case own j off =>
   obtain⟨rfl,g',t',cs,e⟩:=h;simp only[zN];cases f:Nat.beq j k with
   | true =>
    have:=vz f;subst this;exact⟨g,off,0,vs,.inl ⟨rfl,rfl⟩,p off,z,y⟩
   | false =>
    obtain⟨o',q1,q2⟩:=r j (gF f) _ e;cases o' with
    | row=>exact q2.elim
    | box g2 t2 ap=>exact⟨rfl,g2,t2,ap,q1⟩
  case ownv j off =>
   rw[keep (c:=.ownv j off) (fun _ _ e=>by cases e) rfl (fun e=>by cases e) h];cases f:Nat.beq j k with
   | true =>
    have:=vz f;subst this;obtain⟨v,ag,l⟩:=h;simp only[Rel] at l;obtain⟨g',t',cs,e,rfl⟩:=l;rw[u] at e;injection e with e
    injection e with e1 e2 e3
    subst e1;rcases ag with rfl | ⟨b,o,i,rfl,e⟩
    ·exact⟨g,off,0,vs,.inl ⟨rfl,rfl⟩,p off,z,y⟩
    ·injection e with e
     injection e with e
     injection e with q1 q2 q3
     subst q1 q2;exact⟨g,o,i,vs,.inr rfl,p (o+i),z,y⟩
   | false =>
    refine dU q (fun s e=>?_) rfl h;rcases e with⟨off,e⟩ | ⟨off,e⟩ | e | ⟨a,b,e⟩ | e | ⟨_,_,_,e⟩<;>first | cases e;done | skip
    injection e with e
    subst e;exact r j (gF f)
  case ifo m ti j off =>
   rw[keep (c:=.ifo m ti j off) (fun _ _ e=>by cases e) rfl (fun e=>by cases e) h];cases f:Nat.beq j k with
   | true =>
    have:=vz f;subst this;obtain⟨v,rfl,l⟩:=h;simp only[Rel] at l;obtain⟨g',t',cs,e,rfl⟩:=l;rw[u] at e;injection e with e
    injection e with e1 e2 e3
    subst e1;cases m with
    | none=>exact⟨_,rfl,by simp only[Rel];exact⟨_,rfl,_,_,vs,rfl,p off,z,y⟩⟩
    | some nm=>exact⟨_,rfl,by simp only[Rel];exact⟨_,rfl,_,rfl,_,_,vs,rfl,p off,z,y⟩⟩
   | false =>
    refine dU q (fun s e=>?_) rfl h;rcases e with⟨off,e⟩ | ⟨off,e⟩ | e | ⟨a,b,e⟩ | e | ⟨_,_,_,e⟩<;>first | cases e;done | skip
    injection e with _ _ e
    subst e;exact r j (gF f)
  case rw j =>
   rw[keep (c:=.rw j) (fun _ _ e=>by cases e) rfl (fun e=>by cases e) h];refine dU q (fun s e=>?_) rfl h;rcases e with⟨off,e⟩ | ⟨off,e⟩ | e | ⟨a,b,e⟩ | e | ⟨_,_,_,e⟩<;>first | cases e;done | skip
   injection e with e
   subst e;refine r j ?_;rintro rfl;obtain⟨v,_,l⟩:=h;simp only[Rel] at l;obtain⟨a',c',t',ak,n',ae,rfl,h⟩:=l;rw[u] at h;injection h with h
   cases h
  case elr j a b =>
   rw[keep (c:=.elr j a b) (fun _ _ e=>by cases e) rfl (fun e=>by cases e) h];refine dU q (fun s e=>?_) rfl h;rcases e with⟨off,e⟩ | ⟨off,e⟩ | e | ⟨a,b,e⟩ | e | ⟨_,_,_,e⟩<;>first | cases e;done | skip
   injection e with e
   subst e;refine r j ?_;rintro rfl;obtain⟨ad,t,sz,n,c,xs,_,h⟩:=h;rw[u] at h;injection h with h
   cases h
  case mpr j =>
   rw[keep (c:=.mpr j) (fun _ _ e=>by cases e) rfl (fun e=>by cases e) h];cases f:Nat.beq j k with
   | true=>trivial
   | false =>
    refine dU q (fun s e=>?_) rfl h;rcases e with⟨off,e⟩ | ⟨off,e⟩ | e | ⟨a,b,e⟩ | e | ⟨_,_,_,e⟩<;>first | cases e;done | skip
    injection e with e
    subst e;exact r j (gF f)
  case slo j a =>
   rw[keep (c:=.slo j a) (fun _ _ e=>by cases e) rfl (fun e=>by cases e) h];cases f:Nat.beq j k with
   | true=>trivial
   | false=>exact vu q (r j (gF f)) h
  case slp=>trivial
  all_goals
   rw[keep (fun _ _ e=>by cases e) rfl (fun e=>by cases e) h];exact dU q (fun s e=>by rcases e with⟨off,e⟩ | ⟨off,e⟩ | e | ⟨a,b,e⟩ | e | ⟨_,_,_,e⟩<;>cases e) rfl h
theorem LG (k g:Nat) (ρ:Env) (j:Nat):yV k g ρ j=zN k g (ρ j):=by
 simp only[yV,zN];cases ρ j<;>rfl
theorem Gt {k:Nat}{t:TypeId}{cs:List C}(hs:St F L w) (he:aN L ρ a) (f:TS G F L ρ M τ) (hk:M.get k=some (.box t cs)) (y:eP cs=true) (q:gJ cs=true) (hG:G k=none) :
  ∃F' L' ρ',St F' L' w/\aN L' ρ' a/\Step F L w F' L' w/\TS G F' L' ρ' ((M.del k).aa8 (C.frb k cs)) (fun j=>(τ j).frb k cs):=by
 obtain⟨g,ty,vs,hL,hr,u⟩:=mY f.tl hk;obtain⟨F',d,hg,g1,g2,g3⟩:=um hs he hL;rw[ja u.2.2] at hg;obtain⟨z,l2⟩:=LF (F:=F) d hL hg y ((jb q hr).mono d);refine⟨F',L.del k,_,g1,g2,g3,⟨fun j=>?_,fun j=>?_,fun j g t e=>?_,f.glob.mono d⟩⟩
 ·rw[rQ,TL.abg,Loc.abg];split
  ·trivial
  ·rcases fA (f.tl j) with⟨r,s⟩ | ⟨o,p,r,s,b⟩
   ·rw[r,s];trivial
   ·rw[r,s];cases o with
    | row t sz els =>
     cases p with
     | box=>exact b.elim
     | row v t' ae n xs=>exact⟨b.1,b.2.1,b.2.2.1,b.2.2.2.1,b.2.2.2.2.mono d⟩
    | box t cs =>
     cases p with
     | row=>exact b.elim
     | box g t' us=>exact⟨b.1,b.2.map fun c _ v h=>Rel.mp z 3 h⟩
    | map es =>
     cases p with
     | row=>exact b.elim
     | box g t' us=>exact⟨b.1,b.2.mono d⟩
    | win t pre cs post =>
     cases p with
     | row=>exact b.elim
     | box g t' us =>
      obtain⟨r1,v1,v2,v3,e,y,q,h3⟩:=b;exact⟨r1,v1,v2,v3,e,y.mono d,q.map fun c _ v h=>Rel.mp z 3 h,h3.mono d⟩
 ·rw[LG];have m:=f.env j;cases l:(τ j).leaf with
  | true =>
   have e:(τ j).frb k cs=sP k cs (τ j):=ye l;simp only[e];exact l2 _ _ l m
  | false =>
   generalize ρ j=sv at m;generalize τ j=c at l m;have h':∃v,sv=.v v/\Rel F L c v:=by
    cases c<;>first | exact m | cases l
   obtain⟨v,rfl,hv⟩:=h';have x:Rel F' (L.del k) (c.frb k cs) v:=Rel.mp z 3 hv;cases c<;>first | exact⟨v,rfl,x⟩ | cases l
 ·obtain⟨cs,h⟩:=f.kp j g t e;exact⟨cs,by rw[Loc.abg,s8 (by rintro rfl;rw[hG] at e;cases e)];exact h⟩
theorem qB:∀{o:List Nat}{F:aJ}{L:Loc}{M:TL}{τ:bg}{args:List C}{vs:List Value}{K:TL->bg->List C->Prop},St F L w->aN L ρ a->TS G F L ρ M τ->aK F L args vs->xN o M τ args K ->
  ∃F' L' M' e b,St F' L' w/\aN L' ρ a/\Step F L w F' L' w/\TS G F' L' ρ M' e/\aK F' L' b vs/\K M' e b
 | [],F,L,M,τ,args,vs,K,m,n,f,l,h=>⟨F,L,M,τ,args,m,n,Step.refl _ _ _,f,l,h⟩
 | k::o,F,L,M,τ,args,vs,K,m,n,f,l,h=>by
  simp only[xN] at h;split at h
  case h_2=>exact h.elim
  rename_i t sz els q;obtain⟨F1,L1,x,u,g3,r,g5⟩:=uK m n f q;obtain⟨F2,L2,M2,j,d,k1,p,k3,y,z,s⟩:=qB x u r (l.map fun c _ v hc=>g5 hc) h;exact⟨F2,L2,M2,j,d,k1,p,g3.trans k3,y,z,s⟩
def xh (L:Loc):TL->Loc
 | []=>[]
 | (k,o)::l=>(k,match L.get k with
  | some p=>p
  | none=>match o with
   | .row t sz _=>.row (.slice none 0 0) t sz 0 []
   | .box _ _=>.row (.slice none 0 0) 0 0 0 []
   | .map _=>.row (.slice none 0 0) 0 0 0 []
   | .win _ _ _ _=>.row (.slice none 0 0) 0 0 0 [])::xh L l
theorem lm:∀(M1:TL) (k:Nat),(xh L M1).get k=match M1.get k with
  | some o=>some (match L.get k with | some p=>p | none=>match o with | .row t sz _=>.row (.slice none 0 0) t sz 0 [] | .box _ _=>.row (.slice none 0 0) 0 0 0 [] | .map _=>.row (.slice none 0 0) 0 0 0 [] | .win _ _ _ _=>.row (.slice none 0 0) 0 0 0 [])
  | none=>none
 | [],k=>rfl
 | (j,o)::l,k=>by
  simp only[xh,Loc.get,TL.get];cases h:Nat.beq j k with
  | true=>have:=vz h;subst this;rfl
  | false=>exact lm l k
theorem EH:∀{l:TL}{M1:TL},gives M M1 l->∀{k o},l.get k=some o->(∃p,M.get k=some p/\Yf M M1 p o)\/(M.get k=none/\∃t sz,o=.row t sz [])
 | [],M1,h,k,o,e=>by cases e
 | (j,p)::l,M1,h,k,o,e=>by
  simp only[gives] at h;simp only[TL.get] at e;split at e
  ·rename_i b;have:=vz b;subst this;injection e with e
   subst e;exact h.1
  ·exact EH h.2 e
theorem wA (c:ep F L M) {M1:TL}:∀{l:TL},gives M M1 l->L.gives (xh L l)
 | [],h=>trivial
 | (j,p)::l,h=>by
  simp only[gives] at h;refine⟨?_,wA c h.2⟩;rcases h.1 with⟨q,b,m⟩ | ⟨b,t,sz,rfl⟩
  ·rcases fA (c j) with⟨e,d⟩ | ⟨o,k,e,d,f⟩
   ·rw[e] at b;cases b
   ·simp only[d];exact .inl trivial
  ·have:=dm c b;simp only[this];exact .inr ⟨trivial,t,sz,rfl⟩
theorem rT {L':Loc}{M1:TL}(y:∀k o,M1.get k≠none->L.get k=some o->L'.get k=some o):∀(n:Nat) {c:C}{v:Value},gK M1 n c=true->Rel F L c v->Rel F L' c v:=by
 have f:∀{c:C}{v:Value},c.leaf=true->nG M1 c=true->Rel F L c v->Rel F L' c v:=by
  intro c v l b h
  by_cases p:∃k d,c=.slo k d
  ·obtain⟨k,d,rfl⟩:=p;refine sQ (aJ.le_refl F) (fun o s=>⟨o,y k o ?_ s,Own.abf o⟩) h;simp only[nG] at b;intro e;rw[e] at b;cases b
  refine bU (aJ.le_refl F) (fun k e o s=>⟨o,y k o ?_ s,Own.abf o⟩) l h (fun k d e=>p ⟨k,d,e⟩);rcases e with⟨off,rfl⟩ | rfl | rfl | ⟨m,t,off,rfl⟩ | ⟨j,off,rfl⟩
  ·simp only[nG] at b;intro e;rw[e] at b;cases b
  ·simp only[nG] at b;intro e;rw[e] at b;cases b
  ·simp only[nG] at b;intro e;rw[e] at b;cases b
  ·simp only[nG] at b;intro e;rw[e] at b;cases b
  ·simp only[nG,acZ] at b
 intro n
 induction n with
 | zero =>
  intro c v b h;cases l:c.leaf
  ·cases c<;>simp only[C.leaf,Bool.true_eq_false] at l<;>simp only[gK,acZ] at b
  ·refine f l ?_ h;cases c<;>simp only[C.leaf,acZ] at l<;>simpa only[gK] using b
 | succ n ih =>
  intro c v b h;have all:∀{cs:List C}{vs:List Value},cs.all (gK M1 n)=true->aK F L cs vs->aK F L' cs vs:=by
   intro cs vs r q;have:=q.map (g:=id) (F':=F) (L':=L') (fun c l v z=>ih (ac5.1 r c l) z);simpa using this
  cases l:c.leaf
  ·cases c<;>simp only[C.leaf,Bool.true_eq_false] at l<;>simp only[gK,acR] at b<;>simp only[Rel] at h ⊢
   ·obtain⟨u,x,r,q,h3⟩:=h;exact⟨u,x,r,all b.1 q,all b.2 h3⟩
   ·obtain⟨vs,r,q⟩:=h;exact⟨vs,r,all b q⟩
   ·obtain⟨vs,r,q⟩:=h;exact⟨vs,r,all b q⟩
  ·refine f l ?_ h;cases c<;>simp only[C.leaf,acZ] at l<;>simpa only[gK] using b
theorem sZ (m:ep F L M) {M1:TL}{c j:C}{v:Value}(h:Lb M M1 c j) (b:Rel F L c v):Rel F (xh L M1) j v:=by
 rcases h with rfl | ⟨rfl,l⟩ | ⟨rfl,rfl⟩ | ⟨rfl,k,t,sz,rfl,f,d⟩ | ⟨els,rfl,rfl⟩
 ·simp only[Rel]
 ·refine rT (fun k o f d=>?_) 3 l b;rw[lm];cases e:M1.get k with
  | none=>exact s6 e f
  | some q=>simp only[d]
 ·exact vA (c:=.nils) (by simpa only[Rel] using b)
 ·simp only[Rel] at b ⊢;subst b;refine⟨none,0,t,sz,0,[],rfl,?_⟩;rw[lm,d];simp only[dm m f]
 ·simpa only[Rel] using wq b
theorem EI (j:ep F L M) {M1:TL}:∀{cs cs':List C}{vs:List Value},Lc M M1 cs cs'->aK F L cs vs->aK F (xh L M1) cs' vs
 | [],cs',vs,h,b=>by simp only[Lc] at h;subst h;simpa only[aK] using b
 | c::cs,cs',vs,h,b=>by
  simp only[Lc] at h;obtain⟨n,m,rfl,k,l⟩:=h;simp only[aK] at b ⊢;obtain⟨v,d,rfl,f,e⟩:=b;exact⟨v,d,rfl,sZ j k f,EI j l e⟩
theorem Pn (r:ep F L M) {M1:TL}{o o':TO}{p:Own}(h:Yf M M1 o o') (b:dW F L o p):dW F (xh L M1) o' p:=by
 rcases h with⟨rfl,j⟩ | ⟨t,cs,cs',rfl,rfl,h⟩
 ·cases o with
  | row t sz els=>cases p with
   | row=>exact b
   | box=>exact b.elim
  | map es=>cases p with
   | row=>exact b.elim
   | box=>exact b
  | win t pre cs post=>cases p with
   | row=>exact b.elim
   | box g n vs =>
    simp only[HF] at j;obtain⟨s,v1,x,v3,e,f,d,u⟩:=b;have:=d.map (g:=id) (F':=F) (L':=xh L M1) (fun c m v l=>rT (fun k o f d=>by
     rw[lm];cases e:M1.get k with
     | none=>exact s6 e f
     | some q=>simp only[d]) 3 (ac5.1 j c m) l)
    exact⟨s,v1,x,v3,e,f,by simpa using this,u⟩
  | box t cs=>cases p with
   | row=>exact b.elim
   | box g n vs =>
    simp only[HF] at j;refine⟨b.1,?_⟩;have:=b.2.map (g:=id) (F':=F) (L':=xh L M1) (fun c m v l=>rT (fun k o f d=>by
     rw[lm];cases e:M1.get k with
     | none=>exact s6 e f
     | some q=>simp only[d]) 3 (ac5.1 j c m) l)
    simpa using this
 ·cases p with
  | row=>exact b.elim
  | box g n vs=>exact⟨b.1,EI r h b.2⟩
theorem vD (c:ep F L M) {M1:TL}(h:gives M M1 M1):ep F (xh L M1) M1:=by
 intro k;rw[lm];cases e:M1.get k with
 | none=>trivial
 | some o =>
  rcases EH h e with⟨q,b,l⟩ | ⟨b,t,sz,rfl⟩
  ·rcases fA (c k) with⟨d,f⟩ | ⟨m,p,d,f,j⟩
   ·rw[d] at b;cases b
   ·rw[d] at b;injection b with b
    subst b;simp only[f];exact Pn c l j
  ·simp only[dm c b];exact⟨rfl,rfl,rfl,⟨by simp,none,0,rfl,fun _=>rfl⟩,by simp only[aT]⟩
theorem vE (c:St F L w) (b:ep F L M) {M1:TL}(h:gives M M1 M1):St F (xh L M1) w/\Step F L w F (xh L M1) w:=⟨c.gives (wA b h),uo (wA b h)⟩
theorem j9:∀{l M1:TL},mX l M1=true->∀{k o},l.get k=some o->C6 o=false->∃o',M1.get k=some o'
 | [],M1,h,k,o,e,_=>by cases e
 | (j,.box p r)::l,M1,h,k,o,e,b=>by
  simp only[mX] at h;split at h
  case h_2=>cases h
  rename_i n m d;simp only[TL.get] at e;split at e
  ·rename_i c;have:=vz c;subst this;exact⟨_,d⟩
  ·exact j9 h e b
 | (j,.map es)::l,M1,h,k,o,e,b=>by
  simp only[mX] at h;split at h
  case h_2=>cases h
  rename_i f d;simp only[TL.get] at e;split at e
  ·rename_i c;have:=vz c;subst this;exact⟨_,d⟩
  ·exact j9 h e b
 | (j,.win ..)::l,M1,h,k,o,e,b=>by
  simp only[mX] at h;split at h
  case h_2=>cases h
  rename_i n q m s d;simp only[TL.get] at e;split at e
  ·rename_i c;have:=vz c;subst this;exact⟨_,d⟩
  ·exact j9 h e b
 | (j,.row ..)::l,M1,h,k,o,e,b=>by
  simp only[mX] at h;simp only[TL.get] at e;split at e
  ·injection e with e;subst e;cases b
  ·exact j9 h e b
theorem zO:∀{l M1:TL},covers l M1=true->∀{k o},l.get k=some o->∃o',M1.get k=some o'
 | [],M1,h,k,o,e=>by cases e
 | (j,p)::l,M1,h,k,o,e=>by
  simp only[covers] at h;split at h
  case h_2=>cases h
  rename_i q b;simp only[TL.get] at e;split at e
  ·rename_i c;have:=vz c;subst this;exact⟨_,b⟩
  ·exact zO h e
theorem LH {L':Loc}(d:aN L ρ a) (h:∀k g t cs,L.get k=some (.box g t cs)->∃cs',L'.get k=some (.box g t cs')):aN L' ρ a:=by
 refine⟨fun t=>?_,fun t k off e=>?_,d.el⟩
 ·rw[d.eq t];cases e:ρ t with
  | v x=>rfl
  | el a j=>rfl
  | own k off =>
   obtain⟨g,ty,cs,c⟩:=d.own t k off e;obtain⟨cs',b⟩:=h _ _ _ _ c;simp only[conc,c,b]
 ·obtain⟨g,ty,cs,c⟩:=d.own t k off e;obtain⟨cs',b⟩:=h _ _ _ _ c;exact⟨g,ty,cs',b⟩
theorem rU (m:St F L w) (s:aN L ρ a) (c:TS G F L ρ M τ) {M1:TL}(h:gives M M1 M1) (r:covers M M1=true) :
  St F (xh L M1) w/\aN (xh L M1) ρ a/\Step F L w F (xh L M1) w/\TS G F (xh L M1) ρ M1 τ/\Ext L (xh L M1):=by
 obtain⟨n,l⟩:=vE m c.tl h;have b:∀k o,L.get k=some o->(xh L M1).get k=some o:=by
  intro k o e;rcases fA (c.tl k) with⟨f,d⟩ | ⟨q,p,f,d,u⟩
  ·rw[d] at e;cases e
  ·obtain⟨o',e'⟩:=zO r f;rw[lm,e'];simp only[e]
 refine⟨n,LH s fun k g t cs e=>⟨cs,b _ _ e⟩,l,⟨vD c.tl h,fun j=>(c.env j).ext (aJ.le_refl F) fun k o e=>⟨o,b k o e,Own.abf o⟩,fun k g t e=>?_,c.glob⟩,fun k o e=>⟨o,b k o e,Own.abf o⟩⟩;obtain⟨cs,h⟩:=c.kp k g t e;exact⟨cs,b _ _ h⟩
theorem Ut {F:aJ}{args:List C}{vs:List Value}(ha:aK F L args vs):aK F (inp []) (args.map fun c=>c.abk.ren (cn [] 1000)) vs :=
 ha.map fun c _ v b=>(ld b).ren (fun j m e=>by cases e)
theorem YK {F:aJ}{L:Loc}{args:List C}{vs:List Value}{f:Nat}{o:Own}(h:L.get f=some o) (ha:aK F L args vs):aK F (inp [o]) (args.map fun c=>c.abk.ren (cn [f] 1000)) vs :=
 ha.map fun c _ v k=>(ld k).ren (fun j m e o' b=>by
  obtain⟨n,d,rfl⟩:=C5 e;cases n with
  | zero =>
   simp only[ac6,w7] at d;subst d;rw[h] at b;injection b with b
   subst b;rfl
  | succ n=>simp at d)
theorem Gu:ep F (inp []) (jQ []):=fun k=>by rw[dh,bE];split<;>simp[Ld]
theorem iN.abM {Li:List Own}{R:List TO->C->Prop}:∀F G L v,aJ.le F G->iN Li R F L v->iN Li R G L v:=by
 rintro F G L v b ⟨Mo,c,d,e,h,f,j⟩;exact⟨Mo,c,d,e.mono b,h.mono b,f,j⟩
theorem wB {f:Nat}{args:List C}{vs:List Value}{d:Option Nat}{K:TL->bg->C->Prop}(s:TS G F L ρ M τ) (ha:aK F L args vs) (h:rM P f args M τ d K) :
  fq P f vs F L d (fun F' L' v=>∃M' am c,TS G F' L' ρ M' am/\bh F' L' c (.v v)/\K M' am c):=by
 cases h with
 | frz R h k =>
  refine .frz (iN [] R) (h.out F [] vs rfl Gu (Ut ha)) ?_;rintro v F' Lo l ⟨Mo,c,q,u,b,q4,q5⟩;obtain⟨rfl,k2⟩:=k c Mo q5 b.wf;have:Lo=[]:=List.length_eq_zero_iff.1 (by rw[<-q];rfl);subst this;exact⟨rfl,fun _=>⟨M,τ,_,s.mono l,mq (b.ext (aJ.le_refl F') (fun k o e=>by rw[bE] at e;split at e<;>simp at e)),k2⟩⟩
 | own R k h hd hk kk =>
  refine .own (iN [] R) k (h.out F [] vs rfl Gu (Ut ha)) hd (dm s.tl hk) ?_;rintro v F' Lo l ⟨Mo,c,q,u,b,q4,q5⟩;have bb:∀o∈Mo,o.Wf:=by
   intro o ho;obtain⟨i,hi⟩:=adh.1 ho;have bm:i<Lo.length:=by rw[<-q];exact(acP.1 hi).1
   have:=u (1000+i);rw[dh,bE,o6 (by omega),o6 (by omega),show 1000+i-1000=i by omega,hi,w8 bm] at this;exact dW.wf this
  obtain⟨o,rfl,k2⟩:=kk c Mo q5 b.wf bb
  match Lo,q with
  | [p],_ =>
   have n:∀j m,bF [k] j=some m->∀o,(inp [p]).get j=some o->(L.set k p).get m=some o:=by
    intro j m hj o ho;obtain⟨a1,a2⟩:=nS hj;rw[bE,o6 a1] at ho;have:j-1000=0:=by have:=(acP.1 a2).1;simp at this;omega
    rw[this] at ho a2;simp at ho a2;subst ho a2;rw[Loc.aa4,o6 rfl]
   have ak:=u 1000;rw[dh,bE,o6 (by omega),o6 (by omega)] at ak;refine⟨p,rfl,fun _=>⟨_,τ,_,s.new l (dm s.tl hk) (dW.ren n ak),mq (b.ren n),k2⟩⟩
 | row R kr t sz els ar hk h kk =>
  obtain⟨rv,xs,hL,⟨hm,av,cv,rfl,bs⟩,hr⟩:=mZ s.tl hk;refine .row (fun F' Lo v=>Lo=[]/\iN [] R F' [] v) kr _ t sz els.length xs ⟨ar,fun F1 F2 L v be r=>⟨r.1,iN.abM _ _ _ _ be r.2⟩,fun w hs=>?_⟩ hL ?_
  ·have bd:aN (inp [.row (.slice av els.length cv) t sz els.length xs]) (fun _=>.v undef) (⟨#[],[]⟩:Act):=by
    refine⟨fun j=>?_,fun j k off e=>(by cases e),fun j a i e=>(by cases e)⟩;simp[conc]
   obtain⟨F2,L2,g1,_,g3,l,z,rfl⟩:=pI (k:=1000) (KK:=fun F' L'=>F.le F'/\Kz F' (.slice av els.length cv) sz els.length xs/\L'=(inp [.row (.slice av els.length cv) t sz els.length xs]).del 1000) hs bd ⟨_,_,_,_,_,rfl,fun F' l z=>⟨l,z,rfl⟩⟩;have al:Rel F2 (L.del kr) (.sl els) (.slice av els.length cv):=by
    simp only[Rel];rcases z with⟨e1,e2,e3⟩ | ⟨ad,c2,e1,e2,e3⟩
    ·injection e1 with q u b
     have:els=[]:=List.length_eq_zero_iff.1 u;subst this;exact⟨av,cv,rfl,by simp,by simp,fun _=>⟨rfl,b⟩,sz,by simp only[ij]⟩
    ·injection e1 with q u b
     subst q b;exact⟨some ad,cv,rfl,e3,hm,fun e=>(by cases e),sz,(hr.mono l).frz e2⟩
   obtain⟨l1,_⟩:=EG l hL al;have bl:aK F2 (L.del kr) (args.map (C.frz kr els)) vs:=ha.map fun c _ v hc=>Rel.mp l1 3 hc;have ao:=Ut bl;rw[adI] at ao;refine((h.out F2 [] vs rfl Gu ao).run w g1).mono ?_;rintro e w' ⟨v,F',Lo,rfl,bk,bi,r⟩;have aE:Lo=[]:=by
    obtain⟨Mo,c,q,u,b,q4,q5⟩:=r;obtain⟨rfl,_⟩:=kk c Mo q5 b.wf;exact List.length_eq_zero_iff.1 (by rw[<-q];rfl)
   subst aE;exact⟨v,F',[],rfl,bk,g3.trans bi,rfl,r⟩
  ·rintro v F' Lo l ⟨rfl,Mo,c,q,u,b,q4,q5⟩;obtain⟨rfl,k2⟩:=kk c Mo q5 b.wf;refine⟨rfl,fun _=>⟨_,_,_,(s.mono l).acv (k:=kr) (o':=.row (.slice none 0 0) t sz 0 []) (to:=.row t sz []) (fun g t' cs e=>by rw[hL] at e;injection e with e;cases e) ⟨rfl,rfl,rfl,⟨adg _,none,0,rfl,fun _=>rfl⟩,by simp only[aT]⟩,mq (b.ext (aJ.le_refl F') (fun k o e=>by rw[bE] at e;split at e<;>simp at e)),k2⟩⟩
 | lent kr t sz els x hk h k =>
  obtain⟨rv,xs,hL,y,hr⟩:=mZ s.tl hk;refine .lent (fun F' v=>Rel F' (inp []) x v) kr rv t sz els.length xs (h.out F rv xs vs ⟨rfl,rfl,rfl,y,hr⟩ (YK hL ha)) hL fun v F' l r _=>?_;exact⟨M,τ,_,s.mono l,mq (r.ext (aJ.le_refl F') (fun k o e=>by rw[bE] at e;split at e<;>simp at e)),k r.wf⟩
def l7:fD->Bool
 | .call _ _=>true
 | .callV _ _=>true
 | _=>false
theorem TS.abT {F:aJ}{L:Loc}{ρ:Env}{M:TL}{τ:bg}{K:TK}{d:Option Nat}(e:TS G F L ρ M τ) {c:C}{sv:SV}(b:bh F L c sv) (h:K M (bV d c τ)):Both G K F L (Fr.put d sv ρ):=⟨_,_,e.put b d,h⟩
theorem nT (h:∀j,bh F L (τ j) (ρ j)) {fi ca:List C}{b c:List Value}(d:aK F L fi b) (e:aK F L ca c) (args:List X):aK F L (fi++fB τ args++ca) (b.toArray.toList++bQ L ρ args++c.toArray.toList):=by
 simpa using(d.append (dV h args)).append e
theorem eX.imp {f:Nat}{args:List Value}{F:aJ}{L:Loc}{K K':aJ->Loc->Value->Prop}(h:eX P f args F L K) (e:∀F' L' v,K F' L' v->K' F' L' v):eX P f args F L K':=by
 obtain⟨ks,ko,Lin,R,m,d,p,j,l,n⟩:=h;exact⟨ks,ko,Lin,R,m,d,p,j,l,fun v F' Lo k o=>let⟨a,b,c⟩:=n v F' Lo k o;⟨a,b,e _ _ _ c⟩⟩
theorem fq.imp' {f:Nat}{args:List Value}{F:aJ}{L:Loc}{d:Option Nat}{K K':aJ->Loc->Value->Prop}(h:fq P f args F L d K) (p:∀F' L' v,K F' L' v->K' F' L' v):fq P f args F L d K':=by
 cases h with
 | frz R h k=>exact .frz R h fun v F' Lo j l=>let⟨a,b⟩:=k v F' Lo j l;⟨a,fun e=>p _ _ _ (b e)⟩
 | own R k h s c m=>exact .own R k h s c fun v F' Lo j l=>let⟨o,a,b⟩:=m v F' Lo j l;⟨o,a,fun e=>p _ _ _ (b e)⟩
 | row R r q t sz n xs h c m=>exact .row R r q t sz n xs h c fun v F' Lo j l=>let⟨a,b⟩:=m v F' Lo j l;⟨a,fun e=>p _ _ _ (b e)⟩
 | lent R r q t sz n xs h c m=>exact .lent R r q t sz n xs h c fun v F' j l e=>p _ _ _ (m v F' j l e)
theorem LI {op:BinOp}{k:IntKind}{a b:Int}{K K':Value->Prop}(h:binI op k a b K) (c:∀v,K v->K' v):binI op k a b K':=by
 cases op<;>simp only[binI] at h ⊢<;>first
  | exact h.elim
  | exact⟨c _ h.out⟩
  | exact⟨h.ne,⟨c _ h.out.out⟩⟩
  | exact⟨h.ne,c _ h.out⟩
  | exact c _ h
theorem Po {op:BinOp}{k:IntKind}{a b:Int}{K K':Value->Prop}(h:shI op k a b K) (c:∀v,K v->K' v):shI op k a b K':=by
 cases op<;>simp only[shI] at h ⊢<;>first
  | exact h.elim
  | exact⟨h.1,⟨c _ h.2.out⟩⟩
  | exact⟨h.1,c _ h.2⟩
theorem LJ {op:BinOp}{a b:ByteArray}{K K':Value->Prop}(h:binS op a b K) (c:∀v,K v->K' v):binS op a b K':=by
 cases op<;>simp only[binS] at h ⊢<;>first
  | exact h.elim
  | exact c _ h
  | exact⟨h.1,c _ h.2⟩
theorem EJ {o:fD}{V V':SV->Prop}{F:aJ}{L:Loc}{ρ:Env}(h:aV o F L ρ V) (d:∀v,V v->V' v):aV o F L ρ V':=by
 have load:∀{a:Option Addr}{j n:Nat}{g:List Value->SV},kM F L a j n (fun cs=>V (g cs))->kM F L a j n (fun cs=>V' (g cs)):=fun h=>⟨let⟨cs,h1,h2,h3⟩:=h.out;⟨cs,h1,h2,d _ h3⟩⟩;have loadD:∀{a:Option Addr}{j n:Nat}{g:List Value->SV},jW F a j n (fun cs=>V (g cs))->jW F a j n (fun cs=>V' (g cs)):=fun h=>⟨let⟨cs,h1,h2,h3⟩:=h.out;⟨cs,h1,h2,d _ h3⟩⟩;cases o<;>simp only[aV] at h ⊢<;>first
  | exact h.elim
  | exact d _ h
  | skip
 case pick c a b =>
  generalize ev ρ c=z at h ⊢;split at h<;>first | exact h.elim | exact d _ h
 case build zs ps =>
  generalize built L ρ zs ps=z at h ⊢;split at h<;>first | exact h.elim | exact d _ h
 case load agg n x =>
  generalize ev ρ x=z at h ⊢;split at h
  ·rename_i k off;generalize L.get k=y at h ⊢;split at h
   ·rename_i t cs;generalize kN t ((cs.drop off).take n) n=b at h ⊢;cases b
    ·exact h.elim
    ·exact d _ h
   ·exact h.elim
  ·exact load h
  ·exact load h
  ·exact h.elim
 case loadR agg n x =>
  generalize ev ρ x=z at h ⊢;split at h
  ·rename_i k off;generalize L.get k=y at h ⊢;split at h
   ·rename_i t cs;generalize kN t ((cs.drop off).take n) n=b at h ⊢;cases b
    ·exact h.elim
    ·exact d _ h
   ·exact h.elim
  ·exact load h
  ·exact load h
  ·exact h.elim
 case loadD agg n x =>
  generalize ev ρ x=z at h ⊢;split at h
  ·rename_i k off;generalize L.get k=y at h ⊢;split at h
   ·rename_i t cs;generalize kN t ((cs.drop off).take n) n=b at h ⊢;cases b
    ·exact h.elim
    ·exact d _ h
   ·exact h.elim
  ·exact loadD h
  ·exact loadD h
  ·exact h.elim
 case loadF agg n x =>
  generalize ev ρ x=z at h ⊢;split at h
  ·exact loadD h
  ·exact loadD h
  ·exact h.elim
 case loadK key agg n x =>
  generalize ev ρ x=z at h ⊢;split at h
  ·rename_i k off;generalize Nat.beq k key=q at h ⊢;cases q
   ·exact h.elim
   ·simp only[] at h ⊢;generalize L.get k=y at h ⊢;split at h
    ·rename_i t cs;generalize kN t ((cs.drop off).take n) n=b at h ⊢;cases b
     ·exact h.elim
     ·exact d _ h
    ·exact h.elim
  ·exact h.elim
 case b2sD x =>
  generalize ev ρ x=z at h ⊢;split at h
  ·exact⟨let⟨cs,h1,h2,⟨bs,h3,h4⟩⟩:=h.out;⟨cs,h1,h2,⟨bs,h3,d _ h4⟩⟩⟩
  ·exact h.elim
 case b2sR x =>
  generalize ev ρ x=z at h ⊢;split at h
  ·exact⟨let⟨k,t,c,bs,h1,h2,h3,h4⟩:=h.out;⟨k,t,c,bs,h1,h2,h3,d _ h4⟩⟩
  ·exact h.elim
 case mkif t x =>
  generalize ev ρ x=z at h ⊢;split at h<;>first
   | exact h.elim
   | exact d _ h
   | (split at h
      ·exact d _ h
      ·exact h.elim)
 case nilck x =>
  generalize ev ρ x=z at h ⊢;split at h<;>first
   | exact h.elim
   | exact d _ h
   | exact⟨h.1,d _ h.2⟩
   | (split at h
      ·exact⟨h.1,d _ h.2⟩
      ·exact h.elim)
 case mkmv nm x =>
  generalize ev ρ x=z at h ⊢;split at h<;>first | exact h.elim | exact d _ h
 case bin op x y =>
  generalize ev ρ x=z at h ⊢;generalize ev ρ y=z' at h ⊢;split at h
  ·rename_i k a e b;generalize Ky op=q at h ⊢;cases q
   ·generalize rq k e=r at h ⊢;cases r
    ·exact h.elim
    ·exact LI h fun v=>d _
   ·exact Po h fun v=>d _
  ·exact LJ h fun v=>d _
  ·exact h.elim
 case eqB neg x y =>
  generalize ev ρ x=z at h ⊢;generalize ev ρ y=z' at h ⊢;split at h<;>first | exact h.elim | exact d _ h
 case eqS neg x y =>
  generalize ev ρ x=z at h ⊢;generalize ev ρ y=z' at h ⊢;split at h<;>first | exact h.elim | exact d _ h
 case tas t z x =>
  generalize ev ρ x=y at h ⊢;split at h<;>first
   | exact d _ h
   | (split at h<;>exact d _ h)
   | exact h.elim
 case eqN neg x =>
  generalize ev ρ x=z at h ⊢;split at h<;>first | exact h.elim | exact d _ h
 case eqA neg ks x y =>
  generalize ev ρ x=z at h ⊢;generalize ev ρ y=z' at h ⊢;split at h
  case h_2=>exact h.elim
  rename_i cs ds;generalize jN ks cs.toList ds.toList true=q at h ⊢;cases q with
  | none=>exact h.elim
  | some b=>exact d _ h
 case un op x =>
  generalize ev ρ x=z at h ⊢;split at h<;>first | exact h.elim | exact d _ h | exact⟨d _ h.out⟩
 case conv k x =>
  generalize ev ρ x=z at h ⊢;split at h<;>first | exact h.elim | exact⟨d _ h.out⟩
 case b2s x =>
  generalize ev ρ x=z at h ⊢;split at h
  ·exact⟨let⟨cs,h1,h2,⟨bs,h3,h4⟩⟩:=h.out;⟨cs,h1,h2,⟨bs,h3,d _ h4⟩⟩⟩
  ·exact h.elim
 case slc sz x lo hi =>
  generalize ev ρ x=z at h ⊢;split at h
  ·rename_i a n c;generalize pE ρ 0 lo=y at h ⊢;generalize pE ρ n hi=y' at h ⊢;split at h
   ·exact⟨h.lo,h.le,h.hi,d _ h.out⟩
   ·exact h.elim
  ·exact h.elim
 case fieldA off x =>
  generalize ev ρ x=z at h ⊢;split at h<;>first | exact h.elim | exact d _ h
 case idxA sz x i =>
  generalize ev ρ x=z at h ⊢;generalize ev ρ i=z' at h ⊢;split at h
  ·exact⟨h.ne,h.lo,h.hi,d _ h.out⟩
  ·exact h.elim
 case extr x i =>
  generalize ev ρ x=z at h ⊢;split at h
  ·rename_i vs;generalize vs.toList[i]?=y at h ⊢;cases y
   ·exact h.elim
   ·exact d _ h
  ·exact h.elim
 case len x =>
  generalize ev ρ x=z at h ⊢;split at h<;>first | exact h.elim | exact d _ h
 case lenS x =>
  generalize ev ρ x=z at h ⊢;split at h<;>first | exact h.elim | exact d _ h
 case capa x =>
  generalize ev ρ x=z at h ⊢;split at h<;>first | exact h.elim | exact d _ h
 case mm mx args =>
  generalize args.map (ev ρ)=z at h ⊢;split at h
  ·rename_i k a l;generalize Sf mx a l=y at h ⊢;cases y
   ·exact h.elim
   ·exact d _ h
  ·exact h.elim
theorem Uu {o:fD}{d:Option Nat}{K:TK}{F:aJ}{L:Loc}{ρ:Env}{M:TL}{τ:bg}(b:TS G F L ρ M τ) (h:outT o M τ fun v=>K M (bV d v τ)):aV o F L ρ (fun v=>Both G K F L (Fr.put d v ρ)) :=
 EJ (YI b h) fun sv ⟨c,e,f⟩=>b.abT e f
theorem LK {o:fD}{d:Option Nat}{K:TK}{F:aJ}{L:Loc}{ρ:Env}{M:TL}{τ:bg}(z:l7 o=false) (l:TS G F L ρ M τ) (h:cV P o d M τ K):evalOp P o d F L ρ (Both G K):=by
 have s:=l.env;cases o
 case call=>cases z
 case callV=>cases z
 case box t x =>
  simp only[cV,hO,gA,fN] at h;simp only[evalOp];split at h
  case h_2=>exact h.elim
  rename_i k;split at h
  case h_2=>exact h.elim
  rename_i q hc hb;simp only[dm l.tl q];exact fun g=>HO l q hc (C4 hb) h g
 case boxD t x =>
  simp only[cV,hO,gA,fN] at h;simp only[evalOp];split at h
  case h_2=>exact h.elim
  rename_i k;split at h
  case h_2=>exact h.elim
  rename_i q hc hb;simp only[dm l.tl q];exact fun g _=>HO l q hc (C4 hb) h g
 case boxF t x =>
  simp only[cV,hO,gA,fN] at h;simp only[evalOp];split at h
  case h_2=>exact h.elim
  rename_i m j p;intro g F' hF hg;exact(l.mono hF).abT (Us hg (pT j) (mM ((jb p (iO s m)).mono hF))) h
 case alloc t zs =>
  simp only[cV,hO,gA,fN] at h;simp only[evalOp];split at h
  case h_2=>exact h.elim
  rename_i k;split at h
  case h_2=>exact h.elim
  rename_i q hb;simp only[dm l.tl q];exact fun g=>BS l q (C4 hb) h g
 case allocD t zs =>
  simp only[cV,hO,gA,fN] at h;simp only[evalOp];split at h
  case h_2=>exact h.elim
  rename_i k;split at h
  case h_2=>exact h.elim
  rename_i q hb;simp only[dm l.tl q];exact fun g _=>BS l q (C4 hb) h g
 case mkF e n sz xs =>
  simp only[cV,hO,gA,fN] at h;simp only[evalOp];split at h
  ·rename_i m j p;rw[(kF s m).1];exact fun g F' hF hg=>HS l m (vz j) (ac8 p) h hF hg
  ·rename_i m j p;split at h
   case h_2=>exact h.elim
   rename_i am;obtain rfl:=vz am;split at h
   case h_2=>exact h.elim
   split at h
   case h_2=>exact h.elim
   rename_i ar z;obtain⟨q1,q2⟩:=HT (e:=e) l z (by simp) (vz j) (ac8 p) h;rw[q1];exact fun g F' hF hg=>q2 hF hg
  ·exact h.elim
 case mkFD e n sz xs =>
  simp only[cV,hO,gA,fN] at h;simp only[evalOp];split at h
  ·rename_i m j p;rw[(kF s m).1];exact fun g F' hF hg _=>HS l m (vz j) (ac8 p) h hF hg
  ·rename_i m j p;split at h
   case h_2=>exact h.elim
   rename_i am;obtain rfl:=vz am;split at h
   case h_2=>exact h.elim
   split at h
   case h_2=>exact h.elim
   rename_i ar z;obtain⟨q1,q2⟩:=HT (e:=e) l z (by simp) (vz j) (ac8 p) h;rw[q1];exact fun g F' hF hg _=>q2 hF hg
  ·exact h.elim
 case mkR e n sz xs =>
  simp only[cV,hO,gA,fN] at h;simp only[evalOp];split at h
  case h_2=>exact h.elim
  rename_i k m j p;split at h
  case h_2=>exact h.elim
  rename_i q;rw[(kF s m).1];simp only[dm l.tl q];exact fun g=>Pk l m (vz j) (ac8 p) q h g
 case makeS=>exact JL l h
 case store n y x=>exact Gr l h
 case storeD n y x=>exact zG l h
 case storeK key n y x =>
  simp only[cV] at h;split at h
  case h_2=>exact h.elim
  rename_i k off hy;split at h
  case h_2=>exact h.elim
  rename_i hb;obtain⟨n',a',x',k',ba,g,t,cs,z,e1,e2,e3,e4,e5,hK⟩:=jy (P:=P) rfl (zG l h);rcases z with z | z
  ·injection z with q1 q2 q3
   subst q1 q2 q3;rw[(iz s hy).1] at e3;injection e3 with q1 q2
   subst q1 q2;have hb:=vz hb;subst hb;exact jn (.inr rfl) e1 e2 (iz s hy).1 e4 e5 hK
  ·cases z
 case makeSD e sz n zs =>
  simp only[cV] at h;split at h
  case h_2=>exact h.elim
  rename_i k;split at h
  case h_2=>exact h.elim
  rename_i q m j p;have ab:=dm l.tl q;have ac:zs.length=sz:=by have:=cg m;simpa using this
  simp only[evalOp,ab,fR ac,p];intro g _;have hz:aK F [] ((zs.map tQ).map C.can) zs:=mM (ol zs);have ak:eP (zs.map tQ)=true->∀i:Nat,aT F sz (List.replicate i ((zs.map tQ).map C.can)) (List.replicate i zs).flatten:=by
   intro j i
   induction i with
   | zero=>simp only[List.replicate_zero,List.flatten_nil,aT]
   | succ i ih =>
    simp only[adB,List.flatten_cons,aT];exact⟨zs,_,rfl,ac,pT j,hz,ih⟩
  have aa:∀i:Nat,i=n->aT F sz (List.replicate i ((zs.map tQ).map C.can)) (List.replicate i zs).flatten:=by
   intro i hi;rw[adl] at j;rcases j with j | j
   ·have j:=vz j;rw[hi,j];simp only[List.replicate_zero,List.flatten_nil,aT]
   ·exact ak j i
  have p:=l.new (aJ.le_refl F) ab (o:=.row (.slice (some ⟨g,0,none⟩) n n) e sz n (List.replicate n zs).flatten) (to:=.row e sz (List.replicate n ((zs.map tQ).map C.can)))
   ⟨rfl,rfl,by simp,⟨ac8 p,_,_,rfl,fun e=>(by cases e)⟩,aa _ rfl⟩
  exact⟨_,_,p.put (c:=.rw k) (oL (by rw[Loc.aa4,o6 rfl])) (some k),h⟩
 case makeSV e sz b zs x =>
  simp only[cV] at h;split at h
  case h_2=>exact h.elim
  rename_i ki n k hx;split at h
  case h_2=>exact h.elim
  rename_i q m j;have ab:=dm l.tl q;have ac:zs.length=sz:=by have:=cg m;simpa using this
  obtain⟨m1,_,m3,m4,h⟩:=h;have hv:val L ρ x=.int ki n:=by rw[val,(gP s hx).1];rfl
  have ay:uX b (val L ρ x)=true:=by
   rw[hv,uX,acR,acR];exact⟨⟨Nat.ble_eq_true_of_le m3,Nat.ble_eq_true_of_le m4⟩,adE m1⟩
  have hc:nW (val L ρ x)=n.toNat:=by rw[hv];rfl
  simp only[evalOp,ab,fR ac,ay];rw[hc];intro g _;have hz:aK F [] ((zs.map tQ).map C.can) zs:=mM (ol zs);have aa:∀i:Nat,aT F sz (List.replicate i ((zs.map tQ).map C.can)) (List.replicate i zs).flatten:=by
   intro i
   induction i with
   | zero=>simp only[List.replicate_zero,List.flatten_nil,aT]
   | succ i ih =>
    simp only[adB,List.flatten_cons,aT];exact⟨zs,_,rfl,ac,pT j,hz,ih⟩
  have p:=l.new (aJ.le_refl F) ab (o:=.row (.slice (some ⟨g,0,none⟩) n.toNat n.toNat) e sz n.toNat (List.replicate n.toNat zs).flatten) (to:=.row e sz (List.replicate n.toNat ((zs.map tQ).map C.can)))
   ⟨rfl,rfl,by simp,⟨m4,_,_,rfl,fun e=>(by cases e)⟩,aa _⟩
  exact⟨_,_,p.put (c:=.rw k) (oL (by rw[Loc.aa4,o6 rfl])) (some k),h⟩
 case callD f args =>
  simp only[cV,hO,gA,fN] at h;simp only[evalOp];refine fq.imp' (wB l (dV s args) h) ?_;rintro F' L' v ⟨M',r,c,m,j,p⟩;exact m.abT j p
 case callVD f args =>
  simp only[cV,hO,gA,fN] at h;simp only[evalOp];split at h
  ·rename_i f' fi ca hx;obtain⟨bo,bA,e1,m,j⟩:=zB s hx;rw[e1];refine fq.imp' (wB l (nT s m j args) h) ?_;rintro F' L' v ⟨M',r,c,m,j,p⟩;exact m.abT j p
  ·rename_i nm c hx;split at h
   case h_2=>exact h.elim
   rename_i t c;obtain⟨u,e1,hr⟩:=zC s hx;simp only[Rel] at hr;obtain⟨u',rfl,hu⟩:=hr;obtain⟨f',hm,h⟩:=h;have e2:oF P (ev ρ f)=some (f',[u'],[]):=by rw[e1];simp only[oF,hm]
   rw[e2];have al:aK F L (c::fB τ args) ([u']++bQ L ρ args++[]):=by
    rw[acT];simp only[acW,acX,aK];exact⟨_,_,rfl,hu.lift,dV s args⟩
   refine fq.imp' (wB l al h) ?_;rintro F' L' v ⟨M',r,c,m,j,p⟩;exact m.abT j p
  ·exact h.elim
 case callO f args =>
  simp only[cV,hO,gA,fN] at h;simp only[evalOp];cases h with
  | mk h =>
   obtain⟨ks,ko,Lin,R,m,j,p,h4,h5,h6,h7⟩:=h;refine eX.imp (wz (K:=fun M' r v=>K M' (bV d v r)) l (dV s args) m j p h4 h5 h6 h7) ?_;rintro F' L' v ⟨M',r,c,m,j,p⟩ _;exact m.abT j p
  | inpl ks Lin R m j p h4 =>
   refine eX.imp (BU (K:=fun M' r v=>K M' (bV d v r)) l (dV s args) m j p h4) ?_;rintro F' L' v ⟨M',r,c,m,j,p⟩ _;exact m.abT j p
 case app=>exact Pm l h
 case appD=>exact Lv l h
 case appZ=>exact Lw l h
 case copy e sz a b=>exact h.out _ _ _ _ l
 case copyX=>exact h.elim
 all_goals
  simp only[cV,hO,gA,fN] at h;simp only[evalOp];exact Uu (d:=d) (K:=K) l h
end
section
variable {P:Program}{PS:qX}{G:Nat->Option (Nat×TypeId)}{F:aJ}{L:Loc}{ρ:Env}{M:TL}{τ:bg}{a:Act}{w:World}{Q:Exit->Act->World->Prop}{o:Oper}
theorem jH {L2:Loc}(d:aN L ρ a) (b:aN L2 ρ a):∀xs:List X,bQ L2 ρ xs=bQ L ρ xs
 | []=>rfl
 | x::xs=>by
  have:val L2 ρ x=val L ρ x:=by
   cases x with
   | t n=>exact(b.eq n).symm.trans (d.eq n)
   | c v=>rfl
   | fn f=>rfl
   | mt nm n =>
    simp only[val,ev];cases ρ n<;>rfl
  simp only[bQ,this,jH d b xs]
theorem mN {f:Nat}{args:List C}{vs:List Value}{K:TL->bg->C->Prop}(y:St F L w) (he:aN L ρ a) (m:TS G F L ρ M τ) (x:aK F L args vs) (h:nA P f args M τ K) :
  ∃F' L',St F' L' w/\aN L' ρ a/\Step F L w F' L' w/\eX P f vs F' L' (fun F' L' v=>∃M' b c,TS G F' L' ρ M' b/\bh F' L' c (.v v)/\K M' b c):=by
 cases h with
 | inpl ks Lin R h1 h2 h3 h4=>exact⟨F,L,y,he,Step.refl _ _ _,BU m x h1 h2 h3 h4⟩
 | mk h =>
 obtain⟨fz,ks,ko,h⟩:=h;obtain⟨F1,L1,M1,ar,e,r,q,g3,n,z,M2,Lin,R,d,u,s,t,p,l,k,j⟩:=qB y he m x h;rcases d with rfl | ⟨d,k2⟩
 ·exact⟨F1,_,r,q,g3,wz n z u s t p l k j⟩
 ·obtain⟨e1,e2,e3,e4,e5⟩:=rU r q n d k2;exact⟨F1,_,e1,e2,g3.trans e3,wz e4 (z.ext (aJ.le_refl F1) e5) u s t p l k j⟩
theorem qC {f:Nat}{args:List C}{vs:List Value}{K:TL->bg->C->Prop}(hs:St F L w) (he:aN L ρ a) (q:TS G F L ρ M τ) (ha:aK F L args vs) (h:qo P PS f args M τ K) (b:PS.st=none) :
  ∃F' L',St F' L' w/\aN L' ρ a/\Step F L w F' L' w/\ga P (AP G PS) f vs F' L' (fun F' L' v=>∃M' j c,TS G F' L' ρ M' j/\bh F' L' c (.v v)/\K M' j c):=by
 cases h with
 | inpl ks Lin R Pp h1 h2 hh h3 hp h4=>exact⟨F,L,hs,he,Step.refl _ _ _,Gs q ha h1 h2 h3 hp b hh h4⟩
 | mk h =>
 obtain⟨fz,ks,ko,h⟩:=h;obtain⟨F1,L1,M1,az,l,u,t,g3,r,g5,M2,Lin,R,Pp,k,z,x,y,s,p,e,n,d,m⟩:=qB hs he q ha h;rcases k with rfl | ⟨k,k2⟩
 ·exact⟨F1,_,u,t,g3,BW r g5 z x y s p e n d b m⟩
 ·obtain⟨e1,e2,e3,e4,e5⟩:=rU u t r k k2;exact⟨F1,_,e1,e2,g3.trans e3,BW e4 (g5.ext (aJ.le_refl F1) e5) z x y s p e n d b m⟩
theorem qD {f:Nat}{args:List C}{vs:List Value}{K:TL->bg->C->Prop}{st:TL->Value->Prop}(y:St F L w) (z:aN L ρ a) (q:TS G F L ρ M τ) (x:aK F L args vs) (h:CT P PS.ps PS.hb st f args M τ K) (k:PS.st=some st) :
  ∃F' L',St F' L' w/\aN L' ρ a/\Step F L w F' L' w/\ga P (AP G PS) f vs F' L' (fun F' L' v=>∃M' j c,TS G F' L' ρ M' j/\bh F' L' c (.v v)/\K M' j c):=by
 obtain⟨ks,ko,M2,Lin,R,Pp,l,u,s,t,r,p,e,n,d,m⟩:=h;have b:PS=⟨PS.ps,PS.hb,some st⟩:=by rw[<-k]
 rcases l with rfl | ⟨l,k2⟩
 ·exact⟨F,_,y,z,Step.refl _ _ _,BX q x b u s t r p e n d m⟩
 ·obtain⟨e1,e2,e3,e4,e5⟩:=rU y z q l k2;exact⟨F,_,e1,e2,e3,BX e4 (x.ext (aJ.le_refl F) e5) b u s t r p e n d m⟩
theorem BZ:∀{cs:List C}{vs us:List Value},zy cs=some us->aK F L cs vs->vs=us
 | [],vs,us,h,r=>by simp only[zy,w7] at h;simp only[aK] at r;rw[r,<-h]
 | c::cs,vs,us,h,r=>by
  simp only[aK] at r;obtain⟨v,f,rfl,b,d⟩:=r;cases c<;>simp only[zy,reduceCtorEq] at h
  all_goals
   split at h
   case h_2=>cases h
   rename_i e j;injection h with h
   subst h;rw[BZ j d];simp only[Rel] at b
   first
    | rw[b.1]
    | rw[b]
theorem LL {c:C}{u v:Value}(h:Ey c=some u) (r:Rel F L c v):v=u/\∃t x,u=.iface t x:=by
 cases c<;>simp only[Ey,reduceCtorEq] at h
 case ifc t c =>
  simp only[Rel] at r;obtain⟨x,rfl,r⟩:=r;cases c<;>simp only[Ey,reduceCtorEq] at h
  case agg cs =>
   split at h
   case h_2=>cases h
   rename_i us b;injection h with h
   subst h;simp only[Rel] at r;obtain⟨vs,rfl,r⟩:=r;rw[BZ b r];exact⟨rfl,_,_,rfl⟩
  all_goals
   injection h with h
   subst h;simp only[Rel] at r
   first
    | (obtain⟨rfl,_⟩:=r;exact⟨rfl,_,_,rfl⟩)
    | (subst r;exact⟨rfl,_,_,rfl⟩)
theorem bX.from {F1:aJ}{L1:Loc}{K:dP}{c:Act}{w':World}(b:Step F L w F1 L1 w) (h:bX F1 L1 w a K c w'):bX F L w a K c w':=by
 obtain⟨F',L',ρ',e,d,k,f,l,j⟩:=h;exact⟨F',L',ρ',e,d,k,f,b.trans l,j⟩
theorem JM {own:Bool}{s:fD}{K:TK}(hs:St F L w) (n:aN L ρ a) (e:TS G F L ρ M τ) (hd:∀k,o.dst=some k->k<a.tmps.size) (hl:kO P own o.op=some s)
  (d:cV P s o.dst M τ K):o.wp P a w (bX F L w a (Both G K)) Q:=by
 by_cases hc:l7 s=true
 ·cases s<;>simp only[l7,acZ] at hc
  ·rename_i f args;simp only[cV,hO,gA,fN] at d;obtain⟨F1,L1,r,h,x,p⟩:=mN hs n e (dV e.env args) d;refine Oper.wp_mono (fun a' w'=>bX.from x) (fW r h hd hl ?_);simp only[evalOp];rw[jH n h];exact eX.imp p fun F' L' v ⟨M',z,c,l,j,y⟩=>l.abT j y
  ·rename_i fx args;simp only[cV,hO,gA,fN] at d;split at d
   ·rename_i f fi ca hx;obtain⟨be,bi,e1,l,j⟩:=zB e.env hx;obtain⟨F1,L1,r,h,x,p⟩:=mN hs n e (nT e.env l j args) d;refine Oper.wp_mono (fun a' w'=>bX.from x) (fW r h hd hl ?_);simp only[evalOp,e1,oF];rw[jH n h];exact eX.imp p fun F' L' v ⟨M',z,c,l,j,y⟩=>l.abT j y
   ·rename_i nm c hx;split at d
    case h_2=>exact d.elim
    rename_i t c;obtain⟨u,e1,hr⟩:=zC e.env hx;simp only[Rel] at hr;obtain⟨u',rfl,hu⟩:=hr;obtain⟨f',hm,d⟩:=d;have b:aK F L (c::fB τ args) ([u']++bQ L ρ args++[]):=by
     rw[acT];simp only[acW,acX,aK];exact⟨_,_,rfl,hu.lift,dV e.env args⟩
    obtain⟨F1,L1,r,h,x,p⟩:=mN hs n e b d;refine Oper.wp_mono (fun a' w'=>bX.from x) (fW r h hd hl ?_);have e2:oF P (ev ρ fx)=some (f',[u'],[]):=by rw[e1];simp only[oF,hm]
    simp only[evalOp,e2];rw[jH n h];exact eX.imp p fun F' L' v ⟨M',z,c,l,j,y⟩=>l.abT j y
   ·rename_i nm t k off hx;obtain⟨g,t',cs,hg,e1⟩:=qp e.env hx;obtain⟨f',hm,d⟩:=d;have b:aK F L (.own k off::fB τ args) ([.pointer (some ⟨g,off,none⟩)]++bQ L ρ args++[]):=by
     rw[acT];simp only[acW,acX,aK,Rel];exact⟨_,_,rfl,⟨g,t',cs,hg,rfl⟩,dV e.env args⟩
    obtain⟨F1,L1,r,h,x,p⟩:=mN hs n e b d;refine Oper.wp_mono (fun a' w'=>bX.from x) (fW r h hd hl ?_);have e2:oF P (ev ρ fx)=some (f',[.pointer (some ⟨g,off,none⟩)],[]):=by rw[e1];simp only[Ew,oF,hm]
    simp only[evalOp,e2];rw[jH n h];exact eX.imp p fun F' L' v ⟨M',z,c,l,j,y⟩=>l.abT j y
   ·rename_i t nm hx;split at d
    case h_2=>exact d.elim
    rename_i t' c an ab q;have e1:=Pb e.env hx;obtain⟨f',hm,d⟩:=d;have ac:=dV e.env args;rw[q] at ac;simp only[aK,Rel] at ac;obtain⟨v0,m,aw,⟨u,rfl,hu⟩,ad⟩:=ac;have b:aK F L (c::an) (u::m):=by
     simp only[aK];exact⟨_,_,rfl,hu.lift,ad⟩
    obtain⟨F1,L1,r,h,x,p⟩:=mN hs n e b d;refine Oper.wp_mono (fun a' w'=>bX.from x) (fW r h hd hl ?_);have hi:∃ms,P.underlying t=some (.interface ms):=by
     unfold Sq at ab;split at ab
     ·exact⟨_,by assumption⟩
     ·cases ab
    obtain⟨ms,hi⟩:=hi;have e2:oF P (ev ρ fx)=none:=by rw[e1];rfl
    have e3:Bt P (ev ρ fx) (bQ L1 ρ args)=some (f',u::m):=by
     rw[jH n h,aw,e1];simp only[Bt,hi,hm]
    simp only[evalOp,e2,e3];exact eX.imp p fun F' L' v ⟨M',z,c,l,j,y⟩=>l.abT j y
   ·exact d.elim
 ·exact fW hs n hd hl (LK (by simpa using hc) e d)
theorem JN {own:Bool}{s:fD}{K:TK}(hs:St F L w) (q:aN L ρ a) (j:TS G F L ρ M τ) (hd:∀k,o.dst=some k->k<a.tmps.size) (hl:kO P own o.op=some s)
  (d:wo P PS s o.dst M τ K) (hQ:∀v z w' F' L',FZ v z->St F' L' w'->Step F L w F' L' w'->AP G PS F' L' v->Q (.panic z) a w'):o.wp P a w (bX F L w a (Both G K)) Q:=by
 cases s<;>simp only[wo] at d<;>try (exact d.elim)
 ·rename_i f args;simp only[hO,gA,fN] at d;have key:∃F' L',St F' L' w/\aN L' ρ a/\Step F L w F' L' w/\ga P (AP G PS) f (bQ L ρ args) F' L' (fun F' L' v=>∃M' h c,TS G F' L' ρ M' h/\bh F' L' c (.v v)/\K M' (bV o.dst c h)):=by
   split at d
   ·rename_i b;exact qC hs q j (dV j.env args) d b
   ·rename_i st b;exact qD hs q j (dV j.env args) d b
  obtain⟨F1,L1,g1,g2,g3,g4⟩:=key;refine Oper.wp_mono (fun a' w'=>bX.from g3) (wW (PX:=AP G PS) g1 g2 hd hl ?_ fun v z w' F' L' qc q1 q2 q3=>hQ v z w' F' L' qc q1 (g3.trans q2) q3);rw[jH q g2];exact ga.imp g4 fun F' L' v ⟨M',h,c,l,m,r⟩=>l.abT m r
 ·rename_i fx args;split at d
  ·rename_i f fi ca hx;simp only[hO,gA,fN] at d;obtain⟨an,ao,e1,l,m⟩:=zB j.env hx;have key:∃F' L',St F' L' w/\aN L' ρ a/\Step F L w F' L' w/\ga P (AP G PS) f (an++bQ L ρ args++ao) F' L' (fun F' L' v=>∃M' h c,TS G F' L' ρ M' h/\bh F' L' c (.v v)/\K M' (bV o.dst c h)):=by
    split at d
    ·rename_i b;exact qC hs q j (nT j.env l m args) d b
    ·rename_i st b;exact qD hs q j (nT j.env l m args) d b
   obtain⟨F1,L1,g1,g2,g3,g4⟩:=key;refine Oper.wp_mono (fun a' w'=>bX.from g3) (ql (PX:=AP G PS) (f:=f) (fi:=an) (ca:=ao) g1 g2 hd hl (by rw[e1];simp only[oF]) ?_ fun v z w' F' L' qc q1 q2 q3=>hQ v z w' F' L' qc q1 (g3.trans q2) q3);rw[jH q g2];exact ga.imp g4 fun F' L' v ⟨M',h,c,l,m,r⟩=>l.abT m r
  ·rename_i nm t k off hx;simp only[hO,gA,fN] at d;obtain⟨g,t',cs,hg,e1⟩:=qp j.env hx;obtain⟨f',hm,d⟩:=d;have n:aK F L (.own k off::fB τ args) ([.pointer (some ⟨g,off,none⟩)]++bQ L ρ args++[]):=by
    rw[acT];simp only[acW,acX,aK,Rel];exact⟨_,_,rfl,⟨g,t',cs,hg,rfl⟩,dV j.env args⟩
   have key:∃F' L',St F' L' w/\aN L' ρ a/\Step F L w F' L' w/\ga P (AP G PS) f' ([.pointer (some ⟨g,off,none⟩)]++bQ L ρ args++[]) F' L' (fun F' L' v=>∃M' h c,TS G F' L' ρ M' h/\bh F' L' c (.v v)/\K M' (bV o.dst c h)):=by
    split at d
    ·rename_i b;exact qC hs q j n d b
    ·rename_i st b;exact qD hs q j n d b
   obtain⟨F1,L1,g1,g2,g3,g4⟩:=key;refine Oper.wp_mono (fun a' w'=>bX.from g3) (ql (PX:=AP G PS) (f:=f') (fi:=[.pointer (some ⟨g,off,none⟩)]) (ca:=[]) g1 g2 hd hl (by rw[e1];simp only[Ew,oF,hm]) ?_ fun v z w' F' L' qc q1 q2 q3=>hQ v z w' F' L' qc q1 (g3.trans q2) q3);rw[jH q g2];exact ga.imp g4 fun F' L' v ⟨M',h,c,l,m,r⟩=>l.abT m r
  ·exact d.elim
 ·rename_i x;have d:∃u,Ey (eD τ x)=some u/\mF M [] PS.hb=true/\PS.ps u/\∀s,PS.st=some s->s M u:=by
   split at d
   ·rename_i b;obtain⟨u,l,p,m⟩:=d;exact⟨u,l,p,m,fun s e=>by rw[b] at e;cases e⟩
   ·rename_i st b;obtain⟨u,l,p,m,r⟩:=d;exact⟨u,l,p,m,fun s e=>by rw[b] at e;injection e with e;subst e;exact r⟩
  obtain⟨u,l,p,m,r⟩:=d;have hr:=mL (eY j.env x);have hc:(eD τ x).cel=eD τ x:=by
   cases e:eD τ x<;>rw[e] at l<;>first | rfl | (simp only[Ey,reduceCtorEq] at l;done)
  rw[hc] at hr;obtain⟨e1,t,y,e2⟩:=LL l hr;refine JB (PX:=AP G PS) hs q hl (t:=t) (u:=y) (e1.trans e2) ⟨j.kp,by rw[<-e2];exact m,LD j.tl p fun k g t cs _ e=>e,fun s e=>⟨M,BV j.tl,by rw[<-e2];exact r s e⟩⟩ hQ
theorem Gv (f:aN L ρ a) (b:TS G F L ρ M τ) (d:Option Nat):∃ρ',aN L ρ' a/\TS G F L ρ' M (tT d τ):=by
 cases d with
 | none=>exact⟨ρ,f,b⟩
 | some k =>
  have r:∀j,tT (some k) τ j=if j=k then(τ k).acA else τ j:=by
   intro j;simp only[tT];cases h:Nat.beq j k with
   | true=>have:=vz h;simp[this]
   | false=>have:=gF h;simp[this]
  by_cases c:∃m off,τ k=.ownv m off
  ·obtain⟨m,off,c⟩:=c;have n:=b.env k;rw[c] at n;simp only[bh,Rel] at n;obtain⟨v,l,g,t,cs,p,rfl⟩:=n;have s:conc L (ρ k)=.pointer (some ⟨g,off,none⟩):=l.conc;refine⟨Fr.put (some k) (.own m off) ρ,⟨fun q=>?_,fun q j o e=>?_,fun q u j e=>?_⟩,b.tl,fun j=>?_,b.kp,b.glob⟩
   ·rw[f.eq q,put_eq];simp only[];split
    ·rename_i h;subst h;rw[s];simp only[conc,p]
    ·rfl
   ·rw[put_eq] at e;simp only[] at e;split at e
    ·injection e with q1 q2;subst q1;exact⟨g,t,cs,p⟩
    ·exact f.own _ _ _ e
   ·rw[put_eq] at e;simp only[] at e;split at e
    ·cases e
    ·exact f.el _ _ _ e
   ·rw[r,put_eq];simp only[];split
    ·rw[c];exact⟨rfl,g,t,cs,p⟩
    ·exact b.env j
  ·refine⟨ρ,f,b.tl,fun j=>?_,b.kp,b.glob⟩;rw[r];split
   ·rename_i h;subst h;have:(τ j).acA=τ j:=by
     cases e:τ j<;>first | rfl | exact s6 ⟨_,_,e⟩ c
    rw[this];exact b.env j
   ·exact b.env j
def vF (G:Nat->Option (Nat×TypeId)) (PS:qX) (ks:List Nat):Prop:=∀k∈ks,G k≠none->1000<=k\/gS (PS.hb.map (·.1)) k=true
theorem vF.left {ks b:List Nat}(h:vF G PS (ks++b)):vF G PS ks:=fun k c=>h k (acN.2 (.inl c))
theorem vF.right {ks b:List Nat}(h:vF G PS (ks++b)):vF G PS b:=fun k c=>h k (acN.2 (.inr c))
theorem nJ:∀(a b:List aB),eT (a++b)=eT a++eT b
 | [],b=>rfl
 | .frz k::a,b=>by simp only[acW,eT,nJ a b]
 | .op _ _ _::a,b=>by simp only[acW,eT,nJ a b]
 | .pc _ _ _::a,b=>by simp only[acW,eT,nJ a b]
theorem EK {k:Nat}{K:TK}{q:TL->bg->TK->Prop}(r:St F L w) (s:aN L ρ a) (p:TS G F L ρ M τ) (u:G k≠none->1000<=k\/gS (PS.hb.map (·.1)) k=true) (h:stepT P PS false (.frz k) q M τ K) :
  ∃F' L' ρ' M' b,St F' L' w/\aN L' ρ' a/\Step F L w F' L' w/\TS G F' L' ρ' M' b/\q M' b K:=by
 simp only[stepT,hO] at h;split at h
 ·rename_i t sz els c;obtain⟨F1,L1,l,j,m,d,_⟩:=uK r s p c;exact⟨F1,L1,ρ,_,_,l,j,m,d,h⟩
 ·rename_i t cs c;split at h
  case h_2=>exact h.elim
  rename_i y z v e4;have n:G k=none:=by
   cases e:G k with
   | none=>rfl
   | some x =>
    rcases u (by rw[e];simp) with h1 | h1
    ·rw[Nat.blt_eq] at v;omega
    ·rw[e4] at h1;cases h1
  obtain⟨F1,L1,f,l,j,m,d⟩:=Gt r s p c y z n;exact⟨F1,L1,f,_,_,l,j,m,d,h⟩
 ·exact h.elim
theorem zP {A:cE}{r:Nat}{l:Array Oper}{K:TK}:∀(is:List Nat) {ss:List aB}{F:aJ}{L:Loc}{ρ:Env}{M:TL}{τ:bg}{a:Act}{w:World},rC P A r l is=some ss->vF G PS (eT ss)->St F L w->aN L ρ a->TS G F L ρ M τ->a.tmps.size=A.n ->
  eS P PS false ss M τ K->(∀a' w',fH A.n F L w a (dstsOf l is) (Both G K) a' w'->Q .normal a' w') ->
  (∀v ch a' w',FZ v ch->tP A.n F L w a (dstsOf l is) (AP G PS) v a' w'->Q (.panic ch) a' w')->wpOps P l Q is a w:=by
 intro is
 induction is with
 | nil =>
  intro ss F L ρ M τ a w hl bx hs he ht hn q hQ ba;simp only[rC,w7] at hl;subst hl;exact hQ a w ⟨F,L,ρ,hs,he,hn,rfl,Step.refl _ _ _,fun _ _=>rfl,M,τ,ht,q⟩
 | cons i is ih =>
  intro ss F L ρ M τ a w hl bx hs he ht hn q hQ ba;simp only[rC] at hl;split at hl
  case h_1=>cases hl
  rename_i o hi;split at hl
  case h_2=>cases hl
  rename_i g s z hg cb bo aw;injection hl with hl
  subst hl;have ar:∀(ks:List Nat) {x:aB}{F:aJ}{L:Loc}{ρ:Env}{M:TL}{τ:bg},vF G PS (eT (ks.map aB.frz++x::z))->St F L w->aN L ρ a->TS G F L ρ M τ->eS P PS false (ks.map aB.frz++x::z) M τ K ->
    ∃F' L' ρ' M' ac,St F' L' w/\aN L' ρ' a/\Step F L w F' L' w/\TS G F' L' ρ' M' ac/\eS P PS false (x::z) M' ac K:=by
   intro ks
   induction ks with
   | nil=>intro x F L ρ M τ _ hs he ht h;exact⟨F,L,ρ,M,τ,hs,he,Step.refl _ _ _,ht,h⟩
   | cons k ks cy =>
    intro x F L ρ M τ hz hs he ht h;simp only[acU,acW,gB] at h;obtain⟨F1,L1,cc,M1,u,g1,g2,g3,g4,h⟩:=EK hs he ht (hz k (by simp[eT])) h;obtain⟨F2,L2,cf,M2,co,k1,k2,k3,k4,k5⟩:=cy (fun j hj=>hz j (by simp only[acU,acW,eT];exact adb _ hj)) g1 g2 g4 h;exact⟨F2,L2,cf,M2,co,k1,k2,g3.trans k3,k4,k5⟩
  have bk:vF G PS (eT z):=fun j hj=>bx j (by
   rw[nJ];refine acN.2 (.inr ?_);cases hp:wS A.pan r i<;>simp only[oW,eT]<;>exact hj)
  obtain⟨F1,L1,cc,M1,u,bz,ae,am,m,q⟩:=ar _ bx hs he ht q
  clear ar he ht
  revert ae m
  generalize cc=ρ;intro ae m;have hd:∀k,o.dst=some k->k<a.tmps.size:=by
   intro k hk;rw[hk] at bo;rw[hn];have h2:Nat.blt k A.n=true:=bo;simpa using h2
  have bt:dstsOf l (i::is)=match o.dst with | some d=>d::dstsOf l is | none=>dstsOf l is:=by
   simp only[dstsOf,hi,Option.bind_some];rfl
  have ak:∀j,j∉dstsOf l (i::is)->o.dst≠some j/\j∉dstsOf l is:=by
   intro j hj;rw[bt] at hj;cases ho:o.dst with
   | none=>rw[ho] at hj;exact⟨by simp,hj⟩
   | some d =>
    rw[ho] at hj;simp only[acQ,not_or] at hj;exact⟨by simp;exact fun e=>hj.1 e.symm,hj.2⟩
  have after:∀{KK:Prop},o.wp P a w (fun a' w'=>bX F1 L1 w a (Both G fun M' ac=>eS P PS false z M' (tT o.dst ac) K) a' w') Q->o.wp P a w (wpOps P l Q is) Q:=by
   intro _ this;refine Oper.wp_mono ?_ (rD (asg:=[]) this);rintro a' w' ⟨⟨F',L',ρ',g1,g2,g3,g4,g5,M',ac,g6,g7⟩,ce⟩;obtain⟨cf,n1,n2⟩:=Gv g2 g6 o.dst;refine ih aw bk g1 n1 n2 (by rw[g3,hn]) g7 ?_ ?_
   ·rintro an ao ⟨F'',L'',az,k1,k2,k3,k4,k5,k6,k7⟩;refine hQ an ao ⟨F'',L'',az,k1,k2,k3,k4.trans g4,(am.trans g5).trans k5,fun j hj=>?_,k7⟩;obtain⟨n1,n2⟩:=ak j hj;rw[k6 j n2,ce j n1]
   ·rintro v ch an ao kc ⟨F'',L'',k1,k2,k3,k4,k5,k6⟩;refine ba v ch an ao kc ⟨F'',L'',k1,(am.trans g5).trans k2,k3,k4.trans g4,fun j hj=>?_,k6⟩;obtain⟨n1,n2⟩:=ak j hj;rw[k5 j n2,ce j n1]
  have av:∀{u:bg},TS G F1 L1 ρ M1 u->cV P s o.dst M1 u (fun M' ac=>eS P PS false z M' (tT o.dst ac) K)->o.wp P a w (wpOps P l Q is) Q:=by
   intro u m q;exact after (KK:=True) (JM (Q:=Q) bz ae m hd cb q)
  have ap:∀{u:bg},TS G F1 L1 ρ M1 u->wo P PS s o.dst M1 u (fun M' ac=>eS P PS false z M' (tT o.dst ac) K)->o.wp P a w (wpOps P l Q is) Q:=by
   intro u m q;exact after (KK:=True) (JN (Q:=Q) bz ae m hd cb q fun v ch w' F' L' qc q1 q2 q3=>ba v ch a w' qc ⟨F',L',q1,am.trans q2,hn,rfl,fun _ _=>rfl,q3⟩)
  have skip:∀{u:bg},TS G F1 L1 ρ M1 u->eS P PS false z M1 (bV o.dst .und u) K->wpOps P l Q is (a.put o.dst undef) w:=by
   intro u m q;have cw:=ae.put hd (v:=undef) (x:=.v undef) rfl dA fS (u9 L1);refine ih aw bk bz cw (m.put (c:=.und) (sv:=.v undef) ⟨_,rfl,by simp only[Rel]⟩ o.dst) (by rw[mD,hn]) q ?_ ?_
   ·rintro an ao ⟨F'',L'',az,k1,k2,k3,k4,k5,k6,k7⟩;refine hQ an ao ⟨F'',L'',az,k1,k2,k3,k4.trans (iL _ _ _),am.trans k5,fun j hj=>?_,k7⟩;obtain⟨n1,n2⟩:=ak j hj;rw[k6 j n2,lT n1]
   ·rintro v ch an ao kc ⟨F'',L'',k1,k2,k3,k4,k5,k6⟩;refine ba v ch an ao kc ⟨F'',L'',k1,am.trans k2,k3,k4.trans (iL _ _ _),fun j hj=>?_,k6⟩;obtain⟨n1,n2⟩:=ak j hj;rw[k5 j n2,lT n1]
  simp only[wpOps,hi];cases cd:wS A.pan r i with
  | false =>
   rw[cd] at q;cases aa:o.guard with
   | none =>
    rw[aa] at hg;simp only[jl,w7] at hg;subst hg;simp only[oW,gB,stepT] at q;rw[o6 (by simp[Region.wanted,aa])];exact .inl (av m q)
   | some p =>
    obtain⟨j,y⟩:=p;rw[aa] at hg;simp only[jl] at hg;split at hg
    case h_2=>cases hg
    rename_i d ay;injection hg with hg
    subst hg;simp only[oW,gB,stepT] at q;split at q
    ·rename_i b hb;have al:ρ d=.v (.bool b):=jq (x:=.t d) m.env hb;have f:=ae.eq d;rw[al] at f;have hy:yielded l a.tmps j=some b:=by
      simp only[yielded,ay,Option.bind_some,sN f]
     have hw:Region.wanted o (yielded l a.tmps)=(b == y):=by
      simp only[Region.wanted,aa,hy];cases b<;>cases y<;>rfl
     have ag:TS G F1 L1 ρ M1 (bV (some d) (.bool b) u):=by
      have:=m.put (c:=.bool b) (sv:=.v (.bool b)) ⟨_,rfl,by simp only[Rel]⟩ (some d)
      rwa [mE al] at this
     rw[hw];cases b<;>simp only[yU] at q
     ·cases y
      ·exact .inl (av ag q)
      ·exact skip ag q
     ·cases y
      ·exact skip ag q
      ·exact .inl (av ag q)
    ·rename_i hb;have hr:=m.env d;rw[hb] at hr;simp only[bh,Rel] at hr;obtain⟨v,al,rfl⟩:=hr;have f:=ae.eq d;rw[al] at f;have hy:yielded l a.tmps j=none:=by
      simp only[yielded,ay,Option.bind_some];rw[adf] at f;cases e:a.tmps[d]? with
      | none=>rfl
      | some v=>rw[e] at f;simp only[Option.getD_some,conc] at f;rw[f];rfl
     have hw:Region.wanted o (yielded l a.tmps)=false:=by
      simp only[Region.wanted,aa,hy];rfl
     rw[hw];exact skip m q
    ·exact q.elim
  | true =>
   rw[cd] at q;cases aa:o.guard with
   | none =>
    rw[aa] at hg;simp only[jl,w7] at hg;subst hg;simp only[oW,gB,stepT] at q;rw[o6 (by simp[Region.wanted,aa])];exact .inl (ap m q)
   | some p =>
    obtain⟨j,y⟩:=p;rw[aa] at hg;simp only[jl] at hg;split at hg
    case h_2=>cases hg
    rename_i d ay;injection hg with hg
    subst hg;simp only[oW,gB,stepT] at q;split at q
    ·rename_i b _ hb;have al:ρ d=.v (.bool b):=jq (x:=.t d) m.env hb;have f:=ae.eq d;rw[al] at f;have hy:yielded l a.tmps j=some b:=by
      simp only[yielded,ay,Option.bind_some,sN f]
     have hw:Region.wanted o (yielded l a.tmps)=(b == y):=by
      simp only[Region.wanted,aa,hy];cases b<;>cases y<;>rfl
     have ag:TS G F1 L1 ρ M1 (bV (some d) (.bool b) u):=by
      have:=m.put (c:=.bool b) (sv:=.v (.bool b)) ⟨_,rfl,by simp only[Rel]⟩ (some d)
      rwa [mE al] at this
     rw[hw];cases b<;>simp only[yU] at q
     ·cases y
      ·exact .inl (ap ag q)
      ·exact skip ag q
     ·cases y
      ·exact skip ag q
      ·exact .inl (ap ag q)
    ·rename_i hb;have hr:=m.env d;rw[hb] at hr;simp only[bh,Rel] at hr;obtain⟨v,al,rfl⟩:=hr;have f:=ae.eq d;rw[al] at f;have hy:yielded l a.tmps j=none:=by
      simp only[yielded,ay,Option.bind_some];rw[adf] at f;cases e:a.tmps[d]? with
      | none=>rfl
      | some v=>rw[e] at f;simp only[Option.getD_some,conc] at f;rw[f];rfl
     have hw:Region.wanted o (yielded l a.tmps)=false:=by
      simp only[Region.wanted,aa,hy];rfl
     rw[hw];exact skip m q
    ·exact q.elim
theorem rV:bh F L .und (.v undef):=⟨_,rfl,by simp only[Rel]⟩
theorem zQ {o:fD}{d:Option Nat}{F:aJ}{L:Loc}{ρ:Env}{K K':dP}(h:evalOp P o d F L ρ K) (p:∀F' L' ρ',K F' L' ρ'->K' F' L' ρ'):evalOp P o d F L ρ K':=by
 cases o
 case box t x =>
  simp only[evalOp] at h ⊢;cases d with
  | none=>exact h.elim
  | some k =>
   simp only[] at h ⊢;generalize L.get k=z at h ⊢;cases z with
   | none=>exact fun g=>p _ _ _ (h g)
   | some _=>exact h.elim
 case boxD t x =>
  simp only[evalOp] at h ⊢;cases d with
  | none=>exact h.elim
  | some k =>
   simp only[] at h ⊢;generalize L.get k=z at h ⊢;cases z with
   | none=>exact fun g r=>p _ _ _ (h g r)
   | some _=>exact h.elim
 case boxF t x=>exact fun g F' a b=>p _ _ _ (h g F' a b)
 case alloc t z =>
  simp only[evalOp] at h ⊢;cases d with
  | none=>exact h.elim
  | some k =>
   simp only[] at h ⊢;generalize L.get k=z at h ⊢;cases z with
   | none=>exact fun g=>p _ _ _ (h g)
   | some _=>exact h.elim
 case allocD t z =>
  simp only[evalOp] at h ⊢;cases d with
  | none=>exact h.elim
  | some k =>
   simp only[] at h ⊢;generalize L.get k=z at h ⊢;cases z with
   | none=>exact fun g r=>p _ _ _ (h g r)
   | some _=>exact h.elim
 case mkF e n sz xs =>
  simp only[evalOp] at h ⊢;generalize gD L ρ sz xs=z at h ⊢;cases z with
  | true=>exact fun g F' a b=>p _ _ _ (h g F' a b)
  | false=>exact h.elim
 case mkFD e n sz xs =>
  simp only[evalOp] at h ⊢;generalize gD L ρ sz xs=z at h ⊢;cases z with
  | true=>exact fun g F' a b c=>p _ _ _ (h g F' a b c)
  | false=>exact h.elim
 case mkR e n sz xs =>
  simp only[evalOp] at h ⊢;generalize gD L ρ sz xs=z at h ⊢;cases z with
  | false=>exact h.elim
  | true =>
   cases d with
   | none=>exact h.elim
   | some k =>
    simp only[] at h ⊢;generalize L.get k=z at h ⊢;cases z with
    | none=>exact fun g=>p _ _ _ (h g)
    | some _=>exact h.elim
 case makeS e sz b zs l c =>
  simp only[evalOp] at h ⊢;generalize ev ρ l=z1 at h ⊢;generalize ev ρ c=z2 at h ⊢;split at h
  ·rename_i k;generalize L.get k=z at h ⊢;cases z with
   | none=>exact⟨h.lo,h.le,h.hi,h.max,fun g=>p _ _ _ (h.out g)⟩
   | some _=>exact h.elim
  ·exact h.elim
 case store n a x =>
  simp only[evalOp] at h ⊢;generalize iV (aZ (val L ρ x)) n=z1 at h ⊢;generalize mC (aZ (val L ρ x))=z2 at h ⊢;generalize ev ρ a=z3 at h ⊢;split at h
  ·rename_i k off;generalize L.get k=z at h ⊢;split at h
   ·rename_i t cs;generalize kN t ((cs.drop off).take n) n=b at h ⊢;cases b
    ·exact h.elim
    ·exact p _ _ _ h
   ·exact h.elim
  ·exact⟨h.out.imp (fun h=>⟨let⟨k,v,t,sz,m,xs,ad,c,u,q,y,h4,h5,h6⟩:=h.out;⟨k,v,t,sz,m,xs,ad,c,u,q,y,h4,h5,p _ _ _ h6⟩⟩) fun⟨q1,q2,q3⟩=>⟨q1,q2,p _ _ _ q3⟩⟩
  ·exact⟨h.out.imp (fun h=>⟨let⟨k,v,t,sz,m,xs,ad,c,u,q,y,h4,h5,h6⟩:=h.out;⟨k,v,t,sz,m,xs,ad,c,u,q,y,h4,h5,p _ _ _ h6⟩⟩) fun⟨q1,q2,q3⟩=>⟨q1,q2,p _ _ _ q3⟩⟩
  ·exact h.elim
 case storeD n a x =>
  simp only[evalOp] at h ⊢;generalize iV (aZ (val L ρ x)) n=z1 at h ⊢;generalize mC (aZ (val L ρ x))=z2 at h ⊢;generalize ev ρ a=z3 at h ⊢;split at h
  ·rename_i k off;generalize L.get k=z at h ⊢;split at h
   ·rename_i t cs;generalize kN t ((cs.drop off).take n) n=b at h ⊢;cases b
    ·exact h.elim
    ·exact p _ _ _ h
   ·exact h.elim
  ·exact h.elim
 case storeK key n a x =>
  obtain⟨n',a',x',k,off,g,t,cs,ho,e1,e2,e3,e4,e5,h⟩:=jy rfl h;exact jn ho e1 e2 e3 e4 e5 (p _ _ _ h)
 case makeSD e sz n zs =>
  simp only[evalOp] at h ⊢;cases d with
  | none=>exact h.elim
  | some k =>
   simp only[] at h ⊢;split at h
   ·exact fun g r=>p _ _ _ (h g r)
   ·exact h.elim
 case makeSV e sz b zs x =>
  simp only[evalOp] at h ⊢;cases d with
  | none=>exact h.elim
  | some k =>
   simp only[] at h ⊢;split at h
   ·exact fun g r=>p _ _ _ (h g r)
   ·exact h.elim
 case call f args =>
  simp only[evalOp] at h ⊢;exact eX.imp h fun _ _ _ h=>p _ _ _ h
 case callV f args =>
  simp only[evalOp] at h ⊢;generalize oF P (ev ρ f)=z at h ⊢;split at h
  ·exact eX.imp h fun _ _ _ h=>p _ _ _ h
  ·generalize Bt P (ev ρ f) (bQ L ρ args)=z at h ⊢;split at h
   ·exact eX.imp h fun _ _ _ h=>p _ _ _ h
   ·exact h.elim
 case callO f args =>
  simp only[evalOp] at h ⊢;exact eX.imp h fun _ _ _ h r=>p _ _ _ (h r)
 case callD f args =>
  simp only[evalOp] at h ⊢;exact fq.imp' h fun _ _ _ h=>p _ _ _ h
 case callVD f args =>
  simp only[evalOp] at h ⊢;generalize oF P (ev ρ f)=z at h ⊢;split at h
  ·exact fq.imp' h fun _ _ _ h=>p _ _ _ h
  ·exact h.elim
 case app e sz b zs s x =>
  simp only[evalOp] at h ⊢;generalize ev ρ s=z1 at h ⊢;generalize ev ρ x=z2 at h ⊢;split at h
  ·exact⟨let⟨kd,n,xs,m,news,u,q,y,h4,h5,h6⟩:=h.out;⟨kd,n,xs,m,news,u,q,y,h4,h5,fun v hv=>p _ _ _ (h6 v hv)⟩⟩
  ·exact h.elim
 case appD e sz b zs s x =>
  simp only[evalOp] at h ⊢;generalize ev ρ s=z1 at h ⊢;generalize ev ρ x=z2 at h ⊢;split at h
  ·exact⟨let⟨kd,n,xs,m,news,u,q,y,h4,h5,h6⟩:=h.out;⟨kd,n,xs,m,news,u,q,y,h4,h5,fun v hv r=>p _ _ _ (h6 v hv r)⟩⟩
  ·exact h.elim
 case appZ e b ki s x =>
  simp only[evalOp] at h ⊢;generalize ev ρ s=z1 at h ⊢;generalize ev ρ x=z2 at h ⊢;split at h
  ·split at h
   ·exact⟨let⟨kd,n,xs,u,q,y,h4⟩:=h.out;⟨kd,n,xs,u,q,y,fun v hv=>p _ _ _ (h4 v hv)⟩⟩
   ·exact h.elim
  ·exact h.elim
 case copy e sz dd x =>
  simp only[evalOp] at h ⊢;generalize ev ρ dd=z1 at h ⊢;generalize ev ρ x=z2 at h ⊢;split at h
  ·exact⟨let⟨k,n,v,nr,xs,ad,cr,cd,j,u,q,y,h4,h5⟩:=h.out;⟨k,n,v,nr,xs,ad,cr,cd,j,u,q,y,h4,p _ _ _ h5⟩⟩
  ·obtain⟨⟨k,n,v,nr,xs,ad,cr,cd,j,m,a,c,news,u,q,y,h4,h5,h6,h7,h8,h9⟩ | ⟨da,n,cd,a,m,c,u,q,y,h9⟩⟩:=h
   ·exact⟨.inl ⟨k,n,v,nr,xs,ad,cr,cd,j,m,a,c,news,u,q,y,h4,h5,h6,h7,h8,p _ _ _ h9⟩⟩
   ·exact⟨.inr ⟨da,n,cd,a,m,c,u,q,y,p _ _ _ h9⟩⟩
  ·exact h.elim
 case copyX e sz dd x =>
  simp only[evalOp] at h ⊢;generalize ev ρ dd=z1 at h ⊢;generalize ev ρ x=z2 at h ⊢;split at h
  ·obtain⟨⟨k,n,v,nr,xs,ad,cr,cd,j,m,a,c,news,u,q,y,h4,h5,h6,h7,h8,h9⟩ | ⟨da,n,cd,a,m,c,u,q,y,h9⟩⟩:=h
   ·exact⟨.inl ⟨k,n,v,nr,xs,ad,cr,cd,j,m,a,c,news,u,q,y,h4,h5,h6,h7,h8,fun r=>p _ _ _ (h9 r)⟩⟩
   ·exact⟨.inr ⟨da,n,cd,a,m,c,u,q,y,fun r=>p _ _ _ (h9 r)⟩⟩
  ·exact h.elim
 case pan x=>simp only[evalOp] at h
 case dead=>simp only[evalOp] at h
 all_goals
  simp only[evalOp] at h ⊢;exact EJ h fun v h=>p _ _ _ h
theorem Gw {s s':fD}(h:drawn s=some s'):l7 s'=false:=by
 cases s<;>simp only[drawn,w7,reduceCtorEq] at h<;>subst h<;>rfl
theorem EL {bx:List Nat}{s s':fD}(h:oZ bx s=some s'):l7 s'=false:=by
 unfold oZ at h;split at h
 ·split at h
  ·split at h
   ·injection h with h;subst h;rfl
   ·cases h
  ·split at h
   ·split at h
    ·injection h with h;subst h;rfl
    ·cases h
   ·cases h
 ·injection h with h;subst h;rfl
 ·split at h<;>(injection h with h;subst h;rfl)
 ·split at h<;>(injection h with h;subst h;rfl)
 ·exact Gw h
theorem EM {fl bx:List Nat}{bk:List (Nat×Nat)}{s s':fD}(h:v7 fl bk bx s=some s'):l7 s'=false:=by
 rcases zk h with h | ⟨a,n,i,rfl,rfl⟩ | ⟨a,n,i,key,rfl,rfl⟩ | ⟨a,n,i,rfl,rfl⟩ | ⟨i,rfl,rfl⟩
 ·exact EL h
 ·rfl
 ·rfl
 ·rfl
 ·rfl
theorem EN {s s':fD}(h:zh s=some s'):l7 s'=false:=by
 cases s<;>simp only[zh,w7,reduceCtorEq] at h<;>subst h<;>rfl
theorem xj {A:cE}{f:Array Oper}:∀{is:List Nat}{ss:List aB},fZ P A f is=some ss->∀s∈ss,(∃d o g,s=.op d o g/\l7 o=false)\/∃d o,s=.pc d o none/\Eo o=true:=by
 intro is
 induction is with
 | nil=>intro ss h s e;simp only[fZ,w7] at h;subst h;cases e
 | cons i is l =>
  intro ss h s e;simp only[fZ] at h;split at h
  case h_2=>cases h
  rename_i m k b j;injection h with h
  subst h;rcases acQ.1 e with rfl | e
  ·unfold CM at b;split at b
   case h_1=>cases b
   split at b
   case h_2=>cases b
   split at b
   ·split at b
    case h_3=>cases b
    ·injection b with b
     exact .inr ⟨_,_,b.symm,rfl⟩
    ·injection b with b
     exact .inr ⟨_,_,b.symm,rfl⟩
   ·split at b
    ·split at b
     case h_2=>cases b
     rename_i s' c;injection b with b
     exact .inl ⟨_,s',_,b.symm,EN c⟩
    ·split at b
     case h_2=>cases b
     rename_i s' c;split at b
     case h_2=>cases b
     injection b with b
     exact .inl ⟨_,s',_,b.symm,EM c⟩
  ·exact l j s e
theorem EO:∀{ss:List aB},HC ss=true->∀d o g,aB.pc d o g∉ss
 | [],_,d,o,g,h=>by cases h
 | .op _ _ _::l,b,d,o,g,h=>by
  rcases acQ.1 h with h | h
  ·cases h
  ·exact EO (ss:=l) b d o g h
 | .frz _::l,b,d,o,g,h=>by cases b
 | .pc _ _ _::l,b,d,o,g,h=>by cases b
theorem JO {A:cE}{b:Array Oper}{is:List Nat}{ss:List aB}(f:fZ P A b is=some ss) (e:HC ss=true):∀s∈ss,∃d o g,s=.op d o g/\l7 o=false:=by
 intro s c;rcases xj f s c with h | ⟨d,o,rfl,_⟩
 ·exact h
 ·exact s6 c (EO e _ _ _)
theorem zR {K:TK}:∀(ss:List aB),(∀s∈ss,∃d o g,s=aB.op d o g/\l7 o=false)->∀{F:aJ}{L:Loc}{ρ:Env}{M:TL}{τ:bg},TS G F L ρ M τ->eS P PS true ss M τ K->bH P ss F L ρ (Both G K)
 | [],_,F,L,ρ,M,τ,c,h=>⟨M,τ,c,h⟩
 | s::ss,q,F,L,ρ,M,τ,c,h=>by
  obtain⟨d,o,g,rfl,y⟩:=q s (by simp);have j:∀s∈ss,∃d o g,s=aB.op d o g/\l7 o=false:=fun s z=>q s (by simp[z]);have e:∀{ρ:Env}{τ:bg},TS G F L ρ M τ->cV P o d M τ (fun M' m=>eS P PS true ss M' m K)->evalOp P o d F L ρ (fun F' L' ρ'=>bH P ss F' L' ρ' (Both G K)):=by
   intro ρ τ c h;have:=LK y c h;exact zQ this fun F' L' ρ' ⟨M',m,h1,u⟩=>zR ss j h1 u
  cases g with
  | none =>
   simp only[gB,stepT] at h;simp only[bH];exact e c h
  | some p =>
   obtain⟨s,l⟩:=p;simp only[gB,stepT] at h;simp only[bH];split at h
   ·rename_i b hb;have k:ρ s=.v (.bool b):=jq (x:=.t s) c.env hb;simp only[k];have f:∀b',b=b'->TS G F L (Fr.put (some s) (.v (.bool b')) ρ) M (bV (some s) (.bool b') τ):=fun b' _=>c.put gX (some s);have r:∀{ρ:Env}{τ:bg},TS G F L ρ M τ->TS G F L (Fr.put d (.v undef) ρ) M (bV d .und τ):=fun c=>c.put rV d;cases b<;>simp only[yU] at h ⊢<;>cases l<;>simp only[] at h ⊢
    ·exact e (f _ rfl) h
    ·exact zR ss j (r (f _ rfl)) h
    ·exact zR ss j (r (f _ rfl)) h
    ·exact e (f _ rfl) h
   ·rename_i hb;have n:=c.env s;rw[hb] at n;simp only[bh,Rel] at n;obtain⟨v,k,rfl⟩:=n;simp only[k,undef];exact zR ss j (c.put rV d) h
   ·exact h.elim
theorem s9:∀{ss:List aB},BM ss M=true->∀s∈ss,∀k,vn s=some k->M.get k=none
 | [],_,s,b,_,_=>by cases b
 | x::l,h,s,b,k,e=>by
  unfold BM at h;rcases acQ.1 b with rfl | b
  ·rw[e] at h;simp only[] at h;cases c:M.get k with
   | none=>rfl
   | some o=>rw[c] at h;cases h
  ·split at h
   ·exact s9 h s b k e
   ·split at h
    ·exact s9 h s b k e
    ·cases h
theorem nK {K:TK}{fb:List Nat}:∀(ss:List aB),(∀s∈ss,(∃d o g,s=aB.op d o g/\l7 o=false)\/∃d o,s=aB.pc d o none/\Eo o=true)->∀{F:aJ}{L:Loc}{ρ:Env}{M:TL}{τ:bg},TS G F L ρ M τ->lX P PS fb ss M τ K->bO P (AP G PS) fb ss F L ρ (Both G K)
 | [],_,F,L,ρ,M,τ,e,h=>⟨M,τ,e,h⟩
 | s::ss,hc,F,L,ρ,M,τ,e,h=>by
  have m:∀s∈ss,(∃d o g,s=aB.op d o g/\l7 o=false)\/∃d o,s=aB.pc d o none/\Eo o=true:=fun s hs=>hc s (by simp[hs]);rcases hc s (by simp) with⟨d,o,g,rfl,ho⟩ | ⟨d,o,rfl,ho⟩
  case inr =>
   cases o<;>simp only[Eo,acZ] at ho
   ·rename_i f l;simp only[kX,BN,Gn,hO,gA,fN] at h;simp only[bO,tD];split at h
    case h_1 =>
     rename_i st j;refine(rS e (dV e.env l) (show PS=⟨PS.ps,PS.hb,some st⟩ by rw[<-j]) h).imp fun F' L' v _ _ _ _ _ h=>?_;obtain⟨M',n,c,r,q,z⟩:=h;exact nK ss m (r.put q d) z
    rename_i j;refine(qA e (dV e.env l) h j).imp fun F' L' v _ _ _ _ _ h=>?_;obtain⟨M',n,c,r,q,z⟩:=h;exact nK ss m (r.put q d) z
   ·rename_i fx l;simp only[kX,BN,Gn] at h;split at h
    ·rename_i f fi ca hx;simp only[hO,gA,fN] at h;obtain⟨ap,ar,e1,r,q⟩:=zB e.env hx;simp only[bO,tD,e1,oF];split at h
     case h_1 =>
      rename_i st j;refine(rS e (nT e.env r q l) (show PS=⟨PS.ps,PS.hb,some st⟩ by rw[<-j]) h).imp fun F' L' v _ _ _ _ _ h=>?_;obtain⟨M',n,c,r,q,z⟩:=h;exact nK ss m (r.put q d) z
     rename_i j;refine(qA e (nT e.env r q l) h j).imp fun F' L' v _ _ _ _ _ h=>?_;obtain⟨M',n,c,r,q,z⟩:=h;exact nK ss m (r.put q d) z
    ·rename_i nm t k off hx;simp only[hO,gA,fN] at h;obtain⟨g,t',cs,hg,e1⟩:=qp e.env hx;obtain⟨f',hm,h⟩:=h;have y:aK F L (.own k off::fB τ l) ([.pointer (some ⟨g,off,none⟩)]++bQ L ρ l++[]):=by
      rw[acT];simp only[acW,acX,aK,Rel];exact⟨_,_,rfl,⟨g,t',cs,hg,rfl⟩,dV e.env l⟩
     simp only[bO,tD,e1,Ew,oF,hm];split at h
     case h_1 =>
      rename_i st j;refine(rS e y (show PS=⟨PS.ps,PS.hb,some st⟩ by rw[<-j]) h).imp fun F' L' v _ _ _ _ _ h=>?_;obtain⟨M',n,c,r,q,z⟩:=h;exact nK ss m (r.put q d) z
     rename_i j;refine(qA e y h j).imp fun F' L' v _ _ _ _ _ h=>?_;obtain⟨M',n,c,r,q,z⟩:=h;exact nK ss m (r.put q d) z
    ·exact h.elim
  have u:∀{ρ:Env}{τ:bg},TS G F L ρ M τ->cV P o d M τ (fun M' n=>lX P PS fb ss M' n K)->evalOp P o d F L ρ (fun F' L' ρ'=>bO P (AP G PS) fb ss F' L' ρ' (Both G K)):=by
   intro ρ τ e h;have:=LK ho e h;exact zQ this fun F' L' ρ' ⟨M',n,r,q⟩=>nK ss m r q
  cases g with
  | none =>
   simp only[kX,BN,stepT] at h;exact⟨o,rfl,u e h⟩
  | some p =>
   obtain⟨s,ad⟩:=p;simp only[kX,BN,stepT] at h;simp only[bO,res];have hu:∀{ρ:Env}{τ:bg},TS G F L ρ M τ->TS G F L (Fr.put d (.v undef) ρ) M (bV d .und τ):=fun e=>e.put rV d;have skip:∀{ρ:Env}{τ:bg},TS G F L ρ M τ->lX P PS fb ss M (bV d .und τ) K->evalOp P jo d F L ρ (fun F' L' ρ'=>bO P (AP G PS) fb ss F' L' ρ' (Both G K)):=by
    intro ρ τ e h;simp only[jo,evalOp,aV,ev];exact nK ss m (hu e) h
   split at h
   ·rename_i b hb;have ab:ρ s=.v (.bool b):=jq (x:=.t s) e.env hb;have aa:TS G F L ρ M (bV (some s) (.bool b) τ):=by
     have:=e.put (gX (b:=b)) (some s)
     rwa [Fr.mE ab] at this
    simp only[ab];cases b<;>simp only[yU] at h ⊢<;>cases ad<;>simp only[reduceCtorEq,↓reduceIte,w7,exists_eq_left'] at h ⊢
    ·exact u aa h
    ·exact skip aa h
    ·exact skip aa h
    ·exact u aa h
   ·rename_i hb;have hr:=e.env s;rw[hb] at hr;simp only[bh,Rel] at hr;obtain⟨v,ab,rfl⟩:=hr;simp only[ab,undef,w7,exists_eq_left'];exact skip e h
   ·exact h.elim
theorem EP:∀(b:List Nat) (vs:List C) (τ:bg) (j:Nat),qO b vs τ j=τ j\/∃(i:Nat) (c:C),b[i]?=some j/\vs[i]?=some c/\qO b vs τ j=c
 | [],vs,τ,j=>.inl rfl
 | k::b,[],τ,j=>.inl rfl
 | k::b,v::vs,τ,j=>by
  simp only[qO,C3];split
  ·rename_i h;subst h;exact .inr ⟨0,v,by simp,by simp,rfl⟩
  ·rcases EP b vs τ j with h | ⟨i,c,e,d,f⟩
   ·exact .inl h
   ·exact .inr ⟨i+1,c,by simpa using e,by simpa using d,f⟩
theorem B0 {M1:TL}:∀{b:List Nat}{vs:List C}{τ:bg},mW M M1 b vs τ->∀{i j:Nat}{c:C},b[i]?=some j->vs[i]?=some c->Lb M M1 (τ j) c
 | [],vs,τ,h,i,j,c,e,_=>by simp at e
 | k::b,[],τ,h,i,j,c,_,e=>by simp at e
 | k::b,v::vs,τ,h,i,j,c,d,f=>by
  simp only[mW] at h;cases i with
  | zero=>simp at d f;subst d f;exact h.1
  | succ i=>exact B0 h.2 (by simpa using d) (by simpa using f)
theorem B6 {M1:TL}(l:TS G F L ρ M τ):∀{f:List Nat}{vs:List C},vs.length=f.length->mW M M1 f vs τ->gives M M1 M1->tE vs
 | [],[],_,_,_=>by simp only[tE]
 | [],v::vs,c,_,_=>by simp at c
 | k::f,[],c,_,_=>by simp at c
 | k::f,v::vs,c,h,m=>by
  simp only[mW] at h;simp only[tE];refine⟨?_,B6 l (by simpa using c) h.2 m⟩;have d:=mL (l.env k);rcases h.1 with e | ⟨e,_⟩ | ⟨j,b⟩ | ⟨j,n,t,sz,b,_⟩ | ⟨els,j,b⟩
  ·rw[e];simp only[Wf]
  ·rw[e] at d;have:=d.wf
   revert this
   cases v<;>simp[C.cel,Wf]
  ·rw[b];simp[Wf,vq]
  ·rw[b];simp only[Wf]
  ·rw[j] at d;have:=(wq d).wf;rw[b];exact this
theorem Uv {M:TL}(d:ep F L M):∀{l:TL},(∀k o,l.get k=some o->M.get k=some o)->∀k o,l.get k=some o->o.Wf:=by
 intro l h k o e;rcases fA (d k) with⟨b,_⟩ | ⟨q,p,b,f,c⟩
 ·rw[h k o e] at b;cases b
 ·rw[h k o e] at b;injection b with b
  subst b;exact c.wf
theorem JP {L':Loc}{F':aJ}(l:F.le F') (r:∀k g t cs,L.get k=some (.box g t cs)->∃cs',L'.get k=some (.box g t cs')) :
  (∀c v,C.leaf c=true->Rel F L c v->Rel F' L' (rJ c) v)/\(∀c sv,C.leaf c=true->bh F L c sv->bh F' L' (rJ c) sv):=by
 have hb:∀{k:Nat},(∃g t cs,L.get k=some (.box g t cs))->∀o,L.get k=some o->∃o',L'.get k=some o'/\Own.like o o':=by
  intro k n o p;obtain⟨g,t,cs,n⟩:=n;rw[n] at p;injection p with p
  subst p;obtain⟨cs',h⟩:=r k g t cs n;exact⟨_,h,rfl,rfl⟩
 constructor
 ·intro c v q h;cases c<;>simp only[C.leaf,acZ] at q<;>simp only[rJ]
  case rw=>simp only[Rel]
  case elr=>simp only[Rel]
  case own k off =>
   have d:=h;simp only[Rel] at d;obtain⟨g,t,cs,f,_⟩:=d;refine bU l (fun j e=>?_) rfl h;rcases e with⟨off,e⟩ | e | e | ⟨_,_,_,e⟩ | ⟨_,_,e⟩
   ·injection e with e e2;subst e;exact hb ⟨g,t,cs,f⟩
   ·cases e
   ·cases e
   ·cases e
   ·cases e
  case ifo m ti k off =>
   have d:=h;simp only[Rel] at d;obtain⟨g,t,cs,f,_⟩:=d;refine bU l (fun j e=>?_) rfl h;rcases e with⟨off,e⟩ | e | e | ⟨_,_,_,e⟩ | ⟨_,_,e⟩
   ·cases e
   ·cases e
   ·cases e
   ·injection e with _ _ e;subst e;exact hb ⟨g,t,cs,f⟩
   ·cases e
  case slo k a =>
   have d:=h;simp only[Rel] at d;obtain⟨g,t,cs,s,f,_⟩:=d;exact sQ l (hb ⟨g,t,cs,f⟩) h
  case slp=>simp only[Rel]
  case mpr k =>
   have d:=h;simp only[Rel] at d;obtain⟨g,cs,f,_⟩:=d;refine bU l (fun j e=>?_) rfl h;rcases e with⟨off,e⟩ | e | e | ⟨_,_,_,e⟩ | ⟨_,_,e⟩
   ·cases e
   ·cases e
   ·injection e with e;subst e;exact hb ⟨g,0,cs,f⟩
   ·cases e
   ·cases e
  all_goals
   exact bU l (fun u e=>by rcases e with⟨off,e⟩ | e | e | ⟨_,_,_,e⟩ | ⟨_,_,e⟩<;>cases e) rfl h
 ·intro c sv q h;cases c<;>simp only[C.leaf,acZ] at q<;>simp only[rJ]
  case rw=>trivial
  case elr=>trivial
  case own k off =>
   have d:=h;simp only[bh] at d;refine dU l (fun j e=>?_) rfl h;rcases e with⟨off,e⟩ | ⟨off,e⟩ | e | ⟨a,b,e⟩ | e | ⟨_,_,_,e⟩<;>first | cases e;done | skip
   injection e with e e2
   subst e;exact hb d.2
  case ifo m ti k off =>
   have d:=h;simp only[bh,Rel] at d;obtain⟨v,_,g,t,cs,f,_⟩:=d;refine dU l (fun j e=>?_) rfl h;rcases e with⟨off,e⟩ | ⟨off,e⟩ | e | ⟨a,b,e⟩ | e | ⟨_,_,_,e⟩<;>first | cases e;done | skip
   injection e with _ _ e
   subst e;exact hb ⟨g,t,cs,f⟩
  case ownv k off =>
   have d:=h;simp only[bh,Rel] at d;obtain⟨v,_,g,t,cs,f,_⟩:=d;refine dU l (fun j e=>?_) rfl h;rcases e with⟨off,e⟩ | ⟨off,e⟩ | e | ⟨a,b,e⟩ | e | ⟨_,_,_,e⟩<;>first | cases e;done | skip
   injection e with e e2
   subst e;exact hb ⟨g,t,cs,f⟩
  case slo k a =>
   have d:=h;simp only[bh,Rel] at d;obtain⟨v,_,g,t,cs,s,f,_⟩:=d;exact vu l (hb ⟨g,t,cs,f⟩) h
  case slp=>trivial
  case mpr k =>
   have d:=h;simp only[bh,Rel] at d;obtain⟨v,_,g,cs,f,_⟩:=d;refine dU l (fun j e=>?_) rfl h;rcases e with⟨off,e⟩ | ⟨off,e⟩ | e | ⟨a,b,e⟩ | e | ⟨_,_,_,e⟩<;>first | cases e;done | skip
   injection e with e
   subst e;exact hb ⟨g,0,cs,f⟩
  all_goals
   exact dU l (fun u e=>by rcases e with⟨off,e⟩ | ⟨off,e⟩ | e | ⟨a,b,e⟩ | e | ⟨_,_,_,e⟩<;>cases e) rfl h
def JQ (L:Loc) (c:C) (v:Value):SV:=match c with
 | .own k off=>.own k off
 | .elr k j off=>match L.get k with
  | some (.row (.slice a _ _) _ sz _ _)=>.el a (j*sz+off)
  | _=>.v v
 | _=>.v v
theorem C8 {c:C}{v:Value}(h:Rel F L c v):bh F L c (JQ L c v)/\conc L (JQ L c v)=v/\(∀k off,JQ L c v=.own k off->∃g t cs,L.get k=some (.box g t cs))/\(∀f j,JQ L c v=.el f j->f≠none):=by
 cases c
 case own k off =>
  simp only[Rel] at h;obtain⟨g,t,cs,h,rfl⟩:=h;refine⟨⟨rfl,g,t,cs,h⟩,by simp only[JQ,conc,h],fun l d e=>?_,fun f j e=>(by cases e)⟩;injection e with e1 e2
  subst e1;exact⟨g,t,cs,h⟩
 case pt es off =>
  simp only[Rel] at h;obtain⟨b,o,vs,rfl,m,p⟩:=h;exact⟨⟨b,o,0,vs,.inl ⟨rfl,rfl⟩,m,p⟩,rfl,fun l d e=>(by cases e),fun f j e=>(by cases e)⟩
 case ownv=>exact h.elim
 case slp=>exact h.elim
 case elr k j off =>
  simp only[Rel] at h;obtain⟨f,t,sz,n,c,xs,rfl,h⟩:=h;simp only[JQ,h];exact⟨⟨f,t,sz,n,c,xs,rfl,h⟩,rfl,fun l d e=>(by cases e),fun q r e=>by injection e with e _;subst e;simp⟩
 case any=>exact⟨trivial,rfl,fun l d e=>(by cases e),fun f j e=>(by cases e)⟩
 all_goals
  exact⟨⟨v,rfl,h⟩,rfl,fun l d e=>(by cases e),fun f j e=>(by cases e)⟩
theorem LM {F0:aJ}{L0:Loc}{b:Env}{d:bg}{y n:Act}{asg:List Nat}{r:List Nat}{vs:List C}{L1:Loc}{F1:aJ}(f:aN L0 b y) (u:∀j,bh F0 L0 (d j) (b j)) (hF:F0.le F1)
  (hb:∀k g t cs,L0.get k=some (.box g t cs)->∃cs',L1.get k=some (.box g t cs')) (s:∀j,j∉asg->n.tmps.getD j undef=y.tmps.getD j undef)
  (hv:∀(i j:Nat) c,r[i]?=some j->vs[i]?=some c->Rel F1 L1 c (n.tmps.getD j undef)) :
  ∃m,aN L1 m n/\∀j,bh F1 L1 (qO r vs (tU asg d) j) (m j):=by
 have key:∀j,∃sv,bh F1 L1 (qO r vs (tU asg d) j) sv/\conc L1 sv=n.tmps.getD j undef/\(∀k off,sv=.own k off->∃g t cs,L1.get k=some (.box g t cs))/\(∀q i,sv=.el q i->q≠none):=by
  intro j;rcases EP r vs (tU asg d) j with h | ⟨i,c,h1,h2,h3⟩
  ·rw[h];simp only[tU];split
   ·exact⟨.v (n.tmps.getD j undef),trivial,rfl,fun _ _ e=>(by cases e),fun _ _ e=>(by cases e)⟩
   ·rename_i z;have hj:j∉asg:=fun h=>by rw[dQ.2 h] at z;cases z
    obtain⟨u1,u2⟩:=JP hF hb;refine⟨b j,bh.mp u1 u2 3 (u j),?_,?_,f.el j⟩
    ·rw[s j hj,f.eq j];cases e:b j with
     | v x=>rfl
     | el x i=>rfl
     | own k off =>
      obtain⟨g,t,cs,p⟩:=f.own j k off e;obtain⟨cs',l⟩:=hb _ _ _ _ p;simp only[conc,p,l]
    ·intro k off e;obtain⟨g,t,cs,p⟩:=f.own j k off e;obtain⟨cs',l⟩:=hb _ _ _ _ p;exact⟨g,t,cs',l⟩
  ·rw[h3];obtain⟨s1,s2,s3,s4⟩:=C8 (hv i j c h1 h2);exact⟨_,s1,s2,s3,s4⟩
 refine⟨fun j=>(key j).choose,⟨fun t=>?_,fun t k off e=>?_,fun t q j e=>?_⟩,fun j=>(key j).choose_spec.1⟩
 ·exact(key t).choose_spec.2.1.symm
 ·exact(key t).choose_spec.2.2.1 k off e
 ·exact(key t).choose_spec.2.2.2 q j e
theorem Ca {n:Nat}{F:aJ}{L:Loc}{w:World}{a:Act}{asg:List Nat}{K K':dP}{b:Act}{w':World}(h:fH n F L w a asg K b w') (d:∀{F' L' ρ'},K F' L' ρ'->K' F' L' ρ'):fH n F L w a asg K' b w':=by
 obtain⟨F',L',ρ',k,c,m,f,j,l,e⟩:=h;exact⟨F',L',ρ',k,c,m,f,j,l,d e⟩
theorem AZ {P:Program}{PS:qX}{G:Nat->Option (Nat×TypeId)}{a:Act}{w:World}{b:List aB}{K:TK}:∀(ks:List Nat) {F:aJ}{L:Loc}{ρ:Env}{M:TL}{τ:bg},vF G PS ks->St F L w->aN L ρ a->TS G F L ρ M τ->eS P PS false (ks.map aB.frz++b) M τ K ->
  ∃F' L' ρ' M' c,St F' L' w/\aN L' ρ' a/\Step F L w F' L' w/\TS G F' L' ρ' M' c/\eS P PS false b M' c K:=by
 intro ks
 induction ks with
 | nil=>intro F L ρ M τ _ l n d h;exact⟨F,L,ρ,M,τ,l,n,Step.refl _ _ _,d,h⟩
 | cons k ks e =>
  intro F L ρ M τ p l n d h;simp only[acU,acW,gB] at h;obtain⟨F1,L1,t,M1,ac,v,u,g3,r,h⟩:=EK l n d (p k (by simp)) h;obtain⟨F2,L2,m,M2,f,k1,q,z,x,y⟩:=e (fun j s=>p j (by simp[s])) v u r h;exact⟨F2,L2,m,M2,f,k1,q,g3.trans z,x,y⟩
theorem JR:∀{ks:List Nat}{ss:List aB},∀k∈ks,k∈jE (AY ks (.regD ss))
 | [],_,k,h=>by cases h
 | j::l,ss,k,h=>by
  have:∀(l:List Nat),∀k∈l,k∈eT (l.map aB.frz):=by
   intro l
   induction l with
   | nil=>intro k h;cases h
   | cons j l b =>
    intro k h;simp only[acU,eT,acQ] at h ⊢;exact h.imp id (b k)
  exact acN.2 (.inl (this (j::l) k h))
theorem EQ {P:Program}{PS:qX}{G:Nat->Option (Nat×TypeId)}{ρ:Env}{a:Act}{w:World}{ss:List aB}{E:Nat->TK}{R N:TK}{F:aJ}{L:Loc}{M:TL}{τ:bg}:∀(ks:List Nat),vF G PS (jE (AY ks (.regD ss)))->St F L w->aN L ρ a->TS G F L ρ M τ->gh P PS (AY ks (.regD ss)) E R N M τ ->
  ∃F' L' ρ' M' b,St F' L' w/\aN L' ρ' a/\Step F L w F' L' w/\TS G F' L' ρ' M' b/\eS P PS true ss M' b N
 | [],_,e,f,c,h=>⟨F,L,ρ,M,τ,e,f,Step.refl _ _ _,c,h⟩
 | k::l,v,e,f,c,h=>by
  have r:eS P PS false ((k::l).map aB.frz++[]) M τ (fun M τ=>eS P PS true ss M τ N):=by rw[acT];exact h
  obtain⟨F1,L1,d,M1,m,t,n,u,q,s⟩:=AZ (k::l) (fun j p=>v j (JR j p)) e f c r;exact⟨F1,L1,d,M1,m,t,n,u,q,s⟩
theorem tj {M:TL}:∀{ks:List Nat},uG M ks=true->∀k∈ks,∀o,M.get k=some o->C6 o=true
 | [],_,k,h,_,_=>by cases h
 | j::ks,b,k,h,o,e=>by
  simp only[uG] at b;split at b
  ·cases b
  ·cases b
  ·cases b
  ·rename_i f c d;rcases acQ.1 h with rfl | h
   ·cases o with
    | box t cs=>exact s6 e (f _ _)
    | map es=>exact s6 e (c _)
    | win t p cs q=>exact s6 e (d _ _ _ _)
    | row=>rfl
   ·exact tj b k h o e
theorem JS {M:TL}{ks:List Nat}(b:uG M ks=true) (k:Nat) (h:k∈ks) (t:TypeId) (cs:List C):M.get k≠some (.box t cs):=fun e=>by cases tj b k h _ e
theorem Gx {M:TL}{ks:List Nat}(b:uG M ks=true) (k:Nat) (h:k∈ks) (es:List (C×C)):M.get k≠some (.map es):=fun e=>by cases tj b k h _ e
theorem qE {A:cE}:∀(c:Code) {sc:aI},low P A c=some sc->∀{G:Nat->Option (Nat×TypeId)}{E:Nat->TK}{R N:TK}{F:aJ}{L:Loc}{ρ:Env}{M:TL}{τ:bg}{a:Act}{w:World},vF G PS (jE sc)->St F L w->aN L ρ a->TS G F L ρ M τ->a.tmps.size=A.n ->
  gh P PS sc E R N M τ->c.wp P (QQ A.n F L w a (dN c) (AP G PS) (fun j=>Both G (E j)) (Both G R) (Both G N)) a w:=by
 intro c
 induction c with
 | skip =>
  intro sc b G E R N F L ρ M τ a w m hs he z hn d;simp only[low,w7] at b;subst b;exact wp_skip ⟨F,L,ρ,hs,he,hn,rfl,Step.refl _ _ _,fun _ _=>rfl,M,τ,z,d⟩
 | label l =>
  intro sc b G E R N F L ρ M τ a w m hs he z hn d;simp only[low,w7] at b;subst b;exact wp_label ⟨F,L,ρ,hs,he,hn,rfl,Step.refl _ _ _,fun _ _=>rfl,M,τ,z,d⟩
 | exit id =>
  intro sc b G E R N F L ρ M τ a w m hs he z hn d;simp only[low,w7] at b;subst b;exact wp_exit ⟨F,L,ρ,hs,he,hn,rfl,Step.refl _ _ _,fun _ _=>rfl,M,τ,z,d⟩
 | ret =>
  intro sc b G E R N F L ρ M τ a w m hs he z hn d;simp only[low,w7] at b;subst b;exact wp_ret ⟨F,L,ρ,hs,he,hn,rfl,Step.refl _ _ _,fun _ _=>rfl,M,τ,z,d⟩
 | region r em cw =>
  intro sc b G E R N F L ρ M τ a w m hs he z hn d;cases cw with
  | false =>
   simp only[low] at b;split at b
   case h_2=>cases b
   rename_i ss dt;injection b with b;subst b
   simp only[mG,oe,mH,og,mI,kY,mJ,mK,oh] at d;exact wp_region (zP _ dt m hs he z hn d (fun a' w' h=>h) fun v ch a' w' hc h=>⟨v,hc,h⟩)
  | true =>
   simp only[low] at b;split at b
   case h_2=>cases b
   rename_i is cl ss h1 h2;have h4:vh A.ord r=is:=by simp only[vh,h1]
   rw[h4] at h2;split at b
   case h_2 =>
    split at b
    case h_2=>cases b
    rename_i h3;injection b with b;subst b
    rw[Ez] at d;split at d
    case h_2=>exact d.elim
    rename_i bp;split at d
    ·exact rG h2 h3 hs he hn (fun s hs k e=>dm z.tl (s9 bp s hs k e)) (d.out G (AP G PS) (fun F L ρ M τ f args vs K h1 h2 h3=>qA h1 h2 h3 d.st) F L ρ ⟨w,hs⟩ z) (fun a' w' h=>h) fun v ch a' w' F' L' gc g1 g2 g3 g4 g5 g6=>⟨v,gc,F',L',g1,g2,g3,g4,g5,g6⟩
    exact rG h2 h3 hs he hn (fun s hs k e=>dm z.tl (s9 bp s hs k e)) (nK ss (xj h2) z d) (fun a' w' h=>h) fun v ch a' w' F' L' gc g1 g2 g3 g4 g5 g6=>⟨v,gc,F',L',g1,g2,g3,g4,g5,g6⟩
   rename_i h0;split at b
   case h_2=>cases b
   rename_i h3;injection b with b;subst b
   obtain⟨F1,L1,ad,M1,ao,aw,ay,ag,ac,d⟩:=EQ _ m hs he z d;exact uy h2 h3 aw ay hn (zR ss (JO h2 h0) ac d) fun a' w' h=>fH.after (asg1:=[]) ag rfl (fun _ _=>rfl) h (fun _ h=>s6 h List.not_mem_nil) (fun _ h=>h)
 | seq x y bb bj =>
  intro sc b G E R N F L ρ M τ a w m hs he z hn d;simp only[low] at b;split at b
  case h_2=>cases b
  rename_i h1 h2;injection b with b;subst b
  simp only[mG,oe,mH,og,mI,kY,mJ,mK,oh] at d;refine wp_seq (wp_mono (bb h1 m.left hs he z hn d) ?_);intro e a1 w1 u;cases e with
  | normal =>
   obtain⟨F1,L1,ad,g1,g2,g3,g4,g5,g6,M1,ao,g7,g8⟩:=u;refine wp_mono (bj h2 m.right g1 g2 g7 g3 g8) ?_;intro e2 a2 w2 bx;cases e2<;>first
    | exact fH.after g5 g4 g6 bx (fun j h=>acN.2 (.inl h)) (fun j h=>acN.2 (.inr h))
    | exact(let⟨v,e,h⟩:=bx;⟨v,e,tP.after g5 g4 g6 h (fun j h=>acN.2 (.inl h)) (fun j h=>acN.2 (.inr h)) fun _ _ h=>h⟩)
    | exact bx
  | exit id=>exact u.mono fun j h=>acN.2 (.inl h)
  | ret=>exact u.mono fun j h=>acN.2 (.inl h)
  | goto l=>exact u
  | panic c=>exact(let⟨v,e,h⟩:=u;⟨v,e,h.mono fun j h=>acN.2 (.inl h)⟩)
  | outgrown=>exact u
 | cond c x y bb bj =>
  intro sc b G E R N F L ρ M τ a w m hs he z hn d;simp only[low] at b;split at b
  case h_2=>cases b
  rename_i h0 h1 h2;injection b with b;subst b
  simp only[mG,oe,mH,og,mI,kY,mJ,mK,oh] at d;split at d
  case h_2=>exact d.elim
  rename_i t db;have hc:a.eval c=.bool t:=by rw[aX h0 he,dc (jq z.env db)]
  refine wp_cond hc ?_;cases t
  ·simp only[yU] at d;refine wp_mono (bj h2 m.right hs he z hn d) ?_;intro e a1 w1 u;cases e<;>first
    | exact u.mono fun j h=>acN.2 (.inr h)
    | exact(let⟨v,e,h⟩:=u;⟨v,e,h.mono fun j h=>acN.2 (.inr h)⟩)
    | exact u
  ·simp only[yU] at d;refine wp_mono (bb h1 m.left hs he z hn d) ?_;intro e a1 w1 u;cases e<;>first
    | exact u.mono fun j h=>acN.2 (.inl h)
    | exact(let⟨v,e,h⟩:=u;⟨v,e,h.mono fun j h=>acN.2 (.inl h)⟩)
    | exact u
 | block id x ih =>
  intro sc b G E R N F L ρ M τ a w m hs he z hn d;simp only[low] at b;split at b
  case h_2=>cases b
  rename_i h1;injection b with b;subst b
  simp only[mG,oe,mH,og,mI,kY,mJ,mK,oh] at d;refine wp_block (wp_mono (ih h1 m hs he z hn d) ?_);intro e a1 w1 u;cases e with
  | exit j =>
   simp only[Exit.inBlock];simp only[QQ] at u
   by_cases hj:j=id
   ·subst hj;have hb:Nat.beq j j=true:=by simp
    rw[hb] at u;rw[o6 rfl];exact u
   ·have hb:Nat.beq j id=false:=by
     cases h:Nat.beq j id with
     | true=>exact s6 (vz h) hj
     | false=>rfl
    rw[hb] at u;rw[s8 hj];exact u
  | normal=>exact u
  | ret=>exact u
  | goto l=>exact u
  | panic c=>exact u
  | outgrown=>exact u
 | loop x ih =>
  intro sc b G E R N F L ρ M τ a w m hs he z hn d;simp only[low] at b;split at b
  case h_2=>cases b
  rename_i sx h1;injection b with b;subst b
  simp only[mG,oe,mH,og,mI,kY,mJ,mK,oh] at d;split at d
  case h_2=>exact d.elim
  rename_i bD;obtain⟨σ,x0,Inv,ls,lv,Lf,μ,i0,i1,i2,i3,i4,i5⟩:=d
  -- the boxes that there are,with their addresses
  let G1:Nat->Option (Nat×TypeId):=fun k=>match L.get k with | some (.box g t _)=>some (g,t) | _=>none
  have cp:∀k g t cs,L.get k=some (.box g t cs)->G1 k=some (g,t):=fun k g t cs e=>by simp only[G1,e]
  have bs:Kp G1 L:=by
   intro k g t e;simp only[G1] at e;split at e
   ·rename_i g' t' cs h;injection e with e
    injection e with e1 e2
    subst e1 e2;exact⟨cs,h⟩
   ·cases e
  have cx:vF G1 PS (jE sx):=by
   intro k hk bA;exfalso;simp only[G1] at bA;split at bA
   ·rename_i g t cs e;have hr:=z.tl k;rw[e] at hr;cases e2:M.get k with
    | none=>rw[e2] at hr;exact hr
    | some o =>
     rw[e2] at hr;cases o with
     | row=>exact hr
     | box t' cs'=>exact JS bD k hk t' cs' e2
     | map es=>exact Gx bD k hk es e2
     | win t0 p0 c0 q0=>cases tj bD k hk _ e2
   ·exact bA rfl
  have hG:∀{L':Loc},Kp G1 L'->Kp G L':=fun hk k g t e=>let⟨cs,h⟩:=z.kp k g t e;hk k g t (cp k g t cs h);have cf:∀{L':Loc},Kp G1 L'->∀k g t cs,L.get k=some (.box g t cs)->∃cs',L'.get k=some (.box g t cs'):=fun hk k g t cs h=>hk k g t (cp k g t cs h);have bm:∀{K:TK}{F' L' ρ'},Both G1 K F' L' ρ'->Both G K F' L' ρ':=fun⟨M',df,h1,h2⟩=>⟨M',df,⟨h1.tl,h1.env,hG h1.kp,h1.glob⟩,h2⟩;have ea:∀{F':aJ}{L':Loc}{M':TL},ep F' L' M'->(∀k o,M'.get k=some o->o.Wf):=fun h k o e=>Uv h (fun _ _ e=>e) k o e
  -- a round's end,or what is ahead of the first round,is a head
  have ax:∀(y:σ) (F1:aJ) (L1:Loc) (ad:Env) (M1:TL) (ao:bg) (a1:Act) (w1:World),F.le F1->St F1 L1 w1->aN L1 ad a1->TS G1 F1 L1 ad M1 ao->(∀j,j∉dN x->a1.tmps.getD j undef=a.tmps.getD j undef) ->
    mW M1 (Lf y) ls (lv y) ao->gives M1 (Lf y) (Lf y)->∃L2,St F1 L2 w1/\Step F1 L1 w1 F1 L2 w1/\ep F1 L2 (Lf y)/\Kp G1 L2/\tE (lv y) /\
     ∃bk,aN L2 bk a1/\∀j,bh F1 L2 (qO ls (lv y) (tU (dN x) τ) j) (bk j):=by
   intro y F1 L1 ad M1 ao a1 w1 be aw ay ac dy hh hg;obtain⟨g1,g2⟩:=vE aw ac.tl hg;have ba:Kp G1 (xh L1 (Lf y)):=by
    intro k g t e;obtain⟨cs,bz⟩:=ac.kp k g t e;obtain⟨fd,cz⟩:=bs k g t e;refine⟨cs,?_⟩;rcases fA (z.tl k) with⟨c1,c2⟩ | ⟨q,p,c1,c2,hr⟩
    ·rw[cz] at c2;cases c2
    ·rw[cz] at c2;injection c2 with c2
     subst c2;cases q with
     | row=>exact hr.elim
     | box t' cs' =>
      obtain⟨o2,e2⟩:=j9 (i3 y) c1 rfl;rw[lm,e2];simp only[bz]
     | map es =>
      obtain⟨o2,e2⟩:=j9 (i3 y) c1 rfl;rw[lm,e2];simp only[bz]
     | win t0 p0 c0 q0 =>
      obtain⟨o2,e2⟩:=j9 (i3 y) c1 rfl;rw[lm,e2];simp only[bz]
   refine⟨xh L1 (Lf y),g1,g2,vD ac.tl hg,ba,B6 ac (i4 y) hh hg,LM he z.env be (cf ba) dy ?_⟩;intro i j c e1 e2;have hr:=mL (ac.env j);have hv:a1.tmps.getD j undef=conc L1 (ad j):=ay.eq j;rw[hv];have cy:=B0 hh e1 e2;rcases cy with e | ⟨e,hk⟩ | ⟨e,e'⟩ | ⟨e,k',t',dg,e',q1,q2⟩ | ⟨els,e,e'⟩
   ·rw[e];simp only[Rel]
   ·have hc:(ao j).cel=ao j:=by
     rw[e];rw[e] at hr;cases c<;>first | rfl | (simp only[gK,nG,acZ] at hk;done)
    rw[hc] at hr;exact sZ ac.tl (.inr (.inl ⟨e,hk⟩)) hr
   ·rw[e] at hr;exact sZ ac.tl (.inr (.inr (.inl ⟨rfl,e'⟩))) hr
   ·rw[e] at hr;exact sZ ac.tl (.inr (.inr (.inr (.inl ⟨rfl,k',t',dg,e',q1,q2⟩)))) hr
   ·rw[e] at hr;exact sZ ac.tl (.inr (.inr (.inr (.inr ⟨els,rfl,e'⟩)))) hr
  refine vZ (fun n a1 w1=>∃(y:σ) (F1:aJ) (L1:Loc),n=μ y/\F.le F1/\Inv y/\St F1 L1 w1/\a1.tmps.size=A.n/\a1.defers=a.defers/\Step F L w F1 L1 w1/\(∀j,j∉dN x->a1.tmps.getD j undef=a.tmps.getD j undef) /\
   ep F1 L1 (Lf y)/\Kp G1 L1/\tE (lv y)/\∃ad,aN L1 ad a1/\∀j,bh F1 L1 (qO ls (lv y) (tU (dN x) τ) j) (ad j)) ?_ ?_
  ·obtain⟨L2,k1,k2,k3,k4,k5,k6⟩:=ax x0 F L ρ M τ a w (aJ.le_refl F) hs he ⟨z.tl,z.env,bs,z.glob⟩ (fun _ _=>rfl) i1 i2;exact⟨_,x0,F,L2,rfl,aJ.le_refl F,i0,k1,hn,rfl,k2,fun _ _=>rfl,k3,k4,k5,k6⟩
  ·rintro n a1 w1 ⟨y,F1,L1,rfl,be,ci,aw,dx,bc,ag,ar,bt,ba,dl,ad,ay,bB⟩;refine wp_mono (ih h1 cx aw ay (⟨bt,bB,ba,aw.glob⟩:TS G1 F1 L1 ad (Lf y) (qO ls (lv y) (tU (dN x) τ))) dx (i5 y ci dl (ea bt))) ?_;intro e a2 w2 u;cases e with
   | normal =>
    obtain⟨F2,L2,bk,g1,g2,g3,g4,g5,g6,M2,da,g7,y',k1,k2,k3,k4⟩:=u;have bl:∀j,j∉dN x->a2.tmps.getD j undef=a.tmps.getD j undef:=fun j hj=>by rw[g6 j hj,ar j hj]
    obtain⟨L3,q1,q2,q3,q4,q5,q6⟩:=ax y' F2 L2 bk M2 da a2 w2 (aJ.le_trans be g5.le) g1 g2 g7 bl k2 k3;exact⟨μ y',k4,y',F2,L3,rfl,aJ.le_trans be g5.le,k1,q1,g3,g4.trans bc,(ag.trans g5).trans q2,bl,q3,q4,q5,q6⟩
   | exit j=>exact fH.after ag bc ar (Ca u bm) (fun j h=>h) (fun j h=>h)
   | ret=>exact fH.after ag bc ar (Ca u bm) (fun j h=>h) (fun j h=>h)
   | goto l=>exact u
   | panic c=>exact(let⟨v,e,h⟩:=u;⟨v,e,tP.after ag bc ar h (fun j h=>h) (fun j h=>h) fun F' L' h=>⟨hG h.1,h.2⟩⟩)
   | outgrown=>exact u
 | rangeFunc f ps x y bb bj=>intro sc b;simp only[low] at b;cases b
 | scope x ih =>
  intro sc b G E R N F L ρ M τ a w m hs he z hn d;simp only[low] at b;refine wp_scope_straight (wp_mono (ih b m hs he z hn d) ?_);intro e a1 w1 u;cases e<;>exact u
 | goto l=>intro sc b;simp only[low] at b;cases b
 | refuse eQ=>intro sc b;simp only[low] at b;cases b
end
section
variable {P:Program}{G:Nat->Option (Nat×TypeId)}{F:aJ}{L:Loc}{ρ:Env}{M:TL}{τ:bg}{a:Act}{w:World}
theorem wC (d:TS G F L ρ M τ):∀{rs:List RV}{K:List C->Prop},rN M τ rs K->mU L ρ rs (fun vs=>∃cs,aK F L cs vs/\K cs)
 | [],K,h=>⟨[],by simp only[aK],h⟩
 | (t,none)::l,K,h=>by
  simp only[rN] at h;simp only[mU];refine retV_imp (wC d h) ?_;rintro vs ⟨cs,o,f⟩;exact⟨_,by simp only[aK];exact⟨_,_,rfl,mL (d.env t),o⟩,f⟩
 | (t,some (agg,n))::l,K,h=>by
  simp only[rN] at h;simp only[mU];split at h
  case h_2=>exact h.elim
  rename_i k off c;split at h
  case h_2=>exact h.elim
  rename_i ty cs p;split at h
  case h_2=>exact h.elim
  rename_i s;obtain⟨j,_⟩:=iz (x:=.t t) d.env c;have j:ρ t=.own k off:=j;obtain⟨g,ty,vs,r,q,m⟩:=mY d.tl p;have e:=(q.drop off).take n;simp only[j,r,iM m.2.2 (fR (show((vs.drop off).take n).length=n by rw[e.len];exact cg s))];refine retV_imp (wC d h) ?_;rintro us ⟨ds,o,f⟩;refine⟨_,?_,f⟩;simp only[aK];have:=mL (dH (agg:=agg) e);exact⟨_,_,rfl,this,o⟩
where
 retV_imp {L:Loc}{ρ:Env}:∀{rs:List RV}{K K':List Value->Prop},mU L ρ rs K->(∀vs,K vs->K' vs)->mU L ρ rs K'
 | [],K,K',h,c=>c _ h
 | (t,none)::l,K,K',h,c=>by
  simp only[mU] at h ⊢;exact retV_imp h fun vs=>c _
 | (t,some (agg,n))::l,K,K',h,c=>by
  simp only[mU] at h ⊢;generalize ρ t=z at h ⊢;split at h
  case h_2=>exact h.elim
  rename_i k off;generalize L.get k=y at h ⊢;split at h
  case h_2=>exact h.elim
  rename_i ty cs;generalize kN ty ((cs.drop off).take n) n=b at h ⊢;cases b
  ·exact h.elim
  ·exact retV_imp h fun vs=>c _
theorem Pq {cs:List C}{vs:List Value}(h:aK F L cs vs):Rel F L (uF cs) (iK vs):=by
 match cs,vs,h with
 | [],vs,h =>
  simp only[aK] at h;subst h;simp only[uF,iK,Rel];exact⟨[],rfl,by simp only[aK]⟩
 | [c],vs,h =>
  simp only[aK] at h;obtain⟨v,b,rfl,d,rfl⟩:=h;exact d
 | c1::k::cs,vs,h =>
  have e:=h;simp only[aK] at e;obtain⟨v,b,rfl,d,l,f,rfl,j⟩:=e;simp only[uF,iK,Rel];exact⟨_,rfl,h⟩
theorem zS:∀(l:List C) (k j:Nat),xO k l j=if k<=j then(l[j-k]?).getD .und else .und
 | [],k,j=>by simp[xO]
 | v::l,k,j=>by
  simp only[xO,C3]
  by_cases h:j=k
  ·subst h;simp
  ·rw[s8 h,zS l (k+1) j]
   by_cases b:k<=j
   ·rw[o6 (by omega),o6 b,show j-k=(j-(k+1))+1 by omega,ady]
   ·rw[s8 (by omega),s8 b]
theorem LN {c:C}{v:Value}(h:Rel F L c v):Rel F L c.abF v:=by
 cases c<;>first
  | exact h
  | exact vA (c:=.nils) h
  | exact wq h
  | (simp only[Rel] at h
     obtain⟨vs,b,d⟩:=h;simp only[C.abF,Rel]
     first
      | exact⟨vs,b,mM d⟩
      | exact⟨vs,b,d.map fun c _ v=>ld⟩)
theorem zT {F':aJ}{L':Loc}{w':World}{Li:List Own}(f:St F' L' w') (c:Step F (inp Li) w F' L' w') (hb:∀(i:Nat) g t cs,Li[i]?=some (.box g t cs)->∃cs',L'.get (1000+i)=some (.box g t cs')) :
  ∃Lo,St F' (inp Lo) w'/\Step F (inp Li) w F' (inp Lo) w'/\Lo.length=Li.length/\∀(i:Nat) g t cs,Li[i]?=some (.box g t cs)->∃cs',Lo[i]?=some (.box g t cs'):=by
 let Lo:List Own:=Li.mapIdx fun i o=>match o with
  | .box _ _ _=>match L'.get (1000+i) with | some p=>p | none=>.row (.slice none 0 0) 0 0 0 []
  | .row _ t sz _ _=>.row (.slice none 0 0) t sz 0 []
 have get:∀k p,(inp Lo).get k=some p->L'.get k=some p\/∃t sz,p=.row (.slice none 0 0) t sz 0 []:=by
  intro k p e;rw[bE] at e;split at e
  case isFalse=>cases e
  rename_i x;simp only[Lo,List.getElem?_mapIdx] at e;cases h:Li[k-1000]? with
  | none=>rw[h] at e;cases e
  | some o =>
   rw[h] at e;simp only[adK,w7] at e;cases o with
   | box g t cs =>
    simp only at e;rw[show 1000+(k-1000)=k by omega] at e;cases l:L'.get k with
    | none=>rw[l] at e;exact .inr ⟨0,0,e.symm⟩
    | some q=>rw[l] at e;exact .inl (by rw[<-e])
   | row v t sz n xs=>exact .inr ⟨t,sz,e.symm⟩
 refine⟨Lo,⟨f.frz,fun k o e=>?_,fun k o g e d=>?_,fun k m o o' g e e' d j=>?_,f.glob⟩,⟨c.le,c.os,c.tape,c.output,c.size,c.same,c.frz,fun b s=>c.own b ?_⟩,by simp[Lo],fun i g t cs hi=>?_⟩
 ·rcases get k o e with h | ⟨t,sz,rfl⟩
  ·exact f.own k o h
  ·exact World.ownsRow_nil w' 0 t sz
 ·rcases get k o e with h | ⟨t,sz,rfl⟩
  ·exact f.off k o g h d
  ·cases d
 ·rcases get k o e with h | ⟨t,sz,rfl⟩<;>rcases get m o' e' with u | ⟨y,r,rfl⟩
  ·exact f.sep k m o o' g h u d j
  ·cases j
  ·cases d
  ·cases d
 ·obtain⟨k,o,e,d⟩:=s;rcases get k o e with h | ⟨t,sz,rfl⟩
  ·exact⟨k,o,h,d⟩
  ·cases d
 ·obtain⟨cs',h⟩:=hb i g t cs hi;exact⟨cs',by simp only[Lo,List.getElem?_mapIdx,hi,adK,h]⟩
theorem Sr {n:Nat}{asg:List Nat}{fn:Func}{rs:List RV}{Lin:List TO}{Li:List Own}{R:List TO->C->Prop}{a0 a':Act}{w':World}(q:qN P fn.results.toList=some rs) (hl:Li.length=Lin.length) (ag:ep F (inp Li) (jQ Lin))
  (an:∀k g t cs,(inp Li).get k=some (.box g t cs)->G k=some (g,t)) (hq:fH n F (inp Li) w a0 asg (Both G (fun L ρ=>rN L ρ rs fun vs=>o7 Lin L (uF vs) R)) a' w') :
  a'.defers=a0.defers/\∃v,(results fn a'.tmps).run P w'=.ok v w'/\∃F' Lo,St F' (inp Lo) w'/\Step F (inp Li) w F' (inp Lo) w'/\iN Li R F' Lo v:=by
 obtain⟨F',L',ρ',g1,g2,g3,g4,g5,g6,M',ca,g7,aa⟩:=hq;obtain⟨us,hm,cs,bi,⟨fz,ko,hK⟩⟩:=rH g1 g2 q (wC g7 aa);have ao:TS G F' L' ρ' M' (fun _=>.any):=⟨g7.tl,fun _=>trivial,g7.kp,g7.glob⟩;obtain⟨F2,L2,M2,bv,bd,k1,k2,k3,m,k5,M3,c2,c3,Mo,q1,az,q4,q5,q6,q7⟩:=qB g1 g2 ao (by simp only[aK];exact⟨_,[],rfl,Pq bi,rfl⟩) hK;subst q1;simp only[aK] at k5;obtain⟨v,bz,ev,hv,rfl⟩:=k5;injection ev with ev _
 subst ev;have ad:∃L3,St F2 L3 w'/\Step F2 L2 w' F2 L3 w'/\ep F2 L3 M3/\Rel F2 L3 c3 (iK us)/\∀k g t cs,L2.get k=some (.box g t cs)->M3.get k≠none->L3.get k=some (.box g t cs):=by
  rcases az with⟨rfl,rfl⟩ | ⟨q2,q3⟩
  ·exact⟨L2,k1,Step.refl _ _ _,m.tl,hv,fun k g t cs h _=>h⟩
  ·obtain⟨b1,b2⟩:=vE k1 m.tl q2;refine⟨_,b1,b2,vD m.tl q2,sZ m.tl q3 hv,fun k g t cs h l=>?_⟩;rw[lm];cases e:M3.get k with
   | none=>exact s6 e l
   | some o=>simp only[h]
 obtain⟨L3,b1,b2,f,x,be⟩:=ad;obtain⟨Lo,z,d2,d3⟩:=rR f q4;have ax:=dS q5;have bb:∀k g t,G k=some (g,t)->∃cs,(M3.get k≠none->L3.get k=some (.box g t cs)):=by
  intro k g t e;obtain⟨cs,h⟩:=m.kp k g t e;exact⟨cs,fun l=>be _ _ _ _ h l⟩
 refine⟨g4,iK us,?_,F2,Lo,b1.handed z ax,?_,Mo.map (TO.aa8 (C.ren (cn ko 1000))),c3.abF.ren (cn ko 1000),by simp[d2],uI f d2 z d3,(LN x).ren (oN z),?_,q7 (by simp only[tE];exact⟨x.wf,trivial⟩)⟩
 ·rw[uD];rw[Array.mapM_eq_mapM_toList];simp only[Sem.run_bind,Sem.run_map];rw[hm];simp only[Result.andThen_ok,Sem.run_pure];congr 1
  match us with
  | []=>rfl
  | [t]=>rfl
  | t::u::r =>
   simp only[iK];rw[dif_neg (by simp)]
 ·have c:=(g5.trans k3).trans b2;obtain⟨x1,x2⟩:=fE z;refine⟨c.le,c.os,c.tape,c.output,c.size,c.same,c.frz,fun b hb=>c.own b ?_⟩;obtain⟨j,p,e,hb⟩:=hb;rw[bE] at e;split at e
  case isFalse=>cases e
  have d:j-1000<Lo.length:=(acP.1 e).1;have hk:ko[j-1000]?=some (ko[j-1000]'(by omega)):=w8 (by omega);exact⟨_,p,by rw[x2 _ _ hk];exact e,hb⟩
 ·intro i g t cs hi;have d:i<Lin.length:=by rw[<-hl];exact(acP.1 hi).1
  have s:(inp Li).get (1000+i)=some (.box g t cs):=by rw[bE,o6 (by omega),show 1000+i-1000=i by omega];exact hi
  have hr:=ag (1000+i);rw[dh,o6 (by omega),show 1000+i-1000=i by omega,s,w8 d] at hr;have ak:C6 Lin[i]=false:=by
   cases ba:Lin[i] with
   | row=>rw[ba] at hr;exact hr.elim
   | box t' cs'=>rfl
   | map es=>rfl
   | win t0 p0 c0 q0=>rfl
  ·obtain⟨k',y1,y2⟩:=fI q6 i _ (w8 d) ak;rw[List.getElem?_range' d] at y1;injection y1 with y1
   obtain⟨x1,x2⟩:=fE z;obtain⟨z1,z2⟩:=EC q4;have y:i<Mo.length:=by rw[z1];exact(acP.1 y2).1
   have ap:M3.get k'≠none:=by rw[z2 i k' y2,w8 y];simp
   have am:k'=1000+i:=by omega
   subst am;obtain⟨bc,h2⟩:=bb _ g t (an _ _ _ _ s);exact⟨bc,by rw[<-x2 i _ y2];exact h2 ap⟩
theorem aC {Pp:Value->Prop}{f:FuncId}{fn:Func}{sc:aI}{A:cE}{rs:List RV}{args:List C}{Lin:List TO}{R:List TO->C->Prop}(hf:P.funcs[f]?=some fn) (b:aA P A fn=some (sc,A.n,rs,false)) (m:Nat.ble args.length A.n=true)
  (h:tE args->(∀o∈Lin,o.Wf)->gh P ⟨Pp,[],none⟩ sc (fun _ _ _=>False) (fun L ρ=>rN L ρ rs fun vs=>o7 Lin L (uF vs) R) (fun L ρ=>rN L ρ rs fun vs=>o7 Lin L (uF vs) R) (jQ Lin) (xO 0 args)):CallsTX P f args Lin R Pp:=by
 unfold aA at b;split at b
 case h_2=>cases b
 rename_i c hb;split at b
 case h_2=>cases b
 rename_i bA ac ab aa;injection b with b
 injection b with e1 e2
 injection e2 with e2 e3
 injection e3 with e3 hname
 subst e1 e3;refine⟨fun F Li vs hl r ha=>⟨⟨fn,hf,by rw[hb];rfl,hname⟩,iN.abM,fun w hs=>?_⟩⟩;refine calls_of_wp hf hb ?_;have ak:∀o∈Lin,o.Wf:=by
  intro o ho;obtain⟨i,hi⟩:=adh.1 ho;have:=r (1000+i);rw[dh,bE,o6 (by omega),o6 (by omega),show 1000+i-1000=i by omega,hi] at this;cases e:Li[i]? with
  | none=>rw[e] at this;exact this.elim
  | some p=>rw[e] at this;exact dW.wf this
 have h:=h ha.wf ak;have y:=ha.len;have m:=ac8 m
 -- the frame
 have key:∀j,∃sv,bh F (inp Li) (xO 0 args j) sv/\conc (inp Li) sv=(vs.toArray++Array.replicate (fn.ntmps-vs.toArray.size) undef).getD j undef/\(∀k off,sv=.own k off->∃g t cs,(inp Li).get k=some (.box g t cs))/\(∀u i,sv=.el u i->u≠none):=by
  intro j;rw[zS];simp only[adg,adk,Nat.sub_zero,adf];cases e:args[j]? with
  | some c =>
   have s:j<vs.length:=by rw[y];exact(acP.1 e).1
   obtain⟨s1,s2,s3,s4⟩:=C8 (ha.at e (w8 s));refine⟨_,s1,?_,s3,fun u i e=>s4 u i e⟩;rw[s2,Array.getElem?_append_left (by simpa using s)];simp[s]
  | none =>
   have ao:vs.length<=j:=by rw[y];exact adC.1 e
   refine⟨.v undef,rV,?_,fun _ _ e=>(by cases e),fun _ _ e=>(by cases e)⟩;rw[Array.getElem?_append_right (by simpa using ao)];simp only[Array.getElem?_replicate,conc];split<;>rfl
 let x:Env:=fun j=>(key j).choose
 have he:aN (inp Li) x {tmps:=vs.toArray++Array.replicate (fn.ntmps-vs.toArray.size) undef,defers:=[]} :=
  ⟨fun t=>(key t).choose_spec.2.1.symm,fun t k off e=>(key t).choose_spec.2.2.1 k off e,fun t u j e=>(key t).choose_spec.2.2.2 u j e⟩
 let G:Nat->Option (Nat×TypeId):=fun k=>match(inp Li).get k with | some (.box g t _)=>some (g,t) | _=>none
 have z:∀k g t cs,(inp Li).get k=some (.box g t cs)->G k=some (g,t):=fun k g t cs e=>by simp only[G,e]
 have ag:Kp G (inp Li):=by
  intro k g t e;simp only[G] at e;split at e
  ·rename_i g' t' cs h;injection e with e
   injection e with e1 e2
   subst e1 e2;exact⟨cs,h⟩
  ·cases e
 have ar:∀k,G k≠none->1000<=k:=by
  intro k d;simp only[G] at d;split at d
  ·rename_i g t cs h;rw[bE] at h;split at h
   ·assumption
   ·cases h
  ·exact s6 rfl d
 have ht:TS G F (inp Li) x (jQ Lin) (xO 0 args):=⟨r,fun j=>(key j).choose_spec.1,ag,hs.glob⟩;refine wp_mono (qE c ab (fun k _ d=>.inl (ar k d)) hs he ht (by simp[e2];omega) h) ?_;intro e a' w' q;have fin:∀{a0:Act},a0.defers=[]->fH A.n F (inp Li) w a0 (dN c) (Both G (fun L ρ=>rN L ρ ac fun vs=>o7 Lin L (uF vs) R)) a' w'->a'.defers=[]/\∃v,(results fn a'.tmps).run P w'=.ok v w' /\
   ∃v' F' Lo,Ending.returned v=.returned v'/\St F' (inp Lo) w'/\Step F (inp Li) w F' (inp Lo) w'/\iN Li R F' Lo v':=by
  intro a0 an q;obtain⟨k1,v,k2,F',Lo,k3,k4,k5⟩:=Sr aa hl r z q;exact⟨k1.trans an,v,k2,v,F',Lo,rfl,k3,k4,k5⟩
 cases e with
 | normal=>exact(let⟨h1,v,h2,h3⟩:=fin rfl q;⟨h1,v,h2,.inl h3⟩)
 | ret=>exact(let⟨h1,v,h2,h3⟩:=fin rfl q;⟨h1,v,h2,.inl h3⟩)
 | exit j=>obtain⟨F',L',ρ',_,_,_,_,_,_,M',bd,_,h⟩:=q;exact h.elim
 | goto l=>exact q.elim
 | panic c =>
  obtain⟨v,al,F',L',g1,g2,g3,g4,g5,kp,hp,_⟩:=q;obtain⟨Lo,q1,q2,q3,q4⟩:=zT g1 g2 (fun i g t cs hi=>kp (1000+i) g t (z _ g t cs (by rw[bE,o6 (by omega),show 1000+i-1000=i by omega];exact hi)));exact⟨g4,.inr ⟨v,_,F',Lo,rfl,al,q1,q2,q3,q4,hp⟩⟩
 | outgrown=>exact q.elim
theorem CallsTX.noPan {f:Nat}{args:List C}{Lin:List TO}{R:List TO->C->Prop}(h:CallsTX P f args Lin R fun _=>False):CallsT P f args Lin R :=
 ⟨fun F Li vs b c d=>let k:=h.out F Li vs b c d;⟨k.ent,k.mono,fun w j=>(k.run w j).mono fun e w' q=>q.elim id fun⟨_,_,_,_,_,_,_,_,_,_,q⟩=>q.elim⟩⟩
theorem au {f:FuncId}{fn:Func}{sc:aI}{A:cE}{rs:List RV}{args:List C}{Lin:List TO}{R:List TO->C->Prop}(d:P.funcs[f]?=some fn) (b:aA P A fn=some (sc,A.n,rs,false)) (c:Nat.ble args.length A.n=true)
  (h:tE args->(∀o∈Lin,o.Wf)->gh P ⟨fun _=>False,[],none⟩ sc (fun _ _ _=>False) (fun L ρ=>rN L ρ rs fun vs=>o7 Lin L (uF vs) R) (fun L ρ=>rN L ρ rs fun vs=>o7 Lin L (uF vs) R) (jQ Lin) (xO 0 args)):CallsT P f args Lin R :=
 (aC d b c h).noPan
end
section
variable {P:Program}{L:TL}{ρ:bg}
def gL (Lo:List TO) (x:C):List TO->C->Prop:=fun Mo v=>Mo=Lo/\v=x
theorem bM {f:Nat}{args a:List C}{K:TL->bg->C->Prop}{x:C}(h:CallsT P f a [] (gL [] x)) (b:(args.map fun c=>c.abk.ren (cn [] 1000))=a) (k:Wf x->K L ρ (x.ren (bF [])).slt):nA P f args L ρ K:=by
 subst b;exact .mk ⟨[],[],[],L,[],_,.inl rfl,rfl,rfl,rfl,rfl,rfl,h,fun v Mo ⟨d,e⟩ j _=>by subst d e;exact⟨rfl,k j⟩⟩
theorem cR {f:Nat}{args a:List C}{K:TL->bg->C->Prop}{d:Option Nat}{x:C}(h:CallsT P f a [] (gL [] x)) (b:(args.map fun c=>c.abk.ren (cn [] 1000))=a) (k:Wf x->K L ρ x.slt):rM P f args L ρ d K:=by
 subst b;exact .frz _ h fun v Mo ⟨e,j⟩ l=>by subst e j;exact⟨rfl,k l⟩
theorem callO (ks ko:List Nat) {f:Nat}{args a:List C}{K:TL->bg->C->Prop}{x:C}{Lin Lin' Lo:List TO}(h:CallsT P f a Lin' (gL Lo x)) (r:L.sub ks=some Lin)
  (d:(bR ks&&bR ko&&lN L ks ko&&aY Lin ks ko)=true) (q:(args.map fun c=>c.abk.ren (cn ks 1000))=a) (t:Lin.map (TO.aa8 (C.ren (cn ks 1000)))=Lin') (j:ko.length=Lo.length)
  (k:Wf x->(∀o∈Lo,o.Wf)->K (((L.aa7 ks).kills (rowsOf L ks)).puts ko (Lo.map (TO.aa8 (C.ren (bF ko))))) (fQ (rowsOf L ks) ρ) (x.ren (bF ko)).slt):nA P f args L ρ K:=by
 subst q t;simp only[acR] at d;obtain⟨⟨⟨p,e⟩,c3⟩,l⟩:=d;exact .mk ⟨[],ks,ko,L,Lin,_,.inl rfl,r,p,e,c3,l,h,fun v Mo ⟨m,s⟩ n b=>by subst m s;exact⟨j,k n b⟩⟩
theorem C9 (ks ko:List Nat) {f:Nat}{args a:List C}{K:TL->bg->C->Prop}{x:C}{Lin Lin' Lo:List TO}(h:CallsT P f a Lin' (gL Lo x)) (r:L.sub ks=some Lin)
  (d:(bR ks&&bR ko&&lN L ks ko&&aY Lin ks ko)=true) (q:(args.map fun c=>c.abk.ren (cn ks 1000))=a) (t:Lin.map (TO.aa8 (C.ren (cn ks 1000)))=Lin') (j:ko.length=Lo.length)
  (k:Wf x->(∀o∈Lo,o.Wf)->K (((L.aa7 ks).kills (rowsOf L ks)).puts ko (Lo.map (TO.aa8 (C.ren (bF ko))))) (fQ (rowsOf L ks) ρ) (x.ren (bF ko)).slt):CU P f args L ρ K:=by
 subst q t;simp only[acR] at d;obtain⟨⟨⟨p,e⟩,c3⟩,l⟩:=d;exact .mk ⟨ks,ko,Lin,_,r,p,e,c3,l,h,fun v Mo ⟨m,s⟩ n b=>by subst m s;exact⟨j,k n b⟩⟩
theorem Wy (L1:TL) (ks ko:List Nat) {f:Nat}{args a:List C}{K:TL->bg->C->Prop}{x:C}{Lin Lin' Lo:List TO}(h:CallsT P f a Lin' (gL Lo x)) (m:gives L L1 L1) (t:L1.sub ks=some Lin)
  (d:(covers L L1&&bR ks&&bR ko&&lN L1 ks ko&&aY Lin ks ko)=true) (s:(args.map fun c=>c.abk.ren (cn ks 1000))=a) (w:Lin.map (TO.aa8 (C.ren (cn ks 1000)))=Lin') (j:ko.length=Lo.length)
  (k:Wf x->(∀o∈Lo,o.Wf)->K (((L1.aa7 ks).kills (rowsOf L1 ks)).puts ko (Lo.map (TO.aa8 (C.ren (bF ko))))) (fQ (rowsOf L1 ks) ρ) (x.ren (bF ko)).slt):nA P f args L ρ K:=by
 subst s w;simp only[acR] at d;obtain⟨⟨⟨⟨r,q⟩,e⟩,c3⟩,l⟩:=d;exact .mk ⟨[],ks,ko,L1,Lin,_,.inr ⟨m,r⟩,t,q,e,c3,l,h,fun v Mo ⟨n,u⟩ p b=>by subst n u;exact⟨j,k p b⟩⟩
theorem vG (b ks ko:List Nat) {f:Nat}{args a:List C}{K:TL->bg->C->Prop}{x:C}{Lo Lin':List TO}(h:CallsT P f a Lin' (gL Lo x))
  (u:xN b L ρ args fun L ρ args=>∃Lin,L.sub ks=some Lin/\(bR ks&&bR ko&&lN L ks ko&&aY Lin ks ko)=true/\(args.map fun c=>c.abk.ren (cn ks 1000))=a/\Lin.map (TO.aa8 (C.ren (cn ks 1000)))=Lin'/\ko.length=Lo.length /\
   (Wf x->(∀o∈Lo,o.Wf)->K (((L.aa7 ks).kills (rowsOf L ks)).puts ko (Lo.map (TO.aa8 (C.ren (bF ko))))) (fQ (rowsOf L ks) ρ) (x.ren (bF ko)).slt)):nA P f args L ρ K:=by
 refine .mk ⟨b,ks,ko,?_⟩;refine frzK_imp u ?_;rintro L ρ args ⟨Lin,s,j,rfl,rfl,m,k⟩;simp only[acR] at j;obtain⟨⟨⟨r,l⟩,c3⟩,n⟩:=j;exact⟨L,Lin,_,.inl rfl,s,r,l,c3,n,h,fun v Mo ⟨p,t⟩ q d=>by subst p t;exact⟨m,k q d⟩⟩
where
 frzK_imp:∀{b:List Nat}{L:TL}{ρ:bg}{args:List C}{K K':TL->bg->List C->Prop},xN b L ρ args K->(∀L ρ args,K L ρ args->K' L ρ args)->xN b L ρ args K'
  | [],L,ρ,args,K,K',h,e=>e _ _ _ h
  | k::b,L,ρ,args,K,K',h,e=>by
   simp only[xN] at h ⊢;generalize L.get k=z at h ⊢;split at h
   ·exact frzK_imp h e
   ·exact h.elim
theorem aM {Lin:List TO}{v x:C}(hb:aY Lin (List.range' 1000 Lin.length) []=true) (e:v.abF.ren (cn [] 1000)=x):o7 Lin L v (gL [] x) :=
 ⟨[],[],L,v,v,[],rfl,.inl ⟨rfl,rfl⟩,rfl,rfl,hb,fun _=>⟨rfl,e⟩⟩
theorem xP (ko:List Nat) {Lin Mo Lo:List TO}{v x:C}(c:L.sub ko=some Mo) (a:(bR ko&&aY Lin (List.range' 1000 Lin.length) ko)=true) (b:Mo.map (TO.aa8 (C.ren (cn ko 1000)))=Lo) (e:v.abF.ren (cn ko 1000)=x):o7 Lin L v (gL Lo x):=by
 simp only[acR] at a;exact⟨[],ko,L,v,v,Mo,rfl,.inl ⟨rfl,rfl⟩,c,a.1,a.2,fun _=>⟨b,e⟩⟩
theorem YL (k t sz:Nat) {Lin:List TO}(b:L=[]) (hb:aY Lin (List.range' 1000 Lin.length) [k]=true):o7 Lin L .nils (gL [.row t sz []] (.rw 1000)):=by
 subst b;have a:Nat.beq k k=true:=by simp
 refine⟨[],[k],[(k,.row t sz [])],.nils,.rw k,[.row t sz []],rfl,.inr ⟨⟨.inr ⟨rfl,t,sz,rfl⟩,trivial⟩,.inr (.inr (.inr (.inl ⟨rfl,k,t,sz,rfl,rfl,?_⟩)))⟩,?_,rfl,hb,fun _=>⟨rfl,?_⟩⟩
 ·simp only[TL.get,a]
 ·simp only[TL.sub,TL.get,a]
 ·simp only[C.abF,C.ren,C.mp,vp,cn,a]
theorem YM (b ko:List Nat) {Lin Lo:List TO}{v x:C}(d:xN b L (fun _=>.any) [v] fun L _ vs=>∃c Mo,vs=[c]/\L.sub ko=some Mo/\(bR ko&&aY Lin (List.range' 1000 Lin.length) ko)=true/\Mo.map (TO.aa8 (C.ren (cn ko 1000)))=Lo/\c.abF.ren (cn ko 1000)=x):o7 Lin L v (gL Lo x):=by
 refine⟨b,ko,?_⟩;refine vG.frzK_imp d ?_;rintro L ρ vs ⟨c,Mo,rfl,f,a,h,e⟩;simp only[acR] at a;exact⟨L,c,c,Mo,rfl,.inl ⟨rfl,rfl⟩,f,a.1,a.2,fun _=>⟨h,e⟩⟩
theorem Wz {e:Type}{b:TL->bg->TK->Prop}{asg:List Nat}(n:Nat) (l:Nat) (f:List Nat) (c:e) (d:e->List C) (Lf:e->TL) (Inv:Nat->e->Prop) (v:Inv 0 c) (r:Lb L (Lf c) (ρ l) (.int .i64 0)) (w:mW L (Lf c) f (d c) ρ)
  (t:gives L (Lf c) (Lf c)) (hb:∀s,mX L (Lf s)=true) (u:∀s,(d s).length=f.length)
  (h:∀(k:Nat) s,k<=n->Inv k s->tE (d s)->(∀j o,(Lf s).get j=some o->o.Wf)->(k:Int)<=9223372036854775807->b (Lf s) (qO (l::f) (.int .i64 k::d s) (tU asg ρ)) fun L' ρ' =>
   ∃a:Nat×e,(a.1<=n/\Inv a.1 a.2)/\mW L' (Lf a.2) (l::f) (.int .i64 a.1::d a.2) ρ'/\gives L' (Lf a.2) (Lf a.2)/\n-a.1<n-k):vv b asg L ρ:=by
 refine⟨Nat×e,(0,c),fun x=>x.1<=n/\Inv x.1 x.2,l::f,fun x=>.int .i64 x.1::d x.2,fun x=>Lf x.2,fun x=>n-x.1,⟨adg _,v⟩,⟨r,w⟩,t,fun x=>hb x.2,fun x=>by simp[u],?_⟩;rintro⟨k,s⟩ ⟨m,hi⟩ q p;simp only[tE,Wf] at q;exact h k s m hi q.2 p (wf_i64 q.1).2
theorem aR {L1:TL}{k:Nat}:Lb L L1 (.int .i64 ((k:Int)+1)) (.int .i64 ((k+1:Nat):Int)):=.inr (.inl ⟨rfl,rfl⟩)
theorem aS {n k:Nat}(h:k<n):n-(k+1)<n-k:=by omega
theorem oq {els:List (List C)}(h:Wf (.sl els)):els.length<=9223372036854775807:=by simp only[Wf,maxLen] at h;omega
theorem bw {a:Type}{f:a->List C}{l:List a}(h:Wf (.sl (l.map f))):l.length<=9223372036854775807:=by have:=oq h;simpa using this
theorem vH {bs:List UInt8}(h:Wf (.sl (ah bs))):bs.length<=9223372036854775807:=bw h
theorem bK {a:Type}{f:a->List C}{l:List a}{k sz:Nat}{x:a}{es:List C}{K:List C->Prop}(b:l[k]?=some x) (d:f x=es) (c:eI es sz=true) (h:K es):Eu (l.map f) (k:Int) sz K :=
 ⟨es,by omega,by simp[b,d],c,h⟩
theorem ER {bs:List UInt8}{k:Nat}{x:UInt8}{K:List C->Prop}(a:bs[k]?=some x) (h:K [iX x]):Eu (ah bs) (k:Int) 1 K :=
 ⟨[iX x],by omega,by simp[ah,a],rfl,h⟩
theorem ES:∀{l:List (List C)},vq l↔∀es∈l,tE es
 | []=>by simp[vq]
 | es::l=>by simp[vq,ES]
theorem af {L1:TL}{c:C}(h:gK L1 3 c=true):Lb L L1 c c:=.inr (.inl ⟨rfl,h⟩)
theorem drop_cons {a:Type}{l:List a}{k:Nat}(h:k<l.length):∃x,l[k]?=some x/\l.drop k=x::l.drop (k+1):=⟨l[k],by simp[h],adG h⟩
theorem gM {a:Type}{l:List a}{k:Nat}(h:¬k<l.length):l.drop k=[]:=List.drop_eq_nil_iff.2 (by omega)
theorem WA {PS:qX}{c:C}{v:Value}(a:Ey c=some v) (h:PS.ps v) (b:mF L [] PS.hb=true:=by rfl):Wu PS L c:=⟨v,a,b,h⟩
end
theorem bf {n:Int}{K:Int->Prop}(h:K n) (b:-9223372036854775808<=n:=by omega) (a:n<=9223372036854775807:=by omega):Fit .i64 n K:=.abU b a h
theorem aP {L:TL}{ρ:bg}{e:Type}{b:TL->bg->TK->Prop}{asg:List Nat}(n:Nat) (l:Nat) (f:List Nat) (c:e) (d:e->List C) (Lf:e->TL) (Inv:Nat->e->Prop) (r:Inv 0 c) (m:Lb L (Lf c) (ρ l) (.int .i64 0)) (t:mW L (Lf c) f (d c) ρ)
  (p:gives L (Lf c) (Lf c))
  (h:∀(k:Nat) s,k<=n->Inv k s->tE (d s)->(∀j o,(Lf s).get j=some o->o.Wf)->(k:Int)<=9223372036854775807->b (Lf s) (qO (l::f) (.int .i64 k::d s) (tU asg ρ)) fun L' ρ' =>
   ∃a:Nat×e,(a.1<=n/\Inv a.1 a.2)/\mW L' (Lf a.2) (l::f) (.int .i64 a.1::d a.2) ρ'/\gives L' (Lf a.2) (Lf a.2)/\n-a.1<n-k) (hb:∀s,mX L (Lf s)=true:=by exact fun _=>rfl) (q:∀s,(d s).length=f.length:=by exact fun _=>rfl):vv b asg L ρ :=
 Wz n l f c d Lf Inv r m t p hb q h
theorem bJ {L L1:TL}{k:Nat}{o:TO}(h:L.get k=some o:=by exact rfl) (a:HF L1 o=true:=by exact rfl):(∃p,L.get k=some p/\Yf L L1 p o)\/(L.get k=none/\∃t sz,o=.row t sz []):=.inl ⟨o,h,.inl ⟨rfl,a⟩⟩
def oG:Own->Value
 | .box g _ _=>.pointer (some ⟨g,0,none⟩)
 | .row _ _ _ _ _=>undef
def qY:Own->List Value->Own
 | .box g t _,cs=>.box g t cs
 | .row v t sz n xs,_=>.row v t sz n xs
def Uw:Own->Nat->Prop
 | .box _ 0 _,_=>False
 | .box _ (_+1) cs,n=>cs.length=n
 | .row _ _ _ _ _,_=>False
theorem HU {g:Nat}{t:TypeId}{cs:List Value}{n:Nat}(h:t≠0) (a:cs.length=n):Uw (.box g t cs) n:=by
 cases t with
 | zero=>exact s6 rfl h
 | succ t=>exact a
theorem Pr {g:Nat}{t:TypeId}{cs:List Value}{n:Nat}(h:Uw (.box g t cs) n):t≠0:=by
 cases t with
 | zero=>exact h.elim
 | succ t=>exact Nat.succ_ne_zero t
def F7:List Own->List Nat->Prop
 | [],[]=>True
 | o::bs,n::ns=>Uw o n/\F7 bs ns
 | _,_=>False
structure qP (P:Program) (H:Nat) (PS:Value->Prop) (ns:List Nat) (out:Value->List (List Value)):Prop where
 inv:∀cap w,(invoke (.fn (.func H) cap) #[]).run P w=.ok (.enter H cap) w
 idle:∀(bs:List Own) (w:World),F7 bs ns->CallsD P H (bs.map oG).toArray .returning w fun e u' w'=>e=.returned (.tuple #[])/\u'=.returning/\w'=w
 caught:∀(F:aJ) (bs:List Own) (v:Value) (older:List PanicEntry) (w:World),PS v->F7 bs ns->St F (inp bs) w ->
  CallsD P H (bs.map oG).toArray (.panicking ({v,recovered:=false}::older)) w fun e u' w'=>e=.returned (.tuple #[])/\u'=.panicking ({v,recovered:=true}::older) /\
   ∃F',St F' (inp (List.zipWith qY bs (out v))) w'/\Step F (inp bs) w F' (inp (List.zipWith qY bs (out v))) w'
theorem xk {P:Program}{F:aJ}{L:Loc}{ρ:Env}{a:Act}{w:World}{fn:Func}{rs:List RV}{K:List Value->Prop}(d:St F L w) (f:aN L ρ a) (b:qN P fn.results.toList=some rs) (h:mU L ρ rs K) :
  ∃vs,(results fn a.tmps).run P w=.ok (iK vs) w/\K vs:=by
 obtain⟨vs,e,c⟩:=rH d f b h;refine⟨vs,?_,c⟩;rw[uD,Array.mapM_eq_mapM_toList];simp only[Sem.run_bind,Sem.run_map];rw[e];simp only[Result.andThen_ok,Sem.run_pure];congr 1
 match vs with
 | []=>rfl
 | [t]=>rfl
 | t::u::r =>
  simp only[iK];rw[dif_neg (by simp)]
def tV:List TO->List TO->Prop
 | [],Mo=>Mo=[]
 | .box t _::l,Mo=>∃(n:Nat) (Mo':List TO),Mo=.box t (List.replicate n .any)::Mo'/\tV l Mo'
 | .row t sz _::l,Mo=>∃Mo',Mo=.row t sz []::Mo'/\tV l Mo'
 | .map _::_,_=>False
 | .win _ _ _ _::_,_=>False
def Cb:List TO->Bool
 | []=>true
 | .map _::_=>false
 | .win _ _ _ _::_=>false
 | .box _ _::l=>Cb l
 | .row _ _ _::l=>Cb l
theorem ET {F:aJ}{L:Loc}:∀vs:List Value,aK F L (List.replicate vs.length .any) vs
 | []=>by simp only[acV,List.replicate_zero,aK]
 | v::vs=>by
  simp only[xo,adB,aK];exact⟨v,vs,rfl,trivial,ET vs⟩
theorem HV {F:aJ}:∀(Lin:List TO) (Li Lo:List Own),Cb Lin=true->Li.length=Lin.length->Lo.length=Lin.length->(∀(i:Nat) o p,Lin[i]?=some o->Li[i]?=some p->∃L,dW F L o p) ->
  (∀(i:Nat) g t cs,Li[i]?=some (.box g t cs)->∃cs',Lo[i]?=some (.box g t cs')) ->
  ∃(Mo:List TO) (Lo':List Own),tV Lin Mo/\Mo.length=Lin.length/\Lo'.length=Lin.length/\(∀(i:Nat) o,Lo'[i]?=some o->Lo[i]?=some o\/∃t sz,o=.row (.slice none 0 0) t sz 0 []) /\
   (∀(i:Nat) g t cs,Li[i]?=some (.box g t cs)->∃cs',Lo'[i]?=some (.box g t cs'))/\∀(i:Nat) o p L G,Mo[i]?=some o->Lo'[i]?=some p->dW G L o p
 | [],Li,Lo,c,d,f,j,h=>by
  have:Li=[]:=List.length_eq_zero_iff.1 d;subst this;exact⟨[],[],rfl,rfl,rfl,fun i o e=>by simp at e,fun i g t cs e=>by simp at e,fun i o p L G e=>by simp at e⟩
 | o::Lin,[],Lo,c,d,f,j,h=>by simp at d
 | o::Lin,p::Li,[],c,d,f,j,h=>by simp at f
 | o::Lin,p::Li,q::Lo,c,d,f,j,h=>by
  obtain⟨Mo,Lo',x,m,w,r,s,u⟩:=HV Lin Li Lo (by cases o<;>first | exact c | cases c) (by simpa using d) (by simpa using f) (fun i o p a b=>j (i+1) o p (by simpa using a) (by simpa using b)) (fun i g t cs e=>by simpa using h (i+1) g t cs (by simpa using e));obtain⟨L,k⟩:=j 0 o p rfl rfl;cases o with
  | map es=>cases c
  | win t0 p0 c0 z=>cases c
  | box t cs =>
   cases p with
   | row=>exact k.elim
   | box g l us =>
    obtain⟨cs',e⟩:=h 0 g l us rfl;simp only[ac6,w7] at e;subst e;refine⟨.box t (List.replicate cs'.length .any)::Mo,.box g l cs'::Lo',⟨_,_,rfl,x⟩,by simp[m],by simp[w],fun i o e=>?_,fun i g t cs e=>?_,fun i o p L G a b=>?_⟩
    ·cases i with
     | zero=>exact .inl e
     | succ i=>simpa using r i o (by simpa using e)
    ·cases i with
     | zero=>simp only[ac6,w7] at e;injection e with q1 q2 q3;subst q1 q2;exact⟨_,rfl⟩
     | succ i=>simpa using s i g t cs (by simpa using e)
    ·cases i with
     | zero =>
      simp only[ac6,w7] at a b;subst a b;exact⟨k.1,ET _⟩
     | succ i=>exact u i o p L G (by simpa using a) (by simpa using b)
  | row t sz els =>
   cases p with
   | box=>exact k.elim
   | row v l y n xs =>
    refine⟨.row t sz []::Mo,.row (.slice none 0 0) t sz 0 []::Lo',⟨_,rfl,x⟩,by simp[m],by simp[w],fun i o e=>?_,fun i g t cs e=>?_,fun i o p L G a b=>?_⟩
    ·cases i with
     | zero=>simp only[ac6,w7] at e;subst e;exact .inr ⟨_,_,rfl⟩
     | succ i=>simpa using r i o (by simpa using e)
    ·cases i with
     | zero=>simp only[ac6,w7] at e;cases e
     | succ i=>simpa using s i g t cs (by simpa using e)
    ·cases i with
     | zero =>
      simp only[ac6,w7] at a b;subst a b;exact⟨rfl,rfl,rfl,⟨adg _,none,0,rfl,fun _=>rfl⟩,by simp only[aT]⟩
     | succ i=>exact u i o p L G (by simpa using a) (by simpa using b)
theorem Ux {F F':aJ}{Lin:List TO}{Li Lo:List Own}{w w':World}(n:Cb Lin=true) (z:Li.length=Lin.length) (v:ep F (inp Li) (jQ Lin)) (h:St F' (inp Lo) w') (a:Step F (inp Li) w F' (inp Lo) w') (r:Lo.length=Li.length)
  (x:∀(i:Nat) g t cs,Li[i]?=some (.box g t cs)->∃cs',Lo[i]?=some (.box g t cs')) :
  ∃Mo Lo',St F' (inp Lo') w'/\Step F (inp Li) w F' (inp Lo') w'/\tV Lin Mo/\Mo.length=Lo'.length/\ep F' (inp Lo') (jQ Mo)/\∀(i:Nat) g t cs,Li[i]?=some (.box g t cs)->∃cs',Lo'[i]?=some (.box g t cs'):=by
 have f:∀(i:Nat) o p,Lin[i]?=some o->Li[i]?=some p->∃L,dW F L o p:=by
  intro i o p d s;have y:=v (1000+i);rw[dh,bE,o6 (by omega),o6 (by omega),show 1000+i-1000=i by omega,d,s] at y;exact⟨_,y⟩
 obtain⟨Mo,Lo',a1,q,u,a4,a5,a6⟩:=HV Lin Li Lo n z (by rw[r,z]) f x;have c:∀j o,(inp Lo').get j=some o->(inp Lo).get j=some o\/∃t sz,o=.row (.slice none 0 0) t sz 0 []:=by
  intro j o e;rw[bE] at e ⊢;split at e
  case isFalse=>cases e
  rename_i hj;rw[o6 hj];exact a4 _ o e
 refine⟨Mo,Lo',⟨h.frz,fun j o e=>?_,fun j o g e hb=>?_,fun j j' o o' g e e' hb l=>?_,h.glob⟩,?_,a1,by rw[q,u],fun k=>?_,a5⟩
 ·rcases c j o e with d | ⟨t,sz,rfl⟩
  ·exact h.own j o d
  ·exact World.ownsRow_nil w' 0 t sz
 ·rcases c j o e with d | ⟨t,sz,rfl⟩
  ·exact h.off j o g d hb
  ·cases hb
 ·rcases c j o e with d | ⟨t,sz,rfl⟩
  ·rcases c j' o' e' with s | ⟨t,sz,rfl⟩
   ·exact h.sep j j' o o' g d s hb l
   ·cases l
  ·cases hb
 ·refine⟨a.le,a.os,a.tape,a.output,a.size,a.same,a.frz,fun b hb=>?_⟩;obtain⟨j,o,e,hb⟩:=hb;rcases c j o e with d | ⟨t,sz,rfl⟩
  ·exact a.own b ⟨j,o,d,hb⟩
  ·cases hb
 ·rw[dh,bE];split
  ·cases d:Mo[k-1000]? with
   | none =>
    have:Lo'[k-1000]?=none:=ac3 (by rw[u,<-q];exact adC.1 d);rw[this];trivial
   | some o =>
    have m:k-1000<Lo'.length:=by rw[u,<-q];exact(acP.1 d).1
    rw[w8 m];exact a6 _ o _ _ _ d (w8 m)
  ·trivial
def zU (M:TL) (τ:bg):List Nat->List Nat->Bool
 | [],[]=>true
 | k::ks,n::ns=>match τ k,M.get k with
  | .own j 0,some (.box _ cs)=>match Nat.beq j k,eI cs n with | true,true=>zU M τ ks ns | _,_=>false
  | _,_=>false
 | _,_=>false
section
variable {G:Nat->Option (Nat×TypeId)}{F:aJ}{L:Loc}{ρ:Env}{M:TL}{τ:bg}
theorem EU:∀{ks ns:List Nat},zU M τ ks ns=true->TS G F L ρ M τ->∃bs:List Own,L.sub ks=some bs/\F7 bs ns/\ks.map (fun k=>conc L (ρ k))=bs.map oG/\(∀k∈ks,ρ k=.own k 0)
 | [],[],_,_=>⟨[],rfl,trivial,rfl,fun k h=>by cases h⟩
 | [],n::ns,h,_=>by cases h
 | k::ks,[],h,_=>by cases h
 | k::ks,n::ns,h,b=>by
  simp only[zU] at h;split at h
  case h_2=>cases h
  rename_i j t cs s l;split at h
  case h_2=>cases h
  rename_i d r;have d:=vz d;subst d;obtain⟨bs,u,q,o,m⟩:=EU h b;obtain⟨g,ty,vs,f,p,c⟩:=mY b.tl l;have e:ρ j=.own j 0:=(iz (x:=.t j) b.env s).1;refine⟨.box g ty vs::bs,by simp only[Loc.sub,f,u],⟨HU c.2.2 (by rw[p.len];exact cg r),q⟩,?_,?_⟩
  ·rw[acU,acU,o];simp only[e,conc,f,oG]
  ·intro k a;rcases acQ.1 a with rfl | a
   ·exact e
   ·exact m k a
end
theorem yt:∀{bs:List Own}{ns:List Nat},F7 bs ns->bs.length=ns.length
 | [],[],_=>rfl
 | [],_::_,h=>h.elim
 | _::_,[],h=>h.elim
 | o::bs,n::ns,h=>by simp[yt h.2]
theorem EV {hb:List (Nat×Nat)}{L L':Loc}:∀{ks ns:List Nat}{bs:List Own},L.sub ks=some bs->F7 bs ns->(∀k g t cs,k∈ks->L.get k=some (.box g t cs)->∃cs',L'.get k=some (.box g t cs'))->YJ hb L'->(∀x∈ks.zip ns,x∈hb) ->
  ∃a,L'.sub ks=some a/\F7 a ns/\a.map oG=bs.map oG
 | [],ns,bs,b,c,p,f,m=>by
  simp only[Loc.sub,w7] at b;subst b;exact⟨[],rfl,c,rfl⟩
 | k::ks,ns,bs,b,c,p,f,m=>by
  simp only[Loc.sub] at b;split at b
  case h_2=>cases b
  rename_i o l v y;injection b with b
  subst b;cases ns with
  | nil=>exact c.elim
  | cons n ns =>
   obtain⟨c,h⟩:=c;cases o with
   | row=>exact c.elim
   | box g t cs =>
    obtain⟨a,z,w,u⟩:=EV y h (fun j g t cs r e=>p j g t cs (by simp[r]) e) f (fun x hx=>m x (by simp[hx]));obtain⟨cs',q⟩:=p k g t cs (by simp) v;obtain⟨g',t',aa,d,s⟩:=f k n (m _ (by simp));rw[q] at d;injection d with d
    injection d with x1 x2 x3
    subst x1 x2 x3;exact⟨.box g t cs'::a,by simp only[Loc.sub,q,z],⟨HU (Pr c) s,w⟩,by simp[u,oG]⟩
theorem HW:∀{bs:List Own}{ns:List Nat}{l:List (List Value)},F7 bs ns->l.length=ns.length->(List.zipWith qY bs l).length=bs.length/\(∀(i:Nat) g t cs,bs[i]?=some (.box g t cs)->∃cs',(List.zipWith qY bs l)[i]?=some (.box g t cs')) /\
  ∀(i:Nat) cs,l[i]?=some cs->∃g t,(List.zipWith qY bs l)[i]?=some (.box g (t+1) cs)
 | [],[],l,_,h=>by
  have:l=[]:=List.length_eq_zero_iff.1 h;subst this;exact⟨rfl,fun i g t cs e=>by simp at e,fun i cs e=>by simp at e⟩
 | [],n::ns,l,h,_=>h.elim
 | o::bs,[],l,h,_=>h.elim
 | o::bs,n::ns,[],_,h=>by simp at h
 | o::bs,n::ns,c::l,⟨a,d⟩,h=>by
  obtain⟨k,j,f⟩:=HW (l:=l) d (by simpa using h);cases o with
  | row=>exact a.elim
  | box g t cs =>
   refine⟨by simp[k],fun i b m cs' e=>?_,fun i cs' e=>?_⟩
   ·cases i with
    | zero =>
     simp only[ac6,w7] at e;injection e with x1 x2 x3
     subst x1 x2;exact⟨c,rfl⟩
    | succ i=>simpa using j i b m cs' (by simpa using e)
   ·cases i with
    | zero =>
     simp only[ac6,w7] at e;subst e;cases t with
     | zero=>exact a.elim
     | succ t=>exact⟨g,t,rfl⟩
    | succ i=>simpa using f i cs' (by simpa using e)
theorem wD {a:Act}{ρ:Env}{L:Loc}(b:aN L ρ a):∀ks:List Nat,(ks.map Operand.tmp).map a.eval=ks.map fun k=>conc L (ρ k)
 | []=>rfl
 | k::ks=>by
  simp only[acU,wD b ks];exact j3 (·::_) (b.eq k)
theorem Ss:∀(l:List PanicEntry),(∀e∈l,e.goexit=false)->l.dropWhile (!·.goexit)=[]
 | [],_=>rfl
 | e::l,h=>by
  rw[List.dropWhile_cons,o6 (by simp[h e (by simp)])];exact Ss l fun x a=>h x (by simp[a])
theorem Da {P:Program}{f H d r1:Nat}{fn:Func}{c0 rest:Code}{o1 o2:Oper}{A:cE}{sc0 sc:aI}{rs:List RV}{ks ns:List Nat}{args:List C}{Lin:List TO}{R:List TO->C->Prop}{PS:Value->Prop}{out:Value->List (List Value)}
  (hf:P.funcs[f]?=some fn) (hb:fn.body=some (.seq c0 (.seq (.region r1 #[o1,o2] false) rest))) (hname:(fn.name == "runtime.NumGoroutine")=false) (hnt:fn.ntmps=A.n)
  (ho1:o1.op=.makeFunc (.func H) #[] (ks.map Operand.tmp).toArray) (hd1:o1.dst=some d) (hg1:o1.guard=none) (ho2:o2.op=.defer {callee:=.value (.tmp d),args:=#[],argTypes:=#[]}) (hd2:o2.dst=none) (hg2:o2.guard=none)
  (hl0:low P A c0=some sc0) (hl:low P A rest=some sc) (hres:qN P fn.results.toList=some rs) (hH:qP P H PS ns out) (hd:d<A.n) (hks:bR ks=true) (hkd:(ks.all fun k=>!(gS (dN rest) k)&&!(Nat.beq k d)&&Nat.blt k 1000)=true)
  (hout:∀v,PS v->(out v).length=ns.length) (hlen:Nat.ble args.length A.n=true) (hnm:Cb Lin=true)
  (hcat:∀v,PS v->∃c x,(∀(L:Loc) (ρ:Env),(∀(i:Nat) k cs,ks[i]?=some k->(out v)[i]?=some cs->ρ k=.own k 0/\∃g t,L.get k=some (.box g (t+1) cs))->mU L ρ rs (fun vs=>iK vs=x))/\(∀F L,Rel F L c x)/\∀Mo,tV Lin Mo->R Mo c)
  (h:tE args->(∀o∈Lin,o.Wf)->gh P ⟨fun _=>False,[],none⟩ sc0 (fun _ _ _=>False) (fun _ _=>False) (fun M τ=>zU M τ ks ns=true /\
   gh P ⟨PS,ks.zip ns,none⟩ sc (fun _ _ _=>False) (fun L ρ=>rN L ρ rs fun vs=>o7 Lin L (uF vs) R) (fun L ρ=>rN L ρ rs fun vs=>o7 Lin L (uF vs) R) M (bV (some d) .any τ)) (jQ Lin) (xO 0 args)) :
  CallsT P f args Lin R:=by
 refine⟨fun F Li vs hlL htl ha=>⟨⟨fn,hf,by rw[hb];rfl,hname⟩,iN.abM,fun w hs=>?_⟩⟩
 suffices hall:∀RR:Ending->World->Prop,(∀v F' Lo w',St F' (inp Lo) w'->Step F (inp Li) w F' (inp Lo) w'->iN Li R F' Lo v->RR (.returned v) w')->Calls P f vs.toArray w RR from
  hall _ fun v F' Lo w' h1 h2 h3=>⟨v,F',Lo,rfl,h1,h2,h3⟩
 intro RR hRR;refine calls_of_wp_defers hf hb ?_;have hwo:∀o∈Lin,o.Wf:=by
  intro o ho;obtain⟨i,hi⟩:=adh.1 ho;have:=htl (1000+i);rw[dh,bE,o6 (by omega),o6 (by omega),show 1000+i-1000=i by omega,hi] at this;cases e:Li[i]? with
  | none=>rw[e] at this;exact this.elim
  | some p=>rw[e] at this;exact dW.wf this
 have h:=h ha.wf hwo;have hla:=ha.len;have hlen:=ac8 hlen;have key:∀j,∃sv,bh F (inp Li) (xO 0 args j) sv/\conc (inp Li) sv=(vs.toArray++Array.replicate (fn.ntmps-vs.toArray.size) undef).getD j undef/\(∀k off,sv=.own k off->∃g t cs,(inp Li).get k=some (.box g t cs))/\(∀ad i,sv=.el ad i->ad≠none):=by
  intro j;rw[zS];simp only[adg,adk,Nat.sub_zero,adf];cases e:args[j]? with
  | some c =>
   have hlt:j<vs.length:=by rw[hla];exact(acP.1 e).1
   obtain⟨s1,s2,s3,s4⟩:=C8 (ha.at e (w8 hlt));refine⟨_,s1,?_,s3,fun ad i e=>s4 ad i e⟩;rw[s2,Array.getElem?_append_left (by simpa using hlt)];simp[hlt]
  | none =>
   have hge:vs.length<=j:=by rw[hla];exact adC.1 e
   refine⟨.v undef,rV,?_,fun _ _ e=>(by cases e),fun _ _ e=>(by cases e)⟩;rw[Array.getElem?_append_right (by simpa using hge)];simp only[Array.getElem?_replicate,conc];split<;>rfl
 let ρ0:Env:=fun j=>(key j).choose
 have he:aN (inp Li) ρ0 {tmps:=vs.toArray++Array.replicate (fn.ntmps-vs.toArray.size) undef,defers:=[]} :=
  ⟨fun t=>(key t).choose_spec.2.1.symm,fun t k off e=>(key t).choose_spec.2.2.1 k off e,fun t ad j e=>(key t).choose_spec.2.2.2 ad j e⟩
 let G:Nat->Option (Nat×TypeId):=fun k=>match(inp Li).get k with | some (.box g t _)=>some (g,t) | _=>none
 have hG1:∀k g t cs,(inp Li).get k=some (.box g t cs)->G k=some (g,t):=fun k g t cs e=>by simp only[G,e]
 have hkp:Kp G (inp Li):=by
  intro k g t e;simp only[G] at e;split at e
  ·rename_i g' t' cs h;injection e with e
   injection e with e1 e2
   subst e1 e2;exact⟨cs,h⟩
  ·cases e
 have ht:TS G F (inp Li) ρ0 (jQ Lin) (xO 0 args):=⟨htl,fun j=>(key j).choose_spec.1,hkp,hs.glob⟩;have hGd:∀k,G k≠none->1000<=k:=by
  intro k hne;simp only[G] at hne;split at hne
  ·rename_i g t cs h;rw[bE] at h;split at h
   ·assumption
   ·cases h
  ·exact s6 rfl hne
 refine wp_seq (wp_mono (qE c0 hl0 (fun k _ hne=>.inl (hGd k hne)) hs he ht (by simp[hnt];omega) h) ?_);intro e a1 w1 hq;cases e with
 | exit j=>obtain⟨F',L',ρ',_,_,_,_,_,_,M',τ',_,h⟩:=hq;exact h.elim
 | goto l=>exact hq.elim
 | outgrown=>exact hq.elim
 | ret=>obtain⟨F',L',ρ',_,_,_,_,_,_,M',τ',_,h⟩:=hq;exact h.elim
 | panic c=>obtain⟨v,hch,F',L',_,_,_,_,_,_,hp,_⟩:=hq;exact hp.elim
 | normal =>
 obtain⟨F1,L1,ρ1,hs1,he1,hn1,hd1',hst1,_,M1,τ1,ht1,hcaps,hrest⟩:=hq;obtain⟨bs,hsub,hbx,hptr,hown⟩:=EU hcaps ht1;simp only[Exit.then]
 -- the deferred function is named
 generalize hfv:Value.func (.func H) #[] (bs.map oG).toArray=fv;have hev:(ks.map Operand.tmp).toArray.map a1.eval=(bs.map oG).toArray:=by
  rw[List.map_toArray,wD he1,hptr]
 have he2:=he1.put (L':=L1) (d:=some d) (v:=fv) (x:=.v fv) (fun k e=>by injection e with e;subst e;omega) rfl dA fS (fun k g ty cs e=>⟨cs,e⟩);have ht2:TS G F1 L1 (put (some d) (.v fv) ρ1) M1 (bV (some d) .any τ1):=ht1.put (c:=.any) (sv:=.v fv) trivial (some d);obtain⟨tm,df⟩:=a1;simp only at hd1';subst hd1';have hdt:(tm.setIfInBounds d fv).getD d undef=fv:=by
  have:d<tm.size:=by simpa[hn1] using hd
  simp[adf,this]
 refine wp_seq (wp_region ?_);generalize hd0:({target:=.fn (.func H) (bs.map oG).toArray,args:=#[]}:Deferred)=d0;have hsz:d<tm.size:=by simpa[hn1] using hd
 simp[wpOps,go_sem,ho1,hd1,hg1,ho2,hd2,hg2,Exit.then,Region.wanted,hsz,Instr.makeFunc];have hml:List.map (Act.eval {tmps:=tm,defers:=[]}∘Operand.tmp) ks=bs.map oG:=by
  rw[<-hptr,<-wD he1,adI]
 rw[hml,hfv,hd0];refine .inl (.inl ?_)
 let G1:Nat->Option (Nat×TypeId):=fun k=>match Nat.ble 1000 k||gS ks k with | true=>(match L1.get k with | some (.box g t _)=>some (g,t) | _=>none) | false=>none
 have hGL:∀k g t cs,(1000<=k\/k∈ks)->L1.get k=some (.box g t cs)->G1 k=some (g,t):=fun k g t cs hk e=>by
  have:(Nat.ble 1000 k||gS ks k)=true:=by
   rw[adl];exact hk.imp (fun h=>by rw[Nat.ble_eq];exact h) dQ.2
  simp only[G1,this,e]
 have hfz1:vF G1 ⟨PS,ks.zip ns,none⟩ (jE sc):=by
  intro k _ hne;simp only[G1] at hne;split at hne
  ·rename_i hb;rw[adl] at hb;rcases hb with hb | hb
   ·rw[Nat.ble_eq] at hb;exact .inl hb
   ·refine .inr ?_;have hl2:ks.length=ns.length:=by rw[(fE hsub).1.symm];exact yt hbx
    show gS ((ks.zip ns).map (·.1)) k=true;rw[List.map_fst_zip (by omega)];exact hb
  ·exact s6 rfl hne
 have hkp1:Kp G1 L1:=by
  intro k g t e;simp only[G1] at e;split at e
  case h_2=>cases e
  split at e
  ·rename_i g' t' cs h;injection e with e
   injection e with e1 e2
   subst e1 e2;exact⟨cs,h⟩
  ·cases e
 have hGG:∀k g t,G k=some (g,t)->G1 k=some (g,t):=fun k g t e=>let⟨cs,h⟩:=ht1.kp k g t e;hGL k g t cs (.inl (hGd k (by rw[e];simp))) h;have ht3:TS G1 F1 L1 (put (some d) (.v fv) ρ1) M1 (bV (some d) .any τ1):=⟨ht2.tl,ht2.env,hkp1,ht2.glob⟩;have he3:aN L1 (put (some d) (.v fv) ρ1) {tmps:=tm.setIfInBounds d fv,defers:=[d0]}:=⟨he2.eq,he2.own,he2.el⟩;refine wp_mono (qE rest hl hfz1 hs1 he3 ht3 (by simpa using hn1) hrest) ?_;intro e a' w' hq;have hnd:=dS hks;have hGI:∀k g t cs,(inp Li).get k=some (.box g t cs)->G1 k=some (g,t):=fun k g t cs e=>hGG k g t (hG1 k g t cs e);have back:∀(u:FrameMode) (w:World),u=.returning->Leaves P fn a'.tmps RR [] .returning w->Leaves P fn a'.tmps RR [d0] u w:=by
  rintro u w rfl hlv;rw[<-hd0];refine leaves_cons (f:=H) (args:=(bs.map oG).toArray) (by simp) (hH.inv _ w) ?_;refine(hH.idle bs w hbx).mono ?_;rintro e u' w6 ⟨rfl,rfl,rfl⟩;exact hlv
 have fin:fH A.n F1 L1 w1 {tmps:=tm.setIfInBounds d fv,defers:=[d0]} (dN rest) (Both G1 (fun L ρ=>rN L ρ rs fun vs=>o7 Lin L (uF vs) R)) a' w'->Leaves P fn a'.tmps RR a'.defers .returning w':=by
  intro hq;have hq':fH A.n F (inp Li) w {tmps:=tm.setIfInBounds d fv,defers:=[d0]} (dN rest) (Both G1 (fun L ρ=>rN L ρ rs fun vs=>o7 Lin L (uF vs) R)) a' w':=by
   obtain⟨F',L',ρ',g1,g2,g3,g4,g5,g6,g7⟩:=hq;exact⟨F',L',ρ',g1,g2,g3,g4,hst1.trans g5,g6,g7⟩
  obtain⟨k1,v,k2,F',Lo,k3,k4,k5⟩:=Sr hres hlL htl hGI hq';rw[k1];exact back _ _ rfl ⟨v,k2,hRR v F' Lo w' k3 k4 k5⟩
 cases e with
 | normal=>exact fin hq
 | ret=>exact fin hq
 | exit j=>obtain⟨F',L',ρ',_,_,_,_,_,_,M',τ',_,h⟩:=hq;exact h.elim
 | goto l=>exact hq.elim
 | outgrown=>exact hq.elim
 | panic ch =>
  obtain⟨v,⟨older,rfl,hold⟩,F',L',g1,g2,g3,g4,g5,kp,hp,hbL,_⟩:=hq;show Leaves P fn a'.tmps RR a'.defers _ w';rw[g4,<-hd0];obtain⟨bs',q1,q2,q3⟩:=EV hsub hbx (fun k g t cs hk e=>kp k g t (hGL k g t cs (.inr hk) e)) hbL (fun x hx=>hx);refine leaves_cons (f:=H) (args:=(bs.map oG).toArray) (by simp) (hH.inv _ w') ?_;rw[<-q3];refine(hH.caught F' bs' v older w' hp q2 (g1.handed q1 hnd)).mono ?_;rintro e u' w6 ⟨rfl,rfl,F6,hs6,hst6⟩;show Leaves P fn a'.tmps RR [] (settle _) w6;have hset:settle (.panicking ({v,recovered:=true}::older))=.returning:=by
   have:older.dropWhile (!·.goexit)=[]:=by
    exact Ss older hold
   simp only[settle,this]
  rw[hset];obtain⟨z1,z2,z3⟩:=HW (l:=out v) q2 (hout v hp);obtain⟨sl,sg⟩:=fE q1;have hkl:ks.length=(List.zipWith qY bs' (out v)).length:=by rw[z1,sl]
  obtain⟨c1,c2⟩:=kh g1 q1 hnd hnd (fun k hk=>.inl hk) hs6 hst6 hkl;generalize hL6:(L'.aa7 ks).puts ks (List.zipWith qY bs' (out v))=L6 at c1 c2;have hget:∀(i:Nat) k cs,ks[i]?=some k->(out v)[i]?=some cs->∃g t,L6.get k=some (.box g (t+1) cs)/\(∃cs',L'.get k=some (.box g (t+1) cs')):=by
   intro i k cs e1 e2;obtain⟨g,t,e3⟩:=z3 i cs e2;refine⟨g,t,by rw[<-hL6];exact dL hnd hkl e1 e3,?_⟩;have e4:=sg i k e1;have hlt:i<bs'.length:=by rw[<-z1];exact(acP.1 e3).1
   rw[w8 hlt] at e4;have e5:(List.zipWith qY bs' (out v))[i]?=some (qY bs'[i] cs):=by
    rw[List.getElem?_zipWith,w8 hlt,e2]
   rw[e3] at e5;injection e5 with e5
   cases hb:bs'[i] with
   | row=>rw[hb] at e5;cases e5
   | box g' t' cs' =>
    rw[hb] at e5 e4;injection e5 with x1 x2
    subst x1 x2;exact⟨cs',e4⟩
  -- the slots that name the boxes
  let ρ6:Env:=fun j=>match gS ks j with | true=>.own j 0 | false=>.v (a'.tmps.getD j undef)
  have hkd':∀k∈ks,k∉dN rest/\k≠d:=by
   intro k hk;have:=ac5.1 hkd k hk;simp only[acR,Bool.not_eq_true'] at this;refine⟨fun hm=>?_,fun e=>?_⟩
   ·rw[dQ.2 hm] at this;exact s6 this.1.1 (by simp)
   ·subst e;simp at this
  have hslot:∀k∈ks,∃g t cs,L6.get k=some (.box g t cs)/\a'.tmps.getD k undef=.pointer (some ⟨g,0,none⟩):=by
   intro k hk;obtain⟨i,hi⟩:=adh.1 hk;have hlt:i<(out v).length:=by
    have:=(acP.1 hi).1;have hl2:ks.length=ns.length:=by rw[<-sl];exact yt q2
    rw[hout v hp];omega
   obtain⟨g,t,e1,cs',e2⟩:=hget i k _ hi (w8 hlt);refine⟨g,t+1,_,e1,?_⟩;obtain⟨y1,y2⟩:=hkd' k hk;rw[g5 k y1];have:=he3.eq k;rw[this,put_eq];simp only[];rw[s8 y2,hown k hk];simp only[conc];obtain⟨g0,t0,cs0,e0⟩:=he1.own k k 0 (hown k hk);obtain⟨cs1,e3⟩:=kp k g0 t0 (hGL k g0 t0 cs0 (.inr hk) e0);rw[e2] at e3;injection e3 with e3
   injection e3 with x1 x2 _
   subst x1;rw[e0]
  have he6:aN L6 ρ6 a':=by
   refine⟨fun j=>?_,fun j k off e=>?_,fun j ad i e=>?_⟩
   ·simp only[ρ6];cases hm:gS ks j with
    | false=>rfl
    | true =>
     obtain⟨g,t,cs,e1,e2⟩:=hslot j (dQ.1 hm);rw[e2];simp only[conc,e1]
   ·simp only[ρ6] at e;cases hm:gS ks j with
    | false=>rw[hm] at e;cases e
    | true =>
     rw[hm] at e;injection e with x1 x2
     subst x1;obtain⟨g,t,cs,e1,_⟩:=hslot j (dQ.1 hm);exact⟨g,t,cs,e1⟩
   ·simp only[ρ6] at e;cases hm:gS ks j<;>rw[hm] at e<;>cases e
  obtain⟨c,x,hrv,hrel,hlost⟩:=hcat v hp;obtain⟨us,h5,h6⟩:=xk (K:=fun vs=>iK vs=x) c1 he6 hres (hrv L6 ρ6 fun i k cs e1 e2=>by
   obtain⟨g,t,e3,_⟩:=hget i k cs e1 e2;refine⟨?_,g,t,e3⟩;simp only[ρ6,dQ.2 (acS e1)])
  have hst:Step F (inp Li) w F6 L6 w6:=(hst1.trans g2).trans c2;obtain⟨Lo,p1,p2,p3,p4⟩:=zT c1 hst (fun i g t cs e=>by
   have e0:(inp Li).get (1000+i)=some (.box g t cs):=by rw[bE,o6 (by omega),show 1000+i-1000=i by omega];exact e
   obtain⟨cs1,e1⟩:=kp (1000+i) g t (hGI _ g t cs e0);refine⟨cs1,?_⟩;rw[<-hL6];have hni:1000+i∉ks:=by
    intro hm;have:=ac5.1 hkd _ hm;simp only[acR] at this;have:=this.2;rw[Nat.blt_eq] at this;omega
   rcases eH ks (List.zipWith qY bs' (out v)) (L'.aa7 ks) (1000+i) hnd hkl with⟨q1,q2⟩ | ⟨i',q1,q2,q3⟩
   ·rw[q1,gH,s8 hni];exact e1
   ·exact s6 (acS q1) hni)
  obtain⟨Mo,Lo',l1,l2,l3,l4,l5,l6⟩:=Ux hnm hlL htl p1 p2 p3 p4;refine⟨_,h5,hRR _ F6 Lo' w6 l1 l2 ⟨Mo,c,l4,l5,?_,l6,hlost Mo l3⟩⟩;rw[h6];exact hrel _ _
def tmpsOf:List Operand->Option (List Nat)
 | []=>some []
 | .tmp k::l=>match tmpsOf l with | some ks=>some (k::ks) | none=>none
 | _::_=>none
theorem Cc:∀{l:List Operand}{ks:List Nat},tmpsOf l=some ks->l=ks.map Operand.tmp
 | [],ks,h=>by simp only[tmpsOf,w7] at h;subst h;rfl
 | o::l,ks,h=>by
  cases o<;>simp only[tmpsOf,reduceCtorEq] at h;split at h
  case h_2=>cases h
  rename_i a e;injection h with h
  subst h;rw[Cc e];rfl
def Db (op:Op) (d:Nat):Bool :=
 match op with
 | .defer c=>match c.callee,c.args.toList,c.argTypes.toList with
  | .value (.tmp a),[],[]=>Nat.beq d a
  | _,_,_=>false
 | _=>false
theorem Gy {op:Op}{d:Nat}(h:Db op d=true):op=.defer {callee:=.value (.tmp d),args:=#[],argTypes:=#[]}:=by
 unfold Db at h;split at h
 case h_2=>cases h
 rename_i c;split at h
 case h_2=>cases h
 rename_i m b e f;have:=vz h;subst this;obtain⟨ca,j,a⟩:=c;simp only at b e f;subst b;have l:j=#[]:=by apply Array.ext';exact e
 have k:a=#[]:=by apply Array.ext';exact f
 rw[l,k]
def Gz (P:Program) (A:cE) (fn:Func):Option (aI×aI×Nat×List Nat×Nat×List RV) :=
 match fn.body with
 | some (.seq c0 (.seq (.region _ ⟨[o1,o2]⟩ false) rest))=>match o1.op,o1.dst,o1.guard with
  | .makeFunc (.func H) ⟨[]⟩ ca,some d,none=>match Db o2.op d,o2.dst,o2.guard,tmpsOf ca.toList with
   | true,none,none,some ks=>match low P A c0,low P A rest,qN P fn.results.toList with
    | some sc0,some sc,some rs=>match fn.name == "runtime.NumGoroutine",Nat.beq fn.ntmps A.n&&Nat.blt d A.n&&bR ks,ks.all fun k=>!(gS (dN rest) k)&&!(Nat.beq k d)&&Nat.blt k 1000 with
     | false,true,true=>some (sc0,sc,H,ks,d,rs)
     | _,_,_=>none
    | _,_,_=>none
   | _,_,_,_=>none
  | _,_,_=>none
 | _=>none
theorem iP {P:Program}{f H d:Nat}{fn:Func}{A:cE}{j sc:aI}{rs:List RV}{ks ns:List Nat}{args:List C}{Lin:List TO}{R:List TO->C->Prop}{PS:Value->Prop}{out:Value->List (List Value)}
  (hf:P.funcs[f]?=some fn) (a:Gz P A fn=some (j,sc,H,ks,d,rs)) (hH:qP P H PS ns out)
  (l:∀v,PS v->(out v).length=ns.length) (p:Nat.ble args.length A.n=true) (u:Cb Lin=true)
  (m:∀v,PS v->∃c x,(∀(L:Loc) (ρ:Env),(∀(i:Nat) k cs,ks[i]?=some k->(out v)[i]?=some cs->ρ k=.own k 0/\∃g t,L.get k=some (.box g (t+1) cs))->mU L ρ rs (fun vs=>iK vs=x))/\(∀F L,Rel F L c x)/\∀Mo,tV Lin Mo->R Mo c)
  (h:tE args->(∀o∈Lin,o.Wf)->gh P ⟨fun _=>False,[],none⟩ j (fun _ _ _=>False) (fun _ _=>False) (fun M τ=>zU M τ ks ns=true /\
   gh P ⟨PS,ks.zip ns,none⟩ sc (fun _ _ _=>False) (fun L ρ=>rN L ρ rs fun vs=>o7 Lin L (uF vs) R) (fun L ρ=>rN L ρ rs fun vs=>o7 Lin L (uF vs) R) M (bV (some d) .any τ)) (jQ Lin) (xO 0 args)) :
  CallsT P f args Lin R:=by
 unfold Gz at a;split at a
 case h_2=>cases a
 rename_i c0 r o1 o2 ab hb;split at a
 case h_2=>cases a
 rename_i H' ca d' e1 e2 e3;split at a
 case h_2=>cases a
 rename_i y e4 e5 e6 e7;split at a
 case h_2=>cases a
 rename_i ac ao ae e8 e9 aa;split at a
 case h_2=>cases a
 rename_i z b s;simp only[w7,Prod.mk.injEq] at a;obtain⟨rfl,rfl,rfl,rfl,rfl,rfl⟩:=a;simp only[acR] at b;obtain⟨⟨b,e⟩,q⟩:=b;have w:ca=(y.map Operand.tmp).toArray:=by
  have:=Cc e7;rw[<-this]
 rw[w] at e1;rw[Nat.blt_eq] at e;exact Da hf hb z (vz b) e1 e2 e3 (Gy e4) e5 e6 e8 e9 aa hH e q s l p u m h
end Go.Fr.T
