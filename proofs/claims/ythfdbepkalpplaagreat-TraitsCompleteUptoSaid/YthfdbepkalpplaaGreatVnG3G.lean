/- Part of the proofs of the statements of this seat. -/
import Derived.Test.YthfdbepkalpplaaGreatVnA1G
set_option maxRecDepth 10000
set_option linter.unusedVariables false
set_option linter.unusedSimpArgs false
namespace Go.Fr.Tryz
open Go Go.RowKit Go.Proofs Go.Fr Go.Fr.T Go.Fr.Api
def vr (i:Nat):Ty:=.mk 9 i []
def jf (s:List Ty) (n:Nat):Nat->DM->Option DM
 | 0,m=>some m
 | i+1,m=>match aO s n (vr i) with
  | none=>none
  | some t=>jf s n i (if t.kind=9 then eV m t.id i else m)
def P6 (m:DM) (i:Nat) (t:Ty):Ty:=if(Jm m t).kind=9/\(Jm m t).id=i then .mk 0 0 [] else Jm m t
def qf (s:List Ty) (n:Nat) (m:DM):Nat->Option (List Ty)
 | 0=>some []
 | i+1=>match qf s n m i,nk s n (vr i) with
  | some l,some t=>some (l++[P6 m i t])
  | _,_=>none
def j3 (s:List Ty) (n:Nat):Option (List Ty):=match jf s n s.length [] with
 | none=>none
 | some m=>qf s n m s.length
theorem xD {s:List Ty}(d:∀x∈s,iA x):∀(n:Nat) (t r:Ty),iA t->nk s n t=some r->iA r
 | 0,t,r,hb,h=>by cases h
 | n+1,t,r,hb,h=>by
  rw[nk] at h;split at h
  ·cases h
  rename_i x he
  by_cases b:x.kind=0
  ·rw[o5 (fun q=>q b)] at h;cases c:j7 (nk s n) t.args with
   | none=>simp only[c] at h;cases h
   | some l =>
    simp only[c] at h;injection h with h
    obtain⟨h1,h2⟩:=gJ c;have hb:=(fu t).1 hb;rw[fu,<-h];refine⟨by show l.length<=_;rw[h2,xo];exact hb.1,?_⟩;intro y a;have a:y∈l:=a;rw[h2] at a;obtain⟨z,e,rfl⟩:=abq.1 a;exact xD d n z _ (hb.2 z e) (h1 z e)
  ·rw[fo b] at h;have h9:t.kind=9:=by
    by_cases h9:t.kind=9
    ·exact h9
    ·rw[o5 h9] at he;injection he with he
     rw[<-he] at b;exact vv rfl b
   rw[fo h9] at he;obtain⟨j,f,_⟩:=bE he;exact xD d n x r (d x (aaU f)) h
theorem CK (i:Nat):iA (vr i):=(fu _).2 ⟨abd _,fun x h=>by cases h⟩
theorem vH {s:List Ty}{n:Nat}{m:DM}:∀{N:Nat}{l:List Ty},qf s n m N=some l->∀i<N,∃b t,qf s n m i=some b/\nk s n (vr i)=some t/\qf s n m (i+1)=some (b++[P6 m i t])
 | 0,l,h,i,hi=>vv hi (abv _)
 | N+1,l,h,i,hi=>by
  have a:=h;rw[qf] at a;cases h1:qf s n m N with
  | none=>simp only[h1] at a;cases a
  | some c =>
   cases h2:nk s n (vr N) with
   | none=>simp only[h1,h2] at a;cases a
   | some t =>
    by_cases e:i=N
    ·subst e;refine⟨c,t,h1,h2,?_⟩;rw[qf];simp only[h1,h2]
    ·exact vH h1 i (by omega)
theorem Em {s:List Ty}{n:Nat}{m:DM}:∀{N:Nat}{l:List Ty},qf s n m N=some l->l.length=N
 | 0,l,h=>by rw[qf] at h;injection h with h;rw[<-h];rfl
 | N+1,l,h=>by
  obtain⟨a,t,h1,h2,h3⟩:=vH h N (abW _);rw[h] at h3;injection h3 with h3
  rw[h3,abA,Em h1];rfl
theorem Gc {s:List Ty}{n j:Nat}{m M:DM}(h:jf s n (j+1) m=some M):∃t,aO s n (vr j)=some t/\jf s n j (if t.kind=9 then eV m t.id j else m)=some M:=by
 rw[jf] at h;cases hf:aO s n (vr j) with
 | none=>simp only[hf] at h;cases h
 | some t=>simp only[hf] at h;exact⟨t,rfl,h⟩
theorem Xt (s:List Ty) (n:Nat) (M:DM) (r:List Ty) (hn:s.length<=2 ^ 30) (hs:∀x∈s,iA x) (hm:jf s n s.length []=some M) (hr:qf s n M s.length=some r)
  (y:∀t r,aO s n t=some r->CallsT P 85 [.own 1000 0,aP t] (Fc s) (aR (Fc s) (aP r)))
  (v:∀i r,nk s n (vr i)=some r->CallsT P 87 [.own 1000 0,aP (vr i)] (Fc s) (aR (Fc s) (aP r))/\CallsT P 52 [aP r,.fn 88 [] [.own 1000 0]] [.box 106 [.mpr 1001],.map (j6 IC M)] (aR [.box 106 [.mpr 1001],.map (j6 IC M)] (aP (Jm M r)))) :
  CallsT P 75 [.own 1000 0] (Fc s) (aR (Fc s) (.sl (r.map aD))):=by
 have p:(s.map aD).length=s.length:=xo _;refine af Tryz.func75 Pd rfl fun hw _=>?_;refine Fit.aae (by omega) (by omega) ?_;refine vY.mk ⟨Nat×DM,(s.length,[]),fun x=>x.1<=s.length/\jf s n x.1 x.2=some M,[4],fun x=>[IC ((x.1:Int)-1)],fun x=>[(3,.box 106 [.mpr 9]),(9,.map (j6 IC x.2)),(1000,.box 109 [.sl (s.map aD),.any,.any])],fun x=>x.1,⟨aa2 _,hm⟩,⟨.inr (.inl ⟨vz IC (by rw[p]),rfl⟩),trivial⟩,
  ⟨.inl ⟨_,rfl,.inl ⟨rfl,rfl⟩⟩,.inl ⟨_,rfl,.inl ⟨rfl,rfl⟩⟩,.inl ⟨_,rfl,.inl ⟨rfl,rfl⟩⟩,trivial⟩,fun _=>rfl,fun _=>rfl,?_⟩
 rintro⟨j,m⟩ ⟨hj,c⟩ _ _;refine ah (fun h=>?_) (fun b=>?_)
 ·have z:∃i,j=i+1:=⟨j-1,by have:((j:Int)-1)>=0:=h;omega⟩;refine qe z fun i hi=>?_;have aa:(C.agg [IC 9,IC ((j:Int)-1),.sl []])=aP (vr i):=by rw[hi];show C.agg _=C.agg [IC 9,IC (i:Int),.sl []];congr 3;congr 1;omega
  have c:jf s n (i+1) m=some M:=by rw[<-hi];exact c
  refine qe (Gc c) fun t d=>?_;refine callO [1000] [1000] (y (vr i) t d.1) rfl rfl (by rw[<-aa];rfl) rfl rfl fun _ _=>?_;refine ah (fun h9=>?_) (fun h9=>?_)
  ·refine P2 (f:=IC) (x:=(j:Int)-1) rfl ?_;refine Fit.aae (by omega) (by omega) ?_;refine⟨(i,eV m t.id i),⟨by omega,by have:=d.2;rw[fo h9] at this;exact this⟩,⟨.inr (.inl ⟨vz IC (by show(j:Int)-1-1=(i:Int)-1;omega),rfl⟩),trivial⟩,⟨.inl ⟨_,rfl,.inl ⟨rfl,rfl⟩⟩,.inl ⟨_,rfl,.inl ⟨?_,rfl⟩⟩,.inl ⟨_,rfl,.inl ⟨rfl,rfl⟩⟩,trivial⟩,by show i<j;omega⟩;exact vz (fun q=>TO.map (j6 IC (eV m t.id q))) (show(j:Int)-1=(i:Int) by omega)
  ·refine Fit.aae (by omega) (by omega) ?_;exact⟨(i,m),⟨by omega,by have:=d.2;rw[o5 h9] at this;exact this⟩,⟨.inr (.inl ⟨vz IC (by show(j:Int)-1-1=(i:Int)-1;omega),rfl⟩),trivial⟩,⟨.inl ⟨_,rfl,.inl ⟨rfl,rfl⟩⟩,.inl ⟨_,rfl,.inl ⟨rfl,rfl⟩⟩,.inl ⟨_,rfl,.inl ⟨rfl,rfl⟩⟩,trivial⟩,by show i<j;omega⟩
 ·have w:j=0:=by have:¬((j:Int)-1)>=0:=b;omega
  have ab:m=M:=by rw[w,jf] at c;exact abB c
  refine bN s.length 36 [6] ([]:List Ty) (fun _=>[.rw 58]) (fun l=>[(3,.box 106 [.mpr 9]),(9,.map (j6 IC M)),(58,.row 33 3 (l.map aD)),(1000,.box 109 [.sl (s.map aD),.any,.any])]) (fun k l=>qf s n M k=some l) rfl (ai rfl) ⟨.inr (.inr (.inr (.inl ⟨rfl,58,33,3,rfl,rfl,rfl⟩))),trivial⟩
   ⟨.inl ⟨_,rfl,.inl ⟨rfl,rfl⟩⟩,.inl ⟨_,rfl,.inl ⟨vz (fun q=>TO.map (j6 IC q)) ab,rfl⟩⟩,.inr ⟨rfl,33,3,rfl⟩,.inl ⟨_,rfl,.inl ⟨rfl,rfl⟩⟩,trivial⟩ (fun _=>rfl) (fun _=>rfl) ?_
  rintro k l hk a _ _ _;refine ah (fun b=>?_) (fun h=>?_)
  ·have b:k<s.length:=by rw[p] at b;omega
   refine qe (vH hr k b) fun l' hl=>qe hl fun t d=>?_;have u:l=l':=by rw[a] at d;exact abB d.1
   have o:(l.map aD).length=k:=by rw[xo];exact Em a
   refine callO [1000] [1000] (v k t d.2.1).1 rfl rfl rfl rfl rfl fun _ _=>?_;refine callO [3,9] [3,9] (v k t d.2.1).2 rfl rfl rfl rfl rfl fun _ _=>?_;refine ah (fun h1=>ah (fun h2=>?_) (fun h2=>?_)) (fun h1=>?_)
   ·have e:P6 M k t=.mk 0 0 []:=fo ⟨h1,h2⟩;refine lD k rfl o (by decide) (by omega) ?_;refine Fit.aae (by omega) (by omega) ?_;exact⟨(k+1,l++[.mk 0 0 []]),⟨b,by rw[d.2.2,e,u]⟩,⟨bw,ai rfl,trivial⟩,⟨.inl ⟨_,rfl,.inl ⟨rfl,rfl⟩⟩,.inl ⟨_,rfl,.inl ⟨rfl,rfl⟩⟩,.inl ⟨_,rfl,.inl ⟨nN (vF (f:=.mk 0 0 [])),rfl⟩⟩,.inl ⟨_,rfl,.inl ⟨rfl,rfl⟩⟩,trivial⟩,bB b⟩
   all_goals
    have e:P6 M k t=Jm M t:=o5 (fun q=>by first | exact h2 q.2 | exact h1 q.1);refine lD k rfl o (by decide) (by omega) ?_;refine Fit.aae (by omega) (by omega) ?_;exact⟨(k+1,l++[Jm M t]),⟨b,by rw[d.2.2,e,u]⟩,⟨bw,ai rfl,trivial⟩,⟨.inl ⟨_,rfl,.inl ⟨rfl,rfl⟩⟩,.inl ⟨_,rfl,.inl ⟨rfl,rfl⟩⟩,.inl ⟨_,rfl,.inl ⟨nN (vF (f:=Jm M t)),rfl⟩⟩,.inl ⟨_,rfl,.inl ⟨rfl,rfl⟩⟩,trivial⟩,bB b⟩
  ·have h:¬k<s.length:=by rw[p] at h;omega
   have ac:k=s.length:=by omega
   have e:l=r:=by rw[ac,hr] at a;exact(abB a).symm
   exact yT [58] [1000] ⟨_,_,rfl,rfl,rfl,rfl,W7 (by rw[e])⟩
theorem t75 (s:List Ty) (n:Nat) (r:List Ty) (c:s.length<=2 ^ 30) (a:∀x∈s,iA x) (h:j3 s n=some r):CallsT P 75 [.own 1000 0] (Fc s) (aR (Fc s) (.sl (r.map aD))):=by
 unfold j3 at h;cases b:jf s n s.length [] with
 | none=>simp only[b] at h;cases h
 | some M =>
  simp only[b] at h;exact Xt s n M r c a b h (fun t r q=>UU s n t r q) fun i r q=>⟨t87 s a n (vr i) r (CK i) q,Xr M r (xD a n (vr i) r (CK i) q)⟩
def gh (n:Int) (t:Ty):Bool:=if t.kind=0 then decide (t.id=0)&&decide (t.args.length=0) else ins n t
def dJ (s:List Ty) (n:Nat):Nat->Option (Option (Bool×DM×OM))
 | 0=>some (some (false,[],[]))
 | i+1=>match dJ s n i with
  | some (some (b,d,o))=>match bH s n (vr i) d o with
   | some (some (k,a,o'))=>some (some (b||decide (k>8),a,o'))
   | some none=>some none
   | none=>none
  | some none=>some none
  | none=>none
def bK (s:List Ty) (n:Nat):Option (Option (DM×OM)) :=
 if s.all (gh s.length) then(match dJ s n s.length with
  | some (some (b,d,o))=>if b then some none else some (some (d,o))
  | some none=>some none
  | none=>none) else some none
def RF (s:List Ty) (r:Option (DM×OM)):List TO->C->Prop:=fun Mo v=>∃d o,r=some (d,o)/\Mo=JH s d o/\v=.tup []
def PF (e:Int) (r:Option (DM×OM)):Value->Prop:=fun v=>r=none/\∃a,(a=1\/a=e)/\v=dh a
def En (s:List Ty) (e:Int) (r:Option (DM×OM)):Prop:=CallsTX P 71 [.own 1000 0,IC e] (pX s) (RF s r) (PF e r)
section
variable {L:TL}{ρ:aG}
theorem CM (ks ko:List Nat) {PS:qa}{args:List C}{K:TL->aG->C->Prop}{s:List Ty}{e:Int}{r:Option (DM×OM)}{Lin:List TO}(h:En s e r) (q:L.sub ks=some Lin)
  (a:(T.aU ks&&T.aU ko&&T.kE L ks ko&&aJ Lin ks ko&&kY L ks PS.hb)=true) (m:(args.map fun c=>c.aaj.ren (bh ks 1000))=[.own 1000 0,IC e]) (f:Lin.map (TO.aad (C.ren (bh ks 1000)))=pX s) (j:ko.length=4) (b:∀v,PF e r v->PS.ps v)
  (k:∀d o,r=some (d,o)->K (((L.aaf ks).kills (rowsOf L ks)).puts ko ((JH s d o).map (TO.aad (C.ren (aN ko))))) (ef (rowsOf L ks) ρ) (.tup [])):pz P PS 71 args L ρ K:=by
 simp only[aaN] at a;obtain⟨⟨⟨⟨n,p⟩,c3⟩,c4⟩,c5⟩:=a;refine⟨[],ks,ko,L,Lin,_,_,.inl rfl,q,n,p,c3,c4,c5,by rw[f,m];exact h,b,?_⟩;rintro v Mo ⟨d,o,l,rfl,rfl⟩ u t;exact⟨j,k d o l⟩
end
abbrev Eo (t:Ty):List C:=[IC t.kind,IC t.id,.sl (t.args.map aD)]
abbrev LU (s:List Ty):List TO:=[.box 104 [.own 1001 0],.box 109 [.rw 1002,.any,.any],.row 33 3 (s.map aD)]
def nP (s:List Ty) (a b:Ty):Bool:=ins s.length a&&ins s.length b&&!decide (max (bW a) (bW b)>8)
def LY (n:Nat) (s:List Ty) (a b:Ty) (s':List Ty):Prop :=
 (∃d o,bK s n=some (some (d,o)))/\nP s a b=true/\kT n s a b=some (some s')/\∃d o k c o',bK s' n=some (some (d,o))/\bH s' n a d o=some (some (k,c,o'))/\k<=8
def RA (n:Nat) (s:List Ty) (a b:Ty) (e:Int):Prop :=
 (bK s n=some none/\e=1)\/((∃d o,bK s n=some (some (d,o)))/\((nP s a b=false/\e=1)\/(nP s a b=true/\((kT n s a b=some none/\e=8) \/
  ∃s',kT n s a b=some (some s')/\(e=1\/e=2)/\(bK s' n=some none\/∃d o,bK s' n=some (some (d,o))/\(bH s' n a d o=some none\/∃k c o',bH s' n a d o=some (some (k,c,o'))/\k>8))))))
structure Fuel (n:Nat) (s:List Ty) (a b:Ty):Prop where
 form:∃r,bK s n=some r
 eq:(∃d o,bK s n=some (some (d,o)))->nP s a b=true->∃r,kT n s a b=some r
 form':(∃d o,bK s n=some (some (d,o)))->nP s a b=true->∀s',kT n s a b=some (some s')->∃r,bK s' n=some r
 deep:(∃d o,bK s n=some (some (d,o)))->nP s a b=true->∀s',kT n s a b=some (some s')->∀d o,bK s' n=some (some (d,o))->∃r,bH s' n a d o=some r
def RU (n:Nat) (s:List Ty) (a b:Ty):List TO->C->Prop:=fun Mo v=>∃s',LY n s a b s'/\Mo=LU s'/\v=.tup []
def PU (n:Nat) (s:List Ty) (a b:Ty):Value->Prop:=fun v=>∃e,RA n s a b e/\v=dh e
abbrev LZ (s:List Ty) (a b:Ty) (R:List TO->C->Prop) (Pp:Value->Prop):Prop:=CallsTX P 70 [.own 1000 0,.pt (Eo a) 0,.pt (Eo b) 0] (LU s) R Pp
theorem P7 (n:Nat) (s:List Ty) (a b:Ty) (h1:bK s n=some none) (hf:∀s e r,bK s n=some r->En s e r):LZ s a b (RU n s a b) (PU n s a b):=by
 refine bR Tryz.func70 Cy rfl fun f _=>?_;refine CM [1001,1002] [1001,1002,2003,2004] (hf s 1 none h1) rfl rfl rfl rfl rfl (fun v q=>?_) fun d o e=>by cases e
 exact q.2.elim fun c he=>⟨c,.inl ⟨h1,by omega⟩,he.2⟩
theorem P8 (n:Nat) (s:List Ty) (a b:Ty) (d:DM) (o:OM) (h1:bK s n=some (some (d,o))) (hf:∀s e r,bK s n=some r->En s e r) (u:nP s a b=false) (h:bW a<=2 ^ 40) (p:bW b<=2 ^ 40):LZ s a b (RU n s a b) (PU n s a b):=by
 have j:=UA a h;have m:=UA b p;have l:=fun D O t=>Rx s D O t;have c:PU n s a b (dh 1):=⟨1,.inr ⟨⟨d,o,h1⟩,.inl ⟨u,rfl⟩⟩,rfl⟩;have w:nP s a b=(ins s.length a&&ins s.length b&&!decide (max (bW a) (bW b)>8)):=rfl;rw[w] at u;generalize PU n s a b=Q at c ⊢;generalize RU n s a b=R;have y:=hf s 1 _ h1;generalize bW a=x at *;generalize bW b=z at *;refine bR Tryz.func70 Cy rfl fun hw _=>?_;refine CM [1001,1002] [1001,1002,2003,2004] y rfl rfl rfl rfl rfl (fun v q=>by cases q.1) fun d o e=>?_;refine yS [1001,1002,2003,2004] [1001,1002,2003,2004] (l _ _ a) rfl rfl rfl rfl rfl fun _ _=>?_;refine aq (fun k=>?_) (fun k=>?_)
 ·exact vq rfl c
 refine yS [1001,1002,2003,2004] [1001,1002,2003,2004] (l _ _ b) rfl rfl rfl rfl rfl fun _ _=>?_;refine aq (fun hb=>?_) (fun hb=>?_)
 ·exact vq rfl c
 refine bG j rfl fun _=>?_;refine bG m rfl fun _=>?_;refine⟨?_,?_⟩
 ·exact Wd (a:=x) (b:=z) h p
 refine ah (fun aa=>?_) (fun f=>?_)
 ·exact vq rfl c
 ·have f:¬(if(z:Int)>(x:Int) then(z:Int) else(x:Int))>8:=f;have k:(!ins s.length a)=false:=k;have hb:(!ins s.length b)=false:=hb;rw[Bool.not_eq_false'] at k hb;rw[k,hb,aaW,aaW,Bool.not_eq_false',aa0] at u;exact vv u (by split at f<;>omega)
theorem Tc (n:Nat) (s:List Ty) (a b:Ty) (d:DM) (o:OM) (h1:bK s n=some (some (d,o))) (hf:∀s e r,bK s n=some r->En s e r) (h:nP s a b=true) (x:bW a<=2 ^ 40) (ae:bW b<=2 ^ 40)
  (r:Option (List Ty)) (w:kT n s a b=some r) (az:sQ s a b (RE r) (PE r)) (aw:∀s',r=some s'->∃u,bK s' n=some u/\En s' 2 u) (av:∀s',r=some s'->∀d o,bK s' n=some (some (d,o))->∃u,bH s' n a d o=some u/\P4 s' a d o (LW s' u) (PD u)):LZ s a b (RU n s a b) (PU n s a b):=by
 have y:=UA a x;have ad:=UA b ae;have ac:=fun D O t=>Rx s D O t;have h0:∃d o,bK s n=some (some (d,o)):=⟨d,o,h1⟩;have z:r=none->PU n s a b (dh 8):=fun e=>⟨8,.inr ⟨h0,.inr ⟨h,.inl ⟨by rw[w,e],rfl⟩⟩⟩,rfl⟩;have ab:∀s',r=some s'->bK s' n=some none->∀e,(e=1\/e=2)->PU n s a b (dh e):=fun s' e c k f=>⟨k,.inr ⟨h0,.inr ⟨h,.inr ⟨s',by rw[w,e],f,.inl c⟩⟩⟩,rfl⟩;have am:∀s',r=some s'->∀d o,bK s' n=some (some (d,o))->bH s' n a d o=some none->PU n s a b (dh 1):=fun s' e d o c f=>⟨1,.inr ⟨h0,.inr ⟨h,.inr ⟨s',by rw[w,e],.inl rfl,.inr ⟨d,o,c,.inl f⟩⟩⟩⟩,rfl⟩;have al:∀s',r=some s'->∀d o,bK s' n=some (some (d,o))->∀k j o',bH s' n a d o=some (some (k,j,o'))->k>8->PU n s a b (dh 2):=fun s' e d o c k j o' f ag=>⟨2,.inr ⟨h0,.inr ⟨h,.inr ⟨s',by rw[w,e],.inr rfl,.inr ⟨d,o,c,.inr ⟨k,j,o',f,ag⟩⟩⟩⟩⟩,rfl⟩;have aa:∀s',r=some s'->∀d o,bK s' n=some (some (d,o))->∀k j o',bH s' n a d o=some (some (k,j,o'))->¬k>8->RU n s a b (LU s') (.tup []):=fun s' e d o c k j o' f ag=>⟨s',⟨h0,h,by rw[w,e],d,o,k,j,o',c,f,by omega⟩,rfl,rfl⟩;have ao:nP s a b=(ins s.length a&&ins s.length b&&!decide (max (bW a) (bW b)>8)):=rfl;rw[ao] at h;generalize PU n s a b=Q at z ab am al ⊢;generalize RU n s a b=R at aa ⊢;have aE:=hf s 1 _ h1;generalize bW a=da at *;generalize bW b=db at *;simp only[aaN,Bool.not_eq_true',ab0] at h;refine bR Tryz.func70 Cy rfl fun hw _=>?_;refine CM [1001,1002] [1001,1002,2003,2004] aE rfl rfl rfl rfl rfl (fun v q=>by cases q.1) fun d o e=>?_;refine yS [1001,1002,2003,2004] [1001,1002,2003,2004] (ac _ _ a) rfl rfl rfl rfl rfl fun _ _=>?_;refine aq (fun ha=>vv (show(!ins s.length a)=true from ha) (by rw[h.1.1];exact abf)) (fun ha=>?_);refine yS [1001,1002,2003,2004] [1001,1002,2003,2004] (ac _ _ b) rfl rfl rfl rfl rfl fun _ _=>?_;refine aq (fun ha=>vv (show(!ins s.length b)=true from ha) (by rw[h.1.2];exact abf)) (fun hb=>?_);refine bG y rfl fun _=>?_;refine bG ad rfl fun _=>?_;refine⟨?_,?_⟩
 ·exact Wd (a:=da) (b:=db) x ae
 refine ah (fun m=>?_) (fun bc=>?_)
 ·have m:(if(db:Int)>(da:Int) then(db:Int) else(da:Int))>8:=m;have h8:=h.2;exact vv m (by split<;>omega)
 refine Ry [1001,1002] az rfl rfl rfl rfl rfl (fun v q=>?_) fun s' e=>?_
 ·exact q.2▸z q.1
 refine qe (aw s' e) fun u p=>?_;refine CM [1001,1002] [1001,1002,2005,2006] p.2 rfl rfl rfl rfl rfl (fun v q=>?_) fun d o e2=>?_
 ·exact q.2.elim fun e' he=>he.2▸ab s' e (by rw[p.1,q.1]) e' he.1
 have c:bK s' n=some (some (d,o)):=by rw[p.1,e2]
 refine qe (av s' e d o c) fun rd l=>?_;refine CJ [1001,1002,2005,2006] l.2 rfl rfl rfl rfl rfl (fun v q=>?_) fun k j o' e3 _=>?_
 ·exact q.2▸am s' e d o c (by rw[l.1,q.1])
 refine ah (fun f=>?_) (fun f=>?_)
 ·exact vq rfl (al s' e d o c k j o' (by rw[l.1,e3]) f)
 ·exact vG [1000,1001,1002] rfl rfl rfl rfl (aa s' e d o c k j o' (by rw[l.1,e3]) f)
theorem t70 (n:Nat) (s:List Ty) (a b:Ty) (F:Fuel n s a b) (hf:∀s e r,bK s n=some r->En s e r) (f:bW a<=2 ^ 40) (j:bW b<=2 ^ 40):LZ s a b (RU n s a b) (PU n s a b):=by
 obtain⟨r,h1⟩:=F.form;cases r with
 | none=>exact P7 n s a b h1 hf
 | some r =>
  obtain⟨d,o⟩:=r;have h0:∃d o,bK s n=some (some (d,o)):=⟨d,o,h1⟩;cases c:nP s a b with
  | false=>exact P8 n s a b d o h1 hf c f j
  | true =>
   obtain⟨r,l⟩:=F.eq h0 c;refine Tc n s a b d o h1 hf c f j r l (Xm n s a b r l) (fun s' e=>?_) fun s' e d o m=>?_
   ·obtain⟨k,h⟩:=F.form' h0 c s' (by rw[l,e]);exact⟨k,h,hf s' 2 k h⟩
   ·obtain⟨k,h⟩:=F.deep h0 c s' (by rw[l,e]) d o m;exact⟨k,h,HA s' n a d o k h⟩
theorem vI {f g:Ty->Option Bool}:∀{l:List Ty}{b:Bool},(∀x∈l,∀b,f x=some b->g x=some b)->wM f l=some b->wM g l=some b
 | [],b,_,h=>h
 | x::l,b,hf,h=>by
  rw[wM] at h ⊢;cases d:f x with
  | none=>simp only[d] at h;cases h
  | some a =>
   cases e:wM f l with
   | none=>simp only[d,e] at h;cases h
   | some c =>
    simp only[d,e] at h;simp only[hf x (by simp) a d,vI (fun y j=>hf y (by simp[j])) e];exact h
theorem Bw {f g:Ty->Option Ty}:∀{l r:List Ty},(∀x∈l,∀b,f x=some b->g x=some b)->j7 f l=some r->j7 g l=some r
 | [],b,_,h=>h
 | x::l,b,hf,h=>by
  rw[j7] at h ⊢;cases d:f x with
  | none=>simp only[d] at h;cases h
  | some a =>
   cases e:j7 f l with
   | none=>simp only[d,e] at h;cases h
   | some c =>
    simp only[d,e] at h;simp only[hf x (by simp) a d,Bw (fun y j=>hf y (by simp[j])) e];exact h
theorem rH {f g:List Ty->Ty->Ty->Option (Option (List Ty))}:∀{l c:List Ty}{s:List Ty}{r:Option (List Ty)},(∀s x y b,f s x y=some b->g s x y=some b)->jJ f s l c=some r->jJ g s l c=some r
 | [],c,s,r,_,h=>h
 | x::l,[],s,r,_,h=>h
 | x::l,y::c,s,r,hf,h=>by
  rw[jJ] at h ⊢;cases d:f s x y with
  | none=>simp only[d] at h;cases h
  | some a =>
   simp only[d] at h;simp only[hf s x y a d];cases a with
   | none=>exact h
   | some s'=>exact rH hf h
theorem sS {f g:Ty->DM->OM->Option (Option (Int×DM×OM))}:∀{l:List Ty}{k:Int}{d:DM}{o:OM}{r:Option (Int×DM×OM)},(∀x d o b,f x d o=some b->g x d o=some b)->fV f l k d o=some r->fV g l k d o=some r
 | [],k,d,o,r,_,h=>h
 | x::l,k,d,o,r,hf,h=>by
  rw[fV] at h ⊢;cases c:f x d o with
  | none=>simp only[c] at h;cases h
  | some a =>
   simp only[c] at h;simp only[hf x d o a c];cases a with
   | none=>exact h
   | some p=>exact sS hf h
theorem dK {s:List Ty}:∀{n m:Nat}{t r:Ty},n<=m->aO s n t=some r->aO s m t=some r
 | 0,m,t,r,_,h=>by cases h
 | n+1,0,t,r,b,h=>vv b (by omega)
 | n+1,m+1,t,r,b,h=>by
  rw[aO] at h ⊢
  by_cases h9:t.kind=9
  ·rw[fo h9] at h ⊢;cases he:bO s t with
   | none=>rw[he] at h;cases h
   | some x =>
    rw[he] at h;simp only at h ⊢
    by_cases a:x.kind=0
    ·rw[fo a] at h ⊢;exact h
    ·rw[o5 a] at h ⊢;exact dK (by omega) h
  ·rw[o5 h9] at h ⊢;exact h
theorem mU {s:List Ty}{v:Int}:∀{n m:Nat}{t:Ty}{r:Bool},n<=m->jI s v n t=some r->jI s v m t=some r
 | 0,m,t,r,_,h=>by cases h
 | n+1,0,t,r,a,h=>vv a (by omega)
 | n+1,m+1,t,r,a,h=>by
  rw[jI] at h ⊢;cases hf:aO s n t with
  | none=>rw[hf] at h;cases h
  | some c =>
   rw[hf] at h;rw[dK (by omega) hf];simp only at h ⊢
   by_cases h9:c.kind=9
   ·rw[fo h9] at h ⊢;exact h
   ·rw[o5 h9] at h ⊢;exact vI (fun x _ b hb=>mU (by omega) hb) h
theorem nE {s:List Ty}:∀{n m:Nat}{t r:Ty},n<=m->nk s n t=some r->nk s m t=some r
 | 0,m,t,r,_,h=>by cases h
 | n+1,0,t,r,c,h=>vv c (by omega)
 | n+1,m+1,t,r,c,h=>by
  rw[nk] at h ⊢;cases he:(if t.kind=9 then bO s t else some (.mk 0 0 [])) with
  | none=>simp only[he] at h;cases h
  | some x =>
   simp only[he] at h ⊢
   by_cases d:x.kind=0
   ·rw[o5 (fun q=>q d)] at h ⊢;cases a:j7 (nk s n) t.args with
    | none=>simp only[a] at h;cases h
    | some l =>
     simp only[a] at h;simp only[Bw (g:=nk s m) (fun x _ b hb=>nE (by omega) hb) a];exact h
   ·rw[fo d] at h ⊢;exact nE (by omega) h
theorem iy:∀{n m:Nat}{s:List Ty}{a b:Ty}{r:Option (List Ty)},n<=m->kT n s a b=some r->kT m s a b=some r
 | 0,m,s,a,b,r,_,h=>by cases h
 | n+1,0,s,a,b,r,j,h=>vv j (by omega)
 | n+1,m+1,s,a,b,r,j,h=>by
  rw[kT] at h ⊢;cases c:aO s n a with
  | none=>simp only[c] at h;cases h
  | some a' =>
   cases hb:aO s n b with
   | none=>simp only[c,hb] at h;cases h
   | some e =>
    simp only[c,hb] at h;simp only[dK (show n<=m by omega) c,dK (show n<=m by omega) hb]
    by_cases h1:a'.kind=9/\e.kind=9
    ·rw[fo h1] at h ⊢;exact h
    rw[o5 h1] at h ⊢
    by_cases h2:a'.kind=9
    ·rw[fo h2] at h ⊢;cases f:jI s a'.id n e with
     | none=>rw[f] at h;cases h
     | some q=>rw[f] at h;rw[mU (show n<=m by omega) f];exact h
    rw[o5 h2] at h ⊢
    by_cases h3:e.kind=9
    ·rw[fo h3] at h ⊢;exact iy (by omega) h
    rw[o5 h3] at h ⊢;split at h
    ·rename_i d;rw[fo d];exact h
    ·rename_i d;rw[o5 d];exact rH (fun s x y b k=>iy (by omega) k) h
theorem gY {s:List Ty}:∀{n m:Nat}{t:Ty}{d:DM}{o:OM}{r:Option (Int×DM×OM)},n<=m->bH s n t d o=some r->bH s m t d o=some r
 | 0,m,t,d,o,r,_,h=>by cases h
 | n+1,0,t,d,o,r,j,h=>vv j (by omega)
 | n+1,m+1,t,d,o,r,j,h=>by
  rw[bH] at h ⊢;cases he:(if t.kind=9 then bO s t else some (.mk 0 0 [])) with
  | none=>simp only[he] at h;cases h
  | some x =>
   simp only[he] at h ⊢
   by_cases l:x.kind=0
   ·rw[o5 (fun q=>q l)] at h ⊢;cases c:fV (bH s n) t.args 0 d o with
    | none=>simp only[c] at h;cases h
    | some q =>
     simp only[c] at h;simp only[sS (g:=bH s m) (fun x d o b hb=>gY (by omega) hb) c];exact h
   ·rw[fo l] at h ⊢;cases hd:br d t.id with
    | some k=>simp only[hd] at h ⊢;exact h
    | none =>
     simp only[hd] at h ⊢;have key:∀{X:Option (Option (Int×DM×OM))},bH s n x d (eV o t.id true)=X->X≠none->bH s m x d (eV o t.id true)=X:=by
      intro X e p;cases X with
      | none=>exact vv rfl p
      | some q=>exact gY (by omega) e
     cases f:br o t.id with
     | none =>
      simp only[f] at h ⊢;cases a:bH s n x d (eV o t.id true) with
      | none=>simp only[a] at h;cases h
      | some q=>simp only[a] at h;simp only[key a (by simp)];exact h
     | some u =>
      cases u with
      | true=>simp only[f] at h ⊢;exact h
      | false =>
       simp only[f] at h ⊢;cases a:bH s n x d (eV o t.id true) with
       | none=>simp only[a] at h;cases h
       | some q=>simp only[a] at h;simp only[key a (by simp)];exact h
theorem pK {s:List Ty}{n m:Nat}(a:n<=m):∀{i:Nat}{r:Option (Bool×DM×OM)},dJ s n i=some r->dJ s m i=some r
 | 0,r,h=>h
 | i+1,r,h=>by
  rw[dJ] at h ⊢;cases hf:dJ s n i with
  | none=>simp only[hf] at h;cases h
  | some q =>
   simp only[hf] at h;simp only[pK a hf];cases q with
   | none=>exact h
   | some p =>
    obtain⟨b,d,o⟩:=p;simp only at h ⊢;cases hd:bH s n (vr i) d o with
    | none=>simp only[hd] at h;cases h
    | some q=>simp only[hd] at h;simp only[gY a hd];exact h
theorem kL {s:List Ty}{n m:Nat}(b:n<=m) {r:Option (DM×OM)}(h:bK s n=some r):bK s m=some r:=by
 unfold bK at h ⊢;split
 ·rename_i a;rw[fo a] at h;cases hf:dJ s n s.length with
  | none=>simp only[hf] at h;cases h
  | some q=>simp only[hf] at h;simp only[pK b hf];exact h
 ·rename_i a;rw[o5 a] at h;exact h
theorem sU {s:List Ty}{n m:Nat}(a:n<=m):∀{i:Nat}{d r:DM},jf s n i d=some r->jf s m i d=some r
 | 0,d,r,h=>h
 | i+1,d,r,h=>by
  rw[jf] at h ⊢;cases hf:aO s n (vr i) with
  | none=>simp only[hf] at h;cases h
  | some t=>simp only[hf] at h;simp only[dK a hf];exact sU a h
theorem vJ {s:List Ty}{n m:Nat}(b:n<=m) {d:DM}:∀{i:Nat}{r:List Ty},qf s n d i=some r->qf s m d i=some r
 | 0,r,h=>h
 | i+1,r,h=>by
  rw[qf] at h ⊢;cases a:qf s n d i with
  | none=>simp only[a] at h;cases h
  | some l =>
   cases hf:nk s n (vr i) with
   | none=>simp only[a,hf] at h;cases h
   | some t=>simp only[a,hf] at h;simp only[vJ b a,nE b hf];exact h
theorem sV {s:List Ty}{n m:Nat}(b:n<=m) {r:List Ty}(h:j3 s n=some r):j3 s m=some r:=by
 unfold j3 at h ⊢;cases a:jf s n s.length [] with
 | none=>simp only[a] at h;cases h
 | some d=>simp only[a] at h;simp only[sU b a];exact vJ b h
theorem oH {c d:Type}{f:Nat->c->Option d}(b:∀{n m:Nat}{x:c}{r:d},n<=m->f n x=some r->f m x=some r):∀{l:List c},(∀x∈l,∃n r,f n x=some r)->∃n,∀x∈l,∃r,f n x=some r
 | [],_=>⟨0,fun x h=>by cases h⟩
 | x::l,h=>by
  obtain⟨n,h1⟩:=oH (f:=f) b (l:=l) fun y a=>h y (by simp[a]);obtain⟨k,r,h2⟩:=h x (by simp);refine⟨max n k,fun y a=>?_⟩;rcases aaX.1 a with rfl | a
  ·exact⟨r,b (Nat.le_max_right _ _) h2⟩
  ·obtain⟨r,h3⟩:=h1 y a;exact⟨r,b (Nat.le_max_left _ _) h3⟩
theorem HE {f:Ty->Option Bool}:∀{l:List Ty},(∀x∈l,∃b,f x=some b)->∃b,wM f l=some b
 | [],_=>⟨false,rfl⟩
 | x::l,h=>by
  obtain⟨a,h1⟩:=h x (by simp);obtain⟨b,h2⟩:=HE (l:=l) fun y c=>h y (by simp[c]);exact⟨a||b,by rw[wM,h1,h2]⟩
theorem xE {f:Ty->Option Ty}:∀{l:List Ty},(∀x∈l,∃b,f x=some b)->∃b,j7 f l=some b
 | [],_=>⟨[],rfl⟩
 | x::l,h=>by
  obtain⟨a,h1⟩:=h x (by simp);obtain⟨b,h2⟩:=xE (l:=l) fun y c=>h y (by simp[c]);exact⟨a::b,by rw[j7,h1,h2]⟩
inductive j8 (s:List Ty):Ty->Prop
 | step {t x:Ty}(h9:t.kind=9) (he:bO s t=some x) (hk:¬x.kind=0) (h:j8 s x):j8 s t
 | stop {t x:Ty}(h9:t.kind=9) (he:bO s t=some x) (hk:x.kind=0) (h:∀y∈t.args,j8 s y):j8 s t
 | arg {t:Ty}(h9:¬t.kind=9) (h:∀y∈t.args,j8 s y):j8 s t
theorem j8.front {s:List Ty}{t:Ty}(h:j8 s t):∃n r,aO s n t=some r:=by
 induction h with
 | step h9 he a _ b =>
  obtain⟨n,r,h⟩:=b;exact⟨n+1,r,by rw[aO,fo h9,he];simp only;rw[o5 a];exact h⟩
 | stop h9 he a _ _=>exact⟨1,_,by rw[aO,fo h9,he];simp only;rw[fo a]⟩
 | arg h9 _ _=>exact⟨1,_,by rw[aO,o5 h9]⟩
theorem j8.ap {s:List Ty}{t:Ty}(h:j8 s t):∃n r,nk s n t=some r:=by
 induction h with
 | step h9 he b _ a =>
  obtain⟨n,r,h⟩:=a;exact⟨n+1,r,by rw[nk,fo h9,he];simp only;rw[fo b];exact h⟩
 | stop h9 he b _ a =>
  obtain⟨n,h⟩:=oH (f:=nk s) nE a;obtain⟨l,c⟩:=xE h;exact⟨n+1,_,by rw[nk,fo h9,he];simp only;rw[o5 (fun q=>q b),c]⟩
 | arg h9 _ a =>
  obtain⟨n,h⟩:=oH (f:=nk s) nE a;obtain⟨l,c⟩:=xE h;exact⟨n+1,_,by rw[nk,o5 h9];simp only;rw[o5 (fun q=>q rfl),c]⟩
theorem j8.occ {s:List Ty}(v:Int) {t:Ty}(h:j8 s t):∃n r,jI s v n t=some r:=by
 induction h with
 | @step t x h9 he c _ a =>
  obtain⟨n,r,h⟩:=a;cases n with
  | zero=>cases h
  | succ n =>
   refine⟨n+2,r,?_⟩;rw[jI] at h ⊢;have e:aO s (n+1) t=aO s n x:=by rw[aO,fo h9,he];simp only;rw[o5 c]
   rw[e];cases hf:aO s n x with
   | none=>rw[hf] at h;cases h
   | some j =>
    rw[hf] at h;simp only at h ⊢
    by_cases h9:j.kind=9
    ·rw[fo h9] at h ⊢;exact h
    ·rw[o5 h9] at h ⊢;exact vI (fun x _ b hb=>mU (Nat.le_succ _) hb) h
 | @stop t x h9 he c _ _ =>
  exact⟨2,_,by rw[jI,aO,fo h9,he];simp only;rw[fo c];simp only;rw[fo h9]⟩
 | @arg t h9 _ a =>
  obtain⟨n,h⟩:=oH (f:=jI s v) mU a;have h:∀x∈t.args,∃b,jI s v (n+1) x=some b:=fun x d=>by
   obtain⟨b,hb⟩:=h x d;exact⟨b,mU (Nat.le_succ _) hb⟩
  obtain⟨b,hb⟩:=HE h;exact⟨n+2,b,by rw[jI,aO,o5 h9];simp only;rw[o5 h9];exact hb⟩
theorem gj {s:List Ty}:∀{n:Nat}{t r:Ty},aO s n t=some r->r.kind=9->∃x,bO s r=some x/\x.kind=0
 | 0,t,r,h,_=>by cases h
 | n+1,t,r,h,h9=>by
  rw[aO] at h
  by_cases b:t.kind=9
  ·rw[fo b] at h;cases he:bO s t with
   | none=>rw[he] at h;cases h
   | some x =>
    rw[he] at h;simp only at h
    by_cases a:x.kind=0
    ·rw[fo a] at h;injection h with h;rw[<-h];exact⟨x,he,a⟩
    ·rw[o5 a] at h;exact gj h h9
  ·rw[o5 b] at h;injection h with h;exact vv h9 (h▸b)
theorem Gd {s:List Ty}{t x:Ty}(h9:t.kind=9) (he:bO s t=some x) (a:x.kind=0) (n:Nat):aO s (n+1) t=some t:=by
 rw[aO,fo h9,he];simp only;rw[fo a]
theorem Bx {s:List Ty}{t:Ty}(h9:¬t.kind=9) (n:Nat):aO s (n+1) t=some t:=by
 rw[aO,o5 h9]
theorem wm {s:List Ty}{n m:Nat}{t r:Ty}(h:aO s n t=some r):aO s (m+1) r=some r:=by
 by_cases h9:r.kind=9
 ·obtain⟨x,he,a⟩:=gj h h9;exact Gd h9 he a m
 ·exact Bx h9 m
theorem rI {s:List Ty}{p:Ty->Prop}(d:∀t x,p t->t.kind=9->bO s t=some x->¬x.kind=0->p x):∀{n:Nat}{t r:Ty},aO s n t=some r->p t->p r
 | 0,t,r,h,_=>by cases h
 | n+1,t,r,h,c=>by
  rw[aO] at h
  by_cases b:t.kind=9
  ·rw[fo b] at h;cases he:bO s t with
   | none=>rw[he] at h;cases h
   | some x =>
    rw[he] at h;simp only at h
    by_cases a:x.kind=0
    ·rw[fo a] at h;injection h with h;rw[<-h];exact c
    ·rw[o5 a] at h;exact rI d h (d t x c b he a)
  ·rw[o5 b] at h;injection h with h;exact h▸c
def Ex (s:List Ty) (t r:Ty):Prop:=∃n,nk s n t=some r
theorem Ex.one {s:List Ty}{t r q:Ty}(h:Ex s t r) (k:Ex s t q):r=q:=by
 obtain⟨n,h⟩:=h;obtain⟨m,k⟩:=k;have h1:=nE (Nat.le_max_left n m) h;have h2:=nE (Nat.le_max_right n m) k;rw[h1] at h2;exact abB h2
theorem Ex.front {s:List Ty}:∀{n:Nat}{t a r:Ty},aO s n t=some a->Ex s t r->Ex s a r
 | 0,t,a,r,h,_=>by cases h
 | n+1,t,a,r,h,⟨m,k⟩=>by
  rw[aO] at h
  by_cases c:t.kind=9
  ·rw[fo c] at h;cases he:bO s t with
   | none=>rw[he] at h;cases h
   | some x =>
    rw[he] at h;simp only at h
    by_cases b:x.kind=0
    ·rw[fo b] at h;injection h with h;rw[<-h];exact⟨m,k⟩
    ·rw[o5 b] at h;cases m with
     | zero=>cases k
     | succ m =>
      rw[nk,fo c,he] at k;simp only at k;rw[fo b] at k;exact Ex.front h ⟨m,k⟩
  ·rw[o5 c] at h;injection h with h;exact h▸⟨m,k⟩
theorem Ex.args {s:List Ty}{t r:Ty}(h:Ex s t r) (h9:¬t.kind=9):r.kind=t.kind/\r.id=t.id/\r.args.length=t.args.length/\∀(j:Nat) (x:Ty),t.args[j]?=some x->∃y,r.args[j]?=some y/\Ex s x y:=by
 obtain⟨n,h⟩:=h;cases n with
 | zero=>cases h
 | succ n =>
  rw[nk,o5 h9] at h;simp only at h;rw[o5 (fun q=>q rfl)] at h;cases a:j7 (nk s n) t.args with
  | none=>simp only[a] at h;cases h
  | some l =>
   simp only[a] at h;injection h with h
   obtain⟨h1,h2⟩:=gJ a;subst h;refine⟨rfl,rfl,by show l.length=_;rw[h2,xo],fun j x b=>?_⟩;refine⟨(nk s n x).getD x,by show l[j]?=_;rw[h2,aa6,b];rfl,n,h1 x (aaU b)⟩
theorem mV {n:Int}{t:Ty}(h:ins n t=true):1<=t.kind/\t.kind<=9:=by
 rw[qL] at h;split at h
 ·cases h
 ·omega
theorem fC {n:Int}{t:Ty}(h:ins n t=true) (h9:t.kind=9):0<=t.id/\t.id<n/\t.args=[]:=by
 have a:=mV h;rw[qL,o5 (by omega),fo h9] at h;simp only[aaN,aa0] at h;exact⟨h.1.1,h.1.2,aby h.2⟩
theorem cH {n:Int}{t:Ty}(h:ins n t=true):∀x∈t.args,ins n x=true:=by
 have b:=mV h
 by_cases h9:t.kind=9
 ·rw[(fC h h9).2.2];intro x a;cases a
 ·rw[qL,o5 (by omega),o5 h9,aa1] at h;exact h
theorem vK {n i:Int}(h0:0<=i) (h1:i<n):ins n (.mk 9 i [])=true:=by
 rw[qL,o5 (by show¬((9:Int)<1\/(9:Int)<9);omega),fo (show(Ty.mk 9 i []).kind=9 from rfl)];simp only[aaN,aa0];exact⟨⟨h0,h1⟩,rfl⟩
theorem mW {n:Nat}{i:Nat}(h:i<n):ins n (vr i)=true:=vK (by omega) (by omega)
theorem zo {n:Nat}{t:Ty}(h:ins n t=true) (h9:t.kind=9):∃i:Nat,i<n/\t=vr i/\t.id=i:=by
 obtain⟨h0,h1,h2⟩:=fC h h9;refine⟨t.id.toNat,by omega,wk h9 ?_ h2,by omega⟩;show t.id=(t.id.toNat:Int);omega
def zY (s:List Ty):Prop:=∀x∈s,x.kind=0\/ins s.length x=true
theorem oI {s:List Ty}{t x:Ty}(h:bO s t=some x):x∈s:=aaU (bE h).2.1
theorem zY.elem {s:List Ty}(h:zY s) {t x:Ty}(he:bO s t=some x) (a:¬x.kind=0):ins s.length x=true:=(h x (oI he)).resolve_left a
theorem zY.front {s:List Ty}(h:zY s) {n:Nat}{t r:Ty}(hf:aO s n t=some r) (a:ins s.length t=true):ins s.length r=true :=
 rI (p:=fun t=>ins s.length t=true) (fun t x _ _ he b=>h.elem he b) hf a
theorem qO {s:List Ty}{t:Ty}(a:ins s.length t=true) (h9:t.kind=9):∃x,bO s t=some x/\x∈s:=by
 obtain⟨h0,h1,_⟩:=fC a h9;exact LI h0 h1
structure Good (s:List Ty):Prop where
 ins:zY s
 fin:∀i<s.length,j8 s (vr i)
theorem Good.all {s:List Ty}(g:Good s):∀t:Ty,Tryz.ins s.length t=true->j8 s t:=cV fun t b h=>by
 by_cases h9:t.kind=9
 ·obtain⟨i,hi,e,_⟩:=zo h h9;rw[e];exact g.fin i hi
 ·exact .arg h9 fun y a=>b y a (cH h y a)
def mX:List Ty->Nat
 | []=>0
 | x::l=>(if x.kind=0 then 1 else 0)+mX l
theorem Bz {b:Ty}(hb:¬b.kind=0):∀{s:List Ty}{i:Nat}{x:Ty},s[i]?=some x->x.kind=0->mX (s.set i b)<mX s
 | [],i,x,h,_=>by simp at h
 | y::s,0,x,h,a=>by
  rw[aa4] at h;injection h with h
  subst h;rw[List.set_cons_zero,mX,mX,o5 hb,fo a];omega
 | y::s,i+1,x,h,a=>by
  rw[abe] at h;rw[List.set_cons_succ,mX,mX];have:=Bz hb h a;omega
theorem nF {s:List Ty}{v:Int}{b t:Ty}(h0:0<=v) (h:t.id≠v):bO (s.set v.toNat b) t=bO s t:=by
 unfold bO;split
 ·rfl
 ·rw[abU (by omega)]
theorem Ep {s:List Ty}{v:Int}{b t x:Ty}(h0:0<=v) (a:s[v.toNat]?=some x) (h:t.id=v):bO (s.set v.toNat b) t=some b:=by
 unfold bO;rw[o5 (by omega),h,abY (aaT.1 a).1]
inductive qP (s:List Ty) (v:Int):Ty->Prop
 | step {t x:Ty}(h9:t.kind=9) (he:bO s t=some x) (hk:¬x.kind=0) (h:qP s v x):qP s v t
 | stop {t x:Ty}(h9:t.kind=9) (he:bO s t=some x) (hk:x.kind=0) (hv:t.id≠v) (ha:t.args=[]):qP s v t
 | arg {t:Ty}(h9:¬t.kind=9) (h:∀y∈t.args,qP s v y):qP s v t
theorem qP.front {s:List Ty}{v:Int}:∀{n:Nat}{t r:Ty},aO s n t=some r->qP s v r->qP s v t
 | 0,t,r,h,_=>by cases h
 | n+1,t,r,h,k=>by
  rw[aO] at h
  by_cases b:t.kind=9
  ·rw[fo b] at h;cases he:bO s t with
   | none=>rw[he] at h;cases h
   | some x =>
    rw[he] at h;simp only at h
    by_cases a:x.kind=0
    ·rw[fo a] at h;injection h with h;rw[h];exact k
    ·rw[o5 a] at h;exact .step b he a (qP.front h k)
  ·rw[o5 b] at h;injection h with h;rw[h];exact k
theorem qP.of {s:List Ty}(c:zY s) {v:Int}:∀{n:Nat}{t:Ty},ins s.length t=true->jI s v n t=some false->qP s v t
 | 0,t,_,h=>by cases h
 | n+1,t,d,h=>by
  rw[jI] at h;cases hf:aO s n t with
  | none=>rw[hf] at h;cases h
  | some r =>
   rw[hf] at h;have b:=c.front hf d;refine qP.front hf ?_;simp only at h
   by_cases h9:r.kind=9
   ·rw[fo h9] at h;obtain⟨x,he,e⟩:=gj hf h9;exact .stop h9 he e (by injection h with h;exact abR h) (fC b h9).2.2
   ·rw[o5 h9] at h;obtain⟨h1,h2⟩:=oG h;refine .arg h9 fun y a=>qP.of c (n:=n) (cH b y a) ?_;have:=(abZ.1 h2) y a;rw[ab3] at this;rw[h1 y a,this]
theorem qP.set {s:List Ty}{v:Int}{b j t:Ty}(h0:0<=v) (m:s[v.toNat]?=some j) (f:j.kind=0) (h:qP s v t):j8 (s.set v.toNat b) t:=by
 induction h with
 | @step t x h9 he c _ d =>
  have:t.id≠v:=fun e=>by
   obtain⟨_,a,_⟩:=bE he;rw[e,m] at a;injection a with a
   exact c (a▸f)
  exact .step h9 ((nF h0 this).trans he) c d
 | @stop t x h9 he c n l=>exact .stop h9 ((nF h0 n).trans he) c (by rw[l];intro y k;cases k)
 | @arg t h9 _ d=>exact .arg h9 d
theorem j8.set {s:List Ty}{v:Int}{b k t:Ty}(h0:0<=v) (l:s[v.toNat]?=some k) (f:k.kind=0) (j:¬b.kind=0) (hb:j8 (s.set v.toNat b) b) (h:j8 s t):j8 (s.set v.toNat b) t:=by
 induction h with
 | @step t x h9 he d _ a =>
  have:t.id≠v:=fun e=>by
   obtain⟨_,c,_⟩:=bE he;rw[e,l] at c;injection c with c
   exact d (c▸f)
  exact .step h9 ((nF h0 this).trans he) d a
 | @stop t x h9 he d _ a =>
  by_cases e:t.id=v
  ·exact .step h9 (Ep h0 l e) j hb
  ·exact .stop h9 ((nF h0 e).trans he) d a
 | @arg t h9 _ a=>exact .arg h9 a
structure Fe (s s':List Ty):Prop where
 len:s'.length=s.length
 good:Good s'
 less:s'=s\/mX s'<mX s
theorem Fe.refl {s:List Ty}(g:Good s):Fe s s:=⟨rfl,g,.inl rfl⟩
theorem Fe.trans {s t r:List Ty}(h:Fe s t) (k:Fe t r):Fe s r:=by
 refine⟨k.len.trans h.len,k.good,?_⟩;rcases h.less with e | h1
 ·subst e;exact k.less
 ·rcases k.less with e | h2
  ·subst e;exact .inr h1
  ·exact .inr (by omega)
theorem Good.bind {s:List Ty}(g:Good s) {v:Int}{b h:Ty}(h0:0<=v) (e:s[v.toNat]?=some h) (a:h.kind=0) (hb:Tryz.ins s.length b=true) (j:qP s v b):Fe s (s.set v.toNat b):=by
 have c:¬b.kind=0:=by have:=mV hb;omega
 have d:j8 (s.set v.toNat b) b:=j.set h0 e a;refine⟨abG,⟨fun y f=>?_,fun i hi=>?_⟩,.inr (Bz c e a)⟩
 ·rw[abG];rcases ab7 f with f | rfl
  ·exact g.ins y f
  ·exact .inr hb
 ·rw[abG] at hi;exact j8.set h0 e a c d (g.fin i hi)
theorem lJ {n:Nat}{s:List Ty}{a b a' c:Ty}(d:aO s n a=some a') (hb:aO s n b=some c):kT (n+1) s a b =
   if a'.kind=9/\c.kind=9 then(if a'.id=c.id then some (some s) else some (some (s.set (max a'.id c.id).toNat (.mk 9 (min a'.id c.id) []))))
   else if a'.kind=9 then(match jI s a'.id n c with
    | none=>none
    | some true=>some none
    | some false=>some (some (s.set a'.id.toNat c)))
   else if c.kind=9 then kT n s c a'
   else if a'.kind≠c.kind\/a'.id≠c.id\/a'.args.length≠c.args.length then some none
   else jJ (kT n) s a'.args c.args:=by
 rw[kT];simp only[d,hb];rfl
def Ends (s:List Ty) (a b:Ty):Prop:=∃n r,kT n s a b=some r/\∀s',r=some s'->Fe s s'
theorem L5 {s:List Ty}(g:Good s) {a' c:Ty}(ha:Tryz.ins s.length a'=true) (hb:Tryz.ins s.length c=true) (h9:a'.kind=9) (v:∃x,bO s a'=some x/\x.kind=0) (aa:c.kind=9->∃x,bO s c=some x/\x.kind=0) :
  ∃p r,(∀s',r=some s'->Fe s s')/\∀n,p<=n->∀a b,aO s n a=some a'->aO s n b=some c->kT (n+1) s a b=some r:=by
 obtain⟨xa,m,h⟩:=v;obtain⟨ac,k,av⟩:=bE m
 by_cases f:c.kind=9
 ·obtain⟨xb,l,o⟩:=aa f;obtain⟨an,y,al⟩:=bE l
  by_cases hi:a'.id=c.id
  ·refine⟨0,some s,fun s' e=>by injection e with e;subst e;exact Fe.refl g,fun n _ a b h1 h2=>?_⟩;rw[lJ h1 h2,fo ⟨h9,f⟩,fo hi]
  ·refine⟨0,some (s.set (max a'.id c.id).toNat (.mk 9 (min a'.id c.id) [])),fun s' e=>?_,fun n _ a b h1 h2=>?_⟩
   ·injection e with e
    subst e;have z:∃j,s[(max a'.id c.id).toNat]?=some j/\j.kind=0:=by
     rcases Int.le_total a'.id c.id with d | d
     ·rw[Int.max_eq_right d];exact⟨xb,y,o⟩
     ·rw[Int.max_eq_left d];exact⟨xa,k,h⟩
    have u:∃j,bO s (.mk 9 (min a'.id c.id) [])=some j/\j.kind=0:=by
     rcases Int.le_total a'.id c.id with d | d
     ·rw[Int.min_eq_left d];exact⟨xa,m,h⟩
     ·rw[Int.min_eq_right d];exact⟨xb,l,o⟩
    obtain⟨j,q1,q2⟩:=z;obtain⟨x1,q3,q4⟩:=u;have w:min a'.id c.id≠max a'.id c.id:=by omega
    exact g.bind (by omega) q1 q2 (vK (by omega) (by omega)) (.stop rfl q3 q4 w rfl)
   ·rw[lJ h1 h2,fo ⟨h9,f⟩,o5 hi]
 ·obtain⟨p,r,t⟩:=(g.all c hb).occ a'.id;cases r with
  | true =>
   refine⟨p,none,fun s' e=>(by cases e),fun n hn a b h1 h2=>?_⟩;rw[lJ h1 h2,o5 (fun q=>f q.2),fo h9,mU hn t]
  | false =>
   refine⟨p,some (s.set a'.id.toNat c),fun s' e=>?_,fun n hn a b h1 h2=>?_⟩
   ·injection e with e
    subst e;exact g.bind ac k h hb (qP.of g.ins hb t)
   ·rw[lJ h1 h2,o5 (fun q=>f q.2),fo h9,mU hn t]
theorem BA {N:Nat}(q:∀s,Good s->mX s<N->∀a b,Tryz.ins s.length a=true->Tryz.ins s.length b=true->Ends s a b) {d:List Ty}(t:mX d<=N) :
  ∀(l f:List Ty),l.length=f.length->(∀(j:Nat) (x y:Ty),l[j]?=some x->f[j]?=some y->Tryz.ins d.length x=true/\Tryz.ins d.length y=true/\Ends d x y)->∀s,Fe d s->∃n r,jJ (kT n) s l f=some r/\∀s',r=some s'->Fe d s'
 | [],f,_,_,s,c=>⟨0,some s,rfl,fun s' e=>by injection e with e;exact e▸c⟩
 | x::l,[],h,_,s,c=>by cases h
 | x::l,y::f,h,p,s,c=>by
  obtain⟨o,k,he⟩:=p 0 x y rfl rfl;have h1:Ends s x y:=by
   rcases c.less with e | u
   ·rw[e];exact he
   ·exact q s c.good (by omega) x y (by rw[c.len];exact o) (by rw[c.len];exact k)
  obtain⟨n,r,h1,h2⟩:=h1;cases r with
  | none=>exact⟨n,none,by rw[jJ,h1],fun s' e=>by cases e⟩
  | some s1 =>
   obtain⟨m,r,h3,h4⟩:=BA q t l f (by simpa using h) (fun j x y o k=>p (j+1) x y o k) s1 (c.trans (h2 s1 rfl));refine⟨max n m,r,?_,h4⟩;rw[jJ,iy (Nat.le_max_left n m) h1];exact rH (fun s x y b hb=>iy (Nat.le_max_right n m) hb) h3
theorem uH:∀(N:Nat) (s:List Ty),Good s->mX s<N->∀a b,ins s.length a=true->ins s.length b=true->Ends s a b
 | 0,s,_,h,_,_,_,_=>vv h (abv _)
 | N+1,s,g,hu,a,b,v,hb=>by
  have hN:=uH N;have main:∀(M:Nat) (a b o p:Ty),ins s.length a=true->ins s.length b=true->Ex s a o->Ex s b p->SizeOf.sizeOf o+SizeOf.sizeOf p<M->Ends s a b:=by
   intro M
   induction M with
   | zero=>intro a b o p _ _ _ _ h;exact vv h (abv _)
   | succ M ih =>
    intro a b o p v hb k d hM;obtain⟨w,a',fa⟩:=(g.all a v).front;obtain⟨z,m,fb⟩:=(g.all b hb).front;have f:=g.ins.front fa v;have l:=g.ins.front fb hb;have ab:=k.front fa;have ad:=d.front fb
    by_cases h9:a'.kind=9
    ·obtain⟨n0,r,h1,h2⟩:=L5 g f l h9 (gj fa h9) (fun q=>gj fb q);exact⟨_,r,h2 (max n0 (max w z)) (by omega) a b (dK (by omega) fa) (dK (by omega) fb),h1⟩
    by_cases c:m.kind=9
    ·obtain⟨n0,r,h1,h2⟩:=L5 g l f c (gj fb c) (fun q=>vv q h9);refine⟨max n0 (max w z)+1+1+1,r,?_,h1⟩;rw[lJ (dK (by omega) fa) (dK (by omega) fb),o5 (fun q=>h9 q.1),o5 h9,fo c];exact h2 _ (by omega) m a' (wm fb) (wm fa)
    by_cases hd:a'.kind≠m.kind\/a'.id≠m.id\/a'.args.length≠m.args.length
    ·refine⟨max w z+1,none,?_,fun s' e=>by cases e⟩;rw[lJ (dK (by omega) fa) (dK (by omega) fb),o5 (fun q=>h9 q.1),o5 h9,o5 c,fo hd]
    ·obtain⟨e1,e2,e3,e4⟩:=ab.args h9;obtain⟨f1,f2,f3,f4⟩:=ad.args c;obtain⟨n,r,h1,h2⟩:=BA hN (show mX s<=N by omega) a'.args m.args (by omega) (fun j x y hx hy=>by
      obtain⟨x',aa,al⟩:=e4 j x hx;obtain⟨y',ac,ae⟩:=f4 j y hy;have s1:=Hs (aaU aa);have s2:=Hs (aaU ac);have t:=cH f x (aaU hx);have u:=cH l y (aaU hy);exact⟨t,u,ih x y x' y' t u al ae (by omega)⟩) s (Fe.refl g)
     refine⟨max n (max w z)+1,r,?_,h2⟩;rw[lJ (dK (by omega) fa) (dK (by omega) fb),o5 (fun q=>h9 q.1),o5 h9,o5 c,o5 hd];exact rH (fun s x y b hb=>iy (by omega) hb) h1
  obtain⟨na,o,k⟩:=(g.all a v).ap;obtain⟨nb,p,d⟩:=(g.all b hb).ap;exact main _ a b o p v hb ⟨na,k⟩ ⟨nb,d⟩ (abW _)
def Jo (o:OM):Nat->Nat
 | 0=>0
 | i+1=>Jo o i+(if br o i=some true then 0 else 1)
def RB (o o':OM):Prop:=∀i,br o i=some true->br o' i=some true
theorem Ge {o o':OM}(h:RB o o'):∀n,Jo o' n<=Jo o n
 | 0=>aa2 _
 | n+1=>by
  rw[Jo,Jo];have:=Ge h n
  by_cases e:br o n=some true
  ·rw[fo e,fo (h _ e)];omega
  ·rw[o5 e];split<;>omega
theorem L9 {o o':OM}(h:RB o o') {i:Nat}(h1:¬br o i=some true) (h2:br o' i=some true):∀n,i<n->Jo o' n<Jo o n
 | 0,hi=>vv hi (abv _)
 | n+1,hi=>by
  rw[Jo,Jo]
  by_cases e:i=n
  ·subst e;rw[o5 h1,fo h2];have:=Ge h i;omega
  ·have:=L9 h h1 h2 n (by omega)
   by_cases e:br o n=some true
   ·rw[fo e,fo (h _ e)];omega
   ·rw[o5 e];split<;>omega
theorem RB.set (o:OM) (i:Int):RB o (eV o i true):=fun j h=>by
 rw[iN];split
 ·rfl
 ·exact h
def HF (s:List Ty) (t:Ty) (d:DM) (o:OM):Prop:=∃n r,bH s n t d o=some r/\∀k a o',r=some (k,a,o')->RB o o'
theorem wo {s:List Ty}{K:Nat}:∀(l:List Ty),(∀x∈l,∀d o,Jo o s.length<K->HF s x d o)->∀k d o,Jo o s.length<K->∃n r,fV (bH s n) l k d o=some r/\∀k a o',r=some (k,a,o')->RB o o'
 | [],_,k,d,o,_=>⟨0,_,rfl,fun f a o' e=>by injection e with e;injection e with _ e;injection e with _ e;subst e;exact fun i h=>h⟩
 | x::l,h,k,d,o,u=>by
  obtain⟨n,r,h1,h2⟩:=h x (by simp) d o u;cases r with
  | none=>exact⟨n,none,by rw[fV,h1],fun k a o' e=>by cases e⟩
  | some q =>
   obtain⟨f,a,o'⟩:=q;have c:=h2 f a o' rfl;obtain⟨m,r,h3,h4⟩:=wo l (fun x p=>h x (by simp[p])) (if f>k then f else k) a o' (by have:=Ge c s.length;omega);refine⟨max n m,r,?_,fun k j t e i hi=>h4 k j t e i (c i hi)⟩;rw[fV,gY (Nat.le_max_left n m) h1];exact sS (fun x d o b hb=>gY (Nat.le_max_right n m) hb) h3
theorem BB {n:Nat}{s:List Ty}{t x:Ty}{d:DM}{o:OM}(he:(if t.kind=9 then bO s t else some (.mk 0 0 []))=some x) (b:x.kind=0):bH s (n+1) t d o=(match fV (bH s n) t.args 0 d o with
    | some (some (k,a,o'))=>some (some (Ek (k+1),a,o'))
    | some none=>some none
    | none=>none):=by
 rw[bH,he];simp only;rw[o5 (fun q=>q b)];rfl
theorem Jp {n:Nat}{s:List Ty}{t x:Ty}{d:DM}{o:OM}(h9:t.kind=9) (he:bO s t=some x) (b:¬x.kind=0) (hd:br d t.id=none) (c:¬br o t.id=some true) {r:Option (Int×DM×OM)}(h:bH s n x d (eV o t.id true)=some r):bH s (n+1) t d o=some (r.map fun p=>(p.1,eV p.2.1 t.id p.1,p.2.2)):=by
 rw[bH,fo h9,he];simp only;rw[fo b,hd];simp only;cases a:br o t.id with
 | none =>
  rw[h];cases r<;>rfl
 | some u =>
  cases u with
  | true=>exact vv a c
  | false =>
   rw[h];cases r<;>rfl
theorem zp {s:List Ty}(u:zY s):∀(K:Nat) (t:Ty),ins s.length t=true->∀d o,Jo o s.length<K->HF s t d o
 | 0=>fun t _ d o h=>vv h (abv _)
 | K+1=>cV (p:=fun t=>ins s.length t=true->∀d o,Jo o s.length<K+1->HF s t d o) fun t ih j d o q=>by
  have a:∀x,(if t.kind=9 then bO s t else some (.mk 0 0 []))=some x->x.kind=0->HF s t d o:=fun x he c=>by
   obtain⟨n,r,h1,h2⟩:=wo t.args (fun x m d o q=>ih x m (cH j x m) d o q) 0 d o q;refine⟨n+1,r.map fun p=>(Ek (p.1+1),p.2.1,p.2.2),?_,fun k l o' e=>?_⟩
   ·rw[BB he c,h1];cases r with
    | none=>rfl
    | some p=>rfl
   ·cases r with
    | none=>cases e
    | some p =>
     obtain⟨k1,w,y⟩:=p;simp only[abt] at e;injection e with e
     injection e with _ e
     injection e with _ e
     subst e;exact h2 _ _ _ rfl
  by_cases h9:t.kind=9
  ·obtain⟨x,he,m⟩:=qO j h9
   by_cases c:x.kind=0
   ·exact a x (by rw[fo h9];exact he) c
   obtain⟨i,hi,_,f⟩:=zo j h9;have v:(if t.kind=9 then bO s t else some (.mk 0 0 []))=some x:=by rw[fo h9];exact he
   cases hd:br d t.id with
   | some k=>exact⟨1,_,by rw[bH,v];simp only;rw[fo c,hd],fun k l o' e=>by injection e with e;injection e with _ e;injection e with _ e;subst e;exact fun i h=>h⟩
   | none =>
    by_cases b:br o t.id=some true
    ·exact⟨1,none,by rw[bH,v];simp only;rw[fo c,hd,b],fun k l o' e=>by cases e⟩
    ·have z:=L9 (RB.set o t.id) (i:=i) (by rw[<-f];exact b) (by rw[iN,fo f.symm]) s.length hi;obtain⟨n,r,h1,h2⟩:=zp u K x (u.elem he c) d (eV o t.id true) (by omega);refine⟨n+1,r.map fun p=>(p.1,eV p.2.1 t.id p.1,p.2.2),?_,fun k l o' e=>?_⟩
     ·exact Jp h9 he c hd b h1
     ·cases r with
      | none=>cases e
      | some p =>
       obtain⟨k1,w,y⟩:=p;simp only[abt] at e;injection e with e
       injection e with _ e
       injection e with _ e
       subst e;exact fun i hi=>h2 _ _ _ rfl i (RB.set o t.id i hi)
  ·exact a _ (by rw[o5 h9]) rfl
theorem Er {s:List Ty}(a:zY s) {t:Ty}(b:ins s.length t=true) (d:DM) (o:OM):∃n r,bH s n t d o=some r:=by
 obtain⟨n,r,h,_⟩:=zp a _ t b d o (abW _);exact⟨n,r,h⟩
theorem BD {s:List Ty}(h:s.all (gh s.length)=true):zY s:=fun x b=>by
 have:=(aa1.1 h) x b;unfold gh at this;split at this
 ·rename_i a;exact .inl a
 ·exact .inr this
theorem wq {s:List Ty}(a:zY s):∀i,i<=s.length->∃n r,dJ s n i=some r
 | 0,_=>⟨0,_,rfl⟩
 | i+1,hi=>by
  obtain⟨n,r,h1⟩:=wq a i (by omega);cases r with
  | none=>exact⟨n,none,by rw[dJ,h1]⟩
  | some p =>
   obtain⟨b,d,o⟩:=p;obtain⟨m,r,h2⟩:=Er a (mW (show i<s.length by omega)) d o;cases r with
   | none=>exact⟨max n m,none,by rw[dJ,pK (Nat.le_max_left n m) h1];simp only;rw[gY (Nat.le_max_right n m) h2]⟩
   | some q=>exact⟨max n m,some (b||decide (q.1>8),q.2.1,q.2.2),by rw[dJ,pK (Nat.le_max_left n m) h1];simp only;rw[gY (Nat.le_max_right n m) h2]⟩
theorem wu (s:List Ty):∃n r,bK s n=some r:=by
 cases a:s.all (gh s.length) with
 | false=>exact⟨0,none,by unfold bK;rw[o5 (by rw[a];exact abf)]⟩
 | true =>
  obtain⟨n,r,h⟩:=wq (BD a) s.length (aa2 _);cases r with
  | none=>exact⟨n,none,by unfold bK;rw[fo a,h]⟩
  | some p =>
   obtain⟨b,d,o⟩:=p;cases b with
   | true=>exact⟨n,none,by unfold bK;rw[fo a,h];rfl⟩
   | false=>exact⟨n,some (d,o),by unfold bK;rw[fo a,h];rfl⟩
def Xu (s:List Ty) (i:Int):Prop:=∀t:Ty,t.kind=9->t.id=i->j8 s t
def Es (s:List Ty) (d:DM):Prop:=∀i,br d i≠none->Xu s i
theorem BF {s:List Ty}{n:Nat}:∀{l:List Ty},(∀x∈l,∀d o k a o',bH s n x d o=some (some (k,a,o'))->Es s d->j8 s x/\Es s a)->∀{k:Int}{d:DM}{o:OM}{e:Int}{a:DM}{o':OM},fV (bH s n) l k d o=some (some (e,a,o'))->Es s d->(∀x∈l,j8 s x)/\Es s a
 | [],_,k,d,o,e,a,o',h,hd=>by
  rw[fV] at h;injection h with h
  injection h with h
  injection h with _ h
  injection h with h _
  subst h;exact⟨fun x c=>(by cases c),hd⟩
 | x::l,c,k,d,o,e,a,o',h,hd=>by
  rw[fV] at h;cases h1:bH s n x d o with
  | none=>rw[h1] at h;cases h
  | some r =>
   rw[h1] at h;cases r with
   | none=>cases h
   | some p =>
    obtain⟨k1,j,m⟩:=p;obtain⟨u,q⟩:=c x (by simp) d o k1 j m h1 hd;obtain⟨f,t⟩:=BF (fun y b=>c y (by simp[b])) h q;refine⟨fun y b=>?_,t⟩;rcases aaX.1 b with rfl | b
    ·exact u
    ·exact f y b
theorem CN {s:List Ty}{t u:Ty}(h:u.id=t.id):bO s u=bO s t:=by unfold bO;rw[h]
theorem zq {s:List Ty}:∀{n:Nat}{t:Ty}{d:DM}{o:OM}{k:Int}{a:DM}{o':OM},bH s n t d o=some (some (k,a,o'))->Es s d->j8 s t/\Es s a
 | 0,t,d,o,k,a,o',h,_=>by cases h
 | n+1,t,d,o,k,a,o',h,hd=>by
  rw[bH] at h;cases he:(if t.kind=9 then bO s t else some (.mk 0 0 [])) with
  | none=>simp only[he] at h;cases h
  | some x =>
   simp only[he] at h
   by_cases j:x.kind=0
   ·rw[o5 (fun q=>q j)] at h;cases v:fV (bH s n) t.args 0 d o with
    | none=>simp only[v] at h;cases h
    | some r =>
     simp only[v] at h;cases r with
     | none=>cases h
     | some p =>
      obtain⟨k1,b,m⟩:=p;injection h with h
      injection h with h
      injection h with _ h
      injection h with h _
      subst h;obtain⟨l,y⟩:=BF (fun x _ d o k a o' h hd=>zq h hd) v hd;refine⟨?_,y⟩
      by_cases h9:t.kind=9
      ·rw[fo h9] at he;exact .stop h9 he j l
      ·exact .arg h9 l
   ·rw[fo j] at h;have h9:t.kind=9:=by
     by_cases h9:t.kind=9
     ·exact h9
     ·rw[o5 h9] at he;injection he with he
      exact vv (by rw[<-he];rfl) j
    rw[fo h9] at he;cases f:br d t.id with
    | some k0 =>
     simp only[f] at h;injection h with h
     injection h with h
     injection h with _ h
     injection h with h _
     subst h;exact⟨hd t.id (by rw[f];simp) t h9 rfl,hd⟩
    | none =>
     simp only[f] at h;have key:∀k1 b m,bH s n x d (eV o t.id true)=some (some (k1,b,m))->j8 s t/\Es s (eV b t.id k1):=by
      intro k1 b m hx;obtain⟨l,y⟩:=zq hx hd;refine⟨.step h9 he j l,fun i hi=>?_⟩;rw[iN] at hi
      by_cases e:i=t.id
      ·intro u z w;exact .step z ((CN (w.trans e)).trans he) j l
      ·rw[o5 e] at hi;exact y i hi
     have fin:∀X:Option (Option (Int×DM×OM)),(match X with
       | some (some (k,a,o'))=>some (some (k,eV a t.id k,o'))
       | some none=>some none
       | none=>none)=some (some (k,a,o'))->∃b,X=some (some (k,b,o'))/\a=eV b t.id k:=by
      intro X c;cases X with
      | none=>cases c
      | some q =>
       cases q with
       | none=>cases c
       | some p =>
        obtain⟨k1,b,m⟩:=p;injection c with c
        injection c with c
        injection c with e1 c
        injection c with e2 e3
        subst e1 e3;exact⟨b,rfl,e2.symm⟩
     have ho:¬br o t.id=some true:=fun q=>by rw[q] at h;cases h
     have h:(match bH s n x d (eV o t.id true) with
       | some (some (k,a,o'))=>some (some (k,eV a t.id k,o'))
       | some none=>some none
       | none=>none)=some (some (k,a,o')):=by
      cases f:br o t.id with
      | none=>rw[f] at h;exact h
      | some u =>
       cases u with
       | true=>exact vv f ho
       | false=>rw[f] at h;exact h
     obtain⟨b,h1,h2⟩:=fin _ h;rw[h2];exact key _ _ _ h1
theorem BG {s:List Ty}{n:Nat}:∀{i:Nat}{b:Bool}{d:DM}{o:OM},dJ s n i=some (some (b,d,o))->(∀j<i,j8 s (vr j))/\Es s d
 | 0,b,d,o,h=>by
  rw[dJ] at h;injection h with h
  injection h with h
  injection h with _ h
  injection h with h _
  subst h;exact⟨fun j a=>vv a (abv _),fun i hi=>vv rfl hi⟩
 | i+1,b,d,o,h=>by
  rw[dJ] at h;cases h1:dJ s n i with
  | none=>rw[h1] at h;cases h
  | some r =>
   rw[h1] at h;cases r with
   | none=>cases h
   | some p =>
    obtain⟨u,f,k⟩:=p;obtain⟨q,l⟩:=BG h1;simp only at h;cases h2:bH s n (vr i) f k with
    | none=>rw[h2] at h;cases h
    | some r =>
     rw[h2] at h;cases r with
     | none=>cases h
     | some p =>
      obtain⟨t,v,w⟩:=p;injection h with h
      injection h with h
      injection h with _ h
      injection h with h _
      subst h;obtain⟨c,m⟩:=zq h2 l;refine⟨fun j a=>?_,m⟩
      by_cases e:j=i
      ·rw[e];exact c
      ·exact q j (by omega)
theorem mY {s:List Ty}{n:Nat}{d:DM}{o:OM}(h:bK s n=some (some (d,o))):Good s:=by
 unfold bK at h;split at h
 ·rename_i c;cases a:dJ s n s.length with
  | none=>simp only[a] at h;cases h
  | some r =>
   cases r with
   | none=>simp only[a] at h;cases h
   | some p =>
    obtain⟨b,d,o⟩:=p;exact⟨BD c,(BG a).1⟩
 ·cases h
theorem Et {s:List Ty}(g:Good s):∃n r,j3 s n=some r:=by
 have h1:∀i∈List.range s.length,∃n r,aO s n (vr i)=some r:=fun i hi=>(g.fin i (List.mem_range.1 hi)).front;have h2:∀i∈List.range s.length,∃n r,nk s n (vr i)=some r:=fun i hi=>(g.fin i (List.mem_range.1 hi)).ap;obtain⟨b,h1⟩:=oH (f:=fun n i=>aO s n (vr i)) dK h1;obtain⟨c,h2⟩:=oH (f:=fun n i=>nk s n (vr i)) nE h2;have k:∀i,i<=s.length->∀d,∃r,jf s b i d=some r:=by
  intro i
  induction i with
  | zero=>exact fun _ d=>⟨d,rfl⟩
  | succ i h =>
   intro hi d;obtain⟨t,e⟩:=h1 i (List.mem_range.2 (by omega));obtain⟨r,a⟩:=h (by omega) (if t.kind=9 then eV d t.id i else d);exact⟨r,by rw[jf,e];exact a⟩
 obtain⟨m,l⟩:=k s.length (aa2 _) [];have j:∀i,i<=s.length->∃r,qf s c m i=some r:=by
  intro i
  induction i with
  | zero=>exact fun _=>⟨[],rfl⟩
  | succ i h =>
   intro hi;obtain⟨t,e⟩:=h2 i (List.mem_range.2 (by omega));obtain⟨r,a⟩:=h (by omega);exact⟨_,by rw[qf,a,e]⟩
 obtain⟨r,a⟩:=j s.length (aa2 _);refine⟨max b c,r,?_⟩;unfold j3;rw[sU (Nat.le_max_left b c) l];exact vJ (Nat.le_max_right b c) a
theorem zu {s:List Ty}{a b:Ty}(h:nP s a b=true):ins s.length a=true/\ins s.length b=true/\bW a<=8/\bW b<=8:=by
 unfold nP at h;simp only[aaN,Bool.not_eq_true',ab0] at h;exact⟨h.1.1,h.1.2,by omega,by omega⟩
theorem RD (s:List Ty) (a b:Ty):∃n,Fuel n s a b/\(∀s',LY n s a b s'->∃r,j3 s' n=some r)/\∀s',LY n s a b s'->Fe s s':=by
 obtain⟨c,r1,h1⟩:=wu s
 by_cases z:(∃d o,r1=some (d,o))/\nP s a b=true
 ·obtain⟨⟨d,o,rfl⟩,v⟩:=z;have g:=mY h1;obtain⟨i1,i2,_,_⟩:=zu v;obtain⟨f,r2,h2,h3⟩:=uH _ s g (abW _) a b i1 i2;cases r2 with
  | none =>
   refine⟨max c f,⟨⟨_,kL (Nat.le_max_left c f) h1⟩,fun _ _=>⟨_,iy (Nat.le_max_right c f) h2⟩,fun _ _ s' e=>?_,fun _ _ s' e=>?_⟩,fun s' e=>?_,fun s' e=>?_⟩
   ·rw[iy (Nat.le_max_right c f) h2] at e;cases e
   ·rw[iy (Nat.le_max_right c f) h2] at e;cases e
   ·have e:=e.2.2.1;rw[iy (Nat.le_max_right c f) h2] at e;cases e
   ·have e:=e.2.2.1;rw[iy (Nat.le_max_right c f) h2] at e;cases e
  | some s' =>
   have m:=h3 s' rfl;obtain⟨k,r3,h4⟩:=wu s';obtain⟨l,r4,h5⟩:=Et m.good;have hd:∃j,∀d o,r3=some (d,o)->∃r,bH s' j a d o=some r:=by
    cases r3 with
    | none=>exact⟨0,fun d o e=>by cases e⟩
    | some p =>
     obtain⟨j,r5,h6⟩:=Er m.good.ins (show ins s'.length a=true by rw[m.len];exact i1) p.1 p.2;exact⟨j,fun d o e=>by injection e with e;rw[e] at h6;exact⟨r5,h6⟩⟩
   obtain⟨j,h6⟩:=hd;have x:c<=c+f+k+l+j:=by omega
   have u:f<=c+f+k+l+j:=by omega
   have w:k<=c+f+k+l+j:=by omega
   have y:l<=c+f+k+l+j:=by omega
   have b5:j<=c+f+k+l+j:=by omega
   generalize c+f+k+l+j=n at x u w y b5;have t:∀{h},kT n s a b=some (some h)->h=s':=fun e=>by
    rw[iy u h2] at e;injection e with e;injection e with e;exact e.symm
   refine⟨n,⟨⟨_,kL x h1⟩,fun _ _=>⟨_,iy u h2⟩,fun _ _ h e=>?_,fun _ _ h e d o hf=>?_⟩,fun h e=>?_,fun h e=>?_⟩
   ·rw[t e];exact⟨_,kL w h4⟩
   ·rw[t e] at hf ⊢;rw[kL w h4] at hf;injection hf with hf
    obtain⟨r,hr⟩:=h6 d o hf;exact⟨r,gY b5 hr⟩
   ·rw[t e.2.2.1];exact⟨_,sV y h5⟩
   ·rw[t e.2.2.1];exact m
 ·have no:∀{X:Prop},(∃d o,bK s c=some (some (d,o)))->nP s a b=true->X:=fun⟨d,o,e⟩ v=>by
   rw[h1] at e;injection e with e;exact vv ⟨⟨d,o,e⟩,v⟩ z
  exact⟨c,⟨⟨_,h1⟩,fun q p=>no q p,fun q p=>no q p,fun q p=>no q p⟩,fun s' e=>no e.1 e.2.1,fun s' e=>no e.1 e.2.1⟩
end Go.Fr.Tryz
