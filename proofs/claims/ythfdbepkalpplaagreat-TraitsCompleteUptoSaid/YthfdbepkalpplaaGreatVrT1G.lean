/- Part of the proofs of the statements of this seat. -/
import Derived.Test.YthfdbepkalpplaaGreatVnG3G
import Derived.Test.YthfdbepkalpplaaGreatVnF5G
import Derived.Test.YthfdbepkalpplaaGreatVnV1G
import Derived.Test.YthfdbepkalpplaaGreatVrCode
set_option maxRecDepth 10000
set_option linter.unusedVariables false
set_option linter.unusedSimpArgs false
namespace Go.Fr.Tryz
open Go Go.RowKit Go.Proofs Go.Fr Go.Fr.T Go.Fr.Api
mutual
def gs (u:List Ty):Ty->Ty
 | .mk k i l=>if k=9 then(u[i.toNat]?).getD (.mk 0 0 []) else .mk k i (Wl u l)
def Wl (u:List Ty):List Ty->List Ty
 | []=>[]
 | t::l=>gs u t::Wl u l
end
theorem HJ (u:List Ty):∀l:List Ty,Wl u l=l.map (gs u)
 | []=>rfl
 | t::l=>by rw[Wl,HJ u l];rfl
theorem RI (u:List Ty) (t:Ty):gs u t=if t.kind=9 then(u[t.id.toNat]?).getD (.mk 0 0 []) else .mk t.kind t.id (t.args.map (gs u)):=by
 cases t;rw[gs,HJ];rfl
theorem kM {u:List Ty}{t:Ty}(h:t.kind=9):gs u t=(u[t.id.toNat]?).getD (.mk 0 0 []):=by rw[RI,fo h]
theorem iO {u:List Ty}{t:Ty}(h:¬t.kind=9):gs u t=.mk t.kind t.id (t.args.map (gs u)):=by rw[RI,o5 h]
theorem l9 {u:List Ty}{t r:Ty}(h:t.kind=9) (k:r.kind=9) (e:t.id=r.id):gs u t=gs u r:=by rw[kM h,kM k,e]
structure Sat (u s:List Ty):Prop where
 len:u.length=s.length
 eq:∀(i:Nat) (x:Ty),s[i]?=some x->¬x.kind=0->u[i]?=some (gs u x)
theorem Sat.elem {u s:List Ty}(h:Sat u s) {t x:Ty}(h9:t.kind=9) (he:bO s t=some x) (a:¬x.kind=0):gs u x=gs u t:=by
 obtain⟨_,e,_⟩:=bE he;rw[kM h9,h.eq _ x e a];rfl
theorem Sat.front {u s:List Ty}(h:Sat u s):∀{n:Nat}{t r:Ty},aO s n t=some r->gs u r=gs u t
 | 0,t,r,q=>by cases q
 | n+1,t,r,q=>by
  rw[aO] at q
  by_cases b:t.kind=9
  ·rw[fo b] at q;cases he:bO s t with
   | none=>rw[he] at q;cases q
   | some x =>
    rw[he] at q;simp only at q
    by_cases a:x.kind=0
    ·rw[fo a] at q;injection q with q;rw[q]
    ·rw[o5 a] at q;rw[h.front q,h.elem b he a]
  ·rw[o5 b] at q;injection q with q;rw[q]
theorem Vh {u:List Ty}{t y:Ty}(h9:¬t.kind=9) (a:y∈t.args):SizeOf.sizeOf (gs u y)<SizeOf.sizeOf (gs u t):=by
 rw[iO h9];exact Hs (x:=gs u y) (t:=.mk t.kind t.id (t.args.map (gs u))) (abq.2 ⟨y,a,rfl⟩)
theorem Sat.occ {u s:List Ty}(h:Sat u s) {v:Int}:∀{n:Nat}{t:Ty},jI s v n t=some true->SizeOf.sizeOf (gs u (.mk 9 v []))<=SizeOf.sizeOf (gs u t)/\(¬t.kind=9->SizeOf.sizeOf (gs u (.mk 9 v []))<SizeOf.sizeOf (gs u t))
 | 0,t,q=>by cases q
 | n+1,t,q=>by
  rw[jI] at q;cases hf:aO s n t with
  | none=>rw[hf] at q;cases q
  | some r =>
   rw[hf] at q;have e:=h.front hf;simp only at q
   by_cases h9:r.kind=9
   ·rw[fo h9] at q;injection q with q
    have q:=abu q;refine⟨?_,fun d=>?_⟩
    ·rw[<-e,l9 (u:=u) h9 (r:=.mk 9 v []) rfl q];exact aa2 _
    ·cases n with
     | zero=>cases hf
     | succ n=>rw[Bx d n] at hf;injection hf with hf;exact vv (hf▸h9) d
   ·rw[o5 h9] at q;obtain⟨h1,h2⟩:=oG q;obtain⟨y,c,a⟩:=abN.1 h2;have b:jI s v n y=some true:=by rw[h1 y c,a]
    have:=(h.occ b).1;have f:=Vh (u:=u) h9 c;rw[e] at f;exact⟨by omega,fun _=>by omega⟩
theorem Sat.set {u s:List Ty}(h:Sat u s) {v:Int}{b:Ty}(h0:0<=v) (hb:gs u (.mk 9 v [])=gs u b):Sat u (s.set v.toNat b):=by
 refine⟨by rw[abG];exact h.len,fun i x a d=>?_⟩
 by_cases e:v.toNat=i
 ·have c:i<s.length:=by have:=(aaT.1 a).1;rwa [abG] at this
  rw[e,abY c] at a;injection a with a
  subst a;rw[<-hb,kM rfl];show _=some ((u[v.toNat]?).getD _);rw[e,aaQ (by rw[h.len];exact c)];rfl
 ·rw[abU e] at a;exact h.eq i x a d
theorem HK {u:List Ty}{f:List Ty->Ty->Ty->Option (Option (List Ty))}(hf:∀s x y r,Sat u s->gs u x=gs u y->f s x y=some r->∃s',r=some s'/\Sat u s'):∀{l a s:List Ty}{r:Option (List Ty)},Sat u s->l.map (gs u)=a.map (gs u)->jJ f s l a=some r->∃s',r=some s'/\Sat u s'
 | [],a,s,r,h,_,q=>by rw[jJ] at q;injection q with q;exact⟨s,q.symm,h⟩
 | x::l,[],s,r,h,e,q=>by simp at e
 | x::l,y::a,s,r,h,e,q=>by
  rw[aaZ,aaZ,List.cons.injEq] at e;rw[jJ] at q;cases b:f s x y with
  | none=>rw[b] at q;cases q
  | some c =>
   rw[b] at q;obtain⟨s1,rfl,h1⟩:=hf s x y c h e.1 b;exact HK hf h1 e.2 q
theorem Sat.eqs {u:List Ty}:∀{n:Nat}{s:List Ty}{a b:Ty}{r:Option (List Ty)},Sat u s->gs u a=gs u b->kT n s a b=some r->∃s',r=some s'/\Sat u s'
 | 0,s,a,b,r,h,_,q=>by cases q
 | n+1,s,a,b,r,h,t,q=>by
  cases fa:aO s n a with
  | none=>rw[kT,fa] at q;cases q
  | some a' =>
  cases fb:aO s n b with
  | none=>rw[kT,fa,fb] at q;cases q
  | some f =>
  rw[lJ fa fb] at q;have c:gs u a'=gs u f:=by rw[h.front fa,h.front fb,t]
  by_cases h9:a'.kind=9
  ·obtain⟨xa,v,ad⟩:=gj fa h9;have w:=(bE v).1;have j:gs u (.mk 9 a'.id [])=gs u a':=l9 rfl h9 rfl
   by_cases d:f.kind=9
   ·obtain⟨xb,l,ae⟩:=gj fb d;have aa:=(bE l).1;have z:gs u (.mk 9 f.id [])=gs u f:=l9 rfl d rfl;rw[fo ⟨h9,d⟩] at q
    by_cases hi:a'.id=f.id
    ·rw[fo hi] at q;injection q with q;exact⟨s,q.symm,h⟩
    ·rw[o5 hi] at q;injection q with q
     refine⟨_,q.symm,h.set (by omega) ?_⟩;rcases Int.le_total a'.id f.id with e | e
     ·rw[Int.max_eq_right e,Int.min_eq_left e,j,z,c]
     ·rw[Int.max_eq_left e,Int.min_eq_right e,j,z,c]
   ·rw[o5 (fun p=>d p.2),fo h9] at q;cases k:jI s a'.id n f with
    | none=>rw[k] at q;cases q
    | some o =>
     rw[k] at q;cases o with
     | true =>
      have:=(h.occ k).2 d;rw[j,c] at this;exact vv this (Nat.lt_irrefl _)
     | false =>
      injection q with q
      exact⟨_,q.symm,h.set w (j.trans c)⟩
  ·rw[o5 (fun p=>h9 p.1),o5 h9] at q
   by_cases d:f.kind=9
   ·rw[fo d] at q;exact Sat.eqs h c.symm q
   ·rw[o5 d] at q;rw[iO h9,iO d] at c;injection c with g1 g2 g3
    have g4:a'.args.length=f.args.length:=by have:=vz List.length g3;simpa using this
    rw[o5 (by omega)] at q;exact HK (fun s x y r hs m hq=>Sat.eqs hs m hq) h g3 q
theorem Sat.ap {u s:List Ty}(h:Sat u s):∀{n:Nat}{t r:Ty},nk s n t=some r->gs u r=gs u t
 | 0,t,r,q=>by cases q
 | n+1,t,r,q=>by
  rw[nk] at q;cases he:(if t.kind=9 then bO s t else some (.mk 0 0 [])) with
  | none=>simp only[he] at q;cases q
  | some x =>
   simp only[he] at q
   by_cases a:x.kind=0
   ·rw[o5 (fun p=>p a)] at q;cases b:j7 (nk s n) t.args with
    | none=>simp only[b] at q;cases q
    | some l =>
     simp only[b] at q;injection q with q
     obtain⟨h1,h2⟩:=gJ b;subst q
     by_cases h9:t.kind=9
     ·exact l9 (by exact h9) h9 rfl
     ·rw[iO h9,iO (t:=.mk t.kind t.id l) h9];show Ty.mk t.kind t.id (l.map (gs u))=_;rw[h2,abT];exact vz _ (abX fun y c=>h.ap (h1 y c))
   ·rw[fo a] at q;have h9:t.kind=9:=by
     by_cases h9:t.kind=9
     ·exact h9
     ·rw[o5 h9] at he;injection he with he
      exact vv (by rw[<-he];rfl) a
    rw[fo h9] at he;rw[h.ap q,h.elem h9 he a]
inductive Vi (s:List Ty):Ty->Prop
 | var {t x:Ty}(h9:t.kind=9) (he:bO s t=some x) (hk:x.kind=0):Vi s t
 | arg {t:Ty}(h9:¬t.kind=9) (h:∀y∈t.args,Vi s y):Vi s t
theorem Gj {s:List Ty}(f:zY s):∀{n:Nat}{t r:Ty},nk s n t=some r->ins s.length t=true->Vi s r/\ins s.length r=true
 | 0,t,r,q,_=>by cases q
 | n+1,t,r,q,c=>by
  rw[nk] at q;cases he:(if t.kind=9 then bO s t else some (.mk 0 0 [])) with
  | none=>simp only[he] at q;cases q
  | some x =>
   simp only[he] at q
   by_cases a:x.kind=0
   ·rw[o5 (fun p=>p a)] at q;cases d:j7 (nk s n) t.args with
    | none=>simp only[d] at q;cases q
    | some l =>
     simp only[d] at q;injection q with q
     obtain⟨h1,h2⟩:=gJ d;subst q
     by_cases h9:t.kind=9
     ·rw[fo h9] at he;refine⟨.var (t:=.mk t.kind t.id l) h9 ((CN rfl).trans he) a,?_⟩;have e:l=[]:=by rw[h2,(fC c h9).2.2];rfl
      have j:(Ty.mk t.kind t.id l)=t:=wk rfl rfl (by rw[(fC c h9).2.2];exact e);rw[j];exact c
     ·have key:∀y∈l,Vi s y/\ins s.length y=true:=by
       rw[h2];intro y b;obtain⟨z,h,rfl⟩:=abq.1 b;exact Gj f (h1 z h) (cH c z h)
      refine⟨.arg (t:=.mk t.kind t.id l) h9 fun y b=>(key y b).1,?_⟩;have a:=mV c;rw[qL];show(if t.kind<1\/9<t.kind then false else if t.kind=9 then _ else l.all (ins s.length))=true;rw[o5 (by omega),o5 h9,aa1];exact fun y b=>(key y b).2
   ·rw[fo a] at q;have h9:t.kind=9:=by
     by_cases h9:t.kind=9
     ·exact h9
     ·rw[o5 h9] at he;injection he with he
      exact vv (by rw[<-he];rfl) a
    rw[fo h9] at he;exact Gj f q (f.elem he a)
structure LOk (u s:List Ty) (m:DM):Prop where
 ok:∀j k,br m j=some k->0<=k/\k<s.length/\gs u (.mk 9 k [])=gs u (.mk 9 j [])
theorem xG {ds:List Api.Data}{pa:Int}{t:Ty}(h:wK ds pa t=true) (h5:t.kind=5):0<=t.id/\t.id<pa/\t.args=[]:=by
 rw[mT,fo h5] at h;simp only[aaN,aa0] at h;exact⟨h.1.1,h.1.2,aby h.2⟩
theorem xH {ds:List Api.Data}{pa:Int}{t:Ty}(h:wK ds pa t=true) (h5:¬t.kind=5):∃n,C5 ds t.kind t.id=some n/\¬((t.kind≠2/\t.id≠0)\/(t.args.length:Int)≠n)/\∀x∈t.args,(jc x=true\/(t.kind=7/\x.kind=6))/\wK ds pa x=true:=by
 rw[mT,o5 h5] at h;cases a:C5 ds t.kind t.id with
 | none=>simp only[a] at h;cases h
 | some n =>
  simp only[a] at h;split at h
  ·cases h
  ·rename_i b;refine⟨n,rfl,b,fun x d=>?_⟩;rw[Bool.not_eq_true'] at h;have hb:=(abZ.1 h) x d;simp only[F9,abr,aaN,Bool.not_eq_true',Bool.not_eq_false',Bool.and_eq_false_iff,aa0,ab0,not_or,not_and,ab3] at hb;refine⟨?_,?_⟩
   ·cases c:jc x with
    | true=>exact .inl rfl
    | false =>
     refine .inr ?_;have h1:=hb.1 c;simpa using h1
   ·cases hf:wK ds pa x with
    | true=>rfl
    | false=>exact vv hf (by simpa using hb.2)
def jg (n:Int) (m:TM):Prop:=(∀p∈m,0<=p.1/\p.1<n)/\(m.map (·.1)).Nodup
theorem Ey {a:Type}{m:List (Int×a)}{i:Int}{x:a}(h:br m i=some x):(i,x)∈m:=by
 induction m with
 | nil=>cases h
 | cons p m b =>
  obtain⟨k,v⟩:=p;simp only[br] at h
  by_cases e:i=k
  ·rw[fo e] at h;injection h with h;subst e h;simp
  ·rw[o5 e] at h;exact abk _ (b h)
theorem Js {a:Type}(m:List (Int×a)) (i:Int) (x:a) (h:br m i=none):eV m i x=m++[(i,x)]:=by
 induction m with
 | nil=>rfl
 | cons p m b =>
  obtain⟨k,v⟩:=p;simp only[br] at h
  by_cases e:i=k
  ·rw[fo e] at h;cases h
  ·rw[o5 e] at h;simp only[eV,o5 e,b h,aa3]
theorem Jt {b:Type}{m:List (Int×b)}{i:Int}(h:br m i=none):i∉m.map (·.1):=by
 induction m with
 | nil=>simp
 | cons p m a =>
  obtain⟨k,v⟩:=p;simp only[br] at h
  by_cases e:i=k
  ·rw[fo e] at h;cases h
  ·rw[o5 e] at h;simp only[aaZ,aaX,not_or];exact⟨e,a h⟩
theorem Qe {b:Type}{m:List (Int×b)}{i:Int}{x:b}(a:(m.map (·.1)).Nodup) (h:(i,x)∈m):br m i=some x:=by
 induction m with
 | nil=>cases h
 | cons p m c =>
  obtain⟨k,v⟩:=p;simp only[aaZ,List.nodup_cons] at a;simp only[br];rcases aaX.1 h with e | h
  ·injection e with e1 e2;rw[fo e1,e2]
  ·have:i≠k:=fun e=>a.1 (by rw[<-e];exact abq.2 ⟨_,h,rfl⟩);rw[o5 this];exact c a.2 h
theorem jg.set {n:Int}{m:TM}{i:Int}{x:Ty}(h:jg n m) (h0:0<=i) (h1:i<n) (d:br m i=none):jg n (eV m i x):=by
 rw[Js m i x d];refine⟨fun p c=>?_,?_⟩
 ·rcases aaV.1 c with c | c
  ·exact h.1 p c
  ·rw[abK.1 c];exact⟨h0,h1⟩
 ·rw[abx];exact List.nodup_append.2 ⟨h.2,by simp,fun a f b hb=>by
   rw[abK.1 (by simpa using hb:b∈[i])];exact fun e=>Jt d (e▸f)⟩
theorem fit_keys (n:Int):∀(p t:Ty) (m:TM),jg n m->jg n (jZ n p t m).1:=fun p=>cV (p:=fun p=>∀(t:Ty) (m:TM),jg n m->jg n (jZ n p t m).1) (fun p j t m h=>by
 have d:∀(l:List Ty),(∀x∈l,∀(t:Ty) (m:TM),jg n m->jg n (jZ n x t m).1)->∀(a:List Ty) (m:TM),jg n m->jg n (nj n l a m).1:=by
  intro l
  induction l with
  | nil=>intro _ a m h;rw[nj];exact h
  | cons x l c =>
   intro e a m h;rw[nj.eq_def];cases a with
   | nil=>exact h
   | cons y a =>
    have h1:=e x (by simp) y m h;simp only;cases hf:jZ n x y m with
    | mk k b =>
     rw[hf] at h1;cases b
     ·exact h1
     ·exact c (fun z d=>e z (by simp[d])) a k h1
 rw[uE,Jg];split
 ·split
  ·exact h
  ·rename_i o;split
   ·exact h
   ·rename_i f;exact h.set (by omega) (by omega) f
 ·split
  ·split
   ·exact d p.args j t.args m h
   ·exact h
  ·exact h) p
noncomputable def uI:Code:=Tryz.f35.body.getD .skip
noncomputable def m0:Code:=wO uI
noncomputable def m1:Code:=wO (gk uI)
noncomputable def m2:Code:=wO (gk (gk uI))
noncomputable def m3:Code:=wO (gk (gk (gk uI)))
noncomputable def m4:Code:=wO (gk (gk (gk (gk uI))))
noncomputable def m5:Code:=wO (gk (gk (gk (gk (gk uI)))))
noncomputable def m6:Code:=wO (gk (gk (gk (gk (gk (gk uI))))))
noncomputable def m7:Code:=wO (gk (gk (gk (gk (gk (gk (gk uI)))))))
noncomputable def m8:Code:=wO (gk (gk (gk (gk (gk (gk (gk (gk uI))))))))
theorem Ez:Tryz.f35.body=some (m0.seq (m1.seq (m2.seq (m3.seq (m4.seq (m5.seq (m6.seq (m7.seq (m8.seq .ret))))))))):=by kernel_rfl
def y0:au:=(.reg [.op (some 3) (.boxF 33 (.t 0)) none,
  .op (some 4) (.boxF 33 (.t 1)) none,
  .op (some 5) (.boxF 3 (.t 2)) none,
  .op (some 6) (.mov (.c (.slice none 0 0))) none,
  .op (some 7) (.mov (.c (.bool false))) none])
theorem Vj:low Tryz.prog JG m0=some y0:=by kernel_rfl
def y1:au:=(.seq (.reg [.op (some 13) (.load false 1 (.t 5)) none,
  .op (some 14) (.bin .lss (.t 13) (.c (.int .i64 0))) none,
  .op (some 15) (.mov (.t 14)) none,
  .op (some 16) (.load false 1 (.t 5)) (some (15,false)),
  .op (some 17) (.bin .gtr (.t 16) (.c (.int .i64 4))) (some (15,false)),
  .op (some 18) (.pick (.t 15) (.c (.bool true)) (.t 17)) none])
 (.cond (.t 18)
 (.seq (.reg [.op (some 6) (.mov (.c (.slice none 0 0))) none,
   .op (some 7) (.mov (.c (.bool false))) none])
  .ret)
 .skip))
theorem Vk:low Tryz.prog JG m1=some y1:=by kernel_rfl
def y2:au:=(.reg [.op (some 19) (.mkmap) none,
  .op (some 8) (.alloc 94 [(.map none)]) none,
  .op none (.store 1 (.t 8) (.t 19)) none])
theorem Vl:low Tryz.prog JG m2=some y2:=by kernel_rfl
def y3:au:=(.reg [.op (some 9) (.alloc 64 [.nilFunc]) none])
theorem Vm:low Tryz.prog JG m3=some y3:=by kernel_rfl
def y4:au:=(.reg [.op (some 20) (.mkfn 55 [] [(.t 9),(.t 5),(.t 8)]) none,
  .op none (.store 1 (.t 9) (.t 20)) none])
theorem Vn:low Tryz.prog JG m4=some y4:=by kernel_rfl
def y5:au:=(.seq (.reg [.op (some 21) (.load false 1 (.t 9)) none,
  .op (some 22) (.load true 3 (.t 3)) none,
  .op (some 23) (.load true 3 (.t 4)) none,
  .op (some 24) (.callV (.t 21) [(.t 22),(.t 23)]) none,
  .op (some 25) (.un .not (.t 24)) none])
 (.cond (.t 25)
 (.seq (.reg [.op (some 6) (.mov (.c (.slice none 0 0))) none,
   .op (some 7) (.mov (.c (.bool false))) none])
  .ret)
 .skip))
theorem Vo:low Tryz.prog JG m5=some y5:=by kernel_rfl
def y6:au:=(.reg [.op (some 26) (.load false 1 (.t 5)) none,
  .op (some 27) (.makeS 33 3 40 [(.int .i64 0),(.int .i64 0),(.slice none 0 0)] (.t 26) (.t 26)) none,
  .op (some 10) (.mov (.t 27)) none])
theorem Vp:low Tryz.prog JG m6=some y6:=by kernel_rfl
def y7:au:=(.seq (.reg [.op (some 28) (.load false 1 (.t 8)) none,
  .op (some 29) (.mrange (.t 28)) none])
 (.block 0
 (.loop [30,31,32,33,34,12,11,35,36,37,38]
  (.seq (.reg [.op (some 30) (.mnext (.t 29)) none,
    .op (some 31) (.extr (.t 30) 0) none])
   (.seq (.cond (.t 31)
   .skip
   (.exit 0))
   (.block 1
   (.seq (.reg [.op (some 32) (.mentry (.t 29)) none,
     .op (some 33) (.extr (.t 32) 0) none,
     .op (some 34) (.extr (.t 32) 1) none,
     .op (some 12) (.alloc 33 [(.int .i64 0),(.int .i64 0),(.slice none 0 0)]) none,
     .op (some 11) (.mov (.t 33)) none,
     .op none (.store 3 (.t 12) (.t 34)) none])
    (.reg [.op (some 35) (.mov (.t 10)) none,
     .op (some 36) (.mov (.t 11)) none,
     .op (some 37) (.load true 3 (.t 12)) none,
     .op (some 38) (.idxA 3 (.t 35) (.t 36)) none,
     .op none (.store 3 (.t 38) (.t 37)) none]))))))))
theorem Vq:low Tryz.prog JG m7=some y7:=by kernel_rfl
def y8:au:=(.reg [.op (some 39) (.mov (.t 10)) none,
  .op (some 6) (.mov (.t 39)) none,
  .op (some 7) (.mov (.c (.bool true))) none])
abbrev ML (n:Nat) (m:TM) (out:List Ty):TL:=[(8,.box 94 [.mpr 19]),(9,.box 64 [.fn 55 [] [.own 9 0,.pt [IC n] 0,.own 8 0]]),(19,.map (j6 aP m)),(27,.row 33 3 (out.map aD))]
theorem XO (p t:Ty) (n:Nat) (d:n<=4) (m:TM) (b:jZ n p t []=(m,true)):evalTC P ⟨fun _=>False,[],none⟩ (.seq y0 (.seq y1 (.seq y2 (.seq y3 (.seq y4 (.seq y5 y6)))))) (fun _ _ _=>False) (fun _ _=>False)
  (fun M τ=>M=ML n m (List.replicate n (.mk 0 0 []))/\τ 8=.own 8 0/\τ 10=.rw 27) [] (kG 0 [aP p,aP t,IC n]):=by
 have a:=YQ n p t [];rw[b] at a;have c:List.replicate n ([C.int .i64 0,C.int .i64 0,C.sl []]:List C)=(List.replicate n (Ty.mk 0 0 [])).map aD:=by rw[abV];rfl
 refine ah (fun h=>vv h (by omega)) (fun _=>?_);refine callO [9,8,19] [9,8,19] a rfl rfl rfl rfl rfl fun _ _=>?_;refine oQ.mk (by omega) (aa7 _) (by omega) (by simp only[maxLen];omega) ?_;exact⟨vz (fun q=>[(8,TO.box 94 [.mpr 19]),(9,.box 64 [.fn 55 [] [.own 9 0,.pt [IC n] 0,.own 8 0]]),(19,.map (j6 aP m)),(27,.row 33 3 q)]) c,rfl,rfl⟩
def Tl:Ty:=.mk 0 0 []
def lF (n:Nat) (m:TM):List Ty:=(List.range n).map fun(i:Nat)=>(br m (i:Int)).getD Tl
theorem HL {F:aA}:∀{m:TM}{cs:List Value}{j:Nat}{e:Value},gb F (j6 aP m) cs->cs[j]?=some e->∃k t v,m[j]?=some (k,t)/\e=.agg #[.int .i64 k,v]/\Rel F [] (aP t) v/\(Lit.int .i64 k).wf=true
 | [],cs,j,e,h,a=>by
  simp only[j6,abJ,gb] at h;subst h;simp at a
 | (k,t)::m,cs,j,e,h,a=>by
  simp only[j6,aaZ,gb] at h;obtain⟨kv,v,b,rfl,h1,h2,h3⟩:=h;rw[Rel] at h1;obtain⟨rfl,c⟩:=h1;cases j with
  | zero =>
   rw[aa4] at a;injection a with a
   exact⟨k,t,v,rfl,a.symm,h2,c⟩
  | succ j =>
   rw[abe] at a;exact HL (m:=m) h3 a
theorem EA {F:aA}:∀{m:TM}{cs:List Value},gb F (j6 aP m) cs->cs.length=m.length
 | [],cs,h=>by simp only[j6,abJ,gb] at h;subst h;rfl
 | (k,t)::m,cs,h=>by
  simp only[j6,aaZ,gb] at h;obtain⟨kv,v,a,rfl,h1,h2,h3⟩:=h;rw[aa8,aa8,EA (m:=m) h3]
theorem zy {F:aA}{m:TM}{cs:List Value}(h:gb F (j6 aP m) cs):lK cs=true:=by
 cases m with
 | nil=>simp only[j6,abJ,gb] at h;subst h;rfl
 | cons p m =>
  simp only[j6,aaZ,gb] at h;obtain⟨kv,v,a,rfl,_⟩:=h;rfl
abbrev RL (d a c:Nat) (cs:List Value) (v:Value) (n:Nat) (b:List Nat) (xs:List Value):Loc :=
 [(8,.box d 94 [.map (some a)]),(19,.box a 0 cs),(27,.row v 33 3 n xs),(29,.box c 0 (.tuple #[.map (some a),.int .i64 cs.length]::b.map fun(j:Nat)=>.int .i64 (j:Int)))]
def CO (n:Nat) (m:TM) (a:List Nat) (out:List Ty):Prop :=
 out.length=n/\a.Nodup/\(∀j∈a,j<m.length)/\∀i<n,out[i]?=some (if∃j∈a,(m[j]?).map (·.1)=some (i:Int) then(br m i).getD Tl else Tl)
theorem zA:∀(N:Nat) (l:List Nat),l.Nodup->(∀x∈l,x<N)->l.length<=N
 | 0,l,_,h=>by
  cases l with
  | nil=>exact aa2 _
  | cons x l=>exact vv (h x (by simp)) (abv _)
 | N+1,l,c,h=>by
  by_cases d:N∈l
  ·have h1:=zA N (l.erase N) (c.erase N) fun x a=>by
    have b:=(c.mem_erase_iff).1 a;have:=h x b.2;omega
   rw[List.length_erase_of_mem d] at h1;omega
  ·have:=zA N l c fun x a=>by
    have h1:=h x a;have:x≠N:=fun e=>d (e▸a);omega
   omega
theorem EB (a:List Nat):(a.map fun(j:Nat)=>Value.int .i64 (j:Int)).map i9=a:=by
 rw[abT];exact(abX fun j _=>(by show(j:Int).toNat=j;omega)).trans (List.map_id _)
theorem CO.all {n:Nat}{m:TM}{a:List Nat}{out:List Ty}(h:CO n m a out) (f:jg n m) (e:∀j<m.length,j∈a):out=lF n m:=by
 obtain⟨h1,h2,h3,h4⟩:=h;refine uq h1 (by simp[lF]) fun i hi=>?_;rw[h4 i hi,lF,aa6,List.getElem?_range hi];simp only[abt,aaO];split
 ·rfl
 ·rename_i b;cases d:br m (i:Int) with
  | none=>rfl
  | some x =>
   obtain⟨j,c,he⟩:=List.mem_iff_getElem.1 (Ey d);exact vv ⟨j,e j c,by rw[aaQ c,he];rfl⟩ b
theorem CO.next {n:Nat}{m:TM}{c:List Nat}{out:List Ty}{j:Nat}{k:Int}{t:Ty}(h:CO n m c out) (u:jg n m) (s:m[j]?=some (k,t)) (v:j∉c):CO n m (c++[j]) (out.set k.toNat t):=by
 obtain⟨h1,h2,h3,h4⟩:=h;have o:=aaU s;have y:=u.1 _ o;have w:=Qe u.2 o;refine⟨by rw[abG];exact h1,List.nodup_append.2 ⟨h2,by simp,fun a x b hb=>by rw[abK.1 hb];exact fun e=>v (e▸x)⟩,fun i hi=>?_,fun i hi=>?_⟩
 ·rcases aaV.1 hi with hi | hi
  ·exact h3 i hi
  ·rw[abK.1 hi];exact(aaT.1 s).1
 ·rw[List.getElem?_set]
  by_cases e:k.toNat=i
  ·have r:k=(i:Int):=by omega
   rw[fo e,fo (by omega),fo ⟨j,by simp,by rw[s,r];rfl⟩,<-r,w];rfl
  ·rw[o5 e,h4 i hi];have p:(∃l∈c++[j],(m[l]?).map (·.1)=some (i:Int))↔∃l∈c,(m[l]?).map (·.1)=some (i:Int):=by
    refine⟨fun⟨l,d,f⟩=>?_,fun⟨l,d,f⟩=>⟨l,List.mem_append_left _ d,f⟩⟩;rcases aaV.1 d with d | d
    ·exact⟨l,d,f⟩
    ·rw[abK.1 d,s] at f;injection f with f
     exact vv (by have:k=(i:Int):=f;omega) e
   by_cases f:∃l∈c,(m[l]?).map (·.1)=some (i:Int)
   ·rw[fo f,fo (p.2 f)]
   ·rw[o5 f,o5 (fun q=>f (p.1 q))]
theorem Tm (F:aA) (g8 f:Nat) (cs:List Value) (v:Value) (n:Nat) (m:TM) (xs:List Value) (jk:Nat->Value) (ad:Option Addr) (c:Nat) (hv:v=.slice ad n c) (hm:gb F (j6 aP m) cs) (hk:jg n m) (hx:aQ F 3 ((List.replicate n Tl).map aD) xs) (ac:0<n->ad≠none)
  (N:dI) (hN:∀F' gi a ab ρ',F.le F'->aQ F' 3 ((lF n m).map aD) ab->ρ' 10=.v v->N F' (RL g8 f gi cs v n a ab) ρ') :
  jz P y7 (fun _ _ _ _=>False) (fun _ _ _=>False) N F [(8,.box g8 94 [.map (some f)]),(19,.box f 0 cs),(27,.row v 33 3 n xs)] (Fr.put (some 8) (.own 8 0) (Fr.put (some 10) (.v v) fun j=>.v (jk j))):=by
 refine C8.mk ⟨19,cs,rfl,zy hm,?_⟩;intro gi;refine JQ.mk ⟨List Nat×List Value,([],xs),fun x F'=>F.le F'/\∃out,aQ F' 3 (out.map aD) x.2/\CO n m x.1 out,[],fun _=>[],fun x=>RL g8 f gi cs v n x.1 x.2,fun x=>m.length-x.1.length,?_,trivial,?_,fun x=>?_,?_⟩
 ·refine⟨aA.le_refl F,List.replicate n Tl,hx,abo,List.nodup_nil,(fun j h=>by cases h),fun i hi=>?_⟩;rw[o5 (fun⟨j,hj,_⟩=>by cases hj),ab2,fo hi]
 ·exact⟨.inl rfl,.inl rfl,.inl rfl,.inl rfl,trivial⟩
 ·exact⟨⟨_,rfl⟩,⟨_,rfl⟩,⟨_,rfl⟩,trivial⟩
 rintro⟨a,xs⟩ F' cb bs ⟨b,out,hr,d,y,z,s⟩;refine JN.mk ⟨19,cs,rfl,zy hm,rfl,fun j en hj q=>?_,fun al=>?_⟩
 ·obtain⟨k,t,v',e1,rfl,e3,e4⟩:=HL hm hj;have ag:=hk.1 _ (aaU e1);simp only[aB,Rel] at e3;obtain⟨w3,rfl,w1,_,rfl,⟨rfl,bc⟩,w2,_,rfl,⟨rfl,bi⟩,w3,_,rfl,⟨a3,c3,rfl,aE,be,ba,w⟩,rfl⟩:=e3;rw[EB] at q;refine Gz.mk ⟨19,cs,j,_,rfl,zy hm,rfl,List.getLast?_concat,hj,?_⟩;intro bo;subst hv;have an:0<n:=by omega
  obtain⟨a0,ao⟩:=Option.ne_none_iff_exists'.1 (ac an);have bd:xs.length=n*3:=by
   have:=iJ hr
   rwa [xo,d] at this
  refine JM.mk (ac an) ag.1 ag.2 ?_;refine qW.mk ⟨27,_,_,_,_,_,a0,c,rfl,ao,by rw[ao],?_,?_,?_⟩
  ·show k.toNat*3+0+3<=xs.length;rw[bd];omega
  ·intro u r;rcases aaX.1 r with rfl | r
   ·rfl
   rcases aaX.1 r with rfl | r
   ·rfl
   rcases aaX.1 r with rfl | r
   ·rfl
   cases r
  ·refine⟨(a++[j],bV xs (k.toNat*3+0) [.int .i64 t.kind,.int .i64 t.id,.slice a3 (t.args.map aD).length c3]),⟨b,out.set k.toNat t,?_,CO.next ⟨d,y,z,s⟩ hk e1 q⟩,trivial,⟨.inl rfl,.inl rfl,.inl rfl,.inl ?_,trivial⟩,?_⟩
   ·obtain⟨o,ho⟩:=fK (l:=out) (k:=k.toNat) (by omega);have p:=hr.set (j:=k.toNat) (es:=aD o) (ds:=[IC t.kind,IC t.id,.sl (t.args.map aD)]) (us:=[.int .i64 t.kind,.int .i64 t.id,.slice a3 (t.args.map aD).length c3]) (off:=0) (by rw[aa6,ho];rfl) (by simp) (by
     simp only[aB,Rel];refine⟨_,_,rfl,⟨rfl,bc⟩,_,_,rfl,⟨rfl,bi⟩,_,_,rfl,⟨a3,c3,rfl,aE,be,ba,?_⟩,rfl⟩;obtain⟨sz,w⟩:=w;exact⟨sz,gP.mono b w⟩) rfl
    have e:jr (aD o) 0 [IC t.kind,IC t.id,.sl (t.args.map aD)]=aD t:=by
     rw[iM o,iM t];rfl
    rw[e,<-List.map_set] at p;exact p
   ·rw[abx];rfl
   ·show m.length-(a++[j]).length<m.length-a.length;have h1:=(aaT.1 e1).1;have ae:=CO.next ⟨d,y,z,s⟩ hk e1 q;have h2:(a++[j]).length<=m.length:=zA _ _ ae.2.1 ae.2.2.1;rw[abA] at h2 ⊢;simp only[aa8,abO] at h2 ⊢;omega
 ·have ha:∀j<m.length,j∈a:=fun j hj=>by
   have:=al j (by rw[EA hm];exact hj)
   rwa [EB] at this
  have e:=CO.all ⟨d,y,z,s⟩ hk ha;rw[e] at hr;exact hN F' gi a xs _ b hr rfl
def MQ (b:Nat) (G:Nat->Option (Nat×TypeId)) (F0:aA) (Li:List Own) (w0:World) (K:TK) (a:Act) (w:World):Prop :=
 ∃F L ρ M τ,St F L w/\aC L ρ a/\TS G F L ρ M τ/\a.tmps.size=b/\Step F0 (inp Li) w0 F L w/\K M τ
section
variable {G:Nat->Option (Nat×TypeId)}{F0:aA}{Li:List Own}{w0:World}
theorem MQ.seq {A:cI}{c b:Code}{p sc2:au}(z:low Tryz.prog A c=some p) (o:gA p=[]) {N K:TK}{a:Act}{w:World}(h:MQ A.n G F0 Li w0 K a w)
  (hK:∀M τ,K M τ->evalTC P ⟨fun _=>False,[],none⟩ (.seq p sc2) (fun _ _ _=>False) (fun _ _=>False) N M τ) {Q:Exit->Act->World->Prop}
  (hN:∀a' w',a'.defers=a.defers->MQ A.n G F0 Li w0 (fun M τ=>evalTC P ⟨fun _=>False,[],none⟩ sc2 (fun _ _ _=>False) (fun _ _=>False) N M τ) a' w'->b.wp P Q a' w'):(c.seq b).wp P Q a w:=by
 obtain⟨F,L,ρ,M,τ,u,g2,g3,x,g5,m⟩:=h;refine wp_seq (wp_mono (fR c z (fun k m=>by rw[o] at m;cases m) u g2 g3 x (hK M τ m)) ?_);intro e a' w' f;cases e with
 | normal =>
  obtain⟨F',L',ρ',k1,q,r,s,t,k6,M',d,k7,k8⟩:=f;exact hN a' w' s ⟨F',L',ρ',M',d,k1,q,k7,r,g5.trans t,k8⟩
 | exit j=>obtain⟨F',L',ρ',_,_,_,_,_,_,M',d,_,h⟩:=f;exact h.elim
 | ret=>obtain⟨F',L',ρ',_,_,_,_,_,_,M',d,_,h⟩:=f;exact h.elim
 | goto l=>exact f.elim
 | panic ch=>obtain⟨v,ab,F',L',k1,q,r,s,t,kp,y,_⟩:=f;exact y.elim
 | outgrown=>exact f.elim
theorem MQ.one {A:cI}{c b:Code}{e:au}(f:low Tryz.prog A c=some e) (d:gA e=[]) {N K:TK}{a:Act}{w:World}(h:MQ A.n G F0 Li w0 K a w)
  (k:∀M τ,K M τ->evalTC P ⟨fun _=>False,[],none⟩ e (fun _ _ _=>False) (fun _ _=>False) N M τ) {Q:Exit->Act->World->Prop}
  (l:∀a' w',a'.defers=a.defers->MQ A.n G F0 Li w0 N a' w'->b.wp P Q a' w'):(c.seq b).wp P Q a w :=
 MQ.seq (sc2:=.skip) f d h (fun M τ q=>k M τ q) fun a' w' hd j=>l a' w' hd j
theorem Step.cut {F F':aA}{L L' L2:Loc}{w w':World}(h:Step F L w F' L' w') (a:L'.part L2):Step F L w F' L2 w' :=
 ⟨h.le,h.os,h.tape,h.output,h.size,h.same,h.frz,fun b ⟨k,o,e,hb⟩=>h.own b ⟨k,o,a k o e,hb⟩⟩
theorem HM {L L2:Loc}(h:∀p∈L2,L.get p.1=some p.2):L.part L2:=by
 intro k o e
 induction L2 with
 | nil=>cases e
 | cons p L2 a =>
  obtain⟨j,q⟩:=p;simp only[Loc.get] at e;cases hb:Nat.beq j k with
  | true =>
   rw[hb] at e;injection e with e
   have:=h (j,q) (by simp);rw[<-e,<-aaR hb];exact this
  | false =>
   rw[hb] at e;exact a (fun p b=>h p (by simp[b])) e
theorem Vr (hG:∀k,G k=none) {n:Nat}{m:TM}{K:TK}{a:Act}{w:World}(hk:jg n m) (h:MQ 40 G F0 Li w0 K a w) (hK:∀M τ,K M τ->M=ML n m (List.replicate n (.mk 0 0 []))/\τ 8=.own 8 0/\τ 10=.rw 27) {Q:Exit->Act->World->Prop}
  (hN:∀a' w',a'.defers=a.defers->MQ 40 G F0 Li w0 (fun M τ=>M=[(27,.row 33 3 ((lF n m).map aD))]/\τ=bq (some 10) (.rw 27) fun _=>.any) a' w'->Q .normal a' w'):m7.wp P Q a w:=by
 obtain⟨F,L,ρ,M,τ,g1,g2,g3,g4,g5,bs⟩:=h;obtain⟨rfl,h8,h10⟩:=hK M τ bs;have q8:=g3.tl 8;have o:=g3.tl 19;have r:=g3.tl 27;have q8:Ac F L (some (.box 94 [.mpr 19])) (L.get 8):=q8;have o:Ac F L (some (.map (j6 aP m))) (L.get 19):=o;have r:Ac F L (some (.row 33 3 ((List.replicate n (Ty.mk 0 0 [])).map aD))) (L.get 27):=r;have s8:=g3.env 8;have bb:=g3.env 10;rw[h8] at s8;rw[h10] at bb;cases e8:L.get 8 with
 | none=>rw[e8] at q8;exact q8.elim
 | some o8 =>
 cases ac:L.get 19 with
 | none=>rw[ac] at o;exact o.elim
 | some bt =>
 cases ae:L.get 27 with
 | none=>rw[ae] at r;exact r.elim
 | some cc =>
 rw[e8] at q8;rw[ac] at o;rw[ae] at r;cases o8 with
 | row=>exact q8.elim
 | box g8 t8 c8 =>
 cases bt with
 | row=>exact o.elim
 | box s Zc cs =>
 cases cc with
 | box=>exact r.elim
 | row v XP da c xs =>
 obtain⟨ca,az⟩:=q8;obtain⟨rfl,hE⟩:=o;obtain⟨rfl,rfl,ab,⟨bu,av,cv,hv,ar⟩,bc⟩:=r;have ab:c=n:=by rw[ab,xo,abo]
 subst ab;simp only[aB,Rel] at az;obtain⟨w0,_,rfl,⟨gm,cm,x,rfl⟩,rfl⟩:=az;rw[ac] at x;injection x with x
 injection x with i1 _ i2
 subst i1 i2;have bp:t8=94:=by
  rcases ca.2.1 with q | q
  ·exact q.symm
  ·have q':(94:Nat)=(g8+1)*1048576+(t8:Nat):=q;omega
 subst bp;have bl:ρ 8=.own 8 0:=s8.1;have am:ρ 10=.v v:=by
  obtain⟨u,q1,q2⟩:=bb;rw[q1];rw[Rel] at q2;obtain⟨_,_,_,_,_,_,_,q3⟩:=q2;rw[ae] at q3;injection q3 with q3
  injection q3 with q3
  rw[q3]
 have aa:L.part [(8,.box g8 94 [.map (some s)]),(19,.box s 0 cs),(27,.row v 33 3 c xs)]:=HM fun p z=>by
  rcases aaX.1 z with rfl | z
  ·exact e8
  rcases aaX.1 z with rfl | z
  ·exact ac
  rcases aaX.1 z with rfl | z
  ·exact ae
  cases z
 have bz:=g1.part aa;have a8:a.tmps.getD 8 undef=.pointer (some ⟨g8,0,none⟩):=by rw[g2.eq 8,bl];simp only[conc,e8]
 have bv:a.tmps.getD 10 undef=v:=by rw[g2.eq 10,am];rfl
 have bj:aC [(8,.box g8 94 [.map (some s)]),(19,.box s 0 cs),(27,.row v 33 3 c xs)] (Fr.put (some 8) (.own 8 0) (Fr.put (some 10) (.v v) fun j=>.v (a.tmps.getD j undef))) a:=by
  refine⟨fun t=>?_,fun t k off e=>?_,fun t ad j e=>?_⟩
  ·by_cases h1:t=8
   ·subst h1;exact a8
   by_cases h2:t=10
   ·subst h2;exact bv
   have b1:Nat.beq t 8=false:=lZ h1;have b2:Nat.beq t 10=false:=lZ h2;simp only[Fr.put,b1,b2,conc]
  ·by_cases h1:t=8
   ·subst h1;have e:SV.own 8 0=SV.own k off:=e;injection e with e1 e2
    subst e1;exact⟨_,_,_,rfl⟩
   ·have b1:Nat.beq t 8=false:=lZ h1;simp only[Fr.put,b1] at e;split at e<;>cases e
  ·by_cases h1:t=8
   ·subst h1;cases e
   ·have b1:Nat.beq t 8=false:=lZ h1;simp only[Fr.put,b1] at e;split at e<;>cases e
 refine wp_mono (qH m7 Vq bz bj g4 (Tm F g8 s cs v c m xs _ av cv hv hE hk bc (fun h0 e=>by have:=ar e;omega) (fun F' L' ρ'=>∃gi f d,L'=RL g8 s gi cs v c f d/\aQ F' 3 ((lF c m).map aD) d/\ρ' 10=.v v) (fun F' gi f d ρ' _ hx h10=>⟨gi,f,d,rfl,hx,h10⟩))) ?_;intro e a' w' hq;cases e with
 | normal =>
  obtain⟨F',L',ρ',k1,k2,k3,k4,k5,k6,gi,f,d,rfl,hx,be⟩:=hq;have y:(RL g8 s gi cs v c f d).part [(27,.row v 33 3 c d)]:=HM fun p z=>by
   rcases aaX.1 z with rfl | z
   ·rfl
   cases z
  have ba:c=((lF c m).map aD).length:=by simp[lF]
  have bd:a'.tmps.getD 10 undef=v:=by rw[k2.eq 10,be];rfl
  refine hN a' w' k4 ⟨F',[(27,.row v 33 3 c d)],fun j=>.v (a'.tmps.getD j undef),_,_,k1.part y,⟨fun t=>rfl,(fun t k off e=>by cases e),(fun t ad j e=>by cases e)⟩,⟨fun k=>?_,fun j=>?_,(fun k g t e=>by rw[hG k] at e;cases e),k1.glob⟩,k3,?_,rfl,rfl⟩
  ·by_cases bi:k=27
   ·subst bi;exact⟨rfl,rfl,ba,⟨bu,av,cv,hv,ar⟩,hx⟩
   ·have b:Nat.beq 27 k=false:=lZ fun e=>bi e.symm;simp only[TL.get,Loc.get,b];trivial
  ·by_cases hj:j=10
   ·subst hj;show aL F' _ (.rw 27) (.v (a'.tmps.getD 10 undef));rw[bd,hv];exact lQ (by rw[<-hv];rfl)
   ·have b:Nat.beq j 10=false:=lZ hj;simp only[bq,b];trivial
  ·exact Step.cut ((Step.cut g5 aa).trans k5) y
 | exit j=>obtain⟨F',L',ρ',_,_,_,_,_,_,h⟩:=hq;exact h.elim
 | ret=>obtain⟨F',L',ρ',_,_,_,_,_,_,h⟩:=hq;exact h.elim
 | goto l=>exact hq.elim
 | panic ch=>obtain⟨v,cw,F',L',_,_,_,_,_,z⟩:=hq;exact z.elim
 | outgrown=>exact hq.elim
end
theorem Vs:low Tryz.prog JG (m8.seq .ret)=some (.seq y8 .ret):=by kernel_rfl
theorem mend (n:Nat) (m:TM) (R:List TO->C->Prop) (h:R [] (.tup [.sl ((lF n m).map aD),.bool true])) :
  evalTC P ⟨fun _=>False,[],none⟩ (.seq y8 .ret) (fun _ _ _=>False) (fun L ρ=>gV L ρ [(6,none),(7,none)] fun b=>eS [] L (gU b) R) (fun _ _=>False) [(27,.row 33 3 ((lF n m).map aD))] (bq (some 10) (.rw 27) fun _=>.any):=by
 have a:eS [] [(27,.row 33 3 ((lF n m).map aD))] (.tup [.rw 27,.bool true]) (aR [] (.tup [.sl ((lF n m).map aD),.bool true])):=yT [27] [] ⟨_,[],rfl,rfl,rfl,rfl,rfl⟩;obtain⟨e,ko,a⟩:=a.out;refine eS.mk ⟨e,ko,GW.frzK_imp a ?_⟩;rintro L ρ b ⟨L1,c,f,Mo,h1,h2,h3,h4,h5,h6⟩;exact⟨L1,c,f,Mo,h1,h2,h3,h4,h5,fun d=>by rw[(h6 d).1,(h6 d).2];exact h⟩
theorem Vt (p t:Ty) (n:Nat) (hn:n<=4) (m:TM) (hm:jZ n p t []=(m,true)):CallsT P 35 [aP p,aP t,IC n] [] (aR [] (.tup [.sl ((lF n m).map aD),.bool true])):=by
 have hk:jg n m:=by
  have:=fit_keys n p t [] ⟨by simp,by simp⟩
  rwa [hm] at this
 refine CallsTX.noPan ⟨fun F Li c hl o ha=>⟨⟨Tryz.f35,Tryz.func35,by rw[Ez];rfl,by kernel_rfl⟩,gQ.aap,fun w hs=>?_⟩⟩;have al:Li=[]:=List.length_eq_zero_iff.1 hl;subst al;have aa:Tryz.f35.ntmps=40:=by kernel_rfl
 have ac:c.length=3:=by have:=ha.len;simpa using this
 obtain⟨G0,u,he,y,_⟩:=Mf (40-c.toArray.size) hl o ha hs
 let G:Nat->Option (Nat×TypeId):=fun _=>none
 refine calls_of_wp Tryz.func35 Ez ?_;rw[aa];have M0:MQ JG.n G F [] w (fun M τ=>M=[]/\τ=kG 0 [aP p,aP t,IC n]) {tmps:=c.toArray++Array.replicate (40-c.toArray.size) undef,defers:=[]} w :=
  ⟨F,inp [],u,_,_,hs,he,⟨y.tl,y.env,(fun k g t e=>by cases e),y.glob⟩,by simp[ac,JG],Step.refl _ _ _,rfl,rfl⟩
 generalize an:({tmps:=c.toArray++Array.replicate (40-c.toArray.size) undef,defers:=[]}:Act)=a0 at M0;have ab:a0.defers=[]:=by rw[<-an]
 have f:=XO p t n hn m hm;refine MQ.seq Vj rfl M0 (sc2:=.seq y1 (.seq y2 (.seq y3 (.seq y4 (.seq y5 y6))))) (fun M τ q=>by rw[q.1,q.2];exact f) fun a1 w1 ad M1=>?_;refine MQ.seq Vk rfl M1 (sc2:=.seq y2 (.seq y3 (.seq y4 (.seq y5 y6)))) (fun M τ q=>q) fun a2 w2 s M2=>?_;refine MQ.seq Vl rfl M2 (sc2:=.seq y3 (.seq y4 (.seq y5 y6))) (fun M τ q=>q) fun a3 w3 x M3=>?_;refine MQ.seq Vm rfl M3 (sc2:=.seq y4 (.seq y5 y6)) (fun M τ q=>q) fun a4 w4 r M4=>?_;refine MQ.seq Vn rfl M4 (sc2:=.seq y5 y6) (fun M τ q=>q) fun a5 w5 am M5=>?_;refine MQ.seq Vo rfl M5 (sc2:=y6) (fun M τ q=>q) fun a6 w6 ae M6=>?_;refine MQ.one Vp rfl M6 (fun M τ q=>q) fun a7 w7 b M7=>?_;have b:a7.defers=[]:=by rw[b,ae,am,r,x,s,ad,ab]
 refine wp_seq (Vr (fun _=>rfl) hk M7 (fun M τ q=>q) fun a8 w8 ag M8=>?_);obtain⟨F8,L8,bc,M,τ,g1,g2,g3,g4,g5,rfl,rfl⟩:=M8;show(m8.seq .ret).wp P _ a8 w8;refine wp_mono (fR (m8.seq .ret) Vs (fun k _ z=>vv rfl z) g1 g2 g3 g4 (mend n m (aR [] (.tup [.sl ((lF n m).map aD),.bool true])) ⟨rfl,rfl⟩)) ?_;intro e a' w' d;cases e with
 | normal=>obtain⟨F',L',ρ',_,_,_,_,_,_,M',a,_,h⟩:=d;exact h.elim
 | exit j=>obtain⟨F',L',ρ',_,_,_,_,_,_,M',a,_,h⟩:=d;exact h.elim
 | ret =>
  obtain⟨F',L',ρ',k1,k2,k3,k4,k5,k6,M',a,k7,k8⟩:=d;have hf:=Bl (P:=P) (fn:=Tryz.f35) (rs:=[(6,none),(7,none)]) (n:=40) (asg:=[]) (a0:=a') (a':=a') (w':=w') (Li:=[]) (Lin:=[]) (w:=w) (F:=F) (G:=G) (R:=aR [] (.tup [.sl ((lF n m).map aD),.bool true])) (by kernel_rfl) rfl o (fun k g t cs e=>by cases e)
   ⟨F',L',ρ',k1,k2,k3,rfl,g5.trans k5,fun _ _=>rfl,M',a,k7,k8⟩
  obtain⟨_,v,q2,F2,Lo,q3,q4,q5⟩:=hf;exact⟨by rw[k4,ag,b],v,q2,.inl ⟨v,F2,Lo,rfl,q3,q4,q5⟩⟩
 | goto l=>exact d.elim
 | panic ch=>obtain⟨v,bo,F',L',k1,k2,k3,k4,k5,kp,hp,_⟩:=d;exact hp.elim
 | outgrown=>exact d.elim
theorem CallsT.imp {P:Program}{f:Nat}{args:List C}{Lin:List TO}{R R':List TO->C->Prop}(h:CallsT P f args Lin R) (d:∀Mo c,R Mo c->R' Mo c):CallsT P f args Lin R' :=
 CallsTX.noPan (CallsTX.imp (Pp:=fun _=>False) h.toX d fun v q=>q)
mutual
def cnt:Ty->Nat
 | .mk _ _ l=>vL l+1
def vL:List Ty->Nat
 | []=>0
 | t::l=>cnt t+vL l
end
theorem Gk (t:Ty):cnt t=vL t.args+1:=by cases t;rfl
theorem HN:∀(l:List Ty) (m n:Int),0<=m->n<=ni l m n
 | [],m,n,_=>by rw[ni];exact aa7 _
 | x::l,m,n,h0=>by
  rw[ni];split
  ·rename_i h;have:=(F5 x (m-n) (by omega)).1;have:=HN l m (n+few x (m-n)) h0;omega
  ·exact aa7 _
mutual
theorem HO:∀(t:Ty) (m:Int),0<=m->few t m<=m->(cnt t:Int)=few t m
 | .mk _ _ l,m,h0,h=>by
  rw[few] at h ⊢;rw[cnt,<-EC l m 1 h0 h];omega
theorem EC:∀(l:List Ty) (m n:Int),0<=m->ni l m n<=m->n+(vL l:Int)=ni l m n
 | [],m,n,_,_=>by rw[ni,vL];omega
 | x::l,m,n,h0,h=>by
  rw[ni] at h ⊢;split at h
  ·rename_i hn;rw[fo hn];have hge:=HN l m (n+few x (m-n)) h0;have h1:=HO x (m-n) (by omega) (by omega);have h2:=EC l m (n+few x (m-n)) h0 h;rw[vL];omega
  ·omega
end
theorem CP:∀{l:List Ty}{x:Ty},x∈l->cnt x<=vL l
 | t::l,x,h=>by
  rw[vL];rcases aaX.1 h with rfl | h
  ·omega
  ·have:=CP h;omega
theorem ED:∀l:List Ty,l.length<=vL l
 | []=>aa2 _
 | t::l=>by have:=ED l;have:=Gk t;rw[vL,aa8];omega
theorem CQ:∀t:Ty,cnt t<=2 ^ 30->iA t:=cV fun t d h=>by
 rw[Gk] at h;rw[fu];exact⟨by have:=ED t.args;omega,fun x c=>d x c (by have:=CP c;omega)⟩
theorem Qf:∀t:Ty,bW t<=cnt t:=cV fun t d=>by
 rw[Gk,cQ];have:cG t.args<=vL t.args:=xB fun x c=>abw (d x c) (CP c);omega
theorem BH {l:List Ty}(h:jx l=true):l.length<=8/\∀x∈l,iA x/\bW x<=30:=by
 unfold jx at h;rw[aaN,aa1,aa0] at h;refine⟨by omega,fun x c=>?_⟩;have h1:=abu (h.1 x c);have h2:=HO x 30 (by omega) h1;exact⟨CQ x (by omega),by have:=Qf x;omega⟩
theorem Vu (p t:Ty) (n:Nat) (f:n<=4) (m:TM) (d:jZ n p t []=(m,false)):CallsT P 35 [aP p,aP t,IC n] [] (aR [] (.tup [.sl [],.bool false])):=by
 have c:=YQ n p t [];rw[d] at c;refine af Tryz.func35 G6 rfl fun e _=>?_;refine ah (fun h=>vv h (by omega)) (fun _=>?_);refine callO [9,8,19] [9,8,19] c rfl rfl rfl rfl rfl fun _ _=>?_;exact ay rfl rfl
def zB (n:Nat) (p t:Ty):List Ty×Bool:=if(jZ n p t []).2 then(lF n (jZ n p t []).1,true) else([],false)
theorem t35 (p t:Ty) (n:Nat) (c:n<=4):CallsT P 35 [aP p,aP t,IC n] [] (aR [] (.tup [.sl ((zB n p t).1.map aD),.bool (zB n p t).2])):=by
 unfold zB;cases h:jZ n p t [] with
 | mk m b =>
  cases b with
  | true=>exact Vt p t n c m h
  | false=>exact Vu p t n c m h
theorem RA.no {n:Nat}{s:List Ty}{a b:Ty}{e:Int}(h1:∃d o,bK s n=some (some (d,o))) (c:nP s a b=true) (h2:kT n s a b=some none) (h:RA n s a b e):e=8:=by
 obtain⟨d,o,h1⟩:=h1;rcases h with⟨q,_⟩ | ⟨_,⟨q,_⟩ | ⟨_,⟨_,q⟩ | ⟨s',q,_⟩⟩⟩
 ·rw[h1] at q;cases q
 ·rw[c] at q;cases q
 ·exact q
 ·rw[h2] at q;cases q
theorem HT:∀(n:Nat) (s:List Ty) (a b:Ty) (s':List Ty),(∀x∈s,iA x)->iA a->iA b->kT n s a b=some (some s')->∀x∈s',iA x:=by
 intro n
 induction n with
 | zero=>intro s a b s' _ _ _ h;cases h
 | succ n v =>
  intro s a b s' hs ha hb h;have j:∀{t r:Ty},aO s n t=some r->iA t->iA r:=fun hf ht=>rI (p:=iA) (fun t x _ _ he _=>hs x (oI he)) hf ht;have c:∀{i:Nat}{b:Ty},iA b->∀x∈s.set i b,iA x:=fun hb x e=>by
   rcases ab7 e with e | rfl
   ·exact hs x e
   ·exact hb
  cases fa:aO s n a with
  | none=>rw[kT,fa] at h;cases h
  | some a' =>
  cases fb:aO s n b with
  | none=>rw[kT,fa,fb] at h;cases h
  | some m =>
  rw[lJ fa fb] at h;have k:=j fa ha;have f:=j fb hb;split at h
  ·split at h
   ·injection h with h;injection h with h;exact h▸hs
   ·injection h with h;injection h with h;rw[<-h]
    exact c ((fu _).2 ⟨abd _,fun x h=>by cases h⟩)
  ·split at h
   ·cases w:jI s a'.id n m with
    | none=>rw[w] at h;cases h
    | some o =>
     rw[w] at h;cases o with
     | true=>cases h
     | false=>injection h with h;injection h with h;rw[<-h];exact c f
   ·split at h
    ·exact v s m a' s' hs f k h
    ·split at h
     ·cases h
     ·have hL:∀(l d:List Ty) (s:List Ty),(∀x∈l,iA x)->(∀x∈d,iA x)->(∀x∈s,iA x)->jJ (kT n) s l d=some (some s')->∀x∈s',iA x:=by
       intro l
       induction l with
       | nil=>intro d s _ _ hs h;rw[jJ] at h;injection h with h;injection h with h;exact h▸hs
       | cons x l q =>
        intro d s h1 h2 hs h;cases d with
        | nil=>cases h
        | cons y d =>
         rw[jJ] at h;cases e:kT n s x y with
         | none=>rw[e] at h;cases h
         | some r =>
          rw[e] at h;cases r with
          | none=>cases h
          | some s1=>exact q d s1 (fun z u=>h1 z (by simp[u])) (fun z u=>h2 z (by simp[u])) (v s x y s1 hs (h1 x (by simp)) (h2 y (by simp)) e) h
      exact hL a'.args m.args s ((fu a').1 k).2 ((fu m).1 f).2 hs h
theorem Gl {s:List Ty}{a b:Ty}(hl:s.length<=2 ^ 30) (hs:∀x∈s,iA x) (ha:iA a) (hb:iA b) (hda:bW a<=2 ^ 40) (hdb:bW b<=2 ^ 40):∃n,CallsT P 42 [.sl (s.map aD),aP a,aP b] [] (RN n s a b)/\(∀s',LY n s a b s'->Fe s s')/\∃r,bK s n=some r:=by
 obtain⟨n,F,d,c⟩:=RD s a b;refine⟨n,unify n s a b hl F hda hdb fun s' h=>⟨by rw[(c s' h).len];exact hl,?_,d s' h⟩,c,F.form⟩;exact HT n s a b s' hs ha hb h.2.2.1
theorem iX {s:List Ty}{n m:Nat}{r q:Option (DM×OM)}(h:bK s n=some r) (k:bK s m=some q):r=q:=by
 have h1:=kL (Nat.le_max_left n m) h;have h2:=kL (Nat.le_max_right n m) k;rw[h1] at h2;exact abB h2
theorem kU {s:List Ty}{a b:Ty}{n m:Nat}{r q:Option (List Ty)}(h:kT n s a b=some r) (k:kT m s a b=some q):r=q:=by
 have h1:=iy (Nat.le_max_left n m) h;have h2:=iy (Nat.le_max_right n m) k;rw[h1] at h2;exact abB h2
theorem uJ {s:List Ty}{t:Ty}{d:DM}{o:OM}{n m:Nat}{r q:Option (Int×DM×OM)}(h:bH s n t d o=some r) (k:bH s m t d o=some q):r=q:=by
 have h1:=gY (Nat.le_max_left n m) h;have h2:=gY (Nat.le_max_right n m) k;rw[h1] at h2;exact abB h2
theorem Ju {s:List Ty}{n m:Nat}{r q:List Ty}(h:j3 s n=some r) (k:j3 s m=some q):r=q:=by
 have h1:=sV (Nat.le_max_left n m) h;have h2:=sV (Nat.le_max_right n m) k;rw[h1] at h2;exact abB h2
section
variable {s:List Ty}{a b:Ty}(hl:s.length<=2 ^ 30) (hs:∀x∈s,iA x) (ha:iA a) (hb:iA b) (hda:bW a<=2 ^ 40) (hdb:bW b<=2 ^ 40)
include hl hs ha hb hda hdb
theorem Mg {m:Nat}(h1:∃d o,bK s m=some (some (d,o))) (j:nP s a b=true) (h2:kT m s a b=some none):CallsT P 42 [.sl (s.map aD),aP a,aP b] [] (aR [] (.tup [.sl [],IC 8])):=by
 obtain⟨n,h,l,r,k⟩:=Gl hl hs ha hb hda hdb;obtain⟨d,o,h1⟩:=h1;refine CallsT.imp h ?_;rintro Mo c ⟨rfl,r,e,f,rfl⟩;rcases f with⟨s',g,_⟩ | ⟨g,rfl⟩
 ·have:=kU h2 g.2.2.1;cases this
 ·rcases g with⟨q,_⟩ | ⟨_,⟨q,_⟩ | ⟨_,⟨_,q⟩ | ⟨s',q,_⟩⟩⟩
  ·have:=iX h1 q;cases this
  ·rw[j] at q;cases q
  ·subst q;exact⟨rfl,rfl⟩
  ·have:=kU h2 q;cases this
theorem EF {m:Nat}(s' r:List Ty) (d:DM) (o:OM) (k:Int) (h1:∃d o,bK s m=some (some (d,o))) (y:nP s a b=true) (h2:kT m s a b=some (some s')) (h3:bK s' m=some (some (d,o))) (h4:∃v o',bH s' m a d o=some (some (k,v,o'))) (hk:k<=8) (h5:j3 s' m=some r) :
  CallsT P 42 [.sl (s.map aD),aP a,aP b] [] (aR [] (.tup [.sl (r.map aD),IC 0])):=by
 obtain⟨n,h,hx,r',hr⟩:=Gl hl hs ha hb hda hdb;obtain⟨d1,o1,h1⟩:=h1;obtain⟨d2,o2,h4⟩:=h4;refine CallsT.imp h ?_;rintro Mo c ⟨rfl,ab,e,w,rfl⟩;rcases w with⟨u,g,hc,rfl⟩ | ⟨g,rfl⟩
 ·have f:=kU h2 g.2.2.1;injection f with f
  subst f;rw[Ju hc h5];exact⟨rfl,rfl⟩
 ·rcases g with⟨q,_⟩ | ⟨_,⟨q,_⟩ | ⟨_,⟨q,_⟩ | ⟨u,q,_,l⟩⟩⟩
  ·have:=iX h1 q;cases this
  ·rw[y] at q;cases q
  ·have:=kU h2 q;cases this
  ·have f:=kU h2 q;injection f with f
   subst f;rcases l with l | ⟨v,o',l,j⟩
   ·have:=iX h3 l;cases this
   ·have p:=iX h3 l;injection p with p
    injection p with p e3
    subst p e3;rcases j with j | ⟨k',z,ac,j,q4⟩
    ·have:=uJ h4 j;cases this
    ·have t:=uJ h4 j;injection t with t
     injection t with t
     omega
end
def zT:Ty:=.mk 0 0 []
def iT:Ty:=.mk 1 0 []
def bx (t:Ty):Ty:=.mk 3 0 [t]
def two:List Ty:=[zT,zT]
theorem dH {t:Ty}(h:decide (cnt t<=100)=true):iA t:=CQ t (by have:=abu h;omega)
theorem gW {t:Ty}(h:decide (bW t<=100)=true):bW t<=2 ^ 40:=by have:=abu h;omega
theorem Mi:∀x∈two,iA x:=fun x a=>by
 rcases aaX.1 a with rfl | a
 ·exact dH rfl
 ·rw[abK.1 a];exact dH rfl
theorem Mj:∃d o,bK two 10=some (some (d,o)):=⟨_,_,rfl⟩
theorem u1:CallsT P 42 [.sl (two.map aD),aP (bx (vr 0)),aP (bx iT)] [] (aR [] (.tup [.sl ([iT,zT].map aD),IC 0])) :=
 EF (by decide) Mi (dH rfl) (dH rfl) (gW rfl) (gW rfl) (m:=10) [iT,zT] [iT,zT] [(0,1)] [(0,true)] 2 Mj rfl rfl rfl ⟨_,_,rfl⟩ (by decide) rfl
theorem u2:CallsT P 42 [.sl (two.map aD),aP (vr 0),aP (vr 1)] [] (aR [] (.tup [.sl ([zT,vr 0].map aD),IC 0])) :=
 EF (by decide) Mi (dH rfl) (dH rfl) (gW rfl) (gW rfl) (m:=10) [zT,vr 0] [zT,vr 0] [(1,1)] [(1,true)] 1 Mj rfl rfl rfl ⟨_,_,rfl⟩ (by decide) rfl
theorem u3:CallsT P 42 [.sl (two.map aD),aP (bx (vr 0)),aP (.mk 4 0 [vr 0])] [] (aR [] (.tup [.sl [],IC 8])) :=
 Mg (by decide) Mi (dH rfl) (dH rfl) (gW rfl) (gW rfl) (m:=10) Mj rfl rfl
section
variable {L:TL}{ρ:aG}
end
theorem UR.no {n m:Nat}{s:List Ty}{a b:Ty}{r:List Ty}{e:Int}(c:UR n s a b r e) (h1:∃d o,bK s m=some (some (d,o))) (f:nP s a b=true) (h2:kT m s a b=some none):e=8:=by
 obtain⟨d,o,h1⟩:=h1;rcases c with⟨s',g,_⟩ | ⟨g,rfl⟩
 ·have:=kU h2 g.2.2.1;cases this
 ·rcases g with⟨q,_⟩ | ⟨_,⟨q,_⟩ | ⟨_,⟨_,q⟩ | ⟨s',q,_⟩⟩⟩
  ·have:=iX h1 q;cases this
  ·rw[f] at q;cases q
  ·exact q
  ·have:=kU h2 q;cases this
def zeros (m:Nat):List Ty:=List.replicate m (.mk 0 0 [])
theorem Gm {m:Nat}{t x:Ty}(h:bO (zeros m) t=some x):x=.mk 0 0 []:=by
 have:=oI h;exact(abQ.1 this).2
theorem Gn (m n i:Nat) (hi:i<m):bH (zeros m) (n+1) (vr i) [] []=some (some (1,[],[])):=by
 have he:∃x,bO (zeros m) (vr i)=some x/\x∈zeros m:=qO (mW (show i<(zeros m).length by rw[zeros,abo];exact hi)) rfl;obtain⟨x,he,_⟩:=he;have a:=Gm he;subst a;rw[BB (x:=.mk 0 0 []) (by rw[fo (show(vr i).kind=9 from rfl)];exact he) rfl];rfl
theorem wz (m n:Nat):∀i,i<=m->dJ (zeros m) (n+1) i=some (some (false,[],[]))
 | 0,_=>rfl
 | i+1,hi=>by
  rw[dJ,wz m n i (by omega)];simp only;rw[Gn m n i (by omega)];rfl
theorem zC (m n:Nat):∃d o,bK (zeros m) (n+1)=some (some (d,o)):=by
 have a:(zeros m).length=m:=by rw[zeros,abo]
 refine⟨[],[],?_⟩;unfold bK;rw[fo,a,wz m n m (aa2 _)]
 ·rfl
 ·rw[aa1];intro x b;rw[(abQ.1 b).2];rfl
theorem Gp (m:Nat):Good (zeros m):=(zC m 0).elim fun d h=>h.elim fun o h=>mY h
theorem BI {b:Bool}{A B:Prop}(h:b=true->A) (k:b=false->B):zW b A B:=by cases b;exact k rfl;exact h rfl
def dX (n:Int) (len:Nat):Bool:=decide (0<=n)&&decide (n<len)
theorem dU {n:Int}{len:Nat}:dX n len=true↔0<=n/\n<len:=by rw[dX,aaN,aa0,aa0]
abbrev Tn (f:Nat):Prop:=∀(els:List (List C)) (n:Int),CallsT P f [.sl els,IC n] [] (aR [] (.bool (dX n els.length)))
theorem XP:Tn 27:=fun els n=>by
 refine af Tryz.func27 OD rfl fun a _=>?_;refine ah (fun h=>?_) (fun h=>?_)
 ·exact ay rfl (vz C.bool (by rw[dX,aaP (show(0:Int)<=n from h),aaW]))
 ·exact ay rfl (vz C.bool (by rw[dX,aaS (show¬(0:Int)<=n from h),aaY]))
theorem t23:Tn 23:=fun els n=>by
 refine af Tryz.func23 Oz rfl fun a _=>?_;refine ah (fun h=>?_) (fun h=>?_)
 ·exact ay rfl (vz C.bool (by rw[dX,aaP (show(0:Int)<=n from h),aaW]))
 ·exact ay rfl (vz C.bool (by rw[dX,aaS (show¬(0:Int)<=n from h),aaY]))
theorem t24:Tn 24:=fun els n=>by
 refine af Tryz.func24 OA rfl fun a _=>?_;refine ah (fun h=>?_) (fun h=>?_)
 ·exact ay rfl (vz C.bool (by rw[dX,aaP (show(0:Int)<=n from h),aaW]))
 ·exact ay rfl (vz C.bool (by rw[dX,aaS (show¬(0:Int)<=n from h),aaY]))
theorem YT:Tn 58:=fun els n=>by
 refine af Tryz.func58 O1 rfl fun a _=>?_;refine ah (fun h=>?_) (fun h=>?_)
 ·exact ay rfl (vz C.bool (by rw[dX,aaP (show(0:Int)<=n from h),aaW]))
 ·exact ay rfl (vz C.bool (by rw[dX,aaS (show¬(0:Int)<=n from h),aaY]))
theorem t63:Tn 63:=fun els n=>by
 refine af Tryz.func63 O6 rfl fun a _=>?_;refine ah (fun h=>?_) (fun h=>?_)
 ·exact ay rfl (vz C.bool (by rw[dX,aaP (show(0:Int)<=n from h),aaW]))
 ·exact ay rfl (vz C.bool (by rw[dX,aaS (show¬(0:Int)<=n from h),aaY]))
theorem t66:Tn 66:=fun els n=>by
 refine af Tryz.func66 O9 rfl fun a _=>?_;refine ah (fun h=>?_) (fun h=>?_)
 ·exact ay rfl (vz C.bool (by rw[dX,aaP (show(0:Int)<=n from h),aaW]))
 ·exact ay rfl (vz C.bool (by rw[dX,aaS (show¬(0:Int)<=n from h),aaY]))
theorem t67:Tn 67:=fun els n=>by
 refine af Tryz.func67 Pb rfl fun a _=>?_;refine ah (fun h=>?_) (fun h=>?_)
 ·exact ay rfl (vz C.bool (by rw[dX,aaP (show(0:Int)<=n from h),aaW]))
 ·exact ay rfl (vz C.bool (by rw[dX,aaS (show¬(0:Int)<=n from h),aaY]))
theorem t59 (t:Ty):CallsT P 59 [aP t] [] (aR [] (.bool (jc t))):=by
 have e:jc t=(decide (1<=t.kind)&&decide (t.kind<=5)):=rfl;refine af Tryz.func59 O2 rfl fun a _=>?_;refine ah (fun h=>?_) (fun h=>?_)
 ·exact ay rfl (vz C.bool (by rw[e,aaP (show(1:Int)<=t.kind from h),aaW]))
 ·exact ay rfl (vz C.bool (by rw[e,aaS (show¬(1:Int)<=t.kind from h),aaY]))
theorem Wm (n:Int):CallsT P 15 [IC n] [] (aR [] (aP (.mk 5 n []))):=by
 refine af Tryz.func15 Ot rfl fun a _=>?_;exact ay rfl rfl
abbrev zZ (x:Impl):C:=.agg (dN x)
abbrev nu (p:Prog):C:=.agg (kh p)
theorem rZ {l:List Impl}{z:Int}{x:Impl}{K:List C->Prop}(h0:0<=z) (a:l[z.toNat]?=some x) (h:K (dN x)):tL (l.map dN) z 8 K :=
 ⟨_,h0,by rw[aa6,a];rfl,rfl,h⟩
theorem BJ {l:List aT}{z:Int}{x:aT}{K:List C->Prop}(h0:0<=z) (a:l[z.toNat]?=some x) (h:K [IC x.param,IC x.trait]):tL (l.map aW) z 2 K :=
 ⟨_,h0,by rw[aa6,a];rfl,rfl,h⟩
theorem XQ (a b:List Ty) (u:∀x∈a,∀y,qN 25 [aP x,aP y] (x=y)):qN 51 [.sl (a.map aD),.sl (b.map aD),.fn 25 [] []] (a=b):=by
 refine af Tryz.func51 xk rfl fun t _=>?_;have m:(a.map aD).length=a.length:=by simp
 have hb:(b.map aD).length=b.length:=by simp
 have v:a.length<=9223372036854775807:=by have:=gS t.1;rwa [m] at this
 refine aq (fun d=>?_) (fun d=>?_)
 ·have d:¬a.length=b.length:=fun e=>by
   rw[m,hb,e] at d;simp at d
  exact ay rfl (vz C.bool (ig (FZ d)))
 have d:a.length=b.length:=by
  rw[m,hb] at d;simp at d;omega
 refine bN a.length 17 [] () (fun _=>[]) (fun _=>[]) (fun k _=>∀j<k,a[j]?=b[j]?) (fun j s=>vv s (by omega)) (ai rfl) trivial trivial (fun _=>rfl) (fun _=>rfl) ?_;rintro k ⟨⟩ r f _ _ _;refine ah (fun c=>?_) (fun n=>?_)
 ·have c:k<a.length:=by rw[m] at c;omega
  refine ck c fun x q p=>?_;refine ck (l:=b) (k:=k) (by omega) fun y o _=>?_;refine cA q ?_;refine cA o ?_;refine aF (u x p y) rfl fun _=>?_;refine aq (fun h=>?_) (fun h=>?_)
  ·have h:¬x=y:=LC (by simpa using h);exact ay rfl (vz C.bool (ig (F4 q o h)))
  ·have h:x=y:=Ec (by simpa using h);refine Fit.aae (by omega) (by omega) ?_;exact⟨(k+1,()),⟨c,zk f q o h⟩,⟨bw,trivial⟩,trivial,bB c⟩
 ·have n:¬k<a.length:=by rw[m] at n;omega
  have r:k=a.length:=by omega
  exact ay rfl (vz C.bool (rF (uq rfl d.symm (r▸f))))
theorem YU:∀x y:Ty,qN 25 [aP x,aP y] (x=y):=fun x=>cV (p:=fun x=>∀y,qN 25 [aP x,aP y] (x=y)) (fun x a y=>by
  have b:(x.args.map aD).length=x.args.length:=by simp
  refine af Tryz.func25 OB rfl fun c _=>?_;refine ah (fun h0=>?_) (fun h0=>ay rfl (vz C.bool (ig fun e=>h0 (by rw[e]))));refine ah (fun h1=>?_) (fun h1=>ay rfl (vz C.bool (ig fun e=>h1 (by rw[e]))));refine aF (XQ x.args y.args a) rfl fun _=>?_;exact ay rfl (vz C.bool (vD ⟨fun h=>wk h0 h1 h,fun e=>by rw[e]⟩))) x
mutual
def fresh (n from':Int):Ty->Option Ty
 | .mk k i l=>if k<1\/5<k\/(k=5/\(i<0\/n<=i\/0<l.length)) then none else if k=5 then some (.mk 9 (from'+i) []) else match CR n from' l with
  | some l'=>some (.mk k i l')
  | none=>none
def CR (n from':Int):List Ty->Option (List Ty)
 | []=>some []
 | t::l=>match fresh n from' t,CR n from' l with
  | some t',some l'=>some (t'::l')
  | _,_=>none
end
theorem zD (n f:Int):∀l:List Ty,CR n f l=j7 (fresh n f) l
 | []=>rfl
 | t::l=>by
  rw[CR,zD n f l,j7];rfl
theorem lG (n f:Int) (t:Ty):fresh n f t=if t.kind<1\/5<t.kind\/(t.kind=5/\(t.id<0\/n<=t.id\/0<t.args.length)) then none else if t.kind=5 then some (.mk 9 (f+t.id) []) else match j7 (fresh n f) t.args with
  | some a=>some (.mk t.kind t.id a)
  | none=>none:=by
 cases t;rw[fresh,zD];rfl
def MP:Option Ty->Ty×Bool
 | some r=>(r,true)
 | none=>(zT,false)
def nQ (n f:Int) (t:Ty):Ty×Bool:=MP (fresh n f t)
abbrev Gq (n f:Int) (t:Ty) (r:Ty×Bool):Prop:=CallsT P 41 [aP t,IC n,IC f] [] (aR [] (.tup [aP r.1,.bool r.2]))
theorem XR (n f:Int) (t:Ty) (h:t.kind<1\/5<t.kind\/(t.kind=5/\(t.id<0\/n<=t.id\/0<t.args.length))):Gq n f t (zT,false):=by
 have a:(t.args.map aD).length=t.args.length:=xo _;refine af Tryz.func41 Cx rfl fun b _=>?_;refine ah (fun h1=>?_) (fun h1=>ah (fun h2=>?_) (fun h2=>ah (fun h3=>ah (fun h4=>?_) (fun h4=>ah (fun h5=>?_) (fun h5=>?_))) (fun h3=>?_)))
 ·refine ah (fun _=>ay rfl rfl) (fun q=>vv h1 q)
 ·refine ah (fun _=>ay rfl rfl) (fun q=>vv h2 q)
 ·exact ay rfl rfl
 ·exact ay rfl rfl
 ·refine ah (fun _=>ay rfl rfl) (fun h6=>vv h (by omega))
 ·exact vv h (by omega)
theorem XS (n f:Int) (t:Ty) (hf:0<=f/\f<=100) (c:n<=100) (h:¬(t.kind<1\/5<t.kind\/(t.kind=5/\(t.id<0\/n<=t.id\/0<t.args.length)))) (h5:t.kind=5):Gq n f t (.mk 9 (f+t.id) [],true):=by
 have a:(t.args.map aD).length=t.args.length:=xo _;refine af Tryz.func41 Cx rfl fun b _=>?_;refine ah (fun h1=>vv (Or.inl h1) h) (fun h1=>ah (fun h2=>vv (Or.inr (Or.inl h2)) h) (fun h2=>ah (fun h3=>ah (fun h4=>vv (Or.inr (Or.inr ⟨h5,Or.inl h4⟩)) h) (fun h4=>ah (fun h6=>vv (Or.inr (Or.inr ⟨h5,Or.inr (Or.inl h6)⟩)) h) (fun h6=>?_))) (fun h3=>vv h5 h3)));refine ah (fun h7=>vv (Or.inr (Or.inr ⟨h5,Or.inr (Or.inr (by omega))⟩)) h) (fun h7=>?_);refine ah (fun _=>?_) (fun q=>vv h5 q);refine Fit.aae (by omega) (by omega) ?_;exact ay rfl rfl
theorem XT (n f:Int) (t:Ty) (g:Ty->Ty×Bool) (hb:t.args.length<=2 ^ 30) (h:¬(t.kind<1\/5<t.kind\/(t.kind=5/\(t.id<0\/n<=t.id\/0<t.args.length)))) (h5:¬t.kind=5) (r:∀x∈t.args,Gq n f x (g x)) :
  Gq n f t (if t.args.all (fun x=>(g x).2) then(.mk t.kind t.id (t.args.map fun x=>(g x).1),true) else(zT,false)):=by
 have l:(t.args.map aD).length=t.args.length:=xo _;refine af Tryz.func41 Cx rfl fun w _=>?_;refine ah (fun h1=>vv (Or.inl h1) h) (fun h1=>ah (fun h2=>vv (Or.inr (Or.inl h2)) h) (fun h2=>ah (fun h3=>vv h3 h5) (fun h3=>?_)));refine ah (fun q=>vv q h5) (fun _=>?_);refine bN t.args.length 58 [] ([]:List Ty) (fun _=>[]) (fun s'=>[(6,.box 33 [IC 0,IC 0,.nils]),(8,.box 33 [IC t.kind,IC t.id,.rw 76]),(76,.row 33 3 (s'.map aD))]) (fun j s'=>s'=(t.args.take j).map (fun x=>(g x).1)/\(t.args.drop j).all (fun x=>(g x).2)=t.args.all (fun x=>(g x).2)) ⟨by simp,rfl⟩ (ai rfl) trivial
  ⟨.inl ⟨_,rfl,.inl ⟨rfl,rfl⟩⟩,.inl ⟨_,rfl,.inr ⟨33,_,_,rfl,rfl,_,_,rfl,ai rfl,_,_,rfl,ai rfl,_,_,rfl,kK rfl rfl,rfl⟩⟩,.inr ⟨rfl,33,3,rfl⟩,trivial⟩ (fun _=>rfl) (fun _=>rfl) ?_
 rintro j s' v ⟨a,c⟩ _ _ _;have a:s'=(t.args.take j).map (fun x=>(g x).1):=a;have u:(s'.map aD).length=j:=by rw[a,xo,xo,abF];omega
 refine ah (fun b=>?_) (fun m=>?_)
 ·have b:j<t.args.length:=by rw[l] at b;omega
  refine bf b fun x p o d=>?_;refine cA p ?_;refine aF (r x o) rfl fun _=>?_;refine aq (fun k=>?_) (fun k=>?_)
  ·have e:t.args.all (fun x=>(g x).2)=false:=by
    rw[<-c,d,abg,show(g x).2=false by simpa using k,aaY]
   exact ay rfl (by rw[e];rfl)
  ·have k:(g x).2=true:=by simpa using k
   refine lD j rfl u (by decide) (by omega) ?_;refine Fit.aae (by omega) (by omega) ?_;refine⟨(j+1,s'++[(g x).1]),⟨b,?_,?_⟩,⟨bw,trivial⟩,⟨.inl ⟨_,rfl,.inl ⟨rfl,rfl⟩⟩,.inl ⟨_,rfl,.inl ⟨rfl,rfl⟩⟩,.inl ⟨_,rfl,.inl ⟨nN vF,rfl⟩⟩,trivial⟩,bB b⟩
   ·show s'++[(g x).1]=(t.args.take (j+1)).map _;rw[fL p,a,abx];rfl
   ·have:=c;rw[d,abg,k,aaW] at this;exact this
 ·have m:¬j<t.args.length:=by rw[l] at m;omega
  have e:t.args.all (fun x=>(g x).2)=true:=by rw[<-c,List.drop_of_length_le (by omega),List.all_nil]
  have s:C.agg [IC t.kind,IC t.id,.sl (s'.map aD)]=aP (.mk t.kind t.id (t.args.map fun x=>(g x).1)):=by
   rw[a,abz (by omega)];rfl
  refine yT [76] [] ⟨_,[],rfl,rfl,rfl,rfl,?_⟩;rw[e];exact vz (fun z=>C.tup [z,.bool true]) s
theorem Mk {f:Ty->Option Ty}:∀l:List Ty,j7 f l=if l.all (fun x=>(MP (f x)).2) then some (l.map fun x=>(MP (f x)).1) else none
 | []=>rfl
 | x::l=>by
  rw[j7,Mk l,abg,aaZ];cases f x with
  | none=>rfl
  | some r =>
   rw[show(MP (some r)).2=true from rfl,show(MP (some r)).1=r from rfl,aaW]
   by_cases a:(l.all fun x=>(MP (f x)).2)=true
   ·rw[fo a,fo a]
   ·rw[o5 a,o5 a]
theorem YV (n f:Int) (hf:0<=f/\f<=100) (d:n<=100):∀t:Ty,iA t->Gq n f t (nQ n f t):=cV fun t c hb=>by
 have hb:=(fu t).1 hb
 by_cases h:t.kind<1\/5<t.kind\/(t.kind=5/\(t.id<0\/n<=t.id\/0<t.args.length))
 ·have:=XR n f t h;rw[nQ,lG,fo h];exact this
 by_cases h5:t.kind=5
 ·have:=XS n f t hf d h h5;rw[nQ,lG,o5 h,fo h5];exact this
 ·have:=XT n f t (nQ n f) hb.1 h h5 fun x b=>c x b (hb.2 x b);have e:fresh n f t=if t.args.all (fun x=>(nQ n f x).2) then some (.mk t.kind t.id (t.args.map fun x=>(nQ n f x).1)) else none:=by
   rw[lG,o5 h,o5 h5,Mk]
   by_cases a:(t.args.all fun x=>(MP (fresh n f x)).2)=true
   ·rw[fo a];exact(fo a).symm
   ·rw[o5 a];exact(o5 a).symm
  rw[nQ,e]
  by_cases a:(t.args.all fun x=>(nQ n f x).2)=true
  ·rw[fo a] at this ⊢;exact this
  ·rw[o5 a] at this ⊢;exact this
end Go.Fr.Tryz
