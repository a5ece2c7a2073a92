/- Part of the proofs of the statements of this seat. -/
import Derived.Test.YtnlegbokpofcaaaGreatDoorFW0
import Derived.Scope
set_option maxRecDepth 10000
set_option linter.unusedVariables false
set_option linter.unusedSimpArgs false
namespace Go.Fr
open Go Go.RowKit
theorem set_comm:∀(L:Loc) {k f:Nat}(o o':Own),k≠f->(L.set k o).set f o'=(L.set f o').set k o:=by
 intro L k f o o' h;have hb:Nat.beq k f=false:=by cases e:Nat.beq k f with | true=>exact s6 (vz e) h | false=>rfl
 have b:Nat.beq f k=false:=by cases e:Nat.beq f k with | true=>exact s6 (vz e).symm h | false=>rfl
 have a:∀{i j:Nat},Nat.beq i j=false->(Nat.ble i j=true/\Nat.ble j i=false)\/(Nat.ble i j=false/\Nat.ble j i=true):=by
  intro i j v;have x:=gF v;rcases Nat.lt_or_gt_of_ne x with ae | aa
  ·refine .inl ⟨Nat.ble_eq_true_of_le (by omega),?_⟩;cases e:Nat.ble j i with | true=>have:=ac8 e;omega | false=>rfl
  ·refine .inr ⟨?_,Nat.ble_eq_true_of_le (by omega)⟩;cases e:Nat.ble i j with | true=>have:=ac8 e;omega | false=>rfl
 induction L with
 | nil =>
  simp only[Loc.set,hb,b];rcases a hb with⟨d,m⟩ | ⟨d,m⟩<;>simp only[d,m,Loc.set]
 | cons p l ih =>
  obtain⟨j,q⟩:=p;cases n:Nat.beq j k with
  | true =>
   have:=vz n;subst this;have c:Nat.beq j j=true:=by simp
   simp only[Loc.set,c,hb,b];rcases a hb with⟨d,m⟩ | ⟨d,m⟩
   ·simp only[d,Loc.set,c]
   ·simp only[d,m,Loc.set,c,b]
  | false =>
   cases r:Nat.beq j f with
   | true =>
    have:=vz r;subst this;have c:Nat.beq j j=true:=by simp
    simp only[Loc.set,c,hb,b];rcases a b with⟨d,m⟩ | ⟨d,m⟩
    ·simp only[d,Loc.set,c]
    ·simp only[d,m,Loc.set,c,hb]
   | false =>
    simp only[Loc.set,n,r];rcases a n with⟨t,y⟩ | ⟨t,y⟩<;>rcases a r with⟨s,z⟩ | ⟨s,z⟩
    ·simp only[t,s,Loc.set,n,r,ih]
    ·simp only[t,s,Loc.set,n,r,hb,b];have d:Nat.ble f k=true:=by
      have x1:=ac8 t;have x2:=ac8 z;exact Nat.ble_eq_true_of_le (by omega)
     simp only[d]
    ·simp only[t,s,Loc.set,n,r,hb,b];have d:Nat.ble k f=true:=by
      have x1:=ac8 s;have x2:=ac8 y;exact Nat.ble_eq_true_of_le (by omega)
     simp only[d]
    ·rcases a hb with⟨w,u⟩ | ⟨w,u⟩
     ·simp only[t,s,Loc.set,n,r,hb,b,w,u]
     ·simp only[t,s,Loc.set,n,r,hb,b,w,u]
theorem put_comm {d a:Option Nat}{v u:SV}{ρ:Env}(h:∀k,d=some k->a≠some k):put d v (put a u ρ)=put a u (put d v ρ):=by
 funext t
 simp only[put_eq];cases d with
 | none=>rfl
 | some k =>
  cases a with
  | none=>rfl
  | some e =>
   have:=h k rfl;simp only[];split<;>split
   ·rename_i b c;subst b;subst c;exact s6 rfl this
   ·rfl
   ·rfl
   ·rfl
def dF:List X->List Nat
 | []=>[]
 | .t n::l=>n::dF l
 | .mt _ n::l=>n::dF l
 | _::l=>dF l
theorem nY:∀{l:List X}{n:Nat},X.t n∈l->n∈dF l
 | [],n,h=>by cases h
 | .t m::l,n,h=>by
  simp only[dF,acQ];rcases acQ.1 h with h | h
  ·injection h with h;exact .inl h
  ·exact .inr (nY h)
 | .c v::l,n,h=>by
  rcases acQ.1 h with h | h
  ·cases h
  ·exact nY (l:=l) h
 | .fn f::l,n,h=>by
  rcases acQ.1 h with h | h
  ·cases h
  ·exact nY (l:=l) h
 | .mt nm m::l,n,h=>by
  simp only[dF,acQ];rcases acQ.1 h with h | h
  ·cases h
  ·exact .inr (nY h)
theorem pJ:∀{l:List X}{nm:String}{n:Nat},X.mt nm n∈l->n∈dF l
 | [],_,n,h=>by cases h
 | .t m::l,nm,n,h=>by
  simp only[dF,acQ];rcases acQ.1 h with h | h
  ·cases h
  ·exact .inr (pJ h)
 | .c v::l,nm,n,h=>by
  rcases acQ.1 h with h | h
  ·cases h
  ·exact pJ (l:=l) h
 | .fn f::l,nm,n,h=>by
  rcases acQ.1 h with h | h
  ·cases h
  ·exact pJ (l:=l) h
 | .mt a m::l,nm,n,h=>by
  simp only[dF,acQ];rcases acQ.1 h with h | h
  ·injection h with h1 h2;exact .inl h2
  ·exact .inr (pJ h)
theorem ic {l:List X}{d:Option Nat}{v:SV}{ρ:Env}(h:∀k,d=some k->k∉dF l):∀x∈l,ev (put d v ρ) x=ev ρ x:=by
 intro x a;cases x with
 | t n =>
  simp only[ev,put_eq];cases d with
  | none=>rfl
  | some k =>
   simp only[];rw[s8];intro e;subst e;exact h n rfl (nY a)
 | c v=>rfl
 | fn f=>rfl
 | mt nm n =>
  simp only[ev,put_eq];cases d with
  | none=>rfl
  | some k =>
   simp only[];rw[s8];intro e;subst e;exact h n rfl (pJ a)
def Vd (L:Loc) (ρ:Env):Prop:=∀t k off,ρ t=.own k off->∃g ty cs,L.get k=some (.box g ty cs)
theorem Vd.ev {L:Loc}{ρ:Env}(h:Vd L ρ) {x:X}{k off:Nat}(e:Fr.ev ρ x=.own k off):∃g ty cs,L.get k=some (.box g ty cs):=by
 cases x with
 | t n=>exact h n k off e
 | c v=>cases e
 | fn f=>cases e
 | mt nm n =>
  simp only[Fr.ev,Wm] at e;split at e<;>cases e
def Keeps (L L':Loc):Prop:=∀k g ty cs,L.get k=some (.box g ty cs)->L'.get k=some (.box g ty cs)
theorem Keeps.refl (L:Loc):Keeps L L:=fun _ _ _ _ h=>h
theorem di {L:Loc}{k j:Nat}{o:Own}(h:j≠k):(L.set k o).get j=L.get j:=by rw[Loc.aa4,s8 h]
theorem Keeps.new {L:Loc}{k:Nat}{o:Own}(h:L.get k=none):Keeps L (L.set k o):=fun j g ty cs e=>by
 rw[di (fun a=>by rw[a,h] at e;cases e)];exact e
theorem Keeps.row {L:Loc}{k:Nat}{v:Value}{t:TypeId}{sz n:Nat}{xs:List Value}{o:Own}(h:L.get k=some (.row v t sz n xs)):Keeps L (L.set k o):=fun j g ty cs e=>by
 rw[di (fun a=>by rw[a,h] at e;cases e)];exact e
section
variable {P:Program}{F:aJ}{L:Loc}{ρ:Env}{K:dP}
theorem CallsA.up {f:Nat}{args:Array Value}{F F1:aJ}{R:aJ->List Own->Value->Prop}{Lin:List Own}(h:CallsA P f args F Lin R) (p:F.le F1) (z:uV F):CallsA P f args F1 Lin R:=by
 refine⟨h.ent,h.mono,fun w n=>?_⟩;have s:St F (inp Lin) w:=⟨fun b o e=>n.frz b o (p b o e),n.own,fun k o g e hb=>(by
  cases d:F g with
  | none=>rfl
  | some o1=>have j:=p g o1 d;rw[n.off k o g e hb] at j;cases j),n.sep,z⟩
 refine(h.run w s).mono ?_;rintro e w' ⟨v,F',Lo,rfl,c,a,hR⟩;have q:∀b o,F1 b=some o->¬(inp Lin).owns b:=by
  rintro b o x ⟨k,o',e,hb⟩;rw[n.off k o' b e hb] at x;cases x
 have r:∀b o,F1 b=some o->w'.heap[b]?=some o:=fun b o e=>by
  have d:=n.frz b o e;rw[a.same b (Array.getElem?_eq_some_iff.1 d).1 (q b o e)];exact d
 have l:F'.le (fun b=>match F' b with | some o=>some o | none=>F1 b):=fun b o e=>by simp only[e]
 refine⟨v,fun b=>match F' b with | some o=>some o | none=>F1 b,Lo,rfl,⟨fun b o e=>?_,c.own,fun k o g e hb=>?_,c.sep,uV.mono l c.glob⟩,⟨fun b o e=>?_,a.os,a.tape,a.output,a.size,a.same,fun b hb=>?_,a.own⟩,h.mono _ _ _ _ l hR⟩
 ·split at e
  ·rename_i o' t;injection e with e
   subst e;exact c.frz b _ t
  ·exact r b o e
 ·have d:=c.off k o g e hb;simp only[d];cases j:F1 g with
  | none=>rfl
  | some u =>
   rcases a.own g ⟨k,o,e,hb⟩ with m | m
   ·exact s6 m (q g u j)
   ·have:=(Array.getElem?_eq_some_iff.1 (n.frz g u j)).1;omega
 ·cases d:F' b with
  | none=>exact e
  | some o' =>
   have j:=c.frz b o' d;rw[r b o e] at j;exact j.symm
 ·cases d:F' b with
  | none=>rw[d] at hb;exact .inl hb
  | some o' =>
   rcases a.frz b (by rw[d];simp) with m | m | m
   ·refine .inl (fun h4=>?_);cases y:F b with
    | none=>exact m y
    | some o5=>have:=p b o5 y;rw[h4] at this;cases this
   ·exact .inr (.inl m)
   ·exact .inr (.inr m)
theorem Real.glob {F:aJ}{L:Loc}(h:Real F L):uV F:=by obtain⟨w,a⟩:=h;exact a.glob
theorem Real.down {F F':aJ}{L L':Loc}(h:Real F' L') (c:F.le F') (f:uV F) (j:L'.part L):Real F L:=by
 obtain⟨w,a⟩:=h;have a:=a.part j;refine⟨w,⟨fun b o e=>a.frz b o (c b o e),a.own,fun k o g e hb=>?_,a.sep,f⟩⟩;cases l:F g with
 | none=>rfl
 | some o'=>have d:=c g o' l;rw[a.off k o g e hb] at d;cases d
theorem KW {L:Loc}{k:Nat}{o:Own}(h:L.get k=none):(L.set k o).part L:=fun j p e=>by
 rw[di (fun a=>by rw[a,h] at e;cases e)];exact e
theorem CJ {L L1:Loc}{k:Nat}{o:Own}(h:L1.part L) (b:L.get k=none):(L1.set k o).part (L.set k o):=fun j p e=>by
 rw[Loc.aa4] at e ⊢;split
 ·rename_i a;rw[o6 a] at e;exact e
 ·rename_i a;rw[s8 a] at e;exact h j p e
def Left (d:Option Nat) (L L':Loc):Prop:=L'=L\/(∃k o,d=some k/\L.get k=none/\L'=L.set k o)\/∃k a t sz n xs,L.get k=some (.row a t sz n xs)/\L'=L.set k (.row (.slice none 0 0) t sz 0 [])
theorem Left.keeps {d:Option Nat}{L L':Loc}(h:Left d L L'):Keeps L L':=by
 rcases h with rfl | ⟨k,o,_,a,rfl⟩ | ⟨k,b,t,sz,n,xs,a,rfl⟩
 ·exact Keeps.refl _
 ·exact Keeps.new a
 ·exact Keeps.row a
theorem AV {L L1:Loc}{k:Nat}{o:Own}(h:L1.part L):(L1.set k o).part (L.set k o):=fun j p e=>by
 rw[Loc.aa4] at e ⊢;split
 ·rename_i a;rw[o6 a] at e;exact e
 ·rename_i a;rw[s8 a] at e;exact h j p e
theorem fq.imp {f:Nat}{args:List Value}{F:aJ}{L:Loc}{d:Option Nat}{K K':aJ->Loc->Value->Prop}(h:fq P f args F L d K) (p:∀F' L' v,F.le F'->Left d L L'->Real F' L'->K F' L' v->K' F' L' v):fq P f args F L d K':=by
 cases h with
 | frz R l e=>exact .frz R l fun v F' Lo a j=>⟨(e v F' Lo a j).1,fun b=>p F' L v a (.inl rfl) b ((e v F' Lo a j).2 b)⟩
 | own R k l w m e =>
  refine .own R k l w m fun v F' Lo a j=>?_;obtain⟨o,u,s⟩:=e v F' Lo a j;exact⟨o,u,fun b=>p F' _ v a (.inr (.inl ⟨k,o,w,m,rfl⟩)) b (s b)⟩
 | row R r q t sz n xs l c e =>
  refine .row R r q t sz n xs l c fun v F' Lo a j=>?_;obtain⟨u,s⟩:=e v F' Lo a j;exact⟨u,fun b=>p F' _ v a (.inr (.inr ⟨r,q,t,sz,n,xs,c,rfl⟩)) b (s b)⟩
 | lent R r q t sz n xs l c e=>exact .lent R r q t sz n xs l c fun v F' a j b=>p F' L v a (.inl rfl) b (e v F' a j b)
theorem fq.up {f:Nat}{args:List Value}{F F1:aJ}{L L1:Loc}{d:Option Nat}{K:aJ->Loc->Value->Prop}(h:fq P f args F L d K) (b:F.le F1) (x:uV F) (q:L1.part L) (z:∀k,d=some k->L.get k=none->L1.get k=none) :
  fq P f args F1 L1 d (fun F' L' v=>F1.le F'/\Real F' L'/\((L'=L1/\K F' L v)\/(∃k o,d=some k/\L.get k=none/\L'=L1.set k o/\K F' (L.set k o) v)\/∃k r t sz n xs,L.get k=some (.row r t sz n xs)/\L'=L1.set k (.row (.slice none 0 0) t sz 0 [])/\K F' (L.set k (.row (.slice none 0 0) t sz 0 [])) v)):=by
 cases h with
 | frz R m j =>
  refine .frz R (m.up b x) fun v F' Lo a p=>?_;obtain⟨w,u⟩:=j v F' Lo (aJ.le_trans b a) p;exact⟨w,fun c=>⟨a,c,.inl ⟨rfl,u (c.down (aJ.le_refl _) c.glob q)⟩⟩⟩
 | own R k m y l j =>
  refine .own R k (m.up b x) y (z k y l) fun v F' Lo a p=>?_;obtain⟨o,w,u⟩:=j v F' Lo (aJ.le_trans b a) p;exact⟨o,w,fun c=>⟨a,c,.inr (.inl ⟨k,o,y,l,rfl,u (c.down (aJ.le_refl _) c.glob (CJ q l))⟩)⟩⟩
 | row R s r t sz n xs m e j =>
  refine .row R s r t sz n xs (m.up b x) (q s _ e) fun v F' Lo a p=>?_;obtain⟨w,u⟩:=j v F' Lo (aJ.le_trans b a) p;exact⟨w,fun c=>⟨a,c,.inr (.inr ⟨s,r,t,sz,n,xs,e,rfl,u (c.down (aJ.le_refl _) c.glob (AV q))⟩)⟩⟩
 | lent R s r t sz n xs m e j =>
  exact .lent R s r t sz n xs (m.up b x) (q s _ e) fun v F' a p c=>⟨a,c,.inl ⟨rfl,j v F' (aJ.le_trans b a) p (c.down (aJ.le_refl _) c.glob q)⟩⟩
theorem fq.some {f:Nat}{args:List Value}{F:aJ}{L:Loc}{d:Option Nat}{K:aJ->Loc->Value->Prop}(h:fq P f args F L d K) (hr:Real F L):∃F' L' v,F.le F'/\Left d L L'/\Real F' L'/\K F' L' v:=by
 obtain⟨w,s⟩:=hr;have aa:St F (inp []) w:=⟨s.frz,fun k o e=>(by cases e),fun k o g e=>(by cases e),fun k k' o o' g e=>(by cases e),s.glob⟩;cases h with
 | frz R x u =>
  obtain⟨e,w',fr,⟨v,F',Lo,_,l,b,y⟩,_⟩:=x.run w aa [];obtain⟨rfl,h3⟩:=u v F' Lo b.le y;have a:Real F' L:=⟨w',(kh (ks:=[]) (ko:=[]) s rfl List.nodup_nil List.nodup_nil (fun _ h=>(by cases h)) l b rfl).1⟩;exact⟨F',L,v,b.le,.inl rfl,a,h3 a⟩
 | own R k x hd z u =>
  obtain⟨e,w',fr,⟨v,F',Lo,_,l,b,y⟩,_⟩:=x.run w aa [];obtain⟨o,rfl,h3⟩:=u v F' Lo b.le y;have a:Real F' (L.set k o):=⟨w',(kh (ks:=[]) (ko:=[k]) s rfl List.nodup_nil (by simp) (fun j r=>.inr (by simp at r;rw[r];exact z)) l b rfl).1⟩;exact⟨F',_,v,b.le,.inr (.inl ⟨k,o,hd,z,rfl⟩),a,h3 a⟩
 | row R q rv t sz n xs x m u =>
  have c:L.sub [q]=Option.some [.row rv t sz n xs]:=by simp only[Loc.sub,m]
  obtain⟨e,w',fr,⟨v,F',Lo,_,l,b,y⟩,_⟩:=x.run w (s.handed c (by simp)) [];obtain⟨rfl,h3⟩:=u v F' Lo b.le y;have hb:=(kh (ks:=[q]) (ko:=[]) s c (by simp) List.nodup_nil (fun _ h=>(by cases h)) l b rfl).1;have a:Real F' (L.set q (.row (.slice none 0 0) t sz 0 [])):=by
   have h5:((L.aa7 [q]).puts [] []).get q=none:=by simp only[Loc.aa7,Loc.puts,Loc.abg,o6]
   have h6:=hb.put h5 (o:=.row (.slice none 0 0) t sz 0 []) (World.ownsRow_nil w' 0 t sz) (fun g hg=>by cases hg);refine⟨w',h6.part fun j p e=>?_⟩;rw[Loc.aa4] at e ⊢;split at e
   ·rename_i r;rw[o6 r];exact e
   ·rename_i r;rw[s8 r];simp only[Loc.aa7,Loc.puts,Loc.abg,s8 r];exact e
  exact⟨F',_,v,b.le,.inr (.inr ⟨q,rv,t,sz,n,xs,m,rfl⟩),a,h3 a⟩
 | lent R q rv t sz n xs x m u =>
  have c:L.sub [q]=Option.some [.row rv t sz n xs]:=by simp only[Loc.sub,m]
  obtain⟨e,w',fr,⟨v,F',Lo,_,l,b,⟨rfl,y⟩⟩,_⟩:=x.run w (s.handed c (by simp)) [];have hb:=(kh (ks:=[q]) (ko:=[q]) s c (by simp) (by simp) (fun _ h=>.inl h) l b rfl).1;have a:Real F' L:=by
   refine⟨w',hb.part fun j p e=>?_⟩;simp only[Loc.aa7,Loc.puts,Loc.aa4,Loc.abg];split
   ·rename_i r;rw[r,m] at e;exact e
   ·exact e
  exact⟨F',L,v,b.le,.inl rfl,a,u v F' b.le y a⟩
theorem rp.imp {F F':aJ}{L:Loc}{d:Option Nat}{e sz b:Nat}{s x:Value}{K K':Loc->Value->Prop}(h:rp F L d e sz b s x K) (o:F.le F')
  (u:∀j n xs n' k v,(L.get j=some (.row s e sz n xs)\/(d=some j/\L.get j=none))->Real F' (L.set j (.row v e sz n' k))->(Real F (L.set j (.row v e sz n' k))->K (L.set j (.row v e sz n' k)) v)->K' (L.set j (.row v e sz n' k)) v):rp F' L d e sz b s x K':=by
 obtain⟨j,n,xs,m,news,a,⟨p,c,q,h3,l⟩,h5,h6,w,t⟩:=h;refine⟨j,n,xs,m,news,?_,⟨p,c,q,h3,?_⟩,h5,h6,w,fun v y hr=>u j n xs _ _ v ?_ hr (t v y)⟩
 ·rcases a with a | a | ⟨a,f,p,q1,q2,z,r⟩
  ·exact .inl a
  ·exact .inr (.inl a)
  ·exact .inr (.inr ⟨a,f,p,q1,q2,z,r.imp (·.mono o) id⟩)
 ·rcases l with l | l
  ·exact .inl (l.mono o)
  ·exact .inr l
 ·rcases a with a | ⟨a,f,_⟩ | ⟨a,f,_⟩
  ·exact .inl a
  ·exact .inr ⟨a,f⟩
  ·exact .inr ⟨a,f⟩
theorem Jw {L L1:Loc}{k:Nat}{o:Own}(h:L1.part L):(L1.set k o).part (L.set k o):=fun j p e=>by
 rw[Loc.aa4] at e ⊢;split
 ·rename_i a;rw[o6 a] at e;exact e
 ·rename_i a;rw[s8 a] at e;exact h j p e
theorem Ej {e sz b:Nat}{zs:List Value}{s x:X}{d:Option Nat}:evalOp P (.appD e sz b zs s x) d F L ρ K=(match ev ρ s,ev ρ x with
  | .v sv,.v a=>rp F L d e sz b sv a fun L1 v=>K F L1 (put d (.v v) ρ)
  | _,_=>False):=rfl
theorem Real.store {F:aJ}{L:Loc}{k g:Nat}{t:TypeId}{cs cs':List Value}(c:t≠0) (m:Real F L) (j:L.get k=Option.some (.box g t cs)):Real F (L.set k (.box g t cs')):=by
 obtain⟨w,l⟩:=m;have a:=nF w g cs'.toArray;refine⟨w.setRow g cs'.toArray,l.turn j ?_ (fun b d f=>a.block b d (fun e=>f (by rw[e];rfl))) (fun o h=>.inl h)⟩;show _=_;have n:w.heap[g]?=Option.some (.cells cs.toArray t (0,0)):=by rw[<-ja c];exact l.own k _ j
 rw[ja c];exact setRow_heap w g cs.toArray _ t _ n
theorem rp.some {F:aJ}{L:Loc}{d:Option Nat}{e sz b:Nat}{s x:Value}{K:Loc->Value->Prop}(h:rp F L d e sz b s x K) (hr:Real F L) :
  ∃a v n' o,((∃n xs,L.get a=some (.row s e sz n xs))\/(d=some a/\L.get a=none))/\Real F (L.set a (.row v e sz n' o))/\K (L.set a (.row v e sz n' o)) v:=by
 obtain⟨a,n,xs,m,news,k,⟨ad,c,h2,h3,h4⟩,h5,h6,h7,h8⟩:=h;obtain⟨w,hs⟩:=hr;have r:xs.length=n*sz:=by
  rcases k with k | ⟨_,_,rfl,rfl,_⟩ | ⟨_,_,_,_,_,q,_⟩
  ·exact(hs.own a _ k).1
  ·simp
  ·exact q
 have u:=nE w (xs++news) e (n+m) sz h6 (by rw[yo,r,h3,Nat.add_mul]);have aa:St F (L.del a) w:=hs.part (fun j p e=>by rw[Loc.abg] at e;split at e;cases e;exact e);have ab:(L.del a).get a=none:=by rw[Loc.abg,o6 rfl]
 have z:=(lS aa ab (cs:=(xs++news).toArray) (t:=e) (e:=.row (.slice (Option.some ⟨w.heap.size,0,none⟩) (n+m) (n+m)) e sz (n+m) (xs++news)) rfl u).1;have f:Real F (L.set a (.row (.slice (Option.some ⟨w.heap.size,0,none⟩) (n+m) (n+m)) e sz (n+m) (xs++news))) :=
  ⟨_,z.part (fun j p e=>by
   rw[Loc.aa4] at e ⊢;split
   ·rename_i y;rw[o6 y] at e;exact e
   ·rename_i y;rw[s8 y] at e;rw[Loc.abg,s8 y];exact e)⟩
 refine⟨a,_,n+m,xs++news,?_,f,h8 _ ⟨_,_,rfl,fun e=>(by cases e)⟩ f⟩;rcases k with k | ⟨k,l,_⟩ | ⟨k,l,_⟩
 ·exact .inl ⟨n,xs,k⟩
 ·exact .inr ⟨k,l⟩
 ·exact .inr ⟨k,l⟩
def Gg (o:fD):Bool:=ef o||jd o||fM o||qM o
def okD (o:fD):Bool:=Gg o||jx o
theorem v8 {o:fD}{d:Option Nat}{v:SV}(h:∀k,d=some k->k∉dF (bY o)):Alike o L L ρ (put d v ρ) :=
 fun x a=>⟨ic h x a,fun _ _ _=>rfl⟩
theorem zl {o:fD}(ho:okD o=true) {d y:Option Nat}{u:SV}(h:∀k,y=some k->k∉dF (bY o)) (p:∀k,d=some k->y≠some k)
  (c:evalOp P o d F L ρ (fun F1 L1 ad=>K F1 L1 (put y u ad))):evalOp P o d F L (put y u ρ) K:=by
 by_cases hs:ef o=true
 ·rw[dn hs] at c ⊢;have:=sO hs (aJ.le_refl F) (v8 (L:=L) (ρ:=ρ) (v:=u) h) c;refine(gI hs).mono _ _ (fun v r=>?_) this;rw[put_comm p];exact r
 ·have r:∀x∈bY o,val L (put y u ρ) x=val L ρ x:=fun x hx=>by simp only[val,ic h x hx]
  cases o<;>first | (exfalso;revert hs ho;simp[okD,Gg,ef,jd,fM,qM,jx];done) | skip
  case boxD t x =>
   have e:=r x (by simp[bY]);simp only[evalOp,e] at c ⊢;split at c
   ·rename_i k;split at c
    ·intro g q;have:=c g q;rw[put_comm p];exact this
    ·exact c
   ·exact c
  case allocD t zs =>
   simp only[evalOp] at c ⊢;split at c
   ·rename_i k;split at c
    ·intro g q;have:=c g q;rw[put_comm p];exact this
    ·exact c
   ·exact c
  case mkFD e n sz xs =>
   have m:=oJ (sz:=sz) (xs:=xs) r;have z:=dw (xs:=xs) r;simp only[evalOp,m,z] at c ⊢;split at c
   ·intro g F' ag hg q;rw[put_comm p];exact c g F' ag hg q
   ·exact c
  case callD f args =>
   have m:=eO (xs:=args) r;simp only[evalOp,m] at c ⊢;refine c.imp fun F' L' v _ _ _ h=>?_;rw[put_comm p];exact h
  case callVD f args =>
   have w:=ic (v:=u) (ρ:=ρ) h f (by simp[bY]);have m:=eO (xs:=args) (L:=L) (L':=L) (ρ:=ρ) (ρ':=put y u ρ) (fun x hx=>r x (by simp[bY,hx]));simp only[evalOp,w,m] at c ⊢;split at c
   ·refine c.imp fun F' L' v _ _ _ h=>?_;rw[put_comm p];exact h
   ·exact c
  case appD e sz b zs s x =>
   have w:=ic (v:=u) (ρ:=ρ) h s (by simp[bY]);have m:=ic (v:=u) (ρ:=ρ) h x (by simp[bY]);simp only[evalOp,w,m] at c ⊢;split at c
   ·refine c.imp (aJ.le_refl F) fun kd n xs n' al v _ q h=>?_;rw[put_comm p];exact h q
   ·exact c
  case makeSD e sz n zs =>
   simp only[evalOp] at c ⊢;split at c
   ·rename_i k;split at c
    ·intro g q;have:=c g q;rw[put_comm p];exact this
    ·exact c
   ·exact c
  case makeSV e sz b zs x =>
   have m:=r x (by simp[bY]);simp only[evalOp,m] at c ⊢;split at c
   ·rename_i k;split at c
    ·intro g q;have:=c g q;rw[put_comm p];exact this
    ·exact c
   ·exact c
  case storeD n a x =>
   obtain⟨n',a',x',k,off,g,t,cs,j,m,z,e3,e4,e5,c⟩:=jy rfl c;have w:=ic (v:=u) (ρ:=ρ) h a (by simp[bY]);have l:=r x (by simp[bY]);rcases j with j | j
   ·injection j with q1 q2 q3
    subst q1 q2 q3;exact jn (.inl rfl) (by rw[l];exact m) (by rw[l];exact z) (by rw[w];exact e3) e4 e5 (by rw[l,put_comm p];exact c)
   ·cases j
  case storeK key n a x =>
   obtain⟨n',a',x',k,off,g,t,cs,j,m,z,e3,e4,e5,c⟩:=jy rfl c;have w:=ic (v:=u) (ρ:=ρ) h a (by simp[bY]);have l:=r x (by simp[bY]);rcases j with j | j
   ·cases j
   ·injection j with q0 q1 q2 q3
    subst q0 q1 q2 q3;exact jn (.inr rfl) (by rw[l];exact m) (by rw[l];exact z) (by rw[w];exact e3) e4 e5 (by rw[l,put_comm p];exact c)
def v9:fD->fD->Bool
 | .build _ _,_=>true
 | .mkfn _ _ _,_=>true
 | .loadK k _ _ _,.storeK a _ _ _=>match Nat.beq k a with | true=>false | false=>true
 | x,_=>Eh x
theorem tN {x y:fD}(h:v9 x y=true):ef x=true:=by
 unfold v9 at h;split at h
 ·rfl
 ·rfl
 ·rfl
 ·exact Ei h
theorem BH {x y:fD}{k n:Nat}{a z:X}{L L':Loc}{V:SV->Prop}(h:v9 x y=true) (d:y=.storeD n a z\/y=.storeK k n a z) (o:∀sv,conc L' sv=conc L sv) (q:∀j,j≠k->L'.get j=L.get j) (c:aV x F L ρ V):aV x F L' ρ V:=by
 unfold v9 at h;split at h
 ·rename_i zs ps;have e:=rE (ps:=ps) (zs:=zs) (L:=L) (L':=L') (ρ:=ρ) (ρ':=ρ) (fun p _=>o _);simp only[aV,e] at c ⊢;exact c
 ·rename_i f a b;have r:=eO (xs:=a) (L:=L) (L':=L') (ρ:=ρ) (ρ':=ρ) (fun _ _=>o _);have s:=eO (xs:=b) (L:=L) (L':=L') (ρ:=ρ) (ρ':=ρ) (fun _ _=>o _);simp only[aV,r,s] at c ⊢;exact c
 ·rename_i k1 ag m x t u w v;rcases d with d | d
  ·cases d
  ·injection d with q0 q1 q2 q3
   subst q0;split at h
   ·cases h
   ·rename_i hb;have hb:=gF hb;simp only[aV] at c ⊢;split at c
    ·rename_i k3 off e;split at c
     ·rename_i l;have l:=vz l;subst l;simp only[q _ hb];exact c
     ·exact c.elim
    ·exact c.elim
 ·exact BF h c
theorem Ek {L:Loc}{k g:Nat}{t:TypeId}{cs cs':List Value}(b:L.get k=some (.box g t cs)) (sv:SV):conc (L.set k (.box g t cs')) sv=conc L sv:=by
 cases sv with
 | v u=>rfl
 | el a j=>rfl
 | own j off =>
  simp only[conc,Loc.aa4]
  by_cases e:j=k
  ·subst e;rw[o6 rfl,b]
  ·rw[s8 e]
def zm (x y:fD):Bool:=(ef x&&Gg y&&(!KT x||ef y))||(jd x&&fM y)||(qM x&&fM y)||(fM x&&fM y)||(v9 x y&&jx y)||(jx x&&v9 y x)
inductive Made:fD->Option Nat->aJ->Loc->Env->aJ->Loc->SV->Prop
 | box {t:TypeId}{x:X}{k:Nat}{F:aJ}{L:Loc}{ρ:Env}(g:Nat):Made (.boxD t x) (some k) F L ρ F (L.set k (.box g t (aZ (val L ρ x)))) (.own k 0)
 | alloc {t:TypeId}{zs:List Value}{k:Nat}{F:aJ}{L:Loc}{ρ:Env}(g:Nat):Made (.allocD t zs) (some k) F L ρ F (L.set k (.box g t zs)) (.own k 0)
 | mkS {e:TypeId}{sz n:Nat}{zs:List Value}{k:Nat}{F:aJ}{L:Loc}{ρ:Env}(g:Nat):Made (.makeSD e sz n zs) (some k) F L ρ F (L.set k (.row (.slice (some ⟨g,0,none⟩) n n) e sz n (List.replicate n zs).flatten)) (.v (.slice (some ⟨g,0,none⟩) n n))
 | mkV {e:TypeId}{sz b:Nat}{zs:List Value}{x:X}{k:Nat}{F:aJ}{L:Loc}{ρ:Env}(g n:Nat) (hn:n=nW (val L ρ x)):Made (.makeSV e sz b zs x) (some k) F L ρ F (L.set k (.row (.slice (some ⟨g,0,none⟩) n n) e sz n (List.replicate n zs).flatten)) (.v (.slice (some ⟨g,0,none⟩) n n))
 | mkF {e:TypeId}{n sz:Nat}{xs:List X}{d:Option Nat}{F:aJ}{L:Loc}{ρ:Env}(g:Nat) (F':aJ) (hle:F.le F') (hg:F' g=some (.cells (cellsOf L ρ xs).toArray e (0,0))) :
   Made (.mkFD e n sz xs) d F L ρ F' L (.v (.slice (some ⟨g,0,none⟩) n n))
def cm:fD->Option Nat->Loc->Env->Bool
 | .boxD _ _,some k,L,_=>(L.get k).isNone
 | .allocD _ _,some k,L,_=>(L.get k).isNone
 | .makeSD _ sz n zs,some k,L,_=>match L.get k,iV zs sz,Nat.ble n 9223372036854775807 with | none,true,true=>true | _,_,_=>false
 | .makeSV _ sz b zs x,some k,L,ρ=>match L.get k,iV zs sz,uX b (val L ρ x) with | none,true,true=>true | _,_,_=>false
 | .mkFD _ _ sz xs,_,L,ρ=>gD L ρ sz xs
 | _,_,_,_=>false
theorem cK {o:fD}(h:fM o=true) {d:Option Nat}:evalOp P o d F L ρ K↔cm o d L ρ=true/\∀F' L' v,Made o d F L ρ F' L' v->Real F' L'->K F' L' (put d v ρ):=by
 cases o<;>first | (exfalso;revert h;simp[fM];done) | skip
 case boxD t x =>
  simp only[evalOp];cases d with
  | none=>simp[cm]
  | some k =>
   simp only[cm];cases j:L.get k with
   | none =>
    simp only[Option.isNone_none,true_and];constructor
    ·rintro h F' L' v c a;cases c with
     | box g=>exact h g a
    ·intro h g a;exact h _ _ _ (.box g) a
   | some p=>simp
 case allocD t zs =>
  simp only[evalOp];cases d with
  | none=>simp[cm]
  | some k =>
   simp only[cm];cases j:L.get k with
   | none =>
    simp only[Option.isNone_none,true_and];constructor
    ·rintro h F' L' v c a;cases c with
     | alloc g=>exact h g a
    ·intro h g a;exact h _ _ _ (.alloc g) a
   | some p=>simp
 case makeSD e sz n zs =>
  simp only[evalOp];cases d with
  | none=>simp[cm]
  | some k =>
   simp only[cm];cases j:L.get k with
   | some p=>simp
   | none =>
    cases r:iV zs sz with
    | false=>simp
    | true =>
     cases m:Nat.ble n 9223372036854775807 with
     | false=>simp
     | true =>
      simp only[true_and];constructor
      ·rintro h F' L' v c a;cases c with
       | mkS g=>exact h g a
      ·intro h g a;exact h _ _ _ (.mkS g) a
 case makeSV e sz b zs x =>
  simp only[evalOp];cases d with
  | none=>simp[cm]
  | some k =>
   simp only[cm];cases j:L.get k with
   | some p=>simp
   | none =>
    cases r:iV zs sz with
    | false=>simp
    | true =>
     cases m:uX b (val L ρ x) with
     | false=>simp
     | true =>
      simp only[true_and];constructor
      ·rintro h F' L' v c a;cases c with
       | mkV g n q=>subst q;exact h g a
      ·intro h g a;exact h _ _ _ (.mkV g _ rfl) a
 case mkFD e n sz xs =>
  simp only[evalOp,cm];cases s:gD L ρ sz xs with
  | false=>simp
  | true =>
   simp only[true_and];constructor
   ·rintro h F' L' v c a;cases c with
    | mkF g F' f l=>exact h g _ f l a
   ·intro h g F' f l a;exact h _ _ _ (.mkF g F' f l) a
theorem CK:∀{l:List Value}{n:Nat},l.length=n->iV l n=true
 | [],0,_=>rfl
 | _::l,n+1,h=>CK (l:=l) (by simpa using h)
theorem pK {e:TypeId}{sz n k:Nat}{zs:List Value}(h:cm (.makeSD e sz n zs) (some k) L ρ=true):L.get k=none/\zs.length=sz/\n<=maxLen:=by
 simp only[cm] at h;split at h
 ·rename_i a b c;exact⟨a,jZ b,ac8 c⟩
 ·cases h
theorem pL {e:TypeId}{sz b k:Nat}{zs:List Value}{x:X}(h:cm (.makeSV e sz b zs x) (some k) L ρ=true):L.get k=none/\zs.length=sz/\nW (val L ρ x)<=maxLen/\uX b (val L ρ x)=true:=by
 simp only[cm] at h;split at h
 ·rename_i c d a;exact⟨c,jZ d,Jp a,a⟩
 ·cases h
theorem BI {o:fD}{d:Option Nat}(y:Real F L) (h:cm o d L ρ=true):∃F' L' v,Made o d F L ρ F' L' v/\F.le F'/\Real F' L':=by
 obtain⟨w,j⟩:=y;have f:∀(e:TypeId) (cs:List Value),∃F',F.le F'/\F' w.heap.size=some (.cells cs.toArray e (0,0))/\Real F' L:=by
  intro e cs;have c:=kP w (.cells cs.toArray e);obtain⟨z,q⟩:=ve j;exact⟨_,aJ.abY (j.alloc (.cells cs.toArray e)) c,o6 rfl,⟨_,(j.alloc (.cells cs.toArray e)).freeze c q⟩⟩
 cases o<;>cases d<;>simp only[cm] at h<;>try (cases h;done)
 ·rename_i t x k;rw[Option.isNone_iff_eq_none] at h;refine⟨_,_,_,.box w.heap.size,aJ.le_refl F,⟨_,(uf j h (ob:=rm t (aZ (val L ρ x))) (e:=.box w.heap.size t (aZ (val L ρ x))) rfl ?_).1⟩⟩;show _=_;rw[kP]
 ·rename_i t zs k;rw[Option.isNone_iff_eq_none] at h;refine⟨_,_,_,.alloc w.heap.size,aJ.le_refl F,⟨_,(uf j h (ob:=rm t zs) (e:=.box w.heap.size t zs) rfl ?_).1⟩⟩;show _=_;rw[kP]
 ·rename_i e n sz xs;obtain⟨F',l,m,u⟩:=f e (cellsOf L ρ xs);exact⟨F',L,_,.mkF w.heap.size F' l m,l,u⟩
 ·rename_i e n sz xs k;obtain⟨F',l,m,u⟩:=f e (cellsOf L ρ xs);exact⟨F',L,_,.mkF w.heap.size F' l m,l,u⟩
 ·rename_i e sz n zs k;obtain⟨p,r,s⟩:=pK (ρ:=ρ) (e:=e) h;have a:=nE w (List.replicate n zs).flatten e n sz s (by rw[List.length_flatten];simp[r]);refine⟨_,_,_,.mkS w.heap.size,aJ.le_refl F,⟨_,(lS j p (cs:=((List.replicate n zs).flatten).toArray) (t:=e) (e:=.row (.slice (some ⟨w.heap.size,0,none⟩) n n) e sz n (List.replicate n zs).flatten) rfl a).1⟩⟩
 ·rename_i e sz b zs x k;obtain⟨p,r,s,_⟩:=pL (e:=e) h;have a:=nE w (List.replicate (nW (val L ρ x)) zs).flatten e (nW (val L ρ x)) sz s (by rw[List.length_flatten];simp[r]);refine⟨_,_,_,.mkV w.heap.size _ rfl,aJ.le_refl F,⟨_,(lS j p (cs:=((List.replicate (nW (val L ρ x)) zs).flatten).toArray) (t:=e) (e:=.row (.slice (some ⟨w.heap.size,0,none⟩) (nW (val L ρ x)) (nW (val L ρ x))) e sz (nW (val L ρ x)) (List.replicate (nW (val L ρ x)) zs).flatten) rfl a).1⟩⟩
theorem Made.le {o:fD}{d:Option Nat}{F':aJ}{L':Loc}{v:SV}(h:Made o d F L ρ F' L' v):F.le F':=by
 cases h with
 | box g=>exact aJ.le_refl _
 | alloc g=>exact aJ.le_refl _
 | mkS g=>exact aJ.le_refl _
 | mkV g n c=>exact aJ.le_refl _
 | mkF g F' a b=>exact a
theorem Made.part {o:fD}{d:Option Nat}{F':aJ}{L':Loc}{v:SV}(a:cm o d L ρ=true) (h:Made o d F L ρ F' L' v):L'.part L:=by
 intro j p e;cases h with
 | box g =>
  simp only[cm,Option.isNone_iff_eq_none] at a;rw[di (fun h=>by rw[h] at e;rw[a] at e;cases e)];exact e
 | alloc g =>
  simp only[cm,Option.isNone_iff_eq_none] at a;rw[di (fun h=>by rw[h] at e;rw[a] at e;cases e)];exact e
 | mkS g =>
  have a:=(pK a).1;rw[di (fun h=>by rw[h] at e;rw[a] at e;cases e)];exact e
 | mkV g n c =>
  have a:=(pL a).1;rw[di (fun h=>by rw[h] at e;rw[a] at e;cases e)];exact e
 | mkF g F' b f=>exact e
theorem Made.get {o:fD}{d:Option Nat}{F':aJ}{L':Loc}{v:SV}(a:cm o d L ρ=true) (h:Made o d F L ρ F' L' v):Keeps L L':=by
 cases h with
 | box g =>
  simp only[cm,Option.isNone_iff_eq_none] at a;exact Keeps.new a
 | alloc g =>
  simp only[cm,Option.isNone_iff_eq_none] at a;exact Keeps.new a
 | mkS g=>exact Keeps.new (pK a).1
 | mkV g n e=>exact Keeps.new (pL a).1
 | mkF g F' b c=>exact Keeps.refl _
theorem Made.frame {o:fD}{d:Option Nat}{F':aJ}{L':Loc}{v:SV}(h:Made o d F L ρ F' L' v):∀j,d≠some j->L'.get j=L.get j:=by
 intro j a;cases h with
 | box g=>exact di (fun e=>a (by rw[e]))
 | alloc g=>exact di (fun e=>a (by rw[e]))
 | mkS g=>exact di (fun e=>a (by rw[e]))
 | mkV g n c=>exact di (fun e=>a (by rw[e]))
 | mkF g F' b f=>rfl
theorem jz {o:fD}{d:Option Nat}{L L':Loc}{ρ ρ':Env}(j:∀x∈bY o,val L' ρ' x=val L ρ x) (c:∀k,d=some k->(L'.get k=none->L.get k=none)) (h:cm o d L' ρ'=true):cm o d L ρ=true:=by
 cases o<;>cases d<;>simp only[cm] at h ⊢<;>try (cases h;done)
 ·rename_i t x k;rw[Option.isNone_iff_eq_none] at h ⊢;exact c k rfl h
 ·rename_i t zs k;rw[Option.isNone_iff_eq_none] at h ⊢;exact c k rfl h
 ·rename_i e n sz xs;rw[<-oJ (xs:=xs) j];exact h
 ·rename_i e n sz xs k;rw[<-oJ (xs:=xs) j];exact h
 ·rename_i e sz n zs k;obtain⟨l,f,a⟩:=pK (L:=L') (ρ:=ρ') (e:=e) h;have a:Nat.ble n 9223372036854775807=true:=Nat.ble_eq_true_of_le a;rw[c k rfl l,CK f,a]
 ·rename_i e sz b zs x k;obtain⟨l,f,_,a⟩:=pL (L:=L') (ρ:=ρ') (e:=e) h;rw[j x (by simp[bY])] at a;rw[c k rfl l,CK f,a]
theorem Made.like {o:fD}{d:Option Nat}{ρ ρ':Env}{F':aJ}{L':Loc}{v:SV}(a:∀x∈bY o,val L ρ' x=val L ρ x) (h:Made o d F L ρ' F' L' v):Made o d F L ρ F' L' v:=by
 cases h with
 | box g=>rw[a _ (by simp[bY])];exact .box g
 | alloc g=>exact .alloc g
 | mkS g=>exact .mkS g
 | mkV g n e=>exact .mkV g n (by rw[e,a _ (by simp[bY])])
 | mkF g F' b c =>
  rename_i xs;rw[dw (xs:=xs) a] at c;exact .mkF g F' b c
theorem ig {L L':Loc}{ρ:Env}(b:Vd L ρ) (c:Keeps L L') (x:X):val L' ρ x=val L ρ x:=by
 simp only[val];cases e:ev ρ x with
 | v u=>rfl
 | el a j=>rfl
 | own k off =>
  obtain⟨g,ty,cs,h⟩:=b.ev e;simp only[conc,c k g ty cs h,h]
theorem dR {l:List X}{d:Option Nat}{v:SV}(h:∀k,d=some k->k∉dF l):∀x∈l,val L (put d v ρ) x=val L ρ x:=fun x a=>by simp only[val,ic h x a]
theorem Jy {x y:fD}{dx dy:Option Nat}{F1 F2:aJ}{L1 L2:Loc}{v1 v2:SV}(s:cm x dx L ρ=true) (aw:cm y dy L ρ=true) (f:∀k,dx=some k->k∉dF (bY y)) (ar:∀k,dy=some k->k∉dF (bY x))
  (d:∀k,dx=some k->dy≠some k) (j:Vd L ρ) (h1:Made y dy F L ρ F1 L1 v1) (h2:Made x dx F1 L1 (put dy v1 ρ) F2 L2 v2) :
  ∃Fa La,Made x dx F L ρ Fa La v2/\Made y dy Fa La (put dx v2 ρ) F2 L2 v1:=by
 have ux:∀z∈bY x,val L1 (put dy v1 ρ) z=val L ρ z:=fun z hz=>by
  rw[dR ar z hz,ig j (h1.get aw)]
 cases h2 with
 | box c =>
  rw[ux _ (by simp[bY])];rename_i t z k;have a:∀{o:Own},Keeps L (L.set k o):=by
   simp only[cm,Option.isNone_iff_eq_none] at s;exact Keeps.new s
  cases h1 with
  | box b =>
   rename_i t' q k';refine⟨F,_,.box c,?_⟩;rw[set_comm L _ _ (fun e=>d k rfl (by rw[e]))];have e:val (L.set k (.box c t (aZ (val L ρ z)))) (put (some k) (.own k 0) ρ) q=val L ρ q:=by
    rw[dR f q (by simp[bY]),ig j (a)]
   rw[<-e];exact .box b
  | alloc b =>
   rename_i t' ak k';refine⟨F,_,.box c,?_⟩;rw[set_comm L _ _ (fun e=>d k rfl (by rw[e]))];exact .alloc b
  | mkS b =>
   refine⟨F,_,.box c,?_⟩;rw[set_comm L _ _ (fun e=>d k rfl (by rw[e]))];exact .mkS b
  | mkV b n1 m =>
   refine⟨F,_,.box c,?_⟩;rw[set_comm L _ _ (fun e=>d k rfl (by rw[e]))];refine .mkV b n1 ?_;rw[m,dR f _ (by simp[bY]),ig j a]
  | mkF b F' h r =>
   rename_i e' n' aa l;refine⟨F,_,.box c,.mkF b _ h ?_⟩;rw[dw (L:=L) (ρ:=ρ) (xs:=l) (fun u hu=>by rw[dR f u (by simpa[bY] using hu),ig j a])];exact r
 | alloc c =>
  rename_i t zs k;have a:∀{o:Own},Keeps L (L.set k o):=by
   simp only[cm,Option.isNone_iff_eq_none] at s;exact Keeps.new s
  cases h1 with
  | box b =>
   rename_i t' q k';refine⟨F,_,.alloc c,?_⟩;rw[set_comm L _ _ (fun e=>d k rfl (by rw[e]))];have e:val (L.set k (.box c t zs)) (put (some k) (.own k 0) ρ) q=val L ρ q:=by
    rw[dR f q (by simp[bY]),ig j (a)]
   rw[<-e];exact .box b
  | alloc b =>
   rename_i t' ak k';refine⟨F,_,.alloc c,?_⟩;rw[set_comm L _ _ (fun e=>d k rfl (by rw[e]))];exact .alloc b
  | mkS b =>
   refine⟨F,_,.alloc c,?_⟩;rw[set_comm L _ _ (fun e=>d k rfl (by rw[e]))];exact .mkS b
  | mkV b n1 m =>
   refine⟨F,_,.alloc c,?_⟩;rw[set_comm L _ _ (fun e=>d k rfl (by rw[e]))];refine .mkV b n1 ?_;rw[m,dR f _ (by simp[bY]),ig j a]
  | mkF b F' h r =>
   rename_i e' n' aa l;refine⟨F,_,.alloc c,.mkF b _ h ?_⟩;rw[dw (L:=L) (ρ:=ρ) (xs:=l) (fun u hu=>by rw[dR f u (by simpa[bY] using hu),ig j a])];exact r
 | mkS c =>
  rename_i t al p zs k;have a:∀{o:Own},Keeps L (L.set k o):=by
   exact Keeps.new (pK s).1
  cases h1 with
  | box b =>
   rename_i t' q k';refine⟨F,_,.mkS c,?_⟩;rw[set_comm L _ _ (fun e=>d k rfl (by rw[e]))];have e:val (L.set k (.row (.slice (some ⟨c,0,none⟩) p p) t al p (List.replicate p zs).flatten)) (put (some k) (.v (.slice (some ⟨c,0,none⟩) p p)) ρ) q=val L ρ q:=by
    rw[dR f q (by simp[bY]),ig j (a)]
   rw[<-e];exact .box b
  | alloc b =>
   rename_i t' ak k';refine⟨F,_,.mkS c,?_⟩;rw[set_comm L _ _ (fun e=>d k rfl (by rw[e]))];exact .alloc b
  | mkS b =>
   refine⟨F,_,.mkS c,?_⟩;rw[set_comm L _ _ (fun e=>d k rfl (by rw[e]))];exact .mkS b
  | mkV b n1 m =>
   refine⟨F,_,.mkS c,?_⟩;rw[set_comm L _ _ (fun e=>d k rfl (by rw[e]))];refine .mkV b n1 ?_;rw[m,dR f _ (by simp[bY]),ig j a]
  | mkF b F' h r =>
   rename_i e' n' aa l;refine⟨F,_,.mkS c,.mkF b _ h ?_⟩;rw[dw (L:=L) (ρ:=ρ) (xs:=l) (fun u hu=>by rw[dR f u (by simpa[bY] using hu),ig j a])];exact r
 | mkV c p ap =>
  rename_i t al b0 zs x0 k;have w:p=nW (val L ρ x0):=by rw[ap,ux _ (by simp[bY])]
  clear ap
  have a:∀{o:Own},Keeps L (L.set k o):=by
   exact Keeps.new (pL s).1
  cases h1 with
  | box b =>
   rename_i t' q k';refine⟨F,_,.mkV c p w,?_⟩;rw[set_comm L _ _ (fun e=>d k rfl (by rw[e]))];have e:val (L.set k (.row (.slice (some ⟨c,0,none⟩) p p) t al p (List.replicate p zs).flatten)) (put (some k) (.v (.slice (some ⟨c,0,none⟩) p p)) ρ) q=val L ρ q:=by
    rw[dR f q (by simp[bY]),ig j (a)]
   rw[<-e];exact .box b
  | alloc b =>
   rename_i t' ak k';refine⟨F,_,.mkV c p w,?_⟩;rw[set_comm L _ _ (fun e=>d k rfl (by rw[e]))];exact .alloc b
  | mkS b =>
   refine⟨F,_,.mkV c p w,?_⟩;rw[set_comm L _ _ (fun e=>d k rfl (by rw[e]))];exact .mkS b
  | mkV b n1 m =>
   refine⟨F,_,.mkV c p w,?_⟩;rw[set_comm L _ _ (fun e=>d k rfl (by rw[e]))];refine .mkV b n1 ?_;rw[m,dR f _ (by simp[bY]),ig j a]
  | mkF b F' h r =>
   rename_i e' n' aa l;refine⟨F,_,.mkV c p w,.mkF b _ h ?_⟩;rw[dw (L:=L) (ρ:=ρ) (xs:=l) (fun u hu=>by rw[dR f u (by simpa[bY] using hu),ig j a])];exact r
 | mkF c F' h r =>
  rename_i e n sz xs;have av:=dw (xs:=xs) ux;rw[av] at r;cases h1 with
  | box b =>
   rename_i t' q k';refine⟨F2,L,.mkF c _ h r,?_⟩;have e:=dR (L:=L) (ρ:=ρ) (v:=.v (.slice (some ⟨c,0,none⟩) n n)) f q (by simp[bY]);rw[<-e];exact .box b
  | alloc b=>exact⟨F2,L,.mkF c _ h r,.alloc b⟩
  | mkS b=>exact⟨F2,L,.mkF c _ h r,.mkS b⟩
  | mkV b n1 m=>exact⟨F2,L,.mkF c _ h r,.mkV b n1 (by rw[m,dR f _ (by simp[bY])])⟩
  | mkF b F1' ao ax =>
   rename_i e' n' aa l;refine⟨F2,L,.mkF c _ (aJ.le_trans ao h) r,.mkF b _ (aJ.le_refl _) ?_⟩;rw[dw (L:=L) (ρ:=ρ) (xs:=l) (fun u hu=>by rw[dR f u (by simpa[bY] using hu)])];exact h _ _ ax
theorem KX {x y:fD}{dx dy:Option Nat}(hr:Real F L) (hc:zm x y=true) (ab:∀k,dx=some k->k∉dF (bY y)) (ak:∀k,dy=some k->k∉dF (bY x)) (d:∀k,dx=some k->dy≠some k)
  (ar:Vd L ρ) (hK:evalOp P x dx F L ρ (fun F1 L1 bA=>evalOp P y dy F1 L1 bA K)):evalOp P y dy F L ρ (fun F1 L1 bA=>evalOp P x dx F1 L1 bA K):=by
 have dE:∀k,dy=some k->dx≠some k:=fun k e e'=>d k e' e;simp only[zm,adl,acR] at hc;rcases hc with((((⟨⟨hx,hy⟩,dt⟩ | ⟨hx,hy⟩) | ⟨hx,hy⟩) | ⟨hx,hy⟩) | ⟨hx,hy⟩) | ⟨hx,hy⟩
 ·rw[dn hx] at hK;obtain⟨v,hT,r⟩:=(gI hx).ex _ hK
  clear hK
  have al:∀{F':aJ}{L':Loc}{u:SV},F.le F'->Keeps L L'->K F' L' (put dy u (put dx v ρ))->(KT x=false\/L'=L)->evalOp P x dx F' L' (put dy u ρ) K:=by
   intro F' L' u hF hL hk hR;rw[dn hx];have bk:Alike x L L' ρ (put dy u ρ):=fun z q=>⟨ic ak z q,fun k off e=>by
    obtain⟨g,ty,cs,h⟩:=ar.ev e;rw[hL k g ty cs h,h]⟩
   refine(gI hx).mono _ _ (fun v' dj=>?_) (sO hx hF bk hT hR);subst dj;rw[put_comm d];exact hk
  have hv:=dR (L:=L) (ρ:=ρ) (v:=v) ab
  by_cases bd:ef y=true
  ·rw[dn bd] at r ⊢;have bk:Alike y L L (put dx v ρ) ρ:=fun z q=>⟨(ic ab z q).symm,fun _ _ _=>rfl⟩;exact(gI bd).mono _ _ (fun u hu=>al (aJ.le_refl F) (Keeps.refl _) hu (.inr rfl)) (sO bd (aJ.le_refl F) bk r)
  ·have bm:KT x=false:=by
    rcases dt with h | h
    ·cases e:KT x with
     | false=>rfl
     | true=>rw[e] at h;cases h
    ·exact s6 h bd
   by_cases cr:fM y=true
   ·rw[cK cr] at r ⊢;obtain⟨l,h2⟩:=r;have p:cm y dy L ρ=true:=jz (L':=L) (ρ':=put dx v ρ) hv (fun k _ e=>e) l;refine⟨p,fun F' L' u hm bi=>al hm.le (hm.get p) (h2 F' L' u ?_ bi) (.inl bm)⟩;exact hm.like fun z q=>(hv z q).symm
   ·cases y<;>first | (exfalso;revert bd cr hy;simp[Gg,ef,jd,fM,qM];done) | skip
    case callD f args =>
     have e1:=eO (xs:=args) hv;simp only[evalOp,e1] at r ⊢;exact r.imp fun F' L' u bb hl _ h=>al bb hl.keeps h (.inl bm)
    case callVD f args =>
     have e0:=ic (v:=v) (ρ:=ρ) ab f (by simp[bY]);have e1:=eO (xs:=args) (L:=L) (L':=L) (ρ:=ρ) (ρ':=put dx v ρ) (fun z q=>hv z (by simp[bY,q]));simp only[evalOp,e0,e1] at r ⊢;split at r
     ·exact r.imp fun F' L' u bb hl _ h=>al bb hl.keeps h (.inl bm)
     ·exact r.elim
    case appD e sz b zs s z =>
     have e0:=ic (v:=v) (ρ:=ρ) ab s (by simp[bY]);have e1:=ic (v:=v) (ρ:=ρ) ab z (by simp[bY]);simp only[evalOp,e0,e1] at r ⊢;split at r
     ·refine r.imp (aJ.le_refl F) fun kd n xs n' bo u cX bi h=>al (aJ.le_refl F) ?_ (h bi) (.inl bm);rcases cX with h | ⟨_,h⟩
      ·exact Keeps.row h
      ·exact Keeps.new h
     ·exact r.elim
 ·have ao:∀{f:Nat}{args:List Value},fq P f args F L dx (fun F' L' v=>evalOp P y dy F' L' (put dx (.v v) ρ) K) ->
    cm y dy L ρ=true/\∀F' L' u,Made y dy F L ρ F' L' u->fq P f args F' L' dx (fun F2 L2 v=>K F2 L2 (put dx (.v v) (put dy u ρ))):=by
   intro f args hC;have up:∀{L1:Loc},Left dx L L1->∀{u:SV},∀z∈bY y,val L1 (put dx u ρ) z=val L ρ z:=by
    intro L1 hl u z q;rw[dR ab z q,ig ar hl.keeps]
   have p:cm y dy L ρ=true:=by
    obtain⟨F',L',v,bb,hl,_,h⟩:=hC.some hr;rw[cK hy] at h;refine jz (L':=L') (ρ':=put dx (.v v) ρ) (up hl) (fun k hk e=>?_) h.1;rcases hl with rfl | ⟨j,o,hj,hn,rfl⟩ | ⟨j,rv,t,sz,n,xs,hj,rfl⟩
    ·exact e
    ·rw[di (fun ej=>d j hj (by rw[<-ej];exact hk))] at e;exact e
    ·rw[Loc.aa4] at e;split at e
     ·cases e
     ·exact e
   refine⟨p,fun F' L' u hm=>(hC.up hm.le hr.glob (hm.part p) (fun k hk hn=>by rw[hm.frame k (d k hk)];exact hn)).imp fun F2 L2 v bb cM av h=>?_⟩
   clear cM
   obtain⟨l,du,h2⟩:=h
   clear du
   rw[put_comm d];rcases h2 with⟨rfl,h2⟩ | ⟨k,o,hk,hn,rfl,h2⟩ | ⟨kr,rv,t,sz,n,xs,co,rfl,h2⟩
   ·rw[cK hy] at h2;refine h2.2 F2 L2 u ?_ av;have w:=up (L1:=L) (.inl rfl) (u:=.v v)
    clear up h2
    cases hm with
    | box g=>rw[<-w _ (by simp[bY])];exact .box g
    | alloc g=>exact .alloc g
    | mkS g=>exact .mkS g
    | mkV g n hn=>exact .mkV g n (by rw[hn,w _ (by simp[bY])])
    | mkF g F' az hg =>
     rename_i xs;refine .mkF g _ (aJ.le_refl _) ?_;rw[dw (L:=L) (ρ:=ρ) (xs:=xs) (fun z q=>w z (by simpa[bY] using q))];exact l _ _ hg
   ·rw[cK hy] at h2;refine h2.2 F2 _ u ?_ av;have w:=up (L1:=L.set k o) (.inr (.inl ⟨k,o,hk,hn,rfl⟩)) (u:=.v v)
    clear up h2
    cases hm with
    | box g =>
     rw[set_comm L _ _ (fun e=>d k hk (by rw[e])),<-w _ (by simp[bY])];exact .box g
    | alloc g =>
     rw[set_comm L _ _ (fun e=>d k hk (by rw[e]))];exact .alloc g
    | mkS g =>
     rw[set_comm L _ _ (fun e=>d k hk (by rw[e]))];exact .mkS g
    | mkV g n hn =>
     rw[set_comm L _ _ (fun e=>d k hk (by rw[e]))];exact .mkV g n (by rw[hn,w _ (by simp[bY])])
    | mkF g F' az hg =>
     rename_i xs;refine .mkF g _ (aJ.le_refl _) ?_;rw[dw (L:=L) (ρ:=ρ) (xs:=xs) (fun z q=>w z (by simpa[bY] using q))];exact l _ _ hg
   ·rw[cK hy] at h2;refine h2.2 F2 _ u ?_ av;have w:=up (L1:=L.set kr (.row (.slice none 0 0) t sz 0 [])) (.inr (.inr ⟨kr,rv,t,sz,n,xs,co,rfl⟩)) (u:=.v v);have aw:∀k,dy=some k->fM y=true->cm y dy L ρ=true->(∀e n' df bo,y≠.mkFD e n' df bo)->kr≠k:=by
     intro k hk _ hc de e;subst hk e;cases y<;>simp only[cm,co,Option.isNone_some,acZ] at hc;exact de _ _ _ _ rfl
    clear up h2
    cases hm with
    | box g =>
     rw[set_comm L _ _ (aw _ rfl hy p (fun _ _ _ _=>by simp)).symm,<-w _ (by simp[bY])];exact .box g
    | alloc g =>
     rw[set_comm L _ _ (aw _ rfl hy p (fun _ _ _ _=>by simp)).symm];exact .alloc g
    | mkS g =>
     rw[set_comm L _ _ (aw _ rfl hy p (fun _ _ _ _=>by simp)).symm];exact .mkS g
    | mkV g n hn =>
     rw[set_comm L _ _ (aw _ rfl hy p (fun _ _ _ _=>by simp)).symm];exact .mkV g n (by rw[hn,w _ (by simp[bY])])
    | mkF g F' az hg =>
     rename_i xs;refine .mkF g _ (aJ.le_refl _) ?_;rw[dw (L:=L) (ρ:=ρ) (xs:=xs) (fun z q=>w z (by simpa[bY] using q))];exact l _ _ hg
  cases x<;>first | (exfalso;revert hx;simp[jd];done) | skip
  case callD f args =>
   simp only[evalOp] at hK;obtain⟨l,h2⟩:=ao hK;rw[cK hy];refine⟨l,fun F' L' u hm _=>?_⟩;have e1:bQ L' (put dy u ρ) args=bQ L ρ args:=eO fun z q=>by rw[dR ak z (by simpa[bY] using q),ig ar (hm.get l)]
   simp only[evalOp,e1];exact h2 F' L' u hm
  case callVD f args =>
   simp only[evalOp] at hK;split at hK
   case h_2=>exact hK.elim
   rename_i eh fi ca hf;obtain⟨l,h2⟩:=ao hK;rw[cK hy];refine⟨l,fun F' L' u hm _=>?_⟩;have e0:=ic (v:=u) (ρ:=ρ) ak f (by simp[bY]);have e1:bQ L' (put dy u ρ) args=bQ L ρ args:=eO fun z q=>by rw[dR ak z (by simp[bY,q]),ig ar (hm.get l)]
   simp only[evalOp,e0,e1,hf];exact h2 F' L' u hm
 ·cases x<;>first | (exfalso;revert hx;simp[qM];done) | skip
  case appD e sz b zs s z =>
   rw[Ej] at hK;split at hK
   case h_2=>exact hK.elim
   rename_i sv xv cf cp;have p:cm y dy L ρ=true:=by
    obtain⟨kd,v,n',bo,l,_,h⟩:=hK.some hr;rw[cK hy] at h;have bz:Keeps L (L.set kd (.row v e sz n' bo)):=by
     rcases l with⟨n,xs,l⟩ | ⟨_,l⟩
     ·exact Keeps.row l
     ·exact Keeps.new l
    refine jz (L':=_) (ρ':=put dx (.v v) ρ) (fun u hu=>by rw[dR ab u hu,ig ar bz]) (fun k hk e=>?_) h.1;rw[Loc.aa4] at e;split at e
    ·cases e
    ·exact e
   rw[cK hy];refine⟨p,fun F' L' u hm dq=>?_⟩
   clear dq
   have e0:=ic (v:=u) (ρ:=ρ) ak s (by simp[bY]);have e1:=ic (v:=u) (ρ:=ρ) ak z (by simp[bY]);simp only[evalOp,e0,e1,cf,cp];obtain⟨kd,n,xs,m,news,l,⟨ad,c,h2,h3,h4⟩,h5,h6,h7,h8⟩:=hK;have bz:∀{o:Own},Keeps L (L.set kd o):=by
    rcases l with l | ⟨_,l,_⟩ | ⟨_,l,_⟩
    ·exact Keeps.row l
    ·exact Keeps.new l
    ·exact Keeps.new l
   have aw:∀k,dy=some k->L.get k=none->kd≠k:=by
    rintro k hk hn rfl;rcases l with l | ⟨l,_⟩ | ⟨l,_⟩
    ·rw[hn] at l;cases l
    ·exact d kd l hk
    ·exact d kd l hk
   refine⟨kd,n,xs,m,news,?_,⟨ad,c,h2,h3,?_⟩,h5,h6,h7,fun v hv av=>?_⟩
   ·rcases l with l | ⟨h0,l,dk⟩ | ⟨h0,l,ad,q1,q2,q3,q4⟩
    ·exact .inl (hm.part p kd _ l)
    ·exact .inr (.inl ⟨h0,by rw[hm.frame kd (d kd h0)];exact l,dk⟩)
    ·exact .inr (.inr ⟨h0,by rw[hm.frame kd (d kd h0)];exact l,ad,q1,q2,q3,q4.imp (·.mono hm.le) id⟩)
   ·rcases h4 with h4 | h4
    ·exact .inl (h4.mono hm.le)
    ·exact .inr h4
   ·have h9:=h8 v hv (av.down hm.le hr.glob (Jw (hm.part p)));rw[cK hy] at h9;rw[put_comm d];refine h9.2 F' _ u ?_ av;have w:∀z∈bY y,val (L.set kd (.row v e sz (n+m) (xs++news))) (put dx (.v v) ρ) z=val L ρ z:=fun z q=>by
     rw[dR ab z q,ig ar bz]
    clear h8 h9 cf cp e0 e1
    cases hm with
    | box g =>
     rename_i t x k;simp only[cm,Option.isNone_iff_eq_none] at p;rw[set_comm L _ _ (fun e=>aw k rfl p e.symm),<-w _ (by simp[bY])];exact .box g
    | alloc g =>
     rename_i t zs k;simp only[cm,Option.isNone_iff_eq_none] at p;rw[set_comm L _ _ (fun e=>aw k rfl p e.symm)];exact .alloc g
    | mkS g =>
     rename_i e0 dp n0 zs k;rw[set_comm L _ _ (fun e=>aw k rfl (pK p).1 e.symm)];exact .mkS g
    | mkV g n hn =>
     rename_i e0 dp b0 zs x0 k;rw[set_comm L _ _ (fun e=>aw k rfl (pL p).1 e.symm)];exact .mkV g n (by rw[hn,w _ (by simp[bY])])
    | mkF g F' az hg =>
     rename_i da;refine .mkF g _ az ?_;rw[dw (L:=L) (ρ:=ρ) (xs:=da) (fun z q=>w z (by simpa[bY] using q))];exact hg
 ·rw[cK hx] at hK;obtain⟨be,hK⟩:=hK;have bu:cm y dy L ρ=true:=by
   obtain⟨F',L',v,hm,bb,bi⟩:=BI hr be;have h:=hK F' L' v hm bi;rw[cK hy] at h;refine jz (L':=L') (ρ':=put dx v ρ) (fun z q=>by rw[dR ab z q,ig ar (hm.get be)]) (fun k hk e=>?_) h.1;rw[hm.frame k (fun e'=>d k e' hk)] at e;exact e
  rw[cK hy];refine⟨bu,fun F1 L1 v1 bD em=>?_⟩;rw[cK hx];refine⟨jz (L':=L) (ρ':=ρ) (fun z q=>by rw[dR ak z q,ig ar (bD.get bu)]) (fun k hk e=>by rw[bD.frame k (d k hk)];exact e) be,fun F2 L2 v2 dd av=>?_⟩;obtain⟨Fa,La,ha,hb⟩:=Jy be bu ab ak d ar bD dd;have cw:cm y dy La (put dx v2 ρ)=true :=
   jz (L':=L) (ρ':=ρ) (fun z q=>by rw[dR ab z q,ig ar (ha.get be)]) (fun k hk e=>by rw[ha.frame k (fun e'=>d k e' hk)];exact e) bu
  have dv:Real Fa La:=av.down hb.le (hr.glob.mono ha.le) (hb.part cw);have h:=hK Fa La v2 ha dv;rw[cK hy] at h;rw[put_comm d];exact h.2 F2 L2 v1 hb av
 ·have bc:=tN hx;rw[dn bc] at hK;obtain⟨v,hT,r⟩:=(gI bc).ex _ hK
  clear hK
  obtain⟨n,a,z,k,off,g,t,cs,ho,e1,e2,e3,e4,e5,hK⟩:=jy hy r;have ha:a∈bY y:=by rcases ho with rfl | rfl<;>simp[bY]
  have q:z∈bY y:=by rcases ho with rfl | rfl<;>simp[bY]
  have q0:=ic (v:=v) (ρ:=ρ) ab a ha;have q1:=dR (L:=L) (v:=v) (ρ:=ρ) ab z q;rw[q0] at e3;rw[q1] at e1 e2 hK;refine jn ho e1 e2 e3 e4 e5 ?_;have h3:=(gI bc).mono _ (fun u=>K F _ (put dx u (put dy (.v undef) ρ))) (fun u hu=>by subst hu;rw[put_comm d];exact hK)
   (sO bc (aJ.le_refl F) (v8 (L:=L) (ρ:=ρ) (v:=.v undef) ak) hT)
  rw[dn bc];exact BH hx ho (Ek e4) (fun j hj=>di hj) h3
 ·have bj:=tN hy;obtain⟨n,a,z,k,off,g,t,cs,ho,e1,e2,e3,e4,e5,hK⟩:=jy hx hK;have ha:a∈bY x:=by rcases ho with rfl | rfl<;>simp[bY]
  have q:z∈bY x:=by rcases ho with rfl | rfl<;>simp[bY]
  rw[dn bj] at hK;obtain⟨v,hT,hK⟩:=(gI bj).ex _ hK;have hT:=BH (L':=L) hy ho (fun sv=>(Ek e4 sv).symm) (fun j hj=>(di hj).symm) hT;have bk:Alike y L L (put dx (.v undef) ρ) ρ:=fun u hu=>⟨(ic ab u hu).symm,fun _ _ _=>rfl⟩;have hT:=sO bj (aJ.le_refl F) bk hT;rw[dn bj];refine(gI bj).mono _ _ (fun u hu=>?_) hT;subst hu;have q0:=ic (v:=u) (ρ:=ρ) ak a ha;have q1:=dR (L:=L) (v:=u) (ρ:=ρ) ak z q;refine jn ho (by rw[q1];exact e1) (by rw[q1];exact e2) (by rw[q0];exact e3) e4 e5 ?_;rw[q1,put_comm d];exact hK
end
section
variable {P:Program}{F:aJ}{L:Loc}{ρ:Env}{K K':dP}
theorem Left.none {d:Option Nat}{L L':Loc}(h:Left d L L') {j:Nat}(c:d≠some j) (e:L.get j=none):L'.get j=none:=by
 rcases h with rfl | ⟨k,o,f,b,rfl⟩ | ⟨k,l,t,sz,n,xs,b,rfl⟩
 ·exact e
 ·rw[di (fun a=>c (by rw[a];exact f))];exact e
 ·rw[di (fun a=>by rw[a,b] at e;cases e)];exact e
theorem mh {o:fD}(ho:okD o=true) {d:Option Nat}(hr:Real F L) (y:Vd L ρ) (l:evalOp P o d F L ρ K)
  (hk:∀F1 L1 q,(∃v,q=put d v ρ)->F.le F1->Real F1 L1->Vd L1 q->(∀j,d≠some j->L.get j=none->L1.get j=none)->K F1 L1 q->K' F1 L1 q):evalOp P o d F L ρ K':=by
 have a:∀{L1:Loc}{v:SV},Keeps L L1->(∀k off,v=.own k off->∃g ty cs,L1.get k=some (.box g ty cs))->Vd L1 (put d v ρ):=by
  intro L1 v hL hv t k off e;have p:ρ t=.own k off->∃g ty cs,L1.get k=some (.box g ty cs):=fun e=>by
   obtain⟨g,ty,cs,h⟩:=y t k off e;exact⟨g,ty,cs,hL k g ty cs h⟩
  rw[put_eq] at e;cases d with
  | none=>exact p e
  | some k' =>
   simp only[] at e;split at e
   ·exact hv k off e
   ·exact p e
 by_cases hs:ef o=true
 ·rw[dn hs] at l ⊢;obtain⟨v,hT,hv⟩:=(gI hs).ex _ l;refine(gI hs).mono _ _ (fun u hu=>?_) hT;subst hu;refine hk _ _ _ ⟨_,rfl⟩ (aJ.le_refl F) hr (a (Keeps.refl L) fun k off e=>?_) (fun _ _ h=>h) hv;subst e;obtain⟨x,_,m,hx⟩:=KU hs hT;exact y.ev hx
 ·by_cases ha:fM o=true
  ·rw[cK ha] at l ⊢;refine⟨l.1,fun F' L' v hm c=>hk _ _ _ ⟨v,rfl⟩ hm.le c (a (hm.get l.1) fun k off e=>?_) (fun j w e=>by rw[hm.frame j w];exact e) (l.2 F' L' v hm c)⟩;cases hm with
   | box g=>injection e with e1 e2;subst e1;exact⟨_,_,_,by rw[Loc.aa4,o6 rfl]⟩
   | alloc g=>injection e with e1 e2;subst e1;exact⟨_,_,_,by rw[Loc.aa4,o6 rfl]⟩
   | mkS g=>cases e
   | mkV g n hn=>cases e
   | mkF g F' r hg=>cases e
  ·cases o<;>first | (exfalso;revert hs ha ho;simp[okD,Gg,ef,jd,fM,qM,jx];done) | skip
   case callD f args =>
    simp only[evalOp] at l ⊢;exact l.imp fun F' L' v r hl c h=>hk _ _ _ ⟨_,rfl⟩ r c (a hl.keeps fun k off e=>by cases e) (fun j w e=>hl.none w e) h
   case callVD f args =>
    simp only[evalOp] at l ⊢;split at l
    ·exact l.imp fun F' L' v r hl c h=>hk _ _ _ ⟨_,rfl⟩ r c (a hl.keeps fun k off e=>by cases e) (fun j w e=>hl.none w e) h
    ·exact l.elim
   case appD e sz b zs s z =>
    simp only[evalOp] at l ⊢;split at l
    ·refine l.imp (aJ.le_refl F) fun kd n xs n' aE u ac c h=>hk _ _ _ ⟨_,rfl⟩ (aJ.le_refl F) c (a ?_ fun k off e=>by cases e) ?_ (h c)
     ·rcases ac with h | ⟨_,h⟩
      ·exact Keeps.row h
      ·exact Keeps.new h
     ·intro j w e;have ao:j≠kd:=by
       rintro rfl;rcases ac with h | ⟨h,_⟩
       ·rw[e] at h;cases h
       ·exact w h
      rw[di ao];exact e
    ·exact l.elim
   all_goals
    obtain⟨n',a',x',k,off,g,ty,cs,an,e1,e2,e3,e4,e5,l⟩:=jy rfl l;refine jn an e1 e2 e3 e4 e5 (hk _ _ _ ⟨_,rfl⟩ (aJ.le_refl F) (Real.store (xZ e5) hr e4) ?_ (fun j _ e=>by rw[di (fun ej=>by rw[ej,e4] at e;cases e)];exact e) l);intro t k' m e;have p:ρ t=.own k' m->∃g' al cs',Loc.get (L.set k (.box g ty (bq cs off (aZ (val L ρ x'))))) k'=some (.box g' al cs'):=fun e=>by
     obtain⟨g',al,cs',h⟩:=y t k' m e;rw[Loc.aa4];split
     ·exact⟨_,_,_,rfl⟩
     ·exact⟨_,_,_,h⟩
    rw[put_eq] at e;cases d with
    | none=>exact p e
    | some k' =>
     simp only[] at e;split at e
     ·cases e
     ·exact p e
theorem kU {o:fD}(k:okD o=true) {d:Option Nat}(h:Real F L) (b:Vd L ρ) (j:evalOp P o d F L ρ K)
  (l:∀F1 L1 a,(∃v,a=put d v ρ)->F.le F1->Real F1 L1->Vd L1 a->K F1 L1 a->K' F1 L1 a):evalOp P o d F L ρ K' :=
 mh k h b j fun F1 L1 a e c m f _ n=>l F1 L1 a e c m f n
theorem wT {o:fD}(q:okD o=true) {d:Option Nat}(c:Real F L) (a:evalOp P o d F L ρ K):∃v F1 L1,K F1 L1 (put d v ρ):=by
 by_cases l:ef o=true
 ·rw[dn l] at a;obtain⟨v,_,p⟩:=(gI l).ex _ a;exact⟨v,F,L,p⟩
 ·by_cases m:fM o=true
  ·rw[cK m] at a;obtain⟨F',L',v,t,_,j⟩:=BI c a.1;exact⟨v,F',L',a.2 F' L' v t j⟩
  ·cases o<;>first | (exfalso;revert l m q;simp[okD,Gg,ef,jd,fM,qM,jx];done) | skip
   case callD f args =>
    simp only[evalOp] at a;obtain⟨F',L',v,_,_,_,h⟩:=a.some c;exact⟨_,F',L',h⟩
   case callVD f args =>
    simp only[evalOp] at a;split at a
    ·obtain⟨F',L',v,_,_,_,h⟩:=a.some c;exact⟨_,F',L',h⟩
    ·exact a.elim
   case appD e sz b zs s z =>
    simp only[evalOp] at a;split at a
    ·obtain⟨x,v,n',n,_,_,h⟩:=a.some c;exact⟨_,F,_,h⟩
    ·exact a.elim
   all_goals
    obtain⟨n',y,u,k,off,g,ty,cs,r,e1,e2,e3,e4,w,a⟩:=jy rfl a;exact⟨_,F,_,a⟩
def jo:fD:=.mov (.c undef)
def res (g:Option (Nat×Bool)) (ρ:Env) (o:fD):Option fD :=
 match g with
 | none=>some o
 | some (s,a)=>match ρ s with
  | .v (.bool b)=>some (if b=a then o else jo)
  | .v (.tuple _)=>some jo
  | _=>none
theorem gY {d:Option Nat}{o:fD}{g:Option (Nat×Bool)}{c:List aB} :
  bH P (.op d o g::c) F L ρ K↔∃o',res g ρ o=some o'/\evalOp P o' d F L ρ (fun F1 L1 h=>bH P c F1 L1 h K):=by
 cases g with
 | none=>simp only[bH,res,w7,exists_eq_left']
 | some p =>
  obtain⟨s,f⟩:=p;simp only[bH,res];cases e:ρ s with
  | own k off=>simp
  | el a j=>simp
  | v u =>
   cases u<;>simp only[w7,exists_eq_left',reduceCtorEq,false_and,exists_false]
   case bool b =>
    cases b<;>cases f<;>simp[yU,mE e,jo,evalOp,aV,ev]
   case tuple vs=>rfl
def looks (o:fD) (g:Option (Nat×Bool)):List Nat :=
 match g with
 | none=>dF (bY o)
 | some (s,_)=>s::dF (bY o)
def uw (d:Option Nat) (l:List Nat):Bool :=
 match d with
 | none=>true
 | some k=>match gS l k with | true=>false | false=>true
def El:Option Nat->Option Nat->Bool
 | some a,some b=>match Nat.beq a b with | true=>false | false=>true
 | _,_=>true
def mV:aB->aB->Bool
 | .op a x c,.op b y d=>okD x&&okD y&&zm x y&&uw a (looks y d)&&uw b (looks x c)&&El a b
 | _,_=>false
theorem lV {d:Option Nat}{l:List Nat}(h:uw d l=true):∀k,d=some k->k∉l:=by
 rintro k rfl a;simp only[uw,dQ.2 a] at h;cases h
theorem pM {d a:Option Nat}(h:El d a=true):∀k,d=some k->a≠some k:=by
 rintro k rfl e;subst e;simp[El] at h
theorem qi {g:Option (Nat×Bool)}{o:fD}{d:Option Nat}{v:SV}(h:∀k,d=some k->k∉looks o g):res g (put d v ρ) o=res g ρ o:=by
 cases g with
 | none=>rfl
 | some p =>
  obtain⟨s,a⟩:=p;have:put d v ρ s=ρ s:=by
   rw[put_eq];cases d with
   | none=>rfl
   | some k =>
    simp only[];rw[s8];intro e;exact h k rfl (by simp[looks,e])
  simp only[res,this]
theorem eF {g:Option (Nat×Bool)}{o o':fD}(h:res g ρ o=some o'):o'=o\/o'=jo:=by
 cases g with
 | none=>simp only[res,w7] at h;exact .inl h.symm
 | some p =>
  obtain⟨s,a⟩:=p;simp only[res] at h;split at h
  ·injection h with h
   split at h
   ·exact .inl h.symm
   ·exact .inr h.symm
  ·injection h with h;exact .inr h.symm
  ·cases h
theorem pO {o:fD}{g:Option (Nat×Bool)}{k:Nat}(h:k∈dF (bY o)):k∈looks o g:=by
 cases g with
 | none=>exact h
 | some p=>exact adb _ h
theorem KY {x y:aB}{a:List aB}(w:mV x y=true) (hr:Real F L) (t:Vd L ρ) (h:bH P (x::y::a) F L ρ K):bH P (y::x::a) F L ρ K:=by
 cases x with
 | frz k=>exact s6 w (by cases y<;>exact adx)
 | pc d o g=>exact s6 w (by cases y<;>exact adx)
 | op dx x gx =>
  cases y with
  | frz k=>exact s6 w adx
  | pc d o g=>exact s6 w adx
  | op dy y gy =>
   simp only[mV,acR] at w;obtain⟨⟨⟨⟨⟨al,c⟩,hc⟩,h1⟩,h2⟩,h3⟩:=w;have h1:=lV h1;have h2:=lV h2;have h3:=pM h3;have aw:∀k,dy=some k->dx≠some k:=fun k e e'=>h3 k e' e;rw[gY] at h;obtain⟨z,s,h⟩:=h;have j:okD jo=true:=rfl;have m:okD z=true:=by rcases eF s with rfl | rfl;exact al;exact j
   -- y's guard
   have hy:∃p,res gy ρ y=some p:=by
    obtain⟨v,F1,L1,f⟩:=wT m hr h;rw[gY] at f;obtain⟨p,b,_⟩:=f;rw[qi h1] at b;exact⟨p,b⟩
   obtain⟨p,b⟩:=hy;have aa:okD p=true:=by rcases eF b with rfl | rfl;exact c;exact j
   have hA:evalOp P z dx F L ρ (fun F1 L1 n=>evalOp P p dy F1 L1 n (fun F2 L2 q=>bH P a F2 L2 q K)):=by
    refine kU m hr t h ?_;rintro F1 L1 n ⟨v,rfl⟩ _ _ _ f;rw[gY] at f;obtain⟨az,l,f⟩:=f;rw[qi h1,b] at l;injection l with l
    subst l;exact f
   have lx:∀k,dy=some k->k∉dF (bY z):=by
    intro k e f;rcases eF s with rfl | rfl
    ·exact h2 k e (pO f)
    ·simp[jo,bY,dF] at f
   have ly:∀k,dx=some k->k∉dF (bY p):=by
    intro k e f;rcases eF b with rfl | rfl
    ·exact h1 k e (pO f)
    ·simp[jo,bY,dF] at f
   have hB:evalOp P p dy F L ρ (fun F1 L1 n=>evalOp P z dx F1 L1 n (fun F2 L2 q=>bH P a F2 L2 q K)):=by
    by_cases r:p=jo
    ·subst r;simp only[jo,evalOp,aV,ev];exact zl (K:=fun F2 L2 q=>bH P a F2 L2 q K) (u:=.v undef) m lx h3 hA
    ·have ey:p=y:=by rcases eF b with h | h;exact h;exact s6 h r
     subst ey;refine KX hr ?_ ly lx h3 t hA;rcases eF s with rfl | rfl
     ·exact hc
     ·simp only[okD,adl] at c;rcases c with c | c
      ·simp only[zm,c,adN,adl];exact .inl (.inl (.inl (.inl (.inl (by rfl)))))
      ·simp only[zm,c,adN,adl];exact .inl (.inr rfl)
   rw[gY];refine⟨p,b,kU aa hr t hB ?_⟩;rintro F1 L1 n ⟨v,rfl⟩ _ _ _ f;rw[gY];exact⟨z,by rw[qi h2];exact s,f⟩
theorem BJ {y:aB}{s:List aB}:∀(p:List aB),(∀x∈p,mV x y=true)->∀{F:aJ}{L:Loc}{ρ:Env},Real F L->Vd L ρ->bH P (p++y::s) F L ρ K->bH P (y::(p++s)) F L ρ K
 | [],_,F,L,ρ,_,_,h=>h
 | .frz k::p,b,F,L,ρ,_,_,h=>by
  have:=b (.frz k) (by simp);exact s6 this (by cases y<;>exact adx)
 | .pc d o g::p,b,F,L,ρ,_,_,h=>by
  have:=b (.pc d o g) (by simp);exact s6 this (by cases y<;>exact adx)
 | .op r x t::p,b,F,L,ρ,q,f,h=>by
  have a:=b (.op r x t) (by simp);have w:bH P (.op r x t::y::(p++s)) F L ρ K:=by
   rw[acW,gY] at h;obtain⟨n,j,h⟩:=h;have m:okD x=true:=by
    cases y with
    | frz k=>exact s6 a adx
    | pc d o g=>exact s6 a adx
    | op dy y gy=>simp only[mV,acR] at a;exact a.1.1.1.1.1
   have e:okD n=true:=by rcases eF j with rfl | rfl;exact m;rfl
   rw[gY];refine⟨n,j,kU e q f h ?_⟩;intro F1 L1 v _ _ l c u;exact BJ p (fun z hz=>b z (by simp[hz])) l c u
  exact KY a q f w
end
def YB (A:cE):Op->Bool
 | .store _ (.tmp i) _=>gS A.co (1000000+i)
 | .mapUpdate _ (.tmp i) _ _=>gS A.co (1000000+i)
 | _=>false
def CM (P:Program) (A:cE) (a:Array Oper) (i:Nat):Option aB :=
 match a[i]? with
 | none=>none
 | some o=>match jl a o.guard,kO P (A.owned o.dst) o.op,Si A.n o.dst with
  | some g,some s,true=>match A.isX o.dst with
   | true=>match g,s with
    | none,.call f l=>some (.pc o.dst (.call f l) none)
    | none,.callV f l=>some (.pc o.dst (.callV f l) none)
    | _,_=>none
   | false=>match A.isO o.dst||YB A o.op with
    | true=>match zh s with
     | some s'=>some (.op o.dst s' g)
     | none=>none
    | false=>match v7 A.fl A.bk A.bx s with
     | some s'=>match ef s'||jd s'||fM s'||qM s'||jx s' with
      | true=>some (.op o.dst s' g)
      | false=>none
     | none=>none
  | _,_,_=>none
def fZ (P:Program) (A:cE) (ops:Array Oper):List Nat->Option (List aB)
 | []=>some []
 | i::is=>match CM P A ops i,fZ P A ops is with
  | some s,some ss=>some (s::ss)
  | _,_=>none
def binding (e:Edge):Bool:=Region.binds .any e
def direct (ops:Array Oper) (i:Nat):List Nat :=
 match ops[i]? with
 | some o=>(o.after.toList.filter binding).map (·.on)
 | none=>[]
def CN:List (List Nat)->Nat->List Nat
 | [],_=>[]
 | l::_,0=>l
 | _::a,n+1=>CN a n
def CO (a:List (List Nat)) (x:Nat):List Nat->Bool
 | []=>false
 | z::zs=>match gS (CN a z) x with | true=>true | false=>CO a x zs
def CP (ops:Array Oper) (a:List (List Nat)) (y:Nat):Bool :=
 (direct ops y).all (fun z=>Nat.blt z y)&&(CN a y).all (fun x=>gS (direct ops y) x||CO a x (direct ops y))
def KZ (ops:Array Oper) (a:List (List Nat)):Bool:=(List.range ops.size).all (CP ops a)
def qj (a:List (List Nat)):List (Nat×aB)->Bool
 | []=>true
 | (x,b)::l=>l.all (fun p=>mV b p.2||gS (CN a p.1) x)&&qj a l
def bR:List Nat->Bool
 | []=>true
 | x::l=>!gS l x&&bR l
def Gh (P:Program) (ops:Array Oper) (is:List Nat) (a:List (List Nat)) (ss:List aB):Bool :=
 P.follows .mixedOrders&&KZ ops a&&bR is&&Nat.beq is.length ops.size&&is.all (fun i=>Nat.blt i ops.size)&&(List.range ops.size).all (gS is)&&qj a (is.zip ss)
theorem dS:∀{l:List Nat},bR l=true->l.Nodup
 | [],_=>List.nodup_nil
 | x::l,h=>by
  simp only[bR,acR,Bool.not_eq_true'] at h;refine List.nodup_cons.2 ⟨fun a=>?_,dS h.2⟩;rw[dQ.2 a] at h;cases h.1
theorem BK {a:List (List Nat)}{x:Nat}:∀{l:List Nat},CO a x l=true->∃z,z∈l/\x∈CN a z
 | [],h=>by cases h
 | z::zs,h=>by
  simp only[CO] at h;split at h
  ·rename_i e;exact⟨z,by simp,dQ.1 e⟩
  ·obtain⟨d,b,c⟩:=BK h;exact⟨d,by simp[b],c⟩
section
variable {P:Program}{K:dP}{Q:Exit->Act->World->Prop}{ops:Array Oper}
theorem wU {j:List (List Nat)}(c:KZ ops j=true) {done:Nat->Prop}(a:∀i,i<ops.size->done i->∀z∈direct ops i,done z):∀y,y<ops.size->(∀z∈direct ops y,done z)->∀x∈CN j y,done x:=by
 intro y
 induction y using Nat.strongRecOn with
 | _ y m =>
  intro l f x o;have h:=ac5.1 c y (List.mem_range.2 l);simp only[CP,acR] at h;have b:=ac5.1 h.2 x o;simp only[adl] at b;rcases b with b | b
  ·exact f x (dQ.1 b)
  ·obtain⟨z,k,d⟩:=BK b;have e:z<y:=by
    have n:Nat.blt z y=true:=ac5.1 h.1 z k;simpa using n
   exact m z e (by omega) (a z (by omega) (f z k)) x d
theorem rF {A:cE}:∀{is:List Nat}{ss:List aB},fZ P A ops is=some ss->ss.length=is.length/\∀p q y,is=p++y::q->∃a b c,ss=a++b::c/\a.length=p.length/\CM P A ops y=some b/\fZ P A ops (p++q)=some (a++c)
 | [],ss,h=>by
  simp only[fZ,w7] at h;subst h;refine⟨rfl,fun p q y e=>?_⟩;cases p<;>cases e
 | i::is,ss,h=>by
  simp only[fZ] at h;split at h
  case h_2=>cases h
  rename_i s d j f;injection h with h
  subst h;obtain⟨n,o⟩:=rF f;refine⟨by simp[n],fun p q y e=>?_⟩;cases p with
  | nil =>
   simp only[acX,List.cons.injEq] at e;obtain⟨rfl,rfl⟩:=e;exact⟨[],s,d,rfl,rfl,j,by simpa using f⟩
  | cons x p =>
   simp only[acW,List.cons.injEq] at e;obtain⟨rfl,rfl⟩:=e;obtain⟨a,b,c,m,r,k,l⟩:=o p q y rfl;refine⟨s::a,b,c,by simp[m],by simp[r],k,?_⟩;simp only[acW,fZ,j,l]
theorem wV {d:List (List Nat)}:∀{p q:List (Nat×aB)}{y:Nat×aB},qj d (p++y::q)=true->qj d (p++q)=true/\∀x∈p,mV x.2 y.2=true\/x.1∈CN d y.1
 | [],q,y,h=>by
  obtain⟨m,n⟩:=y;simp only[acX,qj,acR] at h ⊢;exact⟨h.2,fun x c=>by cases c⟩
 | (o,l)::p,q,y,h=>by
  simp only[acW,qj,acR] at h ⊢;obtain⟨j,e⟩:=h;obtain⟨k,f⟩:=wV e;have a:=ac5.1 j;refine⟨⟨ac5.2 fun z b=>a z ?_,k⟩,fun x c=>?_⟩
  ·rcases acN.1 b with b | b
   ·exact acN.2 (.inl b)
   ·exact acN.2 (.inr (adb _ b))
  ·rcases acQ.1 c with rfl | c
   ·have:=a y (acN.2 (.inr (by simp)));simp only[adl] at this;rcases this with h | h
    ·exact .inl h
    ·exact .inr (dQ.1 h)
   ·exact f x c
theorem aN.same {L L2:Loc}{ρ:Env}{a:Act}(h:aN L ρ a) (b:L.sameAs L2):aN L2 ρ a:=by
 have c:∀sv,conc L2 sv=conc L sv:=by
  intro sv;cases sv with
  | v x=>rfl
  | el a j=>rfl
  | own k off=>simp only[conc,b k]
 exact⟨fun j=>by rw[c];exact h.eq j,fun j k off e=>by rw[b k];exact h.own j k off e,h.el⟩
theorem Step.acF {F F':aJ}{L L' L2:Loc}{w w':World}(h:Step F L w F' L' w') (a:L'.sameAs L2):Step F L w F' L2 w' :=
 ⟨h.le,h.os,h.tape,h.output,h.size,h.same,h.frz,fun b ⟨k,o,e,hb⟩=>h.own b ⟨k,o,by rw[<-a k];exact e,hb⟩⟩
theorem Em {A:cE}{i:Nat}{s:aB}{m:List aB}{F:aJ}{L:Loc}{ρ:Env}{a:Act}{w:World}{KK:Act->World->Prop}(hi:i<ops.size) (c:CM P A ops i=some s) (hs:St F L w) (he:aN L ρ a) (hn:a.tmps.size=A.n)
  (l:bH P (s::m) F L ρ K)
  (hQ:∀z w' F' L' ρ',St F' L' w'->aN L' ρ' z->z.tmps.size=A.n->z.defers=a.defers->Step F L w F' L' w'->(∀j,((ops[i]?).bind (·.dst))≠some j->z.tmps.getD j undef=a.tmps.getD j undef)->bH P m F' L' ρ' K->KK z w') :
  wpOp P ops Q i KK a w:=by
 unfold CM at c;split at c
 case h_1=>cases c
 rename_i o ag;split at c
 case h_2=>cases c
 rename_i g s0 y ad ab;split at c
 ·split at c
  ·injection c with c
   subst c;simp only[bH] at l
  ·injection c with c
   subst c;simp only[bH] at l
  ·cases c
 have az:∃s',s=.op o.dst s' g/\((∀{F:aJ}{L:Loc}{ρ:Env}{K:dP},evalOp P s' o.dst F L ρ K->evalOp P s0 o.dst F L ρ (fun F' L' ρ'=>Real F' L'->K F' L' ρ')) \/
   ∀{F:aJ}{L:Loc}{ρ:Env}{K:dP},evalOp P s' o.dst F L ρ K->evalOp P s0 o.dst F L ρ (fun F' L' ρ'=>∃L2,L'.sameAs L2/\(Real F' L2->K F' L2 ρ'))):=by
  split at c
  ·split at c
   case h_2=>cases c
   rename_i s' aa;injection c with c
   exact⟨s',c.symm,.inl fun h=>OV aa h⟩
  ·split at c
   case h_2=>cases c
   rename_i s' aa;split at c
   case h_2=>cases c
   rename_i ak;injection c with c
   cases ae:jd s' with
   | true=>exact⟨s',c.symm,.inr fun h=>KV aa ae h⟩
   | false=>exact⟨s',c.symm,.inl fun h=>O0 aa ak ae h⟩
 obtain⟨s',bi,u⟩:=az;subst bi;have hd:∀k,o.dst=some k->k<a.tmps.size:=by
  intro k hk;rw[hk] at ab;rw[hn];have h2:Nat.blt k A.n=true:=ab;simpa using h2
 have aw:(ops[i]?).bind (·.dst)=o.dst:=by rw[ag];rfl
 rw[aw] at hQ;simp only[wpOp,ag];have r:evalOp P s' o.dst F L ρ (fun F' L' ρ'=>bH P m F' L' ρ' K)->o.wp P a w KK Q:=by
  intro l;rcases u with u | u
  ·have h1:=u l;have:=fW (Q:=Q) hs he hd ad h1;refine Oper.wp_mono ?_ (rD (asg:=[]) this);rintro z w' ⟨⟨F',L',ρ',g1,g2,g3,g4,g5,g6⟩,ac⟩;exact hQ z w' F' L' ρ' g1 g2 (by rw[g3,hn]) g4 g5 ac (g6 ⟨w',g1⟩)
  ·have h1:=u l;have:=fW (Q:=Q) hs he hd ad h1;refine Oper.wp_mono ?_ (rD (asg:=[]) this);rintro z w' ⟨⟨F',L',ρ',g1,g2,g3,g4,g5,L2,g6,g7⟩,ac⟩;have s1:St F' L2 w':=g1.part fun k o e=>by rw[<-g6 k];exact e
   exact hQ z w' F' L2 ρ' s1 (g2.same g6) (by rw[g3,hn]) g4 (g5.acF g6) ac (g7 ⟨w',s1⟩)
 have skip:bH P m F L (put o.dst (.v undef) ρ) K->KK (a.put o.dst undef) w:=by
  intro l;exact hQ _ w F L _ hs (he.put hd (v:=undef) (x:=.v undef) rfl dA fS (u9 L)) (by rw[mD,hn]) (iL _ _ _) (Step.refl _ _ _) (fun j hj=>lT hj) l
 cases t:o.guard with
 | none =>
  rw[t] at y;simp only[jl,w7] at y;subst y;simp only[bH] at l;rw[o6 (by simp[Region.wanted,t])];exact .inl (r l)
 | some p =>
  obtain⟨j,q⟩:=p;rw[t] at y;simp only[jl] at y;split at y
  case h_2=>cases y
  rename_i d al;injection y with y
  subst y;simp only[bH] at l;split at l
  ·rename_i b hb;have f:=he.eq d;rw[hb] at f;have hy:yielded ops a.tmps j=some b:=by
    simp only[yielded,al,Option.bind_some,sN f]
   have hw:Region.wanted o (yielded ops a.tmps)=(b == q):=by
    simp only[Region.wanted,t,hy];cases b<;>cases q<;>rfl
   rw[hw];cases b<;>simp only[yU] at l
   ·rw[mE hb] at l;cases q
    ·exact .inl (r l)
    ·exact skip l
   ·rw[mE hb] at l;cases q
    ·exact skip l
    ·exact .inl (r l)
  ·rename_i vs hb;have f:=he.eq d;rw[hb] at f;have hy:yielded ops a.tmps j=none:=by
    simp only[yielded,al,Option.bind_some];rw[adf] at f;cases e:a.tmps[d]? with
    | none=>rfl
    | some v=>rw[e] at f;simp only[Option.getD_some,conc] at f;rw[f]
   have hw:Region.wanted o (yielded ops a.tmps)=false:=by
    simp only[Region.wanted,t,hy];rfl
   rw[hw];exact skip l
  ·exact l.elim
theorem aN.vd {L:Loc}{ρ:Env}{a:Act}(b:aN L ρ a):Vd L ρ:=by
 intro t k off e;exact b.own t k off e
theorem vk {l:Array Bool}{z:Nat}(h:z<l.size) (b c:Bool):l.getD z b=l.getD z c:=by
 simp[adf,h]
theorem min_mem:∀{l:List Nat},l≠[]->∃y,y∈l/\∀z∈l,y<=z
 | [],h=>s6 rfl h
 | [x],_=>⟨x,by simp,fun z a=>by simp at a;omega⟩
 | x::d::l,_=>by
  obtain⟨y,c,b⟩:=min_mem (l:=d::l) (by simp)
  by_cases h:x<=y
  ·exact⟨x,by simp,fun z a=>by
    rcases acQ.1 a with rfl | a
    ·exact ac4 _
    ·exact acO h (b z a)⟩
  ·exact⟨y,adb _ c,fun z a=>by
    rcases acQ.1 a with rfl | a
    ·omega
    ·exact b z a⟩
theorem qk {i z:Nat}{o:Oper}(d:ops[i]?=some o):z∈direct ops i↔∃e∈o.after,Region.binds .any e=true/\e.on=z:=by
 simp only[direct,d,adi,List.mem_filter,Array.mem_toList_iff,binding];constructor
 ·rintro⟨e,⟨b,a⟩,c⟩;exact⟨e,b,a,c⟩
 ·rintro⟨e,b,a,c⟩;exact⟨e,⟨b,a⟩,c⟩
theorem Jz {A:cE}{cl:List (List Nat)}(az:KZ ops cl=true):∀(fuel:Nat) (l:List Nat) (ss:List aB) (b:Array Bool) (F:aJ) (L:Loc) (ρ:Env) (a:Act) (w:World),
  fZ P A ops l=some ss->b.size=ops.size->l.Nodup->(∀i,i∈l↔i<ops.size/\b.getD i true=false)->l.length<=fuel->qj cl (l.zip ss)=true ->
  (∀i,i<ops.size->b.getD i true=true->∀z∈direct ops i,b.getD z true=true) ->
  St F L w->aN L ρ a->a.tmps.size=A.n->bH P ss F L ρ K ->
  (∀a' w',fH A.n F L w a (dstsOf ops (List.range ops.size)) K a' w'->Q .normal a' w')->wpAny P .any ops Q fuel b a w:=by
 have m:∀y z,y<ops.size->z∈direct ops y->z<y:=by
  intro y z hy s;have h:=ac5.1 az y (List.mem_range.2 hy);simp only[CP,acR] at h;have h3:Nat.blt z y=true:=ac5.1 h.1 z s;simpa using h3
 intro fuel
 induction fuel with
 | zero =>
  intro l ss b F L ρ a w hl ao bd c ac hp d hs he hn hK hQ;have:l=[]:=ade (by omega);subst this;simp only[fZ,w7] at hl;subst hl;refine⟨?_,hQ a w ⟨F,L,ρ,hs,he,hn,rfl,Step.refl _ _ _,fun _ _=>rfl,hK⟩⟩;apply List.eq_nil_iff_forall_not_mem.2;intro i hi;rw[mem_ready] at hi;obtain⟨h1,o,h2,_⟩:=hi;have:=(c i).2 ⟨(Array.getElem?_eq_some_iff.1 h2).1,h1⟩;cases this
 | succ fuel ih =>
  intro l ss b F L ρ a w hl ao bd c ac hp d hs he hn hK hQ;refine⟨fun hr=>?_,fun y hy=>?_⟩
  ·have:l=[]:=by
    refine Classical.byContradiction fun r=>?_;obtain⟨y,h1,h2⟩:=min_mem r;obtain⟨h3,h4⟩:=(c y).1 h1;have ab:y∈Region.ready .any ops b:=by
     rw[mem_ready];refine⟨h4,ops[y],Array.getElem?_eq_getElem h3,fun e ag am=>?_⟩;have s:e.on∈direct ops y:=(qk (Array.getElem?_eq_getElem h3)).2 ⟨e,ag,am,rfl⟩;have cc:=m y e.on h3 s;rw[vk (by omega) false true];cases hd:b.getD e.on true with
     | true=>rfl
     | false =>
      have:=h2 e.on ((c e.on).2 ⟨by omega,hd⟩);omega
    rw[hr] at ab;cases ab
   subst this;simp only[fZ,w7] at hl;subst hl;exact hQ a w ⟨F,L,ρ,hs,he,hn,rfl,Step.refl _ _ _,fun _ _=>rfl,hK⟩
  ·rw[mem_ready] at hy;obtain⟨h1,o,ho,ak⟩:=hy;have f:=(Array.getElem?_eq_some_iff.1 ho).1;have al:=(c y).2 ⟨f,h1⟩;obtain⟨p,q,rfl⟩:=List.append_of_mem al;obtain⟨dd,ba⟩:=rF hl;obtain⟨sp,sy,sq,rfl,aa,ca,bu⟩:=ba p q y rfl;have aw:(p++y::q).zip (sp++sy::sq)=p.zip sp++(y,sy)::q.zip sq:=by
    rw[List.zip_append aa.symm];rfl
   rw[aw] at hp;obtain⟨bt,ce⟩:=wV hp;have v:∀z∈direct ops y,b.getD z true=true:=by
    intro z s;have cc:=m y z f s;obtain⟨e,ag,am,rfl⟩:=(qk ho).1 s;rw[vk (by omega) true false];exact ak e ag am
   have t:∀sx∈sp,mV sx sy=true:=by
    intro sx bA;obtain⟨k,hk⟩:=List.getElem?_of_mem bA;have dl:=(acP.1 hk).1;have bb:p[k]?=some (p[k]'(by omega)):=w8 (by omega);have hm:(p[k]'(by omega),sx)∈p.zip sp:=acS (i:=k) (by rw[List.getElem?_zip_eq_some];exact⟨bb,hk⟩);rcases ce _ hm with h | h
    ·exact h
    ·exfalso;have hd:=wU az (done:=fun z=>b.getD z true=true) d y f v _ h;have bx:p[k]'(by omega)∈p++y::q:=acN.2 (.inl (acS bb));have:=((c _).1 bx).2;simp only at hd;rw[hd] at this;cases this
   have bz:=BJ sp t ⟨w,hs⟩ he.vd hK;refine Em f ca hs he hn bz ?_;intro a' w' F' L' ρ' g1 g2 g3 g4 g5 g6 g7;have ad:(p++q).Nodup/\y∉p++q:=by
    have:=(List.perm_middle.nodup_iff).1 bd;rw[List.nodup_cons] at this;exact⟨this.2,this.1⟩
   have u:∀i,(b.setIfInBounds y true).getD i true=if i=y then true else b.getD i true:=by
    intro i;simp only[adf,Array.getElem?_setIfInBounds]
    by_cases hi:y=i
    ·subst hi;rw[o6 rfl,o6 rfl];simp[ao,f]
    ·rw[s8 hi,s8 (fun h=>hi h.symm)]
   refine ih (p++q) (sp++sq) _ F' L' ρ' a' w' bu (by simp[ao]) ad.1 (fun i=>?_) (by simp at ac ⊢;omega) ?_ ?_ g1 g2 g3 g7 ?_
   ·rw[u];have h0:=c i;constructor
    ·intro hi;have r:i≠y:=fun e=>ad.2 (e▸hi);rw[s8 r];refine h0.1 ?_;rcases acN.1 hi with h | h
     ·exact acN.2 (.inl h)
     ·exact acN.2 (.inr (adb _ h))
    ·rintro⟨bB,an⟩;split at an
     ·cases an
     ·rename_i r;have:=h0.2 ⟨bB,an⟩;rcases acN.1 this with h | h
      ·exact acN.2 (.inl h)
      ·rcases acQ.1 h with h | h
       ·exact s6 h r
       ·exact acN.2 (.inr h)
   ·rw[List.zip_append aa.symm];exact bt
   ·intro i hi hd z s;rw[u] at hd ⊢;split
    ·rfl
    ·split at hd
     ·rename_i h;subst h;exact v z s
     ·exact d i hi hd z s
   ·rintro bp bs ⟨F'',L'',aE,k1,k2,k3,k4,k5,k6,k7⟩;refine hQ bp bs ⟨F'',L'',aE,k1,k2,k3,k4.trans g4,g5.trans k5,fun j hj=>?_,k7⟩;rw[k6 j hj,g6 j];intro e;apply hj;have:∀(is:List Nat),y∈is->j∈dstsOf ops is:=by
     intro is
     induction is with
     | nil=>intro h;cases h
     | cons x is av =>
      intro h;simp only[dstsOf];rcases acQ.1 h with rfl | h
      ·rw[e];simp
      ·split
       ·exact adb _ (av h)
       ·exact av h
    exact this _ (List.mem_range.2 f)
theorem uy {A:cE}{r:Nat}{is:List Nat}{s:List (List Nat)}{ss:List aB}{F:aJ}{L:Loc}{ρ:Env}{a:Act}{w:World}(y:fZ P A ops is=some ss) (k:Gh P ops is s ss=true)
  (v:St F L w) (he:aN L ρ a) (q:a.tmps.size=A.n) (hK:bH P ss F L ρ K) (m:∀d w',fH A.n F L w a (dstsOf ops (List.range ops.size)) K d w'->Q .normal d w') :
  (Code.region r ops true).wp P Q a w:=by
 simp only[Gh,acR] at k;obtain⟨⟨⟨⟨⟨⟨h1,l⟩,f⟩,j⟩,z⟩,p⟩,h6⟩:=k;have f:=dS f;have j:=vz j;have c:∀i∈is,i<ops.size:=fun i hi=>by
  have h:Nat.blt i ops.size=true:=ac5.1 z i hi;simpa using h
 refine wp_region_any h1 ?_;show wpAny P .any ops Q ops.size (Array.replicate ops.size false) a w.drew;refine Jz l ops.size is ss _ F L ρ a w.drew y (by simp) f (fun i=>?_) (by omega) h6 ?_ v.drew he q hK ?_
 ·constructor
  ·intro hi;refine⟨c i hi,?_⟩;simp[adf,c i hi]
  ·rintro⟨hi,_⟩;exact dQ.1 (ac5.1 p i (List.mem_range.2 hi))
 ·intro i hi e;simp[adf,hi] at e
 ·rintro d w' ⟨F',L',ρ',u,t,g3,o,b,g6,x⟩;refine m d w' ⟨F',L',ρ',u,t,g3,o,?_,g6,x⟩;exact⟨b.le,b.os,b.tape,b.output,b.size,b.same,b.frz,b.own⟩
end
def mo (L L':Loc):Prop:=∀k g t cs,L.get k=some (.box g t cs)->∃cs',L'.get k=some (.box g t cs')
def zn (ks:List Nat) (L L':Loc):Prop:=∀k g t cs,L.get k=some (.box g t cs)->∃cs',L'.get k=some (.box g t cs')/\(k∉ks->cs'=cs)
structure ga (P:Program) (PX:aJ->Loc->Value->Prop) (f:Nat) (args:List Value) (F:aJ) (L:Loc) (K:aJ->Loc->Value->Prop):Prop where
 out:∃(ks ko:List Nat) (Lin:List Own) (R:aJ->List Own->Value->Prop) (Pp:aJ->List Own->Value->Prop),L.sub ks=some Lin/\ks.Nodup/\ko.Nodup/\(∀k,k∈ko->k∈ks\/L.get k=none)/\xY P f args.toArray F Lin R Pp /\
  (∀v F' Lo,F.le F'->ks.length=Lo.length->zn ks L ((L.aa7 ks).puts ks Lo)->Pp F' Lo v->PX F' ((L.aa7 ks).puts ks Lo) v) /\
  ∀v F' Lo,F.le F'->R F' Lo v->ko.length=Lo.length /\
   (∀k g t cs,k∈ks->L.get k=some (.box g t cs)->∃cs',Loc.get ((L.aa7 ks).puts ko Lo) k=some (.box g t cs')) /\
   K F' ((L.aa7 ks).puts ko Lo) v
section
variable {P:Program}{F:aJ}{L:Loc}{ρ:Env}{a:Act}{w:World}{K:dP}{o:Oper}{Q:Exit->Act->World->Prop}
theorem ga.imp {PX:aJ->Loc->Value->Prop}{f:Nat}{args:List Value}{K K':aJ->Loc->Value->Prop}(h:ga P PX f args F L K) (e:∀F' L' v,K F' L' v->K' F' L' v):ga P PX f args F L K':=by
 obtain⟨ks,ko,l,R,Pp,p,d,s,k,n,q,j⟩:=h;exact⟨ks,ko,l,R,Pp,p,d,s,k,n,q,fun v F' Lo m r=>let⟨a,b,c⟩:=j v F' Lo m r;⟨a,b,e _ _ _ c⟩⟩
theorem En {PX:aJ->Loc->Value->Prop}{f:Nat}{args:List Value}(hs:St F L w) (he:aN L ρ a) (hd:∀k,o.dst=some k->k<a.tmps.size)
  (hrun:(∃fn,P.funcs[f]?=some fn/\fn.body.isSome=true/\(fn.name == "runtime.NumGoroutine")=false)->(execOp a.eval o).run P w=.ok (.enter f args.toArray) w)
  (hK:ga P PX f args F L fun F' L' v=>K F' L' (put o.dst (.v v) ρ))
  (hQ:∀v ch w' F' L',FZ v ch->St F' L' w'->Step F L w F' L' w'->PX F' L' v->Q (.panic ch) a w'):o.wp P a w (bX F L w a K) Q:=by
 obtain⟨ks,ko,l,R,Pp,hsub,hn,hno,hko,hc,hPX,hK⟩:=hK;unfold Oper.wp;rw[hrun hc.ent];rw[Oper.upon_enter];refine(hc.run w (hs.handed hsub hn)).mono ?_;rintro e w' (⟨v,F',lo,rfl,hs',hst,hR⟩ | ⟨v,ch,F',lo,rfl,hch,hs',hst,hlo,hbx,hp⟩)
 ·obtain⟨hlen,hbox,hK⟩:=hK v F' lo hst.le hR;obtain⟨h1,h2⟩:=kh hs hsub hn hno hko hs' hst hlen;refine⟨F',_,_,h1,he.put hd (x:=.v v) rfl dA fS ?_,mD _ _ _,iL _ _ _,h2,hK⟩;intro k g ty cs e
  by_cases hk:k∈ks
  ·exact hbox k g ty cs hk e
  ·rcases eH ko lo (L.aa7 ks) k hno hlen with⟨h1,h2⟩ | ⟨i,h1,h2,h3⟩
   ·rw[h1,gH,s8 hk];exact⟨cs,e⟩
   ·rcases hko k (acS h1) with h | h
    ·exact s6 h hk
    ·rw[h] at e;cases e
 ·obtain⟨hl,hg⟩:=fE hsub;have hlen:ks.length=lo.length:=by rw[hlo,hl]
  obtain⟨h1,h2⟩:=kh hs hsub hn hn (fun k hk=>.inl hk) hs' hst hlen;refine hQ v ch w' F' _ hch h1 h2 (hPX v _ _ hst.le hlen ?_ hp);intro k g t cs e;rcases eH ks lo (L.aa7 ks) k hn hlen with⟨q1,q2⟩ | ⟨i,q1,q2,q3⟩
  ·rw[q1,gH,s8 q2];exact⟨cs,e,fun _=>rfl⟩
  ·rw[q2];have:=hg i k q1;rw[e] at this;obtain⟨cs',h⟩:=hbx i g t cs this.symm;exact⟨cs',h,fun h=>s6 (acS q1) h⟩
end
section
variable {P:Program}
theorem K0 {own:Bool}{op:Op}{f:Nat}{args:List X}(b:kO P own op=some (.call f args)):∃c,op=.call c/\c.callee=.value (.func f)/\iw c.args.toList=some args:=by
 cases op
 case call c =>
  simp only[kO] at b;split at b
  case h_1=>cases b
  rename_i e d;split at b
  ·rename_i j h;split at b
   case h_2=>cases b
   split at b
   case h_2=>cases b
   injection b with b
   injection b with e1 e2
   subst e1 e2;exact⟨c,rfl,h,d⟩
  all_goals (exfalso;revert b;repeat' split)<;>simp
 all_goals (exfalso;revert b;simp only[kO];repeat' split)<;>first | contradiction | (simp;done)
theorem JA {own:Bool}{op:Op}{x:X}{args:List X}(b:kO P own op=some (.callV x args)):∃c,op=.call c/\iw c.args.toList=some args/\((∃y,c.callee=.value y/\cQ y=some x)\/∃n nm,c.callee=.invoke (.tmp n) nm/\x=.mt nm n):=by
 cases op
 case call c =>
  simp only[kO] at b;split at b
  case h_1=>cases b
  rename_i f d;split at b
  ·exfalso;revert b;(repeat' split)<;>simp
  ·rename_i y _ e;split at b
   case h_2=>cases b
   rename_i h;injection b with b
   injection b with e1 e2
   subst e1 e2;exact⟨c,rfl,d,.inl ⟨y,e,h⟩⟩
  ·rename_i n nm e;injection b with b
   injection b with e1 e2
   subst e1 e2;exact⟨c,rfl,d,.inr ⟨_,_,e,rfl⟩⟩
  all_goals (exfalso;revert b;repeat' split)<;>simp
 all_goals (exfalso;revert b;simp only[kO];repeat' split)<;>first | contradiction | (simp;done)
theorem O1 {own:Bool}{op:Op}{x:X}(b:kO P own op=some (.pan x)):∃y,op=.panic y/\cQ y=some x:=by
 cases op
 case panic y =>
  simp only[kO] at b;split at b
  case h_2=>cases b
  rename_i c;injection b with b
  injection b with e1
  subst e1;exact⟨y,rfl,c⟩
 all_goals (exfalso;revert b;simp only[kO];repeat' split)<;>first | contradiction | (simp;done)
end
section
variable {P:Program}{F:aJ}{L:Loc}{ρ:Env}{a:Act}{w:World}{K:dP}{o:Oper}{Q:Exit->Act->World->Prop}
theorem wW {PX:aJ->Loc->Value->Prop}{own:Bool}{f:Nat}{args:List X}(q:St F L w) (j:aN L ρ a) (m:∀k,o.dst=some k->k<a.tmps.size) (r:kO P own o.op=some (.call f args))
  (t:ga P PX f (bQ L ρ args) F L fun F' L' v=>K F' L' (put o.dst (.v v) ρ))
  (l:∀v h w' F' L',FZ v h->St F' L' w'->Step F L w F' L' w'->PX F' L' v->Q (.panic h) a w'):o.wp P a w (bX F L w a K) Q:=by
 refine En q j m (fun d=>?_) t l;obtain⟨c,n,s,p⟩:=K0 r;have e:=gG p j;have b:c.args.map a.eval=(bQ L ρ args).toArray:=by apply Array.ext';simpa using e
 simp[execOp,n,resolve,s,Deferred.ofValue,Act.eval,invoke,b,kR d]
theorem ql {PX:aJ->Loc->Value->Prop}{own:Bool}{f:Nat}{x:X}{fi ca:List Value}{args:List X}(hs:St F L w) (q:aN L ρ a) (hd:∀k,o.dst=some k->k<a.tmps.size) (hl:kO P own o.op=some (.callV x args)) (h:oF P (ev ρ x)=some (f,fi,ca))
  (hK:ga P PX f (fi++bQ L ρ args++ca) F L fun F' L' v=>K F' L' (put o.dst (.v v) ρ))
  (hQ:∀v ch w' F' L',FZ v ch->St F' L' w'->Step F L w F' L' w'->PX F' L' v->Q (.panic ch) a w'):o.wp P a w (bX F L w a K) Q:=by
 refine En hs q hd (fun l=>?_) hK hQ;obtain⟨c,ho,ha,⟨y,hc,hy⟩ | ⟨n,nm,hc,rfl⟩⟩:=JA hl
 ·have ey:=aX hy q;have m:=gG ha q;have d:c.args.map a.eval=(bQ L ρ args).toArray:=by apply Array.ext';simpa using m
  have p:∀z,ev ρ x=.v z->a.eval y=z:=fun z e=>by rw[ey,dc e]
  have:=Eg (w:=w) (args:=bQ L ρ args) h p l;simp only[execOp,ho,resolve,hc,d];exact this
 ·have m:=gG ha q;have d:c.args.map a.eval=(bQ L ρ args).toArray:=by apply Array.ext';simpa using m
  simp only[ev] at h;cases r:ρ n with
  | own k off=>rw[r] at h;cases h
  | el b j=>rw[r] at h;cases h
  | v z =>
   rw[r] at h;have hz:a.eval (.tmp n)=z:=by
    have:=q.eq n;rw[r] at this;exact this
   simp only[Wm,oF] at h;split at h
   case h_2=>cases h
   rename_i t u s;split at h
   case h_2=>cases h
   rename_i f' hm;injection h with h
   injection h with e1 e2
   injection e2 with e2 e3
   subst e1 e2 e3;have ac:z=.iface t u:=by simpa using s
   subst ac;have aa:(#[Value.iface t u]++(bQ L ρ args).toArray).extract 1 (#[Value.iface t u]++(bQ L ρ args).toArray).size=(bQ L ρ args).toArray:=by apply Array.ext';simp
   have h0:(#[Value.iface t u]++(bQ L ρ args).toArray)[0]?=some (.iface t u):=by simp
   have:=kS (w:=w) (u:=u) (args:=(bQ L ρ args).toArray) hm l;simp only[execOp,ho,resolve,hc,d,hz,Sem.run_bind,Sem.run_pure,Result.andThen_ok,invoke,h0,aa,this];simp
theorem JB {PX:aJ->Loc->Value->Prop}{own:Bool}{x:X}(j:St F L w) (m:aN L ρ a) (k:kO P own o.op=some (.pan x)) {t:TypeId}{u:Value}(n:val L ρ x=.iface t u) (l:PX F L (.iface t u))
  (d:∀v c w' F' L',FZ v c->St F' L' w'->Step F L w F' L' w'->PX F' L' v->Q (.panic c) a w'):o.wp P a w (bX F L w a K) Q:=by
 obtain⟨y,h,e⟩:=O1 k;have f:=aX e m;unfold Oper.wp;have b:(execOp a.eval o).run P w=.halt (.panic (.iface t u)) w:=by
  simp[execOp,h,f,n,Instr.panic,goPanic]
 rw[b];exact d _ _ w F L (FZ.one _) j (Step.refl _ _ _) l
end
structure CallXDPt (P:Program) (PX:aJ->Loc->Value->Prop) (fb:List Nat) (f:Nat) (args:List Value) (F:aJ) (L:Loc) (K:aJ->Loc->Value->Prop):Prop where
 out:∃(ks:List Nat) (Lin:List Own) (R:aJ->List Own->Value->Prop) (Pp:aJ->List Own->Value->Prop),L.sub ks=some Lin/\ks.Nodup/\(∀k∈ks,k∉fb)/\xY P f args.toArray F Lin R Pp /\
  (∀v F' L' Lo,F.le F'->L'.sub ks=some Lo->zn ks L L'->Pp F' Lo v->PX F' L' v) /\
  ∀v F' Lo,F.le F'->R F' Lo v->ks.length=Lo.length/\(∀(i:Nat) g t cs,Lin[i]?=some (.box g t cs)->∃cs',Lo[i]?=some (.box g t cs')) /\
   (Real F' (L.puts ks Lo)->K F' (L.puts ks Lo) v)
def tD (P:Program) (L:Loc) (ρ:Env):fD->Option (Nat×List Value)
 | .call f args=>some (f,bQ L ρ args)
 | .callV f args=>match oF P (ev ρ f) with
  | some (f,fi,ca)=>some (f,fi++bQ L ρ args++ca)
  | none=>none
 | _=>none
def CQ:fD->List Nat
 | .call _ args=>dF args
 | .callV f args=>dF (f::args)
 | _=>[]
def Eo:fD->Bool
 | .call _ _=>true
 | .callV _ _=>true
 | _=>false
def bO (P:Program) (PX:aJ->Loc->Value->Prop) (fb:List Nat):List aB->aJ->Loc->Env->dP->Prop
 | [],F,L,ρ,K=>K F L ρ
 | .op d o g::a,F,L,ρ,K=>∃o',res g ρ o=some o'/\evalOp P o' d F L ρ fun F' L' ρ'=>bO P PX fb a F' L' ρ' K
 | .frz _::_,_,_,_,_=>False
 | .pc d o g::a,F,L,ρ,K=>match tD P L ρ o,g with
  | some (f,vs),none=>CallXDPt P PX fb f vs F L fun F' L' v=>bO P PX fb a F' L' (put d (.v v) ρ) K
  | _,_=>False
def K1:fD->Bool
 | .loadF _ _ _=>true
 | _=>false
def Sk:fD->Bool
 | .mkfn _ _ _=>true
 | _=>false
def V9 (o:fD):Bool:=Eh o||K1 o||Sk o
def Wp (fb:List Nat):fD->Bool
 | .loadK key _ _ _=>gS fb key
 | _=>false
theorem lW {fb:List Nat}{o:fD}(h:(V9 o||Wp fb o)=true):ef o=true:=by cases o<;>first | rfl | (exact s6 h (by decide)) | (simp[V9,Wp,Eh,K1,Sk] at h)
def vn:aB->Option Nat
 | .op d (.allocD _ _) none=>d
 | _=>none
def AW:aB->Option Nat
 | .op d _ _=>d
 | .frz _=>none
 | .pc d _ _=>d
def gZ (fb:List Nat):aB->aB->Bool
 | .op a x c,.op b y d=>mV (.op a x c) (.op b y d)
 | .op a x c,.pc b y none=>Eo y&&(V9 x||Wp fb x)&&uw a (CQ y)&&uw b (looks x c)&&El a b
 | .pc a x none,.op (some k) (.allocD _ _) none=>Eo x&&uw (some k) (CQ x)&&El a (some k)
 | _,_=>false
def HA:fD->Bool
 | .copyX _ _ _ _=>true
 | _=>false
def YC:aB->Bool
 | .op _ o _=>okD o||HA o
 | .pc _ o none=>Eo o
 | _=>false
section
variable {P:Program}{PX:aJ->Loc->Value->Prop}{fb:List Nat}{F F':aJ}{L L':Loc}{ρ:Env}{K K':dP}
theorem JC {sv:SV}(hb:mo L L') (b:∀k off,sv=.own k off->∃g t cs,L.get k=some (.box g t cs)):conc L' sv=conc L sv:=by
 cases sv with
 | v x=>rfl
 | el a j=>rfl
 | own k off =>
  obtain⟨g,t,cs,e⟩:=b k off rfl;obtain⟨cs',e'⟩:=hb k g t cs e;simp only[conc,e,e']
theorem K2 (hb:mo L L') (a:Vd L ρ) (x:X):val L' ρ x=val L ρ x:=JC hb fun k off e=>a.ev e
theorem uz (hb:mo L L') (a:Vd L ρ) (xs:List X):bQ L' ρ xs=bQ L ρ xs:=eO fun x _=>K2 hb a x
theorem zo {d:Option Nat}{v:SV}{xs:List X}(h:∀k,d=some k->k∉dF xs):bQ L (put d v ρ) xs=bQ L ρ xs:=eO fun x a=>by simp only[val,ic h x a]
theorem O2 {o:fD}(h:(V9 o||Wp fb o)=true) (c:∀j∈fb,L'.get j=L.get j) (f:F.le F') (hb:mo L L') (d:Vd L ρ) {V:SV->Prop}(a:aV o F L ρ V):aV o F' L' ρ V:=by
 simp only[V9,adl] at h;rcases h with((h | h) | h) | h
 rotate_right
 ·cases o<;>first | (cases h;done) | skip
  rename_i key m n x;have l:=c key (dQ.1 h);simp only[aV] at a ⊢;split at a
  ·rename_i k off e;split at a
   ·rename_i b;have b:=vz b;subst b;rw[l];exact a
   ·exact a.elim
  ·exact a.elim
 ·exact BF h a
 ·cases o<;>first | (cases h;done) | skip
  ·simp only[aV] at a ⊢;split at a
   ·exact a.up f
   ·exact a.up f
   ·exact a.elim
 ·cases o<;>first | (cases h;done) | skip
  simp only[aV,uz hb d] at a ⊢;exact a
theorem mo.vd (hb:mo L L') (a:Vd L ρ):Vd L' ρ:=fun t k off e=>let⟨g,ty,cs,h⟩:=a t k off e;let⟨cs',h'⟩:=hb k g ty cs h;⟨g,ty,cs',h'⟩
theorem Vd.acJ (a:Vd L ρ) (d:Option Nat) (v:Value):Vd L (put d (.v v) ρ):=by
 intro t k off e;rw[put_eq] at e;cases d with
 | none=>exact a t k off e
 | some j =>
  simp only[] at e;split at e
  ·cases e
  ·exact a t k off e
theorem wg {ks:List Nat}{Lin Lo:List Own}(d:L.sub ks=some Lin) (f:ks.Nodup) (a:ks.length=Lo.length) (h:∀(i:Nat) g t cs,Lin[i]?=some (.box g t cs)->∃cs',Lo[i]?=some (.box g t cs')) :
  mo L (L.puts ks Lo)/\(∀j,L.get j=none->(L.puts ks Lo).get j=none)/\∀j,j∉ks->(L.puts ks Lo).get j=L.get j:=by
 obtain⟨p,m⟩:=fE d;refine⟨fun k g t cs e=>?_,fun j e=>?_,fun j n=>?_⟩
 ·rcases eH ks Lo L k f a with⟨b,c⟩ | ⟨i,b,c,l⟩
  ·rw[b];exact⟨cs,e⟩
  ·rw[c];have:=m i k b;rw[e] at this;exact h i g t cs this.symm
 ·rcases eH ks Lo L j f a with⟨b,c⟩ | ⟨i,b,c,l⟩
  ·rw[b];exact e
  ·have:=m i j b;rw[e] at this;have o:=adC.1 this.symm;omega
 ·rcases eH ks Lo L j f a with⟨b,c⟩ | ⟨i,b,c,l⟩
  ·exact b
  ·exact s6 (acS b) n
theorem CallXDPt.imp {f:Nat}{args:List Value}{K K':aJ->Loc->Value->Prop}(h:CallXDPt P PX fb f args F L K)
  (p:∀F' L' v,F.le F'->mo L L'->(∀j,L.get j=none->L'.get j=none)->(∀j∈fb,L'.get j=L.get j)->Real F' L'->K F' L' v->K' F' L' v):CallXDPt P PX fb f args F L K':=by
 obtain⟨ks,l,R,Pp,n,d,m,x,r,u⟩:=h;refine⟨ks,l,R,Pp,n,d,m,x,r,fun v F' Lo k w=>?_⟩;obtain⟨a,b,c⟩:=u v F' Lo k w;obtain⟨t,o,s⟩:=wg n d a b;exact⟨a,b,fun e=>p _ _ _ k t o (fun j q=>s j fun h=>m j h q) e (c e)⟩
theorem jO {d:Option Nat}{o:fD}{g:Option (Nat×Bool)}{a:List aB} :
  bO P PX fb (.op d o g::a) F L ρ K↔∃o',res g ρ o=some o'/\evalOp P o' d F L ρ (fun F1 L1 b=>bO P PX fb a F1 L1 b K):=Iff.rfl
theorem tO:∀(ks:List Nat) (Lo:List Own) (L:Loc) {k:Nat}{o:Own},k∉ks->(L.set k o).puts ks Lo=(L.puts ks Lo).set k o
 | [],Lo,L,k,o,_=>by cases Lo<;>rfl
 | j::ks,[],L,k,o,_=>rfl
 | j::ks,p::Lo,L,k,o,h=>by
  simp only[Loc.puts];rw[set_comm L o p (fun e=>h (by simp[e])),tO ks Lo (L.set j p) (fun a=>h (by simp[a]))]
theorem HB:∀{ks:List Nat}{L:Loc}{k:Nat}{o:Own},k∉ks->(L.set k o).sub ks=L.sub ks
 | [],L,k,o,_=>rfl
 | j::ks,L,k,o,h=>by
  simp only[Loc.sub];rw[di (fun e=>h (by simp[e])),HB (fun a=>h (by simp[a]))]
theorem Ui {t s:Option Nat}{x y:fD}{gx gy:Option (Nat×Bool)}{a:List aB}(hp:mV (.op t x gx) (.op s y gy)=true) (hr:Real F L) (r:Vd L ρ) (h:bO P PX fb (.op t x gx::.op s y gy::a) F L ρ K):bO P PX fb (.op s y gy::.op t x gx::a) F L ρ K:=by
  simp only[mV,acR] at hp;obtain⟨⟨⟨⟨⟨ag,c⟩,hc⟩,h1⟩,h2⟩,h3⟩:=hp;have h1:=lV h1;have h2:=lV h2;have h3:=pM h3;have aw:∀k,s=some k->t≠some k:=fun k e e'=>h3 k e' e;rw[jO] at h;obtain⟨w,q,h⟩:=h;have f:okD jo=true:=rfl;have l:okD w=true:=by rcases eF q with rfl | rfl;exact ag;exact f
  have hy:∃n,res gy ρ y=some n:=by
   obtain⟨v,F1,L1,d⟩:=wT l hr h;rw[jO] at d;obtain⟨n,b,_⟩:=d;rw[qi h1] at b;exact⟨n,b⟩
  obtain⟨n,b⟩:=hy;have z:okD n=true:=by rcases eF b with rfl | rfl;exact c;exact f
  have hA:evalOp P w t F L ρ (fun F1 L1 m=>evalOp P n s F1 L1 m (fun F2 L2 o=>bO P PX fb a F2 L2 o K)):=by
   refine kU l hr r h ?_;rintro F1 L1 m ⟨v,rfl⟩ _ _ _ d;rw[jO] at d;obtain⟨ay,j,d⟩:=d;rw[qi h1,b] at j;injection j with j
   subst j;exact d
  have lx:∀k,s=some k->k∉dF (bY w):=by
   intro k e d;rcases eF q with rfl | rfl
   ·exact h2 k e (pO d)
   ·simp[jo,bY,dF] at d
  have ly:∀k,t=some k->k∉dF (bY n):=by
   intro k e d;rcases eF b with rfl | rfl
   ·exact h1 k e (pO d)
   ·simp[jo,bY,dF] at d
  have hB:evalOp P n s F L ρ (fun F1 L1 m=>evalOp P w t F1 L1 m (fun F2 L2 o=>bO P PX fb a F2 L2 o K)):=by
   by_cases p:n=jo
   ·subst p;simp only[jo,evalOp,aV,ev];exact zl (K:=fun F2 L2 o=>bO P PX fb a F2 L2 o K) (u:=.v undef) l lx h3 hA
   ·have ey:n=y:=by rcases eF b with h | h;exact h;exact s6 h p
    subst ey;refine KX hr ?_ ly lx h3 r hA;rcases eF q with rfl | rfl
    ·exact hc
    ·simp only[okD,adl] at c;rcases c with c | c
     ·simp only[zm,c,adN,adl];exact .inl (.inl (.inl (.inl (.inl rfl))))
     ·simp only[zm,c,adN,adl];exact .inl (.inr rfl)
  rw[jO];refine⟨n,b,kU z hr r hB ?_⟩;rintro F1 L1 m ⟨v,rfl⟩ _ _ _ d;rw[jO];exact⟨w,by rw[qi h2];exact q,d⟩
theorem Gi {f:X}{args:List X}{k:Nat}(h:k∈dF args):k∈dF (f::args):=by
 cases f<;>simp[dF,h]
theorem Ep {d:Option Nat}{v:SV}{o:fD}(h:∀k,d=some k->k∉CQ o):tD P L (put d v ρ) o=tD P L ρ o:=by
 cases o<;>try rfl
 ·rename_i f args;simp only[tD,zo h]
 ·rename_i f args;have a:∀k,d=some k->k∉dF args:=fun k e c=>h k e (Gi c);have b:ev (put d v ρ) f=ev ρ f:=ic h f (by simp);simp only[tD,zo a,b]
theorem JD (hb:mo L L') (a:Vd L ρ) (o:fD):tD P L' ρ o=tD P L ρ o:=by
 cases o<;>try rfl
 ·simp only[tD,uz hb a]
 ·simp only[tD,uz hb a]
theorem Uj {n d:Option Nat}{x y:fD}{t:Option (Nat×Bool)}{b:List aB}(hp:gZ fb (.op n x t) (.pc d y none)=true) (hr:Real F L) (q:Vd L ρ)
  (h:bO P PX fb (.op n x t::.pc d y none::b) F L ρ K):bO P PX fb (.pc d y none::.op n x t::b) F L ρ K:=by
 simp only[gZ,acR] at hp;obtain⟨⟨⟨⟨_,z⟩,s⟩,f⟩,o⟩:=hp;have s:=lV s;have f:=lV f;have o:=pM o;have ag:∀k,d=some k->n≠some k:=fun k e e'=>o k e' e;obtain⟨j,c,h⟩:=h;have a:(V9 j||Wp fb j)=true:=by rcases eF c with rfl | rfl;exact z;rfl
 rw[dn (lW a)] at h;obtain⟨v,hT,m⟩:=(gI (lW a)).ex _ h;simp only[bO,Ep s] at m ⊢;split at m
 case h_2=>exact m.elim
 refine m.imp fun F' L' u w r _ p ac l=>⟨j,by rw[qi f];exact c,?_⟩;rw[dn (lW a)];have lx:∀k,d=some k->k∉dF (bY j):=by
  intro k e l;rcases eF c with rfl | rfl
  ·exact f k e (pO l)
  ·simp[jo,bY,dF] at l
 have aa:=sO (lW a) (aJ.le_refl F') (v8 (L:=L') (ρ:=ρ) (v:=.v u) lx) (O2 a p w r q hT);refine(gI (lW a)).mono _ _ (fun v' e=>?_) aa;subst e;rw[put_comm o];exact l
theorem Uk {dx:Option Nat}{k:Nat}{t:TypeId}{zs:List Value}{x:fD}{n:List aB}(z:gZ fb (.pc dx x none) (.op (some k) (.allocD t zs) none)=true) (p:L.get k=none) (hr:Real F L) (w:Vd L ρ)
  (h:bO P PX fb (.pc dx x none::.op (some k) (.allocD t zs) none::n) F L ρ K):bO P PX fb (.op (some k) (.allocD t zs) none::.pc dx x none::n) F L ρ K:=by
 simp only[gZ,acR] at z;have h1:=lV z.1.2;have h3:=pM z.2;simp only[bO,res,w7,exists_eq_left',evalOp,p] at h ⊢;intro g ap;split at h
 case h_2=>exact h.elim
 rename_i _ _ f vs ac _;obtain⟨ks,l,R,Pp,y,e2,e0,e3,e4,e5⟩:=h;have s:k∉ks:=by
  intro s;obtain⟨hl,hg⟩:=fE y;obtain⟨i,hi⟩:=List.getElem?_of_mem s;have:=hg i k hi;rw[p] at this;have h5:=(acP.1 hi).1;have h6:=adC.1 this.symm;omega
 have o:mo L (L.set k (.box g t zs)):=fun j r u cs e=>⟨cs,Keeps.new p j r u cs e⟩;have ea:tD P (L.set k (.box g t zs)) (put (some k) (.own k 0) ρ) x=some (f,vs):=by
  rw[Ep h1,JD o w,ac]
 rw[ea];refine⟨ks,l,R,Pp,by rw[HB s];exact y,e2,e0,e3,fun v F0 L' Lo hF ad hb=>e4 v F0 L' Lo hF ad fun j r u cs e=>hb j r u cs (Keeps.new p j r u cs e),fun v F' Lo hF hR=>?_⟩;obtain⟨a,b,c⟩:=e5 v F' Lo hF hR;refine⟨a,b,fun m=>?_⟩;rw[tO ks Lo L s] at m ⊢;obtain⟨k1,k2,_⟩:=wg y e2 a b;have q:=k2 k p;have c:=c (m.down (aJ.le_refl _) m.glob (KW q));simp only[q] at c;rw[<-put_comm (d:=some k) (fun j e e'=>h3 j e' e)];exact c g m
theorem JE {x y:aB}{a:List aB}(c:gZ fb x y=true) (e:∀k,vn y=some k->L.get k=none) (d:Real F L) (b:Vd L ρ) (h:bO P PX fb (x::y::a) F L ρ K):bO P PX fb (y::x::a) F L ρ K:=by
 unfold gZ at c;split at c
 ·exact Ui c d b h
 ·exact Uj c d b h
 ·exact Uk c (e _ rfl) d b h
 ·cases c
theorem Er {y:aB}{k:Nat}(h:vn y=some k):AW y=some k:=by
 unfold vn at h;split at h
 ·exact h
 ·cases h
theorem K3 {x y:aB}(a:gZ fb x y=true) {k:Nat}(h:vn y=some k):AW x≠some k:=by
 have b:=Er h;unfold gZ at a;split at a
 ·simp only[mV,acR] at a;intro e;exact pM a.2 k e b
 ·simp[vn] at h
 ·simp only[acR] at a;intro e;exact pM a.2 k e b
 ·cases a
theorem K4 {b:Option Nat}{x:fD}{c:Option (Nat×Bool)}{y:aB}(a:gZ fb (.op b x c) y=true):okD x=true:=by
 cases y with
 | frz k=>cases a
 | op f y d=>simp only[gZ,mV,acR] at a;exact a.1.1.1.1.1
 | pc f y d =>
  unfold gZ at a;split at a
  ·rename_i e;cases e
  ·rename_i h j;injection h with q1 q2 q3
   subst q2;simp only[acR] at a;have:=lW a.1.1.1.2;simp[okD,Gg,this]
  ·rename_i e _;cases e
  ·cases a
def Wq:aB->Bool
 | .op _ o _=>okD o
 | .pc _ o none=>Eo o
 | _=>false
theorem JF {x y:aB}(a:gZ fb x y=true):Wq x=true:=by
 cases x with
 | op d o g=>exact K4 a
 | frz k=>cases y<;>cases a
 | pc d o g =>
  cases g with
  | none =>
   cases y with
   | op c y b =>
    cases c with
    | none=>cases y<;>cases b<;>cases a
    | some k =>
     cases b with
     | some q=>cases y<;>cases a
     | none =>
      cases y<;>first
       | (cases a;done)
       | (simp only[gZ,acR] at a;exact a.1.1)
   | frz k=>cases a
   | pc c y b=>cases b<;>cases a
  | some q=>cases y<;>cases a
theorem AX {x:aB}{c b:List aB}(u:Wq x=true) (w:Real F L) (l:Vd L ρ) (h:bO P PX fb (x::c) F L ρ K)
  (t:∀F1 L1 a,F.le F1->Real F1 L1->Vd L1 a->(∀j,AW x≠some j->L.get j=none->L1.get j=none)->bO P PX fb c F1 L1 a K->bO P PX fb b F1 L1 a K):bO P PX fb (x::b) F L ρ K:=by
 cases x with
 | frz k=>cases u
 | op d o g =>
  obtain⟨o',m,h⟩:=h;have p:okD o'=true:=by rcases eF m with rfl | rfl;exact u;rfl
  exact⟨o',m,mh p w l h fun F1 L1 a _ n s q r z=>t F1 L1 a n s q r z⟩
 | pc d o g =>
  unfold bO at h ⊢;split at h
  ·rename_i f args;refine h.imp fun F' L' v y n s _ q r=>t _ _ _ y q ((n.vd l).acJ d v) (fun j _ e=>s j e) r
  ·exact h.elim
theorem zp {y:aB}{s:List aB}:∀(p:List aB),(∀x∈p,gZ fb x y=true)->∀{F:aJ}{L:Loc}{ρ:Env},(∀k,vn y=some k->L.get k=none)->Real F L->Vd L ρ->bO P PX fb (p++y::s) F L ρ K->bO P PX fb (y::(p++s)) F L ρ K
 | [],_,F,L,ρ,_,_,_,h=>h
 | x::p,c,F,L,ρ,j,l,b,h=>by
  refine JE (c x (by simp)) j l b ?_;refine AX (JF (c x (by simp))) l b h fun F1 L1 n _ f a d m=>?_;exact zp p (fun z o=>c z (by simp[o])) (fun k e=>d k (K3 (c x (by simp)) e) (j k e)) f a m
end
section
variable {P:Program}{PX:aJ->Loc->Value->Prop}{fb:List Nat}{K:dP}{Q:Exit->Act->World->Prop}{ops:Array Oper}
theorem BL {ks:List Nat}(b:ks.Nodup) {i j:Nat}{hi:i<ks.length}{c:j<ks.length}(h:ks[i]=ks[j]):i=j:=by
 rw[List.nodup_iff_pairwise_ne,List.pairwise_iff_getElem] at b;rcases Nat.lt_trichotomy i j with a | d | a
 ·exact s6 h (b i j hi c a)
 ·exact d
 ·exact s6 h.symm (b j i c hi a)
theorem nQ {L:Loc}{ks:List Nat}{Lo:List Own}(f:ks.Nodup) (a:ks.length=Lo.length):((L.aa7 ks).puts ks Lo).sameAs (L.puts ks Lo):=by
 intro j;rcases eH ks Lo L j f a with⟨c,b⟩ | ⟨i,c,b,o⟩<;>rcases eH ks Lo (L.aa7 ks) j f a with⟨d,k⟩ | ⟨n,d,k,p⟩
 ·rw[c,d,gH,s8 b]
 ·exact s6 (acS d) b
 ·exact s6 (acS c) k
 ·have:i=n:=by
   have l:=(acP.1 c);have m:=(acP.1 d);obtain⟨l,e⟩:=l;obtain⟨m,h⟩:=m;exact BL f (e.trans h.symm)
  subst this;rw[b,k]
theorem zq:∀{ks:List Nat}{L:Loc}{Lo:List Own},ks.length=Lo.length->(∀(i:Nat) k,ks[i]?=some k->L.get k=Lo[i]?)->L.sub ks=some Lo
 | [],L,[],_,_=>rfl
 | [],L,_::_,h,_=>by simp at h
 | _::_,L,[],h,_=>by simp at h
 | k::ks,L,o::Lo,h,b=>by
  have a:=b 0 k rfl;have c:L.sub ks=some Lo:=zq (by simpa using h) fun i j e=>by
   have:=b (i+1) j (by rw[ady];exact e);rw[ady] at this;exact this
  have a:L.get k=some o:=a;simp only[Loc.sub,a,c]
theorem K5 {L:Loc}{ks:List Nat}{Lo:List Own}(h:ks.Nodup) (a:ks.length=Lo.length):(L.puts ks Lo).sub ks=some Lo:=by
 refine zq a fun i k e=>?_;rcases eH ks Lo L k h a with⟨f,c⟩ | ⟨j,f,c,m⟩
 ·exact s6 (acS e) c
 ·have hi:=acP.1 e;have l:=acP.1 f;obtain⟨n,b⟩:=hi;obtain⟨o,d⟩:=l;have:i=j:=BL h (b.trans d.symm);subst this;rw[c,w8 m]
theorem CallXDPt.toX {f:Nat}{args:List Value}{F:aJ}{L:Loc}{K:aJ->Loc->Value->Prop}(h:CallXDPt P PX fb f args F L K):ga P PX f args F L fun F' L' v=>∃L2,L'.sameAs L2/\(Real F' L2->K F' L2 v):=by
 obtain⟨ks,l,R,Pp,n,d,y,w,q,s⟩:=h;refine⟨ks,ks,l,R,Pp,n,d,d,fun k o=>.inl o,w,fun v F' Lo m j hb p=>q v F' _ Lo m (K5 d j) hb p,fun v F' Lo m u=>?_⟩;obtain⟨a,b,c⟩:=s v F' Lo m u;obtain⟨r,x,_⟩:=wg n d a b;refine⟨a,fun k g t cs _ e=>?_,_,nQ d a,c⟩;rw[<-nQ d a];exact r k g t cs e
theorem Es {own:Bool}{o:Oper}{s:fD}{f:Nat}{vs:List Value}{F:aJ}{L:Loc}{ρ:Env}{a:Act}{w:World}{K:dP}(h:St F L w) (m:aN L ρ a) (e:∀k,o.dst=some k->k<a.tmps.size) (j:kO P own o.op=some s) (b:tD P L ρ s=some (f,vs))
  (l:ga P PX f vs F L fun F' L' v=>K F' L' (put o.dst (.v v) ρ))
  (c:∀v d w' F' L',FZ v d->St F' L' w'->Step F L w F' L' w'->PX F' L' v->Q (.panic d) a w'):o.wp P a w (bX F L w a K) Q:=by
 cases s with
 | call n args =>
  simp only[tD,w7,Prod.mk.injEq] at b;obtain⟨rfl,rfl⟩:=b;exact wW h m e j l c
 | callV x args =>
  simp only[tD] at b;split at b
  case h_2=>cases b
  rename_i n fi ca p;simp only[w7,Prod.mk.injEq] at b;obtain⟨rfl,rfl⟩:=b;exact ql h m e j p l c
 | _=>cases b
theorem Et {o:fD}(w:HA o=true) {d:Option Nat}{F:aJ}{L:Loc}{ρ:Env}{K:dP}(h:evalOp P o d F L ρ K):evalOp P o d F L ρ fun F' L' ρ'=>(∀j,d≠some j->L.get j=none->L'.get j=none)/\K F' L' ρ':=by
 cases o<;>simp only[HA,acZ] at w;rename_i e sz dd x;simp only[evalOp] at h ⊢;generalize ev ρ dd=z1 at h ⊢;generalize ev ρ x=z2 at h ⊢;split at h
 ·obtain⟨⟨k,n,v,y,xs,ad,t,l,j,m,a,c,news,b,f,q,z,h5,h6,u,s,p⟩ | ⟨da,n,l,a,m,c,b,f,q,p⟩⟩:=h
  ·refine⟨.inl ⟨k,n,v,y,xs,ad,t,l,j,m,a,c,news,b,f,q,z,h5,h6,u,s,fun r=>⟨fun i _ hi=>?_,p r⟩⟩⟩;rw[Loc.aa4];split
   ·rename_i e;subst e;rw[b] at hi;cases hi
   ·exact hi
  ·exact⟨.inr ⟨da,n,l,a,m,c,b,f,q,fun r=>⟨fun i _ hi=>hi,p r⟩⟩⟩
 ·exact h.elim
theorem JG {A:cE}{i:Nat}{s:aB}{l:List aB}{F:aJ}{L:Loc}{ρ:Env}{a:Act}{w:World}{KK:Act->World->Prop}(hi:i<ops.size) (c:CM P A ops i=some s) (m:YC s=true) (hs:St F L w) (he:aN L ρ a) (hn:a.tmps.size=A.n)
  (y:bO P PX fb (s::l) F L ρ K)
  (hQ:∀q w' F' L' ρ',St F' L' w'->aN L' ρ' q->q.tmps.size=A.n->q.defers=a.defers->Step F L w F' L' w'->(∀j,((ops[i]?).bind (·.dst))≠some j->q.tmps.getD j undef=a.tmps.getD j undef) ->
   (∀j,AW s≠some j->L.get j=none->L'.get j=none)->bO P PX fb l F' L' ρ' K->KK q w')
  (hP:∀v ch w' F' L',FZ v ch->St F' L' w'->Step F L w F' L' w'->PX F' L' v->Q (.panic ch) a w') :
  wpOp P ops Q i KK a w:=by
 cases s with
 | frz k=>cases m
 | op d o g =>
  obtain⟨o',t,h⟩:=y;have h2:bH P [.op d o g] F L ρ (fun F' L' ρ'=>(∀j,d≠some j->L.get j=none->L'.get j=none)/\bO P PX fb l F' L' ρ' K):=by
   refine gY.2 ⟨o',t,?_⟩;have m:(okD o||HA o)=true:=m;rw[adl] at m;rcases m with m | m
   ·have az:okD o'=true:=by rcases eF t with rfl | rfl;exact m;rfl
    exact mh az ⟨w,hs⟩ he.vd h fun F1 L1 al _ _ _ _ u h6=>⟨u,h6⟩
   ·rcases eF t with rfl | rfl
    ·exact Et m h
    ·exact mh rfl ⟨w,hs⟩ he.vd h fun F1 L1 al _ _ _ _ u h6=>⟨u,h6⟩
  exact Em hi c hs he hn h2 fun q w' F' L' ρ' g1 g2 g3 g4 g5 z g7=>hQ q w' F' L' ρ' g1 g2 g3 g4 g5 z g7.1 g7.2
 | pc d o g =>
  unfold bO at y;split at y
  case h_2=>exact y.elim
  rename_i f vs ba;unfold CM at c;split at c
  case h_1=>cases c
  rename_i o x;split at c
  case h_2=>cases c
  rename_i g s0 hg ag r;rename_i o0 _ _ _ _ _ _;have ao:o.dst=d/\s0=o0/\g=none:=by
   split at c
   ·split at c
    ·injection c with c
     injection c with q1 q2 q3
     exact⟨q1,q2,rfl⟩
    ·injection c with c
     injection c with q1 q2 q3
     exact⟨q1,q2,rfl⟩
    ·cases c
   ·split at c
    ·split at c
     ·cases c
     ·cases c
    ·split at c
     ·split at c<;>cases c
     ·cases c
  obtain⟨rfl,rfl,rfl⟩:=ao;have hd:∀k,o.dst=some k->k<a.tmps.size:=by
   intro k hk;rw[hk] at r;rw[hn];have h2:Nat.blt k A.n=true:=r;simpa using h2
  have ae:(ops[i]?).bind (·.dst)=o.dst:=by rw[x];rfl
  rw[ae] at hQ;simp only[wpOp,x];have aE:o.guard=none:=by
   cases e:o.guard with
   | none=>rfl
   | some p=>obtain⟨j,b⟩:=p;rw[e] at hg;simp only[jl] at hg;split at hg<;>cases hg
  rw[o6 (by simp[Region.wanted,aE])];refine .inl ?_;have ar:=y.imp (K':=fun F' L' v=>(∀j,L.get j=none->L'.get j=none)/\bO P PX fb l F' L' (put o.dst (.v v) ρ) K) fun F' L' v _ _ h3 _ _ u=>⟨h3,u⟩;have:=Es (K:=fun F' L' ρ'=>∃L2,L'.sameAs L2/\(Real F' L2->(∀j,L.get j=none->L2.get j=none)/\bO P PX fb l F' L2 ρ' K)) hs he hd ag ba ar.toX hP;refine Oper.wp_mono ?_ (rD (asg:=[]) this);rintro q w' ⟨⟨F',L',ρ',g1,g2,g3,g4,g5,L2,z,g7⟩,ay⟩;have s1:St F' L2 w':=g1.part fun k o e=>by rw[<-z k];exact e
  obtain⟨g8,g9⟩:=g7 ⟨w',s1⟩;exact hQ q w' F' L2 ρ' s1 (g2.same z) (by rw[g3,hn]) g4 (g5.acF z) ay (fun j _ e=>g8 j e) g9
def nZ (fb:List Nat) (a:List (List Nat)):List (Nat×aB)->Bool
 | []=>true
 | (x,b)::l=>l.all (fun p=>gZ fb b p.2||gS (CN a p.1) x)&&nZ fb a l
def Gj (ss:List aB):List Nat:=ss.filterMap AW
def CR (ss:List aB):List Nat:=ss.filterMap fun s=>match s with | .op _ (.loadK key _ _ _) _=>some key | _=>none
def CS (P:Program) (ops:Array Oper) (is:List Nat) (a:List (List Nat)) (ss:List aB):Bool :=
 P.follows .mixedOrders&&KZ ops a&&bR is&&Nat.beq is.length ops.size&&is.all (fun i=>Nat.blt i ops.size)&&(List.range ops.size).all (gS is)&&nZ (CR ss) a (is.zip ss)&&ss.all YC&&bR (Gj ss)
theorem vo {d:List (List Nat)}:∀{p q:List (Nat×aB)}{y:Nat×aB},nZ fb d (p++y::q)=true->nZ fb d (p++q)=true/\∀x∈p,gZ fb x.2 y.2=true\/x.1∈CN d y.1
 | [],q,y,h=>by
  obtain⟨m,n⟩:=y;simp only[acX,nZ,acR] at h ⊢;exact⟨h.2,fun x c=>by cases c⟩
 | (o,l)::p,q,y,h=>by
  simp only[acW,nZ,acR] at h ⊢;obtain⟨j,e⟩:=h;obtain⟨k,f⟩:=vo e;have a:=ac5.1 j;refine⟨⟨ac5.2 fun z b=>a z ?_,k⟩,fun x c=>?_⟩
  ·rcases acN.1 b with b | b
   ·exact acN.2 (.inl b)
   ·exact acN.2 (.inr (adb _ b))
  ·rcases acQ.1 c with rfl | c
   ·have:=a y (acN.2 (.inr (by simp)));simp only[adl] at this;rcases this with h | h
    ·exact .inl h
    ·exact .inr (dQ.1 h)
   ·exact f x c
theorem O3 {p q:List aB}{y:aB}(h:(Gj (p++y::q)).Nodup):(Gj (p++q)).Nodup/\∀k,AW y=some k->∀z∈p++q,vn z≠some k:=by
 have e:Gj (p++y::q)=Gj p++((AW y).toList++Gj q):=by
  unfold Gj;rw[List.filterMap_append,List.filterMap_cons];cases AW y<;>rfl
 rw[e] at h;have b:(Gj p++Gj q).Nodup:=by
  refine List.Sublist.nodup ?_ h;exact List.Sublist.append (List.Sublist.refl _) (List.sublist_append_right _ _)
 refine⟨by unfold Gj at b ⊢;rw[List.filterMap_append];exact b,fun k d z a j=>?_⟩;have c:=Er j;rw[d] at h;have f:k∉Gj p++Gj q:=by
  have:(Gj p++k::Gj q).Nodup:=h;have:=(List.perm_middle.nodup_iff).1 this;rw[List.nodup_cons] at this;exact this.1
 apply f;rcases acN.1 a with a | a
 ·exact acN.2 (.inl (List.mem_filterMap.2 ⟨z,a,c⟩))
 ·exact acN.2 (.inr (List.mem_filterMap.2 ⟨z,a,c⟩))
theorem K6 {A:cE}{i:Nat}{s:aB}(a:CM P A ops i=some s):(ops[i]?).bind (·.dst)=AW s:=by
 unfold CM at a;split at a
 case h_1=>cases a
 rename_i o b;rw[b];split at a
 case h_2=>cases a
 split at a
 ·split at a
  ·injection a with a;subst a;rfl
  ·injection a with a;subst a;rfl
  ·cases a
 ·split at a
  ·split at a
   ·injection a with a;subst a;rfl
   ·cases a
  ·split at a
   ·split at a
    ·injection a with a;subst a;rfl
    ·cases a
   ·cases a
theorem Gk {A:cE}{cl:List (List Nat)}(bk:KZ ops cl=true):∀(fuel:Nat) (l:List Nat) (ss:List aB) (b:Array Bool) (F:aJ) (L:Loc) (ρ:Env) (a:Act) (w:World),
  fZ P A ops l=some ss->b.size=ops.size->l.Nodup->(∀i,i∈l↔i<ops.size/\b.getD i true=false)->l.length<=fuel->nZ fb cl (l.zip ss)=true ->
  (∀i,i<ops.size->b.getD i true=true->∀z∈direct ops i,b.getD z true=true) ->
  (∀s∈ss,YC s=true)->(Gj ss).Nodup->(∀s∈ss,∀k,vn s=some k->L.get k=none) ->
  St F L w->aN L ρ a->a.tmps.size=A.n->bO P PX fb ss F L ρ K ->
  (∀a' w',fH A.n F L w a (dstsOf ops (List.range ops.size)) K a' w'->Q .normal a' w') ->
  (∀v ch a' w' F' L',FZ v ch->St F' L' w'->Step F L w F' L' w'->a'.tmps.size=A.n->a'.defers=a.defers->(∀j,j∉dstsOf ops (List.range ops.size)->a'.tmps.getD j undef=a.tmps.getD j undef)->PX F' L' v->Q (.panic ch) a' w')->wpAny P .any ops Q fuel b a w:=by
 have r:∀y z,y<ops.size->z∈direct ops y->z<y:=by
  intro y z hy m;have h:=ac5.1 bk y (List.mem_range.2 hy);simp only[CP,acR] at h;have h3:Nat.blt z y=true:=ac5.1 h.1 z m;simpa using h3
 intro fuel
 induction fuel with
 | zero =>
  intro l ss b F L ρ a w hl bb bA c ak hp f ay bs an hs he hn hK hQ hP;have:l=[]:=ade (by omega);subst this;simp only[fZ,w7] at hl;subst hl;refine⟨?_,hQ a w ⟨F,L,ρ,hs,he,hn,rfl,Step.refl _ _ _,fun _ _=>rfl,hK⟩⟩;apply List.eq_nil_iff_forall_not_mem.2;intro i hi;rw[mem_ready] at hi;obtain⟨h1,o,h2,_⟩:=hi;have:=(c i).2 ⟨(Array.getElem?_eq_some_iff.1 h2).1,h1⟩;cases this
 | succ fuel ih =>
  intro l ss b F L ρ a w hl bb bA c ak hp f ay bs an hs he hn hK hQ hP;refine⟨fun hr=>?_,fun y hy=>?_⟩
  ·have:l=[]:=by
    refine Classical.byContradiction fun u=>?_;obtain⟨y,h1,h2⟩:=min_mem u;obtain⟨h3,h4⟩:=(c y).1 h1;have ag:y∈Region.ready .any ops b:=by
     rw[mem_ready];refine⟨h4,ops[y],Array.getElem?_eq_getElem h3,fun e aw aE=>?_⟩;have m:e.on∈direct ops y:=(qk (Array.getElem?_eq_getElem h3)).2 ⟨e,aw,aE,rfl⟩;have da:=r y e.on h3 m;rw[vk (by omega) false true];cases hd:b.getD e.on true with
     | true=>rfl
     | false =>
      have:=h2 e.on ((c e.on).2 ⟨by omega,hd⟩);omega
    rw[hr] at ag;cases ag
   subst this;simp only[fZ,w7] at hl;subst hl;exact hQ a w ⟨F,L,ρ,hs,he,hn,rfl,Step.refl _ _ _,fun _ _=>rfl,hK⟩
  ·rw[mem_ready] at hy;obtain⟨h1,o,ho,ax⟩:=hy;have d:=(Array.getElem?_eq_some_iff.1 ho).1;have az:=(c y).2 ⟨d,h1⟩;obtain⟨p,q,rfl⟩:=List.append_of_mem az;obtain⟨dC,bo⟩:=rF hl;obtain⟨sp,sy,sq,rfl,ae,bx,cr⟩:=bo p q y rfl;have bj:(p++y::q).zip (sp++sy::sq)=p.zip sp++(y,sy)::q.zip sq:=by
    rw[List.zip_append ae.symm];rfl
   rw[bj] at hp;obtain⟨ci,dd⟩:=vo hp;have ad:∀z∈direct ops y,b.getD z true=true:=by
    intro z m;have da:=r y z d m;obtain⟨e,aw,aE,rfl⟩:=(qk ho).1 m;rw[vk (by omega) true false];exact ax e aw aE
   have aa:∀sx∈sp,gZ fb sx sy=true:=by
    intro sx cy;obtain⟨k,hk⟩:=List.getElem?_of_mem cy;have eb:=(acP.1 hk).1;have bp:p[k]?=some (p[k]'(by omega)):=w8 (by omega);have hm:(p[k]'(by omega),sx)∈p.zip sp:=acS (i:=k) (by rw[List.getElem?_zip_eq_some];exact⟨bp,hk⟩);rcases dd _ hm with h | h
    ·exact h
    ·exfalso;have hd:=wU bk (done:=fun z=>b.getD z true=true) f y d ad _ h;have cw:p[k]'(by omega)∈p++y::q:=acN.2 (.inl (acS bp));have:=((c _).1 cw).2;simp only at hd;rw[hd] at this;cases this
   have cx:=zp sp aa (fun k e=>an sy (by simp) k e) ⟨w,hs⟩ he.vd hK;obtain⟨bt,cd⟩:=O3 bs;have du:(ops[y]?).bind (·.dst)=AW sy:=K6 bx;refine JG d bx (ay sy (by simp)) hs he hn cx ?_ (fun v ch w' F' L' hc h1 h2 h3=>hP v ch a w' F' L' hc h1 h2 hn rfl (fun _ _=>rfl) h3);intro a' w' F' L' ρ' g1 g2 g3 g4 g5 g6 g8 g7;have al:(p++q).Nodup/\y∉p++q:=by
    have:=(List.perm_middle.nodup_iff).1 bA;rw[List.nodup_cons] at this;exact⟨this.2,this.1⟩
   have ac:∀i,(b.setIfInBounds y true).getD i true=if i=y then true else b.getD i true:=by
    intro i;simp only[adf,Array.getElem?_setIfInBounds]
    by_cases hi:y=i
    ·subst hi;rw[o6 rfl,o6 rfl];simp[bb,d]
    ·rw[s8 hi,s8 (fun h=>hi h.symm)]
   refine ih (p++q) (sp++sq) _ F' L' ρ' a' w' cr (by simp[bb]) al.1 (fun i=>?_) (by simp at ak ⊢;omega) ?_ ?_ (fun z m=>ay z (by rcases acN.1 m with h | h<;>simp[h])) bt (fun z m k e=>g8 k (fun e2=>cd k e2 z m e) (an z (by rcases acN.1 m with h | h<;>simp[h]) k e)) g1 g2 g3 g7 ?_ ?_
   ·rw[ac];have h0:=c i;constructor
    ·intro hi;have u:i≠y:=fun e=>al.2 (e▸hi);rw[s8 u];refine h0.1 ?_;rcases acN.1 hi with h | h
     ·exact acN.2 (.inl h)
     ·exact acN.2 (.inr (adb _ h))
    ·rintro⟨cM,ba⟩;split at ba
     ·cases ba
     ·rename_i u;have:=h0.2 ⟨cM,ba⟩;rcases acN.1 this with h | h
      ·exact acN.2 (.inl h)
      ·rcases acQ.1 h with h | h
       ·exact s6 h u
       ·exact acN.2 (.inr h)
   ·rw[List.zip_append ae.symm];exact ci
   ·intro i hi hd z m;rw[ac] at hd ⊢;split
    ·rfl
    ·split at hd
     ·rename_i h;subst h;exact ad z m
     ·exact f i hi hd z m
   ·rintro ar av ⟨F'',L'',bl,k1,k2,k3,k4,k5,k6,k7⟩;refine hQ ar av ⟨F'',L'',bl,k1,k2,k3,k4.trans g4,g5.trans k5,fun j hj=>?_,k7⟩;rw[k6 j hj,g6 j];intro e;apply hj;have:∀(is:List Nat),y∈is->j∈dstsOf ops is:=by
     intro is
     induction is with
     | nil=>intro h;cases h
     | cons x is t =>
      intro h;simp only[dstsOf];rcases acQ.1 h with rfl | h
      ·rw[e];simp
      ·split
       ·exact adb _ (t h)
       ·exact t h
    exact this _ (List.mem_range.2 d)
   ·intro v ch ar av F'' L'' kc k1 k2 k3 k4 k5 k6;refine hP v ch ar av F'' L'' kc k1 (g5.trans k2) k3 (k4.trans g4) (fun j hj=>?_) k6;rw[k5 j hj,g6 j];intro e;apply hj;have:∀(is:List Nat),y∈is->j∈dstsOf ops is:=by
     intro is
     induction is with
     | nil=>intro h;cases h
     | cons x is t =>
      intro h;simp only[dstsOf];rcases acQ.1 h with rfl | h
      ·rw[e];simp
      ·split
       ·exact adb _ (t h)
       ·exact t h
    exact this _ (List.mem_range.2 d)
theorem rG {A:cE}{r:Nat}{is:List Nat}{cl:List (List Nat)}{ss:List aB}{F:aJ}{L:Loc}{ρ:Env}{a:Act}{w:World}(hl:fZ P A ops is=some ss) (y:CS P ops is cl ss=true)
  (hs:St F L w) (he:aN L ρ a) (hn:a.tmps.size=A.n) (l:∀s∈ss,∀k,vn s=some k->L.get k=none) (hK:bO P PX (CR ss) ss F L ρ K) (hQ:∀c w',fH A.n F L w a (dstsOf ops (List.range ops.size)) K c w'->Q .normal c w')
  (hP:∀v e c w' F' L',FZ v e->St F' L' w'->Step F L w F' L' w'->c.tmps.size=A.n->c.defers=a.defers->(∀j,j∉dstsOf ops (List.range ops.size)->c.tmps.getD j undef=a.tmps.getD j undef)->PX F' L' v->Q (.panic e) c w') :
  (Code.region r ops true).wp P Q a w:=by
 simp only[CS,acR] at y;obtain⟨⟨⟨⟨⟨⟨⟨⟨h1,z⟩,t⟩,x⟩,h5⟩,h7⟩,h6⟩,h8⟩,h9⟩:=y;have t:=dS t;have x:=vz x;have d:∀i∈is,i<ops.size:=fun i hi=>by
  have h:Nat.blt i ops.size=true:=ac5.1 h5 i hi;simpa using h
 refine wp_region_any h1 ?_;show wpAny P .any ops Q ops.size (Array.replicate ops.size false) a w.drew;refine Gk z ops.size is ss _ F L ρ a w.drew hl (by simp) t (fun i=>?_) (by omega) h6 ?_ (ac5.1 h8) (dS h9) l hs.drew he hn hK ?_ ?_
 ·constructor
  ·intro hi;refine⟨d i hi,?_⟩;simp[adf,d i hi]
  ·rintro⟨hi,_⟩;exact dQ.1 (ac5.1 h7 i (List.mem_range.2 hi))
 ·intro i hi m;simp[adf,hi] at m
 ·rintro c w' ⟨F',L',ρ',o,g2,q,f,b,u,p⟩;refine hQ c w' ⟨F',L',ρ',o,g2,q,f,?_,u,p⟩;exact⟨b.le,b.os,b.tape,b.output,b.size,b.same,b.frz,b.own⟩
 ·intro v e c w' F' L' gc o b q f u p;exact hP v e c w' F' L' gc o ⟨b.le,b.os,b.tape,b.output,b.size,b.same,b.frz,b.own⟩ q f u p
end
def dN:Code->List Nat
 | .region _ d _=>dstsOf d (List.range d.size)
 | .seq a b=>dN a++dN b
 | .cond _ a b=>dN a++dN b
 | .block _ c | .loop c | .scope c=>dN c
 | _=>[]
def AY:List Nat->aI->aI
 | [],x=>x
 | k::l,x=>.seq (.reg (.frz k::l.map .frz)) x
def HC:List aB->Bool
 | []=>true
 | .op _ _ _::l=>HC l
 | _::_=>false
def low (P:Program) (A:cE):Code->Option aI
 | .skip=>some .skip
 | .label _=>some .skip
 | .region r d false=>match rC P A r d (List.range d.size) with | some ss=>some (.reg ss) | none=>none
 | .region r d true=>match KS A.ord r,fZ P A d (vh A.ord r) with
  | some (is,e),some ss=>match HC ss with
   | true=>match Gh P d is e ss with
    | true=>some (AY (KR A.frz r 0) (.regD ss))
    | false=>none
   | false=>match CS P d is e ss with
    | true=>some (.regX ss)
    | false=>none
  | _,_=>none
 | .seq a b=>match low P A a,low P A b with | some x,some y=>some (.seq x y) | _,_=>none
 | .cond c a b=>match cQ c,low P A a,low P A b with | some c,some x,some y=>some (.cond c x y) | _,_,_=>none
 | .scope c=>low P A c
 | .block id c=>match low P A c with | some x=>some (.block id x) | none=>none
 | .loop c=>match low P A c with | some x=>some (.loop (dN c) x) | none=>none
 | .exit id=>some (.exit id)
 | .ret=>some .ret
 | _=>none
section
variable {P:Program}{Q:Exit->Act->World->Prop}
def tP (n:Nat) (F:aJ) (L:Loc) (w:World) (a:Act) (asg:List Nat) (PX:aJ->Loc->Value->Prop) (v:Value) (b:Act) (w':World):Prop :=
 ∃F' L',St F' L' w'/\Step F L w F' L' w'/\b.tmps.size=n/\b.defers=a.defers/\(∀j,j∉asg->b.tmps.getD j undef=a.tmps.getD j undef)/\PX F' L' v
theorem tP.after {n:Nat}{F F1:aJ}{L L1:Loc}{w m:World}{a f:Act}{asg asg1 b:List Nat}{PX PX':aJ->Loc->Value->Prop}{v:Value}{l:Act}{w':World}(d:Step F L w F1 L1 m) (e:f.defers=a.defers) (c:∀j,j∉asg1->f.tmps.getD j undef=a.tmps.getD j undef)
  (h:tP n F1 L1 m f b PX v l w') (t:∀j,j∈asg1->j∈asg) (o:∀j,j∈b->j∈asg) (p:∀F L,PX F L v->PX' F L v):tP n F L w a asg PX' v l w':=by
 obtain⟨F',L',s,r,x,q,u,y⟩:=h;exact⟨F',L',s,d.trans r,x,q.trans e,fun j k=>by rw[u j (fun h=>k (o j h)),c j (fun h=>k (t j h))],p _ _ y⟩
theorem tP.mono {n:Nat}{F:aJ}{L:Loc}{w:World}{a:Act}{asg b:List Nat}{PX:aJ->Loc->Value->Prop}{v:Value}{d:Act}{w':World}(h:tP n F L w a asg PX v d w') (c:∀j,j∈asg->j∈b):tP n F L w a b PX v d w':=by
 obtain⟨F',L',l,k,o,e,m,p⟩:=h;exact⟨F',L',l,k,o,e,fun j f=>m j (fun h=>f (c j h)),p⟩
def QQ (n:Nat) (F:aJ) (L:Loc) (w:World) (a:Act) (asg:List Nat) (PX:aJ->Loc->Value->Prop) (E:Nat->dP) (R N:dP):Exit->Act->World->Prop
 | .normal,b,w'=>fH n F L w a asg N b w'
 | .exit j,b,w'=>fH n F L w a asg (E j) b w'
 | .ret,b,w'=>fH n F L w a asg R b w'
 | .panic c,b,w'=>∃v,FZ v c/\tP n F L w a asg PX v b w'
 | _,_,_=>False
theorem fH.mono {n:Nat}{F:aJ}{L:Loc}{w:World}{a:Act}{asg b:List Nat}{K:dP}{e:Act}{w':World}(h:fH n F L w a asg K e w') (c:∀j,j∈asg->j∈b):fH n F L w a b K e w':=by
 obtain⟨F',L',ρ',p,f,r,m,o,q,l⟩:=h;exact⟨F',L',ρ',p,f,r,m,o,fun j k=>q j (fun d=>k (c j d)),l⟩
theorem fH.after {n:Nat}{F F1:aJ}{L L1:Loc}{w m:World}{a f:Act}{asg asg1 b:List Nat}{K:dP}{l:Act}{w':World}(d:Step F L w F1 L1 m) (e:f.defers=a.defers) (c:∀j,j∉asg1->f.tmps.getD j undef=a.tmps.getD j undef)
  (h:fH n F1 L1 m f b K l w') (t:∀j,j∈asg1->j∈asg) (o:∀j,j∈b->j∈asg):fH n F L w a asg K l w':=by
 obtain⟨F',L',ρ',r,q,v,p,u,x,s⟩:=h;exact⟨F',L',ρ',r,q,v,p.trans e,d.trans u,fun j k=>by rw[x j (fun h=>k (o j h)),c j (fun h=>k (t j h))],s⟩
def qN (P:Program):List ResultVar->Option (List RV)
 | []=>some []
 | .tmp t::l=>match qN P l with | some r=>some ((t,none)::r) | none=>none
 | .cell a t::l=>match P.underlying t,P.info? t,qN P l with
  | some d,some i,some r=>some ((a,some (match gV d with | true=>(true,i.size) | false=>(false,1)))::r)
  | _,_,_=>none
def zu (tmps:Array Value):ResultVar->Sem Value
 | .tmp t=>pure (tmps.getD t undef)
 | .cell a t=>do loadVar t (<-asAddr (tmps.getD a undef))
theorem rH {F:aJ}{L:Loc}{ρ:Env}{a:Act}{w:World}(hs:St F L w) (y:aN L ρ a):∀{l:List ResultVar}{rs:List RV}{K:List Value->Prop},qN P l=some rs->mU L ρ rs K ->
  ∃vs,(l.mapM (zu a.tmps)).run P w=.ok vs w/\K vs
 | [],rs,K,h,b=>by simp only[qN,w7] at h;subst h;exact⟨[],by simp,b⟩
 | .tmp t::l,rs,K,h,b=>by
  simp only[qN] at h;split at h
  case h_2=>cases h
  rename_i r hr;injection h with h;subst h
  simp only[mU] at b;obtain⟨vs,q,o⟩:=rH hs y hr b;refine⟨_,?_,o⟩;simp only[List.mapM_cons,zu,Sem.run_bind,Sem.run_pure,Result.andThen_ok];rw[q];simp[y.eq t]
 | .cell t ty::l,rs,K,h,b=>by
  simp only[qN] at h;split at h
  case h_2=>cases h
  rename_i d i r hd hi hr;injection h with h;subst h
  generalize c:(match gV d with | true=>(true,i.size) | false=>(false,1):Bool×Nat)=p at b;obtain⟨ag,n⟩:=p;have s:ag=gV d:=by cases e:gV d<;>rw[e] at c<;>injection c with q o<;>exact q.symm
  have hn:n=match gV d with | true=>i.size | false=>1:=by cases e:gV d<;>rw[e] at c<;>injection c with q o<;>exact o.symm
  simp only[mU] at b;split at b
  case h_2=>exact b.elim
  rename_i k off ac;split at b
  case h_2=>exact b.elim
  rename_i g ap cs hk;split at b
  case h_2=>exact b.elim
  rename_i x;have ab:=xZ x;have x:=jZ (CG x);obtain⟨vs,q,o⟩:=rH hs y hr b;refine⟨_,?_,o⟩;have u:=hs.own k _ hk;have m:∀j v,((cs.drop off).take n)[j]?=some v->w.cell? ((⟨g,off,none⟩:Addr).add j)=some v:=by
   intro j v z;rw[cZ,oI ab u];have hj:j<n:=by
    have:=acP.1 z;obtain⟨h,_⟩:=this;omega
   rw[List.getElem?_take_of_lt hj,adj] at z;exact z
  have hy:a.tmps.getD t undef=.pointer (some ⟨g,off,none⟩):=by rw[y.eq t];simp only[ac,conc,hk]
  have f:=ug hd hi m x hn;simp only[Instr.loadAt,Instr.sureAddr,Sem.run_bind,Sem.run_pure,Result.andThen_ok] at f;simp only[List.mapM_cons,zu,hy,asAddr,Sem.run_bind,Sem.run_pure,Result.andThen_ok,f];rw[q,s];simp
theorem uD (fn:Func) (tmps:Array Value):results fn tmps=(do let vs <-fn.results.mapM (zu tmps);pure (if h:vs.size=1 then vs[0] else .tuple vs)):=by
 unfold results;have h:(fun(r:ResultVar)=>match r with | .tmp t=>(pure (tmps.getD t undef):Sem Value) | .cell a t=>do loadVar t (<-asAddr (tmps.getD a undef)))=zu tmps:=by
  funext r
  cases r<;>rfl
 rw[<-h];rfl
theorem rI:∀(svs:List SV) (k j:Nat),uY k svs j=if k<=j then(svs[j-k]?).getD (.v undef) else .v undef
 | [],k,j=>by simp[uY]
 | v::svs,k,j=>by
  simp only[uY,put_eq]
  by_cases h:j=k
  ·subst h;simp
  ·rw[s8 h,rI svs (k+1) j]
   by_cases a:k<=j
   ·rw[o6 (by omega),o6 a,show j-k=(j-(k+1))+1 by omega,ady]
   ·rw[s8 (by omega),s8 a]
def aA (P:Program) (A:cE) (fn:Func):Option (aI×Nat×List RV×Bool) :=
 match fn.body with
 | some c=>match low P A c,qN P fn.results.toList with
  | some sc,some rs=>some (sc,fn.ntmps,rs,fn.name == "runtime.NumGoroutine")
  | _,_=>none
 | none=>none
theorem zw {Lin:List Own}:∀(vs:List Value),∀v∈vs.map SV.v,(∀k off,v=.own k off->∃g ty cs,(inp Lin).get k=some (.box g ty cs))/\(∀a j,v=.el a j->a≠none):=by
 intro vs v b;obtain⟨u,_,rfl⟩:=adi.1 b;exact⟨fun _ _ e=>(by cases e),fun _ _ e=>(by cases e)⟩
end
inductive G where
 | int (k:IntKind) (n:Int)
 | bool (b:Bool)
 | str (s:ByteArray)
 | sl (sz:Nat) (l:List G)
 | st (l:List G)
mutual
def Rd (F:aJ):G->List Value->Prop
 | .int k n,cs=>cs=[.int k n]/\(Lit.int k n).wf=true
 | .bool b,cs=>cs=[.bool b]
 | .str s,cs=>cs=[.string s]
 | .sl sz l,cs=>∃a c,cs=[.slice a l.length c]/\l.length<=c/\c<=maxLen/\(a=none->l=[]/\c=0)/\Gl F a sz 0 l
 | .st l,cs=>wX F l cs
def Gl (F:aJ) (a:Option Addr) (sz:Nat):Nat->List G->Prop
 | _,[]=>True
 | i,x::l=>(∃es,es.length=sz/\cC F a (i*sz) es/\Rd F x es)/\Gl F a sz (i+1) l
def wX (F:aJ):List G->List Value->Prop
 | [],cs=>cs=[]
 | x::l,cs=>∃c1 c2,cs=c1++c2/\Rd F x c1/\wX F l c2
end
theorem zx {F:aJ}{a:Option Addr}{sz:Nat}:∀{l:List G}{i:Nat},Gl F a sz i l↔∀j x,l[j]?=some x->∃es,es.length=sz/\cC F a ((i+j)*sz) es/\Rd F x es
 | [],i=>by simp[Gl]
 | x::l,i=>by
  simp only[Gl,zx (l:=l)];constructor
  ·rintro⟨c,d⟩ j y b;cases j with
   | zero=>simp only[ac6,w7] at b;subst b;simpa using c
   | succ j =>
    simp only[ady] at b;have:=d j y b
    rwa [show i+1+j=i+(j+1) by omega] at this
  ·intro h;refine⟨by simpa using h 0 x (by simp),fun j y b=>?_⟩;have:=h (j+1) y (by simpa using b)
   rwa [show i+(j+1)=i+1+j by omega] at this
structure Sl (F:aJ) (sz:Nat) (l:List G) (a:Option Addr) (c:Nat):Prop where
 cap:l.length<=c
 max:c<=maxLen
 nil:a=none->l=[]/\c=0
 elems:∀j x,l[j]?=some x->∃es,es.length=sz/\cC F a (j*sz) es/\Rd F x es
theorem Sn {F:aJ}{sz:Nat}{l:List G}{cs:List Value}:Rd F (.sl sz l) cs↔∃a c,cs=[.slice a l.length c]/\Sl F sz l a c:=by
 simp only[Rd];constructor
 ·rintro⟨a,c,d,b,h,f,k⟩;exact⟨a,c,d,b,h,f,fun j x e=>by have:=zx.1 k j x e;simpa using this⟩
 ·rintro⟨a,c,d,b⟩;exact⟨a,c,d,b.cap,b.max,b.nil,zx.2 fun j x e=>by have:=b.elems j x e;simpa using this⟩
theorem Sl.ne {F:aJ}{sz:Nat}{l:List G}{a:Option Addr}{c:Nat}(h:Sl F sz l a c) (b:l≠[]):a≠none:=fun e=>b (h.nil e).1
theorem aj {b:Bool}{A B:Prop}(h:b=true->A) (k:b=false->B):yU b A B:=by cases b;exact k rfl;exact h rfl
theorem aF {p:Prop}[Decidable p] {A B:Prop}(h:p->A) (k:¬p->B):yU (decide p) A B:=by
 by_cases a:p
 ·simp only[a,decide_true];exact h a
 ·simp only[a,decide_false];exact k a
theorem Fit.abU {n:Int}{K:Int->Prop}(a:-9223372036854775808<=n) (b:n<=9223372036854775807) (h:K n):Fit .i64 n K:=by
 refine⟨?_⟩;have:IntKind.wrap .i64 n=n:=by
  simp only[IntKind.wrap,IntKind.bits,IntKind.signed,adH,ado,ge_iff_le,Nat.reduceSub,Int.reducePow];split<;>omega
 rw[this];exact h
theorem wf_i64 {n:Int}(h:(Lit.int .i64 n).wf=true):-9223372036854775808<=n/\n<=9223372036854775807:=by
 simpa[Lit.wf,IntKind.min,IntKind.max,IntKind.bits,IntKind.signed] using h
end Go.Fr
namespace Go.Fr.T
open Go Go.RowKit Go.Fr
inductive C where
 | int (k:IntKind) (n:Int)
 | bool (b:Bool)
 | str (s:ByteArray)
 | sl (els:List (List C))
 | slx (els:List (List C))
 | nils
 | rw(k:Nat)
 | own (k off:Nat)
 | ifo (m:Option String) (t:TypeId) (k off:Nat)
 | ownv (k off:Nat)
 | pt (es:List C) (off:Nat)
 | elr (k j off:Nat)
 | slo (k:Nat) (offs:List Nat)
 | slp (k:Nat) (offs:List Nat) (j:Nat)
 | fn (f:Nat) (fi ca:List C)
 | agg (cs:List C)
 | tup (cs:List C)
 | nilp
 | nilf
 | ifc (t:TypeId) (c:C)
 | opq (k:Nat)
 | mval (nm:String) (c:C)
 | mof (t:TypeId) (nm:String)
 | mpr (k:Nat)
 | und
 | any
 deriving Inhabited
inductive TO where
 | box (t:TypeId) (cs:List C)
 | row (t:TypeId) (sz:Nat) (els:List (List C))
 | map (es:List (C×C))
 /-- a part of a box;what stands ahead of it and behind it names nothing of one's own -/
 | win (t:TypeId) (pre cs post:List C)
abbrev TL:=List (Nat×TO)
def TL.get:TL->Nat->Option TO
 | [],_=>none
 | (j,o)::l,k=>match Nat.beq j k with | true=>some o | false=>TL.get l k
def TL.set:TL->Nat->TO->TL
 | [],k,o=>[(k,o)]
 | (j,p)::l,k,o=>match Nat.beq j k with
  | true=>(k,o)::l
  | false=>match Nat.ble j k with
   | true=>(j,p)::TL.set l k o
   | false=>(k,o)::(j,p)::l
def TL.del:TL->Nat->TL
 | [],_=>[]
 | (j,o)::l,k=>match Nat.beq j k with | true=>TL.del l k | false=>(j,o)::TL.del l k
def TL.sub (L:TL):List Nat->Option (List TO)
 | []=>some []
 | k::ks=>match L.get k,TL.sub L ks with
  | some o,some l=>some (o::l)
  | _,_=>none
def TL.aa7 (L:TL):List Nat->TL
 | []=>L
 | k::ks=>TL.aa7 (L.del k) ks
def TL.puts (L:TL):List Nat->List TO->TL
 | k::ks,o::l=>TL.puts (L.set k o) ks l
 | _,_=>L
def jP:Nat->List TO->TL
 | _,[]=>[]
 | k,o::l=>(k,o)::jP (k+1) l
def jQ (l:List TO):TL:=jP 1000 l
def C.one:C->Bool
 | .int _ _=>true
 | .bool _=>true
 | .str _=>true
 | .sl _=>true
 | .slx _=>true
 | .nils=>true
 | .rw _=>true
 | .own _ _=>true
 | .ifo _ _ _ _=>true
 | .pt _ _=>true
 | .fn _ _ _=>true
 | .nilp=>true
 | .nilf=>true
 | .ifc _ _=>true
 | .opq _=>true
 | .mval _ _=>true
 | .mof _ _=>true
 | .mpr _=>true
 | _=>false
def eP:List C->Bool
 | []=>true
 | c::l=>match c.one with | true=>eP l | false=>false
def C.abn:C->Bool
 | .int _ _=>true
 | .bool _=>true
 | .str _=>true
 | .sl _=>true
 | .slx _=>true
 | .nils=>true
 | .pt _ _=>true
 | .nilp=>true
 | .nilf=>true
 | .ifc _ _=>true
 | .opq _=>true
 | .mval _ _=>true
 | .mof _ _=>true
 | _=>false
def j7:List C->Bool
 | []=>true
 | c::l=>match c.abn with | true=>j7 l | false=>false
def C.pure:C->Bool
 | .fn _ fi ca=>match j7 fi with | true=>j7 ca | false=>false
 | c=>c.abn
def gJ:List C->Bool
 | []=>true
 | c::l=>match c.pure with | true=>gJ l | false=>false
def C.mp (g:C->C):Nat->C->C
 | _,.int k n=>g (.int k n)
 | _,.bool b=>g (.bool b)
 | _,.str s=>g (.str s)
 | _,.sl els=>g (.sl els)
 | _,.slx els=>g (.slx els)
 | _,.nils=>g .nils
 | _,.rw j=>g (.rw j)
 | _,.own j o=>g (.own j o)
 | _,.ifo m t j o=>g (.ifo m t j o)
 | _,.ownv j o=>g (.ownv j o)
 | _,.pt es o=>g (.pt es o)
 | _,.elr j a b=>g (.elr j a b)
 | _,.slo j a=>g (.slo j a)
 | _,.slp j a b=>g (.slp j a b)
 | _,.nilp=>g .nilp
 | _,.nilf=>g .nilf
 | _,.ifc t c=>g (.ifc t c)
 | _,.opq k=>g (.opq k)
 | _,.mval nm c=>g (.mval nm c)
 | _,.mof t nm=>g (.mof t nm)
 | _,.mpr j=>g (.mpr j)
 | _,.und=>g .und
 | _,.any=>g .any
 | 0,.fn _ _ _=>.any
 | 0,.agg _=>.any
 | 0,.tup _=>.any
 | n+1,.fn f fi ca=>.fn f (fi.map (C.mp g n)) (ca.map (C.mp g n))
 | n+1,.agg cs=>.agg (cs.map (C.mp g n))
 | n+1,.tup cs=>.tup (cs.map (C.mp g n))
def iA (k:Nat):C->C
 | .int k n=>.int k n
 | .bool b=>.bool b
 | .str s=>.str s
 | .sl els=>.sl els
 | .slx els=>.slx els
 | .nils=>.nils
 | .rw j=>match Nat.beq j k with | true=>.any | false=>.rw j
 | .own j o=>.own j o
 | .ifo m t j o=>.ifo m t j o
 | .ownv j o=>.ownv j o
 | .pt es o=>.pt es o
 | .elr j a b=>match Nat.beq j k with | true=>.any | false=>.elr j a b
 | .slo j a=>.slo j a
 | .slp j a b=>.any
 | .fn f fi ca=>.fn f fi ca
 | .agg cs=>.agg cs
 | .tup cs=>.tup cs
 | .nilp=>.nilp
 | .nilf=>.nilf
 | .ifc t c=>.ifc t c
 | .opq k=>.opq k
 | .mval nm c=>.mval nm c
 | .mof t nm=>.mof t nm
 | .mpr j=>.mpr j
 | .und=>.und
 | .any=>.any
def C.kill (k:Nat) (c:C):C:=C.mp (iA k) 3 c
def C.kills:List Nat->C->C
 | [],c=>c
 | k::ks,c=>C.kills ks (c.kill k)
def rJ:C->C
 | .int k n=>.int k n
 | .bool b=>.bool b
 | .str s=>.str s
 | .sl els=>.sl els
 | .slx els=>.slx els
 | .nils=>.nils
 | .rw j=>.any
 | .own j o=>.own j o
 | .ifo m t j o=>.ifo m t j o
 | .ownv j o=>.ownv j o
 | .pt es o=>.pt es o
 | .elr j a b=>.any
 | .slo j a=>.slo j a
 | .slp j a b=>.any
 | .fn f fi ca=>.fn f fi ca
 | .agg cs=>.agg cs
 | .tup cs=>.tup cs
 | .nilp=>.nilp
 | .nilf=>.nilf
 | .ifc t c=>.ifc t c
 | .opq k=>.opq k
 | .mval nm c=>.mval nm c
 | .mof t nm=>.mof t nm
 | .mpr j=>.mpr j
 | .und=>.und
 | .any=>.any
def C.acK (c:C):C:=C.mp rJ 3 c
def oK (k:Nat) (l:List (List C)):C->C
 | .int k n=>.int k n
 | .bool b=>.bool b
 | .str s=>.str s
 | .sl els=>.sl els
 | .slx els=>.slx els
 | .nils=>.nils
 | .rw j=>match Nat.beq j k with | true=>.sl l | false=>.rw j
 | .own j o=>.own j o
 | .ifo m t j o=>.ifo m t j o
 | .ownv j o=>.ownv j o
 | .pt es o=>.pt es o
 | .elr j a b=>match Nat.beq j k with | true=>.any | false=>.elr j a b
 | .slo j a=>.slo j a
 | .slp j a b=>.any
 | .fn f fi ca=>.fn f fi ca
 | .agg cs=>.agg cs
 | .tup cs=>.tup cs
 | .nilp=>.nilp
 | .nilf=>.nilf
 | .ifc t c=>.ifc t c
 | .opq k=>.opq k
 | .mval nm c=>.mval nm c
 | .mof t nm=>.mof t nm
 | .mpr j=>.mpr j
 | .und=>.und
 | .any=>.any
def C.frz (k:Nat) (els:List (List C)) (c:C):C:=C.mp (oK k els) 3 c
def sP (k:Nat) (es:List C):C->C
 | .int k n=>.int k n
 | .bool b=>.bool b
 | .str s=>.str s
 | .sl els=>.sl els
 | .slx els=>.slx els
 | .nils=>.nils
 | .rw j=>.rw j
 | .own j o=>match Nat.beq j k with | true=>.pt es o | false=>.own j o
 | .ifo m t j o=>match Nat.beq j k with | true=>(match m with | none=>.ifc t (.pt es o) | some nm=>.mval nm (.ifc t (.pt es o))) | false=>.ifo m t j o
 | .ownv j o=>match Nat.beq j k with | true=>.pt es o | false=>.ownv j o
 | .pt es o=>.pt es o
 | .elr j a b=>.elr j a b
 | .slo j a=>match Nat.beq j k with | true=>.any | false=>.slo j a
 | .slp j a b=>.any
 | .fn f fi ca=>.fn f fi ca
 | .agg cs=>.agg cs
 | .tup cs=>.tup cs
 | .nilp=>.nilp
 | .nilf=>.nilf
 | .ifc t c=>.ifc t c
 | .opq k=>.opq k
 | .mval nm c=>.mval nm c
 | .mof t nm=>.mof t nm
 | .mpr j=>match Nat.beq j k with | true=>.any | false=>.mpr j
 | .und=>.und
 | .any=>.any
def C.frb (k:Nat) (es:List C) (c:C):C:=C.mp (sP k es) 3 c
def vp (r:Nat->Option Nat):C->C
 | .int k n=>.int k n
 | .bool b=>.bool b
 | .str s=>.str s
 | .sl els=>.sl els
 | .slx els=>.slx els
 | .nils=>.nils
 | .rw j=>match r j with | some i=>.rw i | none=>.any
 | .own j o=>match r j with | some i=>.own i o | none=>.any
 | .ifo m t j o=>match r j with | some i=>.ifo m t i o | none=>.any
 | .ownv j o=>match r j with | some i=>.own i o | none=>.any
 | .pt es o=>.pt es o
 | .elr j a b=>match r j with | some i=>.elr i a b | none=>.any
 | .slo j a=>match r j with | some i=>.slo i a | none=>.any
 | .slp j a b=>.any
 | .fn f fi ca=>.fn f fi ca
 | .agg cs=>.agg cs
 | .tup cs=>.tup cs
 | .nilp=>.nilp
 | .nilf=>.nilf
 | .ifc t c=>.ifc t c
 | .opq k=>.opq k
 | .mval nm c=>.mval nm c
 | .mof t nm=>.mof t nm
 | .mpr j=>match r j with | some i=>.mpr i | none=>.any
 | .und=>.und
 | .any=>.any
def C.ren (f:Nat->Option Nat) (c:C):C:=C.mp (vp f) 3 c
def TO.aa8 (g:C->C):TO->TO
 | .box t cs=>.box t (cs.map g)
 | .row t sz els=>.row t sz els
 | .map es=>.map es
 | .win t pre cs post=>.win t pre (cs.map g) post
def TL.aa8 (g:C->C):TL->TL
 | []=>[]
 | (k,o)::l=>(k,o.aa8 g)::TL.aa8 g l
def cn:List Nat->Nat->Nat->Option Nat
 | [],_,_=>none
 | k::ks,i,j=>match Nat.beq j k with | true=>some i | false=>cn ks (i+1) j
def bF (ko:List Nat) (j:Nat):Option Nat:=match Nat.ble 1000 j with | true=>ko[j-1000]? | false=>none
def C.can:C->C
 | .int k n=>.int k n
 | .bool b=>.bool b
 | .str s=>.str s
 | .sl els=>.sl els
 | .slx els=>.sl els
 | .nils=>.sl []
 | .rw j=>.rw j
 | .own j o=>.own j o
 | .ifo m t j o=>.ifo m t j o
 | .ownv j o=>.ownv j o
 | .pt es o=>.pt es o
 | .elr j a b=>.elr j a b
 | .slo j a=>.slo j a
 | .slp j a b=>.slp j a b
 | .fn f fi ca=>.fn f fi ca
 | .agg cs=>.agg cs
 | .tup cs=>.tup cs
 | .nilp=>.nilp
 | .nilf=>.nilf
 | .ifc t c=>.ifc t c
 | .opq k=>.opq k
 | .mval nm c=>.mval nm c
 | .mof t nm=>.mof t nm
 | .mpr j=>.mpr j
 | .und=>.und
 | .any=>.any
def C.abk:C->C
 | .int k n=>.int k n
 | .bool b=>.bool b
 | .str s=>.str s
 | .sl els=>.sl els
 | .slx els=>.sl els
 | .nils=>.sl []
 | .rw j=>.rw j
 | .own j o=>.own j o
 | .ifo m t j o=>.ifo m t j o
 | .ownv j o=>.ownv j o
 | .pt es o=>.pt es o
 | .elr j a b=>.elr j a b
 | .slo j a=>.slo j a
 | .slp j a b=>.slp j a b
 | .fn f fi ca=>.fn f fi ca
 | .agg cs=>.agg (cs.map C.can)
 | .tup cs=>.tup cs
 | .nilp=>.nilp
 | .nilf=>.nilf
 | .ifc t c=>.ifc t c
 | .opq k=>.opq k
 | .mval nm c=>.mval nm c
 | .mof t nm=>.mof t nm
 | .mpr j=>.mpr j
 | .und=>.und
 | .any=>.any
def C.abF:C->C
 | .int k n=>.int k n
 | .bool b=>.bool b
 | .str s=>.str s
 | .sl els=>.sl els
 | .slx els=>.sl els
 | .nils=>.sl []
 | .rw j=>.rw j
 | .own j o=>.own j o
 | .ifo m t j o=>.ifo m t j o
 | .ownv j o=>.ownv j o
 | .pt es o=>.pt es o
 | .elr j a b=>.elr j a b
 | .slo j a=>.slo j a
 | .slp j a b=>.slp j a b
 | .fn f fi ca=>.fn f fi ca
 | .agg cs=>.agg (cs.map C.can)
 | .tup cs=>.tup (cs.map C.abk)
 | .nilp=>.nilp
 | .nilf=>.nilf
 | .ifc t c=>.ifc t c
 | .opq k=>.opq k
 | .mval nm c=>.mval nm c
 | .mof t nm=>.mof t nm
 | .mpr j=>.mpr j
 | .und=>.und
 | .any=>.any
abbrev bg:=Nat->C
def bV (d:Option Nat) (c:C) (ρ:bg):bg :=
 match d with
 | some d=>fun j=>match Nat.beq j d with | true=>c | false=>ρ j
 | none=>ρ
def tQ:Value->C
 | .int k n=>match(Lit.int k n).wf with | true=>.int k n | false=>.any
 | .bool b=>.bool b
 | .string s=>match Nat.ble s.size maxLen with | true=>.str s | false=>.any
 | .slice none 0 0=>.nils
 | .pointer none=>.nilp
 | .nilFunc=>.nilf
 | .nilIface=>.opq 0
 | .func (.methodOf t nm) ⟨[]⟩ ⟨[]⟩=>.mof t nm
 | _=>.any
def mtC (nm:String) (c:C):C :=
 match c with
 | .ifc t c=>.mval nm (.ifc t c)
 | .ifo none t k off=>.ifo (some nm) t k off
 | _=>.any
def cv:Value->C
 | .agg cs=>.agg (cs.toList.map tQ)
 | v=>tQ v
def eD (ρ:bg):X->C
 | .t n=>ρ n
 | .c v=>cv v
 | .fn f=>.fn f [] []
 | .mt nm n=>mtC nm (ρ n)
def C.cel:C->C
 | .int k n=>.int k n
 | .bool b=>.bool b
 | .str s=>.str s
 | .sl els=>.sl els
 | .slx els=>.slx els
 | .nils=>.nils
 | .rw j=>.rw j
 | .own j o=>.own j o
 | .ifo m t j o=>.ifo m t j o
 | .ownv j o=>.own j o
 | .pt es o=>.pt es o
 | .elr j a b=>.elr j a b
 | .slo j a=>.slo j a
 | .slp j a b=>.any
 | .fn f fi ca=>.fn f fi ca
 | .agg cs=>.agg cs
 | .tup cs=>.tup cs
 | .nilp=>.nilp
 | .nilf=>.nilf
 | .ifc t c=>.ifc t c
 | .opq k=>.opq k
 | .mval nm c=>.mval nm c
 | .mof t nm=>.mof t nm
 | .mpr j=>.mpr j
 | .und=>.und
 | .any=>.any
def C.slt:C->C
 | .int k n=>.int k n
 | .bool b=>.bool b
 | .str s=>.str s
 | .sl els=>.sl els
 | .slx els=>.slx els
 | .nils=>.nils
 | .rw j=>.rw j
 | .own j o=>.ownv j o
 | .ifo m t j o=>.ifo m t j o
 | .ownv j o=>.ownv j o
 | .pt es o=>.pt es o
 | .elr j a b=>.any
 | .slo j a=>.slo j a
 | .slp j a b=>.any
 | .fn f fi ca=>.fn f fi ca
 | .agg cs=>.agg cs
 | .tup cs=>.tup cs
 | .nilp=>.nilp
 | .nilf=>.nilf
 | .ifc t c=>.ifc t c
 | .opq k=>.opq k
 | .mval nm c=>.mval nm c
 | .mof t nm=>.mof t nm
 | .mpr j=>.mpr j
 | .und=>.und
 | .any=>.any
def C.acA:C->C
 | .int k n=>.int k n
 | .bool b=>.bool b
 | .str s=>.str s
 | .sl els=>.sl els
 | .slx els=>.slx els
 | .nils=>.nils
 | .rw j=>.rw j
 | .own j o=>.own j o
 | .ifo m t j o=>.ifo m t j o
 | .ownv j o=>.own j o
 | .pt es o=>.pt es o
 | .elr j a b=>.elr j a b
 | .slo j a=>.slo j a
 | .slp j a b=>.slp j a b
 | .fn f fi ca=>.fn f fi ca
 | .agg cs=>.agg cs
 | .tup cs=>.tup cs
 | .nilp=>.nilp
 | .nilf=>.nilf
 | .ifc t c=>.ifc t c
 | .opq k=>.opq k
 | .mval nm c=>.mval nm c
 | .mof t nm=>.mof t nm
 | .mpr j=>.mpr j
 | .und=>.und
 | .any=>.any
def C.okc:C->Bool
 | .any=>false
 | .und=>false
 | .elr _ _ _=>false
 | .slo _ _=>false
 | .slp _ _ _=>false
 | .tup _=>false
 | _=>true
def eW:C->List C
 | .int k n=>[.int k n]
 | .bool b=>[.bool b]
 | .str s=>[.str s]
 | .sl els=>[.sl els]
 | .slx els=>[.slx els]
 | .nils=>[.nils]
 | .rw j=>[.rw j]
 | .own j o=>[.own j o]
 | .ifo m t j o=>[.ifo m t j o]
 | .ownv j o=>[.own j o]
 | .pt es o=>[.pt es o]
 | .elr j a b=>[.any]
 | .slo j a=>[.any]
 | .slp j a b=>[.any]
 | .fn f fi ca=>[.fn f fi ca]
 | .agg cs=>cs
 | .tup cs=>[.tup cs]
 | .nilp=>[.nilp]
 | .nilf=>[.nilf]
 | .ifc t c=>[.ifc t c]
 | .opq k=>[.opq k]
 | .mval nm c=>[.mval nm c]
 | .mof t nm=>[.mof t nm]
 | .mpr j=>[.mpr j]
 | .und=>[.und]
 | .any=>[.any]
def eI:List C->Nat->Bool
 | [],0=>true
 | _::l,n+1=>eI l n
 | _,_=>false
def DW (agg:Bool) (cs:List C):C :=
 match agg,cs with
 | true,cs=>.agg cs
 | false,[c]=>c.slt
 | false,_=>.any
def fB (ρ:bg):List X->List C
 | []=>[]
 | x::xs=>(eD ρ x).cel::fB ρ xs
def wh (ρ:bg):List X->List (List C)
 | []=>[]
 | x::xs=>(eW (eD ρ x)).map C.can::wh ρ xs
def rK (ρ:bg) (sz:Nat):List X->Bool
 | []=>true
 | x::xs=>match(eD ρ x).okc,eI (eW (eD ρ x)) sz,eP (eW (eD ρ x)),gJ (eW (eD ρ x)) with
  | true,true,true,true=>rK ρ sz xs
  | _,_,_,_=>false
def iy (cs:List C) (off:Nat) (vs:List C):List C:=cs.take off++vs++cs.drop (off+vs.length)
def wj (ρ:bg):List C->List (Nat×Nat×X)->Option (List C)
 | zs,[]=>some zs
 | zs,(off,n,x)::ps=>match(eD ρ x).okc,eI (eW (eD ρ x)) n with
  | true,true=>wj ρ (iy zs off (eW (eD ρ x))) ps
  | _,_=>none
def O4 (ρ:bg) (d:Int):Option X->Option Int
 | none=>some d
 | some x=>match eD ρ x with | .int _ i=>some i | _=>none
def Ye (mx:Bool):Int->List C->Option Int
 | a,[]=>some a
 | a,.int _ b::l=>Ye mx (match mx with | true=>if b>a then b else a | false=>if b<a then b else a) l
 | _,_=>none
abbrev iX (b:UInt8):C:=.int .u8 b.toNat
def ah (bs:List UInt8):List (List C):=bs.map fun b=>[iX b]
def fc (c:C) (K:C->Prop):Prop :=
 match c with
 | .int k n=>K (.int k n)
 | .bool b=>K (.bool b)
 | .str s=>K (.str s)
 | .sl els=>K (.sl els)
 | .slx els=>K (.slx els)
 | .nils=>K .nils
 | .rw k=>K (.rw k)
 | .own k off=>K (.own k off)
 | .ifo m t k off=>K (.ifo m t k off)
 | .ownv k off=>K (.ownv k off)
 | .pt es off=>K (.pt es off)
 | .elr k j off=>K (.elr k j off)
 | .slo k a=>K (.slo k a)
 | .slp k a j=>K (.slp k a j)
 | .fn f fi ca=>K (.fn f fi ca)
 | .agg cs=>K (.agg cs)
 | .tup cs=>K (.tup cs)
 | .nilp=>K .nilp
 | .nilf=>K .nilf
 | .ifc t c=>K (.ifc t c)
 | .opq k=>K (.opq k)
 | .mval nm c=>K (.mval nm c)
 | .mof t nm=>K (.mof t nm)
 | .mpr j=>K (.mpr j)
 | .und=>K .und
 | .any=>K .any
def fl:List C->(List C->Prop)->Prop
 | [],K=>K []
 | c::cs,K=>fc c fun c=>fl cs fun cs=>K (c::cs)
def fO:TO->(TO->Prop)->Prop
 | .box t cs,K=>fl cs fun cs=>K (.box t cs)
 | .row t sz els,K=>K (.row t sz els)
 | .map es,K=>K (.map es)
 | .win t pre cs post,K=>fl cs fun cs=>K (.win t pre cs post)
def fT:TL->(TL->Prop)->Prop
 | [],K=>K []
 | (k,o)::l,K=>fO o fun o=>fT l fun l=>K ((k,o)::l)
def yd (c:C) (K:C->Prop):Prop :=
 match c with
 | .agg cs=>fl cs fun cs=>K (.agg cs)
 | c=>fc c K
theorem HE {c:C}{K:C->Prop}:fc c K=K c:=by cases c<;>rfl
theorem gA:∀{cs:List C}{K:List C->Prop},fl cs K=K cs
 | [],K=>rfl
 | c::cs,K=>by simp only[fl,HE,gA]
theorem Wr {o:TO}{K:TO->Prop}:fO o K=K o:=by cases o<;>simp only[fO,gA]
theorem hO:∀{L:TL}{K:TL->Prop},fT L K=K L
 | [],K=>rfl
 | (k,o)::l,K=>by simp only[fT,Wr,hO]
theorem fN {c:C}{K:C->Prop}:yd c K=K c:=by cases c<;>simp only[yd,gA,HE]
mutual
/-- the bounds that all data of the machine keeps -/
def Wf:C->Prop
 | .int k n=>(Lit.int k n).wf=true
 | .str s=>s.size<=maxLen
 | .sl els=>els.length<=maxLen/\vq els
 | .slx els=>els.length<=maxLen/\vq els
 | .pt es _=>tE es
 | .fn _ fi ca=>tE fi/\tE ca
 | .agg cs=>tE cs
 | .tup cs=>tE cs
 | .slo _ offs=>offs.length<=maxLen
 | _=>True
def tE:List C->Prop
 | []=>True
 | c::l=>Wf c/\tE l
def vq:List (List C)->Prop
 | []=>True
 | es::l=>tE es/\vq l
end
def YD:List (C×C)->Prop
 | []=>True
 | (k,v)::l=>Wf k/\Wf v/\YD l
def TO.Wf:TO->Prop
 | .box _ cs=>tE cs
 | .row _ _ els=>vq els
 | .map es=>YD es
 | .win _ _ cs _=>tE cs
structure Eu (els:List (List C)) (i:Int) (sz:Nat) (K:List C->Prop):Prop where
 out:∃es,0<=i/\els[i.toNat]?=some es/\eI es sz=true/\K es
structure K7 (els:List (List C)) (j off n:Nat) (K:List C->Prop):Prop where
 out:∃es,els[j]?=some es/\eI ((es.drop off).take n) n=true/\K ((es.drop off).take n)
structure fP (els:List (List C)) (K:List UInt8->Prop):Prop where
 out:∃bs,els=ah bs/\K bs
structure tF (l h:Int) (els:List (List C)) (sz:Nat) (K:Nat->Nat->Prop):Prop where
 lo:0<=l
 le:l<=h
 hi:h<=els.length
 sizes:∀es∈els,es.length=sz
 out:K l.toNat h.toNat
structure uE (els news:List (List C)) (sz bytes:Nat) (K:Prop):Prop where
 sizes:∀es∈news,es.length=sz
 max:els.length+news.length<=maxLen
 room:(els.length+news.length)*bytes<=140737488355328
 out:K
def Ev:Bool->C->C->Option Bool
 | false,.int .i64 a,.int .i64 b=>some (decide (a=b))
 | true,.str a,.str b=>some (decide (a.data.toList=b.data.toList))
 | _,_,_=>none
def K8 (str:Bool) (key:C):List (C×C)->Option (Option C)
 | []=>some none
 | (k,v)::l=>match Ev str key k with
  | some true=>some (some v)
  | some false=>K8 str key l
  | none=>none
def Ws (str:Bool) (key val:C):List (C×C)->Option (List (C×C))
 | []=>some [(key,val)]
 | (k,v)::l=>match Ev str key k with
  | some true=>some ((key,val)::l)
  | some false=>match Ws str key val l with | some l'=>some ((k,v)::l') | none=>none
  | none=>none
structure YE (str:Bool) (es:List (C×C)) (key:C) (Y:C->Prop) (N:Prop):Prop where
 out:(∃v,K8 str key es=some (some v)/\Y v)\/(K8 str key es=some none/\N)
structure acu (str:Bool) (es:List (C×C)) (key val:C) (K:List (C×C)->Prop):Prop where
 out:∃es',Ws str key val es=some es'/\K es'
structure K9 (i:Int) (K:Nat->Prop):Prop where
 out:∃m:Nat,i=m/\K m
def xN:List Nat->TL->bg->List C->(TL->bg->List C->Prop)->Prop
 | [],L,ρ,a,K=>K L ρ a
 | k::ks,L,ρ,a,K=>match L.get k with
  | some (.row _ _ els)=>xN ks ((L.del k).aa8 (C.frz k els)) (fun j=>(ρ j).frz k els) (a.map (C.frz k els)) K
  | _=>False
def nG (L:TL):C->Bool
 | .rw k=>match L.get k with | some (.row _ _ _)=>true | _=>false
 | .own k _=>match L.get k with | some (.box _ _)=>true | some (.win _ _ _ _)=>true | _=>false
 | .ifo _ _ k _=>match L.get k with | some (.box _ _)=>true | some (.win _ _ _ _)=>true | _=>false
 | .mpr k=>match L.get k with | some (.map _)=>true | _=>false
 | .ownv _ _=>false
 | .elr _ _ _=>false
 | .slo k _=>match L.get k with | some (.box _ _)=>true | some (.win _ _ _ _)=>true | _=>false
 | .slp _ _ _=>false
 | _=>true
def gK (L:TL):Nat->C->Bool
 | n+1,.agg cs=>cs.all (gK L n)
 | n+1,.tup cs=>cs.all (gK L n)
 | n+1,.fn _ fi ca=>fi.all (gK L n)&&ca.all (gK L n)
 | 0,.agg _=>false
 | 0,.tup _=>false
 | 0,.fn _ _ _=>false
 | _,c=>nG L c
def Lb (L L1:TL) (c a:C):Prop :=
 a=.any\/(c=a/\gK L1 3 a=true)\/(c=.nils/\a=.sl [])\/(c=.nils/\∃k t sz,a=.rw k/\L.get k=none/\L1.get k=some (.row t sz []))\/∃els,c=.slx els/\a=.sl els
def Lc (L L1:TL):List C->List C->Prop
 | [],l=>l=[]
 | c::cs,l=>∃a cs',l=a::cs'/\Lb L L1 c a/\Lc L L1 cs cs'
def HF (L1:TL):TO->Bool
 | .box _ cs=>cs.all (gK L1 3)
 | .row _ _ _=>true
 | .map _=>true
 | .win _ _ cs _=>cs.all (gK L1 3)
def Yf (L L1:TL) (o o':TO):Prop:=(o=o'/\HF L1 o'=true)\/∃t cs cs',o=.box t cs/\o'=.box t cs'/\Lc L L1 cs cs'
def gives (L L1:TL):TL->Prop
 | []=>True
 | (k,o)::l=>((∃p,L.get k=some p/\Yf L L1 p o)\/(L.get k=none/\∃t sz,o=.row t sz []))/\gives L L1 l
def mW (L L1:TL):List Nat->List C->bg->Prop
 | k::ks,v::vs,ρ=>Lb L L1 (ρ k) v/\mW L L1 ks vs ρ
 | _,_,_=>True
def qO:List Nat->List C->bg->bg
 | k::ks,v::vs,ρ=>bV (some k) v (qO ks vs ρ)
 | _,_,ρ=>ρ
def bR:List Nat->Bool
 | []=>true
 | k::ks=>match gS ks k with | true=>false | false=>bR ks
def O5 (F:aJ) (b o off:Nat) (vs:List Value):Prop :=
 ∃a c t d,F b=some (.cells c t d)/\o=a+off/\∀(i:Nat) (v:Value),vs[i]?=some v->c[a+i]?=some v/\qf d (a+i)
def Ew:Option String->TypeId->Value->Value
 | none,t,u=>.iface t u
 | some nm,t,u=>.func (.method nm) #[.iface t u] #[]
mutual
def Rel (F:aJ):Loc->C->Value->Prop
 | _,.int k n,v=>v=.int k n/\(Lit.int k n).wf=true
 | _,.bool b,v=>v=.bool b
 | _,.str s,v=>v=.string s/\s.size<=maxLen
 | _,.sl els,v=>∃a c,v=.slice a els.length c/\els.length<=c/\els.length<=maxLen/\(a=none->els=[]/\c=0)/\∃sz,ij F a sz 0 els
 | _,.slx els,v=>∃a,v=.slice (some a) els.length els.length/\els.length<=maxLen/\∃sz,ij F (some a) sz 0 els
 | _,.nils,v=>v=.slice none 0 0
 | L,.rw k,v=>∃a c t sz n xs,v=.slice a n c/\L.get k=some (.row v t sz n xs)
 | L,.own k off,v=>∃g t cs,L.get k=some (.box g t cs)/\v=.pointer (some ⟨g,off,none⟩)
 | L,.ifo m ti k off,v=>∃g t cs,L.get k=some (.box g t cs)/\v=Ew m ti (.pointer (some ⟨g,off,none⟩))
 | _,.pt es off,v=>∃b o vs,v=.pointer (some ⟨b,o,none⟩)/\O5 F b o off vs/\eP es=true/\aK F [] es vs
 | L,.fn f fi ca,v=>∃fi' ca',v=.func (.func f) fi'.toArray ca'.toArray/\aK F L fi fi'/\aK F L ca ca'
 | L,.agg cs,v=>∃vs,v=.agg vs.toArray/\aK F L cs vs
 | L,.tup cs,v=>∃vs,v=.tuple vs.toArray/\aK F L cs vs
 | _,.nilp,v=>v=.pointer none
 | _,.nilf,v=>v=.nilFunc
 | _,.ifc t c,v=>∃u,v=.iface t u/\Rel F [] c u
 | _,.opq k,v=>mT k F v
 | _,.mval nm c,v=>∃u,v=.func (.method nm) #[u] #[]/\Rel F [] c u
 | _,.mof t nm,v=>v=.func (.methodOf t nm) #[] #[]
 | L,.mpr k,v=>∃g cs,L.get k=some (.box g 0 cs)/\v=.map (some g)
 | _,.und,v=>v=undef
 | _,.any,_=>True
 | _,.ownv _ _,_=>False
 | L,.elr k j off,v=>∃ad t sz n c xs,v=.pointer (some (ad.add (j*sz+off)))/\L.get k=some (.row (.slice (some ad) n c) t sz n xs)
 | L,.slo k offs,v=>∃g t cs ad,L.get k=some (.box g t cs)/\v=.slice (some ad) offs.length offs.length/\offs.length<=maxLen/\cC F (some ad) 0 (offs.map fun o=>.pointer (some ⟨g,o,none⟩))
 | _,.slp _ _ _,_=>False
def aK (F:aJ):Loc->List C->List Value->Prop
 | _,[],vs=>vs=[]
 | L,c::cs,vs=>∃v vs',vs=v::vs'/\Rel F L c v/\aK F L cs vs'
def ij (F:aJ) (a:Option Addr) (sz:Nat):Nat->List (List C)->Prop
 | _,[]=>True
 | i,es::l=>(∃vs,vs.length=sz/\cC F a (i*sz) vs/\eP es=true/\aK F [] es vs)/\ij F a sz (i+1) l
end
def aT (F:aJ) (sz:Nat):List (List C)->List Value->Prop
 | [],xs=>xs=[]
 | es::l,xs=>∃vs a,xs=vs++a/\vs.length=sz/\eP es=true/\aK F [] es vs/\aT F sz l a
def tyOk (t g a:Nat):Prop:=a<1048576/\(t=a\/t=(g+1)*1048576+a)/\a≠0
def tG (F:aJ):List (C×C)->List Value->Prop
 | [],vs=>vs=[]
 | (k,c)::l,vs=>∃b v a,vs=.agg #[b,v]::a/\Rel F [] k b/\Rel F [] c v/\tG F l a
def dW (F:aJ) (L:Loc):TO->Own->Prop
 | .box t cs,.box g b vs=>tyOk t g b/\aK F L cs vs
 | .row t sz els,.row v b d n xs=>t=b/\sz=d/\n=els.length/\(n<=maxLen/\∃a c,v=.slice a n c/\(a=none->n=0))/\aT F sz els xs
 | .map es,.box g b vs=>b=0/\tG F es vs
 | .win t pre cs post,.box g b vs=>tyOk t g b/\∃v1 e v3,vs=v1++(e++v3)/\aK F [] pre v1/\aK F L cs e/\aK F [] post v3
 | _,_=>False
def Ld (F:aJ) (L:Loc):Option TO->Option Own->Prop
 | none,none=>True
 | some to,some o=>dW F L to o
 | _,_=>False
def ep (F:aJ) (L:Loc) (M:TL):Prop:=∀k,Ld F L (M.get k) (L.get k)
def Yg (sv:SV) (v:Value):Prop:=sv=.v v\/∃b o j,sv=.el (some ⟨b,o,none⟩) j/\v=.pointer (some ⟨b,o+j,none⟩)
def bh (F:aJ) (L:Loc):C->SV->Prop
 | .own k off,sv=>sv=.own k off/\∃g t cs,L.get k=some (.box g t cs)
 | .pt es off,sv=>∃b o j vs,(sv=.v (.pointer (some ⟨b,o,none⟩))/\j=0\/sv=.el (some ⟨b,o,none⟩) j)/\O5 F b (o+j) off vs/\eP es=true/\aK F [] es vs
 | .elr k j off,sv=>∃d t sz n c xs,sv=.el (some d) (j*sz+off)/\L.get k=some (.row (.slice (some d) n c) t sz n xs)
 | .ownv k off,sv=>∃v,Yg sv v/\Rel F L (.own k off) v
 | .slp k a j,sv=>∃g t cs d,L.get k=some (.box g t cs)/\sv=.el (some d) j/\cC F (some d) 0 (a.map fun o=>.pointer (some ⟨g,o,none⟩))
 | .any,_=>True
 | c,sv=>∃v,sv=.v v/\Rel F L c v
def Kp (G:Nat->Option (Nat×TypeId)) (L:Loc):Prop:=∀k g t,G k=some (g,t)->∃cs,L.get k=some (.box g t cs)
structure TS (G:Nat->Option (Nat×TypeId)) (F:aJ) (L:Loc) (ρ:Env) (M:TL) (τ:bg):Prop where
 tl:ep F L M
 env:∀j,bh F L (τ j) (ρ j)
 kp:Kp G L
 glob:uV F
def Own.like:Own->Own->Prop
 | .box g t _,.box b d _=>g=b/\t=d
 | .row v _ sz n _,.row c _ a n' _=>v=c/\sz=a/\n=n'
 | _,_=>False
theorem Own.abf:∀o:Own,Own.like o o
 | .box ..=>⟨rfl,rfl⟩
 | .row ..=>⟨rfl,rfl,rfl⟩
theorem O5.mono {F F':aJ}(h:F.le F') {b o off:Nat}{vs:List Value}(c:O5 F b o off vs):O5 F' b o off vs:=by
 obtain⟨a,d,t,j,e,f⟩:=c;exact⟨a,d,t,j,h _ _ e,f⟩
mutual
theorem Rel.mono {F F':aJ}(h:F.le F'):∀{L:Loc}{c:C}{v:Value},Rel F L c v->Rel F' L c v
 | _,.int k n,v,r=>r
 | _,.bool b,v,r=>r
 | _,.str s,v,r=>r
 | _,.sl els,v,r=>by
  simp only[Rel] at r ⊢;obtain⟨a,c,h1,h2,h3,h4,sz,h5⟩:=r;exact⟨a,c,h1,h2,h3,h4,sz,ij.mono h h5⟩
 | _,.slx els,v,r=>by
  simp only[Rel] at r ⊢;obtain⟨a,h1,h2,sz,h5⟩:=r;exact⟨a,h1,h2,sz,ij.mono h h5⟩
 | _,.nils,v,r=>r
 | L,.rw k,v,r=>by simp only[Rel] at r ⊢;exact r
 | L,.own k off,v,r=>by simp only[Rel] at r ⊢;exact r
 | L,.ifo m ti k off,v,r=>by simp only[Rel] at r ⊢;exact r
 | _,.pt es off,v,r=>by
  simp only[Rel] at r ⊢;obtain⟨b,o,vs,h1,h2,h3,h4⟩:=r;exact⟨b,o,vs,h1,h2.mono h,h3,aK.mono h h4⟩
 | L,.fn f fi ca,v,r=>by
  simp only[Rel] at r ⊢;obtain⟨fi',ca',h1,h2,h3⟩:=r;exact⟨fi',ca',h1,aK.mono h h2,aK.mono h h3⟩
 | L,.agg cs,v,r=>by
  simp only[Rel] at r ⊢;obtain⟨vs,h1,h2⟩:=r;exact⟨vs,h1,aK.mono h h2⟩
 | L,.tup cs,v,r=>by
  simp only[Rel] at r ⊢;obtain⟨vs,h1,h2⟩:=r;exact⟨vs,h1,aK.mono h h2⟩
 | _,.nilp,v,r=>r
 | _,.nilf,v,r=>r
 | _,.ifc t c,v,r=>by
  simp only[Rel] at r ⊢;obtain⟨u,h1,h2⟩:=r;exact⟨u,h1,Rel.mono h h2⟩
 | _,.opq k,v,r=>by
  simp only[Rel] at r ⊢;exact r.mono h
 | _,.mval nm c,v,r=>by
  simp only[Rel] at r ⊢;obtain⟨u,h1,h2⟩:=r;exact⟨u,h1,Rel.mono h h2⟩
 | _,.mof t nm,v,r=>r
 | L,.mpr k,v,r=>by simp only[Rel] at r ⊢;exact r
 | _,.und,v,r=>r
 | _,.any,v,r=>trivial
 | _,.ownv _ _,v,r=>r
 | L,.elr _ _ _,v,r=>by simp only[Rel] at r ⊢;exact r
 | L,.slo _ _,v,r=>by
  simp only[Rel] at r ⊢;obtain⟨g,t,cs,ad,h1,h2,h3,h4⟩:=r;exact⟨g,t,cs,ad,h1,h2,h3,h4.mono h⟩
 | _,.slp _ _ _,v,r=>r
theorem aK.mono {F F':aJ}(h:F.le F'):∀{L:Loc}{cs:List C}{vs:List Value},aK F L cs vs->aK F' L cs vs
 | _,[],vs,r=>by simp only[aK] at r ⊢;exact r
 | L,c::cs,vs,r=>by
  simp only[aK] at r ⊢;obtain⟨v,vs',h1,h2,h3⟩:=r;exact⟨v,vs',h1,Rel.mono h h2,aK.mono h h3⟩
theorem ij.mono {F F':aJ}(h:F.le F') {a:Option Addr}{sz:Nat}:∀{i:Nat}{l:List (List C)},ij F a sz i l->ij F' a sz i l
 | _,[],r=>by simp only[ij]
 | i,es::l,r=>by
  simp only[ij] at r ⊢;obtain⟨⟨vs,h1,h2,h3,h4⟩,h5⟩:=r;exact⟨⟨vs,h1,h2.mono h,h3,aK.mono h h4⟩,ij.mono h h5⟩
end
theorem aT.mono {F F':aJ}(h:F.le F') {sz:Nat}:∀{l:List (List C)}{xs:List Value},aT F sz l xs->aT F' sz l xs
 | [],xs,r=>r
 | es::l,xs,r=>by
  simp only[aT] at r ⊢;obtain⟨vs,a,b,c,e,d,f⟩:=r;exact⟨vs,a,b,c,e,d.mono h,aT.mono h f⟩
theorem tG.mono {F F':aJ}(h:F.le F'):∀{l:List (C×C)}{vs:List Value},tG F l vs->tG F' l vs
 | [],vs,r=>r
 | (k,c)::l,vs,r=>by
  simp only[tG] at r ⊢;obtain⟨f,v,a,d,b,j,e⟩:=r;exact⟨f,v,a,d,b.mono h,j.mono h,tG.mono h e⟩
theorem dW.mono {F F':aJ}(h:F.le F') {L:Loc}:∀{o:TO}{p:Own},dW F L o p->dW F' L o p
 | .box t cs,.box g a vs,r=>⟨r.1,r.2.mono h⟩
 | .row t sz els,.row v a c n xs,r=>⟨r.1,r.2.1,r.2.2.1,r.2.2.2.1,r.2.2.2.2.mono h⟩
 | .box _ _,.row ..,r=>r.elim
 | .row ..,.box ..,r=>r.elim
 | .map _,.row ..,r=>r.elim
 | .map es,.box g a vs,r=>⟨r.1,r.2.mono h⟩
 | .win ..,.row ..,r=>r.elim
 | .win ..,.box ..,⟨d,v1,k,v3,e,f,b,j⟩=>⟨d,v1,k,v3,e,f.mono h,b.mono h,j.mono h⟩
theorem ep.mono {F F':aJ}(h:F.le F') {L:Loc}{M:TL}(r:ep F L M):ep F' L M:=by
 intro k;have:=r k
 revert this
 cases M.get k<;>cases L.get k<;>simp only[Ld]<;>first | exact fun h=>h | exact fun r=>r.mono h
theorem bh.mono {F F':aJ}(h:F.le F') {L:Loc}{c:C}{sv:SV}(r:bh F L c sv):bh F' L c sv:=by
 cases c<;>simp only[bh] at r ⊢
 case own=>exact r
 case pt =>
  obtain⟨b,o,j,vs,d,a,e,f⟩:=r;exact⟨b,o,j,vs,d,a.mono h,e,f.mono h⟩
 case elr=>exact r
 case slp =>
  obtain⟨g,t,cs,k,d,a,e⟩:=r;exact⟨g,t,cs,k,d,a,e.mono h⟩
 all_goals
  obtain⟨v,d,a⟩:=r;exact⟨v,d,a.mono h⟩
theorem kV {F:aJ}{L:Loc}:∀{cs:List C}{vs:List Value},aK F L cs vs↔vs.length=cs.length/\∀(i:Nat) c v,cs[i]?=some c->vs[i]?=some v->Rel F L c v
 | [],vs=>by
  simp only[aK];constructor
  ·rintro rfl;simp
  ·rintro⟨h,_⟩;exact List.length_eq_zero_iff.1 (by simpa using h)
 | c::cs,vs=>by
  simp only[aK,kV (cs:=cs)];constructor
  ·rintro⟨v,b,rfl,d,f,l⟩;refine⟨by simp[f],fun i j k e a=>?_⟩;cases i with
   | zero=>simp only[ac6,w7] at e a;subst e a;exact d
   | succ i=>exact l i j k (by simpa using e) (by simpa using a)
  ·rintro⟨d,f⟩
   match vs,d with
   | v::b,d=>exact⟨v,b,rfl,f 0 c v (by simp) (by simp),by simpa using d,fun i j k e a=>f (i+1) j k (by simpa using e) (by simpa using a)⟩
theorem aK.len {F:aJ}{L:Loc}{cs:List C}{vs:List Value}(h:aK F L cs vs):vs.length=cs.length:=(kV.1 h).1
theorem aK.at {F:aJ}{L:Loc}{cs:List C}{vs:List Value}(h:aK F L cs vs) {i:Nat}{c:C}{v:Value}(b:cs[i]?=some c) (a:vs[i]?=some v):Rel F L c v:=(kV.1 h).2 i c v b a
theorem aK.append {F:aJ}{L:Loc}{cs ds:List C}{vs us:List Value}(h:aK F L cs vs) (k:aK F L ds us):aK F L (cs++ds) (vs++us):=by
 induction cs generalizing vs with
 | nil=>simp only[aK] at h;subst h;exact k
 | cons c cs e =>
  simp only[aK] at h;obtain⟨v,d,rfl,b,a⟩:=h;simp only[acW,aK];exact⟨v,_,rfl,b,e a⟩
theorem aK.drop {F:aJ}{L:Loc}{cs:List C}{vs:List Value}(h:aK F L cs vs) (n:Nat):aK F L (cs.drop n) (vs.drop n):=by
 rw[kV] at h ⊢;refine⟨by simp[h.1],fun i c v b a=>?_⟩;rw[adj] at b a;exact h.2 _ _ _ b a
theorem aK.take {F:aJ}{L:Loc}{cs:List C}{vs:List Value}(h:aK F L cs vs) (n:Nat):aK F L (cs.take n) (vs.take n):=by
 rw[kV] at h ⊢;refine⟨by simp[h.1],fun i c v a b=>?_⟩;rw[adn] at a b;split at a
 ·rw[o6 (by assumption)] at b;exact h.2 _ _ _ a b
 ·cases a
theorem n8 {F:aJ}{a:Option Addr}{sz:Nat}:∀{l:List (List C)}{i:Nat},ij F a sz i l↔∀(j:Nat) es,l[j]?=some es->∃vs,vs.length=sz/\cC F a ((i+j)*sz) vs/\eP es=true/\aK F [] es vs
 | [],i=>by simp[ij]
 | x::l,i=>by
  simp only[ij,n8 (l:=l)];constructor
  ·rintro⟨c,d⟩ j y b;cases j with
   | zero=>simp only[ac6,w7] at b;subst b;simpa using c
   | succ j =>
    simp only[ady] at b;have:=d j y b
    rwa [show i+1+j=i+(j+1) by omega] at this
  ·intro h;refine⟨by simpa using h 0 x (by simp),fun j y b=>?_⟩;have:=h (j+1) y (by simpa using b)
   rwa [show i+(j+1)=i+1+j by omega] at this
theorem j8 {F:aJ}{sz:Nat}:∀{l:List (List C)}{xs:List Value},aT F sz l xs->xs.length=l.length*sz
 | [],xs,h=>by simp only[aT] at h;subst h;simp
 | es::l,xs,h=>by
  simp only[aT] at h;obtain⟨vs,b,rfl,a,_,_,c⟩:=h;simp only[yo,j8 c,a,xo,Nat.add_mul];omega
theorem aT.append {F:aJ}{sz:Nat}:∀{l m:List (List C)}{xs ys:List Value},aT F sz l xs->aT F sz m ys->aT F sz (l++m) (xs++ys)
 | [],m,xs,ys,h,k=>by simp only[aT] at h;subst h;exact k
 | es::l,m,xs,ys,h,k=>by
  simp only[aT] at h;obtain⟨vs,a,rfl,b,d,c,e⟩:=h;simp only[acW,aT];exact⟨vs,a++ys,by simp,b,d,c,aT.append e k⟩
theorem aT.at {F:aJ}{sz:Nat}:∀{l:List (List C)}{xs:List Value},aT F sz l xs->∀{j:Nat}{es:List C},l[j]?=some es->∃vs,vs.length=sz/\eP es=true/\aK F [] es vs/\∀(i:Nat) v,vs[i]?=some v->xs[j*sz+i]?=some v
 | [],xs,h,j,es,e=>by simp at e
 | x::l,xs,h,j,es,e=>by
  simp only[aT] at h;obtain⟨vs,c,rfl,b,p,f,o⟩:=h;cases j with
  | zero =>
   simp only[ac6,w7] at e;subst e;refine⟨vs,b,p,f,fun i v a=>?_⟩;have:i<vs.length:=(acP.1 a).1;rw[Nat.zero_mul,Nat.zero_add,acY this];exact a
  | succ j =>
   obtain⟨us,n,d,m,k⟩:=aT.at o (by simpa using e);refine⟨us,n,d,m,fun i v a=>?_⟩;rw[ac7 (by rw[b,Nat.add_mul];omega),show(j+1)*sz+i-vs.length=j*sz+i by rw[b,Nat.add_mul];omega];exact k i v a
theorem aT.frz {F:aJ}{sz:Nat}{l:List (List C)}{xs:List Value}(h:aT F sz l xs) {a:Addr}(s:cC F (some a) 0 xs):ij F (some a) sz 0 l:=by
 rw[n8];intro j es r;obtain⟨vs,o,d,q,k⟩:=h.at r;refine⟨vs,o,?_,d,q⟩;obtain⟨n,c,t,m,e,hb,b,p⟩:=s;refine⟨n,c,t,m,e,hb,b,fun i v f=>?_⟩;have:=p (j*sz+i) v (k i v f);simpa[Nat.add_assoc] using this
theorem jA:∀{l:List C},eP l=true↔∀c∈l,c.one=true
 | []=>by simp[eP]
 | c::l=>by
  simp only[eP];cases h:c.one
  ·simp[h]
  ·simp[h,jA]
theorem qm:∀{l:List C},gJ l=true↔∀c∈l,c.pure=true
 | []=>by simp[gJ]
 | c::l=>by
  simp only[gJ];cases h:c.pure
  ·simp[h]
  ·simp[h,qm]
theorem rL:∀{l:List C},j7 l=true↔∀c∈l,c.abn=true
 | []=>by simp[j7]
 | c::l=>by
  simp only[j7];cases h:c.abn
  ·simp[h]
  ·simp[h,rL]
theorem Rel.one {F:aJ}{L:Loc}{c:C}{v:Value}(h:Rel F L c v) (d:c.one=true):v.oneCell'=true:=by
 cases c<;>simp only[C.one,acZ] at d<;>simp only[Rel] at h
 case int=>obtain⟨rfl,_⟩:=h;rfl
 case bool=>subst h;rfl
 case str=>obtain⟨rfl,_⟩:=h;rfl
 case sl=>obtain⟨a,c,rfl,_⟩:=h;rfl
 case slx=>obtain⟨a,rfl,_⟩:=h;rfl
 case nils=>subst h;rfl
 case own=>obtain⟨g,t,cs,_,rfl⟩:=h;rfl
 case ifo m _ _ _=>obtain⟨g,t,cs,_,rfl⟩:=h;cases m<;>rfl
 case pt=>obtain⟨b,o,vs,rfl,_⟩:=h;rfl
 case fn=>obtain⟨a,b,rfl,_⟩:=h;rfl
 case nilp=>subst h;rfl
 case nilf=>subst h;rfl
 case ifc=>obtain⟨u,rfl,_⟩:=h;rfl
 case opq=>exact h.one
 case mval=>obtain⟨u,rfl,_⟩:=h;rfl
 case mof=>subst h;rfl
 case mpr=>obtain⟨g,cs,_,rfl⟩:=h;rfl
 case rw=>obtain⟨a,c,t,sz,n,xs,rfl,_⟩:=h;rfl
mutual
theorem Rel.wf {F:aJ}:∀{L:Loc}{c:C}{v:Value},Rel F L c v->Wf c
 | _,.int k n,v,r=>by simp only[Rel] at r;simp only[Wf];exact r.2
 | _,.bool b,v,r=>by simp only[Wf]
 | _,.str s,v,r=>by simp only[Rel] at r;simp only[Wf];exact r.2
 | _,.sl els,v,r=>by
  simp only[Rel] at r;obtain⟨a,c,h1,h2,h3,h4,sz,h5⟩:=r;simp only[Wf];exact⟨h3,ij.wf h5⟩
 | _,.slx els,v,r=>by
  simp only[Rel] at r;obtain⟨a,h1,h2,sz,h5⟩:=r;simp only[Wf];exact⟨h2,ij.wf h5⟩
 | _,.nils,v,r=>by simp only[Wf]
 | L,.rw k,v,r=>by simp only[Wf]
 | L,.own k off,v,r=>by simp only[Wf]
 | L,.ifo _ _ _ _,v,r=>by simp only[Wf]
 | _,.pt es off,v,r=>by
  simp only[Rel] at r;obtain⟨b,o,vs,h1,h2,h3,h4⟩:=r;simp only[Wf];exact aK.wf h4
 | L,.fn f fi ca,v,r=>by
  simp only[Rel] at r;obtain⟨fi',ca',h1,h2,h3⟩:=r;simp only[Wf];exact⟨aK.wf h2,aK.wf h3⟩
 | L,.agg cs,v,r=>by
  simp only[Rel] at r;obtain⟨vs,h1,h2⟩:=r;simp only[Wf];exact aK.wf h2
 | L,.tup cs,v,r=>by
  simp only[Rel] at r;obtain⟨vs,h1,h2⟩:=r;simp only[Wf];exact aK.wf h2
 | _,.nilp,v,r=>by simp only[Wf]
 | _,.nilf,v,r=>by simp only[Wf]
 | _,.ifc _ _,v,r=>by simp only[Wf]
 | _,.opq _,v,r=>by simp only[Wf]
 | _,.mval _ _,v,r=>by simp only[Wf]
 | _,.mof _ _,v,r=>by simp only[Wf]
 | _,.mpr _,v,r=>by simp only[Wf]
 | _,.und,v,r=>by simp only[Wf]
 | _,.any,v,r=>by simp only[Wf]
 | _,.ownv _ _,v,r=>by simp only[Wf]
 | _,.elr _ _ _,v,r=>by simp only[Wf]
 | _,.slo _ _,v,r=>by
  simp only[Rel] at r;obtain⟨g,t,cs,ad,h1,h2,h3,h4⟩:=r;simp only[Wf];exact h3
 | _,.slp _ _ _,v,r=>by simp only[Wf]
theorem aK.wf {F:aJ}:∀{L:Loc}{cs:List C}{vs:List Value},aK F L cs vs->tE cs
 | _,[],vs,r=>by simp only[tE]
 | L,c::cs,vs,r=>by
  simp only[aK] at r;obtain⟨v,vs',h1,h2,h3⟩:=r;simp only[tE];exact⟨Rel.wf h2,aK.wf h3⟩
theorem ij.wf {F:aJ}{a:Option Addr}{sz:Nat}:∀{i:Nat}{l:List (List C)},ij F a sz i l->vq l
 | _,[],r=>by simp only[vq]
 | i,es::l,r=>by
  simp only[ij] at r;obtain⟨⟨vs,h1,h2,h3,h4⟩,h5⟩:=r;simp only[vq];exact⟨aK.wf h4,ij.wf h5⟩
end
theorem aT.wf {F:aJ}{sz:Nat}:∀{l:List (List C)}{xs:List Value},aT F sz l xs->vq l
 | [],xs,r=>by simp only[vq]
 | es::l,xs,r=>by
  simp only[aT] at r;obtain⟨vs,a,d,e,f,b,c⟩:=r;simp only[vq];exact⟨b.wf,c.wf⟩
theorem tG.wf {F:aJ}:∀{l:List (C×C)}{vs:List Value},tG F l vs->YD l
 | [],vs,r=>trivial
 | (k,c)::l,vs,r=>by
  simp only[tG] at r;obtain⟨h,v,d,f,a,e,b⟩:=r;exact⟨a.wf,e.wf,tG.wf b⟩
theorem dW.wf {F:aJ}{L:Loc}:∀{o:TO}{p:Own},dW F L o p->o.Wf
 | .box t cs,.box g a vs,r=>r.2.wf
 | .row t sz els,.row v a c n xs,r=>r.2.2.2.2.wf
 | .box _ _,.row ..,r=>r.elim
 | .row ..,.box ..,r=>r.elim
 | .map _,.row ..,r=>r.elim
 | .map es,.box g a vs,r=>r.2.wf
 | .win ..,.row ..,r=>r.elim
 | .win ..,.box ..,⟨d,v1,j,v3,e,f,b,h⟩=>b.wf
def C.leaf:C->Bool
 | .fn _ _ _=>false
 | .agg _=>false
 | .tup _=>false
 | _=>true
theorem ye {g:C->C}{n:Nat}{c:C}(h:c.leaf=true):C.mp g n c=g c:=by
 cases c<;>first | (cases n<;>rfl;done) | cases h
theorem aK.map {F F':aJ}{L L':Loc}{g:C->C}:∀{cs:List C}{vs:List Value},(∀c∈cs,∀v,Rel F L c v->Rel F' L' (g c) v)->aK F L cs vs->aK F' L' (cs.map g) vs
 | [],vs,b,h=>by simp only[aK] at h;subst h;simp only[adA,aK]
 | c::cs,vs,b,h=>by
  simp only[aK] at h;obtain⟨v,a,rfl,d,e⟩:=h;simp only[acU,aK];exact⟨v,a,rfl,b c (by simp) v d,aK.map (fun c f=>b c (by simp[f])) e⟩
theorem Rel.mp {F F':aJ}{L L':Loc}{g:C->C}(b:∀c v,c.leaf=true->Rel F L c v->Rel F' L' (g c) v):∀(n:Nat) {c:C}{v:Value},Rel F L c v->Rel F' L' (C.mp g n c) v
 | 0,c,v,h=>by
  cases a:c.leaf
  ·cases c<;>simp only[C.leaf,Bool.true_eq_false] at a<;>simp only[C.mp,Rel]
  ·rw[ye a];exact b c v a h
 | n+1,c,v,h=>by
  cases a:c.leaf
  ·cases c<;>simp only[C.leaf,Bool.true_eq_false] at a<;>simp only[Rel] at h<;>simp only[C.mp,Rel]
   ·obtain⟨f,j,d,e,k⟩:=h;exact⟨f,j,d,e.map fun c _ v=>Rel.mp b n,k.map fun c _ v=>Rel.mp b n⟩
   ·obtain⟨vs,d,e⟩:=h;exact⟨vs,d,e.map fun c _ v=>Rel.mp b n⟩
   ·obtain⟨vs,d,e⟩:=h;exact⟨vs,d,e.map fun c _ v=>Rel.mp b n⟩
  ·rw[ye a];exact b c v a h
theorem bh.mp {F F':aJ}{L L':Loc}{g:C->C}(d:∀c v,c.leaf=true->Rel F L c v->Rel F' L' (g c) v) (f:∀c sv,c.leaf=true->bh F L c sv->bh F' L' (g c) sv) (n:Nat) {c:C}{sv:SV}
  (h:bh F L c sv):bh F' L' (C.mp g n c) sv:=by
 cases a:c.leaf
 ·have e:∃v,sv=.v v/\Rel F L c v:=by cases c<;>simp only[C.leaf,Bool.true_eq_false] at a<;>exact h
  obtain⟨v,rfl,j⟩:=e;have b:=Rel.mp d n j;cases n with
  | zero=>cases c<;>simp only[C.leaf,Bool.true_eq_false] at a<;>simp only[C.mp,bh]
  | succ n=>cases c<;>simp only[C.leaf,Bool.true_eq_false] at a<;>exact⟨v,rfl,b⟩
 ·rw[ye a];exact f c sv a h
def Ext (L L':Loc):Prop:=∀k o,L.get k=some o->∃o',L'.get k=some o'/\Own.like o o'
theorem sQ {F F':aJ}{L L':Loc}(f:F.le F') {k:Nat}{a:List Nat}{v:Value}(d:∀o,L.get k=some o->∃o',L'.get k=some o'/\Own.like o o') (h:Rel F L (.slo k a) v):Rel F' L' (.slo k a) v:=by
 simp only[Rel] at h ⊢;obtain⟨g,t,cs,j,m,c,n,e⟩:=h;obtain⟨o',l,b⟩:=d _ m;cases o' with
 | row=>exact b.elim
 | box p q cs'=>obtain⟨rfl,rfl⟩:=b;exact⟨_,_,_,j,l,c,n,e.mono f⟩
theorem vu {F F':aJ}{L L':Loc}(d:F.le F') {k:Nat}{a:List Nat}{sv:SV}(e:∀o,L.get k=some o->∃o',L'.get k=some o'/\Own.like o o') (h:bh F L (.slo k a) sv):bh F' L' (.slo k a) sv:=by
 simp only[bh] at h ⊢;obtain⟨v,b,c⟩:=h;exact⟨v,b,sQ d e c⟩
theorem Le {F F':aJ}{L L':Loc}(e:F.le F') {k j:Nat}{a:List Nat}{sv:SV}(d:∀o,L.get k=some o->∃o',L'.get k=some o'/\Own.like o o') (h:bh F L (.slp k a j) sv):bh F' L' (.slp k a j) sv:=by
 simp only[bh] at h ⊢;obtain⟨g,t,cs,f,m,c,n⟩:=h;obtain⟨o',l,b⟩:=d _ m;cases o' with
 | row=>exact b.elim
 | box p q cs'=>obtain⟨rfl,rfl⟩:=b;exact⟨_,_,_,f,l,c,n.mono e⟩
theorem bU {F F':aJ}{L L':Loc}(l:F.le F') {c:C}{v:Value}(p:∀k,(∃off,c=.own k off)\/c=.rw k\/c=.mpr k\/(∃m t off,c=.ifo m t k off)\/(∃j off,c=.elr k j off)->∀o,L.get k=some o->∃o',L'.get k=some o'/\Own.like o o') (hc:c.leaf=true) (h:Rel F L c v) (hs:∀k q,c≠.slo k q:=by exact fun _ _ e=>by cases e):Rel F' L' c v:=by
 cases c<;>simp only[C.leaf,acZ] at hc
 case slo=>exact s6 rfl (hs _ _)
 case slp=>exact h.elim
 case rw k =>
  simp only[Rel] at h ⊢;obtain⟨a,c,t,sz,n,xs,rfl,h⟩:=h;obtain⟨o',f,d⟩:=p k (.inr (.inl rfl)) _ h;cases o' with
  | box=>exact d.elim
  | row v' r w n' s=>obtain⟨rfl,rfl,rfl⟩:=d;exact⟨_,_,_,_,_,_,rfl,f⟩
 case mpr k =>
  simp only[Rel] at h ⊢;obtain⟨g,cs,h,rfl⟩:=h;obtain⟨o',f,d⟩:=p k (.inr (.inr (.inl rfl))) _ h;cases o' with
  | row=>exact d.elim
  | box g' r cs'=>obtain⟨rfl,rfl⟩:=d;exact⟨_,_,f,rfl⟩
 case own k off =>
  simp only[Rel] at h ⊢;obtain⟨g,t,cs,h,rfl⟩:=h;obtain⟨o',f,d⟩:=p k (.inl ⟨off,rfl⟩) _ h;cases o' with
  | row=>exact d.elim
  | box g' r cs'=>obtain⟨rfl,rfl⟩:=d;exact⟨_,_,_,f,rfl⟩
 case ifo m ti k off =>
  simp only[Rel] at h ⊢;obtain⟨g,t,cs,h,rfl⟩:=h;obtain⟨o',f,d⟩:=p k (.inr (.inr (.inr (.inl ⟨m,ti,off,rfl⟩)))) _ h;cases o' with
  | row=>exact d.elim
  | box g' r cs'=>obtain⟨rfl,rfl⟩:=d;exact⟨_,_,_,f,rfl⟩
 case elr k j off =>
  simp only[Rel] at h ⊢;obtain⟨ad,t,sz,n,c,xs,rfl,h⟩:=h;obtain⟨o',f,d⟩:=p k (.inr (.inr (.inr (.inr ⟨j,off,rfl⟩)))) _ h;cases o' with
  | box=>exact d.elim
  | row v' r w n' s=>obtain⟨rfl,rfl,rfl⟩:=d;exact⟨_,_,_,_,_,_,rfl,f⟩
 case sl =>
  simp only[Rel] at h ⊢;obtain⟨a,c,f,d,z,x,sz,y⟩:=h;exact⟨a,c,f,d,z,x,sz,y.mono l⟩
 case slx =>
  simp only[Rel] at h ⊢;obtain⟨a,f,d,sz,y⟩:=h;exact⟨a,f,d,sz,y.mono l⟩
 case pt =>
  simp only[Rel] at h ⊢;obtain⟨b,o,vs,f,d,z,x⟩:=h;exact⟨b,o,vs,f,d.mono l,z,x.mono l⟩
 case ifc =>
  simp only[Rel] at h ⊢;obtain⟨u,f,d⟩:=h;exact⟨u,f,d.mono l⟩
 case opq =>
  simp only[Rel] at h ⊢;exact h.mono l
 case mval =>
  simp only[Rel] at h ⊢;obtain⟨u,f,d⟩:=h;exact⟨u,f,d.mono l⟩
 all_goals
  first
   | exact h
   | (simp only[Rel] at h ⊢;done)
mutual
theorem Rel.ext {F F':aJ}(hF:F.le F') {L L':Loc}(hk:Ext L L'):∀{c:C}{v:Value},Rel F L c v->Rel F' L' c v
 | .fn f fi ca,v,r=>by
  simp only[Rel] at r ⊢;obtain⟨fi',ca',h1,h2,h3⟩:=r;exact⟨fi',ca',h1,aK.ext hF hk h2,aK.ext hF hk h3⟩
 | .agg cs,v,r=>by
  simp only[Rel] at r ⊢;obtain⟨vs,h1,h2⟩:=r;exact⟨vs,h1,aK.ext hF hk h2⟩
 | .tup cs,v,r=>by
  simp only[Rel] at r ⊢;obtain⟨vs,h1,h2⟩:=r;exact⟨vs,h1,aK.ext hF hk h2⟩
 | .int _ _,v,r=>bU hF (fun k _=>hk k) rfl r
 | .bool _,v,r=>bU hF (fun k _=>hk k) rfl r
 | .str _,v,r=>bU hF (fun k _=>hk k) rfl r
 | .sl _,v,r=>bU hF (fun k _=>hk k) rfl r
 | .slx _,v,r=>bU hF (fun k _=>hk k) rfl r
 | .nils,v,r=>bU hF (fun k _=>hk k) rfl r
 | .rw _,v,r=>bU hF (fun k _=>hk k) rfl r
 | .own _ _,v,r=>bU hF (fun k _=>hk k) rfl r
 | .ifo _ _ _ _,v,r=>bU hF (fun k _=>hk k) rfl r
 | .pt _ _,v,r=>bU hF (fun k _=>hk k) rfl r
 | .nilp,v,r=>bU hF (fun k _=>hk k) rfl r
 | .nilf,v,r=>bU hF (fun k _=>hk k) rfl r
 | .ifc _ _,v,r=>bU hF (fun k _=>hk k) rfl r
 | .opq _,v,r=>bU hF (fun k _=>hk k) rfl r
 | .mval _ _,v,r=>bU hF (fun k _=>hk k) rfl r
 | .mof _ _,v,r=>bU hF (fun k _=>hk k) rfl r
 | .mpr _,v,r=>bU hF (fun k _=>hk k) rfl r
 | .und,v,r=>bU hF (fun k _=>hk k) rfl r
 | .any,v,r=>by simp only[Rel]
 | .ownv _ _,v,r=>r.elim
 | .elr _ _ _,v,r=>bU hF (fun k _=>hk k) rfl r
 | .slo k _,v,r=>sQ hF (hk k) r
 | .slp _ _ _,v,r=>r.elim
theorem aK.ext {F F':aJ}(hF:F.le F') {L L':Loc}(hk:Ext L L'):∀{cs:List C}{vs:List Value},aK F L cs vs->aK F' L' cs vs
 | [],vs,r=>by simp only[aK] at r ⊢;exact r
 | c::cs,vs,r=>by
  simp only[aK] at r ⊢;obtain⟨v,vs',h1,h2,h3⟩:=r;exact⟨v,vs',h1,Rel.ext hF hk h2,aK.ext hF hk h3⟩
end
theorem Ext.nil (L:Loc):Ext [] L:=fun k o h=>by cases h
theorem aK.lift {F:aJ}{L:Loc}{cs:List C}{vs:List Value}(h:aK F [] cs vs):aK F L cs vs:=h.ext (aJ.le_refl F) (Ext.nil L)
theorem Rel.lift {F:aJ}{L:Loc}{c:C}{v:Value}(h:Rel F [] c v):Rel F L c v:=h.ext (aJ.le_refl F) (Ext.nil L)
theorem dU {F F':aJ}{L L':Loc}(r:F.le F') {c:C}{sv:SV}(q:∀k,(∃off,c=.own k off)\/(∃off,c=.ownv k off)\/c=.rw k\/(∃j off,c=.elr k j off)\/c=.mpr k\/(∃m t off,c=.ifo m t k off)->∀o,L.get k=some o->∃o',L'.get k=some o'/\Own.like o o') (hc:c.leaf=true) (h:bh F L c sv) (u:(∀k a,c≠.slo k a)/\(∀k a j,c≠.slp k a j):=by exact⟨fun _ _ e=>(by cases e),fun _ _ _ e=>(by cases e)⟩):bh F' L' c sv:=by
 cases c<;>simp only[C.leaf,acZ] at hc
 case slo=>exact s6 rfl (u.1 _ _)
 case slp=>exact s6 rfl (u.2 _ _ _)
 case own k off =>
  simp only[bh] at h ⊢;obtain⟨rfl,g,t,cs,h⟩:=h;obtain⟨o',p,f⟩:=q k (.inl ⟨off,rfl⟩) _ h;cases o' with
  | row=>exact f.elim
  | box g' t' cs'=>exact⟨rfl,_,_,_,p⟩
 case ownv k off =>
  simp only[bh] at h ⊢;obtain⟨v,y,h⟩:=h;refine⟨v,y,bU r (fun s d=>q s ?_) rfl h⟩;rcases d with⟨l,e⟩ | e | e | ⟨_,_,_,e⟩ | ⟨_,_,e⟩
  ·injection e with e1 e2;subst e1;exact .inr (.inl ⟨off,rfl⟩)
  ·cases e
  ·cases e
  ·cases e
  ·cases e
 case pt =>
  simp only[bh] at h ⊢;obtain⟨b,o,j,vs,p,f,h3,z⟩:=h;exact⟨b,o,j,vs,p,f.mono r,h3,z.mono r⟩
 case elr k j off =>
  simp only[bh] at h ⊢;obtain⟨ad,t,sz,n,c,xs,rfl,h⟩:=h;obtain⟨o',p,f⟩:=q k (.inr (.inr (.inr (.inl ⟨_,_,rfl⟩)))) _ h;cases o' with
  | box=>exact f.elim
  | row v' t' x n' w =>
   obtain⟨rfl,rfl,rfl⟩:=f;exact⟨_,_,_,_,_,_,rfl,p⟩
 all_goals first | (simp only[bh];done) | skip
 all_goals
  simp only[bh] at h ⊢;obtain⟨v,rfl,h⟩:=h;refine⟨v,rfl,bU r (fun s d=>q s ?_) rfl h⟩;rcases d with⟨l,e⟩ | e | e | ⟨_,_,_,e⟩ | ⟨_,_,e⟩
  ·cases e
  ·first | cases e;exact .inr (.inr (.inl rfl)) | cases e
  ·first | cases e;exact .inr (.inr (.inr (.inr (.inl rfl)))) | cases e
  ·first | cases e;exact .inr (.inr (.inr (.inr (.inr ⟨_,_,_,rfl⟩)))) | cases e
  ·cases e
theorem bh.ext {F F':aJ}{L L':Loc}(f:F.le F') (d:Ext L L') {c:C}{sv:SV}(h:bh F L c sv):bh F' L' c sv:=by
 cases m:c.leaf
 ·have n:∃v,sv=.v v/\Rel F L c v:=by cases c<;>simp only[C.leaf,Bool.true_eq_false] at m<;>exact h
  obtain⟨v,rfl,l⟩:=n;have b:=l.ext f d;cases c<;>simp only[C.leaf,Bool.true_eq_false] at m<;>exact⟨v,rfl,b⟩
 ·by_cases l:∃k a,c=.slo k a
  ·obtain⟨k,a,rfl⟩:=l;exact vu f (d k) h
  ·by_cases b:∃k a j,c=.slp k a j
   ·obtain⟨k,a,j,rfl⟩:=b;exact Le f (d k) h
   ·exact dU f (fun k _=>d k) m h ⟨fun k a e=>l ⟨k,a,e⟩,fun k a j e=>b ⟨k,a,j,e⟩⟩
theorem dW.ext {F F':aJ}{L L':Loc}(a:F.le F') (b:Ext L L'):∀{o:TO}{p:Own},dW F L o p->dW F' L' o p
 | .box t cs,.box g c vs,r=>⟨r.1,r.2.ext a b⟩
 | .row t sz els,.row v c f n xs,r=>⟨r.1,r.2.1,r.2.2.1,r.2.2.2.1,r.2.2.2.2.mono a⟩
 | .box _ _,.row ..,r=>r.elim
 | .row ..,.box ..,r=>r.elim
 | .map _,.row ..,r=>r.elim
 | .map es,.box g c vs,r=>⟨r.1,r.2.mono a⟩
 | .win ..,.row ..,r=>r.elim
 | .win ..,.box ..,⟨h,v1,l,v3,e,j,d,k⟩=>⟨h,v1,l,v3,e,j.mono a,d.ext a b,k.mono a⟩
def iN (Li:List Own) (R:List TO->C->Prop):aJ->List Own->Value->Prop:=fun F Lo v =>
 ∃Mo c,Mo.length=Lo.length/\ep F (inp Lo) (jQ Mo)/\Rel F (inp Lo) c v/\(∀(i:Nat) g t cs,Li[i]?=some (.box g t cs)->∃cs',Lo[i]?=some (.box g t cs'))/\R Mo c
structure CallsT (P:Program) (f:Nat) (args:List C) (Lin:List TO) (R:List TO->C->Prop):Prop where
 out:∀(F:aJ) (Li:List Own) (vs:List Value),Li.length=Lin.length->ep F (inp Li) (jQ Lin)->aK F (inp Li) args vs->CallsA P f vs.toArray F Li (iN Li R)
structure CallsTX (P:Program) (f:Nat) (args:List C) (Lin:List TO) (R:List TO->C->Prop) (Pp:Value->Prop):Prop where
 out:∀(F:aJ) (Li:List Own) (vs:List Value),Li.length=Lin.length->ep F (inp Li) (jQ Lin)->aK F (inp Li) args vs->vX P f vs.toArray F Li (iN Li R) Pp
theorem CallsT.toX {P:Program}{f:Nat}{args:List C}{Lin:List TO}{R:List TO->C->Prop}{Pp:Value->Prop}(h:CallsT P f args Lin R):CallsTX P f args Lin R Pp:=⟨fun F Li vs a b c=>(h.out F Li vs a b c).toX⟩
def aY:List TO->List Nat->List Nat->Bool
 | .box _ _::l,k::ks,a::ko=>match Nat.beq k a with | true=>aY l ks ko | false=>false
 | .box _ _::_,_,_=>false
 | .map _::l,k::ks,a::ko=>match Nat.beq k a with | true=>aY l ks ko | false=>false
 | .map _::_,_,_=>false
 | .win _ _ _ _::l,k::ks,a::ko=>match Nat.beq k a with | true=>aY l ks ko | false=>false
 | .win _ _ _ _::_,_,_=>false
 | .row _ _ _::l,_::ks,_::ko=>aY l ks ko
 | .row _ _ _::l,_::ks,[]=>aY l ks []
 | .row _ _ _::_,[],_=>false
 | [],_,_=>true
def lN (L:TL) (ks:List Nat):List Nat->Bool
 | []=>true
 | k::ko=>match gS ks k,L.get k with
  | true,_=>lN L ks ko
  | false,none=>lN L ks ko
  | false,some _=>false
def covers:TL->TL->Bool
 | [],_=>true
 | (k,_)::l,L1=>match L1.get k with | some _=>covers l L1 | none=>false
def mX:TL->TL->Bool
 | [],_=>true
 | (k,.box _ _)::l,L1=>match L1.get k with | some (.box _ _)=>mX l L1 | _=>false
 | (k,.map _)::l,L1=>match L1.get k with | some (.map _)=>mX l L1 | _=>false
 | (k,.win _ _ _ _)::l,L1=>match L1.get k with | some (.win _ _ _ _)=>mX l L1 | _=>false
 | (_,.row _ _ _)::l,L1=>mX l L1
def TL.kills (ks:List Nat) (L:TL):TL:=match ks with | []=>L | _=>L.aa8 (C.kills ks)
def fQ (ks:List Nat) (ρ:bg):bg:=match ks with | []=>ρ | _=>fun j=>(ρ j).kills ks
def rowsOf (L:TL):List Nat->List Nat
 | []=>[]
 | k::ks=>match L.get k with
  | some (.row _ _ _)=>k::rowsOf L ks
  | _=>rowsOf L ks
def Wt (Li Lo:List Own):Prop:=Lo.length=Li.length/\∀(i:Nat) o,Li[i]?=some o->∃o',Lo[i]?=some o'/\Own.like o o'
structure yg (P:Program) (f:Nat) (args:List C) (Lin:List TO) (R:List TO->C->Prop):Prop where
 out:∀(F:aJ) (Li:List Own) (vs:List Value),Li.length=Lin.length->ep F (inp Li) (jQ Lin)->aK F (inp Li) args vs->CallsA P f vs.toArray F Li (fun F' Lo v=>iN Li R F' Lo v/\Wt Li Lo)
inductive nA (P:Program) (f:Nat) (args:List C) (L:TL) (ρ:bg) (K:TL->bg->C->Prop):Prop
 | mk (out:∃(fz ks ko:List Nat),xN fz L ρ args fun L ρ args =>
  ∃(L1:TL) (Lin:List TO) (R:List TO->C->Prop),(L1=L\/(gives L L1 L1/\covers L L1=true))/\L1.sub ks=some Lin/\bR ks=true/\bR ko=true/\lN L1 ks ko=true/\aY Lin ks ko=true /\
   CallsT P f (args.map fun c=>c.abk.ren (cn ks 1000)) (Lin.map (TO.aa8 (C.ren (cn ks 1000)))) R /\
   ∀v Mo,R Mo v->Wf v->(∀o∈Mo,o.Wf)->ko.length=Mo.length /\
    K (((L1.aa7 ks).kills (rowsOf L1 ks)).puts ko (Mo.map (TO.aa8 (C.ren (bF ko))))) (fQ (rowsOf L1 ks) ρ) (v.ren (bF ko)).slt)
 | inpl (ks:List Nat) (Lin:List TO) (R:List TO->C->Prop) (hs:L.sub ks=some Lin) (hn:bR ks=true) (h:yg P f (args.map fun c=>c.abk.ren (cn ks 1000)) (Lin.map (TO.aa8 (C.ren (cn ks 1000)))) R)
   (k:∀v Mo,R Mo v->Wf v->(∀o∈Mo,o.Wf)->ks.length=Mo.length/\K ((L.aa7 ks).puts ks (Mo.map (TO.aa8 (C.ren (bF ks))))) ρ (v.ren (bF ks)).slt)
structure qX where
 ps:Value->Prop
 hb:List (Nat×Nat):=[]
 st:Option (TL->Value->Prop):=none
def mF (L:TL) (ks:List Nat):List (Nat×Nat)->Bool
 | []=>true
 | (k,n)::l=>match gS ks k,L.get k with
  | false,some (.box _ cs)=>match eI cs n with | true=>mF L ks l | false=>false
  | _,_=>false
structure pQ (P:Program) (f:Nat) (args:List C) (Lin:List TO) (R:List TO->C->Prop) (Pp:Value->Prop):Prop where
 out:∀(F:aJ) (Li:List Own) (vs:List Value),Li.length=Lin.length->ep F (inp Li) (jQ Lin)->aK F (inp Li) args vs->vX P f vs.toArray F Li (fun F' Lo v=>iN Li R F' Lo v/\Wt Li Lo) Pp
inductive qo (P:Program) (PS:qX) (f:Nat) (args:List C) (L:TL) (ρ:bg) (K:TL->bg->C->Prop):Prop
 | mk (out:∃(fz ks ko:List Nat),xN fz L ρ args fun L ρ args =>
  ∃(L1:TL) (Lin:List TO) (R:List TO->C->Prop) (Pp:Value->Prop),(L1=L\/(gives L L1 L1/\covers L L1=true))/\L1.sub ks=some Lin/\bR ks=true/\bR ko=true/\lN L1 ks ko=true/\aY Lin ks ko=true/\mF L1 ks PS.hb=true /\
   CallsTX P f (args.map fun c=>c.abk.ren (cn ks 1000)) (Lin.map (TO.aa8 (C.ren (cn ks 1000)))) R Pp/\(∀v,Pp v->PS.ps v) /\
   ∀v Mo,R Mo v->Wf v->(∀o∈Mo,o.Wf)->ko.length=Mo.length /\
    K (((L1.aa7 ks).kills (rowsOf L1 ks)).puts ko (Mo.map (TO.aa8 (C.ren (bF ko))))) (fQ (rowsOf L1 ks) ρ) (v.ren (bF ko)).slt)
 | inpl (ks:List Nat) (Lin:List TO) (R:List TO->C->Prop) (Pp:Value->Prop) (hs:L.sub ks=some Lin) (hn:bR ks=true) (hh:mF L ks PS.hb=true) (h:pQ P f (args.map fun c=>c.abk.ren (cn ks 1000)) (Lin.map (TO.aa8 (C.ren (cn ks 1000)))) R Pp) (hp:∀v,Pp v->PS.ps v)
   (k:∀v Mo,R Mo v->Wf v->(∀o∈Mo,o.Wf)->ks.length=Mo.length/\K ((L.aa7 ks).puts ks (Mo.map (TO.aa8 (C.ren (bF ks))))) ρ (v.ren (bF ks)).slt)
structure CallsTS (P:Program) (f:Nat) (args:List C) (Lin:List TO) (R:List TO->C->Prop) (Pp:List TO->Value->Prop):Prop where
 out:∀(F:aJ) (Li:List Own) (vs:List Value),Li.length=Lin.length->ep F (inp Li) (jQ Lin)->aK F (inp Li) args vs->xY P f vs.toArray F Li (iN Li R) (fun F' Lo v=>∃Mo,Mo.length=Lo.length/\ep F' (inp Lo) (jQ Mo)/\Pp Mo v)
structure CT (P:Program) (ps:Value->Prop) (hb:List (Nat×Nat)) (st:TL->Value->Prop) (f:Nat) (args:List C) (L:TL) (ρ:bg) (K:TL->bg->C->Prop):Prop where
 out:∃(ks ko:List Nat) (L1:TL) (Lin:List TO) (R:List TO->C->Prop) (Pp:List TO->Value->Prop),(L1=L\/(gives L L1 L1/\covers L L1=true))/\L1.sub ks=some Lin/\bR ks=true/\bR ko=true/\lN L1 ks ko=true/\aY Lin ks ko=true/\mF L1 ks hb=true /\
   CallsTS P f (args.map fun c=>c.abk.ren (cn ks 1000)) (Lin.map (TO.aa8 (C.ren (cn ks 1000)))) R Pp /\
   (∀v Mo,Pp Mo v->(∀o∈Mo,o.Wf)->ks.length=Mo.length->ps v/\st (((L1.aa7 ks).kills (rowsOf L1 ks)).puts ks (Mo.map (TO.aa8 (C.ren (bF ks))))) v) /\
   ∀v Mo,R Mo v->Wf v->(∀o∈Mo,o.Wf)->ko.length=Mo.length /\
    K (((L1.aa7 ks).kills (rowsOf L1 ks)).puts ko (Mo.map (TO.aa8 (C.ren (bF ko))))) (fQ (rowsOf L1 ks) ρ) (v.ren (bF ko)).slt
def zy:List C->Option (List Value)
 | []=>some []
 | .int k n::l=>match zy l with | some vs=>some (.int k n::vs) | none=>none
 | .bool b::l=>match zy l with | some vs=>some (.bool b::vs) | none=>none
 | .str s::l=>match zy l with | some vs=>some (.string s::vs) | none=>none
 | _=>none
def Ey:C->Option Value
 | .ifc t (.int k n)=>some (.iface t (.int k n))
 | .ifc t (.bool b)=>some (.iface t (.bool b))
 | .ifc t (.str s)=>some (.iface t (.string s))
 | .ifc t (.agg cs)=>match zy cs with | some vs=>some (.iface t (.agg vs.toArray)) | none=>none
 | _=>none
structure Wu (PS:qX) (L:TL) (c:C):Prop where
 out:∃v,Ey c=some v/\mF L [] PS.hb=true/\PS.ps v
structure YF (ps:Value->Prop) (hb:List (Nat×Nat)) (st:TL->Value->Prop) (L:TL) (c:C):Prop where
 out:∃v,Ey c=some v/\mF L [] hb=true/\ps v/\st L v
inductive CU (P:Program) (f:Nat) (args:List C) (L:TL) (ρ:bg) (K:TL->bg->C->Prop):Prop
 | mk (out:∃(ks ko:List Nat) (Lin:List TO) (R:List TO->C->Prop),L.sub ks=some Lin/\bR ks=true/\bR ko=true/\lN L ks ko=true/\aY Lin ks ko=true /\
   CallsT P f (args.map fun c=>c.abk.ren (cn ks 1000)) (Lin.map (TO.aa8 (C.ren (cn ks 1000)))) R /\
   ∀v Mo,R Mo v->Wf v->(∀o∈Mo,o.Wf)->ko.length=Mo.length /\
    K (((L.aa7 ks).kills (rowsOf L ks)).puts ko (Mo.map (TO.aa8 (C.ren (bF ko))))) (fQ (rowsOf L ks) ρ) (v.ren (bF ko)).slt)
 | inpl (ks:List Nat) (Lin:List TO) (R:List TO->C->Prop) (hs:L.sub ks=some Lin) (hn:bR ks=true) (h:yg P f (args.map fun c=>c.abk.ren (cn ks 1000)) (Lin.map (TO.aa8 (C.ren (cn ks 1000)))) R)
   (k:∀v Mo,R Mo v->Wf v->(∀o∈Mo,o.Wf)->ks.length=Mo.length/\K ((L.aa7 ks).puts ks (Mo.map (TO.aa8 (C.ren (bF ks))))) ρ (v.ren (bF ks)).slt)
def wY:List Nat->List Nat->Bool
 | [],_=>true
 | k::ks,a=>match gS a k with | true=>false | false=>wY ks a
structure nH (P:Program) (PS:qX) (fb:List Nat) (f:Nat) (args:List C) (L:TL) (ρ:bg) (K:TL->bg->C->Prop):Prop where
 out:∃(ks:List Nat) (Lin:List TO) (R:List TO->C->Prop) (Pp:Value->Prop),L.sub ks=some Lin/\bR ks=true/\wY ks fb=true/\aY Lin ks ks=true/\mF L ks PS.hb=true /\
   CallsTX P f (args.map fun c=>c.abk.ren (cn ks 1000)) (Lin.map (TO.aa8 (C.ren (cn ks 1000)))) R Pp/\(∀v,Pp v->PS.ps v) /\
   ∀v Mo,R Mo v->Wf v->(∀o∈Mo,o.Wf)->ks.length=Mo.length /\
    K (((L.aa7 ks).kills (rowsOf L ks)).puts ks (Mo.map (TO.aa8 (C.ren (bF ks))))) (fQ (rowsOf L ks) ρ) (v.ren (bF ks)).slt
structure yh (P:Program) (ps:Value->Prop) (hb:List (Nat×Nat)) (st:TL->Value->Prop) (fb:List Nat) (f:Nat) (args:List C) (L:TL) (ρ:bg) (K:TL->bg->C->Prop):Prop where
 out:∃(ks:List Nat) (Lin:List TO) (R:List TO->C->Prop) (Pp:List TO->Value->Prop),L.sub ks=some Lin/\bR ks=true/\wY ks fb=true/\aY Lin ks ks=true/\mF L ks hb=true /\
   CallsTS P f (args.map fun c=>c.abk.ren (cn ks 1000)) (Lin.map (TO.aa8 (C.ren (cn ks 1000)))) R Pp /\
   (∀v Mo,Pp Mo v->(∀o∈Mo,o.Wf)->ks.length=Mo.length->ps v/\st (TL.puts [] ks (Mo.map (TO.aa8 (C.ren (bF ks))))) v) /\
   ∀v Mo,R Mo v->Wf v->(∀o∈Mo,o.Wf)->ks.length=Mo.length /\
    K (((L.aa7 ks).kills (rowsOf L ks)).puts ks (Mo.map (TO.aa8 (C.ren (bF ks))))) (fQ (rowsOf L ks) ρ) (v.ren (bF ks)).slt
def n9 (P:Program) (f:Nat):Prop:=∃fn,P.funcs[f]?=some fn/\fn.body.isSome=true/\(fn.name == "runtime.NumGoroutine")=false
structure Lg (P:Program) (f:Nat) (args:List C) (t sz:Nat) (els:List (List C)) (x:C):Prop where
 out:∀(F:aJ) (rv:Value) (xs vs:List Value),dW F (inp [.row rv t sz els.length xs]) (.row t sz els) (.row rv t sz els.length xs)->aK F (inp [.row rv t sz els.length xs]) args vs ->
  CallsA P f vs.toArray F [.row rv t sz els.length xs] (fun F' Lo v=>Lo=[.row rv t sz els.length xs]/\Rel F' (inp []) x v)
inductive rM (P:Program) (f:Nat) (args:List C) (L:TL) (ρ:bg) (d:Option Nat) (K:TL->bg->C->Prop):Prop
 | frz (R:List TO->C->Prop) (h:CallsT P f (args.map fun c=>c.abk.ren (cn [] 1000)) [] R) (k:∀v Mo,R Mo v->Wf v->Mo=[]/\K L ρ v.slt)
 | own (R:List TO->C->Prop) (k:Nat) (h:CallsT P f (args.map fun c=>c.abk.ren (cn [] 1000)) [] R) (hd:d=some k) (hk:L.get k=none)
   (kk:∀v Mo,R Mo v->Wf v->(∀o∈Mo,o.Wf)->∃o,Mo=[o]/\K (L.set k (o.aa8 (C.ren (bF [k])))) ρ (v.ren (bF [k])).slt)
 | row (R:List TO->C->Prop) (kr t sz:Nat) (els:List (List C)) (he:n9 P f) (hk:L.get kr=some (.row t sz els)) (h:CallsT P f (args.map fun c=>(c.frz kr els).abk.ren (cn [] 1000)) [] R)
   (kk:∀v Mo,R Mo v->Wf v->Mo=[]/\K ((L.aa8 (C.kill kr)).set kr (.row t sz [])) (fun j=>(ρ j).kill kr) v.slt)
 | lent (kr t sz:Nat) (els:List (List C)) (x:C) (hk:L.get kr=some (.row t sz els)) (h:Lg P f (args.map fun c=>c.abk.ren (cn [kr] 1000)) t sz els x) (k:Wf x->K L ρ x.slt)
def Ul:Value->C
 | .int k n=>.int k n
 | .bool b=>.bool b
 | .string s=>.str s
 | _=>.any
def isNil:X->Bool
 | .c (.slice none 0 0)=>true
 | _=>false
def wk:List Bool->List C->List C->Bool->Option Bool
 | [],[],[],c=>some c
 | true::ks,.int k a::l,.int e b::d,c=>match rq k e with | true=>wk ks l d (c&&decide (a=b)) | false=>none
 | false::ks,.bool a::l,.bool b::d,c=>wk ks l d (c&&decide (a=b))
 | _,_,_,_=>none
structure JH (P:Program) (t:TypeId) (nm:String) (K:Nat->Prop):Prop where
 out:∃f,pB P t nm=some f/\K f
def Sq (P:Program) (t:TypeId):Bool:=match P.underlying t with | some (.interface _)=>true | _=>false
def CV (ρ:bg):List (Nat×Nat×X)->List C->(List C->Prop)->Prop
 | [],zs,K=>K zs
 | (off,n,x)::ps,zs,K=>match(eD ρ x).okc,eI (eW (eD ρ x)) n with
  | true,true=>fl (eW (eD ρ x)) fun vs=>fl (iy zs off vs) fun zs=>CV ρ ps zs K
  | _,_=>False
theorem wm {ρ:bg}:∀{ps:List (Nat×Nat×X)}{zs:List C}{K:List C->Prop},CV ρ ps zs K->∃cs,wj ρ zs ps=some cs/\K cs
 | [],zs,K,h=>⟨zs,rfl,h⟩
 | (off,n,x)::ps,zs,K,h=>by
  simp only[CV] at h;simp only[wj];split at h
  ·rename_i a b;rw[gA,gA] at h
   first
   | exact wm h
   | (rw[a,b];exact wm h)
  ·exact h.elim
structure Um (k:Nat) (K:Nat->Prop):Prop where
 out:∃n,Kt k=some n/\n<=9223372036854775807/\K n
def Om (t:Nat):Bool:=match Nat.beq t 0 with | true=>false | false=>Nat.ble t 1048575
structure Un (pre:List C) (off:Nat) (cs:List C) (n:Nat) (K:List C->Prop):Prop where
 out:(∃o,off=pre.length+o/\match eI ((cs.drop o).take n) n with | true=>K ((cs.drop o).take n) | false=>False)\/∃vs,(pre.drop off).take n=vs/\eI vs n=true/\K vs
structure YG (pre:List C) (off:Nat) (cs:List C) (n:Nat) (vs:List C) (K:Nat->Prop) (K':List C->Prop):Prop where
 out:(∃o,off=pre.length+o/\match eI ((cs.drop o).take n) n with | true=>K o | false=>False)\/∃pre',off+n<=pre.length/\gJ vs=true/\iy pre off vs=pre'/\K' pre'
structure YH (offs:List Nat) (j:Nat) (K:Nat->Prop):Prop where
 out:∃o,offs[j]?=some o/\K o
def wZ (k:Nat) (ρ:bg):List X->Option (List Nat)
 | []=>some []
 | x::xs=>match(eD ρ x).cel,wZ k ρ xs with
  | .own j off,some l=>match Nat.beq j k with | true=>some (off::l) | false=>none
  | _,_=>none
def outT (o:fD) (L:TL) (ρ:bg) (V:C->Prop):Prop :=
 match o with
 | .mov x=>V (eD ρ x)
 | .pick c a b=>match eD ρ c with
  | .bool t=>yU t (V (eD ρ a)) (V (eD ρ b))
  | _=>False
 | .build zs ps=>fl (zs.map tQ) fun zs=>CV ρ ps zs fun cs=>V (.agg cs)
 | .load agg n x=>match eD ρ x with
  | .own k off=>match L.get k with
   | some (.box _ cs)=>match eI ((cs.drop off).take n) n with
    | true=>V (DW agg ((cs.drop off).take n))
    | false=>False
   | some (.win _ pre cs _)=>Un pre off cs n fun vs=>V (DW agg vs)
   | _=>False
  | .pt es off=>match eI ((es.drop off).take n) n with
   | true=>V (DW agg ((es.drop off).take n))
   | false=>False
  | .ownv k off=>match L.get k with
   | some (.box _ cs)=>match eI ((cs.drop off).take n) n with
    | true=>V (DW agg ((cs.drop off).take n))
    | false=>False
   | some (.win _ pre cs _)=>Un pre off cs n fun vs=>V (DW agg vs)
   | _=>False
  | .elr k j off=>match L.get k with
   | some (.row _ _ els)=>K7 els j off n fun cs=>V (DW agg cs)
   | _=>False
  | .slp k d j=>match agg,Nat.beq n 1 with
   | false,true=>YH d j fun o=>V (.ownv k o)
   | _,_=>False
  | _=>False
 | .loadR agg n x=>match eD ρ x with
  | .own k off=>match L.get k with
   | some (.box _ cs)=>match eI ((cs.drop off).take n) n with
    | true=>V (DW agg ((cs.drop off).take n))
    | false=>False
   | _=>False
  | .pt es off=>match eI ((es.drop off).take n) n with
   | true=>V (DW agg ((es.drop off).take n))
   | false=>False
  | .ownv k off=>match L.get k with
   | some (.box _ cs)=>match eI ((cs.drop off).take n) n with
    | true=>V (DW agg ((cs.drop off).take n))
    | false=>False
   | _=>False
  | .elr k j off=>match L.get k with
   | some (.row _ _ els)=>K7 els j off n fun cs=>V (DW agg cs)
   | _=>False
  | _=>False
 | .loadD agg n x=>match eD ρ x with
  | .own k off=>match L.get k with
   | some (.box _ cs)=>match eI ((cs.drop off).take n) n with
    | true=>V (DW agg ((cs.drop off).take n))
    | false=>False
   | some (.win _ pre cs _)=>Un pre off cs n fun vs=>V (DW agg vs)
   | _=>False
  | .pt es off=>match eI ((es.drop off).take n) n with
   | true=>V (DW agg ((es.drop off).take n))
   | false=>False
  | _=>False
 | .loadF agg n x=>match eD ρ x with
  | .pt es off=>match eI ((es.drop off).take n) n with
   | true=>V (DW agg ((es.drop off).take n))
   | false=>False
  | _=>False
 | .loadK key agg n x=>match eD ρ x with
  | .own k off=>match Nat.beq k key with
   | true=>match L.get k with
    | some (.box _ cs)=>match eI ((cs.drop off).take n) n with
     | true=>V (DW agg ((cs.drop off).take n))
     | false=>False
    | _=>False
   | false=>False
  | _=>False
 | .b2sD x=>match(eD ρ x).can with
  | .sl els=>fP els fun bs=>V (.str ⟨bs.toArray⟩)
  | _=>False
 | .b2sR x=>match eD ρ x with
  | .rw k=>match L.get k with
   | some (.row _ sz els)=>match Nat.beq sz 1 with
    | true=>fP els fun bs=>V (.str ⟨bs.toArray⟩)
    | false=>False
   | _=>False
  | _=>False
 | .nilck x=>match eD ρ x with
  | .own k off=>V (.own k off)
  | .pt es off=>V (.pt es off)
  | .ownv k off=>V (.ownv k off)
  | .fn f fi ca=>V (.fn f fi ca)
  | .mval nm c=>match c with
   | .ifc t c=>Sc Jo t nm=true/\V (.mval nm (.ifc t c))
   | _=>False
  | .ifo (some nm) t k off=>Sc Jo t nm=true/\V (.ifo (some nm) t k off)
  | _=>False
 | .mkmv nm x=>match eD ρ x with
  | .ifc t c=>V (.mval nm (.ifc t c))
  | .ifo none t k off=>V (.ifo (some nm) t k off)
  | _=>False
 | .bin op x y=>match eD ρ x,eD ρ y with
  | .int k a,.int q b=>match Ky op with
   | true=>shI op k a b fun v=>V (Ul v)
   | false=>match rq k q with
    | true=>binI op k a b fun v=>V (Ul v)
    | false=>False
  | .str a,.str b=>binS op a b fun v=>V (Ul v)
  | _,_=>False
 | .eqB neg x y=>match eD ρ x,eD ρ y with
  | .bool a,.bool b=>V (.bool (pA neg (decide (a=b))))
  | _,_=>False
 | .eqS neg x y=>match isNil y,eD ρ x with
  | true,.sl els=>∀b,(els≠[]->b=false)->V (.bool (pA neg b))
  | true,.slx _=>V (.bool (pA neg false))
  | true,.nils=>V (.bool (pA neg true))
  | _,_=>False
 | .eqN neg x=>match eD ρ x with
  | .ifc _ _=>V (.bool (pA neg false))
  | .ifo none _ _ _=>V (.bool (pA neg false))
  | .opq k=>match Gb k with
   | some b=>V (.bool (pA neg b))
   | none=>False
  | _=>False
 | .tas t z x=>match eD ρ x with
  | .ifc p c=>match Nat.beq p t with
   | true=>fc c fun c=>V (.tup [c,.bool true])
   | false=>fc (cv z).cel fun c=>V (.tup [c,.bool false])
  | .ifo none p k off=>match Nat.beq p t with
   | true=>V (.tup [.own k off,.bool true])
   | false=>fc (cv z).cel fun c=>V (.tup [c,.bool false])
  | _=>False
 | .eqA neg ks x y=>match eD ρ x,eD ρ y with
  | .agg cs,.agg ds=>match wk ks cs ds true with
   | some b=>V (.bool (pA neg b))
   | none=>False
  | _,_=>False
 | .mkif t x=>match eD ρ x with
  | .int k n=>V (.ifc t (.int k n))
  | .bool b=>V (.ifc t (.bool b))
  | .str s=>V (.ifc t (.str s))
  | .pt es off=>V (.ifc t (.pt es off))
  | .own k off=>V (.ifo none t k off)
  | .ownv k off=>V (.ifo none t k off)
  | .agg cs=>match gJ cs with
   | true=>fl cs fun cs=>V (.ifc t (.agg cs))
   | false=>False
  | _=>False
 | .un op x=>match op,eD ρ x with
  | .not,.bool b=>V (.bool (!b))
  | .neg,.int k n=>Fit k (0-n) fun m=>V (.int k m)
  | .xor,.int k n=>V (.int k (k.wrap (BitVec.ofInt k.bits (if k.signed then -1 else k.max) ^^^ BitVec.ofInt k.bits n).toNat))
  | _,_=>False
 | .conv k x=>match eD ρ x with
  | .int _ n=>Fit k n fun m=>V (.int k m)
  | _=>False
 | .b2s x=>match(eD ρ x).can with
  | .sl els=>fP els fun bs=>V (.str ⟨bs.toArray⟩)
  | _=>False
 | .mkfn f fi ca=>V (.fn f (fB ρ fi) (fB ρ ca))
 | .slc sz x lo hi=>match(eD ρ x).can with
  | .sl els=>match O4 ρ 0 lo,O4 ρ els.length hi with
   | some l,some h=>tF l h els sz fun l h=>V (.sl ((els.drop l).take (h-l)))
   | _,_=>False
  | _=>False
 | .fieldA off x=>match eD ρ x with
  | .own k o=>V (.own k (o+off))
  | .pt es o=>V (.pt es (o+off))
  | .elr k j o=>V (.elr k j (o+off))
  | .ownv k o=>V (.ownv k (o+off))
  | _=>False
 | .idxA sz x i=>match(eD ρ x).can,eD ρ i with
  | .sl els,.int _ i=>Eu els i sz fun es=>V (.pt es 0)
  | .rw k,.int _ i=>match L.get k with
   | some (.row _ e els)=>match Nat.beq sz e with
    | true=>Yb i els.length (V (.elr k i.toNat 0))
    | false=>False
   | _=>False
  | .slo k d,.int _ i=>match Nat.beq sz 1 with
   | true=>Yb i d.length (V (.slp k d i.toNat))
   | false=>False
  | _,_=>False
 | .extr x i=>match eD ρ x with
  | .tup vs=>match vs[i]? with
   | some v=>V v.slt
   | none=>False
  | _=>False
 | .len x=>match(eD ρ x).can with
  | .sl els=>V (.int .i64 els.length)
  | .rw k=>match L.get k with
   | some (.row _ _ els)=>V (.int .i64 els.length)
   | _=>False
  | .opq k=>Um k fun n=>V (.int .i64 n)
  | .slo k d=>V (.int .i64 d.length)
  | _=>False
 | .lenS x=>match eD ρ x with
  | .str s=>V (.int .i64 s.size)
  | _=>False
 | .mm mx args=>match args.map (eD ρ) with
  | .int k a::l=>match Ye mx a l with
   | some m=>(Lit.int k m).wf=true/\V (.int k m)
   | none=>False
  | _=>False
 | _=>False
abbrev TK:=TL->bg->Prop
def storeT (b:Bool) (n:Nat) (a x:X) (d:Option Nat) (L:TL) (ρ:bg) (K:TK):Prop :=
 match(eD ρ x).okc,eI (eW (eD ρ x)) n,eP (eW (eD ρ x)),eD ρ a with
 | true,true,true,.own k off=>match L.get k with
  | some (.box t cs)=>match eI ((cs.drop off).take n) n with
   | true=>fl (iy cs off (eW (eD ρ x))) fun cs=>K (L.set k (.box t cs)) (bV d .und ρ)
   | false=>False
  | some (.win t pre cs post)=>match b with
   | false=>YG pre off cs n (eW (eD ρ x)) (fun o=>fl (iy cs o (eW (eD ρ x))) fun cs=>K (L.set k (.win t pre cs post)) (bV d .und ρ)) fun pre'=>K (L.set k (.win t pre' cs post)) (bV d .und ρ)
   | true=>False
  | _=>False
 | true,true,true,.elr k j off=>match b,L.get k,gJ (eW (eD ρ x)) with
  | false,some (.row t sz els),true=>Nat.ble (off+n) sz=true/\K7 els j off n fun _=>∀es,els[j]?=some es->K (L.set k (.row t sz (els.set j (iy es off ((eW (eD ρ x)).map C.can))))) (bV d .und ρ)
  | _,_,_=>False
 | _,_,_,_=>False
structure O6 (es:List C) (off:Nat) (b:Bool) (K:Prop):Prop where
 same:es[off]?=some (.bool b)
 out:K
def Gm (n:Nat) (a x:X) (d:Option Nat) (L:TL) (ρ:bg) (K:TK):Prop :=
 match eD ρ a,eD ρ x with
 | .pt es off,.bool b=>match Nat.beq n 1 with
  | true=>O6 es off b (K L (bV d .und ρ))
  | false=>False
 | _,_=>storeT false n a x d L ρ K
def Uo (e sz bytes:Nat) (s x:C) (d:Option Nat) (L:TL) (ρ:bg) (K:TK):Prop :=
 match s,x.can,d with
 | .rw k,.sl news,_=>match L.get k with
  | some (.row e' b els)=>match Nat.beq e e',Nat.beq sz b with
   | true,true=>uE els news sz bytes (fT ((L.aa8 (C.kill k)).set k (.row e sz (els++news))) fun L=>K L (bV d (.rw k) fun j=>(ρ j).kill k))
   | _,_=>False
  | _=>False
 | .nils,.sl news,some k=>match L.get k with
  | none=>uE [] news sz bytes (fT (L.set k (.row e sz news)) fun L=>K L (bV d (.rw k) ρ))
  | some _=>False
 | .slx els,.sl news,some k=>match L.get k with
  | none=>0<news.length/\(∀es∈els,es.length=sz)/\uE els news sz bytes (fT (L.set k (.row e sz (els++news))) fun L=>K L (bV d (.rw k) ρ))
  | some _=>False
 | .rw k,.rw c,_=>match L.get k,L.get c with
  | some (.row e' b els),some (.row f a news)=>match Nat.beq e e',Nat.beq sz b,Nat.beq sz a with
   | true,true,true=>uE els news sz bytes (fT ((L.aa8 (C.kill k)).set k (.row e sz (els++news))) fun L=>K L (bV d (.rw k) fun j=>(ρ j).kill k))
   | _,_,_=>False
  | _,_=>False
 | .nils,.rw c,some k=>match L.get k,L.get c with
  | none,some (.row f a news)=>match Nat.beq sz a with
   | true=>uE [] news sz bytes (K (L.set k (.row e sz news)) (bV d (.rw k) ρ))
   | false=>False
  | _,_=>False
 | _,_,_=>False
structure Wv (P:Program) (o:fD) (d:Option Nat) (M:TL) (τ:bg) (K:TL->bg->Prop):Prop where
 out:∀(G:Nat->Option (Nat×TypeId)) (F:aJ) (L:Loc) (ρ:Env),TS G F L ρ M τ->evalOp P o d F L ρ fun F L ρ=>∃M τ,TS G F L ρ M τ/\K M τ
def cV (P:Program) (o:fD) (d:Option Nat) (L:TL) (ρ:bg) (K:TK):Prop :=
 match o with
 | .box t x=>match d with
  | some k=>match L.get k,(eD ρ x).okc,Om t with
   | none,true,true=>fl (eW (eD ρ x)) fun cs=>K (L.set k (.box t cs)) (bV d (.own k 0) ρ)
   | _,_,_=>False
  | none=>False
 | .boxD t x=>match d with
  | some k=>match L.get k,(eD ρ x).okc,Om t with
   | none,true,true=>fl (eW (eD ρ x)) fun cs=>K (L.set k (.box t cs)) (bV d (.own k 0) ρ)
   | _,_,_=>False
  | none=>False
 | .boxF t x=>match(eD ρ x).okc,eP (eW (eD ρ x)),gJ (eW (eD ρ x)) with
  | true,true,true=>fl ((eW (eD ρ x)).map C.can) fun cs=>K L (bV d (.pt cs 0) ρ)
  | _,_,_=>False
 | .alloc t zs=>match d with
  | some k=>match L.get k,Om t with
   | none,true=>fl (zs.map tQ) fun cs=>K (L.set k (.box t cs)) (bV d (.own k 0) ρ)
   | _,_=>False
  | none=>False
 | .allocD t zs=>match d with
  | some k=>match L.get k,Om t with
   | none,true=>fl (zs.map tQ) fun cs=>K (L.set k (.box t cs)) (bV d (.own k 0) ρ)
   | _,_=>False
  | none=>False
 | .mkF e n sz xs=>match rK ρ sz xs,Nat.beq xs.length n,Nat.ble n 9223372036854775807 with
  | true,true,true=>K L (bV d (.slx (wh ρ xs)) ρ)
  | false,true,true=>match Nat.beq sz 1,xs with
   | true,x::_=>match(eD ρ x).cel with
    | .own k _=>match wZ k ρ xs with
     | some p=>K L (bV d (.slo k p) ρ)
     | none=>False
    | _=>False
   | _,_=>False
  | _,_,_=>False
 | .mkFD e n sz xs=>match rK ρ sz xs,Nat.beq xs.length n,Nat.ble n 9223372036854775807 with
  | true,true,true=>K L (bV d (.slx (wh ρ xs)) ρ)
  | false,true,true=>match Nat.beq sz 1,xs with
   | true,x::_=>match(eD ρ x).cel with
    | .own k _=>match wZ k ρ xs with
     | some p=>K L (bV d (.slo k p) ρ)
     | none=>False
    | _=>False
   | _,_=>False
  | _,_,_=>False
 | .mkR e n sz xs=>match rK ρ sz xs,Nat.beq xs.length n,Nat.ble n 9223372036854775807,d with
  | true,true,true,some k=>match L.get k with
   | none=>K (L.set k (.row e sz (wh ρ xs))) (bV d (.rw k) ρ)
   | some _=>False
  | _,_,_,_=>False
 | .makeS e sz bytes zs l c=>match eD ρ l,eD ρ c,d with
  | .int _ n,.int _ m,some k=>match L.get k,eI (zs.map tQ) sz,eP (zs.map tQ) with
   | none,true,true=>vY n m bytes fun n=>K (L.set k (.row e sz (List.replicate n ((zs.map tQ).map C.can)))) (bV d (.rw k) ρ)
   | _,_,_=>False
  | _,_,_=>False
 | .makeSD e sz n zs=>match d with
  | some k=>match L.get k,eI (zs.map tQ) sz,(Nat.beq n 0||eP (zs.map tQ)),Nat.ble n 9223372036854775807 with
   | none,true,true,true=>K (L.set k (.row e sz (List.replicate n ((zs.map tQ).map C.can)))) (bV d (.rw k) ρ)
   | _,_,_,_=>False
  | none=>False
 | .makeSV e sz bytes zs x=>match eD ρ x,d with
  | .int _ n,some k=>match L.get k,eI (zs.map tQ) sz,eP (zs.map tQ) with
   | none,true,true=>vY n n bytes fun n=>K (L.set k (.row e sz (List.replicate n ((zs.map tQ).map C.can)))) (bV d (.rw k) ρ)
   | _,_,_=>False
  | _,_=>False
 | .storeK key n a x=>match eD ρ a with
  | .own k _=>match Nat.beq k key with
   | true=>storeT true n a x d L ρ K
   | false=>False
  | _=>False
 | .copy e sz a b=>Wv P (.copy e sz a b) d L ρ K
 | .copyX _ _ _ _=>False
 | .store n a x=>Gm n a x d L ρ K
 | .storeD n a x=>storeT true n a x d L ρ K
 | .call f args=>fl (fB ρ args) fun args=>nA P f args L ρ fun L' ρ' v=>fT L' fun L'=>yd v fun v=>K L' (bV d v ρ')
 | .callV f args=>match eD ρ f with
  | .fn f fi ca=>fl (fi++fB ρ args++ca) fun args=>nA P f args L ρ fun L' ρ' v=>fT L' fun L'=>yd v fun v=>K L' (bV d v ρ')
  | .mval nm c=>match c with
   | .ifc t c=>JH P t nm fun f=>fl (fB ρ args) fun args=>nA P f (c::args) L ρ fun L' ρ' v=>fT L' fun L'=>yd v fun v=>K L' (bV d v ρ')
   | _=>False
  | .ifo (some nm) t k off=>JH P t nm fun f=>fl (fB ρ args) fun args=>nA P f (.own k off::args) L ρ fun L' ρ' v=>fT L' fun L'=>yd v fun v=>K L' (bV d v ρ')
  | .mof t nm=>match Sq P t,fB ρ args with
   | true,.ifc u c::h=>JH P u nm fun f=>fl h fun h=>nA P f (c::h) L ρ fun L' ρ' v=>fT L' fun L'=>yd v fun v=>K L' (bV d v ρ')
   | _,_=>False
  | _=>False
 | .callD f args=>fl (fB ρ args) fun args=>rM P f args L ρ d fun L' ρ' v=>fT L' fun L'=>yd v fun v=>K L' (bV d v ρ')
 | .callVD f args=>match eD ρ f with
  | .fn f fi ca=>fl (fi++fB ρ args++ca) fun args=>rM P f args L ρ d fun L' ρ' v=>fT L' fun L'=>yd v fun v=>K L' (bV d v ρ')
  | .mval nm c=>match c with
   | .ifc t c=>JH P t nm fun f=>fl (fB ρ args) fun args=>rM P f (c::args) L ρ d fun L' ρ' v=>fT L' fun L'=>yd v fun v=>K L' (bV d v ρ')
   | _=>False
  | _=>False
 | .callO f args=>fl (fB ρ args) fun args=>CU P f args L ρ fun L' ρ' v=>fT L' fun L'=>yd v fun v=>K L' (bV d v ρ')
 | .app e sz bytes _ s x=>Uo e sz bytes (eD ρ s) (eD ρ x) d L ρ K
 | .appD e sz bytes _ s x=>match eD ρ s,(eD ρ x).can,d with
  | .rw k,.sl news,_=>match L.get k with
   | some (.row e' q els)=>match Nat.beq e e',Nat.beq sz q with
    | true,true=>uE els news sz bytes (fT ((L.aa8 (C.kill k)).set k (.row e sz (els++news))) fun L=>K L (bV d (.rw k) fun j=>(ρ j).kill k))
    | _,_=>False
   | _=>False
  | .nils,.sl news,some k=>match L.get k with
   | none=>uE [] news sz bytes (fT (L.set k (.row e sz news)) fun L=>K L (bV d (.rw k) ρ))
   | some _=>False
  | .slx els,.sl news,some k=>match L.get k with
   | none=>0<news.length/\(∀es∈els,es.length=sz)/\uE els news sz bytes (fT (L.set k (.row e sz (els++news))) fun L=>K L (bV d (.rw k) ρ))
   | some _=>False
  | _,_,_=>False
 | .appZ e bytes r s x=>match eD ρ s,eD ρ x,d with
  | .rw k,.int _ i,_=>match L.get k with
   | some (.row e' q els)=>match Nat.beq e e',Nat.beq 1 q with
    | true,true=>K9 i fun m=>uE els (List.replicate m [.int r 0]) 1 bytes (fT ((L.aa8 (C.kill k)).set k (.row e 1 (els++List.replicate m [.int r 0]))) fun L=>K L (bV d (.rw k) fun j=>(ρ j).kill k))
    | _,_=>False
   | _=>False
  | .nils,.int _ i,some k=>match L.get k with
   | none=>K9 i fun m=>uE [] (List.replicate m [.int r 0]) 1 bytes (K (L.set k (.row e 1 (List.replicate m [.int r 0]))) (bV d (.rw k) ρ))
   | some _=>False
  | _,_,_=>False
 | o=>outT o L ρ fun v=>yd v fun v=>K L (bV d v ρ)
def wo (P:Program) (PS:qX) (o:fD) (d:Option Nat) (L:TL) (ρ:bg) (K:TK):Prop :=
 match o with
 | .call f args=>fl (fB ρ args) fun args=>match PS.st with
  | none=>qo P PS f args L ρ fun L' ρ' v=>fT L' fun L'=>yd v fun v=>K L' (bV d v ρ')
  | some s=>CT P PS.ps PS.hb s f args L ρ fun L' ρ' v=>fT L' fun L'=>yd v fun v=>K L' (bV d v ρ')
 | .callV f args=>match eD ρ f with
  | .fn f fi ca=>fl (fi++fB ρ args++ca) fun args=>match PS.st with
   | none=>qo P PS f args L ρ fun L' ρ' v=>fT L' fun L'=>yd v fun v=>K L' (bV d v ρ')
   | some s=>CT P PS.ps PS.hb s f args L ρ fun L' ρ' v=>fT L' fun L'=>yd v fun v=>K L' (bV d v ρ')
  | .ifo (some nm) t k off=>JH P t nm fun f=>fl (fB ρ args) fun args=>match PS.st with
   | none=>qo P PS f (.own k off::args) L ρ fun L' ρ' v=>fT L' fun L'=>yd v fun v=>K L' (bV d v ρ')
   | some s=>CT P PS.ps PS.hb s f (.own k off::args) L ρ fun L' ρ' v=>fT L' fun L'=>yd v fun v=>K L' (bV d v ρ')
  | _=>False
 | .pan x=>match PS.st with
  | none=>Wu PS L (eD ρ x)
  | some s=>YF PS.ps PS.hb s L (eD ρ x)
 | _=>False
def Gn (P:Program) (PS:qX) (a:List Nat) (o:fD) (d:Option Nat) (L:TL) (ρ:bg) (K:TK):Prop :=
 match o with
 | .call f args=>fl (fB ρ args) fun args=>match PS.st with
  | some s=>yh P PS.ps PS.hb s a f args L ρ fun L' ρ' v=>fT L' fun L'=>yd v fun v=>K L' (bV d v ρ')
  | none=>nH P PS a f args L ρ fun L' ρ' v=>fT L' fun L'=>yd v fun v=>K L' (bV d v ρ')
 | .callV f args=>match eD ρ f with
  | .fn f fi ca=>fl (fi++fB ρ args++ca) fun args=>match PS.st with
   | some s=>yh P PS.ps PS.hb s a f args L ρ fun L' ρ' v=>fT L' fun L'=>yd v fun v=>K L' (bV d v ρ')
   | none=>nH P PS a f args L ρ fun L' ρ' v=>fT L' fun L'=>yd v fun v=>K L' (bV d v ρ')
  | .ifo (some nm) t k off=>JH P t nm fun f=>fl (fB ρ args) fun args=>match PS.st with
   | some s=>yh P PS.ps PS.hb s a f (.own k off::args) L ρ fun L' ρ' v=>fT L' fun L'=>yd v fun v=>K L' (bV d v ρ')
   | none=>nH P PS a f (.own k off::args) L ρ fun L' ρ' v=>fT L' fun L'=>yd v fun v=>K L' (bV d v ρ')
  | _=>False
 | _=>False
def BM:List aB->TL->Bool
 | [],_=>true
 | s::l,L=>match vn s with
  | none=>BM l L
  | some k=>match L.get k with | none=>BM l L | some _=>false
def tT (d:Option Nat) (ρ:bg):bg :=
 match d with
 | some k=>fun j=>match Nat.beq j k with | true=>(ρ k).acA | false=>ρ j
 | none=>ρ
def Lh (a:Bool) (d:Option Nat) (ρ:bg):bg:=match a with | true=>ρ | false=>tT d ρ
def stepT (P:Program) (PS:qX) (e:Bool) (s:aB) (c:TL->bg->TK->Prop) (L:TL) (ρ:bg) (K:TK):Prop :=
 match s with
 | .op d o none=>cV P o d L ρ fun L' ρ'=>c L' (Lh e d ρ') K
 | .op d o (some (s,a))=>match ρ s with
  | .bool b=>yU b
    (match a with
     | true=>cV P o d L (bV (some s) (.bool true) ρ) fun L' ρ'=>c L' (Lh e d ρ') K
     | false=>c L (bV d .und (bV (some s) (.bool true) ρ)) K)
    (match a with
     | false=>cV P o d L (bV (some s) (.bool false) ρ) fun L' ρ'=>c L' (Lh e d ρ') K
     | true=>c L (bV d .und (bV (some s) (.bool false) ρ)) K)
  | .und=>c L (bV d .und ρ) K
  | _=>False
 | .frz k=>match e,L.get k with
  | false,some (.row _ _ els)=>fT ((L.del k).aa8 (C.frz k els)) fun L=>c L (fun j=>(ρ j).frz k els) K
  | false,some (.box _ cs)=>match eP cs,gJ cs,Nat.blt k 1000,gS (PS.hb.map (·.1)) k with
   | true,true,true,false=>fT ((L.del k).aa8 (C.frb k cs)) fun L=>c L (fun j=>(ρ j).frb k cs) K
   | _,_,_,_=>False
  | _,_=>False
 | .pc d o none=>match e with
  | true=>False
  | false=>wo P PS o d L ρ fun L' ρ'=>c L' (tT d ρ') K
 | .pc d o (some (s,a))=>match e,ρ s with
  | false,.bool b=>yU b
    (match a with
     | true=>wo P PS o d L (bV (some s) (.bool true) ρ) fun L' ρ'=>c L' (tT d ρ') K
     | false=>c L (bV d .und (bV (some s) (.bool true) ρ)) K)
    (match a with
     | false=>wo P PS o d L (bV (some s) (.bool false) ρ) fun L' ρ'=>c L' (tT d ρ') K
     | true=>c L (bV d .und (bV (some s) (.bool false) ρ)) K)
  | false,.und=>c L (bV d .und ρ) K
  | _,_=>False
def BN (P:Program) (PS:qX) (b:List Nat) (s:aB) (a:TL->bg->TK->Prop) (L:TL) (ρ:bg) (K:TK):Prop :=
 match s with
 | .pc d o none=>Gn P PS b o d L ρ fun L' ρ'=>a L' ρ' K
 | s=>stepT P PS true s a L ρ K
noncomputable def eS (P:Program) (PS:qX) (a:Bool) (ss:List aB):TL->bg->TK->Prop :=
 List.rec (motive:=fun _=>TL->bg->TK->Prop) (fun L ρ K=>K L ρ) (fun s _ b L ρ K=>stepT P PS a s b L ρ K) ss
noncomputable def lX (P:Program) (PS:qX) (b:List Nat) (ss:List aB):TL->bg->TK->Prop :=
 List.rec (motive:=fun _=>TL->bg->TK->Prop) (fun L ρ K=>K L ρ) (fun s _ a L ρ K=>BN P PS b s a L ρ K) ss
theorem kX {P:Program}{PS:qX}{b:List Nat}{s:aB}{a:List aB}{L:TL}{ρ:bg}{K:TK}:lX P PS b (s::a) L ρ K=BN P PS b s (lX P PS b a) L ρ K:=rfl
theorem gB {P:Program}{PS:qX}{b:Bool}{s:aB}{a:List aB}{L:TL}{ρ:bg}{K:TK}:eS P PS b (s::a) L ρ K=stepT P PS b s (eS P PS b a) L ρ K:=rfl
def uF:List C->C
 | [v]=>v
 | l=>.tup l
def rN (L:TL) (ρ:bg):List RV->(List C->Prop)->Prop
 | [],K=>K []
 | (t,none)::l,K=>rN L ρ l fun vs=>K ((ρ t).cel::vs)
 | (t,some (agg,n))::l,K=>match ρ t with
  | .own k off=>match L.get k with
   | some (.box _ cs)=>match eI ((cs.drop off).take n) n with
    | true=>rN L ρ l fun vs=>K ((DW agg ((cs.drop off).take n)).cel::vs)
    | false=>False
   | _=>False
  | _=>False
structure o7 (Lin:List TO) (L:TL) (v:C) (R:List TO->C->Prop):Prop where
 out:∃(fz ko:List Nat),xN fz L (fun _=>.any) [v] fun L _ vs =>
  ∃(L1:TL) (c c1:C) (Mo:List TO),vs=[c]/\((L1=L/\c1=c)\/(gives L L1 L1/\Lb L L1 c c1))/\L1.sub ko=some Mo/\bR ko=true/\aY Lin (List.range' 1000 Lin.length) ko=true /\
   (tE [c1]->R (Mo.map (TO.aa8 (C.ren (cn ko 1000)))) (c1.abF.ren (cn ko 1000)))
def tU (asg:List Nat) (ρ:bg):bg:=fun j=>match gS asg j with | true=>.any | false=>(ρ j).acK
structure vv (body:TL->bg->TK->Prop) (asg:List Nat) (L:TL) (ρ:bg):Prop where
 out:∃(σ:Type) (x0:σ) (Inv:σ->Prop) (ls:List Nat) (lv:σ->List C) (Lf:σ->TL) (μ:σ->Nat),
  Inv x0/\mW L (Lf x0) ls (lv x0) ρ/\gives L (Lf x0) (Lf x0)/\(∀x,mX L (Lf x)=true)/\(∀x,(lv x).length=ls.length) /\
  ∀x,Inv x->tE (lv x)->(∀k o,(Lf x).get k=some o->o.Wf)->body (Lf x) (qO ls (lv x) (tU asg ρ)) fun L' ρ' =>
   ∃x',Inv x'/\mW L' (Lf x') ls (lv x') ρ'/\gives L' (Lf x') (Lf x')/\μ x'<μ x
def eT:List aB->List Nat
 | []=>[]
 | .frz k::l=>k::eT l
 | .op _ _ _::l=>eT l
 | .pc _ _ _::l=>eT l
def jE:aI->List Nat
 | .reg d=>eT d
 | .regD d=>eT d
 | .regX d=>eT d
 | .seq a b=>jE a++jE b
 | .cond _ a b=>jE a++jE b
 | .block _ c=>jE c
 | .loop _ c=>jE c
 | _=>[]
def uG (L:TL):List Nat->Bool
 | []=>true
 | k::ks=>match L.get k with | some (.box _ _)=>false | some (.map _)=>false | some (.win _ _ _ _)=>false | _=>uG L ks
def Lj:List aB->Bool
 | []=>false
 | .op _ (.copyX _ _ _ _) _::_=>true
 | _::l=>Lj l
structure Uq (P:Program) (PS:qX) (ops:List aB) (M:TL) (τ:bg) (N:TK):Prop where
 st:PS.st=none
 out:∀(G:Nat->Option (Nat×TypeId)) (PX:aJ->Loc->Value->Prop),
  (∀(F:aJ) (L:Loc) (ρ:Env) (M:TL) (τ:bg) (f:Nat) (args:List C) (vs:List Value) (K:TL->bg->C->Prop),TS G F L ρ M τ->aK F L args vs->nH P PS (CR ops) f args M τ K ->
   CallXDPt P PX (CR ops) f vs F L fun F' L' v=>∃M' τ' c,TS G F' L' ρ M' τ'/\bh F' L' c (.v v)/\K M' τ' c) ->
  ∀(F:aJ) (L:Loc) (ρ:Env),Real F L->TS G F L ρ M τ->bO P PX (CR ops) ops F L ρ fun F L ρ=>∃M τ,TS G F L ρ M τ/\N M τ
noncomputable def gh (P:Program) (PS:qX) (c:aI):(Nat->TK)->TK->TK->TK :=
 aI.rec (motive:=fun _=>(Nat->TK)->TK->TK->TK)
  (fun _ _ N L ρ=>N L ρ)
  (fun a _ _ N L ρ=>eS P PS false a L ρ N)
  (fun a _ _ N L ρ=>eS P PS true a L ρ N)
  (fun a _ _ N L ρ=>match BM a L with | true=>(match Lj a with | true=>Uq P PS a L ρ N | false=>lX P PS (CR a) a L ρ N) | false=>False)
  (fun _ _ b d E R N L ρ=>b E R (fun L ρ=>d E R N L ρ) L ρ)
  (fun c _ _ b d E R N L ρ=>match eD ρ c with
   | .bool t=>yU t (b E R N L ρ) (d E R N L ρ)
   | _=>False)
  (fun id _ e E R N L ρ=>e (fun j=>match Nat.beq j id with | true=>N | false=>E j) R N L ρ)
  (fun asg c e E R _ L ρ=>match uG L (jE c) with | true=>vv (fun L ρ K=>e E R K L ρ) asg L ρ | false=>False)
  (fun id E _ _ L ρ=>E id L ρ)
  (fun _ R _ L ρ=>R L ρ) c
section
variable {P:Program}{PS:qX}{E:Nat->TK}{R N:TK}{L:TL}{ρ:bg}
theorem mG:gh P PS .skip E R N L ρ=N L ρ:=rfl
theorem oe {a:List aB}:gh P PS (.reg a) E R N L ρ=eS P PS false a L ρ N:=rfl
theorem mH {a:List aB}:gh P PS (.regD a) E R N L ρ=eS P PS true a L ρ N:=rfl
theorem Ez {a:List aB}:gh P PS (.regX a) E R N L ρ=(match BM a L with | true=>(match Lj a with | true=>Uq P PS a L ρ N | false=>lX P PS (CR a) a L ρ N) | false=>False):=rfl
theorem og {a b:aI}:gh P PS (.seq a b) E R N L ρ=gh P PS a E R (fun L ρ=>gh P PS b E R N L ρ) L ρ:=rfl
theorem mI {c:X}{a b:aI}:gh P PS (.cond c a b) E R N L ρ=(match eD ρ c with
   | .bool t=>yU t (gh P PS a E R N L ρ) (gh P PS b E R N L ρ)
   | _=>False):=rfl
theorem kY {id:Nat}{c:aI}:gh P PS (.block id c) E R N L ρ=gh P PS c (fun j=>match Nat.beq j id with | true=>N | false=>E j) R N L ρ:=rfl
theorem mJ {asg:List Nat}{c:aI}:gh P PS (.loop asg c) E R N L ρ=(match uG L (jE c) with | true=>vv (fun L ρ K=>gh P PS c E R K L ρ) asg L ρ | false=>False):=rfl
theorem mK {id:Nat}:gh P PS (.exit id) E R N L ρ=E id L ρ:=rfl
theorem oh:gh P PS .ret E R N L ρ=R L ρ:=rfl
end
def xO:Nat->List C->bg
 | _,[]=>fun _=>.und
 | k,v::l=>bV (some k) v (xO (k+1) l)
theorem wf_wrap (k:IntKind) (n:Int):(Lit.int k (k.wrap n)).wf=true:=by
 cases k<;>simp[Lit.wf,IntKind.wrap,IntKind.min,IntKind.max,IntKind.bits,IntKind.signed]<;>(try split)<;>omega
theorem CW (k:IntKind) (n:Int):(Lit.int k n).wf=true↔k.min<=n/\n<=k.max:=by simp[Lit.wf]
theorem HG (k:IntKind):k.min<=0:=by cases k<;>simp[IntKind.min,IntKind.bits,IntKind.signed]
theorem HI (k:IntKind):127<=k.max:=by cases k<;>simp[IntKind.max,IntKind.bits,IntKind.signed]
def okB:Value->Prop
 | .int k n=>(Lit.int k n).wf=true
 | .bool _=>True
 | .string s=>s.size<=maxLen
 | _=>False
section
variable {P:Program}{G:Nat->Option (Nat×TypeId)}{F:aJ}{L:Loc}{ρ:Env}{M:TL}{τ:bg}
theorem zA {v:Value}(h:okB v):bh F L (Ul v) (.v v):=by
 cases v
 case int k n=>exact⟨.int k n,rfl,by simp only[Ul,Rel];exact⟨trivial,h⟩⟩
 case bool b=>exact⟨.bool b,rfl,by simp only[Ul,Rel]⟩
 case string b=>exact⟨.string b,rfl,by simp only[Ul,Rel];exact⟨trivial,h⟩⟩
 all_goals exact h.elim
theorem O7 {k:IntKind}{a b:Int}(h:(Lit.int k a).wf=true):(Lit.int k (a.tmod b)).wf=true:=by
 rw[CW] at h ⊢;have j:=HG k;have e:=HI k
 by_cases d:0<=a
 ·have:=Int.tmod_nonneg b d;have c:a.tmod b<=a:=by
   have:(a.tmod b).natAbs<=a.natAbs:=by rw[Int.natAbs_tmod];exact Nat.mod_le _ _
   omega
  omega
 ·have c:(a.tmod b).natAbs<=a.natAbs:=by rw[Int.natAbs_tmod];exact Nat.mod_le _ _
  have f:a.tmod b<=0:=by
   have:=Int.tmod_nonneg b (show 0<=-a by omega);rw[Int.neg_tmod] at this;omega
  omega
theorem O8 {k:IntKind}{a:Int}{m:Nat}(h:(Lit.int k a).wf=true):(Lit.int k (a.fdiv (2 ^ m))).wf=true:=by
 rw[CW] at h ⊢;have j:=HG k;have f:=HI k;have b:(0:Int)<2 ^ m:=Int.pow_pos (by omega);rw[Int.fdiv_eq_ediv_of_nonneg _ (by omega)]
 by_cases c:0<=a
 ·have d:=Int.ediv_nonneg c (Int.le_of_lt b);have e:=Int.ediv_le_self (2 ^ m) c;omega
 ·have d:a / 2 ^ m<0:=Int.ediv_neg_of_neg_of_pos (by omega) b;have e:a<=a / 2 ^ m:=by
   have:a*1<=a / 2 ^ m:=by
    apply Int.le_ediv_of_mul_le b;rw[Int.mul_one];have:a*2 ^ m<=a*1:=Int.mul_le_mul_of_nonpos_left (by omega) (by omega);omega
   omega
  omega
theorem JI {op:BinOp}{k:IntKind}{a b:Int}{K K':Value->Prop}(d:(Lit.int k a).wf=true) (h:binI op k a b K) (c:∀v,okB v->K v->K' v):binI op k a b K':=by
 cases op<;>simp only[binI] at h ⊢<;>first
  | exact h.elim
  | exact⟨c _ (wf_wrap _ _) h.out⟩
  | exact⟨h.ne,⟨c _ (wf_wrap _ _) h.out.out⟩⟩
  | exact⟨h.ne,c _ (O7 d) h.out⟩
  | exact c _ (wf_wrap _ _) h
  | exact c _ trivial h
theorem Ll {op:BinOp}{k:IntKind}{a b:Int}{K K':Value->Prop}(d:(Lit.int k a).wf=true) (h:shI op k a b K) (c:∀v,okB v->K v->K' v):shI op k a b K':=by
 cases op<;>simp only[shI] at h ⊢<;>first
  | exact h.elim
  | exact⟨h.1,⟨c _ (wf_wrap _ _) h.2.out⟩⟩
  | exact⟨h.1,c _ (O8 d) h.2⟩
theorem JJ {op:BinOp}{a b:ByteArray}{K K':Value->Prop}(h:binS op a b K) (c:∀v,okB v->K v->K' v):binS op a b K':=by
 cases op<;>simp only[binS] at h ⊢<;>first
  | exact h.elim
  | exact c _ trivial h
  | exact⟨h.1,c _ (by
    have d:=h.1;simp[IntKind.max,IntKind.bits,IntKind.signed] at d;show(a++b).size<=maxLen;rw[ByteArray.size_append];simp only[maxLen];omega) h.2⟩
theorem HJ (v:Value):Rel F L (tQ v) v:=by
 unfold tQ;split
 ·split
  ·rename_i h;simp only[Rel];exact⟨trivial,h⟩
  ·simp only[Rel]
 ·simp only[Rel]
 ·split
  ·rename_i h;simp only[Rel];exact⟨trivial,ac8 h⟩
  ·simp only[Rel]
 ·simp only[Rel]
 ·simp only[Rel]
 ·simp only[Rel]
 ·simp only[Rel];exact CA
 ·simp only[Rel]
 ·simp only[Rel]
theorem ol:∀vs:List Value,aK F L (vs.map tQ) vs
 | []=>by simp only[adA,aK]
 | v::vs=>by simp only[acU,aK];exact⟨v,vs,rfl,HJ v,ol vs⟩
theorem Ww (v:Value):bh F L (tQ v) (.v v):=by
 have h:=HJ (F:=F) (L:=L) v
 revert h
 unfold tQ;split
 ·split
  ·exact fun h=>⟨_,rfl,h⟩
  ·exact fun h=>trivial
 ·exact fun h=>⟨_,rfl,h⟩
 ·split
  ·exact fun h=>⟨_,rfl,h⟩
  ·exact fun h=>trivial
 ·exact fun h=>⟨_,rfl,h⟩
 ·exact fun h=>⟨_,rfl,h⟩
 ·exact fun h=>⟨_,rfl,h⟩
 ·exact fun h=>⟨_,rfl,h⟩
 ·exact fun h=>⟨_,rfl,h⟩
 ·exact fun h=>trivial
theorem Wx (v:Value):bh F L (cv v) (.v v):=by
 unfold cv;split
 ·rename_i cs;exact⟨_,rfl,by simp only[Rel];exact⟨cs.toList,by simp,ol _⟩⟩
 ·exact Ww v
theorem eY (h:∀j,bh F L (τ j) (ρ j)) (x:X):bh F L (eD τ x) (ev ρ x):=by
 cases x with
 | t n=>exact h n
 | c v=>exact Wx v
 | fn f=>exact⟨_,rfl,by simp only[eD,Rel];exact⟨[],[],by simp,by simp only[aK],by simp only[aK]⟩⟩
 | mt nm n =>
  have a:=h n;simp only[eD,ev,mtC];split
  ·rename_i t c e;rw[e] at a;simp only[bh] at a ⊢;obtain⟨v,b,d⟩:=a;rw[b];refine⟨_,rfl,?_⟩;simp only[Rel] at d ⊢;exact⟨v,rfl,d⟩
  ·rename_i t k off e;rw[e] at a;simp only[bh,Rel] at a ⊢;obtain⟨v,b,g,m,cs,l,rfl⟩:=a;rw[b];exact⟨_,rfl,g,m,cs,l,rfl⟩
  ·simp only[bh]
theorem gP {x:X}{k:IntKind}{n:Int}(h:∀j,bh F L (τ j) (ρ j)) (e:eD τ x=.int k n):ev ρ x=.v (.int k n)/\(Lit.int k n).wf=true:=by
 have:=eY h x;rw[e] at this;simp only[bh,Rel] at this;obtain⟨v,a,rfl,b⟩:=this;exact⟨a,b⟩
theorem jq {x:X}{b:Bool}(h:∀j,bh F L (τ j) (ρ j)) (e:eD τ x=.bool b):ev ρ x=.v (.bool b):=by
 have:=eY h x;rw[e] at this;simp only[bh,Rel] at this;obtain⟨v,a,rfl⟩:=this;exact a
theorem yj {x:X}{s:ByteArray}(h:∀j,bh F L (τ j) (ρ j)) (e:eD τ x=.str s):ev ρ x=.v (.string s)/\s.size<=maxLen:=by
 have:=eY h x;rw[e] at this;simp only[bh,Rel] at this;obtain⟨v,a,rfl,b⟩:=this;exact⟨a,b⟩
theorem Ur {x:X}{els:List (List C)}(h:∀j,bh F L (τ j) (ρ j)) (e:eD τ x=.sl els) :
  ∃a c sz,ev ρ x=.v (.slice a els.length c)/\els.length<=c/\els.length<=maxLen/\(a=none->els=[]/\c=0)/\ij F a sz 0 els:=by
 have:=eY h x;rw[e] at this;simp only[bh,Rel] at this;obtain⟨v,b,a,c,rfl,d,k,f,sz,l⟩:=this;exact⟨a,c,sz,b,d,k,f,l⟩
theorem rO {x:X}(h:∀j,bh F L (τ j) (ρ j)) (e:eD τ x=.nils):ev ρ x=.v (.slice none 0 0):=by
 have:=eY h x;rw[e] at this;simp only[bh,Rel] at this;obtain⟨v,a,rfl⟩:=this;exact a
theorem uH {x:X}{k:Nat}(h:∀j,bh F L (τ j) (ρ j)) (e:eD τ x=.rw k):∃a c t sz n xs,ev ρ x=.v (.slice a n c)/\L.get k=some (.row (.slice a n c) t sz n xs):=by
 have:=eY h x;rw[e] at this;simp only[bh,Rel] at this;obtain⟨v,b,a,c,t,sz,n,xs,rfl,d⟩:=this;exact⟨a,c,t,sz,n,xs,b,d⟩
theorem iz {x:X}{k off:Nat}(h:∀j,bh F L (τ j) (ρ j)) (e:eD τ x=.own k off):ev ρ x=.own k off/\∃g t cs,L.get k=some (.box g t cs):=by
 have:=eY h x;rw[e] at this;simp only[bh] at this;exact this
theorem pR {x:X}{k off:Nat}(h:∀j,bh F L (τ j) (ρ j)) (e:eD τ x=.ownv k off):∃g t cs,L.get k=some (.box g t cs)/\Yg (ev ρ x) (.pointer (some ⟨g,off,none⟩)):=by
 have:=eY h x;rw[e] at this;simp only[bh,Rel] at this;obtain⟨v,a,g,t,cs,b,rfl⟩:=this;exact⟨g,t,cs,b,a⟩
theorem zB {x:X}{f:Nat}{fi ca:List C}(h:∀j,bh F L (τ j) (ρ j)) (e:eD τ x=.fn f fi ca):∃a b,ev ρ x=.v (.func (.func f) a.toArray b.toArray)/\aK F L fi a/\aK F L ca b:=by
 have:=eY h x;rw[e] at this;simp only[bh,Rel] at this;obtain⟨v,c,a,b,rfl,d,k⟩:=this;exact⟨a,b,c,d,k⟩
theorem CX {x:X}{cs:List C}(h:∀j,bh F L (τ j) (ρ j)) (e:eD τ x=.agg cs):∃vs,ev ρ x=.v (.agg vs.toArray)/\aK F L cs vs:=by
 have:=eY h x;rw[e] at this;simp only[bh,Rel] at this;obtain⟨v,b,vs,rfl,a⟩:=this;exact⟨vs,b,a⟩
theorem O9 {x:X}{cs:List C}(h:∀j,bh F L (τ j) (ρ j)) (e:eD τ x=.tup cs):∃vs,ev ρ x=.v (.tuple vs.toArray)/\aK F L cs vs:=by
 have:=eY h x;rw[e] at this;simp only[bh,Rel] at this;obtain⟨v,b,vs,rfl,a⟩:=this;exact⟨vs,b,a⟩
theorem CY {x:X}{t:TypeId}{c:C}(h:∀j,bh F L (τ j) (ρ j)) (e:eD τ x=.ifc t c):∃u,ev ρ x=.v (.iface t u)/\Rel F [] c u:=by
 have:=eY h x;rw[e] at this;simp only[bh,Rel] at this;obtain⟨v,a,u,rfl,b⟩:=this;exact⟨u,a,b⟩
theorem qp {x:X}{m:Option String}{t:TypeId}{k off:Nat}(h:∀j,bh F L (τ j) (ρ j)) (e:eD τ x=.ifo m t k off):∃g a cs,L.get k=some (.box g a cs)/\ev ρ x=.v (Ew m t (.pointer (some ⟨g,off,none⟩))):=by
 have:=eY h x;rw[e] at this;simp only[bh,Rel] at this;obtain⟨v,b,g,a,cs,c,rfl⟩:=this;exact⟨g,a,cs,c,b⟩
theorem HK {x:X}{k:Nat}(h:∀j,bh F L (τ j) (ρ j)) (e:eD τ x=.opq k):∃v,ev ρ x=.v v/\mT k F v:=by
 have:=eY h x;rw[e] at this;simp only[bh,Rel] at this;exact this
theorem zC {x:X}{nm:String}{c:C}(h:∀j,bh F L (τ j) (ρ j)) (e:eD τ x=.mval nm c):∃u,ev ρ x=.v (.func (.method nm) #[u] #[])/\Rel F [] c u:=by
 have:=eY h x;rw[e] at this;simp only[bh,Rel] at this;obtain⟨v,a,u,rfl,b⟩:=this;exact⟨u,a,b⟩
theorem Pb {x:X}{t:TypeId}{nm:String}(h:∀j,bh F L (τ j) (ρ j)) (e:eD τ x=.mof t nm):ev ρ x=.v (.func (.methodOf t nm) #[] #[]):=by
 have:=eY h x;rw[e] at this;simp only[bh,Rel] at this;obtain⟨v,a,rfl⟩:=this;exact a
theorem HL {x:X}{k:Nat}{a:List Nat}(h:∀j,bh F L (τ j) (ρ j)) (e:eD τ x=.slo k a):∃g t cs b,L.get k=some (.box g t cs)/\ev ρ x=.v (.slice (some b) a.length a.length)/\a.length<=maxLen/\cC F (some b) 0 (a.map fun o=>.pointer (some ⟨g,o,none⟩)):=by
 have:=eY h x;rw[e] at this;simp only[bh,Rel] at this;obtain⟨v,f,g,t,cs,b,c,rfl,d,l⟩:=this;exact⟨g,t,cs,b,c,f,d,l⟩
theorem Pc {x:X}{k j:Nat}{a:List Nat}(h:∀j,bh F L (τ j) (ρ j)) (e:eD τ x=.slp k a j):∃g t cs b,L.get k=some (.box g t cs)/\ev ρ x=.el (some b) j/\cC F (some b) 0 (a.map fun o=>.pointer (some ⟨g,o,none⟩)):=by
 have:=eY h x;rw[e] at this;simpa only[bh] using this
theorem Gp {F:aJ}{f:Addr}{vs:List Value}{j:Nat}{v:Value}(h:cC F (some f) 0 vs) (k:vs[j]?=some v):cC F (some f) j [v]:=by
 obtain⟨d,b,t,l,e,hb,a,m⟩:=h;refine⟨d,b,t,l,e,hb,a,fun i u c=>?_⟩;cases i with
 | zero =>
  simp only[ac6,w7] at c;subst c;have:=m j v k;simpa using this
 | succ i=>simp at c
theorem rP {x:X}{es:List C}{off:Nat}(h:∀j,bh F L (τ j) (ρ j)) (e:eD τ x=.pt es off) :
  ∃b o j vs,(ev ρ x=.v (.pointer (some ⟨b,o,none⟩))/\j=0\/ev ρ x=.el (some ⟨b,o,none⟩) j)/\O5 F b (o+j) off vs/\eP es=true/\aK F [] es vs:=by
 have:=eY h x;rw[e] at this;simp only[bh] at this;exact this
theorem yp {x:X}{k j off:Nat}(h:∀j,bh F L (τ j) (ρ j)) (e:eD τ x=.elr k j off) :
  ∃a t sz n c xs,ev ρ x=.el (some a) (j*sz+off)/\L.get k=some (.row (.slice (some a) n c) t sz n xs):=by
 have:=eY h x;rw[e] at this;simp only[bh] at this;exact this
theorem mY (h:ep F L M) {k:Nat}{t:TypeId}{cs:List C}(e:M.get k=some (.box t cs)):∃g a vs,L.get k=some (.box g a vs)/\aK F L cs vs/\tyOk t g a:=by
 have:=h k;rw[e] at this;cases b:L.get k with
 | none=>rw[b] at this;exact this.elim
 | some o =>
  rw[b] at this;cases o with
  | row=>exact this.elim
  | box g a vs=>obtain⟨c,d⟩:=this;exact⟨g,a,vs,rfl,d,c⟩
theorem zD (h:ep F L M) {k:Nat}{t:TypeId}{pre cs post:List C}(e:M.get k=some (.win t pre cs post)):∃g b v1 a v3,L.get k=some (.box g b (v1++(a++v3)))/\aK F [] pre v1/\aK F L cs a/\aK F [] post v3/\tyOk t g b:=by
 have:=h k;rw[e] at this;cases c:L.get k with
 | none=>rw[c] at this;exact this.elim
 | some o =>
  rw[c] at this;cases o with
  | row=>exact this.elim
  | box g b vs=>obtain⟨j,v1,a,v3,rfl,d,l,f⟩:=this;exact⟨g,b,v1,a,v3,rfl,d,l,f,j⟩
theorem EA {v1 a v3:List Value}{o n:Nat}(c:((a.drop o).take n).length=n) (b:o+n<=a.length):((v1++(a++v3)).drop (v1.length+o)).take n=(a.drop o).take n:=by
 rw[List.drop_append,List.drop_eq_nil_of_le (by omega),acX,show v1.length+o-v1.length=o by omega,List.drop_append,List.take_append_of_le_length (by simp;omega)]
theorem mZ (h:ep F L M) {k:Nat}{t:TypeId}{sz:Nat}{els:List (List C)}(e:M.get k=some (.row t sz els)) :
  ∃v xs,L.get k=some (.row v t sz els.length xs)/\(els.length<=maxLen/\∃a c,v=.slice a els.length c/\(a=none->els.length=0))/\aT F sz els xs:=by
 have:=h k;rw[e] at this;cases b:L.get k with
 | none=>rw[b] at this;exact this.elim
 | some o =>
  rw[b] at this;cases o with
  | box=>exact this.elim
  | row v l f n xs=>obtain⟨rfl,rfl,rfl,d,j⟩:=this;exact⟨v,xs,rfl,d,j⟩
theorem dm (h:ep F L M) {k:Nat}(e:M.get k=none):L.get k=none:=by
 have:=h k;rw[e] at this;cases a:L.get k with
 | none=>rfl
 | some o=>rw[a] at this;exact this.elim
theorem cg:∀{l:List C}{n:Nat},eI l n=true->l.length=n
 | [],0,_=>rfl
 | [],n+1,h=>by simp[eI] at h
 | _::l,0,h=>by simp[eI] at h
 | _::l,n+1,h=>by simp only[eI] at h;simp[cg h]
theorem fR:∀{l:List Value}{n:Nat},l.length=n->iV l n=true
 | [],0,_=>rfl
 | [],n+1,h=>by simp at h
 | _::l,0,h=>by simp at h
 | _::l,n+1,h=>by simp only[iV];exact fR (by simpa using h)
theorem mq {c:C}{v:Value}(h:Rel F L c v):bh F L c.slt (.v v):=by
 cases c<;>(try simp only[C.slt])<;>try exact⟨v,rfl,h⟩
 case any=>trivial
 case pt es off =>
  simp only[Rel] at h;obtain⟨b,o,vs,rfl,a,d⟩:=h;exact⟨b,o,0,vs,.inl ⟨rfl,rfl⟩,a,d⟩
 case own=>exact⟨v,.inl rfl,h⟩
 case ownv=>exact h.elim
 case elr=>trivial
 case slp=>trivial
theorem dH {agg:Bool}{cs:List C}{vs:List Value}(h:aK F L cs vs):bh F L (DW agg cs) (.v (jI agg vs)):=by
 cases agg with
 | true=>exact⟨_,rfl,by simp only[DW,jI,Rel];exact⟨vs,rfl,h⟩⟩
 | false =>
  match cs,vs,h with
  | [],vs,h=>trivial
  | [c],vs,h =>
   simp only[aK] at h;obtain⟨v,b,rfl,a,rfl⟩:=h;exact mq a
  | _::_::_,vs,h=>trivial
theorem Yg.conc {sv:SV}{v:Value}(h:Yg sv v):Fr.conc L sv=v:=by
 rcases h with rfl | ⟨b,o,j,rfl,rfl⟩
 ·rfl
 ·simp only[Fr.conc,cZ]
theorem Pd {c:C}{sv:SV}(h:bh F L c sv) (q:c.one=true\/(∃k o,c=.ownv k o)\/c=.any\/(∃k j o,c=.elr k j o)\/(∃l,c=.agg l)\/(∃l,c=.tup l)\/c=.und\/(∃k o,c=.slo k o)\/(∃k o j,c=.slp k o j)):Rel F L c.cel (conc L sv):=by
 cases c<;>simp only[C.cel]<;>simp only[bh] at h
 case own k off =>
  obtain⟨rfl,g,t,cs,h⟩:=h;simp only[Rel,conc,h];exact⟨g,t,cs,rfl,rfl⟩
 case ownv k off =>
  obtain⟨v,f,h⟩:=h;rw[f.conc];exact h
 case pt es off =>
  obtain⟨b,o,j,vs,p,a,e,d⟩:=h;simp only[Rel];rcases p with⟨rfl,rfl⟩ | rfl
  ·exact⟨b,o,vs,rfl,a,e,d⟩
  ·exact⟨b,o+j,vs,by simp only[conc,cZ],a,e,d⟩
 case elr =>
  obtain⟨m,t,sz,n,c,xs,rfl,h⟩:=h;simp only[Rel];exact⟨m,t,sz,n,c,xs,rfl,h⟩
 case slp=>simp only[Rel]
 case any=>simp only[Rel]
 all_goals
  obtain⟨v,rfl,h⟩:=h;simpa only[conc] using h
theorem mL {c:C}{sv:SV}(h:bh F L c sv):Rel F L c.cel (conc L sv):=by
 apply Pd h;cases c<;>simp[C.one]
theorem CZ (h:∀j,bh F L (τ j) (ρ j)) (x:X):Rel F L (eD τ x).cel (val L ρ x):=mL (eY h x)
theorem dV (h:∀j,bh F L (τ j) (ρ j)):∀xs:List X,aK F L (fB τ xs) (bQ L ρ xs)
 | []=>by simp only[fB,bQ,aK]
 | x::xs=>by simp only[fB,bQ,aK];exact⟨_,_,rfl,CZ h x,dV h xs⟩
theorem Gq {c:C}{sv:SV}(h:bh F L c sv) (d:c.okc=true):aK F L (eW c) (aZ (conc L sv)):=by
 have a:=mL h;cases c<;>simp only[C.okc,acZ] at d<;>simp only[eW]<;>simp only[C.cel] at a ⊢
 case agg cs =>
  simp only[Rel] at a;obtain⟨vs,b,e⟩:=a;rw[b];simpa only[aZ] using e
 all_goals
  simp only[aK];refine⟨_,[],?_,a,rfl⟩
  revert a
  generalize conc L sv=v;intro a;simp only[Rel] at a
  first
   | (have b:=mT.one a;cases v<;>first | rfl | (exact s6 b (by decide)) | (simp[Value.oneCell'] at b))
   | (obtain⟨rfl,_⟩:=a;rfl)
   | (subst a;rfl)
   | (obtain⟨_,rfl,_⟩:=a;rfl)
   | (obtain⟨_,_,rfl,_⟩:=a;rfl)
   | (obtain⟨_,_,_,rfl,_⟩:=a;rfl)
   | (obtain⟨_,_,_,_,_,_,rfl,_⟩:=a;rfl)
   | (obtain⟨_,_,_,_,rfl⟩:=a;rfl)
   | (obtain⟨_,_,_,_,rfl⟩:=a;unfold Ew;split<;>rfl)
theorem iO (h:∀j,bh F L (τ j) (ρ j)) {x:X}(a:(eD τ x).okc=true):aK F L (eW (eD τ x)) (aZ (val L ρ x)):=Gq (eY h x) a
theorem ku {cs:List C}{vs:List Value}{off:Nat}{ds:List C}{us:List Value}(h:aK F L cs vs) (k:aK F L ds us):aK F L (iy cs off ds) (bq vs off us):=by
 simp only[iy,bq];rw[<-k.len];exact((h.take off).append k).append (h.drop _)
theorem BP (h:∀j,bh F L (τ j) (ρ j)):∀(ps:List (Nat×Nat×X)) {zs:List C}{vs:List Value}{cs:List C},aK F L zs vs->wj τ zs ps=some cs->∃us,built L ρ vs ps=some us/\aK F L cs us
 | [],zs,vs,cs,a,hb=>by
  simp only[wj,w7] at hb;subst hb;exact⟨vs,rfl,a⟩
 | (off,n,x)::ps,zs,vs,cs,a,hb=>by
  simp only[wj] at hb;split at hb
  case h_2=>cases hb
  rename_i d c;have b:=iO h d;have e:iV (aZ (val L ρ x)) n=true:=fR (by rw[b.len];exact cg c);simp only[built,e];exact BP h ps (ku a b) hb
theorem HM (h:∀j,bh F L (τ j) (ρ j)) {d i:Int}{x:Option X}(e:O4 τ d x=some i):pE ρ d x=some i:=by
 cases x with
 | none=>exact e
 | some x =>
  simp only[O4] at e;split at e
  case h_2=>cases e
  rename_i k j a;injection e with e
  subst e;simp only[pE,(gP h a).1]
theorem Lm (h:∀j,bh F L (τ j) (ρ j)) (mx:Bool):∀(args:List X) {a m:Int},Ye mx a (args.map (eD τ))=some m->Sf mx a (args.map (ev ρ))=some m
 | [],a,m,e=>e
 | x::args,a,m,e=>by
  simp only[acU] at e ⊢;cases b:eD τ x<;>rw[b] at e<;>simp only[Ye,reduceCtorEq] at e;rw[(gP h b).1];exact Lm h mx args e
theorem Lp {a:Option Addr}{sz:Nat}{els:List (List C)}{c l h:Nat}(m:ij F a sz 0 els) (z:a=none->els=[]/\c=0) (hl:l<=h) (hh:h<=els.length) (hc:els.length<=c) :
  ij F (if c=l then a else a.map (·.add (l*sz))) sz 0 ((els.drop l).take (h-l)):=by
 rw[n8] at m ⊢;intro j es d;rw[adn] at d;split at d
 case isFalse=>cases d
 rename_i y;rw[adj] at d;obtain⟨vs,u,n,x,q⟩:=m _ es d;have w:l+j<els.length:=(acP.1 d).1;rw[s8 (by omega)];refine⟨vs,u,?_,x,q⟩;obtain⟨s,k,t,r,e,hb,f,p⟩:=n;subst e;obtain⟨b,o,sp⟩:=s;simp only at f;subst f;refine⟨⟨b,o+l*sz,none⟩,k,t,r,by simp only[adK,cZ],hb,rfl,fun i v hi=>?_⟩;have:=p i v hi;simp only[Nat.zero_add,Nat.add_mul] at this ⊢;rw[show o+l*sz+j*sz+i=o+(l*sz+j*sz)+i by omega];exact this
theorem kZ {b o j off n:Nat}{es:List C}{vs:List Value}(k:O5 F b (o+j) off vs):cC F (some ⟨b,o,none⟩) j ((vs.drop off).take n):=by
 obtain⟨d,c,t,e,f,h,l⟩:=k;refine⟨_,c,t,e,rfl,f,rfl,fun i v a=>?_⟩;rw[adn] at a;split at a
 case isFalse=>cases a
 rw[adj] at a;have:=l _ _ a;show c[o+j+i]?=_/\qf e (o+j+i);rw[h,Nat.add_assoc];exact this
theorem jb {L':Loc}{cs:List C}{vs:List Value}(p:gJ cs=true) (h:aK F L cs vs):aK F L' cs vs:=by
 have b:∀(c:C) (v:Value),c.abn=true->Rel F L c v->Rel F L' c v:=by
  intro c v d h;cases c<;>simp only[C.abn,acZ] at d<;>simp only[Rel] at h ⊢<;>exact h
 have a:∀(cs:List C) (vs:List Value),j7 cs=true->aK F L cs vs->aK F L' cs vs:=by
  intro cs vs d h;rw[kV] at h ⊢;exact⟨h.1,fun i c v e f=>b c v (rL.1 d c (acS e)) (h.2 i c v e f)⟩
 rw[kV] at h ⊢;refine⟨h.1,fun i c v e f=>?_⟩;have d:=qm.1 p c (acS e);have k:=h.2 i c v e f;cases c<;>first
  | exact b _ _ d k
  | (simp only[C.pure,C.abn,acZ] at d;done)
  | (simp only[C.pure] at d
     split at d
     case h_2=>cases d
     rename_i j;simp only[Rel] at k ⊢;obtain⟨l,m,o,q,n⟩:=k;exact⟨l,m,o,a _ _ j q,a _ _ d n⟩)
theorem wq {els:List (List C)}{v:Value}(h:Rel F L (.slx els) v):Rel F L (.sl els) v:=by
 simp only[Rel] at h ⊢;obtain⟨a,c,b,sz,d⟩:=h;exact⟨some a,els.length,c,ac4 _,b,fun e=>(by cases e),sz,d⟩
theorem vA {c:C}{v:Value}(h:Rel F L c v):Rel F L c.can v:=by
 cases c<;>first
  | exact h
  | exact wq h
  | (simp only[Rel] at h
     subst h;simp only[C.can,Rel];exact⟨none,0,by simp,by simp,by simp,fun _=>by simp,0,by simp only[ij]⟩)
theorem mM {cs:List C}{vs:List Value}(h:aK F L cs vs):aK F L (cs.map C.can) vs:=h.map fun c _ v=>vA
theorem ld {c:C}{v:Value}(h:Rel F L c v):Rel F L c.abk v:=by
 cases c<;>first
  | exact h
  | exact vA (c:=.nils) h
  | exact wq h
  | (simp only[Rel] at h
     obtain⟨vs,a,b⟩:=h;simp only[C.abk,Rel];exact⟨vs,a,mM b⟩)
theorem Lr {c:C}{sv:SV}(h:bh F L c sv):bh F L c.can sv:=by
 cases c<;>first
  | exact h
  | (obtain⟨v,e,a⟩:=h;exact⟨v,e,wq a⟩)
  | (obtain⟨v,e,a⟩:=h;exact⟨v,e,vA (c:=.nils) a⟩)
theorem lf {x:X}{els:List (List C)}(h:∀j,bh F L (τ j) (ρ j)) (e:(eD τ x).can=.sl els) :
  ∃a c sz,ev ρ x=.v (.slice a els.length c)/\els.length<=c/\els.length<=maxLen/\(a=none->els=[]/\c=0)/\ij F a sz 0 els:=by
 have:=Lr (eY h x);rw[e] at this;simp only[bh,Rel] at this;obtain⟨v,b,a,c,rfl,d,k,f,sz,l⟩:=this;exact⟨a,c,sz,b,d,k,f,l⟩
theorem Pe {c:C}{k:Nat}(e:c.can=.opq k):c=.opq k:=by cases c<;>simp only[C.can,reduceCtorEq] at e<;>exact e
theorem HN {c:C}{k:Nat}{a:List Nat}(e:c.can=.slo k a):c=.slo k a:=by cases c<;>simp only[C.can,reduceCtorEq] at e<;>exact e
theorem C0 {c:C}{k:Nat}(e:c.can=.rw k):c=.rw k:=by cases c<;>simp only[C.can,reduceCtorEq] at e<;>exact e
theorem C2 {x:X}{els:List (List C)}(h:∀j,bh F L (τ j) (ρ j)) (e:eD τ x=.slx els) :
  ∃a sz,ev ρ x=.v (.slice (some a) els.length els.length)/\els.length<=maxLen/\ij F (some a) sz 0 els:=by
 have:=eY h x;rw[e] at this;simp only[bh,Rel] at this;obtain⟨v,b,a,rfl,c,sz,d⟩:=this;exact⟨a,sz,b,c,d⟩
theorem Pf {c:C}(h:c.one=true):c.can.one=true:=by cases c<;>first | exact h | rfl
theorem pT {cs:List C}(h:eP cs=true):eP (cs.map C.can)=true:=by
 rw[jA] at h ⊢;intro c b;obtain⟨d,a,rfl⟩:=adi.1 b;exact Pf (h d a)
theorem lY {cs:List C}{vs:List Value}(h:aK F L cs vs) (d:eP cs=true):∀u∈vs,u.oneCell'=true:=by
 intro u c;obtain⟨i,hi⟩:=adh.1 c;have a:i<cs.length:=by rw[<-h.len];exact(acP.1 hi).1
 have b:=h.at (w8 a) hi;exact b.one (jA.1 d _ (List.getElem_mem a))
theorem sS:∀{vs:List Value},(∀u∈vs,u.oneCell'=true)->mC vs=true
 | [],_=>rfl
 | v::vs,h=>by simp only[mC,h v (by simp)];exact sS fun u a=>h u (by simp[a])
end
end Go.Fr.T
