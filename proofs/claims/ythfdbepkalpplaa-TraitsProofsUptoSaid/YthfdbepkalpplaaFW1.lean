/- Part of the proofs of the statements of this seat. -/
import Derived.Test.YthfdbepkalpplaaFW0
import Derived.Scope
set_option maxRecDepth 10000
set_option linter.unusedVariables false
set_option linter.unusedSimpArgs false
namespace Go.Fr
open Go Go.RowKit
theorem set_comm:∀(L:Loc) {k d:Nat}(o o':Own),k≠d->(L.set k o).set d o'=(L.set d o').set k o:=by
 intro L k d o o' h;have hb:Nat.beq k d=false:=by cases e:Nat.beq k d with | true=>exact vv (aaR e) h | false=>rfl
 have b:Nat.beq d k=false:=by cases e:Nat.beq d k with | true=>exact vv (aaR e).symm h | false=>rfl
 have a:∀{i j:Nat},Nat.beq i j=false->(Nat.ble i j=true/\Nat.ble j i=false)\/(Nat.ble i j=false/\Nat.ble j i=true):=by
  intro i j t;have u:=f9 t;rcases Nat.lt_or_gt_of_ne u with aa | y
  ·refine .inl ⟨Nat.ble_eq_true_of_le (by omega),?_⟩;cases e:Nat.ble j i with | true=>have:=abb e;omega | false=>rfl
  ·refine .inr ⟨?_,Nat.ble_eq_true_of_le (by omega)⟩;cases e:Nat.ble i j with | true=>have:=abb e;omega | false=>rfl
 induction L with
 | nil =>
  simp only[Loc.set,hb,b];rcases a hb with⟨h1,n⟩ | ⟨h1,n⟩<;>simp only[h1,n,Loc.set]
 | cons p l z =>
  obtain⟨j,q⟩:=p;cases f:Nat.beq j k with
  | true =>
   have:=aaR f;subst this;have c:Nat.beq j j=true:=by simp
   simp only[Loc.set,c,hb,b];rcases a hb with⟨h1,n⟩ | ⟨h1,n⟩
   ·simp only[h1,Loc.set,c]
   ·simp only[h1,n,Loc.set,c,b]
  | false =>
   cases m:Nat.beq j d with
   | true =>
    have:=aaR m;subst this;have c:Nat.beq j j=true:=by simp
    simp only[Loc.set,c,hb,b];rcases a b with⟨h1,n⟩ | ⟨h1,n⟩
    ·simp only[h1,Loc.set,c]
    ·simp only[h1,n,Loc.set,c,hb]
   | false =>
    simp only[Loc.set,f,m];rcases a f with⟨a1,w⟩ | ⟨a1,w⟩<;>rcases a m with⟨r,x⟩ | ⟨r,x⟩
    ·simp only[a1,r,Loc.set,f,m,z]
    ·simp only[a1,r,Loc.set,f,m,hb,b];have h1:Nat.ble d k=true:=by
      have x1:=abb a1;have x2:=abb x;exact Nat.ble_eq_true_of_le (by omega)
     simp only[h1]
    ·simp only[a1,r,Loc.set,f,m,hb,b];have h1:Nat.ble k d=true:=by
      have x1:=abb r;have x2:=abb w;exact Nat.ble_eq_true_of_le (by omega)
     simp only[h1]
    ·rcases a hb with⟨v,s⟩ | ⟨v,s⟩
     ·simp only[a1,r,Loc.set,f,m,hb,b,v,s]
     ·simp only[a1,r,Loc.set,f,m,hb,b,v,s]
theorem put_comm {d a:Option Nat}{v u:SV}{ρ:Env}(h:∀k,d=some k->a≠some k):put d v (put a u ρ)=put a u (put d v ρ):=by
 funext t
 simp only[put_eq];cases d with
 | none=>rfl
 | some k =>
  cases a with
  | none=>rfl
  | some c =>
   have:=h k rfl;simp only[];split<;>split
   ·rename_i h1 b;subst h1;subst b;exact vv rfl this
   ·rfl
   ·rfl
   ·rfl
def cj:List X->List Nat
 | []=>[]
 | .t n::l=>n::cj l
 | .mt _ n::l=>n::cj l
 | _::l=>cj l
theorem lS:∀{l:List X}{n:Nat},X.t n∈l->n∈cj l
 | [],n,h=>by cases h
 | .t m::l,n,h=>by
  simp only[cj,aaW];rcases aaW.1 h with h | h
  ·injection h with h;exact .inl h
  ·exact .inr (lS h)
 | .c v::l,n,h=>by
  rcases aaW.1 h with h | h
  ·cases h
  ·exact lS (l:=l) h
 | .fn f::l,n,h=>by
  rcases aaW.1 h with h | h
  ·cases h
  ·exact lS (l:=l) h
 | .mt a m::l,n,h=>by
  simp only[cj,aaW];rcases aaW.1 h with h | h
  ·cases h
  ·exact .inr (lS h)
theorem nk:∀{l:List X}{a:String}{n:Nat},X.mt a n∈l->n∈cj l
 | [],_,n,h=>by cases h
 | .t m::l,a,n,h=>by
  simp only[cj,aaW];rcases aaW.1 h with h | h
  ·cases h
  ·exact .inr (nk h)
 | .c v::l,a,n,h=>by
  rcases aaW.1 h with h | h
  ·cases h
  ·exact nk (l:=l) h
 | .fn f::l,a,n,h=>by
  rcases aaW.1 h with h | h
  ·cases h
  ·exact nk (l:=l) h
 | .mt b m::l,a,n,h=>by
  simp only[cj,aaW];rcases aaW.1 h with h | h
  ·injection h with h1 h2;exact .inl h2
  ·exact .inr (nk h)
theorem fA {l:List X}{d:Option Nat}{v:SV}{ρ:Env}(h:∀k,d=some k->k∉cj l):∀x∈l,ev (put d v ρ) x=ev ρ x:=by
 intro x a;cases x with
 | t n =>
  simp only[ev,put_eq];cases d with
  | none=>rfl
  | some k =>
   simp only[];rw[q9];intro e;subst e;exact h n rfl (lS a)
 | c v=>rfl
 | fn f=>rfl
 | mt b n =>
  simp only[ev,put_eq];cases d with
  | none=>rfl
  | some k =>
   simp only[];rw[q9];intro e;subst e;exact h n rfl (nk a)
def Vd (L:Loc) (ρ:Env):Prop:=∀t k off,ρ t=.own k off->∃g ty cs,L.get k=some (.box g ty cs)
theorem Vd.ev {L:Loc}{ρ:Env}(h:Vd L ρ) {x:X}{k off:Nat}(e:Fr.ev ρ x=.own k off):∃g ty cs,L.get k=some (.box g ty cs):=by
 cases x with
 | t n=>exact h n k off e
 | c v=>cases e
 | fn f=>cases e
 | mt a n =>
  simp only[Fr.ev,SE] at e;split at e<;>cases e
def Keeps (L L':Loc):Prop:=∀k g ty cs,L.get k=some (.box g ty cs)->L'.get k=some (.box g ty cs)
theorem Keeps.refl (L:Loc):Keeps L L:=fun _ _ _ _ h=>h
theorem Keeps.trans {L L' L'':Loc}(h:Keeps L L') (a:Keeps L' L''):Keeps L L'':=fun k g ty cs e=>a k g ty cs (h k g ty cs e)
theorem bT {L:Loc}{k j:Nat}{o:Own}(h:j≠k):(L.set k o).get j=L.get j:=by rw[Loc.aac,q9 h]
theorem Keeps.new {L:Loc}{k:Nat}{o:Own}(h:L.get k=none):Keeps L (L.set k o):=fun j g ty cs e=>by
 rw[bT (fun a=>by rw[a,h] at e;cases e)];exact e
theorem Keeps.row {L:Loc}{k:Nat}{v:Value}{t:TypeId}{sz n:Nat}{xs:List Value}{o:Own}(h:L.get k=some (.row v t sz n xs)):Keeps L (L.set k o):=fun j g ty cs e=>by
 rw[bT (fun a=>by rw[a,h] at e;cases e)];exact e
section
variable {P:Program}{F:au}{L:Loc}{ρ:Env}{K:di}
theorem CallsA.up {f:Nat}{args:Array Value}{F F1:au}{R:au->List Own->Value->Prop}{Lin:List Own}(h:CallsA P f args F Lin R) (n:F.le F1) (hg:sK F):CallsA P f args F1 Lin R:=by
 refine⟨h.ent,h.mono,fun w m=>?_⟩;have r:St F (inp Lin) w:=⟨fun b o e=>m.frz b o (n b o e),m.own,fun k o g e hb=>(by
  cases h1:F g with
  | none=>rfl
  | some o1=>have j:=n g o1 h1;rw[m.off k o g e hb] at j;cases j),m.sep,hg⟩
 refine(h.run w r).mono ?_;rintro e w' ⟨v,F',Lo,rfl,c,a,z⟩;have q:∀b o,F1 b=some o->¬(inp Lin).owns b:=by
  rintro b o u ⟨k,o',e,hb⟩;rw[m.off k o' b e hb] at u;cases u
 have p:∀b o,F1 b=some o->w'.heap[b]?=some o:=fun b o e=>by
  have h1:=m.frz b o e;rw[a.same b (Array.getElem?_eq_some_iff.1 h1).1 (q b o e)];exact h1
 have l:F'.le (fun b=>match F' b with | some o=>some o | none=>F1 b):=fun b o e=>by simp only[e]
 refine⟨v,fun b=>match F' b with | some o=>some o | none=>F1 b,Lo,rfl,⟨fun b o e=>?_,c.own,fun k o g e hb=>?_,c.sep,sK.mono l c.glob⟩,⟨fun b o e=>?_,a.os,a.tape,a.output,a.size,a.same,fun b hb=>?_,a.own⟩,h.mono _ _ _ _ l z⟩
 ·split at e
  ·rename_i o' s;injection e with e
   subst e;exact c.frz b _ s
  ·exact p b o e
 ·have h1:=c.off k o g e hb;simp only[h1];cases j:F1 g with
  | none=>rfl
  | some t =>
   rcases a.own g ⟨k,o,e,hb⟩ with d | d
   ·exact vv d (q g t j)
   ·have:=(Array.getElem?_eq_some_iff.1 (m.frz g t j)).1;omega
 ·cases h1:F' b with
  | none=>exact e
  | some o' =>
   have j:=c.frz b o' h1;rw[p b o e] at j;exact j.symm
 ·cases h1:F' b with
  | none=>rw[h1] at hb;exact .inl hb
  | some o' =>
   rcases a.frz b (by rw[h1];simp) with d | d | d
   ·refine .inl (fun h4=>?_);cases x:F b with
    | none=>exact d x
    | some y=>have:=n b y x;rw[h4] at this;cases this
   ·exact .inr (.inl d)
   ·exact .inr (.inr d)
theorem Real.glob {F:au}{L:Loc}(h:Real F L):sK F:=by obtain⟨w,a⟩:=h;exact a.glob
theorem Real.down {F F':au}{L L':Loc}(h:Real F' L') (c:F.le F') (j:sK F) (f:L'.part L):Real F L:=by
 obtain⟨w,a⟩:=h;have a:=a.part f;refine⟨w,⟨fun b o e=>a.frz b o (c b o e),a.own,fun k o g e hb=>?_,a.sep,j⟩⟩;cases d:F g with
 | none=>rfl
 | some o'=>have h1:=c g o' d;rw[a.off k o g e hb] at h1;cases h1
theorem JE {L:Loc}{k:Nat}{o:Own}(h:L.get k=none):(L.set k o).part L:=fun j p e=>by
 rw[bT (fun a=>by rw[a,h] at e;cases e)];exact e
theorem Bv {L L1:Loc}{k:Nat}{o:Own}(h:L1.part L) (b:L.get k=none):(L1.set k o).part (L.set k o):=fun j p e=>by
 rw[Loc.aac] at e ⊢;split
 ·rename_i a;rw[o5 a] at e;exact e
 ·rename_i a;rw[q9 a] at e;exact h j p e
def Left (d:Option Nat) (L L':Loc):Prop:=L'=L\/(∃k o,d=some k/\L.get k=none/\L'=L.set k o)\/∃k a t sz n xs,L.get k=some (.row a t sz n xs)/\L'=L.set k (.row (.slice none 0 0) t sz 0 [])
theorem Left.keeps {d:Option Nat}{L L':Loc}(h:Left d L L'):Keeps L L':=by
 rcases h with rfl | ⟨k,o,_,a,rfl⟩ | ⟨k,b,t,sz,n,xs,a,rfl⟩
 ·exact Keeps.refl _
 ·exact Keeps.new a
 ·exact Keeps.row a
theorem zB {L L1:Loc}{k:Nat}{o:Own}(h:L1.part L):(L1.set k o).part (L.set k o):=fun j p e=>by
 rw[Loc.aac] at e ⊢;split
 ·rename_i a;rw[o5 a] at e;exact e
 ·rename_i a;rw[q9 a] at e;exact h j p e
theorem dI.imp {f:Nat}{args:List Value}{F:au}{L:Loc}{d:Option Nat}{K K':au->Loc->Value->Prop}(h:dI P f args F L d K) (p:∀F' L' v,F.le F'->Left d L L'->Real F' L'->K F' L' v->K' F' L' v):dI P f args F L d K':=by
 cases h with
 | frz R h1 e=>exact .frz R h1 fun v F' Lo a j=>⟨(e v F' Lo a j).1,fun b=>p F' L v a (.inl rfl) b ((e v F' Lo a j).2 b)⟩
 | own R k h1 u l e =>
  refine .own R k h1 u l fun v F' Lo a j=>?_;obtain⟨o,r,s⟩:=e v F' Lo a j;exact⟨o,r,fun b=>p F' _ v a (.inr (.inl ⟨k,o,u,l,rfl⟩)) b (s b)⟩
 | row R m q t sz n xs h1 c e =>
  refine .row R m q t sz n xs h1 c fun v F' Lo a j=>?_;obtain⟨r,s⟩:=e v F' Lo a j;exact⟨r,fun b=>p F' _ v a (.inr (.inr ⟨m,q,t,sz,n,xs,c,rfl⟩)) b (s b)⟩
 | lent R m q t sz n xs h1 c e=>exact .lent R m q t sz n xs h1 c fun v F' a j b=>p F' L v a (.inl rfl) b (e v F' a j b)
theorem dI.up {f:Nat}{args:List Value}{F F1:au}{L L1:Loc}{d:Option Nat}{K:au->Loc->Value->Prop}(h:dI P f args F L d K) (b:F.le F1) (w:sK F) (r:L1.part L) (x:∀k,d=some k->L.get k=none->L1.get k=none) :
  dI P f args F1 L1 d (fun F' L' v=>F1.le F'/\Real F' L'/\((L'=L1/\K F' L v)\/(∃k o,d=some k/\L.get k=none/\L'=L1.set k o/\K F' (L.set k o) v)\/∃k q t sz n xs,L.get k=some (.row q t sz n xs)/\L'=L1.set k (.row (.slice none 0 0) t sz 0 [])/\K F' (L.set k (.row (.slice none 0 0) t sz 0 [])) v)):=by
 cases h with
 | frz R h1 j =>
  refine .frz R (h1.up b w) fun v F' Lo a m=>?_;obtain⟨s,u⟩:=j v F' Lo (au.le_trans b a) m;exact⟨s,fun c=>⟨a,c,.inl ⟨rfl,u (c.down (au.le_refl _) c.glob r)⟩⟩⟩
 | own R k h1 y l j =>
  refine .own R k (h1.up b w) y (x k y l) fun v F' Lo a m=>?_;obtain⟨o,s,u⟩:=j v F' Lo (au.le_trans b a) m;exact⟨o,s,fun c=>⟨a,c,.inr (.inl ⟨k,o,y,l,rfl,u (c.down (au.le_refl _) c.glob (Bv r l))⟩)⟩⟩
 | row R p q t sz n xs h1 e j =>
  refine .row R p q t sz n xs (h1.up b w) (r p _ e) fun v F' Lo a m=>?_;obtain⟨s,u⟩:=j v F' Lo (au.le_trans b a) m;exact⟨s,fun c=>⟨a,c,.inr (.inr ⟨p,q,t,sz,n,xs,e,rfl,u (c.down (au.le_refl _) c.glob (zB r))⟩)⟩⟩
 | lent R p q t sz n xs h1 e j =>
  exact .lent R p q t sz n xs (h1.up b w) (r p _ e) fun v F' a m c=>⟨a,c,.inl ⟨rfl,j v F' (au.le_trans b a) m (c.down (au.le_refl _) c.glob r)⟩⟩
theorem dI.some {f:Nat}{args:List Value}{F:au}{L:Loc}{d:Option Nat}{K:au->Loc->Value->Prop}(h:dI P f args F L d K) (hr:Real F L):∃F' L' v,F.le F'/\Left d L L'/\Real F' L'/\K F' L' v:=by
 obtain⟨w,s⟩:=hr;have z:St F (inp []) w:=⟨s.frz,fun k o e=>(by cases e),fun k o g e=>(by cases e),fun k k' o o' g e=>(by cases e),s.glob⟩;cases h with
 | frz R h1 u =>
  obtain⟨e,w',fr,⟨v,F',Lo,_,l,b,x⟩,_⟩:=h1.run w z [];obtain⟨rfl,y⟩:=u v F' Lo b.le x;have a:Real F' L:=⟨w',(fN (ks:=[]) (ko:=[]) s rfl List.nodup_nil List.nodup_nil (fun _ h=>(by cases h)) l b rfl).1⟩;exact⟨F',L,v,b.le,.inl rfl,a,y a⟩
 | own R k h1 hd aa u =>
  obtain⟨e,w',fr,⟨v,F',Lo,_,l,b,x⟩,_⟩:=h1.run w z [];obtain⟨o,rfl,y⟩:=u v F' Lo b.le x;have a:Real F' (L.set k o):=⟨w',(fN (ks:=[]) (ko:=[k]) s rfl List.nodup_nil (by simp) (fun j r=>.inr (by simp at r;rw[r];exact aa)) l b rfl).1⟩;exact⟨F',_,v,b.le,.inr (.inl ⟨k,o,hd,aa,rfl⟩),a,y a⟩
 | row R q rv t sz n xs h1 m u =>
  have c:L.sub [q]=Option.some [.row rv t sz n xs]:=by simp only[Loc.sub,m]
  obtain⟨e,w',fr,⟨v,F',Lo,_,l,b,x⟩,_⟩:=h1.run w (s.handed c (by simp)) [];obtain⟨rfl,y⟩:=u v F' Lo b.le x;have hb:=(fN (ks:=[q]) (ko:=[]) s c (by simp) List.nodup_nil (fun _ h=>(by cases h)) l b rfl).1;have a:Real F' (L.set q (.row (.slice none 0 0) t sz 0 [])):=by
   have h5:((L.aae [q]).puts [] []).get q=none:=by simp only[Loc.aae,Loc.puts,Loc.aaf,o5]
   have h6:=hb.put h5 (o:=.row (.slice none 0 0) t sz 0 []) (World.ownsRow_nil w' 0 t sz) (fun g hg=>by cases hg);refine⟨w',h6.part fun j p e=>?_⟩;rw[Loc.aac] at e ⊢;split at e
   ·rename_i r;rw[o5 r];exact e
   ·rename_i r;rw[q9 r];simp only[Loc.aae,Loc.puts,Loc.aaf,q9 r];exact e
  exact⟨F',_,v,b.le,.inr (.inr ⟨q,rv,t,sz,n,xs,m,rfl⟩),a,y a⟩
 | lent R q rv t sz n xs h1 m u =>
  have c:L.sub [q]=Option.some [.row rv t sz n xs]:=by simp only[Loc.sub,m]
  obtain⟨e,w',fr,⟨v,F',Lo,_,l,b,⟨rfl,x⟩⟩,_⟩:=h1.run w (s.handed c (by simp)) [];have hb:=(fN (ks:=[q]) (ko:=[q]) s c (by simp) (by simp) (fun _ h=>.inl h) l b rfl).1;have a:Real F' L:=by
   refine⟨w',hb.part fun j p e=>?_⟩;simp only[Loc.aae,Loc.puts,Loc.aac,Loc.aaf];split
   ·rename_i r;rw[r,m] at e;exact e
   ·exact e
  exact⟨F',L,v,b.le,.inl rfl,a,u v F' b.le x a⟩
theorem pF.imp {F F':au}{L:Loc}{d:Option Nat}{e sz b:Nat}{s x:Value}{K K':Loc->Value->Prop}(h:pF F L d e sz b s x K) (k:F.le F')
  (u:∀f n xs p j v,(L.get f=some (.row s e sz n xs)\/(d=some f/\L.get f=none))->Real F' (L.set f (.row v e sz p j))->(Real F (L.set f (.row v e sz p j))->K (L.set f (.row v e sz p j)) v)->K' (L.set f (.row v e sz p j)) v):pF F' L d e sz b s x K':=by
 obtain⟨f,n,xs,m,l,h1,⟨q,c,h2,t,o⟩,z,h6,h7,h8⟩:=h;refine⟨f,n,xs,m,l,?_,⟨q,c,h2,t,?_⟩,z,h6,h7,fun v hv w=>u f n xs _ _ v ?_ w (h8 v hv)⟩
 ·rcases h1 with h1 | h1 | ⟨h1,a,q,y,r,q3,q4⟩
  ·exact .inl h1
  ·exact .inr (.inl h1)
  ·exact .inr (.inr ⟨h1,a,q,y,r,q3,q4.imp (·.mono k) id⟩)
 ·rcases o with o | o
  ·exact .inl (o.mono k)
  ·exact .inr o
 ·rcases h1 with h1 | ⟨h1,a,_⟩ | ⟨h1,a,_⟩
  ·exact .inl h1
  ·exact .inr ⟨h1,a⟩
  ·exact .inr ⟨h1,a⟩
theorem Hw {L L1:Loc}{k:Nat}{o:Own}(h:L1.part L):(L1.set k o).part (L.set k o):=fun j p e=>by
 rw[Loc.aac] at e ⊢;split
 ·rename_i a;rw[o5 a] at e;exact e
 ·rename_i a;rw[q9 a] at e;exact h j p e
theorem CY {e sz b:Nat}{zs:List Value}{s x:X}{d:Option Nat}:evalOp P (.appD e sz b zs s x) d F L ρ K=(match ev ρ s,ev ρ x with
  | .v sv,.v a=>pF F L d e sz b sv a fun L1 v=>K F L1 (put d (.v v) ρ)
  | _,_=>False):=rfl
theorem Real.store {F:au}{L:Loc}{k g:Nat}{t:TypeId}{cs cs':List Value}(c:t≠0) (m:Real F L) (l:L.get k=Option.some (.box g t cs)):Real F (L.set k (.box g t cs')):=by
 obtain⟨w,j⟩:=m;have a:=sV w g cs'.toArray;refine⟨w.setRow g cs'.toArray,j.turn l ?_ (fun b d f=>a.block b d (fun e=>f (by rw[e];rfl))) (fun n h=>.inl h)⟩;show _=_;have h0:w.heap[g]?=Option.some (.cells cs.toArray t (0,0)):=by rw[<-jn c];exact j.own k _ l
 rw[jn c];exact setRow_heap w g cs.toArray _ t _ h0
theorem pF.some {F:au}{L:Loc}{d:Option Nat}{e sz b:Nat}{s x:Value}{K:Loc->Value->Prop}(h:pF F L d e sz b s x K) (hr:Real F L) :
  ∃f v n' u,((∃n xs,L.get f=some (.row s e sz n xs))\/(d=some f/\L.get f=none))/\Real F (L.set f (.row v e sz n' u))/\K (L.set f (.row v e sz n' u)) v:=by
 obtain⟨f,n,xs,m,a,h1,⟨ad,c,h2,h3,h4⟩,h5,h6,h7,h8⟩:=h;obtain⟨w,hs⟩:=hr;have r:xs.length=n*sz:=by
  rcases h1 with h1 | ⟨_,_,rfl,rfl,_⟩ | ⟨_,_,_,_,_,q,_⟩
  ·exact(hs.own f _ h1).1
  ·simp
  ·exact q
 have o:=lg w (xs++a) e (n+m) sz h6 (by rw[abJ,r,h3,Nat.add_mul]);have aa:St F (L.del f) w:=hs.part (fun j p e=>by rw[Loc.aaf] at e;split at e;cases e;exact e);have ab:(L.del f).get f=none:=by rw[Loc.aaf,o5 rfl]
 have z:=(jY aa ab (cs:=(xs++a).toArray) (t:=e) (e:=.row (.slice (Option.some ⟨w.heap.size,0,none⟩) (n+m) (n+m)) e sz (n+m) (xs++a)) rfl o).1;have k:Real F (L.set f (.row (.slice (Option.some ⟨w.heap.size,0,none⟩) (n+m) (n+m)) e sz (n+m) (xs++a))) :=
  ⟨_,z.part (fun j p e=>by
   rw[Loc.aac] at e ⊢;split
   ·rename_i y;rw[o5 y] at e;exact e
   ·rename_i y;rw[q9 y] at e;rw[Loc.aaf,q9 y];exact e)⟩
 refine⟨f,_,n+m,xs++a,?_,k,h8 _ ⟨_,_,rfl,fun e=>(by cases e)⟩ k⟩;rcases h1 with h1 | ⟨h1,l,_⟩ | ⟨h1,l,_⟩
 ·exact .inl ⟨n,xs,h1⟩
 ·exact .inr ⟨h1,l⟩
 ·exact .inr ⟨h1,l⟩
def Hy (o:dN):Bool:=cI o||gK o||dU o||o7 o
def okD (o:dN):Bool:=Hy o||iA o
theorem uD {o:dN}{d:Option Nat}{v:SV}(h:∀k,d=some k->k∉cj (bw o)):Alike o L L ρ (put d v ρ) :=
 fun x a=>⟨fA h x a,fun _ _ _=>rfl⟩
theorem wZ {o:dN}(ho:okD o=true) {d y:Option Nat}{u:SV}(h:∀k,y=some k->k∉cj (bw o)) (q:∀k,d=some k->y≠some k)
  (c:evalOp P o d F L ρ (fun F1 L1 ae=>K F1 L1 (put y u ae))):evalOp P o d F L (put y u ρ) K:=by
 by_cases hs:cI o=true
 ·rw[bY hs] at c ⊢;have:=qL hs (au.le_refl F) (uD (L:=L) (ρ:=ρ) (v:=u) h) c;refine(eP hs).mono _ _ (fun v r=>?_) this;rw[put_comm q];exact r
 ·have r:∀x∈bw o,val L (put y u ρ) x=val L ρ x:=fun x hx=>by simp only[val,fA h x hx]
  cases o<;>first | (exfalso;revert hs ho;simp[okD,Hy,cI,gK,dU,o7,iA];done) | skip
  case boxD t x =>
   have e:=r x (by simp[bw]);simp only[evalOp,e] at c ⊢;split at c
   ·rename_i k;split at c
    ·intro g p;have:=c g p;rw[put_comm q];exact this
    ·exact c
   ·exact c
  case allocD t zs =>
   simp only[evalOp] at c ⊢;split at c
   ·rename_i k;split at c
    ·intro g p;have:=c g p;rw[put_comm q];exact this
    ·exact c
   ·exact c
  case mkFD e n sz xs =>
   have m:=mK (sz:=sz) (xs:=xs) r;have z:=bZ (xs:=xs) r;simp only[evalOp,m,z] at c ⊢;split at c
   ·intro g F' ab hg p;rw[put_comm q];exact c g F' ab hg p
   ·exact c
  case callD f args =>
   have m:=cU (xs:=args) r;simp only[evalOp,m] at c ⊢;refine c.imp fun F' L' v _ _ _ h=>?_;rw[put_comm q];exact h
  case callVD f args =>
   have w:=fA (v:=u) (ρ:=ρ) h f (by simp[bw]);have m:=cU (xs:=args) (L:=L) (L':=L) (ρ:=ρ) (ρ':=put y u ρ) (fun x hx=>r x (by simp[bw,hx]));simp only[evalOp,w,m] at c ⊢;split at c
   ·refine c.imp fun F' L' v _ _ _ h=>?_;rw[put_comm q];exact h
   ·exact c
  case appD e sz b zs s x =>
   have w:=fA (v:=u) (ρ:=ρ) h s (by simp[bw]);have m:=fA (v:=u) (ρ:=ρ) h x (by simp[bw]);simp only[evalOp,w,m] at c ⊢;split at c
   ·refine c.imp (au.le_refl F) fun kd n xs n' ar v _ p h=>?_;rw[put_comm q];exact h p
   ·exact c
  case makeSD e sz n zs =>
   simp only[evalOp] at c ⊢;split at c
   ·rename_i k;split at c
    ·intro g p;have:=c g p;rw[put_comm q];exact this
    ·exact c
   ·exact c
  case makeSV e sz b zs x =>
   have m:=r x (by simp[bw]);simp only[evalOp,m] at c ⊢;split at c
   ·rename_i k;split at c
    ·intro g p;have:=c g p;rw[put_comm q];exact this
    ·exact c
   ·exact c
  case storeD n a x =>
   obtain⟨n',a',x',k,off,g,t,cs,j,m,z,e3,e4,e5,c⟩:=iB rfl c;have w:=fA (v:=u) (ρ:=ρ) h a (by simp[bw]);have l:=r x (by simp[bw]);rcases j with j | j
   ·injection j with q1 q2 q3
    subst q1 q2 q3;exact gY (.inl rfl) (by rw[l];exact m) (by rw[l];exact z) (by rw[w];exact e3) e4 e5 (by rw[l,put_comm q];exact c)
   ·cases j
  case storeK key n a x =>
   obtain⟨n',a',x',k,off,g,t,cs,j,m,z,e3,e4,e5,c⟩:=iB rfl c;have w:=fA (v:=u) (ρ:=ρ) h a (by simp[bw]);have l:=r x (by simp[bw]);rcases j with j | j
   ·cases j
   ·injection j with q0 q1 q2 q3
    subst q0 q1 q2 q3;exact gY (.inr rfl) (by rw[l];exact m) (by rw[l];exact z) (by rw[w];exact e3) e4 e5 (by rw[l,put_comm q];exact c)
def uE:dN->dN->Bool
 | .build _ _,_=>true
 | .mkfn _ _ _,_=>true
 | .loadK k _ _ _,.storeK a _ _ _=>match Nat.beq k a with | true=>false | false=>true
 | x,_=>CW x
theorem rC {x y:dN}(h:uE x y=true):cI x=true:=by
 unfold uE at h;split at h
 ·rfl
 ·rfl
 ·rfl
 ·exact CX h
theorem Ah {x y:dN}{k n:Nat}{a z:X}{L L':Loc}{V:SV->Prop}(h:uE x y=true) (d:y=.storeD n a z\/y=.storeK k n a z) (o:∀sv,conc L' sv=conc L sv) (s:∀j,j≠k->L'.get j=L.get j) (c:aH x F L ρ V):aH x F L' ρ V:=by
 unfold uE at h;split at h
 ·rename_i zs ps;have e:=pR (ps:=ps) (zs:=zs) (L:=L) (L':=L') (ρ:=ρ) (ρ':=ρ) (fun p _=>o _);simp only[aH,e] at c ⊢;exact c
 ·rename_i f a b;have q:=cU (xs:=a) (L:=L) (L':=L') (ρ:=ρ) (ρ':=ρ) (fun _ _=>o _);have r:=cU (xs:=b) (L:=L) (L':=L') (ρ:=ρ) (ρ':=ρ) (fun _ _=>o _);simp only[aH,q,r] at c ⊢;exact c
 ·rename_i k1 t m x v m2 w x2;rcases d with d | d
  ·cases d
  ·injection d with q0 q1 q2 q3
   subst q0;split at h
   ·cases h
   ·rename_i hb;have hb:=f9 hb;simp only[aH] at c ⊢;split at c
    ·rename_i u off e;split at c
     ·rename_i l;have l:=aaR l;subst l;simp only[s _ hb];exact c
     ·exact c.elim
    ·exact c.elim
 ·exact Af h c
theorem CZ {L:Loc}{k g:Nat}{t:TypeId}{cs cs':List Value}(b:L.get k=some (.box g t cs)) (sv:SV):conc (L.set k (.box g t cs')) sv=conc L sv:=by
 cases sv with
 | v u=>rfl
 | el a j=>rfl
 | own j off =>
  simp only[conc,Loc.aac]
  by_cases e:j=k
  ·subst e;rw[o5 rfl,b]
  ·rw[q9 e]
def w9 (x y:dN):Bool:=(cI x&&Hy y&&(!JB x||cI y))||(gK x&&dU y)||(o7 x&&dU y)||(dU x&&dU y)||(uE x y&&iA y)||(iA x&&uE y x)
inductive Made:dN->Option Nat->au->Loc->Env->au->Loc->SV->Prop
 | box {t:TypeId}{x:X}{k:Nat}{F:au}{L:Loc}{ρ:Env}(g:Nat):Made (.boxD t x) (some k) F L ρ F (L.set k (.box g t (aL (val L ρ x)))) (.own k 0)
 | alloc {t:TypeId}{zs:List Value}{k:Nat}{F:au}{L:Loc}{ρ:Env}(g:Nat):Made (.allocD t zs) (some k) F L ρ F (L.set k (.box g t zs)) (.own k 0)
 | mkS {e:TypeId}{sz n:Nat}{zs:List Value}{k:Nat}{F:au}{L:Loc}{ρ:Env}(g:Nat):Made (.makeSD e sz n zs) (some k) F L ρ F (L.set k (.row (.slice (some ⟨g,0,none⟩) n n) e sz n (List.replicate n zs).flatten)) (.v (.slice (some ⟨g,0,none⟩) n n))
 | mkV {e:TypeId}{sz b:Nat}{zs:List Value}{x:X}{k:Nat}{F:au}{L:Loc}{ρ:Env}(g n:Nat) (hn:n=lN (val L ρ x)):Made (.makeSV e sz b zs x) (some k) F L ρ F (L.set k (.row (.slice (some ⟨g,0,none⟩) n n) e sz n (List.replicate n zs).flatten)) (.v (.slice (some ⟨g,0,none⟩) n n))
 | mkF {e:TypeId}{n sz:Nat}{xs:List X}{d:Option Nat}{F:au}{L:Loc}{ρ:Env}(g:Nat) (F':au) (hle:F.le F') (hg:F' g=some (.cells (cellsOf L ρ xs).toArray e (0,0))) :
   Made (.mkFD e n sz xs) d F L ρ F' L (.v (.slice (some ⟨g,0,none⟩) n n))
def bG:dN->Option Nat->Loc->Env->Bool
 | .boxD _ _,some k,L,_=>(L.get k).isNone
 | .allocD _ _,some k,L,_=>(L.get k).isNone
 | .makeSD _ sz n zs,some k,L,_=>match L.get k,gQ zs sz,Nat.ble n 9223372036854775807 with | none,true,true=>true | _,_,_=>false
 | .makeSV _ sz b zs x,some k,L,ρ=>match L.get k,gQ zs sz,sO b (val L ρ x) with | none,true,true=>true | _,_,_=>false
 | .mkFD _ _ sz xs,_,L,ρ=>fL L ρ sz xs
 | _,_,_,_=>false
theorem bK {o:dN}(h:dU o=true) {d:Option Nat}:evalOp P o d F L ρ K↔bG o d L ρ=true/\∀F' L' v,Made o d F L ρ F' L' v->Real F' L'->K F' L' (put d v ρ):=by
 cases o<;>first | (exfalso;revert h;simp[dU];done) | skip
 case boxD t x =>
  simp only[evalOp];cases d with
  | none=>simp[bG]
  | some k =>
   simp only[bG];cases j:L.get k with
   | none =>
    simp only[Option.isNone_none,true_and];constructor
    ·rintro h F' L' v c a;cases c with
     | box g=>exact h g a
    ·intro h g a;exact h _ _ _ (.box g) a
   | some p=>simp
 case allocD t zs =>
  simp only[evalOp];cases d with
  | none=>simp[bG]
  | some k =>
   simp only[bG];cases j:L.get k with
   | none =>
    simp only[Option.isNone_none,true_and];constructor
    ·rintro h F' L' v c a;cases c with
     | alloc g=>exact h g a
    ·intro h g a;exact h _ _ _ (.alloc g) a
   | some p=>simp
 case makeSD e sz n zs =>
  simp only[evalOp];cases d with
  | none=>simp[bG]
  | some k =>
   simp only[bG];cases j:L.get k with
   | some p=>simp
   | none =>
    cases h1:gQ zs sz with
    | false=>simp
    | true =>
     cases q:Nat.ble n 9223372036854775807 with
     | false=>simp
     | true =>
      simp only[true_and];constructor
      ·rintro h F' L' v c a;cases c with
       | mkS g=>exact h g a
      ·intro h g a;exact h _ _ _ (.mkS g) a
 case makeSV e sz b zs x =>
  simp only[evalOp];cases d with
  | none=>simp[bG]
  | some k =>
   simp only[bG];cases j:L.get k with
   | some p=>simp
   | none =>
    cases h1:gQ zs sz with
    | false=>simp
    | true =>
     cases q:sO b (val L ρ x) with
     | false=>simp
     | true =>
      simp only[true_and];constructor
      ·rintro h F' L' v c a;cases c with
       | mkV g n m=>subst m;exact h g a
      ·intro h g a;exact h _ _ _ (.mkV g _ rfl) a
 case mkFD e n sz xs =>
  simp only[evalOp,bG];cases r:fL L ρ sz xs with
  | false=>simp
  | true =>
   simp only[true_and];constructor
   ·rintro h F' L' v c a;cases c with
    | mkF g F' f l=>exact h g _ f l a
   ·intro h g F' f l a;exact h _ _ _ (.mkF g F' f l) a
theorem Bw:∀{l:List Value}{n:Nat},l.length=n->gQ l n=true
 | [],0,_=>rfl
 | _::l,n+1,h=>Bw (l:=l) (by simpa using h)
theorem nu {e:TypeId}{sz n k:Nat}{zs:List Value}(h:bG (.makeSD e sz n zs) (some k) L ρ=true):L.get k=none/\zs.length=sz/\n<=maxLen:=by
 simp only[bG] at h;split at h
 ·rename_i h1 b a;exact⟨h1,jz b,abb a⟩
 ·cases h
theorem ny {e:TypeId}{sz b k:Nat}{zs:List Value}{x:X}(h:bG (.makeSV e sz b zs x) (some k) L ρ=true):L.get k=none/\zs.length=sz/\lN (val L ρ x)<=maxLen/\sO b (val L ρ x)=true:=by
 simp only[bG] at h;split at h
 ·rename_i h1 c a;exact⟨h1,jz c,Ho a,a⟩
 ·cases h
theorem Ai {o:dN}{d:Option Nat}(u:Real F L) (f:bG o d L ρ=true):∃F' L' v,Made o d F L ρ F' L' v/\F.le F'/\Real F' L':=by
 obtain⟨w,j⟩:=u;have c:∀(e:TypeId) (cs:List Value),∃F',F.le F'/\F' w.heap.size=some (.cells cs.toArray e (0,0))/\Real F' L:=by
  intro e cs;have h:=gW w (.cells cs.toArray e);obtain⟨hf,s⟩:=sS j;exact⟨_,au.aav (j.alloc (.cells cs.toArray e)) h,o5 rfl,⟨_,(j.alloc (.cells cs.toArray e)).freeze h s⟩⟩
 cases o<;>cases d<;>simp only[bG] at f<;>try (cases f;done)
 ·rename_i t x k;rw[Option.isNone_iff_eq_none] at f;refine⟨_,_,_,.box w.heap.size,au.le_refl F,⟨_,(lO j f (ob:=mS t (aL (val L ρ x))) (e:=.box w.heap.size t (aL (val L ρ x))) rfl ?_).1⟩⟩;show _=_;rw[gW]
 ·rename_i t zs k;rw[Option.isNone_iff_eq_none] at f;refine⟨_,_,_,.alloc w.heap.size,au.le_refl F,⟨_,(lO j f (ob:=mS t zs) (e:=.box w.heap.size t zs) rfl ?_).1⟩⟩;show _=_;rw[gW]
 ·rename_i e n sz xs;obtain⟨F',h1,p,l⟩:=c e (cellsOf L ρ xs);exact⟨F',L,_,.mkF w.heap.size F' h1 p,h1,l⟩
 ·rename_i e n sz xs k;obtain⟨F',h1,p,l⟩:=c e (cellsOf L ρ xs);exact⟨F',L,_,.mkF w.heap.size F' h1 p,h1,l⟩
 ·rename_i e sz n zs k;obtain⟨m,q,r⟩:=nu (ρ:=ρ) (e:=e) f;have a:=lg w (List.replicate n zs).flatten e n sz r (by rw[List.length_flatten];simp[q]);refine⟨_,_,_,.mkS w.heap.size,au.le_refl F,⟨_,(jY j m (cs:=((List.replicate n zs).flatten).toArray) (t:=e) (e:=.row (.slice (some ⟨w.heap.size,0,none⟩) n n) e sz n (List.replicate n zs).flatten) rfl a).1⟩⟩
 ·rename_i e sz b zs x k;obtain⟨m,q,r,_⟩:=ny (e:=e) f;have a:=lg w (List.replicate (lN (val L ρ x)) zs).flatten e (lN (val L ρ x)) sz r (by rw[List.length_flatten];simp[q]);refine⟨_,_,_,.mkV w.heap.size _ rfl,au.le_refl F,⟨_,(jY j m (cs:=((List.replicate (lN (val L ρ x)) zs).flatten).toArray) (t:=e) (e:=.row (.slice (some ⟨w.heap.size,0,none⟩) (lN (val L ρ x)) (lN (val L ρ x))) e sz (lN (val L ρ x)) (List.replicate (lN (val L ρ x)) zs).flatten) rfl a).1⟩⟩
theorem Made.le {o:dN}{d:Option Nat}{F':au}{L':Loc}{v:SV}(h:Made o d F L ρ F' L' v):F.le F':=by
 cases h with
 | box g=>exact au.le_refl _
 | alloc g=>exact au.le_refl _
 | mkS g=>exact au.le_refl _
 | mkV g n b=>exact au.le_refl _
 | mkF g F' a c=>exact a
theorem Made.part {o:dN}{d:Option Nat}{F':au}{L':Loc}{v:SV}(a:bG o d L ρ=true) (h:Made o d F L ρ F' L' v):L'.part L:=by
 intro j p e;cases h with
 | box g =>
  simp only[bG,Option.isNone_iff_eq_none] at a;rw[bT (fun h=>by rw[h] at e;rw[a] at e;cases e)];exact e
 | alloc g =>
  simp only[bG,Option.isNone_iff_eq_none] at a;rw[bT (fun h=>by rw[h] at e;rw[a] at e;cases e)];exact e
 | mkS g =>
  have a:=(nu a).1;rw[bT (fun h=>by rw[h] at e;rw[a] at e;cases e)];exact e
 | mkV g n c =>
  have a:=(ny a).1;rw[bT (fun h=>by rw[h] at e;rw[a] at e;cases e)];exact e
 | mkF g F' b f=>exact e
theorem Made.get {o:dN}{d:Option Nat}{F':au}{L':Loc}{v:SV}(a:bG o d L ρ=true) (h:Made o d F L ρ F' L' v):Keeps L L':=by
 cases h with
 | box g =>
  simp only[bG,Option.isNone_iff_eq_none] at a;exact Keeps.new a
 | alloc g =>
  simp only[bG,Option.isNone_iff_eq_none] at a;exact Keeps.new a
 | mkS g=>exact Keeps.new (nu a).1
 | mkV g n c=>exact Keeps.new (ny a).1
 | mkF g F' b e=>exact Keeps.refl _
theorem Made.frame {o:dN}{d:Option Nat}{F':au}{L':Loc}{v:SV}(h:Made o d F L ρ F' L' v):∀j,d≠some j->L'.get j=L.get j:=by
 intro j a;cases h with
 | box g=>exact bT (fun e=>a (by rw[e]))
 | alloc g=>exact bT (fun e=>a (by rw[e]))
 | mkS g=>exact bT (fun e=>a (by rw[e]))
 | mkV g n c=>exact bT (fun e=>a (by rw[e]))
 | mkF g F' b f=>rfl
theorem iC {o:dN}{d:Option Nat}{L L':Loc}{ρ ρ':Env}(j:∀x∈bw o,val L' ρ' x=val L ρ x) (c:∀k,d=some k->(L'.get k=none->L.get k=none)) (h:bG o d L' ρ'=true):bG o d L ρ=true:=by
 cases o<;>cases d<;>simp only[bG] at h ⊢<;>try (cases h;done)
 ·rename_i t x k;rw[Option.isNone_iff_eq_none] at h ⊢;exact c k rfl h
 ·rename_i t zs k;rw[Option.isNone_iff_eq_none] at h ⊢;exact c k rfl h
 ·rename_i e n sz xs;rw[<-mK (xs:=xs) j];exact h
 ·rename_i e n sz xs k;rw[<-mK (xs:=xs) j];exact h
 ·rename_i e sz n zs k;obtain⟨h1,f,a⟩:=nu (L:=L') (ρ:=ρ') (e:=e) h;have a:Nat.ble n 9223372036854775807=true:=Nat.ble_eq_true_of_le a;rw[c k rfl h1,Bw f,a]
 ·rename_i e sz b zs x k;obtain⟨h1,f,_,a⟩:=ny (L:=L') (ρ:=ρ') (e:=e) h;rw[j x (by simp[bw])] at a;rw[c k rfl h1,Bw f,a]
theorem Made.like {o:dN}{d:Option Nat}{ρ ρ':Env}{F':au}{L':Loc}{v:SV}(b:∀x∈bw o,val L ρ' x=val L ρ x) (h:Made o d F L ρ' F' L' v):Made o d F L ρ F' L' v:=by
 cases h with
 | box g=>rw[b _ (by simp[bw])];exact .box g
 | alloc g=>exact .alloc g
 | mkS g=>exact .mkS g
 | mkV g n e=>exact .mkV g n (by rw[e,b _ (by simp[bw])])
 | mkF g F' a c =>
  rename_i xs;rw[bZ (xs:=xs) b] at c;exact .mkF g F' a c
theorem fB {L L':Loc}{ρ:Env}(b:Vd L ρ) (c:Keeps L L') (x:X):val L' ρ x=val L ρ x:=by
 simp only[val];cases e:ev ρ x with
 | v u=>rfl
 | el a j=>rfl
 | own k off =>
  obtain⟨g,ty,cs,h⟩:=b.ev e;simp only[conc,c k g ty cs h,h]
theorem cB {l:List X}{d:Option Nat}{v:SV}(h:∀k,d=some k->k∉cj l):∀x∈l,val L (put d v ρ) x=val L ρ x:=fun x a=>by simp only[val,fA h x a]
theorem Hz {x y:dN}{dx dy:Option Nat}{F1 F2:au}{L1 L2:Loc}{v1 v2:SV}(r:bG x dx L ρ=true) (aE:bG y dy L ρ=true) (d:∀k,dx=some k->k∉cj (bw y)) (ba:∀k,dy=some k->k∉cj (bw x))
  (c:∀k,dx=some k->dy≠some k) (h:Vd L ρ) (h1:Made y dy F L ρ F1 L1 v1) (h2:Made x dx F1 L1 (put dy v1 ρ) F2 L2 v2) :
  ∃Fa La,Made x dx F L ρ Fa La v2/\Made y dy Fa La (put dx v2 ρ) F2 L2 v1:=by
 have ux:∀z∈bw x,val L1 (put dy v1 ρ) z=val L ρ z:=fun z hz=>by
  rw[cB ba z hz,fB h (h1.get aE)]
 cases h2 with
 | box b =>
  rw[ux _ (by simp[bw])];rename_i t z k;have fresh:∀{o:Own},Keeps L (L.set k o):=by
   simp only[bG,Option.isNone_iff_eq_none] at r;exact Keeps.new r
  cases h1 with
  | box a =>
   rename_i t' p k';refine⟨F,_,.box b,?_⟩;rw[set_comm L _ _ (fun e=>c k rfl (by rw[e]))];have e:val (L.set k (.box b t (aL (val L ρ z)))) (put (some k) (.own k 0) ρ) p=val L ρ p:=by
    rw[cB d p (by simp[bw]),fB h (fresh)]
   rw[<-e];exact .box a
  | alloc a =>
   rename_i t' ae k';refine⟨F,_,.box b,?_⟩;rw[set_comm L _ _ (fun e=>c k rfl (by rw[e]))];exact .alloc a
  | mkS a =>
   refine⟨F,_,.box b,?_⟩;rw[set_comm L _ _ (fun e=>c k rfl (by rw[e]))];exact .mkS a
  | mkV a n1 m =>
   refine⟨F,_,.box b,?_⟩;rw[set_comm L _ _ (fun e=>c k rfl (by rw[e]))];refine .mkV a n1 ?_;rw[m,cB d _ (by simp[bw]),fB h fresh]
  | mkF a F' f q =>
   rename_i e' n' ab j;refine⟨F,_,.box b,.mkF a _ f ?_⟩;rw[bZ (L:=L) (ρ:=ρ) (xs:=j) (fun u w=>by rw[cB d u (by simpa[bw] using w),fB h fresh])];exact q
 | alloc b =>
  rename_i t zs k;have fresh:∀{o:Own},Keeps L (L.set k o):=by
   simp only[bG,Option.isNone_iff_eq_none] at r;exact Keeps.new r
  cases h1 with
  | box a =>
   rename_i t' p k';refine⟨F,_,.alloc b,?_⟩;rw[set_comm L _ _ (fun e=>c k rfl (by rw[e]))];have e:val (L.set k (.box b t zs)) (put (some k) (.own k 0) ρ) p=val L ρ p:=by
    rw[cB d p (by simp[bw]),fB h (fresh)]
   rw[<-e];exact .box a
  | alloc a =>
   rename_i t' ae k';refine⟨F,_,.alloc b,?_⟩;rw[set_comm L _ _ (fun e=>c k rfl (by rw[e]))];exact .alloc a
  | mkS a =>
   refine⟨F,_,.alloc b,?_⟩;rw[set_comm L _ _ (fun e=>c k rfl (by rw[e]))];exact .mkS a
  | mkV a n1 m =>
   refine⟨F,_,.alloc b,?_⟩;rw[set_comm L _ _ (fun e=>c k rfl (by rw[e]))];refine .mkV a n1 ?_;rw[m,cB d _ (by simp[bw]),fB h fresh]
  | mkF a F' f q =>
   rename_i e' n' ab j;refine⟨F,_,.alloc b,.mkF a _ f ?_⟩;rw[bZ (L:=L) (ρ:=ρ) (xs:=j) (fun u w=>by rw[cB d u (by simpa[bw] using w),fB h fresh])];exact q
 | mkS b =>
  rename_i t al l zs k;have fresh:∀{o:Own},Keeps L (L.set k o):=by
   exact Keeps.new (nu r).1
  cases h1 with
  | box a =>
   rename_i t' p k';refine⟨F,_,.mkS b,?_⟩;rw[set_comm L _ _ (fun e=>c k rfl (by rw[e]))];have e:val (L.set k (.row (.slice (some ⟨b,0,none⟩) l l) t al l (List.replicate l zs).flatten)) (put (some k) (.v (.slice (some ⟨b,0,none⟩) l l)) ρ) p=val L ρ p:=by
    rw[cB d p (by simp[bw]),fB h (fresh)]
   rw[<-e];exact .box a
  | alloc a =>
   rename_i t' ae k';refine⟨F,_,.mkS b,?_⟩;rw[set_comm L _ _ (fun e=>c k rfl (by rw[e]))];exact .alloc a
  | mkS a =>
   refine⟨F,_,.mkS b,?_⟩;rw[set_comm L _ _ (fun e=>c k rfl (by rw[e]))];exact .mkS a
  | mkV a n1 m =>
   refine⟨F,_,.mkS b,?_⟩;rw[set_comm L _ _ (fun e=>c k rfl (by rw[e]))];refine .mkV a n1 ?_;rw[m,cB d _ (by simp[bw]),fB h fresh]
  | mkF a F' f q =>
   rename_i e' n' ab j;refine⟨F,_,.mkS b,.mkF a _ f ?_⟩;rw[bZ (L:=L) (ρ:=ρ) (xs:=j) (fun u w=>by rw[cB d u (by simpa[bw] using w),fB h fresh])];exact q
 | mkV b l ao =>
  rename_i t al b0 zs x0 k;have s:l=lN (val L ρ x0):=by rw[ao,ux _ (by simp[bw])]
  clear ao
  have fresh:∀{o:Own},Keeps L (L.set k o):=by
   exact Keeps.new (ny r).1
  cases h1 with
  | box a =>
   rename_i t' p k';refine⟨F,_,.mkV b l s,?_⟩;rw[set_comm L _ _ (fun e=>c k rfl (by rw[e]))];have e:val (L.set k (.row (.slice (some ⟨b,0,none⟩) l l) t al l (List.replicate l zs).flatten)) (put (some k) (.v (.slice (some ⟨b,0,none⟩) l l)) ρ) p=val L ρ p:=by
    rw[cB d p (by simp[bw]),fB h (fresh)]
   rw[<-e];exact .box a
  | alloc a =>
   rename_i t' ae k';refine⟨F,_,.mkV b l s,?_⟩;rw[set_comm L _ _ (fun e=>c k rfl (by rw[e]))];exact .alloc a
  | mkS a =>
   refine⟨F,_,.mkV b l s,?_⟩;rw[set_comm L _ _ (fun e=>c k rfl (by rw[e]))];exact .mkS a
  | mkV a n1 m =>
   refine⟨F,_,.mkV b l s,?_⟩;rw[set_comm L _ _ (fun e=>c k rfl (by rw[e]))];refine .mkV a n1 ?_;rw[m,cB d _ (by simp[bw]),fB h fresh]
  | mkF a F' f q =>
   rename_i e' n' ab j;refine⟨F,_,.mkV b l s,.mkF a _ f ?_⟩;rw[bZ (L:=L) (ρ:=ρ) (xs:=j) (fun u w=>by rw[cB d u (by simpa[bw] using w),fB h fresh])];exact q
 | mkF b F' f q =>
  rename_i e n sz xs;have bb:=bZ (xs:=xs) ux;rw[bb] at q;cases h1 with
  | box a =>
   rename_i t' p k';refine⟨F2,L,.mkF b _ f q,?_⟩;have e:=cB (L:=L) (ρ:=ρ) (v:=.v (.slice (some ⟨b,0,none⟩) n n)) d p (by simp[bw]);rw[<-e];exact .box a
  | alloc a=>exact⟨F2,L,.mkF b _ f q,.alloc a⟩
  | mkS a=>exact⟨F2,L,.mkF b _ f q,.mkS a⟩
  | mkV a n1 m=>exact⟨F2,L,.mkF b _ f q,.mkV a n1 (by rw[m,cB d _ (by simp[bw])])⟩
  | mkF a F1' an aw =>
   rename_i e' n' ab j;refine⟨F2,L,.mkF b _ (au.le_trans an f) q,.mkF a _ (au.le_refl _) ?_⟩;rw[bZ (L:=L) (ρ:=ρ) (xs:=j) (fun u w=>by rw[cB d u (by simpa[bw] using w)])];exact f _ _ aw
theorem JF {x y:dN}{dx dy:Option Nat}(hr:Real F L) (hc:w9 x y=true) (aa:∀k,dx=some k->k∉cj (bw y)) (ao:∀k,dy=some k->k∉cj (bw x)) (d:∀k,dx=some k->dy≠some k)
  (ar:Vd L ρ) (r:evalOp P x dx F L ρ (fun F1 L1 cf=>evalOp P y dy F1 L1 cf K)):evalOp P y dy F L ρ (fun F1 L1 cf=>evalOp P x dx F1 L1 cf K):=by
 have eh:∀k,dy=some k->dx≠some k:=fun k e e'=>d k e' e;simp only[w9,abp,aaN] at hc;rcases hc with((((⟨⟨hx,hy⟩,dT⟩ | ⟨hx,hy⟩) | ⟨hx,hy⟩) | ⟨hx,hy⟩) | ⟨hx,hy⟩) | ⟨hx,hy⟩
 ·rw[bY hx] at r;obtain⟨v,hT,q⟩:=(eP hx).ex _ r
  clear r
  have an:∀{F':au}{L':Loc}{u:SV},F.le F'->Keeps L L'->K F' L' (put dy u (put dx v ρ))->(JB x=false\/L'=L)->evalOp P x dx F' L' (put dy u ρ) K:=by
   intro F' L' u hF hL hk hR;rw[bY hx];have bj:Alike x L L' ρ (put dy u ρ):=fun z p=>⟨fA ao z p,fun k off e=>by
    obtain⟨g,ty,cs,h⟩:=ar.ev e;rw[hL k g ty cs h,h]⟩
   refine(eP hx).mono _ _ (fun v' ed=>?_) (qL hx hF bj hT hR);subst ed;rw[put_comm d];exact hk
  have hv:=cB (L:=L) (ρ:=ρ) (v:=v) aa
  by_cases bk:cI y=true
  ·rw[bY bk] at q ⊢;have bj:Alike y L L (put dx v ρ) ρ:=fun z p=>⟨(fA aa z p).symm,fun _ _ _=>rfl⟩;exact(eP bk).mono _ _ (fun u hu=>an (au.le_refl F) (Keeps.refl _) hu (.inr rfl)) (qL bk (au.le_refl F) bj q)
  ·have bt:JB x=false:=by
    rcases dT with h | h
    ·cases e:JB x with
     | false=>rfl
     | true=>rw[e] at h;cases h
    ·exact vv h bk
   by_cases cw:dU y=true
   ·rw[bK cw] at q ⊢;obtain⟨h1,h2⟩:=q;have l:bG y dy L ρ=true:=iC (L':=L) (ρ':=put dx v ρ) hv (fun k _ e=>e) h1;refine⟨l,fun F' L' u hm bm=>an hm.le (hm.get l) (h2 F' L' u ?_ bm) (.inl bt)⟩;exact hm.like fun z p=>(hv z p).symm
   ·cases y<;>first | (exfalso;revert bk cw hy;simp[Hy,cI,gK,dU,o7];done) | skip
    case callD f args =>
     have e1:=cU (xs:=args) hv;simp only[evalOp,e1] at q ⊢;exact q.imp fun F' L' u be hl _ h=>an be hl.keeps h (.inl bt)
    case callVD f args =>
     have e0:=fA (v:=v) (ρ:=ρ) aa f (by simp[bw]);have e1:=cU (xs:=args) (L:=L) (L':=L) (ρ:=ρ) (ρ':=put dx v ρ) (fun z p=>hv z (by simp[bw,p]));simp only[evalOp,e0,e1] at q ⊢;split at q
     ·exact q.imp fun F' L' u be hl _ h=>an be hl.keeps h (.inl bt)
     ·exact q.elim
    case appD e sz b zs s z =>
     have e0:=fA (v:=v) (ρ:=ρ) aa s (by simp[bw]);have e1:=fA (v:=v) (ρ:=ρ) aa z (by simp[bw]);simp only[evalOp,e0,e1] at q ⊢;split at q
     ·refine q.imp (au.le_refl F) fun kd n xs n' bs u dE bm h=>an (au.le_refl F) ?_ (h bm) (.inl bt);rcases dE with h | ⟨_,h⟩
      ·exact Keeps.row h
      ·exact Keeps.new h
     ·exact q.elim
 ·have ae:∀{f:Nat}{args:List Value},dI P f args F L dx (fun F' L' v=>evalOp P y dy F' L' (put dx (.v v) ρ) K) ->
    bG y dy L ρ=true/\∀F' L' u,Made y dy F L ρ F' L' u->dI P f args F' L' dx (fun F2 L2 v=>K F2 L2 (put dx (.v v) (put dy u ρ))):=by
   intro f args hC;have up:∀{L1:Loc},Left dx L L1->∀{u:SV},∀z∈bw y,val L1 (put dx u ρ) z=val L ρ z:=by
    intro L1 hl u z p;rw[cB aa z p,fB ar hl.keeps]
   have l:bG y dy L ρ=true:=by
    obtain⟨F',L',v,be,hl,_,h⟩:=hC.some hr;rw[bK hy] at h;refine iC (L':=L') (ρ':=put dx (.v v) ρ) (up hl) (fun k hk e=>?_) h.1;rcases hl with rfl | ⟨j,o,hj,hn,rfl⟩ | ⟨j,rv,t,sz,n,xs,hj,rfl⟩
    ·exact e
    ·rw[bT (fun ej=>d j hj (by rw[<-ej];exact hk))] at e;exact e
    ·rw[Loc.aac] at e;split at e
     ·cases e
     ·exact e
   refine⟨l,fun F' L' u hm=>(hC.up hm.le hr.glob (hm.part l) (fun k hk hn=>by rw[hm.frame k (d k hk)];exact hn)).imp fun F2 L2 v be eb aw h=>?_⟩
   clear eb
   obtain⟨h1,dz,h2⟩:=h
   clear dz
   rw[put_comm d];rcases h2 with⟨rfl,h2⟩ | ⟨k,o,hk,hn,rfl,h2⟩ | ⟨kr,rv,t,sz,n,xs,cM,rfl,h2⟩
   ·rw[bK hy] at h2;refine h2.2 F2 L2 u ?_ aw;have w:=up (L1:=L) (.inl rfl) (u:=.v v)
    clear up h2
    cases hm with
    | box g=>rw[<-w _ (by simp[bw])];exact .box g
    | alloc g=>exact .alloc g
    | mkS g=>exact .mkS g
    | mkV g n hn=>exact .mkV g n (by rw[hn,w _ (by simp[bw])])
    | mkF g F' bd hg =>
     rename_i xs;refine .mkF g _ (au.le_refl _) ?_;rw[bZ (L:=L) (ρ:=ρ) (xs:=xs) (fun z p=>w z (by simpa[bw] using p))];exact h1 _ _ hg
   ·rw[bK hy] at h2;refine h2.2 F2 _ u ?_ aw;have w:=up (L1:=L.set k o) (.inr (.inl ⟨k,o,hk,hn,rfl⟩)) (u:=.v v)
    clear up h2
    cases hm with
    | box g =>
     rw[set_comm L _ _ (fun e=>d k hk (by rw[e])),<-w _ (by simp[bw])];exact .box g
    | alloc g =>
     rw[set_comm L _ _ (fun e=>d k hk (by rw[e]))];exact .alloc g
    | mkS g =>
     rw[set_comm L _ _ (fun e=>d k hk (by rw[e]))];exact .mkS g
    | mkV g n hn =>
     rw[set_comm L _ _ (fun e=>d k hk (by rw[e]))];exact .mkV g n (by rw[hn,w _ (by simp[bw])])
    | mkF g F' bd hg =>
     rename_i xs;refine .mkF g _ (au.le_refl _) ?_;rw[bZ (L:=L) (ρ:=ρ) (xs:=xs) (fun z p=>w z (by simpa[bw] using p))];exact h1 _ _ hg
   ·rw[bK hy] at h2;refine h2.2 F2 _ u ?_ aw;have w:=up (L1:=L.set kr (.row (.slice none 0 0) t sz 0 [])) (.inr (.inr ⟨kr,rv,t,sz,n,xs,cM,rfl⟩)) (u:=.v v);have az:∀k,dy=some k->dU y=true->bG y dy L ρ=true->(∀e n' dl bs,y≠.mkFD e n' dl bs)->kr≠k:=by
     intro k hk _ hc ec e;subst hk e;cases y<;>simp only[bG,cM,Option.isNone_some,aa5] at hc;exact ec _ _ _ _ rfl
    clear up h2
    cases hm with
    | box g =>
     rw[set_comm L _ _ (az _ rfl hy l (fun _ _ _ _=>by simp)).symm,<-w _ (by simp[bw])];exact .box g
    | alloc g =>
     rw[set_comm L _ _ (az _ rfl hy l (fun _ _ _ _=>by simp)).symm];exact .alloc g
    | mkS g =>
     rw[set_comm L _ _ (az _ rfl hy l (fun _ _ _ _=>by simp)).symm];exact .mkS g
    | mkV g n hn =>
     rw[set_comm L _ _ (az _ rfl hy l (fun _ _ _ _=>by simp)).symm];exact .mkV g n (by rw[hn,w _ (by simp[bw])])
    | mkF g F' bd hg =>
     rename_i xs;refine .mkF g _ (au.le_refl _) ?_;rw[bZ (L:=L) (ρ:=ρ) (xs:=xs) (fun z p=>w z (by simpa[bw] using p))];exact h1 _ _ hg
  cases x<;>first | (exfalso;revert hx;simp[gK];done) | skip
  case callD f args =>
   simp only[evalOp] at r;obtain⟨h1,h2⟩:=ae r;rw[bK hy];refine⟨h1,fun F' L' u hm _=>?_⟩;have e1:bn L' (put dy u ρ) args=bn L ρ args:=cU fun z p=>by rw[cB ao z (by simpa[bw] using p),fB ar (hm.get h1)]
   simp only[evalOp,e1];exact h2 F' L' u hm
  case callVD f args =>
   simp only[evalOp] at r;split at r
   case h_2=>exact r.elim
   rename_i eu fi ca hf;obtain⟨h1,h2⟩:=ae r;rw[bK hy];refine⟨h1,fun F' L' u hm _=>?_⟩;have e0:=fA (v:=u) (ρ:=ρ) ao f (by simp[bw]);have e1:bn L' (put dy u ρ) args=bn L ρ args:=cU fun z p=>by rw[cB ao z (by simp[bw,p]),fB ar (hm.get h1)]
   simp only[evalOp,e0,e1,hf];exact h2 F' L' u hm
 ·cases x<;>first | (exfalso;revert hx;simp[o7];done) | skip
  case appD e sz b zs s z =>
   rw[CY] at r;split at r
   case h_2=>exact r.elim
   rename_i sv xv cY cx;have l:bG y dy L ρ=true:=by
    obtain⟨kd,v,n',bs,h1,_,h⟩:=r.some hr;rw[bK hy] at h;have ci:Keeps L (L.set kd (.row v e sz n' bs)):=by
     rcases h1 with⟨n,xs,h1⟩ | ⟨_,h1⟩
     ·exact Keeps.row h1
     ·exact Keeps.new h1
    refine iC (L':=_) (ρ':=put dx (.v v) ρ) (fun u hu=>by rw[cB aa u hu,fB ar ci]) (fun k hk e=>?_) h.1;rw[Loc.aac] at e;split at e
    ·cases e
    ·exact e
   rw[bK hy];refine⟨l,fun F' L' u hm dk=>?_⟩
   clear dk
   have e0:=fA (v:=u) (ρ:=ρ) ao s (by simp[bw]);have e1:=fA (v:=u) (ρ:=ρ) ao z (by simp[bw]);simp only[evalOp,e0,e1,cY,cx];obtain⟨kd,n,xs,m,ce,h1,⟨ad,c,h2,h3,h4⟩,h5,h6,h7,h8⟩:=r;have ci:∀{o:Own},Keeps L (L.set kd o):=by
    rcases h1 with h1 | ⟨_,h1,_⟩ | ⟨_,h1,_⟩
    ·exact Keeps.row h1
    ·exact Keeps.new h1
    ·exact Keeps.new h1
   have az:∀k,dy=some k->L.get k=none->kd≠k:=by
    rintro k hk hn rfl;rcases h1 with h1 | ⟨h1,_⟩ | ⟨h1,_⟩
    ·rw[hn] at h1;cases h1
    ·exact d kd h1 hk
    ·exact d kd h1 hk
   refine⟨kd,n,xs,m,ce,?_,⟨ad,c,h2,h3,?_⟩,h5,h6,h7,fun v hv aw=>?_⟩
   ·rcases h1 with h1 | ⟨h0,h1,dp⟩ | ⟨h0,h1,ad,q1,q2,q3,q4⟩
    ·exact .inl (hm.part l kd _ h1)
    ·exact .inr (.inl ⟨h0,by rw[hm.frame kd (d kd h0)];exact h1,dp⟩)
    ·exact .inr (.inr ⟨h0,by rw[hm.frame kd (d kd h0)];exact h1,ad,q1,q2,q3,q4.imp (·.mono hm.le) id⟩)
   ·rcases h4 with h4 | h4
    ·exact .inl (h4.mono hm.le)
    ·exact .inr h4
   ·have h9:=h8 v hv (aw.down hm.le hr.glob (Hw (hm.part l)));rw[bK hy] at h9;rw[put_comm d];refine h9.2 F' _ u ?_ aw;have w:∀z∈bw y,val (L.set kd (.row v e sz (n+m) (xs++ce))) (put dx (.v v) ρ) z=val L ρ z:=fun z p=>by
     rw[cB aa z p,fB ar ci]
    clear h8 h9 cY cx e0 e1
    cases hm with
    | box g =>
     rename_i t x k;simp only[bG,Option.isNone_iff_eq_none] at l;rw[set_comm L _ _ (fun e=>az k rfl l e.symm),<-w _ (by simp[bw])];exact .box g
    | alloc g =>
     rename_i t zs k;simp only[bG,Option.isNone_iff_eq_none] at l;rw[set_comm L _ _ (fun e=>az k rfl l e.symm)];exact .alloc g
    | mkS g =>
     rename_i e0 dv n0 zs k;rw[set_comm L _ _ (fun e=>az k rfl (nu l).1 e.symm)];exact .mkS g
    | mkV g n hn =>
     rename_i e0 dv b0 zs x0 k;rw[set_comm L _ _ (fun e=>az k rfl (ny l).1 e.symm)];exact .mkV g n (by rw[hn,w _ (by simp[bw])])
    | mkF g F' bd hg =>
     rename_i ea;refine .mkF g _ bd ?_;rw[bZ (L:=L) (ρ:=ρ) (xs:=ea) (fun z p=>w z (by simpa[bw] using p))];exact hg
 ·rw[bK hx] at r;obtain⟨bi,r⟩:=r;have bu:bG y dy L ρ=true:=by
   obtain⟨F',L',v,hm,be,bm⟩:=Ai hr bi;have h:=r F' L' v hm bm;rw[bK hy] at h;refine iC (L':=L') (ρ':=put dx v ρ) (fun z p=>by rw[cB aa z p,fB ar (hm.get bi)]) (fun k hk e=>?_) h.1;rw[hm.frame k (fun e'=>d k e' hk)] at e;exact e
  rw[bK hy];refine⟨bu,fun F1 L1 v1 cm es=>?_⟩;rw[bK hx];refine⟨iC (L':=L) (ρ':=ρ) (fun z p=>by rw[cB ao z p,fB ar (cm.get bu)]) (fun k hk e=>by rw[cm.frame k (d k hk)];exact e) bi,fun F2 L2 v2 dg aw=>?_⟩;obtain⟨Fa,La,ha,hb⟩:=Hz bi bu aa ao d ar cm dg;have cX:bG y dy La (put dx v2 ρ)=true :=
   iC (L':=L) (ρ':=ρ) (fun z p=>by rw[cB aa z p,fB ar (ha.get bi)]) (fun k hk e=>by rw[ha.frame k (fun e'=>d k e' hk)];exact e) bu
  have dr:Real Fa La:=aw.down hb.le (hr.glob.mono ha.le) (hb.part cX);have h:=r Fa La v2 ha dr;rw[bK hy] at h;rw[put_comm d];exact h.2 F2 L2 v1 hb aw
 ·have bl:=rC hx;rw[bY bl] at r;obtain⟨v,hT,q⟩:=(eP bl).ex _ r
  clear r
  obtain⟨n,a,z,k,off,g,t,cs,ho,e1,e2,e3,e4,e5,r⟩:=iB hy q;have ha:a∈bw y:=by rcases ho with rfl | rfl<;>simp[bw]
  have p:z∈bw y:=by rcases ho with rfl | rfl<;>simp[bw]
  have q0:=fA (v:=v) (ρ:=ρ) aa a ha;have q1:=cB (L:=L) (v:=v) (ρ:=ρ) aa z p;rw[q0] at e3;rw[q1] at e1 e2 r;refine gY ho e1 e2 e3 e4 e5 ?_;have h3:=(eP bl).mono _ (fun u=>K F _ (put dx u (put dy (.v undef) ρ))) (fun u hu=>by subst hu;rw[put_comm d];exact r)
   (qL bl (au.le_refl F) (uD (L:=L) (ρ:=ρ) (v:=.v undef) ao) hT)
  rw[bY bl];exact Ah hx ho (CZ e4) (fun j hj=>bT hj) h3
 ·have bo:=rC hy;obtain⟨n,a,z,k,off,g,t,cs,ho,e1,e2,e3,e4,e5,r⟩:=iB hx r;have ha:a∈bw x:=by rcases ho with rfl | rfl<;>simp[bw]
  have p:z∈bw x:=by rcases ho with rfl | rfl<;>simp[bw]
  rw[bY bo] at r;obtain⟨v,hT,r⟩:=(eP bo).ex _ r;have hT:=Ah (L':=L) hy ho (fun sv=>(CZ e4 sv).symm) (fun j hj=>(bT hj).symm) hT;have bj:Alike y L L (put dx (.v undef) ρ) ρ:=fun u hu=>⟨(fA aa u hu).symm,fun _ _ _=>rfl⟩;have hT:=qL bo (au.le_refl F) bj hT;rw[bY bo];refine(eP bo).mono _ _ (fun u hu=>?_) hT;subst hu;have q0:=fA (v:=u) (ρ:=ρ) ao a ha;have q1:=cB (L:=L) (v:=u) (ρ:=ρ) ao z p;refine gY ho (by rw[q1];exact e1) (by rw[q1];exact e2) (by rw[q0];exact e3) e4 e5 ?_;rw[q1,put_comm d];exact r
end
section
variable {P:Program}{F:au}{L:Loc}{ρ:Env}{K K':di}
theorem Left.none {d:Option Nat}{L L':Loc}(h:Left d L L') {j:Nat}(c:d≠some j) (e:L.get j=none):L'.get j=none:=by
 rcases h with rfl | ⟨k,o,f,b,rfl⟩ | ⟨k,l,t,sz,n,xs,b,rfl⟩
 ·exact e
 ·rw[bT (fun a=>c (by rw[a];exact f))];exact e
 ·rw[bT (fun a=>by rw[a,b] at e;cases e)];exact e
theorem mU {o:dN}(ho:okD o=true) {d:Option Nat}(hr:Real F L) (y:Vd L ρ) (c:evalOp P o d F L ρ K)
  (hk:∀F1 L1 r,(∃v,r=put d v ρ)->F.le F1->Real F1 L1->Vd L1 r->(∀j,d≠some j->L.get j=none->L1.get j=none)->K F1 L1 r->K' F1 L1 r):evalOp P o d F L ρ K':=by
 have a:∀{L1:Loc}{v:SV},Keeps L L1->(∀k off,v=.own k off->∃g ty cs,L1.get k=some (.box g ty cs))->Vd L1 (put d v ρ):=by
  intro L1 v hL hv t k off e;have m:ρ t=.own k off->∃g ty cs,L1.get k=some (.box g ty cs):=fun e=>by
   obtain⟨g,ty,cs,h⟩:=y t k off e;exact⟨g,ty,cs,hL k g ty cs h⟩
  rw[put_eq] at e;cases d with
  | none=>exact m e
  | some k' =>
   simp only[] at e;split at e
   ·exact hv k off e
   ·exact m e
 by_cases hs:cI o=true
 ·rw[bY hs] at c ⊢;obtain⟨v,hT,hv⟩:=(eP hs).ex _ c;refine(eP hs).mono _ _ (fun u hu=>?_) hT;subst hu;refine hk _ _ _ ⟨_,rfl⟩ (au.le_refl F) hr (a (Keeps.refl L) fun k off e=>?_) (fun _ _ h=>h) hv;subst e;obtain⟨x,_,p,hx⟩:=JC hs hT;exact y.ev hx
 ·by_cases ha:dU o=true
  ·rw[bK ha] at c ⊢;refine⟨c.1,fun F' L' v hm l=>hk _ _ _ ⟨v,rfl⟩ hm.le l (a (hm.get c.1) fun k off e=>?_) (fun j w e=>by rw[hm.frame j w];exact e) (c.2 F' L' v hm l)⟩;cases hm with
   | box g=>injection e with e1 e2;subst e1;exact⟨_,_,_,by rw[Loc.aac,o5 rfl]⟩
   | alloc g=>injection e with e1 e2;subst e1;exact⟨_,_,_,by rw[Loc.aac,o5 rfl]⟩
   | mkS g=>cases e
   | mkV g n hn=>cases e
   | mkF g F' q hg=>cases e
  ·cases o<;>first | (exfalso;revert hs ha ho;simp[okD,Hy,cI,gK,dU,o7,iA];done) | skip
   case callD f args =>
    simp only[evalOp] at c ⊢;exact c.imp fun F' L' v q hl l h=>hk _ _ _ ⟨_,rfl⟩ q l (a hl.keeps fun k off e=>by cases e) (fun j w e=>hl.none w e) h
   case callVD f args =>
    simp only[evalOp] at c ⊢;split at c
    ·exact c.imp fun F' L' v q hl l h=>hk _ _ _ ⟨_,rfl⟩ q l (a hl.keeps fun k off e=>by cases e) (fun j w e=>hl.none w e) h
    ·exact c.elim
   case appD e sz b zs s z =>
    simp only[evalOp] at c ⊢;split at c
    ·refine c.imp (au.le_refl F) fun kd n xs n' bm u ac l h=>hk _ _ _ ⟨_,rfl⟩ (au.le_refl F) l (a ?_ fun k off e=>by cases e) ?_ (h l)
     ·rcases ac with h | ⟨_,h⟩
      ·exact Keeps.row h
      ·exact Keeps.new h
     ·intro j w e;have ar:j≠kd:=by
       rintro rfl;rcases ac with h | ⟨h,_⟩
       ·rw[e] at h;cases h
       ·exact w h
      rw[bT ar];exact e
    ·exact c.elim
   all_goals
    obtain⟨n',a',x',k,off,g,ty,cs,am,e1,e2,e3,e4,e5,c⟩:=iB rfl c;refine gY am e1 e2 e3 e4 e5 (hk _ _ _ ⟨_,rfl⟩ (au.le_refl F) (Real.store (wh e5) hr e4) ?_ (fun j _ e=>by rw[bT (fun ej=>by rw[ej,e4] at e;cases e)];exact e) c);intro t k' p e;have m:ρ t=.own k' p->∃g' ty' cs',Loc.get (L.set k (.box g ty (bP cs off (aL (val L ρ x'))))) k'=some (.box g' ty' cs'):=fun e=>by
     obtain⟨g',ty',cs',h⟩:=y t k' p e;rw[Loc.aac];split
     ·exact⟨_,_,_,rfl⟩
     ·exact⟨_,_,_,h⟩
    rw[put_eq] at e;cases d with
    | none=>exact m e
    | some k' =>
     simp only[] at e;split at e
     ·cases e
     ·exact m e
theorem jE {o:dN}(j:okD o=true) {d:Option Nat}(m:Real F L) (b:Vd L ρ) (f:evalOp P o d F L ρ K)
  (c:∀F1 L1 a,(∃v,a=put d v ρ)->F.le F1->Real F1 L1->Vd L1 a->K F1 L1 a->K' F1 L1 a):evalOp P o d F L ρ K' :=
 mU j m b f fun F1 L1 a h1 k h l _ e=>c F1 L1 a h1 k h l e
theorem vp {o:dN}(q:okD o=true) {d:Option Nat}(c:Real F L) (a:evalOp P o d F L ρ K):∃v F1 L1,K F1 L1 (put d v ρ):=by
 by_cases j:cI o=true
 ·rw[bY j] at a;obtain⟨v,_,t⟩:=(eP j).ex _ a;exact⟨v,F,L,t⟩
 ·by_cases m:dU o=true
  ·rw[bK m] at a;obtain⟨F',L',v,u,_,l⟩:=Ai c a.1;exact⟨v,F',L',a.2 F' L' v u l⟩
  ·cases o<;>first | (exfalso;revert j m q;simp[okD,Hy,cI,gK,dU,o7,iA];done) | skip
   case callD f args =>
    simp only[evalOp] at a;obtain⟨F',L',v,_,_,_,h⟩:=a.some c;exact⟨_,F',L',h⟩
   case callVD f args =>
    simp only[evalOp] at a;split at a
    ·obtain⟨F',L',v,_,_,_,h⟩:=a.some c;exact⟨_,F',L',h⟩
    ·exact a.elim
   case appD e sz b zs s z =>
    simp only[evalOp] at a;split at a
    ·obtain⟨w,v,p,r,_,_,h⟩:=a.some c;exact⟨_,F,_,h⟩
    ·exact a.elim
   all_goals
    obtain⟨p,a',x',k,off,g,ty,cs,n,e1,e2,y,e4,x,a⟩:=iB rfl a;exact⟨_,F,_,a⟩
def gZ:dN:=.mov (.c undef)
def res (g:Option (Nat×Bool)) (ρ:Env) (o:dN):Option dN :=
 match g with
 | none=>some o
 | some (s,a)=>match ρ s with
  | .v (.bool b)=>some (if b=a then o else gZ)
  | .v (.tuple _)=>some gZ
  | _=>none
theorem fj {d:Option Nat}{o:dN}{g:Option (Nat×Bool)}{c:List ai} :
  aQ P (.op d o g::c) F L ρ K↔∃o',res g ρ o=some o'/\evalOp P o' d F L ρ (fun F1 L1 h=>aQ P c F1 L1 h K):=by
 cases g with
 | none=>simp only[aQ,res,aaO,exists_eq_left']
 | some p =>
  obtain⟨s,f⟩:=p;simp only[aQ,res];cases e:ρ s with
  | own k off=>simp
  | el a j=>simp
  | v u =>
   cases u<;>simp only[aaO,exists_eq_left',reduceCtorEq,false_and,exists_false]
   case bool b =>
    cases b<;>cases f<;>simp[zq,kG e,gZ,evalOp,aH,ev]
   case tuple vs=>rfl
def looks (o:dN) (g:Option (Nat×Bool)):List Nat :=
 match g with
 | none=>cj (bw o)
 | some (s,_)=>s::cj (bw o)
def rS (d:Option Nat) (l:List Nat):Bool :=
 match d with
 | none=>true
 | some k=>match eZ l k with | true=>false | false=>true
def C0:Option Nat->Option Nat->Bool
 | some a,some b=>match Nat.beq a b with | true=>false | false=>true
 | _,_=>true
def lT:ai->ai->Bool
 | .op b x d,.op a y c=>okD x&&okD y&&w9 x y&&rS b (looks y c)&&rS a (looks x d)&&C0 b a
 | _,_=>false
theorem j3 {d:Option Nat}{l:List Nat}(h:rS d l=true):∀k,d=some k->k∉l:=by
 rintro k rfl a;simp only[rS,cH.2 a] at h;cases h
theorem nA {d a:Option Nat}(h:C0 d a=true):∀k,d=some k->a≠some k:=by
 rintro k rfl e;subst e;simp[C0] at h
theorem oq {g:Option (Nat×Bool)}{o:dN}{d:Option Nat}{v:SV}(h:∀k,d=some k->k∉looks o g):res g (put d v ρ) o=res g ρ o:=by
 cases g with
 | none=>rfl
 | some p =>
  obtain⟨s,a⟩:=p;have:put d v ρ s=ρ s:=by
   rw[put_eq];cases d with
   | none=>rfl
   | some k =>
    simp only[];rw[q9];intro e;exact h k rfl (by simp[looks,e])
  simp only[res,this]
theorem cV {g:Option (Nat×Bool)}{o o':dN}(h:res g ρ o=some o'):o'=o\/o'=gZ:=by
 cases g with
 | none=>simp only[res,aaO] at h;exact .inl h.symm
 | some p =>
  obtain⟨s,a⟩:=p;simp only[res] at h;split at h
  ·injection h with h
   split at h
   ·exact .inl h.symm
   ·exact .inr h.symm
  ·injection h with h;exact .inr h.symm
  ·cases h
theorem nB {o:dN}{g:Option (Nat×Bool)}{k:Nat}(h:k∈cj (bw o)):k∈looks o g:=by
 cases g with
 | none=>exact h
 | some p=>exact abj _ h
theorem JG {x y:ai}{b:List ai}(w:lT x y=true) (hr:Real F L) (t:Vd L ρ) (h:aQ P (x::y::b) F L ρ K):aQ P (y::x::b) F L ρ K:=by
 cases x with
 | frz k=>exact vv w (by cases y<;>exact abd)
 | pc d o g=>exact vv w (by cases y<;>exact abd)
 | op dx x gx =>
  cases y with
  | frz k=>exact vv w abd
  | pc d o g=>exact vv w abd
  | op dy y gy =>
   simp only[lT,aaN] at w;obtain⟨⟨⟨⟨⟨al,f⟩,hc⟩,h1⟩,h2⟩,z⟩:=w;have h1:=j3 h1;have h2:=j3 h2;have z:=nA z;have av:∀k,dy=some k->dx≠some k:=fun k e e'=>z k e' e;rw[fj] at h;obtain⟨x',s,h⟩:=h;have j:okD gZ=true:=rfl;have p:okD x'=true:=by rcases cV s with rfl | rfl;exact al;exact j
   -- y's guard
   have hy:∃n,res gy ρ y=some n:=by
    obtain⟨v,F1,L1,c⟩:=vp p hr h;rw[fj] at c;obtain⟨n,a,_⟩:=c;rw[oq h1] at a;exact⟨n,a⟩
   obtain⟨n,a⟩:=hy;have ab:okD n=true:=by rcases cV a with rfl | rfl;exact f;exact j
   have hA:evalOp P x' dx F L ρ (fun F1 L1 m=>evalOp P n dy F1 L1 m (fun F2 L2 q=>aQ P b F2 L2 q K)):=by
    refine jE p hr t h ?_;rintro F1 L1 m ⟨v,rfl⟩ _ _ _ c;rw[fj] at c;obtain⟨an,l,c⟩:=c;rw[oq h1,a] at l;injection l with l
    subst l;exact c
   have lx:∀k,dy=some k->k∉cj (bw x'):=by
    intro k e c;rcases cV s with rfl | rfl
    ·exact h2 k e (nB c)
    ·simp[gZ,bw,cj] at c
   have ly:∀k,dx=some k->k∉cj (bw n):=by
    intro k e c;rcases cV a with rfl | rfl
    ·exact h1 k e (nB c)
    ·simp[gZ,bw,cj] at c
   have hB:evalOp P n dy F L ρ (fun F1 L1 m=>evalOp P x' dx F1 L1 m (fun F2 L2 q=>aQ P b F2 L2 q K)):=by
    by_cases r:n=gZ
    ·subst r;simp only[gZ,evalOp,aH,ev];exact wZ (K:=fun F2 L2 q=>aQ P b F2 L2 q K) (u:=.v undef) p lx z hA
    ·have ey:n=y:=by rcases cV a with h | h;exact h;exact vv h r
     subst ey;refine JF hr ?_ ly lx z t hA;rcases cV s with rfl | rfl
     ·exact hc
     ·simp only[okD,abp] at f;rcases f with f | f
      ·simp only[w9,f,ab5,abp];exact .inl (.inl (.inl (.inl (.inl (by rfl)))))
      ·simp only[w9,f,ab5,abp];exact .inl (.inr rfl)
   rw[fj];refine⟨n,a,jE ab hr t hB ?_⟩;rintro F1 L1 m ⟨v,rfl⟩ _ _ _ c;rw[fj];exact⟨x',by rw[oq h2];exact s,c⟩
theorem Aj {y:ai}{s:List ai}:∀(p:List ai),(∀x∈p,lT x y=true)->∀{F:au}{L:Loc}{ρ:Env},Real F L->Vd L ρ->aQ P (p++y::s) F L ρ K->aQ P (y::(p++s)) F L ρ K
 | [],_,F,L,ρ,_,_,h=>h
 | .frz k::p,b,F,L,ρ,_,_,h=>by
  have:=b (.frz k) (by simp);exact vv this (by cases y<;>exact abd)
 | .pc d o g::p,b,F,L,ρ,_,_,h=>by
  have:=b (.pc d o g) (by simp);exact vv this (by cases y<;>exact abd)
 | .op q x t::p,b,F,L,ρ,r,e,h=>by
  have a:=b (.op q x t) (by simp);have h':aQ P (.op q x t::y::(p++s)) F L ρ K:=by
   rw[aa4,fj] at h;obtain⟨n,j,h⟩:=h;have m:okD x=true:=by
    cases y with
    | frz k=>exact vv a abd
    | pc d o g=>exact vv a abd
    | op dy y gy=>simp only[lT,aaN] at a;exact a.1.1.1.1.1
   have f:okD n=true:=by rcases cV j with rfl | rfl;exact m;rfl
   rw[fj];refine⟨n,j,jE f r e h ?_⟩;intro F1 L1 v _ _ l c w;exact Aj p (fun z u=>b z (by simp[u])) l c w
  exact JG a r e h'
end
def Vb (A:dc):Op->Bool
 | .store _ (.tmp i) _=>eZ A.co (1000000+i)
 | .mapUpdate _ (.tmp i) _ _=>eZ A.co (1000000+i)
 | _=>false
def Bx (P:Program) (A:dc) (a:Array Oper) (i:Nat):Option ai :=
 match a[i]? with
 | none=>none
 | some o=>match gX a o.guard,gV P (A.owned o.dst) o.op,PW A.n o.dst with
  | some g,some s,true=>match A.isX o.dst with
   | true=>match g,s with
    | none,.call f l=>some (.pc o.dst (.call f l) none)
    | none,.callV f l=>some (.pc o.dst (.callV f l) none)
    | _,_=>none
   | false=>match A.isO o.dst||Vb A o.op with
    | true=>match wV s with
     | some s'=>some (.op o.dst s' g)
     | none=>none
    | false=>match uz A.fl A.bk A.bx s with
     | some s'=>match cI s'||gK s'||dU s'||o7 s'||iA s' with
      | true=>some (.op o.dst s' g)
      | false=>none
     | none=>none
  | _,_,_=>none
def eC (P:Program) (A:dc) (ops:Array Oper):List Nat->Option (List ai)
 | []=>some []
 | i::is=>match Bx P A ops i,eC P A ops is with
  | some s,some ss=>some (s::ss)
  | _,_=>none
def binding (e:Edge):Bool:=Region.binds .any e
def direct (ops:Array Oper) (i:Nat):List Nat :=
 match ops[i]? with
 | some o=>(o.after.toList.filter binding).map (·.on)
 | none=>[]
def Bz:List (List Nat)->Nat->List Nat
 | [],_=>[]
 | l::_,0=>l
 | _::a,n+1=>Bz a n
def BA (a:List (List Nat)) (x:Nat):List Nat->Bool
 | []=>false
 | z::zs=>match eZ (Bz a z) x with | true=>true | false=>BA a x zs
def BB (ops:Array Oper) (a:List (List Nat)) (y:Nat):Bool :=
 (direct ops y).all (fun z=>Nat.blt z y)&&(Bz a y).all (fun x=>eZ (direct ops y) x||BA a x (direct ops y))
def JH (ops:Array Oper) (a:List (List Nat)):Bool:=(List.range ops.size).all (BB ops a)
def ou (a:List (List Nat)):List (Nat×ai)->Bool
 | []=>true
 | (x,b)::l=>l.all (fun p=>lT b p.2||eZ (Bz a p.1) x)&&ou a l
def aP:List Nat->Bool
 | []=>true
 | x::l=>!eZ l x&&aP l
def Ez (P:Program) (ops:Array Oper) (is:List Nat) (a:List (List Nat)) (ss:List ai):Bool :=
 P.follows .mixedOrders&&JH ops a&&aP is&&Nat.beq is.length ops.size&&is.all (fun i=>Nat.blt i ops.size)&&(List.range ops.size).all (eZ is)&&ou a (is.zip ss)
theorem cJ:∀{l:List Nat},aP l=true->l.Nodup
 | [],_=>List.nodup_nil
 | x::l,h=>by
  simp only[aP,aaN,Bool.not_eq_true'] at h;refine List.nodup_cons.2 ⟨fun a=>?_,cJ h.2⟩;rw[cH.2 a] at h;cases h.1
theorem Ak {a:List (List Nat)}{x:Nat}:∀{l:List Nat},BA a x l=true->∃z,z∈l/\x∈Bz a z
 | [],h=>by cases h
 | z::zs,h=>by
  simp only[BA] at h;split at h
  ·rename_i c;exact⟨z,by simp,cH.1 c⟩
  ·obtain⟨b,h1,d⟩:=Ak h;exact⟨b,by simp[h1],d⟩
section
variable {P:Program}{K:di}{Q:Exit->Act->World->Prop}{ops:Array Oper}
theorem vq {j:List (List Nat)}(e:JH ops j=true) {done:Nat->Prop}(a:∀i,i<ops.size->done i->∀z∈direct ops i,done z):∀y,y<ops.size->(∀z∈direct ops y,done z)->∀x∈Bz j y,done x:=by
 intro y
 induction y using Nat.strongRecOn with
 | _ y m =>
  intro n k x o;have h:=aa1.1 e y (List.mem_range.2 n);simp only[BB,aaN] at h;have b:=aa1.1 h.2 x o;simp only[abp] at b;rcases b with b | b
  ·exact k x (cH.1 b)
  ·obtain⟨z,f,c⟩:=Ak b;have d:z<y:=by
    have l:Nat.blt z y=true:=aa1.1 h.1 z f;simpa using l
   exact m z d (by omega) (a z (by omega) (k z f)) x c
theorem pT {A:dc}:∀{is:List Nat}{ss:List ai},eC P A ops is=some ss->ss.length=is.length/\∀p q y,is=p++y::q->∃a c b,ss=a++c::b/\a.length=p.length/\Bx P A ops y=some c/\eC P A ops (p++q)=some (a++b)
 | [],ss,h=>by
  simp only[eC,aaO] at h;subst h;refine⟨rfl,fun p q y e=>?_⟩;cases p<;>cases e
 | i::is,ss,h=>by
  simp only[eC] at h;split at h
  case h_2=>cases h
  rename_i s d h1 f;injection h with h
  subst h;obtain⟨o,n⟩:=pT f;refine⟨by simp[o],fun p q y e=>?_⟩;cases p with
  | nil =>
   simp only[abr,List.cons.injEq] at e;obtain⟨rfl,rfl⟩:=e;exact⟨[],s,d,rfl,rfl,h1,by simpa using f⟩
  | cons x p =>
   simp only[aa4,List.cons.injEq] at e;obtain⟨rfl,rfl⟩:=e;obtain⟨a,c,b,k,m,j,l⟩:=n p q y rfl;refine⟨s::a,c,b,by simp[k],by simp[m],j,?_⟩;simp only[aa4,eC,h1,l]
theorem vu {d:List (List Nat)}:∀{p q:List (Nat×ai)}{y:Nat×ai},ou d (p++y::q)=true->ou d (p++q)=true/\∀x∈p,lT x.2 y.2=true\/x.1∈Bz d y.1
 | [],q,y,h=>by
  obtain⟨y1,y2⟩:=y;simp only[abr,ou,aaN] at h ⊢;exact⟨h.2,fun x b=>by cases b⟩
 | (k,l)::p,q,y,h=>by
  simp only[aa4,ou,aaN] at h ⊢;obtain⟨h1,f⟩:=h;obtain⟨e,j⟩:=vu f;have c:=aa1.1 h1;refine⟨⟨aa1.2 fun z a=>c z ?_,e⟩,fun x b=>?_⟩
  ·rcases aaX.1 a with a | a
   ·exact aaX.2 (.inl a)
   ·exact aaX.2 (.inr (abj _ a))
  ·rcases aaW.1 b with rfl | b
   ·have:=c y (aaX.2 (.inr (by simp)));simp only[abp] at this;rcases this with h | h
    ·exact .inl h
    ·exact .inr (cH.1 h)
   ·exact j x b
theorem aA.same {L L2:Loc}{ρ:Env}{a:Act}(h:aA L ρ a) (b:L.sameAs L2):aA L2 ρ a:=by
 have c:∀sv,conc L2 sv=conc L sv:=by
  intro sv;cases sv with
  | v x=>rfl
  | el a j=>rfl
  | own k off=>simp only[conc,b k]
 exact⟨fun j=>by rw[c];exact h.eq j,fun j k off e=>by rw[b k];exact h.own j k off e,h.el⟩
theorem Step.aaG {F F':au}{L L' L2:Loc}{w w':World}(h:Step F L w F' L' w') (a:L'.sameAs L2):Step F L w F' L2 w' :=
 ⟨h.le,h.os,h.tape,h.output,h.size,h.same,h.frz,fun b ⟨k,o,e,hb⟩=>h.own b ⟨k,o,by rw[<-a k];exact e,hb⟩⟩
theorem C2 {A:dc}{i:Nat}{s:ai}{m:List ai}{F:au}{L:Loc}{ρ:Env}{a:Act}{w:World}{KK:Act->World->Prop}(hi:i<ops.size) (c:Bx P A ops i=some s) (hs:St F L w) (he:aA L ρ a) (hn:a.tmps.size=A.n)
  (l:aQ P (s::m) F L ρ K)
  (hQ:∀a' w' F' L' ρ',St F' L' w'->aA L' ρ' a'->a'.tmps.size=A.n->a'.defers=a.defers->Step F L w F' L' w'->(∀j,((ops[i]?).bind (·.dst))≠some j->a'.tmps.getD j undef=a.tmps.getD j undef)->aQ P m F' L' ρ' K->KK a' w') :
  wpOp P ops Q i KK a w:=by
 unfold Bx at c;split at c
 case h_1=>cases c
 rename_i o al;split at c
 case h_2=>cases c
 rename_i g s0 y ac aa;split at c
 ·split at c
  ·injection c with c
   subst c;simp only[aQ] at l
  ·injection c with c
   subst c;simp only[aQ] at l
  ·cases c
 have aE:∃s',s=.op o.dst s' g/\((∀{F:au}{L:Loc}{ρ:Env}{K:di},evalOp P s' o.dst F L ρ K->evalOp P s0 o.dst F L ρ (fun F' L' ρ'=>Real F' L'->K F' L' ρ')) \/
   ∀{F:au}{L:Loc}{ρ:Env}{K:di},evalOp P s' o.dst F L ρ K->evalOp P s0 o.dst F L ρ (fun F' L' ρ'=>∃L2,L'.sameAs L2/\(Real F' L2->K F' L2 ρ'))):=by
  split at c
  ·split at c
   case h_2=>cases c
   rename_i s' z;injection c with c
   exact⟨s',c.symm,.inl fun h=>MC z h⟩
  ·split at c
   case h_2=>cases c
   rename_i s' z;split at c
   case h_2=>cases c
   rename_i ag;injection c with c
   cases am:gK s' with
   | true=>exact⟨s',c.symm,.inr fun h=>JD z am h⟩
   | false=>exact⟨s',c.symm,.inl fun h=>MI z ag am h⟩
 obtain⟨s',bc,u⟩:=aE;subst bc;have hd:∀k,o.dst=some k->k<a.tmps.size:=by
  intro k hk;rw[hk] at aa;rw[hn];have h2:Nat.blt k A.n=true:=aa;simpa using h2
 have be:(ops[i]?).bind (·.dst)=o.dst:=by rw[al];rfl
 rw[be] at hQ;simp only[wpOp,al];have t:evalOp P s' o.dst F L ρ (fun F' L' ρ'=>aQ P m F' L' ρ' K)->o.wp P a w KK Q:=by
  intro l;rcases u with u | u
  ·have h1:=u l;have:=fe (Q:=Q) hs he hd ac h1;refine Oper.wp_mono ?_ (pQ (asg:=[]) this);rintro a' w' ⟨⟨F',L',ρ',g1,g2,g3,g4,g5,g6⟩,ab⟩;exact hQ a' w' F' L' ρ' g1 g2 (by rw[g3,hn]) g4 g5 ab (g6 ⟨w',g1⟩)
  ·have h1:=u l;have:=fe (Q:=Q) hs he hd ac h1;refine Oper.wp_mono ?_ (pQ (asg:=[]) this);rintro a' w' ⟨⟨F',L',ρ',g1,g2,g3,g4,g5,L2,g6,g7⟩,ab⟩;have s1:St F' L2 w':=g1.part fun k o e=>by rw[<-g6 k];exact e
   exact hQ a' w' F' L2 ρ' s1 (g2.same g6) (by rw[g3,hn]) g4 (g5.aaG g6) ab (g7 ⟨w',s1⟩)
 have skip:aQ P m F L (put o.dst (.v undef) ρ) K->KK (a.put o.dst undef) w:=by
  intro l;exact hQ _ w F L _ hs (he.put hd (v:=undef) (x:=.v undef) rfl cq eJ (sQ L)) (by rw[jx,hn]) (gj _ _ _) (Step.refl _ _ _) (fun j hj=>jZ hj) l
 cases r:o.guard with
 | none =>
  rw[r] at y;simp only[gX,aaO] at y;subst y;simp only[aQ] at l;rw[o5 (by simp[Region.wanted,r])];exact .inl (t l)
 | some p =>
  obtain⟨j,q⟩:=p;rw[r] at y;simp only[gX] at y;split at y
  case h_2=>cases y
  rename_i d ae;injection y with y
  subst y;simp only[aQ] at l;split at l
  ·rename_i b hb;have f:=he.eq d;rw[hb] at f;have hy:yielded ops a.tmps j=some b:=by
    simp only[yielded,ae,Option.bind_some,qJ f]
   have hw:Region.wanted o (yielded ops a.tmps)=(b == q):=by
    simp only[Region.wanted,r,hy];cases b<;>cases q<;>rfl
   rw[hw];cases b<;>simp only[zq] at l
   ·rw[kG hb] at l;cases q
    ·exact .inl (t l)
    ·exact skip l
   ·rw[kG hb] at l;cases q
    ·exact skip l
    ·exact .inl (t l)
  ·rename_i vs hb;have f:=he.eq d;rw[hb] at f;have hy:yielded ops a.tmps j=none:=by
    simp only[yielded,ae,Option.bind_some];rw[aa8] at f;cases e:a.tmps[d]? with
    | none=>rfl
    | some v=>rw[e] at f;simp only[Option.getD_some,conc] at f;rw[f]
   have hw:Region.wanted o (yielded ops a.tmps)=false:=by
    simp only[Region.wanted,r,hy];rfl
   rw[hw];exact skip l
  ·exact l.elim
theorem aA.vd {L:Loc}{ρ:Env}{a:Act}(he:aA L ρ a):Vd L ρ:=by
 intro t k off e;exact he.own t k off e
theorem sZ {l:Array Bool}{z:Nat}(h:z<l.size) (b c:Bool):l.getD z b=l.getD z c:=by
 simp[aa8,h]
theorem min_mem:∀{l:List Nat},l≠[]->∃y,y∈l/\∀z∈l,y<=z
 | [],h=>vv rfl h
 | [x],_=>⟨x,by simp,fun z a=>by simp at a;omega⟩
 | x::c::l,_=>by
  obtain⟨y,h1,b⟩:=min_mem (l:=c::l) (by simp)
  by_cases h:x<=y
  ·exact⟨x,by simp,fun z a=>by
    rcases aaW.1 a with rfl | a
    ·exact aa3 _
    ·exact abx h (b z a)⟩
  ·exact⟨y,abj _ h1,fun z a=>by
    rcases aaW.1 a with rfl | a
    ·omega
    ·exact b z a⟩
theorem oC {i z:Nat}{o:Oper}(c:ops[i]?=some o):z∈direct ops i↔∃e∈o.after,Region.binds .any e=true/\e.on=z:=by
 simp only[direct,c,abt,List.mem_filter,Array.mem_toList_iff,binding];constructor
 ·rintro⟨e,⟨h1,b⟩,a⟩;exact⟨e,h1,b,a⟩
 ·rintro⟨e,h1,b,a⟩;exact⟨e,⟨h1,b⟩,a⟩
theorem HA {A:dc}{cl:List (List Nat)}(bi:JH ops cl=true):∀(m:Nat) (l:List Nat) (ss:List ai) (b:Array Bool) (F:au) (L:Loc) (ρ:Env) (a:Act) (w:World),
  eC P A ops l=some ss->b.size=ops.size->l.Nodup->(∀i,i∈l↔i<ops.size/\b.getD i true=false)->l.length<=m->ou cl (l.zip ss)=true ->
  (∀i,i<ops.size->b.getD i true=true->∀z∈direct ops i,b.getD z true=true) ->
  St F L w->aA L ρ a->a.tmps.size=A.n->aQ P ss F L ρ K ->
  (∀a' w',dZ A.n F L w a (dstsOf ops (List.range ops.size)) K a' w'->Q .normal a' w')->wpAny P .any ops Q m b a w:=by
 have r:∀y z,y<ops.size->z∈direct ops y->z<y:=by
  intro y z hy t;have h:=aa1.1 bi y (List.mem_range.2 hy);simp only[BB,aaN] at h;have h3:Nat.blt z y=true:=aa1.1 h.1 z t;simpa using h3
 intro m
 induction m with
 | zero =>
  intro l ss b F L ρ a w hl an bj c ad hp d hs he hn hK hQ;have:l=[]:=abu (by omega);subst this;simp only[eC,aaO] at hl;subst hl;refine⟨?_,hQ a w ⟨F,L,ρ,hs,he,hn,rfl,Step.refl _ _ _,fun _ _=>rfl,hK⟩⟩;apply List.eq_nil_iff_forall_not_mem.2;intro i hi;rw[mem_ready] at hi;obtain⟨h1,o,h2,_⟩:=hi;have:=(c i).2 ⟨(Array.getElem?_eq_some_iff.1 h2).1,h1⟩;cases this
 | succ m ih =>
  intro l ss b F L ρ a w hl an bj c ad hp d hs he hn hK hQ;refine⟨fun hr=>?_,fun y hy=>?_⟩
  ·have:l=[]:=by
    refine Classical.byContradiction fun s=>?_;obtain⟨y,h1,h2⟩:=min_mem s;obtain⟨h3,h4⟩:=(c y).1 h1;have ae:y∈Region.ready .any ops b:=by
     rw[mem_ready];refine⟨h4,ops[y],Array.getElem?_eq_getElem h3,fun e ar am=>?_⟩;have t:e.on∈direct ops y:=(oC (Array.getElem?_eq_getElem h3)).2 ⟨e,ar,am,rfl⟩;have bv:=r y e.on h3 t;rw[sZ (by omega) false true];cases hd:b.getD e.on true with
     | true=>rfl
     | false =>
      have:=h2 e.on ((c e.on).2 ⟨by omega,hd⟩);omega
    rw[hr] at ae;cases ae
   subst this;simp only[eC,aaO] at hl;subst hl;exact hQ a w ⟨F,L,ρ,hs,he,hn,rfl,Step.refl _ _ _,fun _ _=>rfl,hK⟩
  ·rw[mem_ready] at hy;obtain⟨h1,o,ho,ao⟩:=hy;have f:=(Array.getElem?_eq_some_iff.1 ho).1;have al:=(c y).2 ⟨f,h1⟩;obtain⟨p,q,rfl⟩:=List.append_of_mem al;obtain⟨dk,bb⟩:=pT hl;obtain⟨sp,sy,sq,rfl,v,ce,bu⟩:=bb p q y rfl;have aE:(p++y::q).zip (sp++sy::sq)=p.zip sp++(y,sy)::q.zip sq:=by
    rw[List.zip_append v.symm];rfl
   rw[aE] at hp;obtain⟨cb,bt⟩:=vu hp;have ag:∀z∈direct ops y,b.getD z true=true:=by
    intro z t;have bv:=r y z f t;obtain⟨e,ar,am,rfl⟩:=(oC ho).1 t;rw[sZ (by omega) true false];exact ao e ar am
   have u:∀sx∈sp,lT sx sy=true:=by
    intro sx cd;obtain⟨k,hk⟩:=List.getElem?_of_mem cd;have cy:=(aaU.1 hk).1;have bd:p[k]?=some (p[k]'(by omega)):=aaQ (by omega);have hm:(p[k]'(by omega),sx)∈p.zip sp:=aaZ (i:=k) (by rw[List.getElem?_zip_eq_some];exact⟨bd,hk⟩);rcases bt _ hm with h | h
    ·exact h
    ·exfalso;have hd:=vq bi (done:=fun z=>b.getD z true=true) d y f ag _ h;have bs:p[k]'(by omega)∈p++y::q:=aaX.2 (.inl (aaZ bd));have:=((c _).1 bs).2;simp only at hd;rw[hd] at this;cases this
   have ci:=Aj sp u ⟨w,hs⟩ he.vd hK;refine C2 f ce hs he hn ci ?_;intro a' w' F' L' ρ' g1 g2 g3 g4 g5 g6 g7;have aa:(p++q).Nodup/\y∉p++q:=by
    have:=(List.perm_middle.nodup_iff).1 bj;rw[List.nodup_cons] at this;exact⟨this.2,this.1⟩
   have ab:∀i,(b.setIfInBounds y true).getD i true=if i=y then true else b.getD i true:=by
    intro i;simp only[aa8,Array.getElem?_setIfInBounds]
    by_cases hi:y=i
    ·subst hi;rw[o5 rfl,o5 rfl];simp[an,f]
    ·rw[q9 hi,q9 (fun h=>hi h.symm)]
   refine ih (p++q) (sp++sq) _ F' L' ρ' a' w' bu (by simp[an]) aa.1 (fun i=>?_) (by simp at ad ⊢;omega) ?_ ?_ g1 g2 g3 g7 ?_
   ·rw[ab];have h0:=c i;constructor
    ·intro hi;have s:i≠y:=fun e=>aa.2 (e▸hi);rw[q9 s];refine h0.1 ?_;rcases aaX.1 hi with h | h
     ·exact aaX.2 (.inl h)
     ·exact aaX.2 (.inr (abj _ h))
    ·rintro⟨bz,av⟩;split at av
     ·cases av
     ·rename_i s;have:=h0.2 ⟨bz,av⟩;rcases aaX.1 this with h | h
      ·exact aaX.2 (.inl h)
      ·rcases aaW.1 h with h | h
       ·exact vv h s
       ·exact aaX.2 (.inr h)
   ·rw[List.zip_append v.symm];exact cb
   ·intro i hi hd z t;rw[ab] at hd ⊢;split
    ·rfl
    ·split at hd
     ·rename_i h;subst h;exact ag z t
     ·exact d i hi hd z t
   ·rintro cc cf ⟨F'',L'',ba,k1,k2,k3,k4,k5,k6,k7⟩;refine hQ cc cf ⟨F'',L'',ba,k1,k2,k3,k4.trans g4,g5.trans k5,fun j hj=>?_,k7⟩;rw[k6 j hj,g6 j];intro e;apply hj;have:∀(is:List Nat),y∈is->j∈dstsOf ops is:=by
     intro is
     induction is with
     | nil=>intro h;cases h
     | cons x is bk =>
      intro h;simp only[dstsOf];rcases aaW.1 h with rfl | h
      ·rw[e];simp
      ·split
       ·exact abj _ (bk h)
       ·exact bk h
    exact this _ (List.mem_range.2 f)
theorem xg {A:dc}{r:Nat}{is:List Nat}{o:List (List Nat)}{ss:List ai}{F:au}{L:Loc}{ρ:Env}{a:Act}{w:World}(hl:eC P A ops is=some ss) (f:Ez P ops is o ss=true)
  (k:St F L w) (he:aA L ρ a) (q:a.tmps.size=A.n) (p:aQ P ss F L ρ K) (l:∀a' w',dZ A.n F L w a (dstsOf ops (List.range ops.size)) K a' w'->Q .normal a' w') :
  (Code.region r ops true).wp P Q a w:=by
 simp only[Ez,aaN] at f;obtain⟨⟨⟨⟨⟨⟨h1,x⟩,d⟩,j⟩,u⟩,y⟩,v⟩:=f;have d:=cJ d;have j:=aaR j;have c:∀i∈is,i<ops.size:=fun i hi=>by
  have h:Nat.blt i ops.size=true:=aa1.1 u i hi;simpa using h
 refine wp_region_any h1 ?_;show wpAny P .any ops Q ops.size (Array.replicate ops.size false) a w.drew;refine HA x ops.size is ss _ F L ρ a w.drew hl (by simp) d (fun i=>?_) (by omega) v ?_ k.drew he q p ?_
 ·constructor
  ·intro hi;refine⟨c i hi,?_⟩;simp[aa8,c i hi]
  ·rintro⟨hi,_⟩;exact cH.1 (aa1.1 y i (List.mem_range.2 hi))
 ·intro i hi e;simp[aa8,hi] at e
 ·rintro a' w' ⟨F',L',ρ',z,t,s,g4,b,m,g7⟩;refine l a' w' ⟨F',L',ρ',z,t,s,g4,?_,m,g7⟩;exact⟨b.le,b.os,b.tape,b.output,b.size,b.same,b.frz,b.own⟩
end
def kz (L L':Loc):Prop:=∀k g t cs,L.get k=some (.box g t cs)->∃cs',L'.get k=some (.box g t cs')
def xh (ks:List Nat) (L L':Loc):Prop:=∀k g t cs,L.get k=some (.box g t cs)->∃cs',L'.get k=some (.box g t cs')/\(k∉ks->cs'=cs)
structure fG (P:Program) (PX:au->Loc->Value->Prop) (f:Nat) (args:List Value) (F:au) (L:Loc) (K:au->Loc->Value->Prop):Prop where
 out:∃(ks ko:List Nat) (Lin:List Own) (R:au->List Own->Value->Prop) (Pp:au->List Own->Value->Prop),L.sub ks=some Lin/\ks.Nodup/\ko.Nodup/\(∀k,k∈ko->k∈ks\/L.get k=none)/\wg P f args.toArray F Lin R Pp /\
  (∀v F' Lo,F.le F'->ks.length=Lo.length->xh ks L ((L.aae ks).puts ks Lo)->Pp F' Lo v->PX F' ((L.aae ks).puts ks Lo) v) /\
  ∀v F' Lo,F.le F'->R F' Lo v->ko.length=Lo.length /\
   (∀k g t cs,k∈ks->L.get k=some (.box g t cs)->∃cs',Loc.get ((L.aae ks).puts ko Lo) k=some (.box g t cs')) /\
   K F' ((L.aae ks).puts ko Lo) v
section
variable {P:Program}{F:au}{L:Loc}{ρ:Env}{a:Act}{w:World}{K:di}{o:Oper}{Q:Exit->Act->World->Prop}
theorem fG.imp {PX:au->Loc->Value->Prop}{f:Nat}{args:List Value}{K K':au->Loc->Value->Prop}(h:fG P PX f args F L K) (j:∀F' L' v,K F' L' v->K' F' L' v):fG P PX f args F L K':=by
 obtain⟨ks,ko,l,R,Pp,h1,n,e,r,k,m,p⟩:=h;exact⟨ks,ko,l,R,Pp,h1,n,e,r,k,m,fun v F' Lo d q=>let⟨a,b,c⟩:=p v F' Lo d q;⟨a,b,j _ _ _ c⟩⟩
theorem C3 {PX:au->Loc->Value->Prop}{f:Nat}{args:List Value}(hs:St F L w) (he:aA L ρ a) (hd:∀k,o.dst=some k->k<a.tmps.size)
  (hrun:(∃fn,P.funcs[f]?=some fn/\fn.body.isSome=true/\(fn.name == "runtime.NumGoroutine")=false)->(execOp a.eval o).run P w=.ok (.enter f args.toArray) w)
  (hK:fG P PX f args F L fun F' L' v=>K F' L' (put o.dst (.v v) ρ))
  (hQ:∀v ch w' F' L',rK v ch->St F' L' w'->Step F L w F' L' w'->PX F' L' v->Q (.panic ch) a w'):o.wp P a w (bD F L w a K) Q:=by
 obtain⟨ks,ko,l,R,Pp,hsub,hn,hno,hko,hc,hPX,hK⟩:=hK;unfold Oper.wp;rw[hrun hc.ent];rw[Oper.upon_enter];refine(hc.run w (hs.handed hsub hn)).mono ?_;rintro e w' (⟨v,F',lo,rfl,hs',hst,hR⟩ | ⟨v,ch,F',lo,rfl,hch,hs',hst,hlo,hbx,hp⟩)
 ·obtain⟨hlen,hbox,hK⟩:=hK v F' lo hst.le hR;obtain⟨h1,h2⟩:=fN hs hsub hn hno hko hs' hst hlen;refine⟨F',_,_,h1,he.put hd (x:=.v v) rfl cq eJ ?_,jx _ _ _,gj _ _ _,h2,hK⟩;intro k g ty cs e
  by_cases hk:k∈ks
  ·exact hbox k g ty cs hk e
  ·rcases cL ko lo (L.aae ks) k hno hlen with⟨h1,h2⟩ | ⟨i,h1,h2,h3⟩
   ·rw[h1,eO,q9 hk];exact⟨cs,e⟩
   ·rcases hko k (aaZ h1) with h | h
    ·exact vv h hk
    ·rw[h] at e;cases e
 ·obtain⟨hl,hg⟩:=ct hsub;have hlen:ks.length=lo.length:=by rw[hlo,hl]
  obtain⟨h1,h2⟩:=fN hs hsub hn hn (fun k hk=>.inl hk) hs' hst hlen;refine hQ v ch w' F' _ hch h1 h2 (hPX v _ _ hst.le hlen ?_ hp);intro k g t cs e;rcases cL ks lo (L.aae ks) k hn hlen with⟨q1,q2⟩ | ⟨i,q1,q2,q3⟩
  ·rw[q1,eO,q9 q2];exact⟨cs,e,fun _=>rfl⟩
  ·rw[q2];have:=hg i k q1;rw[e] at this;obtain⟨cs',h⟩:=hbx i g t cs this.symm;exact⟨cs',h,fun h=>vv (aaZ q1) h⟩
end
section
variable {P:Program}
theorem nC {y:Operand}{s:dN}(h:zX y=some s):∃g,s=.gload g:=by
 cases y with
 | global g =>
  simp only[zX] at h;split at h
  ·injection h with h;exact⟨_,h.symm⟩
  ·cases h
 | tmp n=>cases h
 | const v=>cases h
 | func f=>cases h
theorem JI {own:Bool}{op:Op}{f:Nat}{args:List X}(b:gV P own op=some (.call f args)):∃c,op=.call c/\c.callee=.value (.func f)/\ga c.args.toList=some args:=by
 cases op
 case call c =>
  simp only[gV] at b;split at b
  case h_1=>cases b
  rename_i e d;split at b
  ·rename_i f' j;split at b
   case h_2=>cases b
   split at b
   case h_2=>cases b
   injection b with b
   injection b with e1 e2
   subst e1 e2;exact⟨c,rfl,j,d⟩
  all_goals (exfalso;revert b;repeat' split)<;>simp
 all_goals (exfalso;revert b;simp only[gV];repeat' split)<;>first | contradiction | (intro h;obtain⟨k,h⟩:=nC h;cases h;done) | (simp;done) | (rename_i h0;obtain⟨k,rfl⟩:=nC h0;simp)
theorem HC {own:Bool}{op:Op}{x:X}{args:List X}(b:gV P own op=some (.callV x args)):∃c,op=.call c/\ga c.args.toList=some args/\((∃y,c.callee=.value y/\bI y=some x)\/∃n j,x=.mt j n):=by
 cases op
 case call c =>
  simp only[gV] at b;split at b
  case h_1=>cases b
  rename_i e d;split at b
  ·exfalso;revert b;(repeat' split)<;>simp
  ·rename_i y _ f;split at b
   case h_2=>cases b
   rename_i h1;injection b with b
   injection b with e1 e2
   subst e1 e2;exact⟨c,rfl,d,.inl ⟨y,f,h1⟩⟩
  ·rename_i n j f;injection b with b
   injection b with e1 e2
   subst e1 e2;exact⟨c,rfl,d,.inr ⟨_,_,rfl⟩⟩
  all_goals (exfalso;revert b;repeat' split)<;>simp
 all_goals (exfalso;revert b;simp only[gV];repeat' split)<;>first | contradiction | (intro h;obtain⟨k,h⟩:=nC h;cases h;done) | (simp;done) | (rename_i h0;obtain⟨k,rfl⟩:=nC h0;simp)
theorem MJ {own:Bool}{op:Op}{x:X}(b:gV P own op=some (.pan x)):∃y,op=.panic y/\bI y=some x:=by
 cases op
 case panic y =>
  simp only[gV] at b;split at b
  case h_2=>cases b
  rename_i h1;injection b with b
  injection b with e1
  subst e1;exact⟨y,rfl,h1⟩
 all_goals (exfalso;revert b;simp only[gV];repeat' split)<;>first | contradiction | (intro h;obtain⟨k,h⟩:=nC h;cases h;done) | (simp;done) | (rename_i h0;obtain⟨k,rfl⟩:=nC h0;simp)
end
section
variable {P:Program}{F:au}{L:Loc}{ρ:Env}{a:Act}{w:World}{K:di}{o:Oper}{Q:Exit->Act->World->Prop}
theorem vw {PX:au->Loc->Value->Prop}{own:Bool}{f:Nat}{args:List X}(j:St F L w) (he:aA L ρ a) (s:∀k,o.dst=some k->k<a.tmps.size) (r:gV P own o.op=some (.call f args))
  (m:fG P PX f (bn L ρ args) F L fun F' L' v=>K F' L' (put o.dst (.v v) ρ))
  (l:∀v h w' F' L',rK v h->St F' L' w'->Step F L w F' L' w'->PX F' L' v->Q (.panic h) a w'):o.wp P a w (bD F L w a K) Q:=by
 refine C3 j he s (fun d=>?_) m l;obtain⟨c,q,p,n⟩:=JI r;have e:=gh n he;have b:c.args.map a.eval=(bn L ρ args).toArray:=by apply Array.ext';simpa using e
 simp[execOp,q,resolve,p,Deferred.ofValue,Act.eval,invoke,b,iz d]
theorem s5 {PX:au->Loc->Value->Prop}{own:Bool}{f:Nat}{x:X}{j h:Array Value}{args:List X}(q:St F L w) (he:aA L ρ a) (hd:∀k,o.dst=some k->k<a.tmps.size) (hl:gV P own o.op=some (.callV x args)) (p:ev ρ x=.v (.func (.func f) j h))
  (t:fG P PX f (j.toList++bn L ρ args++h.toList) F L fun F' L' v=>K F' L' (put o.dst (.v v) ρ))
  (r:∀v m w' F' L',rK v m->St F' L' w'->Step F L w F' L' w'->PX F' L' v->Q (.panic m) a w'):o.wp P a w (bD F L w a K) Q:=by
 refine C3 q he hd (fun d=>?_) t r;obtain⟨c,ho,u,⟨y,z,s⟩ | ⟨n,nm,rfl⟩⟩:=HC hl
 rotate_left
 ·exfalso
  revert p
  simp only[ev];cases ρ n<;>simp[SE,undef]
 have ey:=aD s he;have l:=gh u he;have b:c.args.map a.eval=(bn L ρ args).toArray:=by apply Array.ext';simpa using l
 have e:j++((bn L ρ args).toArray++h)=(j.toList++(bn L ρ args++h.toList)).toArray:=by apply Array.ext';simp
 simp[execOp,ho,resolve,z,Deferred.ofValue,ey,cG p,invoke,b];rw[iz d,e]
theorem HE {PX:au->Loc->Value->Prop}{own:Bool}{x:X}(d:St F L w) (he:aA L ρ a) (m:gV P own o.op=some (.pan x)) {t:TypeId}{u:Value}(k:val L ρ x=.iface t u) (h:PX F L (.iface t u))
  (e:∀v c w' F' L',rK v c->St F' L' w'->Step F L w F' L' w'->PX F' L' v->Q (.panic c) a w'):o.wp P a w (bD F L w a K) Q:=by
 obtain⟨y,j,f⟩:=MJ m;have l:=aD f he;unfold Oper.wp;have b:(execOp a.eval o).run P w=.halt (.panic (.iface t u)) w:=by
  simp[execOp,j,l,k,Instr.panic,goPanic]
 rw[b];exact e _ _ w F L (rK.one _) d (Step.refl _ _ _) h
end
structure kH (P:Program) (PX:au->Loc->Value->Prop) (fb:List Nat) (f:Nat) (args:List Value) (F:au) (L:Loc) (K:au->Loc->Value->Prop):Prop where
 out:∃(ks:List Nat) (Lin:List Own) (R:au->List Own->Value->Prop) (Pp:au->List Own->Value->Prop),L.sub ks=some Lin/\ks.Nodup/\(∀k∈ks,k∉fb)/\wg P f args.toArray F Lin R Pp /\
  (∀v F' L' Lo,F.le F'->L'.sub ks=some Lo->xh ks L L'->Pp F' Lo v->PX F' L' v) /\
  ∀v F' Lo,F.le F'->R F' Lo v->ks.length=Lo.length/\(∀(i:Nat) g t cs,Lin[i]?=some (.box g t cs)->∃cs',Lo[i]?=some (.box g t cs')) /\
   (Real F' (L.puts ks Lo)->K F' (L.puts ks Lo) v)
def rT (P:Program) (L:Loc) (ρ:Env):dN->Option (Nat×List Value)
 | .call f args=>some (f,bn L ρ args)
 | .callV f args=>match ev ρ f with
  | .v (.func (.func f) a b)=>some (f,a.toList++bn L ρ args++b.toList)
  | _=>none
 | _=>none
def BD:dN->List Nat
 | .call _ args=>cj args
 | .callV f args=>cj (f::args)
 | _=>[]
def EA:dN->Bool
 | .call _ _=>true
 | .callV _ _=>true
 | _=>false
def aY (P:Program) (PX:au->Loc->Value->Prop) (fb:List Nat):List ai->au->Loc->Env->di->Prop
 | [],F,L,ρ,K=>K F L ρ
 | .op d o g::a,F,L,ρ,K=>∃o',res g ρ o=some o'/\evalOp P o' d F L ρ fun F' L' ρ'=>aY P PX fb a F' L' ρ' K
 | .frz _::_,_,_,_,_=>False
 | .pc d o g::a,F,L,ρ,K=>match rT P L ρ o,g with
  | some (f,b),none=>kH P PX fb f b F L fun F' L' v=>aY P PX fb a F' L' (put d (.v v) ρ) K
  | _,_=>False
def JJ:dN->Bool
 | .loadF _ _ _=>true
 | .gload _=>true
 | _=>false
def PZ:dN->Bool
 | .mkfn _ _ _=>true
 | _=>false
def Sz (o:dN):Bool:=CW o||JJ o||PZ o
def SJ (fb:List Nat):dN->Bool
 | .loadK key _ _ _=>eZ fb key
 | _=>false
theorem lU {fb:List Nat}{o:dN}(h:(Sz o||SJ fb o)=true):cI o=true:=by cases o<;>first | rfl | (exact vv h (by decide)) | (simp[Sz,SJ,CW,JJ,PZ] at h)
def xj:ai->Option Nat
 | .op d (.allocD _ _) none=>d
 | _=>none
def zC:ai->Option Nat
 | .op d _ _=>d
 | .frz _=>none
 | .pc d _ _=>d
def jc (fb:List Nat):ai->ai->Bool
 | .op a x c,.op b y d=>lT (.op a x c) (.op b y d)
 | .op a x c,.pc b y none=>EA y&&(Sz x||SJ fb x)&&rS a (BD y)&&rS b (looks x c)&&C0 a b
 | .pc a x none,.op (some k) (.allocD _ _) none=>EA x&&rS (some k) (BD x)&&C0 a (some k)
 | _,_=>false
def SK:ai->Bool
 | .op _ o _=>okD o
 | .pc _ o none=>EA o
 | _=>false
section
variable {P:Program}{PX:au->Loc->Value->Prop}{fb:List Nat}{F F':au}{L L':Loc}{ρ:Env}{K K':di}
theorem HF {sv:SV}(hb:kz L L') (c:∀k off,sv=.own k off->∃g t cs,L.get k=some (.box g t cs)):conc L' sv=conc L sv:=by
 cases sv with
 | v x=>rfl
 | el a j=>rfl
 | own k off =>
  obtain⟨g,t,cs,e⟩:=c k off rfl;obtain⟨cs',b⟩:=hb k g t cs e;simp only[conc,e,b]
theorem JK (hb:kz L L') (a:Vd L ρ) (x:X):val L' ρ x=val L ρ x:=HF hb fun k off e=>a.ev e
theorem rU (hb:kz L L') (a:Vd L ρ) (xs:List X):bn L' ρ xs=bn L ρ xs:=cU fun x _=>JK hb a x
theorem xk {d:Option Nat}{v:SV}{xs:List X}(h:∀k,d=some k->k∉cj xs):bn L (put d v ρ) xs=bn L ρ xs:=cU fun x a=>by simp only[val,fA h x a]
theorem MK {o:dN}(h:(Sz o||SJ fb o)=true) (f:∀j∈fb,L'.get j=L.get j) (c:F.le F') (hb:kz L L') (d:Vd L ρ) {V:SV->Prop}(a:aH o F L ρ V):aH o F' L' ρ V:=by
 simp only[Sz,abp] at h;rcases h with((h | h) | h) | h
 rotate_right
 ·cases o<;>first | (cases h;done) | skip
  rename_i key q n x;have l:=f key (cH.1 h);simp only[aH] at a ⊢;split at a
  ·rename_i k off e;split at a
   ·rename_i b;have b:=aaR b;subst b;rw[l];exact a
   ·exact a.elim
  ·exact a.elim
 ·exact Af h a
 ·cases o<;>first | (cases h;done) | skip
  ·simp only[aH] at a ⊢;obtain⟨u,t,p,h1,m⟩:=a;exact⟨u,t,p,c _ _ h1,m⟩
  ·simp only[aH] at a ⊢;split at a
   ·exact a.up c
   ·exact a.up c
   ·exact a.elim
 ·cases o<;>first | (cases h;done) | skip
  simp only[aH,rU hb d] at a ⊢;exact a
theorem kz.vd (hb:kz L L') (a:Vd L ρ):Vd L' ρ:=fun t k off e=>let⟨g,ty,cs,h⟩:=a t k off e;let⟨cs',h'⟩:=hb k g ty cs h;⟨g,ty,cs',h'⟩
theorem Vd.aaK (a:Vd L ρ) (d:Option Nat) (v:Value):Vd L (put d (.v v) ρ):=by
 intro t k off e;rw[put_eq] at e;cases d with
 | none=>exact a t k off e
 | some j =>
  simp only[] at e;split at e
  ·cases e
  ·exact a t k off e
theorem uF {ks:List Nat}{Lin Lo:List Own}(d:L.sub ks=some Lin) (f:ks.Nodup) (a:ks.length=Lo.length) (h:∀(i:Nat) g t cs,Lin[i]?=some (.box g t cs)->∃cs',Lo[i]?=some (.box g t cs')) :
  kz L (L.puts ks Lo)/\(∀j,L.get j=none->(L.puts ks Lo).get j=none)/\∀j,j∉ks->(L.puts ks Lo).get j=L.get j:=by
 obtain⟨p,m⟩:=ct d;refine⟨fun k g t cs e=>?_,fun j e=>?_,fun j n=>?_⟩
 ·rcases cL ks Lo L k f a with⟨b,c⟩ | ⟨i,b,c,l⟩
  ·rw[b];exact⟨cs,e⟩
  ·rw[c];have:=m i k b;rw[e] at this;exact h i g t cs this.symm
 ·rcases cL ks Lo L j f a with⟨b,c⟩ | ⟨i,b,c,l⟩
  ·rw[b];exact e
  ·have:=m i j b;rw[e] at this;have o:=abA.1 this.symm;omega
 ·rcases cL ks Lo L j f a with⟨b,c⟩ | ⟨i,b,c,l⟩
  ·exact b
  ·exact vv (aaZ b) n
theorem kH.imp {f:Nat}{args:List Value}{K K':au->Loc->Value->Prop}(h:kH P PX fb f args F L K)
  (o:∀F' L' v,F.le F'->kz L L'->(∀j,L.get j=none->L'.get j=none)->(∀j∈fb,L'.get j=L.get j)->Real F' L'->K F' L' v->K' F' L' v):kH P PX fb f args F L K':=by
 obtain⟨ks,l,R,Pp,h1,k,h0,n,t,q⟩:=h;refine⟨ks,l,R,Pp,h1,k,h0,n,t,fun v F' Lo d s=>?_⟩;obtain⟨a,b,c⟩:=q v F' Lo d s;obtain⟨k1,r,p⟩:=uF h1 k a b;exact⟨a,b,fun e=>o _ _ _ d k1 r (fun j m=>p j fun h=>h0 j h m) e (c e)⟩
theorem iV {d:Option Nat}{o:dN}{g:Option (Nat×Bool)}{a:List ai} :
  aY P PX fb (.op d o g::a) F L ρ K↔∃o',res g ρ o=some o'/\evalOp P o' d F L ρ (fun F1 L1 b=>aY P PX fb a F1 L1 b K):=Iff.rfl
theorem rD:∀(ks:List Nat) (Lo:List Own) (L:Loc) {k:Nat}{o:Own},k∉ks->(L.set k o).puts ks Lo=(L.puts ks Lo).set k o
 | [],Lo,L,k,o,_=>by cases Lo<;>rfl
 | j::ks,[],L,k,o,_=>rfl
 | j::ks,p::Lo,L,k,o,h=>by
  simp only[Loc.puts];rw[set_comm L o p (fun e=>h (by simp[e])),rD ks Lo (L.set j p) (fun a=>h (by simp[a]))]
theorem FO:∀{ks:List Nat}{L:Loc}{k:Nat}{o:Own},k∉ks->(L.set k o).sub ks=L.sub ks
 | [],L,k,o,_=>rfl
 | j::ks,L,k,o,h=>by
  simp only[Loc.sub];rw[bT (fun e=>h (by simp[e])),FO (fun a=>h (by simp[a]))]
theorem QU {s t:Option Nat}{x y:dN}{gx gy:Option (Nat×Bool)}{b:List ai}(hp:lT (.op s x gx) (.op t y gy)=true) (hr:Real F L) (r:Vd L ρ) (h:aY P PX fb (.op s x gx::.op t y gy::b) F L ρ K):aY P PX fb (.op t y gy::.op s x gx::b) F L ρ K:=by
  simp only[lT,aaN] at hp;obtain⟨⟨⟨⟨⟨ag,d⟩,hc⟩,h1⟩,h2⟩,w⟩:=hp;have h1:=j3 h1;have h2:=j3 h2;have w:=nA w;have av:∀k,t=some k->s≠some k:=fun k e e'=>w k e' e;rw[iV] at h;obtain⟨z,q,h⟩:=h;have f:okD gZ=true:=rfl;have n:okD z=true:=by rcases cV q with rfl | rfl;exact ag;exact f
  have hy:∃m,res gy ρ y=some m:=by
   obtain⟨v,F1,L1,c⟩:=vp n hr h;rw[iV] at c;obtain⟨m,a,_⟩:=c;rw[oq h1] at a;exact⟨m,a⟩
  obtain⟨m,a⟩:=hy;have aa:okD m=true:=by rcases cV a with rfl | rfl;exact d;exact f
  have hA:evalOp P z s F L ρ (fun F1 L1 l=>evalOp P m t F1 L1 l (fun F2 L2 o=>aY P PX fb b F2 L2 o K)):=by
   refine jE n hr r h ?_;rintro F1 L1 l ⟨v,rfl⟩ _ _ _ c;rw[iV] at c;obtain⟨an,j,c⟩:=c;rw[oq h1,a] at j;injection j with j
   subst j;exact c
  have lx:∀k,t=some k->k∉cj (bw z):=by
   intro k e c;rcases cV q with rfl | rfl
   ·exact h2 k e (nB c)
   ·simp[gZ,bw,cj] at c
  have ly:∀k,s=some k->k∉cj (bw m):=by
   intro k e c;rcases cV a with rfl | rfl
   ·exact h1 k e (nB c)
   ·simp[gZ,bw,cj] at c
  have hB:evalOp P m t F L ρ (fun F1 L1 l=>evalOp P z s F1 L1 l (fun F2 L2 o=>aY P PX fb b F2 L2 o K)):=by
   by_cases p:m=gZ
   ·subst p;simp only[gZ,evalOp,aH,ev];exact wZ (K:=fun F2 L2 o=>aY P PX fb b F2 L2 o K) (u:=.v undef) n lx w hA
   ·have ey:m=y:=by rcases cV a with h | h;exact h;exact vv h p
    subst ey;refine JF hr ?_ ly lx w r hA;rcases cV q with rfl | rfl
    ·exact hc
    ·simp only[okD,abp] at d;rcases d with d | d
     ·simp only[w9,d,ab5,abp];exact .inl (.inl (.inl (.inl (.inl rfl))))
     ·simp only[w9,d,ab5,abp];exact .inl (.inr rfl)
  rw[iV];refine⟨m,a,jE aa hr r hB ?_⟩;rintro F1 L1 l ⟨v,rfl⟩ _ _ _ c;rw[iV];exact⟨z,by rw[oq h2];exact q,c⟩
theorem EB {f:X}{args:List X}{k:Nat}(h:k∈cj args):k∈cj (f::args):=by
 cases f<;>simp[cj,h]
theorem C4 {d:Option Nat}{v:SV}{o:dN}(h:∀k,d=some k->k∉BD o):rT P L (put d v ρ) o=rT P L ρ o:=by
 cases o<;>try rfl
 ·rename_i f args;simp only[rT,xk h]
 ·rename_i f args;have h1:∀k,d=some k->k∉cj args:=fun k e b=>h k e (EB b);have a:ev (put d v ρ) f=ev ρ f:=fA h f (by simp);simp only[rT,xk h1,a]
theorem HG (hb:kz L L') (a:Vd L ρ) (o:dN):rT P L' ρ o=rT P L ρ o:=by
 cases o<;>try rfl
 ·simp only[rT,rU hb a]
 ·simp only[rT,rU hb a]
theorem QV {l d:Option Nat}{x y:dN}{w:Option (Nat×Bool)}{b:List ai}(hp:jc fb (.op l x w) (.pc d y none)=true) (hr:Real F L) (q:Vd L ρ)
  (h:aY P PX fb (.op l x w::.pc d y none::b) F L ρ K):aY P PX fb (.pc d y none::.op l x w::b) F L ρ K:=by
 simp only[jc,aaN] at hp;obtain⟨⟨⟨⟨_,z⟩,h1⟩,n⟩,f⟩:=hp;have h1:=j3 h1;have n:=j3 n;have f:=nA f;have ac:∀k,d=some k->l≠some k:=fun k e e'=>f k e' e;obtain⟨j,c,h⟩:=h;have a:(Sz j||SJ fb j)=true:=by rcases cV c with rfl | rfl;exact z;rfl
 rw[bY (lU a)] at h;obtain⟨v,hT,o⟩:=(eP (lU a)).ex _ h;simp only[aY,C4 h1] at o ⊢;split at o
 case h_2=>exact o.elim
 refine o.imp fun F' L' u p s _ t ad m=>⟨j,by rw[oq n];exact c,?_⟩;rw[bY (lU a)];have lx:∀k,d=some k->k∉cj (bw j):=by
  intro k e m;rcases cV c with rfl | rfl
  ·exact n k e (nB m)
  ·simp[gZ,bw,cj] at m
 have r:=qL (lU a) (au.le_refl F') (uD (L:=L') (ρ:=ρ) (v:=.v u) lx) (MK a t p s q hT);refine(eP (lU a)).mono _ _ (fun v' e=>?_) r;subst e;rw[put_comm f];exact m
theorem QW {z:Option Nat}{k:Nat}{t:TypeId}{zs:List Value}{x:dN}{n:List ai}(hp:jc fb (.pc z x none) (.op (some k) (.allocD t zs) none)=true) (p:L.get k=none) (hr:Real F L) (y:Vd L ρ)
  (h:aY P PX fb (.pc z x none::.op (some k) (.allocD t zs) none::n) F L ρ K):aY P PX fb (.op (some k) (.allocD t zs) none::.pc z x none::n) F L ρ K:=by
 simp only[jc,aaN] at hp;have h1:=j3 hp.1.2;have h3:=nA hp.2;simp only[aY,res,aaO,exists_eq_left',evalOp,p] at h ⊢;intro g az;split at h
 case h_2=>exact h.elim
 rename_i _ _ f vs aa _;obtain⟨ks,l,R,Pp,e1,e2,e0,e3,e4,e5⟩:=h;have u:k∉ks:=by
  intro u;obtain⟨hl,hg⟩:=ct e1;obtain⟨i,hi⟩:=List.getElem?_of_mem u;have:=hg i k hi;rw[p] at this;have h5:=(aaU.1 hi).1;have h6:=abA.1 this.symm;omega
 have o:kz L (L.set k (.box g t zs)):=fun j s r cs e=>⟨cs,Keeps.new p j s r cs e⟩;have ea:rT P (L.set k (.box g t zs)) (put (some k) (.own k 0) ρ) x=some (f,vs):=by
  rw[C4 h1,HG o y,aa]
 rw[ea];refine⟨ks,l,R,Pp,by rw[FO u];exact e1,e2,e0,e3,fun v F0 L' Lo w ac hb=>e4 v F0 L' Lo w ac fun j s r cs e=>hb j s r cs (Keeps.new p j s r cs e),fun v F' Lo w hR=>?_⟩;obtain⟨a,b,c⟩:=e5 v F' Lo w hR;refine⟨a,b,fun m=>?_⟩;rw[rD ks Lo L u] at m ⊢;obtain⟨k1,k2,_⟩:=uF e1 e2 a b;have q:=k2 k p;have c:=c (m.down (au.le_refl _) m.glob (JE q));simp only[q] at c;rw[<-put_comm (d:=some k) (fun j e e'=>h3 j e' e)];exact c g m
theorem HI {x y:ai}{a:List ai}(c:jc fb x y=true) (e:∀k,xj y=some k->L.get k=none) (d:Real F L) (b:Vd L ρ) (h:aY P PX fb (x::y::a) F L ρ K):aY P PX fb (y::x::a) F L ρ K:=by
 unfold jc at c;split at c
 ·exact QU c d b h
 ·exact QV c d b h
 ·exact QW c (e _ rfl) d b h
 ·cases c
theorem C5 {y:ai}{k:Nat}(h:xj y=some k):zC y=some k:=by
 unfold xj at h;split at h
 ·exact h
 ·cases h
theorem JL {x y:ai}(a:jc fb x y=true) {k:Nat}(h:xj y=some k):zC x≠some k:=by
 have b:=C5 h;unfold jc at a;split at a
 ·simp only[lT,aaN] at a;intro e;exact nA a.2 k e b
 ·simp[xj] at h
 ·simp only[aaN] at a;intro e;exact nA a.2 k e b
 ·cases a
theorem zD {x:ai}{c b:List ai}(u:SK x=true) (w:Real F L) (l:Vd L ρ) (h:aY P PX fb (x::c) F L ρ K)
  (t:∀F1 L1 a,F.le F1->Real F1 L1->Vd L1 a->(∀j,zC x≠some j->L.get j=none->L1.get j=none)->aY P PX fb c F1 L1 a K->aY P PX fb b F1 L1 a K):aY P PX fb (x::b) F L ρ K:=by
 cases x with
 | frz k=>cases u
 | op d o g =>
  obtain⟨o',m,h⟩:=h;have q:okD o'=true:=by rcases cV m with rfl | rfl;exact u;rfl
  exact⟨o',m,mU q w l h fun F1 L1 a _ r n s p y=>t F1 L1 a r n s p y⟩
 | pc d o g =>
  unfold aY at h ⊢;split at h
  ·rename_i f args;refine h.imp fun F' L' v h1 r n _ s p=>t _ _ _ h1 s ((r.vd l).aaK d v) (fun j _ e=>n j e) p
  ·exact h.elim
theorem xq {y:ai}{s:List ai}:∀(p:List ai),(∀x∈p,jc fb x y=true)->(∀x∈p,SK x=true)->∀{F:au}{L:Loc}{ρ:Env},(∀k,xj y=some k->L.get k=none)->Real F L->Vd L ρ->aY P PX fb (p++y::s) F L ρ K->aY P PX fb (y::(p++s)) F L ρ K
 | [],_,_,F,L,ρ,_,_,_,h=>h
 | x::p,j,n,F,L,ρ,l,m,b,h=>by
  refine HI (j x (by simp)) l m b ?_;refine zD (n x (by simp)) m b h fun F1 L1 o _ f a d q=>?_;exact xq p (fun z c=>j z (by simp[c])) (fun z c=>n z (by simp[c])) (fun k e=>d k (JL (j x (by simp)) e) (l k e)) f a q
end
section
variable {P:Program}{PX:au->Loc->Value->Prop}{fb:List Nat}{K:di}{Q:Exit->Act->World->Prop}{ops:Array Oper}
theorem Al {ks:List Nat}(b:ks.Nodup) {i j:Nat}{hi:i<ks.length}{c:j<ks.length}(h:ks[i]=ks[j]):i=j:=by
 rw[List.nodup_iff_pairwise_ne,List.pairwise_iff_getElem] at b;rcases Nat.lt_trichotomy i j with a | he | a
 ·exact vv h (b i j hi c a)
 ·exact he
 ·exact vv h.symm (b j i c hi a)
theorem qM {L:Loc}{ks:List Nat}{Lo:List Own}(f:ks.Nodup) (a:ks.length=Lo.length):((L.aae ks).puts ks Lo).sameAs (L.puts ks Lo):=by
 intro j;rcases cL ks Lo L j f a with⟨d,b⟩ | ⟨i,d,b,n⟩<;>rcases cL ks Lo (L.aae ks) j f a with⟨c,h⟩ | ⟨m,c,h,o⟩
 ·rw[d,c,eO,q9 b]
 ·exact vv (aaZ c) b
 ·exact vv (aaZ d) h
 ·have:i=m:=by
   have h1:=(aaU.1 d);have l:=(aaU.1 c);obtain⟨h1,e⟩:=h1;obtain⟨l,k⟩:=l;exact Al f (e.trans k.symm)
  subst this;rw[b,h]
theorem xu:∀{ks:List Nat}{L:Loc}{Lo:List Own},ks.length=Lo.length->(∀(i:Nat) k,ks[i]?=some k->L.get k=Lo[i]?)->L.sub ks=some Lo
 | [],L,[],_,_=>rfl
 | [],L,_::_,h,_=>by simp at h
 | _::_,L,[],h,_=>by simp at h
 | k::ks,L,o::Lo,h,a=>by
  have h0:=a 0 k rfl;have h1:L.sub ks=some Lo:=xu (by simpa using h) fun i j e=>by
   have:=a (i+1) j (by rw[abg];exact e);rw[abg] at this;exact this
  have h0:L.get k=some o:=h0;simp only[Loc.sub,h0,h1]
theorem JM {L:Loc}{ks:List Nat}{Lo:List Own}(f:ks.Nodup) (a:ks.length=Lo.length):(L.puts ks Lo).sub ks=some Lo:=by
 refine xu a fun i k e=>?_;rcases cL ks Lo L k f a with⟨a1,c⟩ | ⟨j,a1,c,l⟩
 ·exact vv (aaZ e) c
 ·have hi:=aaU.1 e;have h:=aaU.1 a1;obtain⟨h1,b⟩:=hi;obtain⟨m,d⟩:=h;have:i=j:=Al f (b.trans d.symm);subst this;rw[c,aaQ l]
theorem kH.toX {f:Nat}{args:List Value}{F:au}{L:Loc}{K:au->Loc->Value->Prop}(h:kH P PX fb f args F L K):fG P PX f args F L fun F' L' v=>∃L2,L'.sameAs L2/\(Real F' L2->K F' L2 v):=by
 obtain⟨ks,l,R,Pp,h1,d,h0,n,s,p⟩:=h;refine⟨ks,ks,l,R,Pp,h1,d,d,fun k o=>.inl o,n,fun v F' Lo m j hb r=>s v F' _ Lo m (JM d j) hb r,fun v F' Lo m q=>?_⟩;obtain⟨a,b,c⟩:=p v F' Lo m q;obtain⟨k1,u,_⟩:=uF h1 d a b;refine⟨a,fun k g t cs _ e=>?_,_,qM d a,c⟩;rw[<-qM d a];exact k1 k g t cs e
theorem C6 {own:Bool}{o:Oper}{s:dN}{f:Nat}{h:List Value}{F:au}{L:Loc}{ρ:Env}{a:Act}{w:World}{K:di}(c:St F L w) (he:aA L ρ a) (m:∀k,o.dst=some k->k<a.tmps.size) (l:gV P own o.op=some s) (b:rT P L ρ s=some (f,h))
  (e:fG P PX f h F L fun F' L' v=>K F' L' (put o.dst (.v v) ρ))
  (d:∀v j w' F' L',rK v j->St F' L' w'->Step F L w F' L' w'->PX F' L' v->Q (.panic j) a w'):o.wp P a w (bD F L w a K) Q:=by
 cases s with
 | call f' args =>
  simp only[rT,aaO,Prod.mk.injEq] at b;obtain⟨rfl,rfl⟩:=b;exact vw c he m l e d
 | callV x args =>
  simp only[rT] at b;split at b
  case h_2=>cases b
  rename_i f' q p n;simp only[aaO,Prod.mk.injEq] at b;obtain⟨rfl,rfl⟩:=b;exact s5 c he m l n e d
 | _=>cases b
theorem HJ {A:dc}{i:Nat}{s:ai}{l:List ai}{F:au}{L:Loc}{ρ:Env}{a:Act}{w:World}{KK:Act->World->Prop}(hi:i<ops.size) (c:Bx P A ops i=some s) (hx:SK s=true) (hs:St F L w) (he:aA L ρ a) (hn:a.tmps.size=A.n)
  (q:aY P PX fb (s::l) F L ρ K)
  (z:∀a' w' F' L' ρ',St F' L' w'->aA L' ρ' a'->a'.tmps.size=A.n->a'.defers=a.defers->Step F L w F' L' w'->(∀j,((ops[i]?).bind (·.dst))≠some j->a'.tmps.getD j undef=a.tmps.getD j undef) ->
   (∀j,zC s≠some j->L.get j=none->L'.get j=none)->aY P PX fb l F' L' ρ' K->KK a' w')
  (hP:∀v ch w' F' L',rK v ch->St F' L' w'->Step F L w F' L' w'->PX F' L' v->Q (.panic ch) a w') :
  wpOp P ops Q i KK a w:=by
 cases s with
 | frz k=>cases hx
 | op d o g =>
  obtain⟨o',t,h⟩:=q;have az:okD o'=true:=by rcases cV t with rfl | rfl;exact hx;rfl
  have h2:aQ P [.op d o g] F L ρ (fun F' L' ρ'=>(∀j,d≠some j->L.get j=none->L'.get j=none)/\aY P PX fb l F' L' ρ' K) :=
   fj.2 ⟨o',t,mU az ⟨w,hs⟩ he.vd h fun F1 L1 bi _ _ _ _ h5 h6=>⟨h5,h6⟩⟩
  exact C2 hi c hs he hn h2 fun a' w' F' L' ρ' g1 g2 g3 g4 g5 r x=>z a' w' F' L' ρ' g1 g2 g3 g4 g5 r x.1 x.2
 | pc d o g =>
  unfold aY at q;split at q
  case h_2=>exact q.elim
  rename_i f vs aw;unfold Bx at c;split at c
  case h_1=>cases c
  rename_i o u;split at c
  case h_2=>cases c
  rename_i g s0 y aa m;rename_i o0 _ _ _ _ _ _;have ao:o.dst=d/\s0=o0/\g=none:=by
   split at c
   ·split at c
    ·injection c with c
     injection c with q1 q2 q3
     exact⟨q1,q2,rfl⟩
    ·injection c with c
     injection c with q1 q2 q3
     exact⟨q1,q2,rfl⟩
    ·cases c
   ·split at c
    ·split at c
     ·cases c
     ·cases c
    ·split at c
     ·split at c<;>cases c
     ·cases c
  obtain⟨rfl,rfl,rfl⟩:=ao;have hd:∀k,o.dst=some k->k<a.tmps.size:=by
   intro k hk;rw[hk] at m;rw[hn];have h2:Nat.blt k A.n=true:=m;simpa using h2
  have ad:(ops[i]?).bind (·.dst)=o.dst:=by rw[u];rfl
  rw[ad] at z;simp only[wpOp,u];have an:o.guard=none:=by
   cases e:o.guard with
   | none=>rfl
   | some p=>obtain⟨j,b⟩:=p;rw[e] at y;simp only[gX] at y;split at y<;>cases y
  rw[o5 (by simp[Region.wanted,an])];refine .inl ?_;have av:=q.imp (K':=fun F' L' v=>(∀j,L.get j=none->L'.get j=none)/\aY P PX fb l F' L' (put o.dst (.v v) ρ) K) fun F' L' v _ _ h3 _ _ h5=>⟨h3,h5⟩;have:=C6 (K:=fun F' L' ρ'=>∃L2,L'.sameAs L2/\(Real F' L2->(∀j,L.get j=none->L2.get j=none)/\aY P PX fb l F' L2 ρ' K)) hs he hd aa aw av.toX hP;refine Oper.wp_mono ?_ (pQ (asg:=[]) this);rintro a' w' ⟨⟨F',L',ρ',g1,g2,g3,g4,g5,L2,r,x⟩,ae⟩;have s1:St F' L2 w':=g1.part fun k o e=>by rw[<-r k];exact e
  obtain⟨g8,g9⟩:=x ⟨w',s1⟩;exact z a' w' F' L2 ρ' s1 (g2.same r) (by rw[g3,hn]) g4 (g5.aaG r) ae (fun j _ e=>g8 j e) g9
def lV (fb:List Nat) (a:List (List Nat)):List (Nat×ai)->Bool
 | []=>true
 | (x,b)::l=>l.all (fun p=>jc fb b p.2||eZ (Bz a p.1) x)&&lV fb a l
def EC (ss:List ai):List Nat:=ss.filterMap zC
def MN (ss:List ai):List Nat:=ss.filterMap fun s=>match s with | .op _ (.loadK key _ _ _) _=>some key | _=>none
def BF (P:Program) (ops:Array Oper) (is:List Nat) (a:List (List Nat)) (ss:List ai):Bool :=
 P.follows .mixedOrders&&JH ops a&&aP is&&Nat.beq is.length ops.size&&is.all (fun i=>Nat.blt i ops.size)&&(List.range ops.size).all (eZ is)&&lV (MN ss) a (is.zip ss)&&ss.all SK&&aP (EC ss)
theorem s6 {d:List (List Nat)}:∀{p q:List (Nat×ai)}{y:Nat×ai},lV fb d (p++y::q)=true->lV fb d (p++q)=true/\∀x∈p,jc fb x.2 y.2=true\/x.1∈Bz d y.1
 | [],q,y,h=>by
  obtain⟨y1,y2⟩:=y;simp only[abr,lV,aaN] at h ⊢;exact⟨h.2,fun x b=>by cases b⟩
 | (k,l)::p,q,y,h=>by
  simp only[aa4,lV,aaN] at h ⊢;obtain⟨h1,f⟩:=h;obtain⟨e,j⟩:=s6 f;have c:=aa1.1 h1;refine⟨⟨aa1.2 fun z a=>c z ?_,e⟩,fun x b=>?_⟩
  ·rcases aaX.1 a with a | a
   ·exact aaX.2 (.inl a)
   ·exact aaX.2 (.inr (abj _ a))
  ·rcases aaW.1 b with rfl | b
   ·have:=c y (aaX.2 (.inr (by simp)));simp only[abp] at this;rcases this with h | h
    ·exact .inl h
    ·exact .inr (cH.1 h)
   ·exact j x b
theorem MO {p q:List ai}{y:ai}(h:(EC (p++y::q)).Nodup):(EC (p++q)).Nodup/\∀k,zC y=some k->∀z∈p++q,xj z≠some k:=by
 have e:EC (p++y::q)=EC p++((zC y).toList++EC q):=by
  unfold EC;rw[List.filterMap_append,List.filterMap_cons];cases zC y<;>rfl
 rw[e] at h;have c:(EC p++EC q).Nodup:=by
  refine List.Sublist.nodup ?_ h;exact List.Sublist.append (List.Sublist.refl _) (List.sublist_append_right _ _)
 refine⟨by unfold EC at c ⊢;rw[List.filterMap_append];exact c,fun k j z a f=>?_⟩;have b:=C5 f;rw[j] at h;have d:k∉EC p++EC q:=by
  have:(EC p++k::EC q).Nodup:=h;have:=(List.perm_middle.nodup_iff).1 this;rw[List.nodup_cons] at this;exact this.1
 apply d;rcases aaX.1 a with a | a
 ·exact aaX.2 (.inl (List.mem_filterMap.2 ⟨z,a,b⟩))
 ·exact aaX.2 (.inr (List.mem_filterMap.2 ⟨z,a,b⟩))
theorem JN {A:dc}{i:Nat}{s:ai}(a:Bx P A ops i=some s):(ops[i]?).bind (·.dst)=zC s:=by
 unfold Bx at a;split at a
 case h_1=>cases a
 rename_i o b;rw[b];split at a
 case h_2=>cases a
 split at a
 ·split at a
  ·injection a with a;subst a;rfl
  ·injection a with a;subst a;rfl
  ·cases a
 ·split at a
  ·split at a
   ·injection a with a;subst a;rfl
   ·cases a
  ·split at a
   ·split at a
    ·injection a with a;subst a;rfl
    ·cases a
   ·cases a
theorem ED {A:dc}{cl:List (List Nat)}(ca:JH ops cl=true):∀(m:Nat) (l:List Nat) (ss:List ai) (b:Array Bool) (F:au) (L:Loc) (ρ:Env) (a:Act) (w:World),
  eC P A ops l=some ss->b.size=ops.size->l.Nodup->(∀i,i∈l↔i<ops.size/\b.getD i true=false)->l.length<=m->lV fb cl (l.zip ss)=true ->
  (∀i,i<ops.size->b.getD i true=true->∀z∈direct ops i,b.getD z true=true) ->
  (∀s∈ss,SK s=true)->(EC ss).Nodup->(∀s∈ss,∀k,xj s=some k->L.get k=none) ->
  St F L w->aA L ρ a->a.tmps.size=A.n->aY P PX fb ss F L ρ K ->
  (∀a' w',dZ A.n F L w a (dstsOf ops (List.range ops.size)) K a' w'->Q .normal a' w') ->
  (∀v ch a' w' F' L',rK v ch->St F' L' w'->Step F L w F' L' w'->a'.tmps.size=A.n->a'.defers=a.defers->(∀j,j∉dstsOf ops (List.range ops.size)->a'.tmps.getD j undef=a.tmps.getD j undef)->PX F' L' v->Q (.panic ch) a' w')->wpAny P .any ops Q m b a w:=by
 have t:∀y z,y<ops.size->z∈direct ops y->z<y:=by
  intro y z hy r;have h:=aa1.1 ca y (List.mem_range.2 hy);simp only[BB,aaN] at h;have h3:Nat.blt z y=true:=aa1.1 h.1 z r;simpa using h3
 intro m
 induction m with
 | zero =>
  intro l ss b F L ρ a w hl ba cb d am hp f ab cc bb hs he hn hK hQ hP;have:l=[]:=abu (by omega);subst this;simp only[eC,aaO] at hl;subst hl;refine⟨?_,hQ a w ⟨F,L,ρ,hs,he,hn,rfl,Step.refl _ _ _,fun _ _=>rfl,hK⟩⟩;apply List.eq_nil_iff_forall_not_mem.2;intro i hi;rw[mem_ready] at hi;obtain⟨h1,o,h2,_⟩:=hi;have:=(d i).2 ⟨(Array.getElem?_eq_some_iff.1 h2).1,h1⟩;cases this
 | succ m ih =>
  intro l ss b F L ρ a w hl ba cb d am hp f ab cc bb hs he hn hK hQ hP;refine⟨fun hr=>?_,fun y hy=>?_⟩
  ·have:l=[]:=by
    refine Classical.byContradiction fun u=>?_;obtain⟨y,h1,h2⟩:=min_mem u;obtain⟨h3,h4⟩:=(d y).1 h1;have an:y∈Region.ready .any ops b:=by
     rw[mem_ready];refine⟨h4,ops[y],Array.getElem?_eq_getElem h3,fun e bd az=>?_⟩;have r:e.on∈direct ops y:=(oC (Array.getElem?_eq_getElem h3)).2 ⟨e,bd,az,rfl⟩;have cw:=t y e.on h3 r;rw[sZ (by omega) false true];cases hd:b.getD e.on true with
     | true=>rfl
     | false =>
      have:=h2 e.on ((d e.on).2 ⟨by omega,hd⟩);omega
    rw[hr] at an;cases an
   subst this;simp only[eC,aaO] at hl;subst hl;exact hQ a w ⟨F,L,ρ,hs,he,hn,rfl,Step.refl _ _ _,fun _ _=>rfl,hK⟩
  ·rw[mem_ready] at hy;obtain⟨h1,o,ho,bc⟩:=hy;have c:=(Array.getElem?_eq_some_iff.1 ho).1;have av:=(d y).2 ⟨c,h1⟩;obtain⟨p,q,rfl⟩:=List.append_of_mem av;obtain⟨dE,bt⟩:=pT hl;obtain⟨sp,sy,sq,rfl,ad,bz,cr⟩:=bt p q y rfl;have bm:(p++y::q).zip (sp++sy::sq)=p.zip sp++(y,sy)::q.zip sq:=by
    rw[List.zip_append ad.symm];rfl
   rw[bm] at hp;obtain⟨cz,cp⟩:=s6 hp;have ao:∀z∈direct ops y,b.getD z true=true:=by
    intro z r;have cw:=t y z c r;obtain⟨e,bd,az,rfl⟩:=(oC ho).1 r;rw[sZ (by omega) true false];exact bc e bd az
   have ac:∀sx∈sp,jc fb sx sy=true:=by
    intro sx cM;obtain⟨k,hk⟩:=List.getElem?_of_mem cM;have ds:=(aaU.1 hk).1;have bv:p[k]?=some (p[k]'(by omega)):=aaQ (by omega);have hm:(p[k]'(by omega),sx)∈p.zip sp:=aaZ (i:=k) (by rw[List.getElem?_zip_eq_some];exact⟨bv,hk⟩);rcases cp _ hm with h | h
    ·exact h
    ·exfalso;have hd:=vq ca (done:=fun z=>b.getD z true=true) f y c ao _ h;have co:p[k]'(by omega)∈p++y::q:=aaX.2 (.inl (aaZ bv));have:=((d _).1 co).2;simp only at hd;rw[hd] at this;cases this
   have da:=xq sp ac (fun z r=>ab z (by simp[r])) (fun k e=>bb sy (by simp) k e) ⟨w,hs⟩ he.vd hK;obtain⟨cd,dd⟩:=MO cc;have ed:(ops[y]?).bind (·.dst)=zC sy:=JN bz;refine HJ c bz (ab sy (by simp)) hs he hn da ?_ (fun v ch w' F' L' hc h1 h2 h3=>hP v ch a w' F' L' hc h1 h2 hn rfl (fun _ _=>rfl) h3);intro a' w' F' L' ρ' g1 g2 g3 g4 g5 g6 g8 g7;have ae:(p++q).Nodup/\y∉p++q:=by
    have:=(List.perm_middle.nodup_iff).1 cb;rw[List.nodup_cons] at this;exact⟨this.2,this.1⟩
   have ag:∀i,(b.setIfInBounds y true).getD i true=if i=y then true else b.getD i true:=by
    intro i;simp only[aa8,Array.getElem?_setIfInBounds]
    by_cases hi:y=i
    ·subst hi;rw[o5 rfl,o5 rfl];simp[ba,c]
    ·rw[q9 hi,q9 (fun h=>hi h.symm)]
   refine ih (p++q) (sp++sq) _ F' L' ρ' a' w' cr (by simp[ba]) ae.1 (fun i=>?_) (by simp at am ⊢;omega) ?_ ?_ (fun z r=>ab z (by rcases aaX.1 r with h | h<;>simp[h])) cd (fun z r k e=>g8 k (fun e2=>dd k e2 z r e) (bb z (by rcases aaX.1 r with h | h<;>simp[h]) k e)) g1 g2 g3 g7 ?_ ?_
   ·rw[ag];have h0:=d i;constructor
    ·intro hi;have u:i≠y:=fun e=>ae.2 (e▸hi);rw[q9 u];refine h0.1 ?_;rcases aaX.1 hi with h | h
     ·exact aaX.2 (.inl h)
     ·exact aaX.2 (.inr (abj _ h))
    ·rintro⟨cx,be⟩;split at be
     ·cases be
     ·rename_i u;have:=h0.2 ⟨cx,be⟩;rcases aaX.1 this with h | h
      ·exact aaX.2 (.inl h)
      ·rcases aaW.1 h with h | h
       ·exact vv h u
       ·exact aaX.2 (.inr h)
   ·rw[List.zip_append ad.symm];exact cz
   ·intro i hi hd z r;rw[ag] at hd ⊢;split
    ·rfl
    ·split at hd
     ·rename_i h;subst h;exact ao z r
     ·exact f i hi hd z r
   ·rintro ar aE ⟨F'',L'',bp,k1,k2,k3,k4,k5,k6,k7⟩;refine hQ ar aE ⟨F'',L'',bp,k1,k2,k3,k4.trans g4,g5.trans k5,fun j hj=>?_,k7⟩;rw[k6 j hj,g6 j];intro e;apply hj;have:∀(is:List Nat),y∈is->j∈dstsOf ops is:=by
     intro is
     induction is with
     | nil=>intro h;cases h
     | cons x is aa =>
      intro h;simp only[dstsOf];rcases aaW.1 h with rfl | h
      ·rw[e];simp
      ·split
       ·exact abj _ (aa h)
       ·exact aa h
    exact this _ (List.mem_range.2 c)
   ·intro v ch ar aE F'' L'' kc k1 k2 k3 k4 k5 k6;refine hP v ch ar aE F'' L'' kc k1 (g5.trans k2) k3 (k4.trans g4) (fun j hj=>?_) k6;rw[k5 j hj,g6 j];intro e;apply hj;have:∀(is:List Nat),y∈is->j∈dstsOf ops is:=by
     intro is
     induction is with
     | nil=>intro h;cases h
     | cons x is aa =>
      intro h;simp only[dstsOf];rcases aaW.1 h with rfl | h
      ·rw[e];simp
      ·split
       ·exact abj _ (aa h)
       ·exact aa h
    exact this _ (List.mem_range.2 c)
theorem C8 {A:dc}{r:Nat}{is:List Nat}{cl:List (List Nat)}{ss:List ai}{F:au}{L:Loc}{ρ:Env}{a:Act}{w:World}(hl:eC P A ops is=some ss) (u:BF P ops is cl ss=true)
  (y:St F L w) (he:aA L ρ a) (hn:a.tmps.size=A.n) (o:∀s∈ss,∀k,xj s=some k->L.get k=none) (hK:aY P PX (MN ss) ss F L ρ K) (z:∀a' w',dZ A.n F L w a (dstsOf ops (List.range ops.size)) K a' w'->Q .normal a' w')
  (hP:∀v d a' w' F' L',rK v d->St F' L' w'->Step F L w F' L' w'->a'.tmps.size=A.n->a'.defers=a.defers->(∀j,j∉dstsOf ops (List.range ops.size)->a'.tmps.getD j undef=a.tmps.getD j undef)->PX F' L' v->Q (.panic d) a' w') :
  (Code.region r ops true).wp P Q a w:=by
 simp only[BF,aaN] at u;obtain⟨⟨⟨⟨⟨⟨⟨⟨h1,h2⟩,e⟩,x⟩,h5⟩,h7⟩,h6⟩,h8⟩,h9⟩:=u;have e:=cJ e;have x:=aaR x;have c:∀i∈is,i<ops.size:=fun i hi=>by
  have h:Nat.blt i ops.size=true:=aa1.1 h5 i hi;simpa using h
 refine wp_region_any h1 ?_;show wpAny P .any ops Q ops.size (Array.replicate ops.size false) a w.drew;refine ED h2 ops.size is ss _ F L ρ a w.drew hl (by simp) e (fun i=>?_) (by omega) h6 ?_ (aa1.1 h8) (cJ h9) o y.drew he hn hK ?_ ?_
 ·constructor
  ·intro hi;refine⟨c i hi,?_⟩;simp[aa8,c i hi]
  ·rintro⟨hi,_⟩;exact cH.1 (aa1.1 h7 i (List.mem_range.2 hi))
 ·intro i hi m;simp[aa8,hi] at m
 ·rintro a' w' ⟨F',L',ρ',p,g2,l,q,b,f,t⟩;refine z a' w' ⟨F',L',ρ',p,g2,l,q,?_,f,t⟩;exact⟨b.le,b.os,b.tape,b.output,b.size,b.same,b.frz,b.own⟩
 ·intro v d a' w' F' L' gc p b l q f t;exact hP v d a' w' F' L' gc p ⟨b.le,b.os,b.tape,b.output,b.size,b.same,b.frz,b.own⟩ l q f t
end
def dJ:Code->List Nat
 | .region _ d _=>dstsOf d (List.range d.size)
 | .seq a b=>dJ a++dJ b
 | .cond _ a b=>dJ a++dJ b
 | .block _ c | .loop c | .scope c=>dJ c
 | _=>[]
def EF:List Nat->ay->ay
 | [],x=>x
 | k::l,x=>.seq (.reg (.frz k::l.map .frz)) x
def FP:List ai->Bool
 | []=>true
 | .op _ _ _::l=>FP l
 | _::_=>false
def low (P:Program) (A:dc):Code->Option ay
 | .skip=>some .skip
 | .label _=>some .skip
 | .region r d false=>match pO P A r d (List.range d.size) with | some ss=>some (.reg ss) | none=>none
 | .region r d true=>match JA A.ord r,eC P A d (CV A.ord r) with
  | some (is,e),some ss=>match FP ss with
   | true=>match Ez P d is e ss with
    | true=>some (EF (Jz A.frz r 0) (.regD ss))
    | false=>none
   | false=>match BF P d is e ss with
    | true=>some (.regX ss)
    | false=>none
  | _,_=>none
 | .seq a b=>match low P A a,low P A b with | some x,some y=>some (.seq x y) | _,_=>none
 | .cond c a b=>match bI c,low P A a,low P A b with | some c,some x,some y=>some (.cond c x y) | _,_,_=>none
 | .scope c=>low P A c
 | .block id c=>match low P A c with | some x=>some (.block id x) | none=>none
 | .loop c=>match low P A c with | some x=>some (.loop (dJ c) x) | none=>none
 | .exit id=>some (.exit id)
 | .ret=>some .ret
 | _=>none
section
variable {P:Program}{Q:Exit->Act->World->Prop}
def rE (n:Nat) (F:au) (L:Loc) (w:World) (a:Act) (asg:List Nat) (PX:au->Loc->Value->Prop) (v:Value) (a':Act) (w':World):Prop :=
 ∃F' L',St F' L' w'/\Step F L w F' L' w'/\a'.tmps.size=n/\a'.defers=a.defers/\(∀j,j∉asg->a'.tmps.getD j undef=a.tmps.getD j undef)/\PX F' L' v
theorem rE.after {n:Nat}{F F1:au}{L L1:Loc}{w k:World}{a a1:Act}{asg asg1 b:List Nat}{PX PX':au->Loc->Value->Prop}{v:Value}{a':Act}{w':World}(e:Step F L w F1 L1 k) (d:a1.defers=a.defers) (c:∀j,j∉asg1->a1.tmps.getD j undef=a.tmps.getD j undef)
  (h:rE n F1 L1 k a1 b PX v a' w') (h1:∀j,j∈asg1->j∈asg) (r:∀j,j∈b->j∈asg) (o:∀F L,PX F L v->PX' F L v):rE n F L w a asg PX' v a' w':=by
 obtain⟨F',L',s,q,p,t,m,l⟩:=h;exact⟨F',L',s,e.trans q,p,t.trans d,fun j f=>by rw[m j (fun h=>f (r j h)),c j (fun h=>f (h1 j h))],o _ _ l⟩
theorem rE.mono {n:Nat}{F:au}{L:Loc}{w:World}{a:Act}{asg b:List Nat}{PX:au->Loc->Value->Prop}{v:Value}{a':Act}{w':World}(h:rE n F L w a asg PX v a' w') (c:∀j,j∈asg->j∈b):rE n F L w a b PX v a' w':=by
 obtain⟨F',L',m,l,k,o,f,e⟩:=h;exact⟨F',L',m,l,k,o,fun j d=>f j (fun h=>d (c j h)),e⟩
def QQ (n:Nat) (F:au) (L:Loc) (w:World) (a:Act) (asg:List Nat) (PX:au->Loc->Value->Prop) (E:Nat->di) (R N:di):Exit->Act->World->Prop
 | .normal,a',w'=>dZ n F L w a asg N a' w'
 | .exit j,a',w'=>dZ n F L w a asg (E j) a' w'
 | .ret,a',w'=>dZ n F L w a asg R a' w'
 | .panic b,a',w'=>∃v,rK v b/\rE n F L w a asg PX v a' w'
 | _,_,_=>False
theorem dZ.mono {n:Nat}{F:au}{L:Loc}{w:World}{a:Act}{asg b:List Nat}{K:di}{a':Act}{w':World}(h:dZ n F L w a asg K a' w') (c:∀j,j∈asg->j∈b):dZ n F L w a b K a' w':=by
 obtain⟨F',L',ρ',h1,m,f,p,k,l,o⟩:=h;exact⟨F',L',ρ',h1,m,f,p,k,fun j e=>l j (fun d=>e (c j d)),o⟩
theorem dZ.after {n:Nat}{F F1:au}{L L1:Loc}{w k:World}{a a1:Act}{asg asg1 b:List Nat}{K:di}{a':Act}{w':World}(e:Step F L w F1 L1 k) (d:a1.defers=a.defers) (c:∀j,j∉asg1->a1.tmps.getD j undef=a.tmps.getD j undef)
  (h:dZ n F1 L1 k a1 b K a' w') (h1:∀j,j∈asg1->j∈asg) (q:∀j,j∈b->j∈asg):dZ n F L w a asg K a' w':=by
 obtain⟨F',L',ρ',r,p,o,s,m,l,t⟩:=h;exact⟨F',L',ρ',r,p,o,s.trans d,e.trans m,fun j f=>by rw[l j (fun h=>f (q j h)),c j (fun h=>f (h1 j h))],t⟩
def mL (P:Program):List ResultVar->Option (List RV)
 | []=>some []
 | .tmp t::l=>match mL P l with | some r=>some ((t,none)::r) | none=>none
 | .cell a t::l=>match P.underlying t,P.info? t,mL P l with
  | some d,some i,some r=>some ((a,some (match eM d with | true=>(true,i.size) | false=>(false,1)))::r)
  | _,_,_=>none
def xw (tmps:Array Value):ResultVar->Sem Value
 | .tmp t=>pure (tmps.getD t undef)
 | .cell a t=>do loadVar t (<-asAddr (tmps.getD a undef))
theorem nD {F:au}{L:Loc}{ρ:Env}{a:Act}{w:World}(z:St F L w) (he:aA L ρ a):∀{l:List ResultVar}{rs:List RV}{K:List Value->Prop},mL P l=some rs->mZ L ρ rs K ->
  ∃u,(l.mapM (xw a.tmps)).run P w=.ok u w/\K u
 | [],rs,K,h,b=>by simp only[mL,aaO] at h;subst h;exact⟨[],by simp,b⟩
 | .tmp t::l,rs,K,h,b=>by
  simp only[mL] at h;split at h
  case h_2=>cases h
  rename_i r hr;injection h with h;subst h
  simp only[mZ] at b;obtain⟨u,h1,o⟩:=nD z he hr b;refine⟨_,?_,o⟩;simp only[List.mapM_cons,xw,Sem.run_bind,Sem.run_pure,Result.andThen_ok];rw[h1];simp[he.eq t]
 | .cell t ty::l,rs,K,h,b=>by
  simp only[mL] at h;split at h
  case h_2=>cases h
  rename_i d i r hd hi hr;injection h with h;subst h
  generalize c:(match eM d with | true=>(true,i.size) | false=>(false,1):Bool×Nat)=p at b;obtain⟨ag,n⟩:=p;have q:ag=eM d:=by cases e:eM d<;>rw[e] at c<;>injection c with h1 o<;>exact h1.symm
  have hn:n=match eM d with | true=>i.size | false=>1:=by cases e:eM d<;>rw[e] at c<;>injection c with h1 o<;>exact o.symm
  simp only[mZ] at b;split at b
  case h_2=>exact b.elim
  rename_i k off ac;split at b
  case h_2=>exact b.elim
  rename_i g ty' cs hk;split at b
  case h_2=>exact b.elim
  rename_i x;have y:=wh x;have x:=jz (Bt x);obtain⟨u,h1,o⟩:=nD z he hr b;refine⟨_,?_,o⟩;have s:=z.own k _ hk;have m:∀j v,((cs.drop off).take n)[j]?=some v->w.cell? ((⟨g,off,none⟩:Addr).add j)=some v:=by
   intro j v hv;rw[cT,pL y s];have hj:j<n:=by
    have:=aaU.1 hv;obtain⟨h,_⟩:=this;omega
   rw[List.getElem?_take_of_lt hj,abz] at hv;exact hv
  have hy:a.tmps.getD t undef=.pointer (some ⟨g,off,none⟩):=by rw[he.eq t];simp only[ac,conc,hk]
  have f:=oh hd hi m x hn;simp only[Instr.loadAt,Instr.sureAddr,Sem.run_bind,Sem.run_pure,Result.andThen_ok] at f;simp only[List.mapM_cons,xw,hy,asAddr,Sem.run_bind,Sem.run_pure,Result.andThen_ok,f];rw[h1,q];simp
theorem oD (fn:Func) (tmps:Array Value):results fn tmps=(do let b <-fn.results.mapM (xw tmps);pure (if h:b.size=1 then b[0] else .tuple b)):=by
 unfold results;have h:(fun(r:ResultVar)=>match r with | .tmp t=>(pure (tmps.getD t undef):Sem Value) | .cell a t=>do loadVar t (<-asAddr (tmps.getD a undef)))=xw tmps:=by
  funext r
  cases r<;>rfl
 rw[<-h];rfl
theorem xA:∀(a:List SV) (k j:Nat),CK k a j=if k<=j then(a[j-k]?).getD (.v undef) else .v undef
 | [],k,j=>by simp[CK]
 | v::a,k,j=>by
  simp only[CK,put_eq]
  by_cases h:j=k
  ·subst h;simp
  ·rw[q9 h,xA a (k+1) j]
   by_cases h1:k<=j
   ·rw[o5 (by omega),o5 h1,show j-k=(j-(k+1))+1 by omega,abg]
   ·rw[q9 (by omega),q9 h1]
def aB (P:Program) (A:dc) (fn:Func):Option (ay×Nat×List RV×Bool) :=
 match fn.body with
 | some c=>match low P A c,mL P fn.results.toList with
  | some sc,some rs=>some (sc,fn.ntmps,rs,fn.name == "runtime.NumGoroutine")
  | _,_=>none
 | none=>none
end
inductive G where
 | int (k:IntKind) (n:Int)
 | bool (b:Bool)
 | str (s:ByteArray)
 | sl (sz:Nat) (l:List G)
 | st (l:List G)
mutual
def Rd (F:au):G->List Value->Prop
 | .int k n,cs=>cs=[.int k n]/\(Lit.int k n).wf=true
 | .bool b,cs=>cs=[.bool b]
 | .str s,cs=>cs=[.string s]
 | .sl sz l,cs=>∃a c,cs=[.slice a l.length c]/\l.length<=c/\c<=maxLen/\(a=none->l=[]/\c=0)/\s9 F a sz 0 l
 | .st l,cs=>lW F l cs
def s9 (F:au) (a:Option Addr) (sz:Nat):Nat->List G->Prop
 | _,[]=>True
 | i,x::l=>(∃es,es.length=sz/\dG F a (i*sz) es/\Rd F x es)/\s9 F a sz (i+1) l
def lW (F:au):List G->List Value->Prop
 | [],cs=>cs=[]
 | x::l,cs=>∃c1 c2,cs=c1++c2/\Rd F x c1/\lW F l c2
end
mutual
theorem Rd.mono {F F':au}(hle:F.le F'):∀{g:G}{cs:List Value},Rd F g cs->Rd F' g cs
 | .int k n,cs,h=>h
 | .bool b,cs,h=>h
 | .str s,cs,h=>h
 | .sl sz l,cs,h=>by
  simp only[Rd] at h ⊢;obtain⟨a,c,h1,h2,h3,h4,h5⟩:=h;exact⟨a,c,h1,h2,h3,h4,s9.mono hle h5⟩
 | .st l,cs,h=>by
  simp only[Rd] at h ⊢;exact lW.mono hle h
theorem s9.mono {F F':au}(hle:F.le F') {a:Option Addr}{sz:Nat}:∀{i:Nat}{l:List G},s9 F a sz i l->s9 F' a sz i l
 | _,[],h=>by simp only[s9]
 | i,x::l,h=>by
  simp only[s9] at h ⊢;obtain⟨⟨es,h1,h2,h3⟩,h4⟩:=h;exact⟨⟨es,h1,h2.mono hle,Rd.mono hle h3⟩,s9.mono hle h4⟩
theorem lW.mono {F F':au}(hle:F.le F'):∀{l:List G}{cs:List Value},lW F l cs->lW F' l cs
 | [],cs,h=>by simp only[lW] at h ⊢;exact h
 | x::l,cs,h=>by
  simp only[lW] at h ⊢;obtain⟨c1,c2,h1,h2,h3⟩:=h;exact⟨c1,c2,h1,Rd.mono hle h2,lW.mono hle h3⟩
end
theorem xB {F:au}{a:Option Addr}{sz:Nat}:∀{l:List G}{i:Nat},s9 F a sz i l↔∀j x,l[j]?=some x->∃es,es.length=sz/\dG F a ((i+j)*sz) es/\Rd F x es
 | [],i=>by simp[s9]
 | x::l,i=>by
  simp only[s9,xB (l:=l)];constructor
  ·rintro⟨h1,c⟩ j y b;cases j with
   | zero=>simp only[aa6,aaO] at b;subst b;simpa using h1
   | succ j =>
    simp only[abg] at b;have:=c j y b
    rwa [show i+1+j=i+(j+1) by omega] at this
  ·intro h;refine⟨by simpa using h 0 x (by simp),fun j y b=>?_⟩;have:=h (j+1) y (by simpa using b)
   rwa [show i+(j+1)=i+1+j by omega] at this
structure Sl (F:au) (sz:Nat) (l:List G) (a:Option Addr) (c:Nat):Prop where
 cap:l.length<=c
 max:c<=maxLen
 nil:a=none->l=[]/\c=0
 elems:∀j x,l[j]?=some x->∃es,es.length=sz/\dG F a (j*sz) es/\Rd F x es
theorem Sl.mono {F F':au}{sz:Nat}{l:List G}{a:Option Addr}{c:Nat}(h:Sl F sz l a c) (b:F.le F'):Sl F' sz l a c :=
 ⟨h.cap,h.max,h.nil,fun j x d=>let⟨es,h1,h2,h3⟩:=h.elems j x d;⟨es,h1,h2.mono b,h3.mono b⟩⟩
theorem P0 {F:au}{sz:Nat}{l:List G}{cs:List Value}:Rd F (.sl sz l) cs↔∃a c,cs=[.slice a l.length c]/\Sl F sz l a c:=by
 simp only[Rd];constructor
 ·rintro⟨a,c,h1,b,f,h,e⟩;exact⟨a,c,h1,b,f,h,fun j x d=>by have:=xB.1 e j x d;simpa using this⟩
 ·rintro⟨a,c,h1,b⟩;exact⟨a,c,h1,b.cap,b.max,b.nil,xB.2 fun j x d=>by have:=b.elems j x d;simpa using this⟩
theorem Sl.ne {F:au}{sz:Nat}{l:List G}{a:Option Addr}{c:Nat}(h:Sl F sz l a c) (b:l≠[]):a≠none:=fun e=>b (h.nil e).1
theorem Sl.load {F F':au}{L:Loc}{sz:Nat}{l:List G}{a:Option Addr}{c:Nat}{j:Nat}{x:G}{K:List Value->Prop}(h:Sl F sz l a c) (b:F.le F') (d:l[j]?=some x)
  (e:∀es,es.length=sz->Rd F' x es->K es):jW F' L a (j*sz) sz K:=by
 obtain⟨es,h1,k,f⟩:=h.elems j x d;exact⟨es,h1,.inl (k.mono b),e es h1 (f.mono b)⟩
theorem Sl.loadD {F F':au}{sz:Nat}{l:List G}{a:Option Addr}{c:Nat}{j:Nat}{x:G}{K:List Value->Prop}(h:Sl F sz l a c) (b:F.le F') (d:l[j]?=some x)
  (e:∀es,es.length=sz->Rd F' x es->K es):ja F' a (j*sz) sz K:=by
 obtain⟨es,h1,k,f⟩:=h.elems j x d;exact⟨es,h1,.inl (k.mono b),e es h1 (f.mono b)⟩
theorem aq {b:Bool}{A B:Prop}(h:b=true->A) (k:b=false->B):zq b A B:=by cases b;exact k rfl;exact h rfl
theorem ah {p:Prop}[Decidable p] {A B:Prop}(h:p->A) (k:¬p->B):zq (decide p) A B:=by
 by_cases a:p
 ·simp only[a,decide_true];exact h a
 ·simp only[a,decide_false];exact k a
theorem Fit.aag {n:Int}{K:Int->Prop}(h1:-9223372036854775808<=n) (a:n<=9223372036854775807) (h:K n):Fit .i64 n K:=by
 refine⟨?_⟩;have:IntKind.wrap .i64 n=n:=by
  simp only[IntKind.wrap,IntKind.bits,IntKind.signed,aaV,aa2,ge_iff_le,Nat.reduceSub,Int.reducePow];split<;>omega
 rw[this];exact h
def QX (x:Value):au->List Own->Value->Prop:=fun _ Lo v=>Lo=[]/\v=x
theorem QX.mono {x:Value}:∀F G L v,au.le F G->QX x F L v->QX x G L v:=fun _ _ _ _ _ h=>h
theorem wf_i64 {n:Int}(h:(Lit.int .i64 n).wf=true):-9223372036854775808<=n/\n<=9223372036854775807:=by
 simpa[Lit.wf,IntKind.min,IntKind.max,IntKind.bits,IntKind.signed] using h
end Go.Fr
namespace Go.Fr.T
open Go Go.RowKit Go.Fr
inductive C where
 | int (k:IntKind) (n:Int)
 | bool (b:Bool)
 | str (s:ByteArray)
 | sl (els:List (List C))
 | slx (els:List (List C))
 | nils
 | rw(k:Nat)
 | own (k off:Nat)
 | ownv (k off:Nat)
 | pt (es:List C) (off:Nat)
 | elr (k j off:Nat)
 | fn (f:Nat) (fi ca:List C)
 | agg (cs:List C)
 | tup (cs:List C)
 | nilp
 | nilf
 | ifc (t:TypeId) (c:C)
 | opq (k:Nat)
 | mval (nm:String) (c:C)
 | mof (t:TypeId) (nm:String)
 | mpr (k:Nat)
 | und
 | any
 deriving Inhabited
inductive TO where
 | box (t:TypeId) (cs:List C)
 | row (t:TypeId) (sz:Nat) (els:List (List C))
 | map (es:List (C×C))
abbrev TL:=List (Nat×TO)
def TL.get:TL->Nat->Option TO
 | [],_=>none
 | (j,o)::l,k=>match Nat.beq j k with | true=>some o | false=>TL.get l k
def TL.set:TL->Nat->TO->TL
 | [],k,o=>[(k,o)]
 | (j,p)::l,k,o=>match Nat.beq j k with
  | true=>(k,o)::l
  | false=>match Nat.ble j k with
   | true=>(j,p)::TL.set l k o
   | false=>(k,o)::(j,p)::l
def TL.del:TL->Nat->TL
 | [],_=>[]
 | (j,o)::l,k=>match Nat.beq j k with | true=>TL.del l k | false=>(j,o)::TL.del l k
def TL.sub (L:TL):List Nat->Option (List TO)
 | []=>some []
 | k::ks=>match L.get k,TL.sub L ks with
  | some o,some l=>some (o::l)
  | _,_=>none
def TL.aae (L:TL):List Nat->TL
 | []=>L
 | k::ks=>TL.aae (L.del k) ks
def TL.puts (L:TL):List Nat->List TO->TL
 | k::ks,o::l=>TL.puts (L.set k o) ks l
 | _,_=>L
def pU:Nat->List TO->TL
 | _,[]=>[]
 | k,o::l=>(k,o)::pU (k+1) l
def cC (l:List TO):TL:=pU 1000 l
def C.one:C->Bool
 | .int _ _=>true
 | .bool _=>true
 | .str _=>true
 | .sl _=>true
 | .slx _=>true
 | .nils=>true
 | .rw _=>true
 | .own _ _=>true
 | .pt _ _=>true
 | .fn _ _ _=>true
 | .nilp=>true
 | .nilf=>true
 | .ifc _ _=>true
 | .opq _=>true
 | .mval _ _=>true
 | .mof _ _=>true
 | .mpr _=>true
 | _=>false
def eH:List C->Bool
 | []=>true
 | c::l=>match c.one with | true=>eH l | false=>false
def C.aal:C->Bool
 | .int _ _=>true
 | .bool _=>true
 | .str _=>true
 | .sl _=>true
 | .slx _=>true
 | .nils=>true
 | .pt _ _=>true
 | .nilp=>true
 | .nilf=>true
 | .ifc _ _=>true
 | .opq _=>true
 | .mval _ _=>true
 | .mof _ _=>true
 | _=>false
def jh:List C->Bool
 | []=>true
 | c::l=>match c.aal with | true=>jh l | false=>false
def C.pure:C->Bool
 | .fn _ a b=>match jh a with | true=>jh b | false=>false
 | c=>c.aal
def iL:List C->Bool
 | []=>true
 | c::l=>match c.pure with | true=>iL l | false=>false
def C.mp (g:C->C):Nat->C->C
 | _,.int k n=>g (.int k n)
 | _,.bool b=>g (.bool b)
 | _,.str s=>g (.str s)
 | _,.sl els=>g (.sl els)
 | _,.slx els=>g (.slx els)
 | _,.nils=>g .nils
 | _,.rw j=>g (.rw j)
 | _,.own j o=>g (.own j o)
 | _,.ownv j o=>g (.ownv j o)
 | _,.pt es o=>g (.pt es o)
 | _,.elr j a b=>g (.elr j a b)
 | _,.nilp=>g .nilp
 | _,.nilf=>g .nilf
 | _,.ifc t c=>g (.ifc t c)
 | _,.opq k=>g (.opq k)
 | _,.mval d c=>g (.mval d c)
 | _,.mof t d=>g (.mof t d)
 | _,.mpr j=>g (.mpr j)
 | _,.und=>g .und
 | _,.any=>g .any
 | 0,.fn _ _ _=>.any
 | 0,.agg _=>.any
 | 0,.tup _=>.any
 | n+1,.fn f e h=>.fn f (e.map (C.mp g n)) (h.map (C.mp g n))
 | n+1,.agg cs=>.agg (cs.map (C.mp g n))
 | n+1,.tup cs=>.tup (cs.map (C.mp g n))
def fP (k:Nat):C->C
 | .int k n=>.int k n
 | .bool b=>.bool b
 | .str s=>.str s
 | .sl els=>.sl els
 | .slx els=>.slx els
 | .nils=>.nils
 | .rw j=>match Nat.beq j k with | true=>.any | false=>.rw j
 | .own j o=>.own j o
 | .ownv j o=>.ownv j o
 | .pt es o=>.pt es o
 | .elr j a b=>match Nat.beq j k with | true=>.any | false=>.elr j a b
 | .fn f e h=>.fn f e h
 | .agg cs=>.agg cs
 | .tup cs=>.tup cs
 | .nilp=>.nilp
 | .nilf=>.nilf
 | .ifc t c=>.ifc t c
 | .opq k=>.opq k
 | .mval d c=>.mval d c
 | .mof t d=>.mof t d
 | .mpr j=>.mpr j
 | .und=>.und
 | .any=>.any
def C.kill (k:Nat) (c:C):C:=C.mp (fP k) 3 c
def C.kills:List Nat->C->C
 | [],c=>c
 | k::ks,c=>C.kills ks (c.kill k)
def pV:C->C
 | .int k n=>.int k n
 | .bool b=>.bool b
 | .str s=>.str s
 | .sl els=>.sl els
 | .slx els=>.slx els
 | .nils=>.nils
 | .rw j=>.any
 | .own j o=>.own j o
 | .ownv j o=>.ownv j o
 | .pt es o=>.pt es o
 | .elr j a b=>.any
 | .fn f e h=>.fn f e h
 | .agg cs=>.agg cs
 | .tup cs=>.tup cs
 | .nilp=>.nilp
 | .nilf=>.nilf
 | .ifc t c=>.ifc t c
 | .opq k=>.opq k
 | .mval d c=>.mval d c
 | .mof t d=>.mof t d
 | .mpr j=>.mpr j
 | .und=>.und
 | .any=>.any
def C.aaL (c:C):C:=C.mp pV 3 c
def mM (k:Nat) (l:List (List C)):C->C
 | .int k n=>.int k n
 | .bool b=>.bool b
 | .str s=>.str s
 | .sl els=>.sl els
 | .slx els=>.slx els
 | .nils=>.nils
 | .rw j=>match Nat.beq j k with | true=>.sl l | false=>.rw j
 | .own j o=>.own j o
 | .ownv j o=>.ownv j o
 | .pt es o=>.pt es o
 | .elr j a b=>match Nat.beq j k with | true=>.any | false=>.elr j a b
 | .fn f e h=>.fn f e h
 | .agg cs=>.agg cs
 | .tup cs=>.tup cs
 | .nilp=>.nilp
 | .nilf=>.nilf
 | .ifc t c=>.ifc t c
 | .opq k=>.opq k
 | .mval d c=>.mval d c
 | .mof t d=>.mof t d
 | .mpr j=>.mpr j
 | .und=>.und
 | .any=>.any
def C.frz (k:Nat) (els:List (List C)) (c:C):C:=C.mp (mM k els) 3 c
def qN (k:Nat) (es:List C):C->C
 | .int k n=>.int k n
 | .bool b=>.bool b
 | .str s=>.str s
 | .sl els=>.sl els
 | .slx els=>.slx els
 | .nils=>.nils
 | .rw j=>.rw j
 | .own j o=>match Nat.beq j k with | true=>.pt es o | false=>.own j o
 | .ownv j o=>match Nat.beq j k with | true=>.pt es o | false=>.ownv j o
 | .pt es o=>.pt es o
 | .elr j a b=>.elr j a b
 | .fn f e h=>.fn f e h
 | .agg cs=>.agg cs
 | .tup cs=>.tup cs
 | .nilp=>.nilp
 | .nilf=>.nilf
 | .ifc t c=>.ifc t c
 | .opq k=>.opq k
 | .mval d c=>.mval d c
 | .mof t d=>.mof t d
 | .mpr j=>match Nat.beq j k with | true=>.any | false=>.mpr j
 | .und=>.und
 | .any=>.any
def C.frb (k:Nat) (es:List C) (c:C):C:=C.mp (qN k es) 3 c
def wo (r:Nat->Option Nat):C->C
 | .int k n=>.int k n
 | .bool b=>.bool b
 | .str s=>.str s
 | .sl els=>.sl els
 | .slx els=>.slx els
 | .nils=>.nils
 | .rw j=>match r j with | some i=>.rw i | none=>.any
 | .own j o=>match r j with | some i=>.own i o | none=>.any
 | .ownv j o=>match r j with | some i=>.own i o | none=>.any
 | .pt es o=>.pt es o
 | .elr j a b=>.any
 | .fn f e h=>.fn f e h
 | .agg cs=>.agg cs
 | .tup cs=>.tup cs
 | .nilp=>.nilp
 | .nilf=>.nilf
 | .ifc t c=>.ifc t c
 | .opq k=>.opq k
 | .mval d c=>.mval d c
 | .mof t d=>.mof t d
 | .mpr j=>match r j with | some i=>.mpr i | none=>.any
 | .und=>.und
 | .any=>.any
def C.ren (f:Nat->Option Nat) (c:C):C:=C.mp (wo f) 3 c
def TO.aad (g:C->C):TO->TO
 | .box t cs=>.box t (cs.map g)
 | .row t sz els=>.row t sz els
 | .map es=>.map es
def TL.aad (g:C->C):TL->TL
 | []=>[]
 | (k,o)::l=>(k,o.aad g)::TL.aad g l
def bA:List Nat->Nat->Nat->Option Nat
 | [],_,_=>none
 | k::ks,i,j=>match Nat.beq j k with | true=>some i | false=>bA ks (i+1) j
def aI (ko:List Nat) (j:Nat):Option Nat:=match Nat.ble 1000 j with | true=>ko[j-1000]? | false=>none
def C.can:C->C
 | .int k n=>.int k n
 | .bool b=>.bool b
 | .str s=>.str s
 | .sl els=>.sl els
 | .slx els=>.sl els
 | .nils=>.sl []
 | .rw j=>.rw j
 | .own j o=>.own j o
 | .ownv j o=>.ownv j o
 | .pt es o=>.pt es o
 | .elr j a b=>.elr j a b
 | .fn f e h=>.fn f e h
 | .agg cs=>.agg cs
 | .tup cs=>.tup cs
 | .nilp=>.nilp
 | .nilf=>.nilf
 | .ifc t c=>.ifc t c
 | .opq k=>.opq k
 | .mval d c=>.mval d c
 | .mof t d=>.mof t d
 | .mpr j=>.mpr j
 | .und=>.und
 | .any=>.any
def C.aaj:C->C
 | .int k n=>.int k n
 | .bool b=>.bool b
 | .str s=>.str s
 | .sl els=>.sl els
 | .slx els=>.sl els
 | .nils=>.sl []
 | .rw j=>.rw j
 | .own j o=>.own j o
 | .ownv j o=>.ownv j o
 | .pt es o=>.pt es o
 | .elr j a b=>.elr j a b
 | .fn f e h=>.fn f e h
 | .agg cs=>.agg (cs.map C.can)
 | .tup cs=>.tup cs
 | .nilp=>.nilp
 | .nilf=>.nilf
 | .ifc t c=>.ifc t c
 | .opq k=>.opq k
 | .mval d c=>.mval d c
 | .mof t d=>.mof t d
 | .mpr j=>.mpr j
 | .und=>.und
 | .any=>.any
def C.aat:C->C
 | .int k n=>.int k n
 | .bool b=>.bool b
 | .str s=>.str s
 | .sl els=>.sl els
 | .slx els=>.sl els
 | .nils=>.sl []
 | .rw j=>.rw j
 | .own j o=>.own j o
 | .ownv j o=>.ownv j o
 | .pt es o=>.pt es o
 | .elr j a b=>.elr j a b
 | .fn f e h=>.fn f e h
 | .agg cs=>.agg (cs.map C.can)
 | .tup cs=>.tup (cs.map C.aaj)
 | .nilp=>.nilp
 | .nilf=>.nilf
 | .ifc t c=>.ifc t c
 | .opq k=>.opq k
 | .mval d c=>.mval d c
 | .mof t d=>.mof t d
 | .mpr j=>.mpr j
 | .und=>.und
 | .any=>.any
abbrev aK:=Nat->C
def bq (d:Option Nat) (c:C) (ρ:aK):aK :=
 match d with
 | some d=>fun j=>match Nat.beq j d with | true=>c | false=>ρ j
 | none=>ρ
def rF:Value->C
 | .int k n=>match(Lit.int k n).wf with | true=>.int k n | false=>.any
 | .bool b=>.bool b
 | .string s=>match Nat.ble s.size maxLen with | true=>.str s | false=>.any
 | .slice none 0 0=>.nils
 | .pointer none=>.nilp
 | .nilFunc=>.nilf
 | .nilIface=>.opq 0
 | .func (.methodOf t a) ⟨[]⟩ ⟨[]⟩=>.mof t a
 | _=>.any
def XQ (a:String) (c:C):C :=
 match c with
 | .ifc t c=>.mval a (.ifc t c)
 | _=>.any
def cv:Value->C
 | .agg cs=>.agg (cs.toList.map rF)
 | v=>rF v
def cO (ρ:aK):X->C
 | .t n=>ρ n
 | .c v=>cv v
 | .fn f=>.fn f [] []
 | .mt a n=>XQ a (ρ n)
def C.cel:C->C
 | .int k n=>.int k n
 | .bool b=>.bool b
 | .str s=>.str s
 | .sl els=>.sl els
 | .slx els=>.slx els
 | .nils=>.nils
 | .rw j=>.rw j
 | .own j o=>.own j o
 | .ownv j o=>.own j o
 | .pt es o=>.pt es o
 | .elr j a b=>.any
 | .fn f e h=>.fn f e h
 | .agg cs=>.agg cs
 | .tup cs=>.tup cs
 | .nilp=>.nilp
 | .nilf=>.nilf
 | .ifc t c=>.ifc t c
 | .opq k=>.opq k
 | .mval d c=>.mval d c
 | .mof t d=>.mof t d
 | .mpr j=>.mpr j
 | .und=>.und
 | .any=>.any
def C.slt:C->C
 | .int k n=>.int k n
 | .bool b=>.bool b
 | .str s=>.str s
 | .sl els=>.sl els
 | .slx els=>.slx els
 | .nils=>.nils
 | .rw j=>.rw j
 | .own j o=>.ownv j o
 | .ownv j o=>.ownv j o
 | .pt es o=>.pt es o
 | .elr j a b=>.elr j a b
 | .fn f e h=>.fn f e h
 | .agg cs=>.agg cs
 | .tup cs=>.tup cs
 | .nilp=>.nilp
 | .nilf=>.nilf
 | .ifc t c=>.ifc t c
 | .opq k=>.opq k
 | .mval d c=>.mval d c
 | .mof t d=>.mof t d
 | .mpr j=>.mpr j
 | .und=>.und
 | .any=>.any
def C.aaC:C->C
 | .int k n=>.int k n
 | .bool b=>.bool b
 | .str s=>.str s
 | .sl els=>.sl els
 | .slx els=>.slx els
 | .nils=>.nils
 | .rw j=>.rw j
 | .own j o=>.own j o
 | .ownv j o=>.own j o
 | .pt es o=>.pt es o
 | .elr j a b=>.elr j a b
 | .fn f e h=>.fn f e h
 | .agg cs=>.agg cs
 | .tup cs=>.tup cs
 | .nilp=>.nilp
 | .nilf=>.nilf
 | .ifc t c=>.ifc t c
 | .opq k=>.opq k
 | .mval d c=>.mval d c
 | .mof t d=>.mof t d
 | .mpr j=>.mpr j
 | .und=>.und
 | .any=>.any
def C.okc:C->Bool
 | .any=>false
 | .und=>false
 | .elr _ _ _=>false
 | .tup _=>false
 | _=>true
def cF:C->List C
 | .int k n=>[.int k n]
 | .bool b=>[.bool b]
 | .str s=>[.str s]
 | .sl els=>[.sl els]
 | .slx els=>[.slx els]
 | .nils=>[.nils]
 | .rw j=>[.rw j]
 | .own j o=>[.own j o]
 | .ownv j o=>[.own j o]
 | .pt es o=>[.pt es o]
 | .elr j a b=>[.any]
 | .fn f e h=>[.fn f e h]
 | .agg cs=>cs
 | .tup cs=>[.tup cs]
 | .nilp=>[.nilp]
 | .nilf=>[.nilf]
 | .ifc t c=>[.ifc t c]
 | .opq k=>[.opq k]
 | .mval d c=>[.mval d c]
 | .mof t d=>[.mof t d]
 | .mpr j=>[.mpr j]
 | .und=>[.und]
 | .any=>[.any]
def eW:List C->Nat->Bool
 | [],0=>true
 | _::l,n+1=>eW l n
 | _,_=>false
def EG (agg:Bool) (cs:List C):C :=
 match agg,cs with
 | true,cs=>.agg cs
 | false,[c]=>c.slt
 | false,_=>.any
def eY (ρ:aK):List X->List C
 | []=>[]
 | x::xs=>(cO ρ x).cel::eY ρ xs
def uG (ρ:aK):List X->List (List C)
 | []=>[]
 | x::xs=>(cF (cO ρ x)).map C.can::uG ρ xs
def pW (ρ:aK) (sz:Nat):List X->Bool
 | []=>true
 | x::xs=>match(cO ρ x).okc,eW (cF (cO ρ x)) sz,eH (cF (cO ρ x)),iL (cF (cO ρ x)) with
  | true,true,true,true=>pW ρ sz xs
  | _,_,_,_=>false
def jd (cs:List C) (off:Nat) (a:List C):List C:=cs.take off++a++cs.drop (off+a.length)
def uH (ρ:aK):List C->List (Nat×Nat×X)->Option (List C)
 | zs,[]=>some zs
 | zs,(off,n,x)::ps=>match(cO ρ x).okc,eW (cF (cO ρ x)) n with
  | true,true=>uH ρ (jd zs off (cF (cO ρ x))) ps
  | _,_=>none
def MP (ρ:aK) (d:Int):Option X->Option Int
 | none=>some d
 | some x=>match cO ρ x with | .int _ i=>some i | _=>none
def UM (mx:Bool):Int->List C->Option Int
 | a,[]=>some a
 | a,.int _ b::l=>UM mx (match mx with | true=>if b>a then b else a | false=>if b<a then b else a) l
 | _,_=>none
abbrev JO (b:UInt8):C:=.int .u8 b.toNat
def EH (a:List UInt8):List (List C):=a.map fun b=>[JO b]
def fc (c:C) (K:C->Prop):Prop :=
 match c with
 | .int k n=>K (.int k n)
 | .bool b=>K (.bool b)
 | .str s=>K (.str s)
 | .sl els=>K (.sl els)
 | .slx els=>K (.slx els)
 | .nils=>K .nils
 | .rw k=>K (.rw k)
 | .own k off=>K (.own k off)
 | .ownv k off=>K (.ownv k off)
 | .pt es off=>K (.pt es off)
 | .elr k j off=>K (.elr k j off)
 | .fn f d e=>K (.fn f d e)
 | .agg cs=>K (.agg cs)
 | .tup cs=>K (.tup cs)
 | .nilp=>K .nilp
 | .nilf=>K .nilf
 | .ifc t c=>K (.ifc t c)
 | .opq k=>K (.opq k)
 | .mval a c=>K (.mval a c)
 | .mof t a=>K (.mof t a)
 | .mpr j=>K (.mpr j)
 | .und=>K .und
 | .any=>K .any
def fl:List C->(List C->Prop)->Prop
 | [],K=>K []
 | c::cs,K=>fc c fun c=>fl cs fun cs=>K (c::cs)
def fO:TO->(TO->Prop)->Prop
 | .box t cs,K=>fl cs fun cs=>K (.box t cs)
 | .row t sz els,K=>K (.row t sz els)
 | .map es,K=>K (.map es)
def fT:TL->(TL->Prop)->Prop
 | [],K=>K []
 | (k,o)::l,K=>fO o fun o=>fT l fun l=>K ((k,o)::l)
def Am (c:C) (K:C->Prop):Prop :=
 match c with
 | .agg cs=>fl cs fun cs=>K (.agg cs)
 | c=>fc c K
theorem P1 {c:C}{K:C->Prop}:fc c K=K c:=by cases c<;>rfl
theorem eX:∀{cs:List C}{K:List C->Prop},fl cs K=K cs
 | [],K=>rfl
 | c::cs,K=>by simp only[fl,P1,eX]
theorem SL {o:TO}{K:TO->Prop}:fO o K=K o:=by cases o<;>simp only[fO,eX]
theorem fQ:∀{L:TL}{K:TL->Prop},fT L K=K L
 | [],K=>rfl
 | (k,o)::l,K=>by simp only[fT,SL,fQ]
theorem eS {c:C}{K:C->Prop}:Am c K=K c:=by cases c<;>simp only[Am,eX,P1]
mutual
/-- the bounds that all data of the machine keeps -/
def Wf:C->Prop
 | .int k n=>(Lit.int k n).wf=true
 | .str s=>s.size<=maxLen
 | .sl els=>els.length<=maxLen/\xC els
 | .slx els=>els.length<=maxLen/\xC els
 | .pt es _=>uq es
 | .fn _ fi ca=>uq fi/\uq ca
 | .agg cs=>uq cs
 | .tup cs=>uq cs
 | _=>True
def uq:List C->Prop
 | []=>True
 | c::l=>Wf c/\uq l
def xC:List (List C)->Prop
 | []=>True
 | es::l=>uq es/\xC l
end
def Vc:List (C×C)->Prop
 | []=>True
 | (k,v)::l=>Wf k/\Wf v/\Vc l
def TO.Wf:TO->Prop
 | .box _ cs=>uq cs
 | .row _ _ els=>xC els
 | .map es=>Vc es
structure uI (els:List (List C)) (i:Int) (sz:Nat) (K:List C->Prop):Prop where
 out:∃es,0<=i/\els[i.toNat]?=some es/\eW es sz=true/\K es
structure EI (els:List (List C)) (j off n:Nat) (K:List C->Prop):Prop where
 out:∃es,els[j]?=some es/\eW ((es.drop off).take n) n=true/\K ((es.drop off).take n)
structure Ve (els:List (List C)) (K:List UInt8->Prop):Prop where
 out:∃bs,els=EH bs/\K bs
structure SM (l h:Int) (els:List (List C)) (sz:Nat) (K:Nat->Nat->Prop):Prop where
 lo:0<=l
 le:l<=h
 hi:h<=els.length
 sizes:∀es∈els,es.length=sz
 out:K l.toNat h.toNat
structure vQ (els news:List (List C)) (sz bytes:Nat) (K:Prop):Prop where
 sizes:∀es∈news,es.length=sz
 max:els.length+news.length<=maxLen
 room:(els.length+news.length)*bytes<=140737488355328
 out:K
def jF:Bool->C->C->Option Bool
 | false,.int .i64 a,.int .i64 b=>some (decide (a=b))
 | true,.str a,.str b=>some (decide (a.data.toList=b.data.toList))
 | _,_,_=>none
def JP:Bool->C->Bool
 | false,.int .i64 _=>true
 | true,.str _=>true
 | _,_=>false
def vA (str:Bool) (key:C):List (C×C)->Option (Option C)
 | []=>some none
 | (k,v)::l=>match jF str key k with
  | some true=>some (some v)
  | some false=>vA str key l
  | none=>none
def EJ (str:Bool) (key val:C):List (C×C)->Option (List (C×C))
 | []=>some [(key,val)]
 | (k,v)::l=>match jF str key k with
  | some true=>some ((key,val)::l)
  | some false=>match EJ str key val l with | some l'=>some ((k,v)::l') | none=>none
  | none=>none
structure xD (str:Bool) (es:List (C×C)) (key:C) (Y:C->Prop) (N:Prop):Prop where
 out:(∃v,vA str key es=some (some v)/\Y v)\/(vA str key es=some none/\N)
structure P2 (str:Bool) (es:List (C×C)) (key val:C) (K:List (C×C)->Prop):Prop where
 out:∃es',EJ str key val es=some es'/\K es'
structure Vf (i:Int) (K:Nat->Prop):Prop where
 out:∃m:Nat,i=m/\K m
def xE:List Nat->TL->aK->List C->(TL->aK->List C->Prop)->Prop
 | [],L,ρ,a,K=>K L ρ a
 | k::ks,L,ρ,a,K=>match L.get k with
  | some (.row _ _ els)=>xE ks ((L.del k).aad (C.frz k els)) (fun j=>(ρ j).frz k els) (a.map (C.frz k els)) K
  | _=>False
def qO (L:TL):C->Bool
 | .rw k=>match L.get k with | some (.row _ _ _)=>true | _=>false
 | .own k _=>match L.get k with | some (.box _ _)=>true | _=>false
 | .mpr k=>match L.get k with | some (.map _)=>true | _=>false
 | .ownv _ _=>false
 | .elr _ _ _=>false
 | _=>true
def fk (L:TL):Nat->C->Bool
 | n+1,.agg cs=>cs.all (fk L n)
 | n+1,.tup cs=>cs.all (fk L n)
 | n+1,.fn _ a b=>a.all (fk L n)&&b.all (fk L n)
 | 0,.agg _=>false
 | 0,.tup _=>false
 | 0,.fn _ _ _=>false
 | _,c=>qO L c
def MR (L L1:TL) (c a:C):Prop :=
 a=.any\/(c=a/\fk L1 3 a=true)\/(c=.nils/\a=.sl [])\/(c=.nils/\∃k t sz,a=.rw k/\L.get k=none/\L1.get k=some (.row t sz []))\/∃els,c=.slx els/\a=.sl els
def JQ (L L1:TL):List C->List C->Prop
 | [],l=>l=[]
 | c::cs,l=>∃a cs',l=a::cs'/\MR L L1 c a/\JQ L L1 cs cs'
def P3 (L1:TL):TO->Bool
 | .box _ cs=>cs.all (fk L1 3)
 | .row _ _ _=>true
 | .map _=>true
def Vg (L L1:TL) (o o':TO):Prop:=(o=o'/\P3 L1 o'=true)\/∃t cs cs',o=.box t cs/\o'=.box t cs'/\JQ L L1 cs cs'
def gives (L L1:TL):TL->Prop
 | []=>True
 | (k,o)::l=>((∃p,L.get k=some p/\Vg L L1 p o)\/(L.get k=none/\∃t sz,o=.row t sz []))/\gives L L1 l
def mV (L L1:TL):List Nat->List C->aK->Prop
 | k::ks,v::a,ρ=>MR L L1 (ρ k) v/\mV L L1 ks a ρ
 | _,_,_=>True
def pX:List Nat->List C->aK->aK
 | k::ks,v::a,ρ=>bq (some k) v (pX ks a ρ)
 | _,_,ρ=>ρ
def aP:List Nat->Bool
 | []=>true
 | k::ks=>match eZ ks k with | true=>false | false=>aP ks
def MT (F:au) (b o off:Nat) (d:List Value):Prop :=
 ∃a c t e,F b=some (.cells c t e)/\o=a+off/\∀(i:Nat) (v:Value),d[i]?=some v->c[a+i]?=some v
mutual
def Rel (F:au):Loc->C->Value->Prop
 | _,.int k n,v=>v=.int k n/\(Lit.int k n).wf=true
 | _,.bool b,v=>v=.bool b
 | _,.str s,v=>v=.string s/\s.size<=maxLen
 | _,.sl els,v=>∃a c,v=.slice a els.length c/\els.length<=c/\els.length<=maxLen/\(a=none->els=[]/\c=0)/\∃sz,gk F a sz 0 els
 | _,.slx els,v=>∃a,v=.slice (some a) els.length els.length/\els.length<=maxLen/\∃sz,gk F (some a) sz 0 els
 | _,.nils,v=>v=.slice none 0 0
 | L,.rw k,v=>∃a c t sz n xs,v=.slice a n c/\L.get k=some (.row v t sz n xs)
 | L,.own k off,v=>∃g t cs,L.get k=some (.box g t cs)/\v=.pointer (some ⟨g,off,none⟩)
 | _,.pt es off,v=>∃b o vs,v=.pointer (some ⟨b,o,none⟩)/\MT F b o off vs/\eH es=true/\ax F [] es vs
 | L,.fn f fi ca,v=>∃fi' ca',v=.func (.func f) fi'.toArray ca'.toArray/\ax F L fi fi'/\ax F L ca ca'
 | L,.agg cs,v=>∃vs,v=.agg vs.toArray/\ax F L cs vs
 | L,.tup cs,v=>∃vs,v=.tuple vs.toArray/\ax F L cs vs
 | _,.nilp,v=>v=.pointer none
 | _,.nilf,v=>v=.nilFunc
 | _,.ifc t c,v=>∃u,v=.iface t u/\Rel F [] c u
 | _,.opq k,v=>gJ k F v
 | _,.mval nm c,v=>∃u,v=.func (.method nm) #[u] #[]/\Rel F [] c u
 | _,.mof t nm,v=>v=.func (.methodOf t nm) #[] #[]
 | L,.mpr k,v=>∃g cs,L.get k=some (.box g 0 cs)/\v=.map (some g)
 | _,.und,v=>v=undef
 | _,.any,_=>True
 | _,.ownv _ _,_=>False
 | _,.elr _ _ _,_=>False
def ax (F:au):Loc->List C->List Value->Prop
 | _,[],vs=>vs=[]
 | L,c::cs,vs=>∃v vs',vs=v::vs'/\Rel F L c v/\ax F L cs vs'
def gk (F:au) (a:Option Addr) (sz:Nat):Nat->List (List C)->Prop
 | _,[]=>True
 | i,es::l=>(∃vs,vs.length=sz/\dG F a (i*sz) vs/\eH es=true/\ax F [] es vs)/\gk F a sz (i+1) l
end
def aN (F:au) (sz:Nat):List (List C)->List Value->Prop
 | [],xs=>xs=[]
 | es::l,xs=>∃b a,xs=b++a/\b.length=sz/\eH es=true/\ax F [] es b/\aN F sz l a
def tyOk (t g a:Nat):Prop:=a<1048576/\(t=a\/t=(g+1)*1048576+a)/\a≠0
def fC (F:au):List (C×C)->List Value->Prop
 | [],b=>b=[]
 | (k,c)::l,b=>∃kv v a,b=.agg #[kv,v]::a/\Rel F [] k kv/\Rel F [] c v/\fC F l a
def cD (F:au) (L:Loc):TO->Own->Prop
 | .box t cs,.box g b e=>tyOk t g b/\ax F L cs e
 | .row t sz els,.row v b d n xs=>t=b/\sz=d/\n=els.length/\(n<=maxLen/\∃a c,v=.slice a n c/\(a=none->n=0))/\aN F sz els xs
 | .map es,.box g b e=>b=0/\fC F es e
 | _,_=>False
def xG (F:au) (L:Loc):Option TO->Option Own->Prop
 | none,none=>True
 | some to,some o=>cD F L to o
 | _,_=>False
def bM (F:au) (L:Loc) (M:TL):Prop:=∀k,xG F L (M.get k) (L.get k)
def UN (sv:SV) (v:Value):Prop:=sv=.v v\/∃b o j,sv=.el (some ⟨b,o,none⟩) j/\v=.pointer (some ⟨b,o+j,none⟩)
def aJ (F:au) (L:Loc):C->SV->Prop
 | .own k off,sv=>sv=.own k off/\∃g t cs,L.get k=some (.box g t cs)
 | .pt es off,sv=>∃b o j d,(sv=.v (.pointer (some ⟨b,o,none⟩))/\j=0\/sv=.el (some ⟨b,o,none⟩) j)/\MT F b (o+j) off d/\eH es=true/\ax F [] es d
 | .elr k j off,sv=>∃a t sz n c xs,sv=.el (some a) (j*sz+off)/\L.get k=some (.row (.slice (some a) n c) t sz n xs)
 | .ownv k off,sv=>∃v,UN sv v/\Rel F L (.own k off) v
 | .any,_=>True
 | c,sv=>∃v,sv=.v v/\Rel F L c v
def Kp (G:Nat->Option (Nat×TypeId)) (L:Loc):Prop:=∀k g t,G k=some (g,t)->∃cs,L.get k=some (.box g t cs)
structure TS (G:Nat->Option (Nat×TypeId)) (F:au) (L:Loc) (ρ:Env) (M:TL) (τ:aK):Prop where
 tl:bM F L M
 env:∀j,aJ F L (τ j) (ρ j)
 kp:Kp G L
 glob:sK F
def Own.like:Own->Own->Prop
 | .box g t _,.box e c _=>g=e/\t=c
 | .row v _ sz n _,.row d _ a b _=>v=d/\sz=a/\n=b
 | _,_=>False
theorem Own.aah:∀o:Own,Own.like o o
 | .box ..=>⟨rfl,rfl⟩
 | .row ..=>⟨rfl,rfl,rfl⟩
theorem MT.mono {F F':au}(h:F.le F') {b o off:Nat}{e:List Value}(c:MT F b o off e):MT F' b o off e:=by
 obtain⟨a,d,t,j,h1,f⟩:=c;exact⟨a,d,t,j,h _ _ h1,f⟩
mutual
theorem Rel.mono {F F':au}(h:F.le F'):∀{L:Loc}{c:C}{v:Value},Rel F L c v->Rel F' L c v
 | _,.int k n,v,r=>r
 | _,.bool b,v,r=>r
 | _,.str s,v,r=>r
 | _,.sl els,v,r=>by
  simp only[Rel] at r ⊢;obtain⟨a,c,h1,h2,h3,h4,sz,h5⟩:=r;exact⟨a,c,h1,h2,h3,h4,sz,gk.mono h h5⟩
 | _,.slx els,v,r=>by
  simp only[Rel] at r ⊢;obtain⟨a,h1,h2,sz,h5⟩:=r;exact⟨a,h1,h2,sz,gk.mono h h5⟩
 | _,.nils,v,r=>r
 | L,.rw k,v,r=>by simp only[Rel] at r ⊢;exact r
 | L,.own k off,v,r=>by simp only[Rel] at r ⊢;exact r
 | _,.pt es off,v,r=>by
  simp only[Rel] at r ⊢;obtain⟨b,o,vs,h1,h2,h3,h4⟩:=r;exact⟨b,o,vs,h1,h2.mono h,h3,ax.mono h h4⟩
 | L,.fn f fi ca,v,r=>by
  simp only[Rel] at r ⊢;obtain⟨fi',ca',h1,h2,h3⟩:=r;exact⟨fi',ca',h1,ax.mono h h2,ax.mono h h3⟩
 | L,.agg cs,v,r=>by
  simp only[Rel] at r ⊢;obtain⟨vs,h1,h2⟩:=r;exact⟨vs,h1,ax.mono h h2⟩
 | L,.tup cs,v,r=>by
  simp only[Rel] at r ⊢;obtain⟨vs,h1,h2⟩:=r;exact⟨vs,h1,ax.mono h h2⟩
 | _,.nilp,v,r=>r
 | _,.nilf,v,r=>r
 | _,.ifc t c,v,r=>by
  simp only[Rel] at r ⊢;obtain⟨u,h1,h2⟩:=r;exact⟨u,h1,Rel.mono h h2⟩
 | _,.opq k,v,r=>by
  simp only[Rel] at r ⊢;exact r.mono h
 | _,.mval nm c,v,r=>by
  simp only[Rel] at r ⊢;obtain⟨u,h1,h2⟩:=r;exact⟨u,h1,Rel.mono h h2⟩
 | _,.mof t nm,v,r=>r
 | L,.mpr k,v,r=>by simp only[Rel] at r ⊢;exact r
 | _,.und,v,r=>r
 | _,.any,v,r=>trivial
 | _,.ownv _ _,v,r=>r
 | _,.elr _ _ _,v,r=>r
theorem ax.mono {F F':au}(h:F.le F'):∀{L:Loc}{cs:List C}{vs:List Value},ax F L cs vs->ax F' L cs vs
 | _,[],vs,r=>by simp only[ax] at r ⊢;exact r
 | L,c::cs,vs,r=>by
  simp only[ax] at r ⊢;obtain⟨v,vs',h1,h2,h3⟩:=r;exact⟨v,vs',h1,Rel.mono h h2,ax.mono h h3⟩
theorem gk.mono {F F':au}(h:F.le F') {a:Option Addr}{sz:Nat}:∀{i:Nat}{l:List (List C)},gk F a sz i l->gk F' a sz i l
 | _,[],r=>by simp only[gk]
 | i,es::l,r=>by
  simp only[gk] at r ⊢;obtain⟨⟨vs,h1,h2,h3,h4⟩,h5⟩:=r;exact⟨⟨vs,h1,h2.mono h,h3,ax.mono h h4⟩,gk.mono h h5⟩
end
theorem aN.mono {F F':au}(h:F.le F') {sz:Nat}:∀{l:List (List C)}{xs:List Value},aN F sz l xs->aN F' sz l xs
 | [],xs,r=>r
 | es::l,xs,r=>by
  simp only[aN] at r ⊢;obtain⟨e,a,h1,d,c,f,b⟩:=r;exact⟨e,a,h1,d,c,f.mono h,aN.mono h b⟩
theorem fC.mono {F F':au}(h:F.le F'):∀{l:List (C×C)}{a:List Value},fC F l a->fC F' l a
 | [],a,r=>r
 | (k,c)::l,a,r=>by
  simp only[fC] at r ⊢;obtain⟨kv,v,b,h1,e,d,f⟩:=r;exact⟨kv,v,b,h1,e.mono h,d.mono h,fC.mono h f⟩
theorem cD.mono {F F':au}(h:F.le F') {L:Loc}:∀{o:TO}{p:Own},cD F L o p->cD F' L o p
 | .box t cs,.box g a c,r=>⟨r.1,r.2.mono h⟩
 | .row t sz els,.row v a b n xs,r=>⟨r.1,r.2.1,r.2.2.1,r.2.2.2.1,r.2.2.2.2.mono h⟩
 | .box _ _,.row ..,r=>r.elim
 | .row ..,.box ..,r=>r.elim
 | .map _,.row ..,r=>r.elim
 | .map es,.box g a c,r=>⟨r.1,r.2.mono h⟩
theorem bM.mono {F F':au}(h:F.le F') {L:Loc}{M:TL}(r:bM F L M):bM F' L M:=by
 intro k;have:=r k
 revert this
 cases M.get k<;>cases L.get k<;>simp only[xG]<;>first | exact fun h=>h | exact fun r=>r.mono h
theorem aJ.mono {F F':au}(h:F.le F') {L:Loc}{c:C}{sv:SV}(r:aJ F L c sv):aJ F' L c sv:=by
 cases c<;>simp only[aJ] at r ⊢
 case own=>exact r
 case pt =>
  obtain⟨b,o,j,e,h1,a,d,f⟩:=r;exact⟨b,o,j,e,h1,a.mono h,d,f.mono h⟩
 case elr=>exact r
 all_goals
  obtain⟨v,h1,a⟩:=r;exact⟨v,h1,a.mono h⟩
theorem lX {F:au}{L:Loc}:∀{cs:List C}{a:List Value},ax F L cs a↔a.length=cs.length/\∀(i:Nat) c v,cs[i]?=some c->a[i]?=some v->Rel F L c v
 | [],a=>by
  simp only[ax];constructor
  ·rintro rfl;simp
  ·rintro⟨h,_⟩;exact List.length_eq_zero_iff.1 (by simpa using h)
 | c::cs,a=>by
  simp only[ax,lX (cs:=cs)];constructor
  ·rintro⟨v,e,rfl,h1,f,l⟩;refine⟨by simp[f],fun i j k b d=>?_⟩;cases i with
   | zero=>simp only[aa6,aaO] at b d;subst b d;exact h1
   | succ i=>exact l i j k (by simpa using b) (by simpa using d)
  ·rintro⟨h1,f⟩
   match a,h1 with
   | v::e,h1=>exact⟨v,e,rfl,f 0 c v (by simp) (by simp),by simpa using h1,fun i j k b d=>f (i+1) j k (by simpa using b) (by simpa using d)⟩
theorem ax.len {F:au}{L:Loc}{cs:List C}{a:List Value}(h:ax F L cs a):a.length=cs.length:=(lX.1 h).1
theorem ax.at {F:au}{L:Loc}{cs:List C}{a:List Value}(h:ax F L cs a) {i:Nat}{c:C}{v:Value}(d:cs[i]?=some c) (b:a[i]?=some v):Rel F L c v:=(lX.1 h).2 i c v d b
theorem ax.append {F:au}{L:Loc}{cs ds:List C}{a us:List Value}(h:ax F L cs a) (k:ax F L ds us):ax F L (cs++ds) (a++us):=by
 induction cs generalizing a with
 | nil=>simp only[ax] at h;subst h;exact k
 | cons c cs e =>
  simp only[ax] at h;obtain⟨v,b,rfl,h1,d⟩:=h;simp only[aa4,ax];exact⟨v,_,rfl,h1,e d⟩
theorem ax.drop {F:au}{L:Loc}{cs:List C}{b:List Value}(h:ax F L cs b) (n:Nat):ax F L (cs.drop n) (b.drop n):=by
 rw[lX] at h ⊢;refine⟨by simp[h.1],fun i c v d a=>?_⟩;rw[abz] at d a;exact h.2 _ _ _ d a
theorem ax.take {F:au}{L:Loc}{cs:List C}{d:List Value}(h:ax F L cs d) (n:Nat):ax F L (cs.take n) (d.take n):=by
 rw[lX] at h ⊢;refine⟨by simp[h.1],fun i c v a b=>?_⟩;rw[abL] at a b;split at a
 ·rw[o5 (by assumption)] at b;exact h.2 _ _ _ a b
 ·cases a
theorem nE {F:au}{a:Option Addr}{sz:Nat}:∀{l:List (List C)}{i:Nat},gk F a sz i l↔∀(j:Nat) es,l[j]?=some es->∃c,c.length=sz/\dG F a ((i+j)*sz) c/\eH es=true/\ax F [] es c
 | [],i=>by simp[gk]
 | x::l,i=>by
  simp only[gk,nE (l:=l)];constructor
  ·rintro⟨h1,d⟩ j y b;cases j with
   | zero=>simp only[aa6,aaO] at b;subst b;simpa using h1
   | succ j =>
    simp only[abg] at b;have:=d j y b
    rwa [show i+1+j=i+(j+1) by omega] at this
  ·intro h;refine⟨by simpa using h 0 x (by simp),fun j y b=>?_⟩;have:=h (j+1) y (by simpa using b)
   rwa [show i+(j+1)=i+1+j by omega] at this
theorem hU {F:au}{sz:Nat}:∀{l:List (List C)}{xs:List Value},aN F sz l xs->xs.length=l.length*sz
 | [],xs,h=>by simp only[aN] at h;subst h;simp
 | es::l,xs,h=>by
  simp only[aN] at h;obtain⟨d,c,rfl,b,_,_,a⟩:=h;simp only[abJ,hU a,b,aa7,Nat.add_mul];omega
theorem aN.append {F:au}{sz:Nat}:∀{l m:List (List C)}{xs a:List Value},aN F sz l xs->aN F sz m a->aN F sz (l++m) (xs++a)
 | [],m,xs,a,h,k=>by simp only[aN] at h;subst h;exact k
 | es::l,m,xs,a,h,k=>by
  simp only[aN] at h;obtain⟨f,b,rfl,e,d,j,c⟩:=h;simp only[aa4,aN];exact⟨f,b++a,by simp,e,d,j,aN.append c k⟩
theorem aN.at {F:au}{sz:Nat}:∀{l:List (List C)}{xs:List Value},aN F sz l xs->∀{j:Nat}{es:List C},l[j]?=some es->∃a,a.length=sz/\eH es=true/\ax F [] es a/\∀(i:Nat) v,a[i]?=some v->xs[j*sz+i]?=some v
 | [],xs,h,j,es,e=>by simp at e
 | x::l,xs,h,j,es,e=>by
  simp only[aN] at h;obtain⟨a,n,rfl,c,d,o,k⟩:=h;cases j with
  | zero =>
   simp only[aa6,aaO] at e;subst e;refine⟨a,c,d,o,fun i v b=>?_⟩;have:i<a.length:=(aaU.1 b).1;rw[Nat.zero_mul,Nat.zero_add,abG this];exact b
  | succ j =>
   obtain⟨us,k1,m,f,p⟩:=aN.at k (by simpa using e);refine⟨us,k1,m,f,fun i v b=>?_⟩;rw[abH (by rw[c,Nat.add_mul];omega),show(j+1)*sz+i-a.length=j*sz+i by rw[c,Nat.add_mul];omega];exact p i v b
theorem aN.frz {F:au}{sz:Nat}{l:List (List C)}{xs:List Value}(h:aN F sz l xs) {a:Addr}(hf:dG F (some a) 0 xs):gk F (some a) sz 0 l:=by
 rw[nE];intro j es he;obtain⟨n,h1,m,d,p⟩:=h.at he;refine⟨n,h1,?_,m,d⟩;obtain⟨f,c,t,q,e,hb,b,k⟩:=hf;refine⟨f,c,t,q,e,hb,b,fun i v o=>?_⟩;have:=k (j*sz+i) v (p i v o);simpa[Nat.add_assoc] using this
theorem nF:∀{l:List C},eH l=true↔∀c∈l,c.one=true
 | []=>by simp[eH]
 | c::l=>by
  simp only[eH];cases h:c.one
  ·simp[h]
  ·simp[h,nF]
theorem xH:∀{l:List C},iL l=true↔∀c∈l,c.pure=true
 | []=>by simp[iL]
 | c::l=>by
  simp only[iL];cases h:c.pure
  ·simp[h]
  ·simp[h,xH]
theorem pY:∀{l:List C},jh l=true↔∀c∈l,c.aal=true
 | []=>by simp[jh]
 | c::l=>by
  simp only[jh];cases h:c.aal
  ·simp[h]
  ·simp[h,pY]
theorem Rel.one {F:au}{L:Loc}{c:C}{v:Value}(h:Rel F L c v) (d:c.one=true):v.oneCell'=true:=by
 cases c<;>simp only[C.one,aa5] at d<;>simp only[Rel] at h
 case int=>obtain⟨rfl,_⟩:=h;rfl
 case bool=>subst h;rfl
 case str=>obtain⟨rfl,_⟩:=h;rfl
 case sl=>obtain⟨a,c,rfl,_⟩:=h;rfl
 case slx=>obtain⟨a,rfl,_⟩:=h;rfl
 case nils=>subst h;rfl
 case own=>obtain⟨g,t,cs,_,rfl⟩:=h;rfl
 case pt=>obtain⟨b,o,e,rfl,_⟩:=h;rfl
 case fn=>obtain⟨a,b,rfl,_⟩:=h;rfl
 case nilp=>subst h;rfl
 case nilf=>subst h;rfl
 case ifc=>obtain⟨u,rfl,_⟩:=h;rfl
 case opq=>exact h.one
 case mval=>obtain⟨u,rfl,_⟩:=h;rfl
 case mof=>subst h;rfl
 case mpr=>obtain⟨g,cs,_,rfl⟩:=h;rfl
 case rw=>obtain⟨a,c,t,sz,n,xs,rfl,_⟩:=h;rfl
mutual
theorem Rel.wf {F:au}:∀{L:Loc}{c:C}{v:Value},Rel F L c v->Wf c
 | _,.int k n,v,r=>by simp only[Rel] at r;simp only[Wf];exact r.2
 | _,.bool b,v,r=>by simp only[Wf]
 | _,.str s,v,r=>by simp only[Rel] at r;simp only[Wf];exact r.2
 | _,.sl els,v,r=>by
  simp only[Rel] at r;obtain⟨a,c,h1,h2,h3,h4,sz,h5⟩:=r;simp only[Wf];exact⟨h3,gk.wf h5⟩
 | _,.slx els,v,r=>by
  simp only[Rel] at r;obtain⟨a,h1,h2,sz,h5⟩:=r;simp only[Wf];exact⟨h2,gk.wf h5⟩
 | _,.nils,v,r=>by simp only[Wf]
 | L,.rw k,v,r=>by simp only[Wf]
 | L,.own k off,v,r=>by simp only[Wf]
 | _,.pt es off,v,r=>by
  simp only[Rel] at r;obtain⟨b,o,vs,h1,h2,h3,h4⟩:=r;simp only[Wf];exact ax.wf h4
 | L,.fn f fi ca,v,r=>by
  simp only[Rel] at r;obtain⟨fi',ca',h1,h2,h3⟩:=r;simp only[Wf];exact⟨ax.wf h2,ax.wf h3⟩
 | L,.agg cs,v,r=>by
  simp only[Rel] at r;obtain⟨vs,h1,h2⟩:=r;simp only[Wf];exact ax.wf h2
 | L,.tup cs,v,r=>by
  simp only[Rel] at r;obtain⟨vs,h1,h2⟩:=r;simp only[Wf];exact ax.wf h2
 | _,.nilp,v,r=>by simp only[Wf]
 | _,.nilf,v,r=>by simp only[Wf]
 | _,.ifc _ _,v,r=>by simp only[Wf]
 | _,.opq _,v,r=>by simp only[Wf]
 | _,.mval _ _,v,r=>by simp only[Wf]
 | _,.mof _ _,v,r=>by simp only[Wf]
 | _,.mpr _,v,r=>by simp only[Wf]
 | _,.und,v,r=>by simp only[Wf]
 | _,.any,v,r=>by simp only[Wf]
 | _,.ownv _ _,v,r=>by simp only[Wf]
 | _,.elr _ _ _,v,r=>by simp only[Wf]
theorem ax.wf {F:au}:∀{L:Loc}{cs:List C}{vs:List Value},ax F L cs vs->uq cs
 | _,[],vs,r=>by simp only[uq]
 | L,c::cs,vs,r=>by
  simp only[ax] at r;obtain⟨v,vs',h1,h2,h3⟩:=r;simp only[uq];exact⟨Rel.wf h2,ax.wf h3⟩
theorem gk.wf {F:au}{a:Option Addr}{sz:Nat}:∀{i:Nat}{l:List (List C)},gk F a sz i l->xC l
 | _,[],r=>by simp only[xC]
 | i,es::l,r=>by
  simp only[gk] at r;obtain⟨⟨vs,h1,h2,h3,h4⟩,h5⟩:=r;simp only[xC];exact⟨ax.wf h4,gk.wf h5⟩
end
theorem aN.wf {F:au}{sz:Nat}:∀{l:List (List C)}{xs:List Value},aN F sz l xs->xC l
 | [],xs,r=>by simp only[xC]
 | es::l,xs,r=>by
  simp only[aN] at r;obtain⟨f,c,h1,e,d,b,a⟩:=r;simp only[xC];exact⟨b.wf,a.wf⟩
theorem fC.wf {F:au}:∀{l:List (C×C)}{a:List Value},fC F l a->Vc l
 | [],a,r=>trivial
 | (k,c)::l,a,r=>by
  simp only[fC] at r;obtain⟨kv,v,b,h1,e,d,f⟩:=r;exact⟨e.wf,d.wf,fC.wf f⟩
theorem cD.wf {F:au}{L:Loc}:∀{o:TO}{p:Own},cD F L o p->o.Wf
 | .box t cs,.box g a c,r=>r.2.wf
 | .row t sz els,.row v a b n xs,r=>r.2.2.2.2.wf
 | .box _ _,.row ..,r=>r.elim
 | .row ..,.box ..,r=>r.elim
 | .map _,.row ..,r=>r.elim
 | .map es,.box g a c,r=>r.2.wf
def C.leaf:C->Bool
 | .fn _ _ _=>false
 | .agg _=>false
 | .tup _=>false
 | _=>true
theorem wq {g:C->C}{n:Nat}{c:C}(h:c.leaf=true):C.mp g n c=g c:=by
 cases c<;>first | (cases n<;>rfl;done) | cases h
theorem ax.map {F F':au}{L L':Loc}{g:C->C}:∀{cs:List C}{a:List Value},(∀c∈cs,∀v,Rel F L c v->Rel F' L' (g c) v)->ax F L cs a->ax F' L' (cs.map g) a
 | [],a,b,h=>by simp only[ax] at h;subst h;simp only[abE,ax]
 | c::cs,a,b,h=>by
  simp only[ax] at h;obtain⟨v,d,rfl,h1,e⟩:=h;simp only[aa0,ax];exact⟨v,d,rfl,b c (by simp) v h1,ax.map (fun c f=>b c (by simp[f])) e⟩
theorem Rel.mp {F F':au}{L L':Loc}{g:C->C}(b:∀c v,c.leaf=true->Rel F L c v->Rel F' L' (g c) v):∀(n:Nat) {c:C}{v:Value},Rel F L c v->Rel F' L' (C.mp g n c) v
 | 0,c,v,h=>by
  cases a:c.leaf
  ·cases c<;>simp only[C.leaf,Bool.true_eq_false] at a<;>simp only[C.mp,Rel]
  ·rw[wq a];exact b c v a h
 | n+1,c,v,h=>by
  cases a:c.leaf
  ·cases c<;>simp only[C.leaf,Bool.true_eq_false] at a<;>simp only[Rel] at h<;>simp only[C.mp,Rel]
   ·obtain⟨e,f,h1,d,k⟩:=h;exact⟨e,f,h1,d.map fun c _ v=>Rel.mp b n,k.map fun c _ v=>Rel.mp b n⟩
   ·obtain⟨j,h1,d⟩:=h;exact⟨j,h1,d.map fun c _ v=>Rel.mp b n⟩
   ·obtain⟨j,h1,d⟩:=h;exact⟨j,h1,d.map fun c _ v=>Rel.mp b n⟩
  ·rw[wq a];exact b c v a h
theorem aJ.mp {F F':au}{L L':Loc}{g:C->C}(f:∀c v,c.leaf=true->Rel F L c v->Rel F' L' (g c) v) (b:∀c sv,c.leaf=true->aJ F L c sv->aJ F' L' (g c) sv) (n:Nat) {c:C}{sv:SV}
  (h:aJ F L c sv):aJ F' L' (C.mp g n c) sv:=by
 cases a:c.leaf
 ·have e:∃v,sv=.v v/\Rel F L c v:=by cases c<;>simp only[C.leaf,Bool.true_eq_false] at a<;>exact h
  obtain⟨v,rfl,h1⟩:=e;have d:=Rel.mp f n h1;cases n with
  | zero=>cases c<;>simp only[C.leaf,Bool.true_eq_false] at a<;>simp only[C.mp,aJ]
  | succ n=>cases c<;>simp only[C.leaf,Bool.true_eq_false] at a<;>exact⟨v,rfl,d⟩
 ·rw[wq a];exact b c sv a h
def Ext (L L':Loc):Prop:=∀k o,L.get k=some o->∃o',L'.get k=some o'/\Own.like o o'
theorem Ext.refl (L:Loc):Ext L L:=fun k o h=>⟨o,h,Own.aah o⟩
theorem bH {F F':au}{L L':Loc}(e:F.le F') {c:C}{v:Value}(j:∀k,(∃off,c=.own k off)\/c=.rw k\/c=.mpr k->∀o,L.get k=some o->∃o',L'.get k=some o'/\Own.like o o') (s:c.leaf=true) (h:Rel F L c v):Rel F' L' c v:=by
 cases c<;>simp only[C.leaf,aa5] at s
 case rw k =>
  simp only[Rel] at h ⊢;obtain⟨a,c,t,sz,n,xs,rfl,h⟩:=h;obtain⟨o',h1,d⟩:=j k (.inr (.inl rfl)) _ h;cases o' with
  | box=>exact d.elim
  | row z p r y x=>obtain⟨rfl,rfl,rfl⟩:=d;exact⟨_,_,_,_,_,_,rfl,h1⟩
 case mpr k =>
  simp only[Rel] at h ⊢;obtain⟨g,cs,h,rfl⟩:=h;obtain⟨o',h1,d⟩:=j k (.inr (.inr rfl)) _ h;cases o' with
  | row=>exact d.elim
  | box q p cs'=>obtain⟨rfl,rfl⟩:=d;exact⟨_,_,h1,rfl⟩
 case own k off =>
  simp only[Rel] at h ⊢;obtain⟨g,t,cs,h,rfl⟩:=h;obtain⟨o',h1,d⟩:=j k (.inl ⟨off,rfl⟩) _ h;cases o' with
  | row=>exact d.elim
  | box q p cs'=>obtain⟨rfl,rfl⟩:=d;exact⟨_,_,_,h1,rfl⟩
 case sl =>
  simp only[Rel] at h ⊢;obtain⟨a,c,h1,d,f,m,sz,l⟩:=h;exact⟨a,c,h1,d,f,m,sz,l.mono e⟩
 case slx =>
  simp only[Rel] at h ⊢;obtain⟨a,h1,d,sz,l⟩:=h;exact⟨a,h1,d,sz,l.mono e⟩
 case pt =>
  simp only[Rel] at h ⊢;obtain⟨b,o,w,h1,d,f,m⟩:=h;exact⟨b,o,w,h1,d.mono e,f,m.mono e⟩
 case ifc =>
  simp only[Rel] at h ⊢;obtain⟨u,h1,d⟩:=h;exact⟨u,h1,d.mono e⟩
 case opq =>
  simp only[Rel] at h ⊢;exact h.mono e
 case mval =>
  simp only[Rel] at h ⊢;obtain⟨u,h1,d⟩:=h;exact⟨u,h1,d.mono e⟩
 all_goals
  first
   | exact h
   | (simp only[Rel] at h ⊢;done)
mutual
theorem Rel.ext {F F':au}(hF:F.le F') {L L':Loc}(hk:Ext L L'):∀{c:C}{v:Value},Rel F L c v->Rel F' L' c v
 | .fn f fi ca,v,r=>by
  simp only[Rel] at r ⊢;obtain⟨fi',ca',h1,h2,h3⟩:=r;exact⟨fi',ca',h1,ax.ext hF hk h2,ax.ext hF hk h3⟩
 | .agg cs,v,r=>by
  simp only[Rel] at r ⊢;obtain⟨vs,h1,h2⟩:=r;exact⟨vs,h1,ax.ext hF hk h2⟩
 | .tup cs,v,r=>by
  simp only[Rel] at r ⊢;obtain⟨vs,h1,h2⟩:=r;exact⟨vs,h1,ax.ext hF hk h2⟩
 | .int _ _,v,r=>bH hF (fun k _=>hk k) rfl r
 | .bool _,v,r=>bH hF (fun k _=>hk k) rfl r
 | .str _,v,r=>bH hF (fun k _=>hk k) rfl r
 | .sl _,v,r=>bH hF (fun k _=>hk k) rfl r
 | .slx _,v,r=>bH hF (fun k _=>hk k) rfl r
 | .nils,v,r=>bH hF (fun k _=>hk k) rfl r
 | .rw _,v,r=>bH hF (fun k _=>hk k) rfl r
 | .own _ _,v,r=>bH hF (fun k _=>hk k) rfl r
 | .pt _ _,v,r=>bH hF (fun k _=>hk k) rfl r
 | .nilp,v,r=>bH hF (fun k _=>hk k) rfl r
 | .nilf,v,r=>bH hF (fun k _=>hk k) rfl r
 | .ifc _ _,v,r=>bH hF (fun k _=>hk k) rfl r
 | .opq _,v,r=>bH hF (fun k _=>hk k) rfl r
 | .mval _ _,v,r=>bH hF (fun k _=>hk k) rfl r
 | .mof _ _,v,r=>bH hF (fun k _=>hk k) rfl r
 | .mpr _,v,r=>bH hF (fun k _=>hk k) rfl r
 | .und,v,r=>bH hF (fun k _=>hk k) rfl r
 | .any,v,r=>by simp only[Rel]
 | .ownv _ _,v,r=>r.elim
 | .elr _ _ _,v,r=>r.elim
theorem ax.ext {F F':au}(hF:F.le F') {L L':Loc}(hk:Ext L L'):∀{cs:List C}{vs:List Value},ax F L cs vs->ax F' L' cs vs
 | [],vs,r=>by simp only[ax] at r ⊢;exact r
 | c::cs,vs,r=>by
  simp only[ax] at r ⊢;obtain⟨v,vs',h1,h2,h3⟩:=r;exact⟨v,vs',h1,Rel.ext hF hk h2,ax.ext hF hk h3⟩
end
theorem Ext.nil (L:Loc):Ext [] L:=fun k o h=>by cases h
theorem ax.lift {F:au}{L:Loc}{cs:List C}{a:List Value}(h:ax F [] cs a):ax F L cs a:=h.ext (au.le_refl F) (Ext.nil L)
theorem Rel.lift {F:au}{L:Loc}{c:C}{v:Value}(h:Rel F [] c v):Rel F L c v:=h.ext (au.le_refl F) (Ext.nil L)
theorem dB {F F':au}{L L':Loc}(l:F.le F') {c:C}{sv:SV}(m:∀k,(∃off,c=.own k off)\/(∃off,c=.ownv k off)\/c=.rw k\/(∃j off,c=.elr k j off)\/c=.mpr k->∀o,L.get k=some o->∃o',L'.get k=some o'/\Own.like o o') (u:c.leaf=true) (h:aJ F L c sv):aJ F' L' c sv:=by
 cases c<;>simp only[C.leaf,aa5] at u
 case own k off =>
  simp only[aJ] at h ⊢;obtain⟨rfl,g,t,cs,h⟩:=h;obtain⟨o',h1,d⟩:=m k (.inl ⟨off,rfl⟩) _ h;cases o' with
  | row=>exact d.elim
  | box g' q cs'=>exact⟨rfl,_,_,_,h1⟩
 case ownv k off =>
  simp only[aJ] at h ⊢;obtain⟨v,y,h⟩:=h;refine⟨v,y,bH l (fun p a=>m p ?_) rfl h⟩;rcases a with⟨f,e⟩ | e | e
  ·injection e with e1 e2;subst e1;exact .inr (.inl ⟨off,rfl⟩)
  ·cases e
  ·cases e
 case pt =>
  simp only[aJ] at h ⊢;obtain⟨b,o,j,w,h1,d,r,z⟩:=h;exact⟨b,o,j,w,h1,d.mono l,r,z.mono l⟩
 case elr k j off =>
  simp only[aJ] at h ⊢;obtain⟨ad,t,sz,n,c,xs,rfl,h⟩:=h;obtain⟨o',h1,d⟩:=m k (.inr (.inr (.inr (.inl ⟨_,_,rfl⟩)))) _ h;cases o' with
  | box=>exact d.elim
  | row v' q s n' x =>
   obtain⟨rfl,rfl,rfl⟩:=d;exact⟨_,_,_,_,_,_,rfl,h1⟩
 all_goals first | (simp only[aJ];done) | skip
 all_goals
  simp only[aJ] at h ⊢;obtain⟨v,rfl,h⟩:=h;refine⟨v,rfl,bH l (fun p a=>m p ?_) rfl h⟩;rcases a with⟨f,e⟩ | e | e
  ·cases e
  ·first | cases e;exact .inr (.inr (.inl rfl)) | cases e
  ·first | cases e;exact .inr (.inr (.inr (.inr rfl))) | cases e
theorem aJ.ext {F F':au}{L L':Loc}(b:F.le F') (d:Ext L L') {c:C}{sv:SV}(h:aJ F L c sv):aJ F' L' c sv:=by
 cases a:c.leaf
 ·have f:∃v,sv=.v v/\Rel F L c v:=by cases c<;>simp only[C.leaf,Bool.true_eq_false] at a<;>exact h
  obtain⟨v,rfl,h1⟩:=f;have e:=h1.ext b d;cases c<;>simp only[C.leaf,Bool.true_eq_false] at a<;>exact⟨v,rfl,e⟩
 ·exact dB b (fun k _=>d k) a h
theorem cD.ext {F F':au}{L L':Loc}(a:F.le F') (c:Ext L L'):∀{o:TO}{p:Own},cD F L o p->cD F' L' o p
 | .box t cs,.box g b e,r=>⟨r.1,r.2.ext a c⟩
 | .row t sz els,.row v b d n xs,r=>⟨r.1,r.2.1,r.2.2.1,r.2.2.2.1,r.2.2.2.2.mono a⟩
 | .box _ _,.row ..,r=>r.elim
 | .row ..,.box ..,r=>r.elim
 | .map _,.row ..,r=>r.elim
 | .map es,.box g b e,r=>⟨r.1,r.2.mono a⟩
def gC (Li:List Own) (R:List TO->C->Prop):au->List Own->Value->Prop:=fun F Lo v =>
 ∃Mo c,Mo.length=Lo.length/\bM F (inp Lo) (cC Mo)/\Rel F (inp Lo) c v/\(∀(i:Nat) g t cs,Li[i]?=some (.box g t cs)->∃cs',Lo[i]?=some (.box g t cs'))/\R Mo c
structure CallsT (P:Program) (f:Nat) (args:List C) (Lin:List TO) (R:List TO->C->Prop):Prop where
 out:∀(F:au) (Li:List Own) (vs:List Value),Li.length=Lin.length->bM F (inp Li) (cC Lin)->ax F (inp Li) args vs->CallsA P f vs.toArray F Li (gC Li R)
structure CallsTX (P:Program) (f:Nat) (args:List C) (Lin:List TO) (R:List TO->C->Prop) (Pp:Value->Prop):Prop where
 out:∀(F:au) (Li:List Own) (vs:List Value),Li.length=Lin.length->bM F (inp Li) (cC Lin)->ax F (inp Li) args vs->n8 P f vs.toArray F Li (gC Li R) Pp
theorem CallsT.toX {P:Program}{f:Nat}{args:List C}{Lin:List TO}{R:List TO->C->Prop}{Pp:Value->Prop}(h:CallsT P f args Lin R):CallsTX P f args Lin R Pp:=⟨fun F Li c h1 b a=>(h.out F Li c h1 b a).toX⟩
def aG:List TO->List Nat->List Nat->Bool
 | .box _ _::l,k::ks,a::ko=>match Nat.beq k a with | true=>aG l ks ko | false=>false
 | .box _ _::_,_,_=>false
 | .map _::l,k::ks,a::ko=>match Nat.beq k a with | true=>aG l ks ko | false=>false
 | .map _::_,_,_=>false
 | .row _ _ _::l,_::ks,_::ko=>aG l ks ko
 | .row _ _ _::l,_::ks,[]=>aG l ks []
 | .row _ _ _::_,[],_=>false
 | [],_,_=>true
def jv (L:TL) (ks:List Nat):List Nat->Bool
 | []=>true
 | k::ko=>match eZ ks k,L.get k with
  | true,_=>jv L ks ko
  | false,none=>jv L ks ko
  | false,some _=>false
def covers:TL->TL->Bool
 | [],_=>true
 | (k,_)::l,L1=>match L1.get k with | some _=>covers l L1 | none=>false
def oE:TL->TL->Bool
 | [],_=>true
 | (k,.box _ _)::l,L1=>match L1.get k with | some (.box _ _)=>oE l L1 | _=>false
 | (k,.map _)::l,L1=>match L1.get k with | some (.map _)=>oE l L1 | _=>false
 | (_,.row _ _ _)::l,L1=>oE l L1
def TL.kills (ks:List Nat) (L:TL):TL:=match ks with | []=>L | _=>L.aad (C.kills ks)
def dh (ks:List Nat) (ρ:aK):aK:=match ks with | []=>ρ | _=>fun j=>(ρ j).kills ks
def rowsOf (L:TL):List Nat->List Nat
 | []=>[]
 | k::ks=>match L.get k with
  | some (.row _ _ _)=>k::rowsOf L ks
  | _=>rowsOf L ks
def QY (Li Lo:List Own):Prop:=Lo.length=Li.length/\∀(i:Nat) o,Li[i]?=some o->∃o',Lo[i]?=some o'/\Own.like o o'
structure iD (P:Program) (f:Nat) (args:List C) (Lin:List TO) (R:List TO->C->Prop):Prop where
 out:∀(F:au) (Li:List Own) (vs:List Value),Li.length=Lin.length->bM F (inp Li) (cC Lin)->ax F (inp Li) args vs->CallsA P f vs.toArray F Li (fun F' Lo v=>gC Li R F' Lo v/\QY Li Lo)
inductive qa (P:Program) (f:Nat) (args:List C) (L:TL) (ρ:aK) (K:TL->aK->C->Prop):Prop
 | mk (out:∃(fz ks ko:List Nat),xE fz L ρ args fun L ρ args =>
  ∃(L1:TL) (Lin:List TO) (R:List TO->C->Prop),(L1=L\/(gives L L1 L1/\covers L L1=true))/\L1.sub ks=some Lin/\aP ks=true/\aP ko=true/\jv L1 ks ko=true/\aG Lin ks ko=true /\
   CallsT P f (args.map fun c=>c.aaj.ren (bA ks 1000)) (Lin.map (TO.aad (C.ren (bA ks 1000)))) R /\
   ∀v Mo,R Mo v->Wf v->(∀o∈Mo,o.Wf)->ko.length=Mo.length /\
    K (((L1.aae ks).kills (rowsOf L1 ks)).puts ko (Mo.map (TO.aad (C.ren (aI ko))))) (dh (rowsOf L1 ks) ρ) (v.ren (aI ko)).slt)
 | inpl (ks:List Nat) (Lin:List TO) (R:List TO->C->Prop) (hs:L.sub ks=some Lin) (hn:aP ks=true) (h:iD P f (args.map fun c=>c.aaj.ren (bA ks 1000)) (Lin.map (TO.aad (C.ren (bA ks 1000)))) R)
   (k:∀v Mo,R Mo v->Wf v->(∀o∈Mo,o.Wf)->ks.length=Mo.length/\K ((L.aae ks).puts ks (Mo.map (TO.aad (C.ren (aI ks))))) ρ (v.ren (aI ks)).slt)
structure nG where
 ps:Value->Prop
 hb:List (Nat×Nat):=[]
 st:Option (TL->Value->Prop):=none
def jw (L:TL) (ks:List Nat):List (Nat×Nat)->Bool
 | []=>true
 | (k,n)::l=>match eZ ks k,L.get k with
  | false,some (.box _ cs)=>match eW cs n with | true=>jw L ks l | false=>false
  | _,_=>false
structure kU (P:Program) (PS:nG) (f:Nat) (args:List C) (L:TL) (ρ:aK) (K:TL->aK->C->Prop):Prop where
 out:∃(fz ks ko:List Nat),xE fz L ρ args fun L ρ args =>
  ∃(L1:TL) (Lin:List TO) (R:List TO->C->Prop) (Pp:Value->Prop),(L1=L\/(gives L L1 L1/\covers L L1=true))/\L1.sub ks=some Lin/\aP ks=true/\aP ko=true/\jv L1 ks ko=true/\aG Lin ks ko=true/\jw L1 ks PS.hb=true /\
   CallsTX P f (args.map fun c=>c.aaj.ren (bA ks 1000)) (Lin.map (TO.aad (C.ren (bA ks 1000)))) R Pp/\(∀v,Pp v->PS.ps v) /\
   ∀v Mo,R Mo v->Wf v->(∀o∈Mo,o.Wf)->ko.length=Mo.length /\
    K (((L1.aae ks).kills (rowsOf L1 ks)).puts ko (Mo.map (TO.aad (C.ren (aI ko))))) (dh (rowsOf L1 ks) ρ) (v.ren (aI ko)).slt
structure CallsTS (P:Program) (f:Nat) (args:List C) (Lin:List TO) (R:List TO->C->Prop) (Pp:List TO->Value->Prop):Prop where
 out:∀(F:au) (Li:List Own) (vs:List Value),Li.length=Lin.length->bM F (inp Li) (cC Lin)->ax F (inp Li) args vs->wg P f vs.toArray F Li (gC Li R) (fun F' Lo v=>∃Mo,Mo.length=Lo.length/\bM F' (inp Lo) (cC Mo)/\Pp Mo v)
structure EK (P:Program) (ps:Value->Prop) (hb:List (Nat×Nat)) (st:TL->Value->Prop) (f:Nat) (args:List C) (L:TL) (ρ:aK) (K:TL->aK->C->Prop):Prop where
 out:∃(ks ko:List Nat) (L1:TL) (Lin:List TO) (R:List TO->C->Prop) (Pp:List TO->Value->Prop),(L1=L\/(gives L L1 L1/\covers L L1=true))/\L1.sub ks=some Lin/\aP ks=true/\aP ko=true/\jv L1 ks ko=true/\aG Lin ks ko=true/\jw L1 ks hb=true /\
   CallsTS P f (args.map fun c=>c.aaj.ren (bA ks 1000)) (Lin.map (TO.aad (C.ren (bA ks 1000)))) R Pp /\
   (∀v Mo,Pp Mo v->(∀o∈Mo,o.Wf)->ks.length=Mo.length->ps v/\st (((L1.aae ks).kills (rowsOf L1 ks)).puts ks (Mo.map (TO.aad (C.ren (aI ks))))) v) /\
   ∀v Mo,R Mo v->Wf v->(∀o∈Mo,o.Wf)->ko.length=Mo.length /\
    K (((L1.aae ks).kills (rowsOf L1 ks)).puts ko (Mo.map (TO.aad (C.ren (aI ko))))) (dh (rowsOf L1 ks) ρ) (v.ren (aI ko)).slt
def xI:List C->Option (List Value)
 | []=>some []
 | .int k n::l=>match xI l with | some vs=>some (.int k n::vs) | none=>none
 | .bool b::l=>match xI l with | some vs=>some (.bool b::vs) | none=>none
 | .str s::l=>match xI l with | some vs=>some (.string s::vs) | none=>none
 | _=>none
def C9:C->Option Value
 | .ifc t (.int k n)=>some (.iface t (.int k n))
 | .ifc t (.bool b)=>some (.iface t (.bool b))
 | .ifc t (.str s)=>some (.iface t (.string s))
 | .ifc t (.agg cs)=>match xI cs with | some vs=>some (.iface t (.agg vs.toArray)) | none=>none
 | _=>none
structure SN (PS:nG) (L:TL) (c:C):Prop where
 out:∃v,C9 c=some v/\jw L [] PS.hb=true/\PS.ps v
structure Vh (ps:Value->Prop) (hb:List (Nat×Nat)) (st:TL->Value->Prop) (L:TL) (c:C):Prop where
 out:∃v,C9 c=some v/\jw L [] hb=true/\ps v/\st L v
inductive EL (P:Program) (f:Nat) (args:List C) (L:TL) (ρ:aK) (K:TL->aK->C->Prop):Prop
 | mk (out:∃(ks ko:List Nat) (Lin:List TO) (R:List TO->C->Prop),L.sub ks=some Lin/\aP ks=true/\aP ko=true/\jv L ks ko=true/\aG Lin ks ko=true /\
   CallsT P f (args.map fun c=>c.aaj.ren (bA ks 1000)) (Lin.map (TO.aad (C.ren (bA ks 1000)))) R /\
   ∀v Mo,R Mo v->Wf v->(∀o∈Mo,o.Wf)->ko.length=Mo.length /\
    K (((L.aae ks).kills (rowsOf L ks)).puts ko (Mo.map (TO.aad (C.ren (aI ko))))) (dh (rowsOf L ks) ρ) (v.ren (aI ko)).slt)
 | inpl (ks:List Nat) (Lin:List TO) (R:List TO->C->Prop) (hs:L.sub ks=some Lin) (hn:aP ks=true) (h:iD P f (args.map fun c=>c.aaj.ren (bA ks 1000)) (Lin.map (TO.aad (C.ren (bA ks 1000)))) R)
   (k:∀v Mo,R Mo v->Wf v->(∀o∈Mo,o.Wf)->ks.length=Mo.length/\K ((L.aae ks).puts ks (Mo.map (TO.aad (C.ren (aI ks))))) ρ (v.ren (aI ks)).slt)
def qb:List Nat->List Nat->Bool
 | [],_=>true
 | k::ks,a=>match eZ a k with | true=>false | false=>qb ks a
structure oF (P:Program) (PS:nG) (fb:List Nat) (f:Nat) (args:List C) (L:TL) (ρ:aK) (K:TL->aK->C->Prop):Prop where
 out:∃(ks:List Nat) (Lin:List TO) (R:List TO->C->Prop) (Pp:Value->Prop),L.sub ks=some Lin/\aP ks=true/\qb ks fb=true/\aG Lin ks ks=true/\jw L ks PS.hb=true /\
   CallsTX P f (args.map fun c=>c.aaj.ren (bA ks 1000)) (Lin.map (TO.aad (C.ren (bA ks 1000)))) R Pp/\(∀v,Pp v->PS.ps v) /\
   ∀v Mo,R Mo v->Wf v->(∀o∈Mo,o.Wf)->ks.length=Mo.length /\
    K (((L.aae ks).kills (rowsOf L ks)).puts ks (Mo.map (TO.aad (C.ren (aI ks))))) (dh (rowsOf L ks) ρ) (v.ren (aI ks)).slt
structure tj (P:Program) (ps:Value->Prop) (hb:List (Nat×Nat)) (st:TL->Value->Prop) (fb:List Nat) (f:Nat) (args:List C) (L:TL) (ρ:aK) (K:TL->aK->C->Prop):Prop where
 out:∃(ks:List Nat) (Lin:List TO) (R:List TO->C->Prop) (Pp:List TO->Value->Prop),L.sub ks=some Lin/\aP ks=true/\qb ks fb=true/\aG Lin ks ks=true/\jw L ks hb=true /\
   CallsTS P f (args.map fun c=>c.aaj.ren (bA ks 1000)) (Lin.map (TO.aad (C.ren (bA ks 1000)))) R Pp /\
   (∀v Mo,Pp Mo v->(∀o∈Mo,o.Wf)->ks.length=Mo.length->ps v/\st (TL.puts [] ks (Mo.map (TO.aad (C.ren (aI ks))))) v) /\
   ∀v Mo,R Mo v->Wf v->(∀o∈Mo,o.Wf)->ks.length=Mo.length /\
    K (((L.aae ks).kills (rowsOf L ks)).puts ks (Mo.map (TO.aad (C.ren (aI ks))))) (dh (rowsOf L ks) ρ) (v.ren (aI ks)).slt
def Da (P:Program) (f:Nat):Prop:=∃fn,P.funcs[f]?=some fn/\fn.body.isSome=true/\(fn.name == "runtime.NumGoroutine")=false
structure SQ (P:Program) (f:Nat) (args:List C) (t sz:Nat) (els:List (List C)) (x:C):Prop where
 out:∀(F:au) (rv:Value) (xs vs:List Value),cD F (inp [.row rv t sz els.length xs]) (.row t sz els) (.row rv t sz els.length xs)->ax F (inp [.row rv t sz els.length xs]) args vs ->
  CallsA P f vs.toArray F [.row rv t sz els.length xs] (fun F' Lo v=>Lo=[.row rv t sz els.length xs]/\Rel F' (inp []) x v)
inductive uJ (P:Program) (f:Nat) (args:List C) (L:TL) (ρ:aK) (d:Option Nat) (K:TL->aK->C->Prop):Prop
 | frz (R:List TO->C->Prop) (h:CallsT P f (args.map fun c=>c.aaj.ren (bA [] 1000)) [] R) (k:∀v Mo,R Mo v->Wf v->Mo=[]/\K L ρ v.slt)
 | own (R:List TO->C->Prop) (k:Nat) (h:CallsT P f (args.map fun c=>c.aaj.ren (bA [] 1000)) [] R) (hd:d=some k) (hk:L.get k=none)
   (kk:∀v Mo,R Mo v->Wf v->(∀o∈Mo,o.Wf)->∃o,Mo=[o]/\K (L.set k (o.aad (C.ren (aI [k])))) ρ (v.ren (aI [k])).slt)
 | row (R:List TO->C->Prop) (kr t sz:Nat) (els:List (List C)) (he:Da P f) (hk:L.get kr=some (.row t sz els)) (h:CallsT P f (args.map fun c=>(c.frz kr els).aaj.ren (bA [] 1000)) [] R)
   (kk:∀v Mo,R Mo v->Wf v->Mo=[]/\K ((L.aad (C.kill kr)).set kr (.row t sz [])) (fun j=>(ρ j).kill kr) v.slt)
 | lent (kr t sz:Nat) (els:List (List C)) (x:C) (hk:L.get kr=some (.row t sz els)) (h:SQ P f (args.map fun c=>c.aaj.ren (bA [kr] 1000)) t sz els x) (k:Wf x->K L ρ x.slt)
def QZ:Value->C
 | .int k n=>.int k n
 | .bool b=>.bool b
 | .string s=>.str s
 | _=>.any
def isNil:X->Bool
 | .c (.slice none 0 0)=>true
 | _=>false
def uK:List Bool->List C->List C->Bool->Option Bool
 | [],[],[],c=>some c
 | true::ks,.int k a::l,.int e b::d,c=>match pG k e with | true=>uK ks l d (c&&decide (a=b)) | false=>none
 | false::ks,.bool a::l,.bool b::d,c=>uK ks l d (c&&decide (a=b))
 | _,_,_,_=>none
structure Q0 (P:Program) (t:TypeId) (nm:String) (K:Nat->Prop):Prop where
 out:∃f,sM P t nm=some f/\K f
def P4 (P:Program) (t:TypeId):Bool:=match P.underlying t with | some (.interface _)=>true | _=>false
def BG (ρ:aK):List (Nat×Nat×X)->List C->(List C->Prop)->Prop
 | [],zs,K=>K zs
 | (off,n,x)::ps,zs,K=>match(cO ρ x).okc,eW (cF (cO ρ x)) n with
  | true,true=>fl (cF (cO ρ x)) fun a=>fl (jd zs off a) fun zs=>BG ρ ps zs K
  | _,_=>False
theorem uL {ρ:aK}:∀{ps:List (Nat×Nat×X)}{zs:List C}{K:List C->Prop},BG ρ ps zs K->∃cs,uH ρ zs ps=some cs/\K cs
 | [],zs,K,h=>⟨zs,rfl,h⟩
 | (off,n,x)::ps,zs,K,h=>by
  simp only[BG] at h;simp only[uH];split at h
  ·rename_i h1 a;rw[eX,eX] at h
   first
   | exact uL h
   | (rw[h1,a];exact uL h)
  ·exact h.elim
structure JR (k:Nat) (K:Nat->Prop):Prop where
 out:∃n,rJ k=some n/\n<=9223372036854775807/\K n
def SA (t:Nat):Bool:=match Nat.beq t 0 with | true=>false | false=>Nat.ble t 1048575
def outT (o:dN) (L:TL) (ρ:aK) (V:C->Prop):Prop :=
 match o with
 | .mov x=>V (cO ρ x)
 | .pick c a b=>match cO ρ c with
  | .bool t=>zq t (V (cO ρ a)) (V (cO ρ b))
  | _=>False
 | .build zs ps=>fl (zs.map rF) fun zs=>BG ρ ps zs fun cs=>V (.agg cs)
 | .load agg n x=>match cO ρ x with
  | .own k off=>match L.get k with
   | some (.box _ cs)=>match eW ((cs.drop off).take n) n with
    | true=>V (EG agg ((cs.drop off).take n))
    | false=>False
   | _=>False
  | .pt es off=>match eW ((es.drop off).take n) n with
   | true=>V (EG agg ((es.drop off).take n))
   | false=>False
  | .ownv k off=>match L.get k with
   | some (.box _ cs)=>match eW ((cs.drop off).take n) n with
    | true=>V (EG agg ((cs.drop off).take n))
    | false=>False
   | _=>False
  | .elr k j off=>match L.get k with
   | some (.row _ _ els)=>EI els j off n fun cs=>V (EG agg cs)
   | _=>False
  | _=>False
 | .loadR agg n x=>match cO ρ x with
  | .own k off=>match L.get k with
   | some (.box _ cs)=>match eW ((cs.drop off).take n) n with
    | true=>V (EG agg ((cs.drop off).take n))
    | false=>False
   | _=>False
  | .pt es off=>match eW ((es.drop off).take n) n with
   | true=>V (EG agg ((es.drop off).take n))
   | false=>False
  | .ownv k off=>match L.get k with
   | some (.box _ cs)=>match eW ((cs.drop off).take n) n with
    | true=>V (EG agg ((cs.drop off).take n))
    | false=>False
   | _=>False
  | .elr k j off=>match L.get k with
   | some (.row _ _ els)=>EI els j off n fun cs=>V (EG agg cs)
   | _=>False
  | _=>False
 | .loadD agg n x=>match cO ρ x with
  | .own k off=>match L.get k with
   | some (.box _ cs)=>match eW ((cs.drop off).take n) n with
    | true=>V (EG agg ((cs.drop off).take n))
    | false=>False
   | _=>False
  | .pt es off=>match eW ((es.drop off).take n) n with
   | true=>V (EG agg ((es.drop off).take n))
   | false=>False
  | _=>False
 | .gload g=>match v9 g with
  | some k=>V (.opq k)
  | none=>False
 | .loadF agg n x=>match cO ρ x with
  | .pt es off=>match eW ((es.drop off).take n) n with
   | true=>V (EG agg ((es.drop off).take n))
   | false=>False
  | _=>False
 | .loadK key agg n x=>match cO ρ x with
  | .own k off=>match Nat.beq k key with
   | true=>match L.get k with
    | some (.box _ cs)=>match eW ((cs.drop off).take n) n with
     | true=>V (EG agg ((cs.drop off).take n))
     | false=>False
    | _=>False
   | false=>False
  | _=>False
 | .nilck x=>match cO ρ x with
  | .own k off=>V (.own k off)
  | .pt es off=>V (.pt es off)
  | .ownv k off=>V (.ownv k off)
  | .fn f p e=>V (.fn f p e)
  | .mval q c=>match c with
   | .ifc t c=>SG QB t q=true/\V (.mval q (.ifc t c))
   | _=>False
  | _=>False
 | .bin op x y=>match cO ρ x,cO ρ y with
  | .int k a,.int r b=>match Jb op with
   | true=>shI op k a b fun v=>V (QZ v)
   | false=>match pG k r with
    | true=>binI op k a b fun v=>V (QZ v)
    | false=>False
  | .str a,.str b=>binS op a b fun v=>V (QZ v)
  | _,_=>False
 | .eqB neg x y=>match cO ρ x,cO ρ y with
  | .bool a,.bool b=>V (.bool (sN neg (decide (a=b))))
  | _,_=>False
 | .eqS neg x y=>match isNil y,cO ρ x with
  | true,.sl els=>∀b,(els≠[]->b=false)->V (.bool (sN neg b))
  | true,.slx _=>V (.bool (sN neg false))
  | true,.nils=>V (.bool (sN neg true))
  | _,_=>False
 | .eqN neg x=>match cO ρ x with
  | .ifc _ _=>V (.bool (sN neg false))
  | .opq k=>match Er k with
   | some b=>V (.bool (sN neg b))
   | none=>False
  | _=>False
 | .eqA neg ks x y=>match cO ρ x,cO ρ y with
  | .agg cs,.agg ds=>match uK ks cs ds true with
   | some b=>V (.bool (sN neg b))
   | none=>False
  | _,_=>False
 | .mkif t x=>match cO ρ x with
  | .int k n=>V (.ifc t (.int k n))
  | .bool b=>V (.ifc t (.bool b))
  | .str s=>V (.ifc t (.str s))
  | .pt es off=>V (.ifc t (.pt es off))
  | .agg cs=>match iL cs with
   | true=>fl cs fun cs=>V (.ifc t (.agg cs))
   | false=>False
  | _=>False
 | .un op x=>match op,cO ρ x with
  | .not,.bool b=>V (.bool (!b))
  | .neg,.int k n=>Fit k (0-n) fun m=>V (.int k m)
  | .xor,.int k n=>V (.int k (k.wrap (BitVec.ofInt k.bits (if k.signed then -1 else k.max) ^^^ BitVec.ofInt k.bits n).toNat))
  | _,_=>False
 | .conv k x=>match cO ρ x with
  | .int _ n=>Fit k n fun m=>V (.int k m)
  | _=>False
 | .mkfn f p e=>V (.fn f (eY ρ p) (eY ρ e))
 | .slc sz x lo hi=>match(cO ρ x).can with
  | .sl els=>match MP ρ 0 lo,MP ρ els.length hi with
   | some l,some h=>SM l h els sz fun l h=>V (.sl ((els.drop l).take (h-l)))
   | _,_=>False
  | _=>False
 | .fieldA off x=>match cO ρ x with
  | .own k o=>V (.own k (o+off))
  | .pt es o=>V (.pt es (o+off))
  | .elr k j o=>V (.elr k j (o+off))
  | .ownv k o=>V (.ownv k (o+off))
  | _=>False
 | .idxA sz x i=>match(cO ρ x).can,cO ρ i with
  | .sl els,.int _ i=>uI els i sz fun es=>V (.pt es 0)
  | .rw k,.int _ i=>match L.get k with
   | some (.row _ d els)=>match Nat.beq sz d with
    | true=>FH i els.length (V (.elr k i.toNat 0))
    | false=>False
   | _=>False
  | _,_=>False
 | .extr x i=>match cO ρ x with
  | .tup u=>match u[i]? with
   | some v=>V v.slt
   | none=>False
  | _=>False
 | .len x=>match(cO ρ x).can with
  | .sl els=>V (.int .i64 els.length)
  | .rw k=>match L.get k with
   | some (.row _ _ els)=>V (.int .i64 els.length)
   | _=>False
  | .opq k=>JR k fun n=>V (.int .i64 n)
  | _=>False
 | .mlook str ok z x i=>match cO ρ x with
  | .mpr k=>match L.get k with
   | some (.map es)=>xD str es (cO ρ i) (fun v=>match ok with | true=>V (.tup [v,.bool true]) | false=>V v.slt) (match ok with | true=>V (.tup [cv z,.bool false]) | false=>V (cv z))
   | _=>False
  | _=>False
 | .mm mx args=>match args.map (cO ρ) with
  | .int k a::l=>match UM mx a l with
   | some m=>(Lit.int k m).wf=true/\V (.int k m)
   | none=>False
  | _=>False
 | _=>False
abbrev TK:=TL->aK->Prop
def storeT (b:Bool) (n:Nat) (a x:X) (d:Option Nat) (L:TL) (ρ:aK) (K:TK):Prop :=
 match(cO ρ x).okc,eW (cF (cO ρ x)) n,eH (cF (cO ρ x)),cO ρ a with
 | true,true,true,.own k off=>match L.get k with
  | some (.box t cs)=>match eW ((cs.drop off).take n) n with
   | true=>fl (jd cs off (cF (cO ρ x))) fun cs=>K (L.set k (.box t cs)) (bq d .und ρ)
   | false=>False
  | _=>False
 | true,true,true,.elr k j off=>match b,L.get k,iL (cF (cO ρ x)) with
  | false,some (.row t sz els),true=>Nat.ble (off+n) sz=true/\EI els j off n fun _=>∀es,els[j]?=some es->K (L.set k (.row t sz (els.set j (jd es off ((cF (cO ρ x)).map C.can))))) (bq d .und ρ)
  | _,_,_=>False
 | _,_,_,_=>False
def MU (e sz bytes:Nat) (s x:C) (d:Option Nat) (L:TL) (ρ:aK) (K:TK):Prop :=
 match s,x.can,d with
 | .rw k,.sl a,_=>match L.get k with
  | some (.row f c els)=>match Nat.beq e f,Nat.beq sz c with
   | true,true=>vQ els a sz bytes (fT ((L.aad (C.kill k)).set k (.row e sz (els++a))) fun L=>K L (bq d (.rw k) fun j=>(ρ j).kill k))
   | _,_=>False
  | _=>False
 | .nils,.sl a,some k=>match L.get k with
  | none=>vQ [] a sz bytes (fT (L.set k (.row e sz a)) fun L=>K L (bq d (.rw k) ρ))
  | some _=>False
 | .slx els,.sl a,some k=>match L.get k with
  | none=>0<a.length/\(∀es∈els,es.length=sz)/\vQ els a sz bytes (fT (L.set k (.row e sz (els++a))) fun L=>K L (bq d (.rw k) ρ))
  | some _=>False
 | .rw k,.rw h,_=>match L.get k,L.get h with
  | some (.row f c els),some (.row l b a)=>match Nat.beq e f,Nat.beq sz c,Nat.beq sz b with
   | true,true,true=>vQ els a sz bytes (fT ((L.aad (C.kill k)).set k (.row e sz (els++a))) fun L=>K L (bq d (.rw k) fun j=>(ρ j).kill k))
   | _,_,_=>False
  | _,_=>False
 | .nils,.rw h,some k=>match L.get k,L.get h with
  | none,some (.row l b a)=>match Nat.beq sz b with
   | true=>vQ [] a sz bytes (K (L.set k (.row e sz a)) (bq d (.rw k) ρ))
   | false=>False
  | _,_=>False
 | _,_,_=>False
def bN (P:Program) (o:dN) (d:Option Nat) (L:TL) (ρ:aK) (K:TK):Prop :=
 match o with
 | .box t x=>match d with
  | some k=>match L.get k,(cO ρ x).okc,SA t with
   | none,true,true=>fl (cF (cO ρ x)) fun cs=>K (L.set k (.box t cs)) (bq d (.own k 0) ρ)
   | _,_,_=>False
  | none=>False
 | .boxD t x=>match d with
  | some k=>match L.get k,(cO ρ x).okc,SA t with
   | none,true,true=>fl (cF (cO ρ x)) fun cs=>K (L.set k (.box t cs)) (bq d (.own k 0) ρ)
   | _,_,_=>False
  | none=>False
 | .boxF t x=>match(cO ρ x).okc,eH (cF (cO ρ x)),iL (cF (cO ρ x)) with
  | true,true,true=>fl ((cF (cO ρ x)).map C.can) fun cs=>K L (bq d (.pt cs 0) ρ)
  | _,_,_=>False
 | .alloc t zs=>match d with
  | some k=>match L.get k,SA t with
   | none,true=>fl (zs.map rF) fun cs=>K (L.set k (.box t cs)) (bq d (.own k 0) ρ)
   | _,_=>False
  | none=>False
 | .allocD t zs=>match d with
  | some k=>match L.get k,SA t with
   | none,true=>fl (zs.map rF) fun cs=>K (L.set k (.box t cs)) (bq d (.own k 0) ρ)
   | _,_=>False
  | none=>False
 | .mkF e n sz xs=>match pW ρ sz xs,Nat.beq xs.length n,Nat.ble n 9223372036854775807 with
  | true,true,true=>K L (bq d (.slx (uG ρ xs)) ρ)
  | _,_,_=>False
 | .mkFD e n sz xs=>match pW ρ sz xs,Nat.beq xs.length n,Nat.ble n 9223372036854775807 with
  | true,true,true=>K L (bq d (.slx (uG ρ xs)) ρ)
  | _,_,_=>False
 | .mkR e n sz xs=>match pW ρ sz xs,Nat.beq xs.length n,Nat.ble n 9223372036854775807,d with
  | true,true,true,some k=>match L.get k with
   | none=>K (L.set k (.row e sz (uG ρ xs))) (bq d (.rw k) ρ)
   | some _=>False
  | _,_,_,_=>False
 | .makeS e sz bytes zs l c=>match cO ρ l,cO ρ c,d with
  | .int _ n,.int _ m,some k=>match L.get k,eW (zs.map rF) sz,eH (zs.map rF) with
   | none,true,true=>uw n m bytes fun n=>K (L.set k (.row e sz (List.replicate n ((zs.map rF).map C.can)))) (bq d (.rw k) ρ)
   | _,_,_=>False
  | _,_,_=>False
 | .makeSD e sz n zs=>match d with
  | some k=>match L.get k,eW (zs.map rF) sz,(Nat.beq n 0||eH (zs.map rF)),Nat.ble n 9223372036854775807 with
   | none,true,true,true=>K (L.set k (.row e sz (List.replicate n ((zs.map rF).map C.can)))) (bq d (.rw k) ρ)
   | _,_,_,_=>False
  | none=>False
 | .makeSV e sz bytes zs x=>match cO ρ x,d with
  | .int _ n,some k=>match L.get k,eW (zs.map rF) sz,eH (zs.map rF) with
   | none,true,true=>uw n n bytes fun n=>K (L.set k (.row e sz (List.replicate n ((zs.map rF).map C.can)))) (bq d (.rw k) ρ)
   | _,_,_=>False
  | _,_=>False
 | .storeK key n a x=>match cO ρ a with
  | .own k _=>match Nat.beq k key with
   | true=>storeT true n a x d L ρ K
   | false=>False
  | _=>False
 | .storeX n a x=>storeT false n a x d L ρ K
 | .store n a x=>storeT false n a x d L ρ K
 | .storeD n a x=>storeT true n a x d L ρ K
 | .call f args=>fl (eY ρ args) fun args=>qa P f args L ρ fun L' ρ' v=>fT L' fun L'=>Am v fun v=>K L' (bq d v ρ')
 | .callV f args=>match cO ρ f with
  | .fn f q p=>fl (q++eY ρ args++p) fun args=>qa P f args L ρ fun L' ρ' v=>fT L' fun L'=>Am v fun v=>K L' (bq d v ρ')
  | .mval r c=>match c with
   | .ifc t c=>Q0 P t r fun f=>fl (eY ρ args) fun args=>qa P f (c::args) L ρ fun L' ρ' v=>fT L' fun L'=>Am v fun v=>K L' (bq d v ρ')
   | _=>False
  | .mof t r=>match P4 P t,eY ρ args with
   | true,.ifc w c::h=>Q0 P w r fun f=>fl h fun h=>qa P f (c::h) L ρ fun L' ρ' v=>fT L' fun L'=>Am v fun v=>K L' (bq d v ρ')
   | _,_=>False
  | _=>False
 | .callD f args=>fl (eY ρ args) fun args=>uJ P f args L ρ d fun L' ρ' v=>fT L' fun L'=>Am v fun v=>K L' (bq d v ρ')
 | .callVD f args=>match cO ρ f with
  | .fn f q p=>fl (q++eY ρ args++p) fun args=>uJ P f args L ρ d fun L' ρ' v=>fT L' fun L'=>Am v fun v=>K L' (bq d v ρ')
  | .mval r c=>match c with
   | .ifc t c=>Q0 P t r fun f=>fl (eY ρ args) fun args=>uJ P f (c::args) L ρ d fun L' ρ' v=>fT L' fun L'=>Am v fun v=>K L' (bq d v ρ')
   | _=>False
  | _=>False
 | .callO f args=>fl (eY ρ args) fun args=>EL P f args L ρ fun L' ρ' v=>fT L' fun L'=>Am v fun v=>K L' (bq d v ρ')
 | .callVO f args=>match cO ρ f with
  | .fn f q p=>fl (q++eY ρ args++p) fun args=>EL P f args L ρ fun L' ρ' v=>fT L' fun L'=>Am v fun v=>K L' (bq d v ρ')
  | _=>False
 | .mkmap=>match d with
  | some k=>match L.get k with
   | none=>K (L.set k (.map [])) (bq d (.mpr k) ρ)
   | some _=>False
  | none=>False
 | .mupd str x i v=>match cO ρ x with
  | .mpr k=>match L.get k,JP str (cO ρ i),(cO ρ v).okc,iL (cF (cO ρ v)) with
   | some (.map es),true,true,true=>P2 str es (cO ρ i) ((cO ρ v).cel.aaj) fun es=>K (L.set k (.map es)) (bq d .und ρ)
   | _,_,_,_=>False
  | _=>False
 | .app e sz bytes _ s x=>MU e sz bytes (cO ρ s) (cO ρ x) d L ρ K
 | .appX e sz bytes _ s x=>MU e sz bytes (cO ρ s) (cO ρ x) d L ρ K
 | .appD e sz bytes _ s x=>match cO ρ s,(cO ρ x).can,d with
  | .rw k,.sl b,_=>match L.get k with
   | some (.row y u els)=>match Nat.beq e y,Nat.beq sz u with
    | true,true=>vQ els b sz bytes (fT ((L.aad (C.kill k)).set k (.row e sz (els++b))) fun L=>K L (bq d (.rw k) fun j=>(ρ j).kill k))
    | _,_=>False
   | _=>False
  | .nils,.sl b,some k=>match L.get k with
   | none=>vQ [] b sz bytes (fT (L.set k (.row e sz b)) fun L=>K L (bq d (.rw k) ρ))
   | some _=>False
  | .slx els,.sl b,some k=>match L.get k with
   | none=>0<b.length/\(∀es∈els,es.length=sz)/\vQ els b sz bytes (fT (L.set k (.row e sz (els++b))) fun L=>K L (bq d (.rw k) ρ))
   | some _=>False
  | _,_,_=>False
 | o=>outT o L ρ fun v=>Am v fun v=>K L (bq d v ρ)
def uM (P:Program) (PS:nG) (o:dN) (d:Option Nat) (L:TL) (ρ:aK) (K:TK):Prop :=
 match o with
 | .call f args=>fl (eY ρ args) fun args=>match PS.st with
  | none=>kU P PS f args L ρ fun L' ρ' v=>fT L' fun L'=>Am v fun v=>K L' (bq d v ρ')
  | some s=>EK P PS.ps PS.hb s f args L ρ fun L' ρ' v=>fT L' fun L'=>Am v fun v=>K L' (bq d v ρ')
 | .callV f args=>match cO ρ f with
  | .fn f b a=>fl (b++eY ρ args++a) fun args=>match PS.st with
   | none=>kU P PS f args L ρ fun L' ρ' v=>fT L' fun L'=>Am v fun v=>K L' (bq d v ρ')
   | some s=>EK P PS.ps PS.hb s f args L ρ fun L' ρ' v=>fT L' fun L'=>Am v fun v=>K L' (bq d v ρ')
  | _=>False
 | .pan x=>match PS.st with
  | none=>SN PS L (cO ρ x)
  | some s=>Vh PS.ps PS.hb s L (cO ρ x)
 | _=>False
def EM (P:Program) (PS:nG) (a:List Nat) (o:dN) (d:Option Nat) (L:TL) (ρ:aK) (K:TK):Prop :=
 match o with
 | .call f args=>fl (eY ρ args) fun args=>match PS.st with
  | some s=>tj P PS.ps PS.hb s a f args L ρ fun L' ρ' v=>fT L' fun L'=>Am v fun v=>K L' (bq d v ρ')
  | none=>oF P PS a f args L ρ fun L' ρ' v=>fT L' fun L'=>Am v fun v=>K L' (bq d v ρ')
 | .callV f args=>match cO ρ f with
  | .fn f c b=>fl (c++eY ρ args++b) fun args=>match PS.st with
   | some s=>tj P PS.ps PS.hb s a f args L ρ fun L' ρ' v=>fT L' fun L'=>Am v fun v=>K L' (bq d v ρ')
   | none=>oF P PS a f args L ρ fun L' ρ' v=>fT L' fun L'=>Am v fun v=>K L' (bq d v ρ')
  | _=>False
 | _=>False
def Ao:List ai->TL->Bool
 | [],_=>true
 | s::l,L=>match xj s with
  | none=>Ao l L
  | some k=>match L.get k with | none=>Ao l L | some _=>false
def rG (d:Option Nat) (ρ:aK):aK :=
 match d with
 | some k=>fun j=>match Nat.beq j k with | true=>(ρ k).aaC | false=>ρ j
 | none=>ρ
def JS (a:Bool) (d:Option Nat) (ρ:aK):aK:=match a with | true=>ρ | false=>rG d ρ
def stepT (P:Program) (PS:nG) (e:Bool) (s:ai) (c:TL->aK->TK->Prop) (L:TL) (ρ:aK) (K:TK):Prop :=
 match s with
 | .op d o none=>bN P o d L ρ fun L' ρ'=>c L' (JS e d ρ') K
 | .op d o (some (s,a))=>match ρ s with
  | .bool b=>zq b
    (match a with
     | true=>bN P o d L (bq (some s) (.bool true) ρ) fun L' ρ'=>c L' (JS e d ρ') K
     | false=>c L (bq d .und (bq (some s) (.bool true) ρ)) K)
    (match a with
     | false=>bN P o d L (bq (some s) (.bool false) ρ) fun L' ρ'=>c L' (JS e d ρ') K
     | true=>c L (bq d .und (bq (some s) (.bool false) ρ)) K)
  | .und=>c L (bq d .und ρ) K
  | _=>False
 | .frz k=>match e,L.get k with
  | false,some (.row _ _ els)=>fT ((L.del k).aad (C.frz k els)) fun L=>c L (fun j=>(ρ j).frz k els) K
  | false,some (.box _ cs)=>match eH cs,iL cs,Nat.blt k 1000,eZ (PS.hb.map (·.1)) k with
   | true,true,true,false=>fT ((L.del k).aad (C.frb k cs)) fun L=>c L (fun j=>(ρ j).frb k cs) K
   | _,_,_,_=>False
  | _,_=>False
 | .pc d o none=>match e with
  | true=>False
  | false=>uM P PS o d L ρ fun L' ρ'=>c L' (rG d ρ') K
 | .pc d o (some (s,a))=>match e,ρ s with
  | false,.bool b=>zq b
    (match a with
     | true=>uM P PS o d L (bq (some s) (.bool true) ρ) fun L' ρ'=>c L' (rG d ρ') K
     | false=>c L (bq d .und (bq (some s) (.bool true) ρ)) K)
    (match a with
     | false=>uM P PS o d L (bq (some s) (.bool false) ρ) fun L' ρ'=>c L' (rG d ρ') K
     | true=>c L (bq d .und (bq (some s) (.bool false) ρ)) K)
  | false,.und=>c L (bq d .und ρ) K
  | _,_=>False
def Ap (P:Program) (PS:nG) (b:List Nat) (s:ai) (a:TL->aK->TK->Prop) (L:TL) (ρ:aK) (K:TK):Prop :=
 match s with
 | .pc d o none=>EM P PS b o d L ρ fun L' ρ'=>a L' ρ' K
 | s=>stepT P PS true s a L ρ K
noncomputable def cW (P:Program) (PS:nG) (a:Bool) (ss:List ai):TL->aK->TK->Prop :=
 List.rec (motive:=fun _=>TL->aK->TK->Prop) (fun L ρ K=>K L ρ) (fun s _ b L ρ K=>stepT P PS a s b L ρ K) ss
noncomputable def j4 (P:Program) (PS:nG) (a:List Nat) (ss:List ai):TL->aK->TK->Prop :=
 List.rec (motive:=fun _=>TL->aK->TK->Prop) (fun L ρ K=>K L ρ) (fun s _ b L ρ K=>Ap P PS a s b L ρ K) ss
theorem jG {P:Program}{PS:nG}{b:List Nat}{s:ai}{a:List ai}{L:TL}{ρ:aK}{K:TK}:j4 P PS b (s::a) L ρ K=Ap P PS b s (j4 P PS b a) L ρ K:=rfl
theorem eI {P:Program}{PS:nG}{b:Bool}{s:ai}{a:List ai}{L:TL}{ρ:aK}{K:TK}:cW P PS b (s::a) L ρ K=stepT P PS b s (cW P PS b a) L ρ K:=rfl
def gD:List C->C
 | [v]=>v
 | l=>.tup l
def gF (L:TL) (ρ:aK):List RV->(List C->Prop)->Prop
 | [],K=>K []
 | (t,none)::l,K=>gF L ρ l fun a=>K ((ρ t).cel::a)
 | (t,some (agg,n))::l,K=>match ρ t with
  | .own k off=>match L.get k with
   | some (.box _ cs)=>match eW ((cs.drop off).take n) n with
    | true=>gF L ρ l fun a=>K ((EG agg ((cs.drop off).take n)).cel::a)
    | false=>False
   | _=>False
  | _=>False
structure fZ (Lin:List TO) (L:TL) (v:C) (R:List TO->C->Prop):Prop where
 out:∃(fz ko:List Nat),xE fz L (fun _=>.any) [v] fun L _ vs =>
  ∃(L1:TL) (c c1:C) (Mo:List TO),vs=[c]/\((L1=L/\c1=c)\/(gives L L1 L1/\MR L L1 c c1))/\L1.sub ko=some Mo/\aP ko=true/\aG Lin (List.range' 1000 Lin.length) ko=true /\
   (uq [c1]->R (Mo.map (TO.aad (C.ren (bA ko 1000)))) (c1.aat.ren (bA ko 1000)))
def tq (asg:List Nat) (ρ:aK):aK:=fun j=>match eZ asg j with | true=>.any | false=>(ρ j).aaL
structure Aq (body:TL->aK->TK->Prop) (asg:List Nat) (L:TL) (ρ:aK):Prop where
 out:∃(σ:Type) (x0:σ) (Inv:σ->Prop) (ls:List Nat) (lv:σ->List C) (Lf:σ->TL) (μ:σ->Nat),
  Inv x0/\mV L (Lf x0) ls (lv x0) ρ/\gives L (Lf x0) (Lf x0)/\(∀x,oE L (Lf x)=true)/\(∀x,(lv x).length=ls.length) /\
  ∀x,Inv x->uq (lv x)->(∀k o,(Lf x).get k=some o->o.Wf)->body (Lf x) (pX ls (lv x) (tq asg ρ)) fun L' ρ' =>
   ∃x',Inv x'/\mV L' (Lf x') ls (lv x') ρ'/\gives L' (Lf x') (Lf x')/\μ x'<μ x
def cZ:List ai->List Nat
 | []=>[]
 | .frz k::l=>k::cZ l
 | .op _ _ _::l=>cZ l
 | .pc _ _ _::l=>cZ l
def fH:ay->List Nat
 | .reg d=>cZ d
 | .regD d=>cZ d
 | .regX d=>cZ d
 | .seq a b=>fH a++fH b
 | .cond _ a b=>fH a++fH b
 | .block _ c=>fH c
 | .loop _ c=>fH c
 | _=>[]
def rV (L:TL):List Nat->Bool
 | []=>true
 | k::ks=>match L.get k with | some (.box _ _)=>false | some (.map _)=>false | _=>rV L ks
noncomputable def evalTC (P:Program) (PS:nG) (c:ay):(Nat->TK)->TK->TK->TK :=
 ay.rec (motive:=fun _=>(Nat->TK)->TK->TK->TK)
  (fun _ _ N L ρ=>N L ρ)
  (fun a _ _ N L ρ=>cW P PS false a L ρ N)
  (fun a _ _ N L ρ=>cW P PS true a L ρ N)
  (fun a _ _ N L ρ=>match Ao a L with | true=>j4 P PS (MN a) a L ρ N | false=>False)
  (fun _ _ d b E R N L ρ=>d E R (fun L ρ=>b E R N L ρ) L ρ)
  (fun c _ _ d b E R N L ρ=>match cO ρ c with
   | .bool t=>zq t (d E R N L ρ) (b E R N L ρ)
   | _=>False)
  (fun id _ e E R N L ρ=>e (fun j=>match Nat.beq j id with | true=>N | false=>E j) R N L ρ)
  (fun asg c e E R _ L ρ=>match rV L (fH c) with | true=>Aq (fun L ρ K=>e E R K L ρ) asg L ρ | false=>False)
  (fun id E _ _ L ρ=>E id L ρ)
  (fun _ R _ L ρ=>R L ρ) c
section
variable {P:Program}{PS:nG}{E:Nat->TK}{R N:TK}{L:TL}{ρ:aK}
theorem kI:evalTC P PS .skip E R N L ρ=N L ρ:=rfl
theorem lY {a:List ai}:evalTC P PS (.reg a) E R N L ρ=cW P PS false a L ρ N:=rfl
theorem kJ {a:List ai}:evalTC P PS (.regD a) E R N L ρ=cW P PS true a L ρ N:=rfl
theorem Db {a:List ai}:evalTC P PS (.regX a) E R N L ρ=(match Ao a L with | true=>j4 P PS (MN a) a L ρ N | false=>False):=rfl
theorem lZ {a b:ay}:evalTC P PS (.seq a b) E R N L ρ=evalTC P PS a E R (fun L ρ=>evalTC P PS b E R N L ρ) L ρ:=rfl
theorem kK {c:X}{a b:ay}:evalTC P PS (.cond c a b) E R N L ρ=(match cO ρ c with
   | .bool t=>zq t (evalTC P PS a E R N L ρ) (evalTC P PS b E R N L ρ)
   | _=>False):=rfl
theorem jH {id:Nat}{c:ay}:evalTC P PS (.block id c) E R N L ρ=evalTC P PS c (fun j=>match Nat.beq j id with | true=>N | false=>E j) R N L ρ:=rfl
theorem kL {asg:List Nat}{c:ay}:evalTC P PS (.loop asg c) E R N L ρ=(match rV L (fH c) with | true=>Aq (fun L ρ K=>evalTC P PS c E R K L ρ) asg L ρ | false=>False):=rfl
theorem kM {id:Nat}:evalTC P PS (.exit id) E R N L ρ=E id L ρ:=rfl
theorem l9:evalTC P PS .ret E R N L ρ=R L ρ:=rfl
end
def jN:Nat->List C->aK
 | _,[]=>fun _=>.und
 | k,v::l=>bq (some k) v (jN (k+1) l)
theorem wf_wrap (k:IntKind) (n:Int):(Lit.int k (k.wrap n)).wf=true:=by
 cases k<;>simp[Lit.wf,IntKind.wrap,IntKind.min,IntKind.max,IntKind.bits,IntKind.signed]<;>(try split)<;>omega
theorem EN (k:IntKind) (n:Int):(Lit.int k n).wf=true↔k.min<=n/\n<=k.max:=by simp[Lit.wf]
theorem FQ (k:IntKind):k.min<=0:=by cases k<;>simp[IntKind.min,IntKind.bits,IntKind.signed]
theorem FR (k:IntKind):127<=k.max:=by cases k<;>simp[IntKind.max,IntKind.bits,IntKind.signed]
def okB:Value->Prop
 | .int k n=>(Lit.int k n).wf=true
 | .bool _=>True
 | .string s=>s.size<=maxLen
 | _=>False
section
variable {P:Program}{G:Nat->Option (Nat×TypeId)}{F:au}{L:Loc}{ρ:Env}{M:TL}{τ:aK}
theorem xJ {v:Value}(h:okB v):aJ F L (QZ v) (.v v):=by
 cases v
 case int k n=>exact⟨.int k n,rfl,by simp only[QZ,Rel];exact⟨trivial,h⟩⟩
 case bool b=>exact⟨.bool b,rfl,by simp only[QZ,Rel]⟩
 case string b=>exact⟨.string b,rfl,by simp only[QZ,Rel];exact⟨trivial,h⟩⟩
 all_goals exact h.elim
theorem MV {k:IntKind}{a b:Int}(h:(Lit.int k a).wf=true):(Lit.int k (a.tmod b)).wf=true:=by
 rw[EN] at h ⊢;have h0:=FQ k;have h1:=FR k
 by_cases c:0<=a
 ·have:=Int.tmod_nonneg b c;have d:a.tmod b<=a:=by
   have:(a.tmod b).natAbs<=a.natAbs:=by rw[Int.natAbs_tmod];exact Nat.mod_le _ _
   omega
  omega
 ·have d:(a.tmod b).natAbs<=a.natAbs:=by rw[Int.natAbs_tmod];exact Nat.mod_le _ _
  have e:a.tmod b<=0:=by
   have:=Int.tmod_nonneg b (show 0<=-a by omega);rw[Int.neg_tmod] at this;omega
  omega
theorem MW {k:IntKind}{a:Int}{m:Nat}(h:(Lit.int k a).wf=true):(Lit.int k (a.fdiv (2 ^ m))).wf=true:=by
 rw[EN] at h ⊢;have h0:=FQ k;have h1:=FR k;have b:(0:Int)<2 ^ m:=Int.pow_pos (by omega);rw[Int.fdiv_eq_ediv_of_nonneg _ (by omega)]
 by_cases c:0<=a
 ·have e:=Int.ediv_nonneg c (Int.le_of_lt b);have d:=Int.ediv_le_self (2 ^ m) c;omega
 ·have e:a / 2 ^ m<0:=Int.ediv_neg_of_neg_of_pos (by omega) b;have d:a<=a / 2 ^ m:=by
   have:a*1<=a / 2 ^ m:=by
    apply Int.le_ediv_of_mul_le b;rw[Int.mul_one];have:a*2 ^ m<=a*1:=Int.mul_le_mul_of_nonpos_left (by omega) (by omega);omega
   omega
  omega
theorem HK {op:BinOp}{k:IntKind}{a b:Int}{K K':Value->Prop}(d:(Lit.int k a).wf=true) (h:binI op k a b K) (c:∀v,okB v->K v->K' v):binI op k a b K':=by
 cases op<;>simp only[binI] at h ⊢<;>first
  | exact h.elim
  | exact⟨c _ (wf_wrap _ _) h.out⟩
  | exact⟨h.ne,⟨c _ (wf_wrap _ _) h.out.out⟩⟩
  | exact⟨h.ne,c _ (MV d) h.out⟩
  | exact c _ (wf_wrap _ _) h
  | exact c _ trivial h
theorem JT {op:BinOp}{k:IntKind}{a b:Int}{K K':Value->Prop}(d:(Lit.int k a).wf=true) (h:shI op k a b K) (c:∀v,okB v->K v->K' v):shI op k a b K':=by
 cases op<;>simp only[shI] at h ⊢<;>first
  | exact h.elim
  | exact⟨h.1,⟨c _ (wf_wrap _ _) h.2.out⟩⟩
  | exact⟨h.1,c _ (MW d) h.2⟩
theorem HL {op:BinOp}{a b:ByteArray}{K K':Value->Prop}(h:binS op a b K) (c:∀v,okB v->K v->K' v):binS op a b K':=by
 cases op<;>simp only[binS] at h ⊢<;>first
  | exact h.elim
  | exact c _ trivial h
  | exact⟨h.1,c _ (by
    have h1:=h.1;simp[IntKind.max,IntKind.bits,IntKind.signed] at h1;show(a++b).size<=maxLen;rw[ByteArray.size_append];simp only[maxLen];omega) h.2⟩
theorem BH (v:Value):Rel F L (rF v) v:=by
 unfold rF;split
 ·split
  ·rename_i h;simp only[Rel];exact⟨trivial,h⟩
  ·simp only[Rel]
 ·simp only[Rel]
 ·split
  ·rename_i h;simp only[Rel];exact⟨trivial,abb h⟩
  ·simp only[Rel]
 ·simp only[Rel]
 ·simp only[Rel]
 ·simp only[Rel]
 ·simp only[Rel];exact Mf
 ·simp only[Rel]
 ·simp only[Rel]
theorem kN:∀a:List Value,ax F L (a.map rF) a
 | []=>by simp only[abE,ax]
 | v::a=>by simp only[aa0,ax];exact⟨v,a,rfl,BH v,kN a⟩
theorem SR (v:Value):aJ F L (rF v) (.v v):=by
 have h:=BH (F:=F) (L:=L) v
 revert h
 unfold rF;split
 ·split
  ·exact fun h=>⟨_,rfl,h⟩
  ·exact fun h=>trivial
 ·exact fun h=>⟨_,rfl,h⟩
 ·split
  ·exact fun h=>⟨_,rfl,h⟩
  ·exact fun h=>trivial
 ·exact fun h=>⟨_,rfl,h⟩
 ·exact fun h=>⟨_,rfl,h⟩
 ·exact fun h=>⟨_,rfl,h⟩
 ·exact fun h=>⟨_,rfl,h⟩
 ·exact fun h=>⟨_,rfl,h⟩
 ·exact fun h=>trivial
theorem SS (v:Value):aJ F L (cv v) (.v v):=by
 unfold cv;split
 ·rename_i cs;exact⟨_,rfl,by simp only[Rel];exact⟨cs.toList,by simp,kN _⟩⟩
 ·exact SR v
theorem dP (h:∀j,aJ F L (τ j) (ρ j)) (x:X):aJ F L (cO τ x) (ev ρ x):=by
 cases x with
 | t n=>exact h n
 | c v=>exact SS v
 | fn f=>exact⟨_,rfl,by simp only[cO,Rel];exact⟨[],[],by simp,by simp only[ax],by simp only[ax]⟩⟩
 | mt k n =>
  have a:=h n;simp only[cO,ev,XQ];split
  ·rename_i t c e;rw[e] at a;simp only[aJ] at a ⊢;obtain⟨v,d,b⟩:=a;rw[d];refine⟨_,rfl,?_⟩;simp only[Rel] at b ⊢;exact⟨v,rfl,b⟩
  ·simp only[aJ]
theorem gq {x:X}{k:IntKind}{n:Int}(h:∀j,aJ F L (τ j) (ρ j)) (e:cO τ x=.int k n):ev ρ x=.v (.int k n)/\(Lit.int k n).wf=true:=by
 have:=dP h x;rw[e] at this;simp only[aJ,Rel] at this;obtain⟨v,h1,rfl,a⟩:=this;exact⟨h1,a⟩
theorem iW {x:X}{b:Bool}(h:∀j,aJ F L (τ j) (ρ j)) (e:cO τ x=.bool b):ev ρ x=.v (.bool b):=by
 have:=dP h x;rw[e] at this;simp only[aJ,Rel] at this;obtain⟨v,h1,rfl⟩:=this;exact h1
theorem wu {x:X}{s:ByteArray}(h:∀j,aJ F L (τ j) (ρ j)) (e:cO τ x=.str s):ev ρ x=.v (.string s)/\s.size<=maxLen:=by
 have:=dP h x;rw[e] at this;simp only[aJ,Rel] at this;obtain⟨v,h1,rfl,a⟩:=this;exact⟨h1,a⟩
theorem Q5 {x:X}{els:List (List C)}(h:∀j,aJ F L (τ j) (ρ j)) (e:cO τ x=.sl els) :
  ∃a c sz,ev ρ x=.v (.slice a els.length c)/\els.length<=c/\els.length<=maxLen/\(a=none->els=[]/\c=0)/\gk F a sz 0 els:=by
 have:=dP h x;rw[e] at this;simp only[aJ,Rel] at this;obtain⟨v,h1,a,c,rfl,f,d,k,sz,b⟩:=this;exact⟨a,c,sz,h1,f,d,k,b⟩
theorem tu {x:X}(h:∀j,aJ F L (τ j) (ρ j)) (e:cO τ x=.nils):ev ρ x=.v (.slice none 0 0):=by
 have:=dP h x;rw[e] at this;simp only[aJ,Rel] at this;obtain⟨v,h1,rfl⟩:=this;exact h1
theorem EO {x:X}{k:Nat}(h:∀j,aJ F L (τ j) (ρ j)) (e:cO τ x=.rw k):∃a c t sz n xs,ev ρ x=.v (.slice a n c)/\L.get k=some (.row (.slice a n c) t sz n xs):=by
 have:=dP h x;rw[e] at this;simp only[aJ,Rel] at this;obtain⟨v,h1,a,c,t,sz,n,xs,rfl,b⟩:=this;exact⟨a,c,t,sz,n,xs,h1,b⟩
theorem je {x:X}{k off:Nat}(h:∀j,aJ F L (τ j) (ρ j)) (e:cO τ x=.own k off):ev ρ x=.own k off/\∃g t cs,L.get k=some (.box g t cs):=by
 have:=dP h x;rw[e] at this;simp only[aJ] at this;exact this
theorem tw {x:X}{k off:Nat}(h:∀j,aJ F L (τ j) (ρ j)) (e:cO τ x=.ownv k off):∃g t cs,L.get k=some (.box g t cs)/\UN (ev ρ x) (.pointer (some ⟨g,off,none⟩)):=by
 have:=dP h x;rw[e] at this;simp only[aJ,Rel] at this;obtain⟨v,h1,g,t,cs,a,rfl⟩:=this;exact⟨g,t,cs,a,h1⟩
theorem uN {x:X}{f:Nat}{c d:List C}(h:∀j,aJ F L (τ j) (ρ j)) (e:cO τ x=.fn f c d):∃a b,ev ρ x=.v (.func (.func f) a.toArray b.toArray)/\ax F L c a/\ax F L d b:=by
 have:=dP h x;rw[e] at this;simp only[aJ,Rel] at this;obtain⟨v,h1,a,b,rfl,l,k⟩:=this;exact⟨a,b,h1,l,k⟩
theorem BI {x:X}{cs:List C}(h:∀j,aJ F L (τ j) (ρ j)) (e:cO τ x=.agg cs):∃a,ev ρ x=.v (.agg a.toArray)/\ax F L cs a:=by
 have:=dP h x;rw[e] at this;simp only[aJ,Rel] at this;obtain⟨v,h1,a,rfl,b⟩:=this;exact⟨a,h1,b⟩
theorem MX {x:X}{cs:List C}(h:∀j,aJ F L (τ j) (ρ j)) (e:cO τ x=.tup cs):∃a,ev ρ x=.v (.tuple a.toArray)/\ax F L cs a:=by
 have:=dP h x;rw[e] at this;simp only[aJ,Rel] at this;obtain⟨v,h1,a,rfl,b⟩:=this;exact⟨a,h1,b⟩
theorem MY {x:X}{t:TypeId}{c:C}(h:∀j,aJ F L (τ j) (ρ j)) (e:cO τ x=.ifc t c):∃u,ev ρ x=.v (.iface t u)/\Rel F [] c u:=by
 have:=dP h x;rw[e] at this;simp only[aJ,Rel] at this;obtain⟨v,h1,u,rfl,a⟩:=this;exact⟨u,h1,a⟩
theorem FT {x:X}{k:Nat}(h:∀j,aJ F L (τ j) (ρ j)) (e:cO τ x=.opq k):∃v,ev ρ x=.v v/\gJ k F v:=by
 have:=dP h x;rw[e] at this;simp only[aJ,Rel] at this;exact this
theorem xK {x:X}{a:String}{c:C}(h:∀j,aJ F L (τ j) (ρ j)) (e:cO τ x=.mval a c):∃u,ev ρ x=.v (.func (.method a) #[u] #[])/\Rel F [] c u:=by
 have:=dP h x;rw[e] at this;simp only[aJ,Rel] at this;obtain⟨v,h1,u,rfl,b⟩:=this;exact⟨u,h1,b⟩
theorem MZ {x:X}{t:TypeId}{a:String}(h:∀j,aJ F L (τ j) (ρ j)) (e:cO τ x=.mof t a):ev ρ x=.v (.func (.methodOf t a) #[] #[]):=by
 have:=dP h x;rw[e] at this;simp only[aJ,Rel] at this;obtain⟨v,h1,rfl⟩:=this;exact h1
theorem rW {x:X}{es:List C}{off:Nat}(h:∀j,aJ F L (τ j) (ρ j)) (e:cO τ x=.pt es off) :
  ∃b o j a,(ev ρ x=.v (.pointer (some ⟨b,o,none⟩))/\j=0\/ev ρ x=.el (some ⟨b,o,none⟩) j)/\MT F b (o+j) off a/\eH es=true/\ax F [] es a:=by
 have:=dP h x;rw[e] at this;simp only[aJ] at this;exact this
theorem wz {x:X}{k j off:Nat}(h:∀j,aJ F L (τ j) (ρ j)) (e:cO τ x=.elr k j off) :
  ∃a t sz n c xs,ev ρ x=.el (some a) (j*sz+off)/\L.get k=some (.row (.slice (some a) n c) t sz n xs):=by
 have:=dP h x;rw[e] at this;simp only[aJ] at this;exact this
theorem kV (h:bM F L M) {k:Nat}{t:TypeId}{cs:List C}(e:M.get k=some (.box t cs)):∃g a b,L.get k=some (.box g a b)/\ax F L cs b/\tyOk t g a:=by
 have:=h k;rw[e] at this;cases c:L.get k with
 | none=>rw[c] at this;exact this.elim
 | some o =>
  rw[c] at this;cases o with
  | row=>exact this.elim
  | box g a b=>obtain⟨h1,d⟩:=this;exact⟨g,a,b,rfl,d,h1⟩
theorem mg (h:bM F L M) {k:Nat}{t:TypeId}{sz:Nat}{els:List (List C)}(e:M.get k=some (.row t sz els)) :
  ∃v xs,L.get k=some (.row v t sz els.length xs)/\(els.length<=maxLen/\∃a c,v=.slice a els.length c/\(a=none->els.length=0))/\aN F sz els xs:=by
 have:=h k;rw[e] at this;cases b:L.get k with
 | none=>rw[b] at this;exact this.elim
 | some o =>
  rw[b] at this;cases o with
  | box=>exact this.elim
  | row v l f n xs=>obtain⟨rfl,rfl,rfl,j,d⟩:=this;exact⟨v,xs,rfl,j,d⟩
theorem bX (h:bM F L M) {k:Nat}(e:M.get k=none):L.get k=none:=by
 have:=h k;rw[e] at this;cases a:L.get k with
 | none=>rfl
 | some o=>rw[a] at this;exact this.elim
theorem bU:∀{l:List C}{n:Nat},eW l n=true->l.length=n
 | [],0,_=>rfl
 | [],n+1,h=>by simp[eW] at h
 | _::l,0,h=>by simp[eW] at h
 | _::l,n+1,h=>by simp only[eW] at h;simp[bU h]
theorem ji:∀{l:List Value}{n:Nat},l.length=n->gQ l n=true
 | [],0,_=>rfl
 | [],n+1,h=>by simp at h
 | _::l,0,h=>by simp at h
 | _::l,n+1,h=>by simp only[gQ];exact ji (by simpa using h)
theorem kC {c:C}{v:Value}(h:Rel F L c v):aJ F L c.slt (.v v):=by
 cases c<;>(try simp only[C.slt])<;>try exact⟨v,rfl,h⟩
 case any=>trivial
 case pt es off =>
  simp only[Rel] at h;obtain⟨b,o,e,rfl,d,a⟩:=h;exact⟨b,o,0,e,.inl ⟨rfl,rfl⟩,d,a⟩
 case own=>exact⟨v,.inl rfl,h⟩
 case ownv=>exact h.elim
 case elr=>exact h.elim
theorem eD {agg:Bool}{cs:List C}{a:List Value}(h:ax F L cs a):aJ F L (EG agg cs) (.v (gU agg a)):=by
 cases agg with
 | true=>exact⟨_,rfl,by simp only[EG,gU,Rel];exact⟨a,rfl,h⟩⟩
 | false =>
  match cs,a,h with
  | [],a,h=>trivial
  | [c],a,h =>
   simp only[ax] at h;obtain⟨v,b,rfl,h1,rfl⟩:=h;exact kC h1
  | _::_::_,a,h=>trivial
theorem UN.conc {sv:SV}{v:Value}(h:UN sv v):Fr.conc L sv=v:=by
 rcases h with rfl | ⟨b,o,j,rfl,rfl⟩
 ·rfl
 ·simp only[Fr.conc,cT]
theorem Na {c:C}{sv:SV}(h:aJ F L c sv) (n:c.one=true\/(∃k o,c=.ownv k o)\/c=.any\/(∃k j o,c=.elr k j o)\/(∃l,c=.agg l)\/(∃l,c=.tup l)\/c=.und):Rel F L c.cel (conc L sv):=by
 cases c<;>simp only[C.cel]<;>simp only[aJ] at h
 case own k off =>
  obtain⟨rfl,g,t,cs,h⟩:=h;simp only[Rel,conc,h];exact⟨g,t,cs,rfl,rfl⟩
 case ownv k off =>
  obtain⟨v,m,h⟩:=h;rw[m.conc];exact h
 case pt es off =>
  obtain⟨b,o,j,e,h1,d,a,f⟩:=h;simp only[Rel];rcases h1 with⟨rfl,rfl⟩ | rfl
  ·exact⟨b,o,e,rfl,d,a,f⟩
  ·exact⟨b,o+j,e,by simp only[conc,cT],d,a,f⟩
 case elr=>simp only[Rel]
 case any=>simp only[Rel]
 all_goals
  obtain⟨v,rfl,h⟩:=h;simpa only[conc] using h
theorem mh {c:C}{sv:SV}(h:aJ F L c sv):Rel F L c.cel (conc L sv):=by
 apply Na h;cases c<;>simp[C.one]
theorem BJ (h:∀j,aJ F L (τ j) (ρ j)) (x:X):Rel F L (cO τ x).cel (val L ρ x):=mh (dP h x)
theorem dM (h:∀j,aJ F L (τ j) (ρ j)):∀xs:List X,ax F L (eY τ xs) (bn L ρ xs)
 | []=>by simp only[eY,bn,ax]
 | x::xs=>by simp only[eY,bn,ax];exact⟨_,_,rfl,BJ h x,dM h xs⟩
theorem EP {c:C}{sv:SV}(h:aJ F L c sv) (d:c.okc=true):ax F L (cF c) (aL (conc L sv)):=by
 have h1:=mh h;cases c<;>simp only[C.okc,aa5] at d<;>simp only[cF]<;>simp only[C.cel] at h1 ⊢
 case agg cs =>
  simp only[Rel] at h1;obtain⟨e,a,b⟩:=h1;rw[a];simpa only[aL] using b
 all_goals
  simp only[ax];refine⟨_,[],?_,h1,rfl⟩
  revert h1
  generalize conc L sv=v;intro h1;simp only[Rel] at h1
  first
   | (have a:=gJ.one h1;cases v<;>first | rfl | (exact vv a (by decide)) | (simp[Value.oneCell'] at a))
   | (obtain⟨rfl,_⟩:=h1;rfl)
   | (subst h1;rfl)
   | (obtain⟨_,rfl,_⟩:=h1;rfl)
   | (obtain⟨_,_,rfl,_⟩:=h1;rfl)
   | (obtain⟨_,_,_,rfl,_⟩:=h1;rfl)
   | (obtain⟨_,_,_,_,_,_,rfl,_⟩:=h1;rfl)
   | (obtain⟨_,_,_,_,rfl⟩:=h1;rfl)
theorem ia (h:∀j,aJ F L (τ j) (ρ j)) {x:X}(a:(cO τ x).okc=true):ax F L (cF (cO τ x)) (aL (val L ρ x)):=EP (dP h x) a
theorem mN {cs:List C}{a:List Value}{off:Nat}{ds:List C}{us:List Value}(h:ax F L cs a) (k:ax F L ds us):ax F L (jd cs off ds) (bP a off us):=by
 simp only[jd,bP];rw[<-k.len];exact((h.take off).append k).append (h.drop _)
theorem Ar (h:∀j,aJ F L (τ j) (ρ j)):∀(ps:List (Nat×Nat×X)) {zs:List C}{a:List Value}{cs:List C},ax F L zs a->uH τ zs ps=some cs->∃us,built L ρ a ps=some us/\ax F L cs us
 | [],zs,a,cs,b,hb=>by
  simp only[uH,aaO] at hb;subst hb;exact⟨a,rfl,b⟩
 | (off,n,x)::ps,zs,a,cs,b,hb=>by
  simp only[uH] at hb;split at hb
  case h_2=>cases hb
  rename_i h1 e;have c:=ia h h1;have d:gQ (aL (val L ρ x)) n=true:=ji (by rw[c.len];exact bU e);simp only[built,d];exact Ar h ps (mN b c) hb
theorem FU (h:∀j,aJ F L (τ j) (ρ j)) {d i:Int}{x:Option X}(e:MP τ d x=some i):mY ρ d x=some i:=by
 cases x with
 | none=>exact e
 | some x =>
  simp only[MP] at e;split at e
  case h_2=>cases e
  rename_i k j a;injection e with e
  subst e;simp only[mY,(gq h a).1]
theorem JU (h:∀j,aJ F L (τ j) (ρ j)) (mx:Bool):∀(args:List X) {a m:Int},UM mx a (args.map (cO τ))=some m->PN mx a (args.map (ev ρ))=some m
 | [],a,m,e=>e
 | x::args,a,m,e=>by
  simp only[aa0] at e ⊢;cases b:cO τ x<;>rw[b] at e<;>simp only[UM,reduceCtorEq] at e;rw[(gq h b).1];exact JU h mx args e
theorem JV {a:Option Addr}{sz:Nat}{els:List (List C)}{c l h:Nat}(k:gk F a sz 0 els) (y:a=none->els=[]/\c=0) (hl:l<=h) (hh:h<=els.length) (z:els.length<=c) :
  gk F (if c=l then a else a.map (·.add (l*sz))) sz 0 ((els.drop l).take (h-l)):=by
 rw[nE] at k ⊢;intro j es he;rw[abL] at he;split at he
 case isFalse=>cases he
 rename_i x;rw[abz] at he;obtain⟨r,h1,q,m,u⟩:=k _ es he;have n:l+j<els.length:=(aaU.1 he).1;rw[q9 (by omega)];refine⟨r,h1,?_,m,u⟩;obtain⟨p,f,t,w,e,hb,d,s⟩:=q;subst e;obtain⟨b,o,sp⟩:=p;simp only at d;subst d;refine⟨⟨b,o+l*sz,none⟩,f,t,w,by simp only[abq,cT],hb,rfl,fun i v hi=>?_⟩;have:=s i v hi;simp only[Nat.zero_add,Nat.add_mul] at this ⊢;rw[show o+l*sz+j*sz+i=o+(l*sz+j*sz)+i by omega];exact this
theorem kO {b o j off n:Nat}{es:List C}{e:List Value}(f:MT F b (o+j) off e):dG F (some ⟨b,o,none⟩) j ((e.drop off).take n):=by
 obtain⟨d,c,t,l,h1,k,h⟩:=f;refine⟨_,c,t,l,rfl,h1,rfl,fun i v a=>?_⟩;rw[abL] at a;split at a
 case isFalse=>cases a
 rw[abz] at a;have:=h _ _ a;show c[o+j+i]?=_;rw[k,Nat.add_assoc];exact this
theorem jq {L':Loc}{cs:List C}{e:List Value}(p:iL cs=true) (h:ax F L cs e):ax F L' cs e:=by
 have b:∀(c:C) (v:Value),c.aal=true->Rel F L c v->Rel F L' c v:=by
  intro c v d h;cases c<;>simp only[C.aal,aa5] at d<;>simp only[Rel] at h ⊢<;>exact h
 have a:∀(cs:List C) (e:List Value),jh cs=true->ax F L cs e->ax F L' cs e:=by
  intro cs e d h;rw[lX] at h ⊢;exact⟨h.1,fun i c v h1 l=>b c v (pY.1 d c (aaZ h1)) (h.2 i c v h1 l)⟩
 rw[lX] at h ⊢;refine⟨h.1,fun i c v h1 l=>?_⟩;have d:=xH.1 p c (aaZ h1);have k:=h.2 i c v h1 l;cases c<;>first
  | exact b _ _ d k
  | (simp only[C.pure,C.aal,aa5] at d;done)
  | (simp only[C.pure] at d
     split at d
     case h_2=>cases d
     rename_i j;simp only[Rel] at k ⊢;obtain⟨f,m,q,o,n⟩:=k;exact⟨f,m,q,a _ _ j o,a _ _ d n⟩)
theorem uO {els:List (List C)}{v:Value}(h:Rel F L (.slx els) v):Rel F L (.sl els) v:=by
 simp only[Rel] at h ⊢;obtain⟨a,h1,c,sz,b⟩:=h;exact⟨some a,els.length,h1,aa3 _,c,fun e=>(by cases e),sz,b⟩
theorem tC {c:C}{v:Value}(h:Rel F L c v):Rel F L c.can v:=by
 cases c<;>first
  | exact h
  | exact uO h
  | (simp only[Rel] at h
     subst h;simp only[C.can,Rel];exact⟨none,0,by simp,by simp,by simp,fun _=>by simp,0,by simp only[gk]⟩)
theorem kP {cs:List C}{a:List Value}(h:ax F L cs a):ax F L (cs.map C.can) a:=h.map fun c _ v=>tC
theorem iX {c:C}{v:Value}(h:Rel F L c v):Rel F L c.aaj v:=by
 cases c<;>first
  | exact h
  | exact tC (c:=.nils) h
  | exact uO h
  | (simp only[Rel] at h
     obtain⟨b,h1,a⟩:=h;simp only[C.aaj,Rel];exact⟨b,h1,kP a⟩)
theorem JW {c:C}{sv:SV}(h:aJ F L c sv):aJ F L c.can sv:=by
 cases c<;>first
  | exact h
  | (obtain⟨v,e,a⟩:=h;exact⟨v,e,uO a⟩)
  | (obtain⟨v,e,a⟩:=h;exact⟨v,e,tC (c:=.nils) a⟩)
theorem lm {x:X}{els:List (List C)}(h:∀j,aJ F L (τ j) (ρ j)) (e:(cO τ x).can=.sl els) :
  ∃a c sz,ev ρ x=.v (.slice a els.length c)/\els.length<=c/\els.length<=maxLen/\(a=none->els=[]/\c=0)/\gk F a sz 0 els:=by
 have:=JW (dP h x);rw[e] at this;simp only[aJ,Rel] at this;obtain⟨v,h1,a,c,rfl,f,d,k,sz,b⟩:=this;exact⟨a,c,sz,h1,f,d,k,b⟩
theorem Nb {c:C}{k:Nat}(e:c.can=.opq k):c=.opq k:=by cases c<;>simp only[C.can,reduceCtorEq] at e<;>exact e
theorem BK {c:C}{k:Nat}(e:c.can=.rw k):c=.rw k:=by cases c<;>simp only[C.can,reduceCtorEq] at e<;>exact e
theorem BL {x:X}{els:List (List C)}(h:∀j,aJ F L (τ j) (ρ j)) (e:cO τ x=.slx els) :
  ∃a sz,ev ρ x=.v (.slice (some a) els.length els.length)/\els.length<=maxLen/\gk F (some a) sz 0 els:=by
 have:=dP h x;rw[e] at this;simp only[aJ,Rel] at this;obtain⟨v,h1,a,rfl,c,sz,b⟩:=this;exact⟨a,sz,h1,c,b⟩
theorem Nc {c:C}(h:c.one=true):c.can.one=true:=by cases c<;>first | exact h | rfl
theorem nH {cs:List C}(h:eH cs=true):eH (cs.map C.can)=true:=by
 rw[nF] at h ⊢;intro c b;obtain⟨d,a,rfl⟩:=abt.1 b;exact Nc (h d a)
theorem nI {cs:List C}{b:List Value}(h:ax F L cs b) (d:eH cs=true):∀u∈b,u.oneCell'=true:=by
 intro u c;obtain⟨i,hi⟩:=abh.1 c;have a:i<cs.length:=by rw[<-h.len];exact(aaU.1 hi).1
 have e:=h.at (aaQ a) hi;exact e.one (nF.1 d _ (List.getElem_mem a))
theorem wA:∀{a:List Value},(∀u∈a,u.oneCell'=true)->jT a=true
 | [],_=>rfl
 | v::a,h=>by simp only[jT,h v (by simp)];exact wA fun u b=>h u (by simp[b])
end
section
variable {P:Program}{G:Nat->Option (Nat×TypeId)}{F:au}{L:Loc}{ρ:Env}{M:TL}{τ:aK}
theorem mo {k:IntKind}{n:Int}(h:(Lit.int k n).wf=true):aJ F L (.int k n) (.v (.int k n)):=⟨_,rfl,by simp only[Rel];exact⟨trivial,h⟩⟩
theorem fR {b:Bool}:aJ F L (.bool b) (.v (.bool b)):=⟨_,rfl,by simp only[Rel]⟩
theorem JX {es:List C}{e:List Value}{c:Addr}{j:Nat}{a:Array Value}{t:TypeId}{f:Nat×Nat}(hb:F c.block=some (.cells a t f)) (d:c.spot=none)
  (h:∀(i:Nat) v,e[i]?=some v->a[c.off+j+i]?=some v) (h1:eH es=true) (k:ax F [] es e):aJ F L (.pt es 0) (.el (some c) j):=by
 obtain⟨b,o,l⟩:=c;simp only at d;subst d;exact⟨b,o,j,e,.inr rfl,⟨o+j,a,t,f,hb,rfl,h⟩,h1,k⟩
theorem Nd {els:List (List C)}{a:Option Addr}{c sz:Nat}(h1:els.length<=c) (d:els.length<=maxLen) (b:a=none->els=[]/\c=0) (e:gk F a sz 0 els):aJ F L (.sl els) (.v (.slice a els.length c)) :=
 ⟨_,rfl,by simp only[Rel];exact⟨a,c,rfl,h1,d,b,sz,e⟩⟩
set_option maxHeartbeats 1000000 in
theorem Nf:∀{ks:List Bool}{cs ds:List C}{d b:Bool}{e us:List Value},uK ks cs ds d=some b->ax F L cs e->ax F L ds us->iU ks e.toArray.toList us.toArray.toList d=some b:=by
 intro ks
 induction ks with
 | nil =>
  intro cs ds d b e us h h1 a;cases cs with
  | cons c cs=>simp[uK] at h
  | nil =>
   cases ds with
   | cons c cs=>simp[uK] at h
   | nil =>
    simp only[ax] at h1 a;subst h1 a;simpa[iU,uK] using h
 | cons k ks l =>
  intro cs ds d b e us h h1 a;cases cs with
  | nil=>cases k<;>simp[uK] at h
  | cons c cs =>
   cases ds with
   | nil=>cases k<;>cases c<;>simp[uK] at h
   | cons n ds =>
    cases k<;>cases c<;>try (simp[uK] at h;done)
    all_goals cases n<;>try (simp[uK] at h;done)
    all_goals simp only[ax,Rel] at h1 a
    ·obtain⟨v,j,rfl,rfl,h1⟩:=h1;obtain⟨u,f,rfl,rfl,a⟩:=a;simp only[uK] at h;have:=l h h1 a;simp only[iU];exact this
    ·obtain⟨v,j,rfl,⟨rfl,_⟩,h1⟩:=h1;obtain⟨u,f,rfl,⟨rfl,_⟩,a⟩:=a;simp only[uK] at h;split at h
     case h_2=>cases h
     rename_i m;have:=l h h1 a;simp only[iU,m];exact this
theorem Q6 (v:Value):Rel F L (cv v) v:=by
 unfold cv;split
 ·rename_i cs;simp only[Rel];exact⟨cs.toList,by simp,kN _⟩
 ·exact BH v
theorem FW {x:X}{k:Nat}(h:∀j,aJ F L (τ j) (ρ j)) (e:cO τ x=.mpr k):∃g cs,ev ρ x=.v (.map (some g))/\L.get k=some (.box g 0 cs):=by
 have:=dP h x;rw[e] at this;simp only[aJ,Rel] at this;obtain⟨v,h1,g,cs,a,rfl⟩:=this;exact⟨g,cs,h1,a⟩
theorem JY (h:bM F L M) {k:Nat}{es:List (C×C)}(e:M.get k=some (.map es)):∃g a,L.get k=some (.box g 0 a)/\fC F es a:=by
 have:=h k;rw[e] at this;cases b:L.get k with
 | none=>rw[b] at this;exact this.elim
 | some o =>
  rw[b] at this;cases o with
  | row=>exact this.elim
  | box g d a=>obtain⟨rfl,c⟩:=this;exact⟨g,a,rfl,c⟩
theorem fC.isMap {es:List (C×C)}{a:List Value}(h:fC F es a):ld a=true:=by
 cases es with
 | nil=>simp only[fC] at h;subst h;rfl
 | cons p l =>
  obtain⟨k,c⟩:=p;simp only[fC] at h;obtain⟨kv,v,b,rfl,_⟩:=h;rfl
theorem fC.len:∀{es:List (C×C)}{a:List Value},fC F es a->a.length=es.length
 | [],a,h=>by simp only[fC] at h;subst h;rfl
 | (k,c)::l,a,h=>by
  simp only[fC] at h;obtain⟨kv,v,b,rfl,_,_,h⟩:=h;simp[fC.len h]
theorem qd {str:Bool}{a b:C}{u v:Value}{r:Bool}{L':Loc}(h:jF str a b=some r) (c:Rel F L a u) (hb:Rel F L' b v):eU str u v=some r:=by
 unfold jF at h;split at h
 ·simp only[Rel] at c hb;rw[c.1,hb.1];exact h
 ·simp only[Rel] at c hb;rw[c.1,hb.1];exact h
 ·cases h
theorem xL {str:Bool}{key:C}{kv:Value}(f:∀b v r,jF str key b=some r->Rel F [] b v->eU str kv v=some r):∀{es:List (C×C)}{a:List Value}{o:Option C}(i:Nat),fC F es a->vA str key es=some o ->
  match o with | some c=>∃j v,lM str kv a i=some (some (j,v))/\Rel F [] c v | none=>lM str kv a i=some none
 | [],a,o,i,h,e=>by
  simp only[fC] at h;subst h;simp only[vA,aaO] at e;subst e;rfl
 | (k,c)::l,a,o,i,h,e=>by
  simp only[fC] at h;obtain⟨u,v,p,rfl,h1,n,m⟩:=h;simp only[vA] at e;split at e
  ·rename_i d;injection e with e
   subst e;exact⟨i,v,by simp only[lM,f _ _ _ d h1],n⟩
  ·rename_i d;have:=xL f (i+1) m e;simp only[lM,f _ _ _ d h1];exact this
  ·cases e
theorem Au {c:C}{v:Value}{b:Bool}(h:Rel F L c v):aJ F L (.tup [c,.bool b]) (.v (.tuple #[v,.bool b])) :=
 ⟨_,rfl,by simp only[Rel,ax];exact⟨[v,.bool b],rfl,v,_,rfl,h,_,[],rfl,rfl,rfl⟩⟩
theorem FX (h:∀j,aJ F L (τ j) (ρ j)) {str:Bool}{x:X}:∀b v r,jF str (cO τ x) b=some r->Rel F [] b v->eU str (val L ρ x) v=some r:=by
 intro b v r a hb;refine qd (F:=F) (L:=L) a ?_ hb;have:=BJ h x
 revert this
 cases c:cO τ x<;>rw[c] at a<;>cases str<;>simp only[jF,reduceCtorEq] at a<;>simp only[C.cel]<;>exact fun h=>h
theorem Vi {o:dN}{V:C->Prop}(ht:TS G F L ρ M τ) (h:outT o M τ V):aH o F L ρ (fun sv=>∃c,aJ F L c sv/\V c):=by
 have he:=ht.env;cases o<;>simp only[outT] at h<;>simp only[aH]
 case mov x=>exact⟨_,dP he x,h⟩
 case pick c a b =>
  split at h
  case h_2=>exact h.elim
  rename_i t hc;rw[iW he hc];cases t
  ·exact⟨_,dP he b,h⟩
  ·exact⟨_,dP he a,h⟩
 case build zs ps =>
  rw[eX] at h;obtain⟨cs,hc,h⟩:=uL h;obtain⟨us,h1,h2⟩:=Ar he ps (kN zs) hc;rw[h1];exact⟨.agg cs,⟨_,rfl,by simp only[Rel];exact⟨us,rfl,h2⟩⟩,h⟩
 case load agg n x =>
  split at h
  ·rename_i k off p;obtain⟨d,_⟩:=je he p;rw[d];split at h
   case h_2=>exact h.elim
   rename_i t cs hk;obtain⟨g,ty,vs,hL,hr,an⟩:=kV ht.tl hk;split at h
   case h_2=>exact h.elim
   rename_i hl;have w:=(hr.drop off).take n;simp only[hL];rw[oe an.2.2 (ji (by rw[w.len];exact bU hl))];exact⟨_,eD w,h⟩
  ·rename_i es off p;split at h
   case h_2=>exact h.elim
   rename_i hl;obtain⟨b,o,j,vs,d,hp,ho,hr⟩:=rW he p;have w:ax F L ((es.drop off).take n) ((vs.drop off).take n):=((hr.drop off).take n).lift;rcases d with⟨d,rfl⟩ | d
   ·rw[d];exact⟨_,by rw[w.len];exact bU hl,.inl (kO (es:=es) hp),_,eD w,h⟩
   ·rw[d];exact⟨_,by rw[w.len];exact bU hl,.inl (kO (es:=es) hp),_,eD w,h⟩
  ·rename_i k off p;split at h
   case h_2=>exact h.elim
   rename_i t cs hk;obtain⟨g',ty',cY,d,bz⟩:=tw he p;obtain⟨g,ty,vs,hL,hr,an⟩:=kV ht.tl hk;rw[hL] at d;injection d with d
   injection d with q1 q2 q3
   subst q1 q2 q3;split at h
   case h_2=>exact h.elim
   rename_i hl;have w:=(hr.drop off).take n;have am:((vs.drop off).take n).length=n:=by rw[w.len];exact bU hl
   have bj:∀(i:Nat) (u:Value),((vs.drop off).take n)[i]?=some u->vs[off+i]?=some u:=by
    intro i u hu;rw[abL] at hu;split at hu
    case isFalse=>cases hu
    rwa [abz] at hu
   rcases bz with e2 | ⟨b,o,j,e2,e3⟩
   ·rw[e2];exact⟨_,am,.inr (.inr (.inr ⟨k,g,ty,vs,off,hL,an.2.2,rfl,fun i u hu=>by rw[Nat.add_zero];exact bj i u hu⟩)),_,eD w,h⟩
   ·injection e3 with e3
    injection e3 with e3
    injection e3 with q1 q2 q3
    subst q1 q2;rw[e2];exact⟨_,am,.inr (.inr (.inr ⟨k,g,ty,vs,o,hL,an.2.2,rfl,fun i u hu=>bj i u hu⟩)),_,eD w,h⟩
  ·rename_i k j off p;split at h
   case h_2=>exact h.elim
   rename_i t sz els hk;obtain⟨es,h1,h2,h3⟩:=h;obtain⟨ad,t',av,m,c,bs,d,e2⟩:=wz he p;obtain⟨v,xs,e3,_,hr⟩:=mg ht.tl hk;rw[e2] at e3;injection e3 with e3
   injection e3 with q1 q2 q3 q4 q5
   subst q2 q3 q5;obtain⟨vs,k1,k2,k3,k4⟩:=hr.at h1;have w:ax F L ((es.drop off).take n) ((vs.drop off).take n):=((k3.drop off).take n).lift;rw[d];refine⟨_,by rw[w.len];exact bU h2,.inr (.inl ⟨k,_,_,_,_,_,ad,c,e2,rfl,rfl,fun i u hu=>?_⟩),_,eD w,h3⟩;rw[abL] at hu;split at hu
   case isFalse=>cases hu
   rw[abz] at hu;rw[Nat.add_assoc];exact k4 _ _ hu
  ·exact h.elim
 case loadR agg n x =>
  split at h
  ·rename_i k off p;obtain⟨d,_⟩:=je he p;rw[d];split at h
   case h_2=>exact h.elim
   rename_i t cs hk;obtain⟨g,ty,vs,hL,hr,an⟩:=kV ht.tl hk;split at h
   case h_2=>exact h.elim
   rename_i hl;have w:=(hr.drop off).take n;simp only[hL];rw[oe an.2.2 (ji (by rw[w.len];exact bU hl))];exact⟨_,eD w,h⟩
  ·rename_i es off p;split at h
   case h_2=>exact h.elim
   rename_i hl;obtain⟨b,o,j,vs,d,hp,ho,hr⟩:=rW he p;have w:ax F L ((es.drop off).take n) ((vs.drop off).take n):=((hr.drop off).take n).lift;rcases d with⟨d,rfl⟩ | d
   ·rw[d];exact⟨_,by rw[w.len];exact bU hl,.inl (kO (es:=es) hp),_,eD w,h⟩
   ·rw[d];exact⟨_,by rw[w.len];exact bU hl,.inl (kO (es:=es) hp),_,eD w,h⟩
  ·rename_i k off p;split at h
   case h_2=>exact h.elim
   rename_i t cs hk;obtain⟨g',ty',cY,d,bz⟩:=tw he p;obtain⟨g,ty,vs,hL,hr,an⟩:=kV ht.tl hk;rw[hL] at d;injection d with d
   injection d with q1 q2 q3
   subst q1 q2 q3;split at h
   case h_2=>exact h.elim
   rename_i hl;have w:=(hr.drop off).take n;have am:((vs.drop off).take n).length=n:=by rw[w.len];exact bU hl
   have bj:∀(i:Nat) (u:Value),((vs.drop off).take n)[i]?=some u->vs[off+i]?=some u:=by
    intro i u hu;rw[abL] at hu;split at hu
    case isFalse=>cases hu
    rwa [abz] at hu
   rcases bz with e2 | ⟨b,o,j,e2,e3⟩
   ·rw[e2];exact⟨_,am,.inr (.inr (.inr ⟨k,g,ty,vs,off,hL,an.2.2,rfl,fun i u hu=>by rw[Nat.add_zero];exact bj i u hu⟩)),_,eD w,h⟩
   ·injection e3 with e3
    injection e3 with e3
    injection e3 with q1 q2 q3
    subst q1 q2;rw[e2];exact⟨_,am,.inr (.inr (.inr ⟨k,g,ty,vs,o,hL,an.2.2,rfl,fun i u hu=>bj i u hu⟩)),_,eD w,h⟩
  ·rename_i k j off p;split at h
   case h_2=>exact h.elim
   rename_i t sz els hk;obtain⟨es,h1,h2,h3⟩:=h;obtain⟨ad,t',av,m,c,bs,d,e2⟩:=wz he p;obtain⟨v,xs,e3,_,hr⟩:=mg ht.tl hk;rw[e2] at e3;injection e3 with e3
   injection e3 with q1 q2 q3 q4 q5
   subst q2 q3 q5;obtain⟨vs,k1,k2,k3,k4⟩:=hr.at h1;have w:ax F L ((es.drop off).take n) ((vs.drop off).take n):=((k3.drop off).take n).lift;rw[d];refine⟨_,by rw[w.len];exact bU h2,.inr (.inl ⟨k,_,_,_,_,_,ad,c,e2,rfl,rfl,fun i u hu=>?_⟩),_,eD w,h3⟩;rw[abL] at hu;split at hu
   case isFalse=>cases hu
   rw[abz] at hu;rw[Nat.add_assoc];exact k4 _ _ hu
  ·exact h.elim
 case loadD agg n x =>
  split at h
  ·rename_i k off p;obtain⟨d,_⟩:=je he p;rw[d];split at h
   case h_2=>exact h.elim
   rename_i t cs hk;obtain⟨g,ty,vs,hL,hr,an⟩:=kV ht.tl hk;split at h
   case h_2=>exact h.elim
   rename_i hl;have w:=(hr.drop off).take n;simp only[hL];rw[oe an.2.2 (ji (by rw[w.len];exact bU hl))];exact⟨_,eD w,h⟩
  ·rename_i es off p;split at h
   case h_2=>exact h.elim
   rename_i hl;obtain⟨b,o,j,vs,d,hp,ho,hr⟩:=rW he p;have w:ax F L ((es.drop off).take n) ((vs.drop off).take n):=((hr.drop off).take n).lift;rcases d with⟨d,rfl⟩ | d
   ·rw[d];exact⟨_,by rw[w.len];exact bU hl,.inl (kO (es:=es) hp),_,eD w,h⟩
   ·rw[d];exact⟨_,by rw[w.len];exact bU hl,.inl (kO (es:=es) hp),_,eD w,h⟩
  ·exact h.elim
 case gload g =>
  split at h
  case h_2=>exact h.elim
  rename_i k hg;obtain⟨v,t,fr,h1,h2⟩:=I7 ht.glob hg;exact⟨v,t,fr,h1,.opq k,⟨_,rfl,by simp only[Rel];exact h2⟩,h⟩
 case loadF agg n x =>
  split at h
  ·rename_i es off p;split at h
   case h_2=>exact h.elim
   rename_i hl;obtain⟨b,o,j,vs,d,hp,ho,hr⟩:=rW he p;have w:ax F L ((es.drop off).take n) ((vs.drop off).take n):=((hr.drop off).take n).lift;rcases d with⟨d,rfl⟩ | d
   ·rw[d];exact⟨_,by rw[w.len];exact bU hl,.inl (kO (es:=es) hp),_,eD w,h⟩
   ·rw[d];exact⟨_,by rw[w.len];exact bU hl,.inl (kO (es:=es) hp),_,eD w,h⟩
  ·exact h.elim
 case loadK key agg n x =>
  split at h
  ·rename_i k off p;obtain⟨d,_⟩:=je he p;rw[d];split at h
   case h_2=>exact h.elim
   rename_i hb;simp only[hb];split at h
   case h_2=>exact h.elim
   rename_i t cs hk;obtain⟨g,ty,vs,hL,hr,an⟩:=kV ht.tl hk;split at h
   case h_2=>exact h.elim
   rename_i hl;have w:=(hr.drop off).take n;simp only[hL];rw[oe an.2.2 (ji (by rw[w.len];exact bU hl))];exact⟨_,eD w,h⟩
  ·exact h.elim
 case mkif t x =>
  split at h
  ·rename_i k n p;obtain⟨d,e2⟩:=gq he p;rw[d];exact⟨.ifc t (.int k n),⟨_,rfl,by simp only[Rel];exact⟨_,rfl,rfl,e2⟩⟩,h⟩
  ·rename_i b p;rw[iW he p];exact⟨.ifc t (.bool b),⟨_,rfl,by simp only[Rel];exact⟨_,rfl,rfl⟩⟩,h⟩
  ·rename_i s p;obtain⟨d,e2⟩:=wu he p;rw[d];exact⟨.ifc t (.str s),⟨_,rfl,by simp only[Rel];exact⟨_,rfl,rfl,e2⟩⟩,h⟩
  ·rename_i es off p;obtain⟨b,o,j,vs,d,hp,ho,hr⟩:=rW he p;rcases d with⟨d,rfl⟩ | d
   ·rw[d];exact⟨.ifc t (.pt es off),⟨_,rfl,by simp only[Rel];exact⟨_,rfl,b,o,vs,rfl,hp,ho,hr⟩⟩,h⟩
   ·rw[d];exact⟨.ifc t (.pt es off),⟨_,rfl,by simp only[Rel];exact⟨_,rfl,b,o+j,vs,by rw[cT],hp,ho,hr⟩⟩,h⟩
  ·rename_i cs p;split at h
   case h_2=>exact h.elim
   rename_i hp;rw[eX] at h;obtain⟨vs,d,e2⟩:=BI he p;rw[d];exact⟨.ifc t (.agg cs),⟨_,rfl,by simp only[Rel];exact⟨_,rfl,vs,rfl,jq hp e2⟩⟩,h⟩
  ·exact h.elim
 case nilck x =>
  split at h
  ·rename_i k off p;obtain⟨d,e2⟩:=je he p;rw[d];exact⟨.own k off,⟨rfl,e2⟩,h⟩
  ·rename_i es off p;obtain⟨b,o,j,vs,d,hp,ho,hr⟩:=rW he p;rcases d with⟨d,rfl⟩ | d
   ·rw[d];exact⟨.pt es off,⟨b,o,0,vs,.inl ⟨rfl,rfl⟩,hp,ho,hr⟩,h⟩
   ·rw[d];exact⟨by simp,.pt es off,⟨b,o,j,vs,.inr rfl,hp,ho,hr⟩,h⟩
  ·rename_i k off p;obtain⟨g,t,cs,d,e2⟩:=tw he p;rcases e2 with e2 | ⟨b,o,j,e2,e3⟩
   ·rw[e2];exact⟨.ownv k off,⟨_,.inl rfl,by simp only[Rel];exact⟨g,t,cs,d,rfl⟩⟩,h⟩
   ·rw[e2];exact⟨by simp,.ownv k off,⟨_,.inr ⟨b,o,j,rfl,rfl⟩,by simp only[Rel];exact⟨g,t,cs,d,e3.symm⟩⟩,h⟩
  ·rename_i f fi ca p;obtain⟨cw,de,d,h1,h2⟩:=uN he p;rw[d];exact⟨.fn f fi ca,⟨_,rfl,by simp only[Rel];exact⟨cw,de,rfl,h1,h2⟩⟩,h⟩
  ·rename_i nm c p;split at h
   case h_2=>exact h.elim
   rename_i t c;obtain⟨u,d,hr⟩:=xK he p;have dp:=hr;simp only[Rel] at hr;obtain⟨u',rfl,hu⟩:=hr;rw[d];exact⟨h.1,.mval nm (.ifc t c),⟨_,rfl,by simp only[Rel];exact⟨_,rfl,_,rfl,hu⟩⟩,h.2⟩
  ·exact h.elim
 case bin op x y =>
  split at h
  ·rename_i k a k' b p hy;obtain⟨d,w1⟩:=gq he p;obtain⟨e2,w2⟩:=gq he hy;rw[d,e2];split at h
   ·rename_i bu;simp only[bu];exact JT w1 h fun v hv hV=>⟨_,xJ hv,hV⟩
   ·rename_i bu;simp only[bu];split at h
    case h_2=>exact h.elim
    rename_i hk;simp only[hk];exact HK w1 h fun v hv hV=>⟨_,xJ hv,hV⟩
  ·rename_i a b p hy;rw[(wu he p).1,(wu he hy).1];exact HL h fun v hv hV=>⟨_,xJ hv,hV⟩
  ·exact h.elim
 case eqB neg x y =>
  split at h
  case h_2=>exact h.elim
  rename_i a b p hy;rw[iW he p,iW he hy];exact⟨_,fR,h⟩
 case eqS neg x y =>
  have hy:isNil y=true->ev ρ y=.v (.slice none 0 0):=by
   unfold isNil;split
   ·intro _;rfl
   ·intro e;cases e
  split at h
  ·rename_i els h1 p;obtain⟨a,c,sz,d,e2,e3,e4,e5⟩:=Q5 he p;rw[d,hy h1];refine⟨_,fR,h _ fun bc=>?_⟩;cases a with
   | none=>exact vv (e4 rfl).1 bc
   | some a=>rfl
  ·rename_i els h1 p;obtain⟨a,sz,d,_⟩:=BL he p;rw[d,hy h1];exact⟨_,fR,h⟩
  ·rename_i h1 p;rw[tu he p,hy h1];exact⟨_,fR,h⟩
  ·exact h.elim
 case eqN neg x =>
  split at h
  ·rename_i t c p;obtain⟨u,d,_⟩:=MY he p;rw[d];exact⟨_,fR,h⟩
  ·rename_i k p;split at h
   case h_2=>exact h.elim
   rename_i b hb;obtain⟨v,d,h1⟩:=FT he p;rw[d];obtain⟨q1,q2⟩:=I8 h1 hb;cases b with
   | true=>rw[q1 rfl];exact⟨_,fR,h⟩
   | false=>obtain⟨t,u,rfl⟩:=q2 rfl;exact⟨_,fR,h⟩
  ·exact h.elim
 case eqA neg ks x y =>
  split at h
  case h_2=>exact h.elim
  rename_i cs ds p hy;split at h
  case h_2=>exact h.elim
  rename_i b hb;obtain⟨vs,d,h1⟩:=BI he p;obtain⟨us,e2,h2⟩:=BI he hy;simp only[d,e2];rw[Nf hb h1 h2];exact⟨_,fR,h⟩
 case un op x =>
  split at h
  ·rename_i b p;rw[iW he p];exact⟨_,fR,h⟩
  ·rename_i k n p;rw[(gq he p).1];exact⟨⟨_,mo (wf_wrap _ _),h.out⟩⟩
  ·rename_i k n p;rw[(gq he p).1];exact⟨_,mo (wf_wrap _ _),h⟩
  ·exact h.elim
 case conv k x =>
  split at h
  case h_2=>exact h.elim
  rename_i k' n p;rw[(gq he p).1];exact⟨⟨_,mo (wf_wrap _ _),h.out⟩⟩
 case mkfn f fi ca=>exact⟨.fn f _ _,⟨_,rfl,by simp only[Rel];exact⟨_,_,rfl,dM he fi,dM he ca⟩⟩,h⟩
 case slc sz x lo hi =>
  split at h
  case h_2=>exact h.elim
  rename_i els p;split at h
  case h_2=>exact h.elim
  rename_i l r hl hh;obtain⟨h1,h2,h3,h4,h5⟩:=h;obtain⟨a,c,av,d,e2,e3,e4,e5⟩:=lm he p;rw[d];simp only[FU he hl,FU he hh];refine⟨h1,h2,by omega,_,?_,h5⟩;have am:((els.drop l.toNat).take (r.toNat-l.toNat)).length=r.toNat-l.toNat:=by simp;omega
  have hs:els≠[]->av=sz:=by
   intro bc;obtain⟨es,ch⟩:=List.exists_mem_of_ne_nil _ bc;obtain⟨i,hi⟩:=abh.1 ch;obtain⟨vs,k1,_,_,k4⟩:=nE.1 e5 i es hi;rw[<-k1,k4.len,h4 es ch]
  have key:=JV (l:=l.toNat) (h:=r.toNat) e5 e4 (by omega) (by omega) e2;unfold rM;have:=Nd (F:=F) (L:=L) (els:=(els.drop l.toNat).take (r.toNat-l.toNat)) (a:=if c=l.toNat then a else a.map (·.add (l.toNat*sz))) (c:=c-l.toNat) (sz:=sz) (by rw[am];omega) (by rw[am];omega) ?_ ?_
  ·rw[am] at this;exact this
  ·intro hn;have ha:a=none:=by
    split at hn
    ·exact hn
    ·cases a with
     | none=>rfl
     | some a=>simp at hn
   obtain⟨q1,q2⟩:=e4 ha;subst q1;simp;omega
  ·by_cases bc:els=[]
   ·subst bc;simp only[List.drop_nil,List.take_nil,gk]
   ·rw[hs bc] at key;exact key
 case fieldA off x =>
  split at h
  ·rename_i k o p;obtain⟨d,e2⟩:=je he p;rw[d];exact⟨.own k (o+off),⟨rfl,e2⟩,h⟩
  ·rename_i es o p;obtain⟨b,q,j,vs,d,hp,ho,hr⟩:=rW he p;have cc:∀j',q+j'=q+j+off->MT F b (q+j') (o+off) vs:=by
    intro j' hj;obtain⟨ci,cf,t,fr,k1,k2,k3⟩:=hp;exact⟨ci,cf,t,fr,k1,by omega,k3⟩
   rcases d with⟨d,rfl⟩ | d
   ·rw[d];exact⟨.pt es (o+off),⟨b,q,off,vs,.inr rfl,cc _ (by omega),ho,hr⟩,h⟩
   ·rw[d];exact⟨.pt es (o+off),⟨b,q,j+off,vs,.inr rfl,cc _ (by omega),ho,hr⟩,h⟩
  ·rename_i k j o p;obtain⟨ad,t,sz,n,c,xs,d,e2⟩:=wz he p;rw[d];exact⟨.elr k j (o+off),⟨ad,t,sz,n,c,xs,by rw[Nat.add_assoc],e2⟩,h⟩
  ·rename_i k o p;obtain⟨g,t,cs,d,e2⟩:=tw he p;rcases e2 with e2 | ⟨b,q,j,e2,e3⟩
   ·rw[e2];exact⟨.ownv k (o+off),⟨_,.inr ⟨g,o,off,rfl,rfl⟩,by simp only[Rel];exact⟨g,t,cs,d,rfl⟩⟩,h⟩
   ·rw[e2];injection e3 with e3
    injection e3 with e3
    injection e3 with e4 e5
    subst e4;exact⟨.ownv k (o+off),⟨_,.inr ⟨g,q,j+off,rfl,rfl⟩,by simp only[Rel];exact⟨g,t,cs,d,by rw[e5,Nat.add_assoc]⟩⟩,h⟩
  ·exact h.elim
 case idxA sz x i =>
  split at h
  ·rename_i els k i p hi;obtain⟨es,h1,h2,h3,h4⟩:=h;obtain⟨a,c,av,d,e2,e3,e4,e5⟩:=lm he p;rw[d,(gq he hi).1];have bt:i.toNat<els.length:=(aaU.1 h2).1;obtain⟨vs,k1,⟨ad,cf,t,fr,e,hb,da,hv⟩,k3,k4⟩:=nE.1 e5 _ _ h2;have hs:av=sz:=by rw[<-k1,k4.len,bU h3]
   subst hs;subst e;refine⟨by simp,h1,by omega,_,JX hb da (fun i v hi=>?_) k3 k4,h4⟩;have:=hv i v hi;simpa using this
  ·rename_i k i' i p hi;split at h
   case h_2=>exact h.elim
   rename_i t av els hk;split at h
   case h_2=>exact h.elim
   rename_i cX;have:=aaR cX;subst this;obtain⟨h1,h2,h3⟩:=h;obtain⟨a,c,t',av,n,bs,d,e2⟩:=EO he (BK p);obtain⟨v,xs,e3,⟨_,a',c',q6,q7⟩,hr⟩:=mg ht.tl hk;rw[e2] at e3;injection e3 with e3
   injection e3 with q1 q2 q3 q4 q5
   subst q2 q3 q4;rw[d,(gq he hi).1];cases a with
   | none =>
    rw[<-q1] at q6;injection q6 with q6
    have:=q7 q6.symm;omega
   | some ad=>exact⟨by simp,h1,h2,.elr k i.toNat 0,⟨ad,_,_,_,c,_,by simp,e2⟩,h3⟩
  ·exact h.elim
 case extr x i =>
  split at h
  case h_2=>exact h.elim
  rename_i cs p;split at h
  case h_2=>exact h.elim
  rename_i v hv;obtain⟨vs,d,hr⟩:=MX he p;rw[d];have bt:i<vs.length:=by rw[hr.len];exact(aaU.1 hv).1
  simp only[aaQ bt];exact⟨_,kC (hr.at hv (aaQ bt)),h⟩
 case len x =>
  have wl:∀n:Nat,n<=maxLen->(Lit.int .i64 (n:Int)).wf=true:=by
   intro n hn;simp only[maxLen] at hn;simp[Lit.wf,IntKind.min,IntKind.max,IntKind.bits,IntKind.signed];omega
  split at h
  ·rename_i els p;obtain⟨a,c,av,d,e2,e3,e4,e5⟩:=lm he p;rw[d];exact⟨_,mo (wl _ e3),h⟩
  ·rename_i k p;split at h
   case h_2=>exact h.elim
   rename_i t av els hk;obtain⟨a,c,t',av,n,bs,d,e2⟩:=EO he (BK p);obtain⟨v,xs,e3,⟨hm,_⟩,hr⟩:=mg ht.tl hk;rw[e2] at e3;injection e3 with e3
   injection e3 with q1 q2 q3 q4 q5
   subst q4;rw[d];exact⟨_,mo (wl _ hm),h⟩
  ·rename_i k p;obtain⟨n,h1,h2,h3⟩:=h;obtain⟨v,d,e2⟩:=FT he (Nb p);obtain⟨a,c,rfl⟩:=Mg e2 h1;rw[d];exact⟨_,mo (wl _ (by simpa[maxLen] using h2)),h3⟩
  ·exact h.elim
 case mlook str ok z x i =>
  split at h
  case h_2=>exact h.elim
  rename_i k p;split at h
  case h_2=>exact h.elim
  rename_i es hk;obtain⟨g,cs,d,e2⟩:=FW he p;obtain⟨g',vs,e3,hE⟩:=JY ht.tl hk;rw[e2] at e3;injection e3 with e3
  injection e3 with q1 q2 q3
  subst q1 q3;rw[d];refine⟨k,cs,e2,hE.isMap,⟨?_⟩⟩;rcases h.out with⟨c,h1,h2⟩ | ⟨h1,h2⟩
  ·obtain⟨j,v,h3,h4⟩:=xL (FX he) 0 hE h1;refine .inl ⟨j,v,h3,?_⟩;have h5:Rel F L c v:=h4.lift;cases ok with
   | true=>exact⟨_,Au h5,h2⟩
   | false=>exact⟨_,kC h5,h2⟩
  ·refine .inr ⟨xL (FX he) 0 hE h1,?_⟩;have h5:Rel F L (cv z) z:=Q6 z;cases ok with
   | true=>exact⟨_,Au h5,h2⟩
   | false=>exact⟨_,SS z,h2⟩
 case mm mx args =>
  split at h
  case h_2=>exact h.elim
  rename_i k a l hl;split at h
  case h_2=>exact h.elim
  rename_i m hm
  match args,hl with
  | x::args,hl =>
   simp only[aa0,List.cons.injEq] at hl;obtain⟨p,rfl⟩:=hl;simp only[aa0,(gq he p).1,JU he mx args hm];exact⟨_,mo h.1,h.2⟩
end
theorem TL.aac (L:TL) (k:Nat) (o:TO) (j:Nat):(L.set k o).get j=if j=k then some o else L.get j:=by
 induction L with
 | nil =>
  simp only[TL.set,TL.get];cases h:Nat.beq k j with
  | true=>have:=aaR h;simp[this]
  | false=>have:=f9 h;simp;omega
 | cons p l c =>
  obtain⟨i,q⟩:=p;simp only[TL.set];cases h:Nat.beq i k with
  | true =>
   have e:=aaR h;subst e;simp only[TL.get];cases a:Nat.beq i j with
   | true=>have:=aaR a;simp[this]
   | false=>have:=f9 a;simp;omega
  | false =>
   have b:=f9 h;simp only[];cases d:Nat.ble i k with
   | true =>
    simp only[TL.get];cases a:Nat.beq i j with
    | true=>have:=aaR a;simp;omega
    | false=>simpa using c
   | false =>
    simp only[TL.get];cases a:Nat.beq k j with
    | true=>have:=aaR a;simp[this]
    | false =>
     have:=f9 a;simp only[];rw[q9 (by omega)]
theorem TL.aaf (L:TL) (k j:Nat):(L.del k).get j=if j=k then none else L.get j:=by
 induction L with
 | nil=>simp[TL.del,TL.get]
 | cons p l c =>
  obtain⟨i,q⟩:=p;simp only[TL.del];cases h:Nat.beq i k with
  | true =>
   have e:=aaR h;subst e;simp only[TL.get,c]
   by_cases a:j=i
   ·simp[a]
   ·have:Nat.beq i j=false:=by cases b:Nat.beq i j with | true=>exact vv (aaR b).symm a | false=>rfl
    simp[a,this]
  | false =>
   have d:=f9 h;simp only[TL.get];cases b:Nat.beq i j with
   | true=>have:=aaR b;simp;omega
   | false=>simpa using c
theorem tD:∀(l:List TO) (k j:Nat),TL.get (pU k l) j=if k<=j then l[j-k]? else none
 | [],k,j=>by simp[pU,TL.get]
 | o::l,k,j=>by
  simp only[pU,TL.get];cases h:Nat.beq k j with
  | true=>have:=aaR h;subst this;simp
  | false =>
   have a:=f9 h;simp only[tD l (k+1) j]
   by_cases h1:k<=j
   ·rw[o5 (by omega),o5 h1,show j-k=(j-(k+1))+1 by omega,abg]
   ·rw[q9 (by omega),q9 h1]
theorem ck (l:List TO) (j:Nat):TL.get (cC l) j=if 1000<=j then l[j-1000]? else none:=tD l 1000 j
theorem xM:∀{L:TL}{ks:List Nat}{l:List TO},L.sub ks=some l->l.length=ks.length/\∀(i:Nat) (k:Nat),ks[i]?=some k->L.get k=l[i]?
 | L,[],l,h=>by simp only[TL.sub,aaO] at h;subst h;simp
 | L,k::ks,l,h=>by
  simp only[TL.sub] at h;split at h
  case h_2=>cases h
  rename_i o e h1 c;injection h with h
  subst h;obtain⟨d,a⟩:=xM c;refine⟨by simp[d],fun i b hi=>?_⟩;cases i with
  | zero=>simp at hi;subst hi;simpa using h1
  | succ i=>simp at hi;simpa using a i b hi
theorem qP:∀(ks:List Nat) (L:TL) (j:Nat),(L.aae ks).get j=if j∈ks then none else L.get j
 | [],L,j=>by simp[TL.aae]
 | k::ks,L,j=>by
  simp only[TL.aae,qP ks,TL.aaf,aaW]
  by_cases h1:j=k<;>by_cases a:j∈ks<;>simp[h1,a]
theorem nJ:∀(ko:List Nat) (l:List TO) (L:TL) (j:Nat),ko.Nodup->ko.length=l.length ->
  ((L.puts ko l).get j=L.get j/\j∉ko)\/∃i,ko[i]?=some j/\(L.puts ko l).get j=l[i]?/\i<l.length
 | [],l,L,j,_,h=>by
  refine .inl ⟨?_,by simp⟩;cases l<;>rfl
 | k::ko,[],L,j,_,h=>by simp at h
 | k::ko,o::l,L,j,c,h=>by
  simp only[aa7,Nat.add_right_cancel_iff] at h;rw[List.nodup_cons] at c;simp only[TL.puts];rcases nJ ko l (L.set k o) j c.2 h with⟨h1,b⟩ | ⟨i,h1,b,d⟩
  ·rw[TL.aac] at h1
   by_cases a:j=k
   ·subst a;rw[o5 rfl] at h1;exact .inr ⟨0,by simp,by simpa using h1,by simp⟩
   ·rw[q9 a] at h1;exact .inl ⟨h1,by simp[a,b]⟩
  ·exact .inr ⟨i+1,by simpa using h1,by simpa using b,by simp;omega⟩
theorem qe (g:C->C):∀(L:TL) (k:Nat),(TL.aad g L).get k=(L.get k).map (TO.aad g)
 | [],k=>rfl
 | (j,o)::l,k=>by
  simp only[TL.aad,TL.get];cases h:Nat.beq j k with
  | true=>rfl
  | false=>exact qe g l k
section
variable {P:Program}{G:Nat->Option (Nat×TypeId)}{F:au}{L:Loc}{ρ:Env}{M:TL}{τ:aK}
theorem BM (d:Option Nat) (c:C) (τ:aK) (t:Nat):bq d c τ t=match d with | some k=>if t=k then c else τ t | none=>τ t:=by
 cases d with
 | none=>rfl
 | some k =>
  simp only[bq];cases h:Nat.beq t k with
  | true=>have:=aaR h;simp[this]
  | false=>have:=f9 h;simp[this]
theorem Ng {F:au}{L:Loc}{τ:aK}{ρ:Env}(h:∀j,aJ F L (τ j) (ρ j)) {c:C}{sv:SV}(a:aJ F L c sv) (d:Option Nat):∀j,aJ F L (bq d c τ j) (put d sv ρ j):=by
 intro j;rw[BM,put_eq];cases d with
 | none=>exact h j
 | some k =>
  simp only[];split
  ·exact a
  ·exact h j
theorem TS.put (a:TS G F L ρ M τ) {c:C}{sv:SV}(b:aJ F L c sv) (d:Option Nat):TS G F L (put d sv ρ) M (bq d c τ):=⟨a.tl,Ng a.env b d,a.kp,a.glob⟩
theorem dQ {F:au}{L:Loc}{a:Option TO}{b:Option Own}(h:xG F L a b):(a=none/\b=none)\/∃o p,a=some o/\b=some p/\cD F L o p:=by
 cases a<;>cases b<;>simp only[xG] at h
 ·exact .inl ⟨rfl,rfl⟩
 ·exact .inr ⟨_,_,rfl,rfl,h⟩
theorem TS.new {F':au}(c:F.le F') (b:TS G F L ρ M τ) {k:Nat}(l:L.get k=none) {o:Own}{to:TO}(n:cD F' (L.set k o) to o):TS G F' (L.set k o) ρ (M.set k to) τ:=by
 have a:Ext L (L.set k o):=by
  intro j p e;refine⟨p,?_,Own.aah p⟩;rw[Loc.aac,q9 (by rintro rfl;rw[l] at e;cases e)];exact e
 refine⟨fun j=>?_,fun j=>(b.env j).ext c a,fun j g t e=>?_,b.glob.mono c⟩
 ·rw[TL.aac,Loc.aac];split
  ·exact n
  ·rcases dQ (b.tl j) with⟨f,d⟩ | ⟨p,q,f,d,m⟩
   ·rw[f,d];trivial
   ·rw[f,d];exact m.ext c a
 ·obtain⟨cs,h⟩:=b.kp j g t e;exact⟨cs,by rw[Loc.aac,q9 (by rintro rfl;rw[l] at h;cases h)];exact h⟩
theorem TS.mono {F':au}(b:F.le F') (a:TS G F L ρ M τ):TS G F' L ρ M τ:=⟨a.tl.mono b,fun j=>(a.env j).mono b,a.kp,a.glob.mono b⟩
theorem TS.turn (c:TS G F L ρ M τ) {k:Nat}{o o':Own}(m:L.get k=some o) (u:Own.like o o') (b:∀g t cs,o=.box g t cs->∃cs',o'=.box g t cs') {to:TO}(s:∀L',Ext L L'->cD F L' to o') :
  TS G F (L.set k o') ρ (M.set k to) τ:=by
 have a:Ext L (L.set k o'):=by
  intro j p e;rw[Loc.aac];split
  ·rename_i d;subst d;rw[m] at e;injection e with e
   subst e;exact⟨o',rfl,u⟩
  ·exact⟨p,e,Own.aah p⟩
 refine⟨fun j=>?_,fun j=>(c.env j).ext (au.le_refl F) a,fun j g t e=>?_,c.glob⟩
 ·rw[TL.aac,Loc.aac];split
  ·exact s _ a
  ·rcases dQ (c.tl j) with⟨l,f⟩ | ⟨p,q,l,f,r⟩
   ·rw[l,f];trivial
   ·rw[l,f];exact r.ext (au.le_refl F) a
 ·obtain⟨cs,h⟩:=c.kp j g t e;rw[Loc.aac];split
  ·rename_i d;subst d;rw[m] at h;injection h with h
   obtain⟨cs',n⟩:=b g t cs h;exact⟨cs',by rw[n]⟩
  ·exact⟨cs,h⟩
theorem nK {L':Loc}{k:Nat}(a:∀g t cs,L.get k≠some (.box g t cs)) (d:∀j,j≠k->∀o,L.get j=some o->∃o',L'.get j=some o'/\Own.like o o') {F':au}(b:F.le F') (c:C) (v:Value) (m:c.leaf=true)
  (h:Rel F L c v):Rel F' L' (fP k c) v:=by
 cases c<;>simp only[C.leaf,aa5] at m<;>simp only[fP]
 case rw j =>
  cases l:Nat.beq j k with
  | true=>simp only[Rel]
  | false=>exact bH b (fun f e=>by
    rcases e with⟨off,e⟩ | e | e
    ·cases e
    ·injection e with e;subst e;exact d j (f9 l)
    ·cases e) rfl h
 case own j off =>
  refine bH b (fun f e=>?_) rfl h;rcases e with⟨off,e⟩ | e | e
  ·injection e with e e2
   subst e;simp only[Rel] at h;obtain⟨g,t,cs,h1,_⟩:=h;exact d j (by rintro rfl;exact a _ _ _ h1)
  ·cases e
  ·cases e
 case elr=>exact h.elim
 case mpr j =>
  refine bH b (fun f e=>?_) rfl h;rcases e with⟨off,e⟩ | e | e
  ·cases e
  ·cases e
  ·injection e with e
   subst e;simp only[Rel] at h;obtain⟨g,cs,h1,_⟩:=h;exact d j (by rintro rfl;exact a _ _ _ h1)
 all_goals
  exact bH b (fun f e=>by rcases e with⟨off,e⟩ | e | e<;>cases e) rfl h
theorem oG {L':Loc}{k:Nat}(d:∀g t cs,L.get k≠some (.box g t cs)) (l:∀j,j≠k->∀o,L.get j=some o->∃o',L'.get j=some o'/\Own.like o o') {F':au}(f:F.le F') (c:C) (sv:SV) (q:c.leaf=true)
  (h:aJ F L c sv):aJ F' L' (fP k c) sv:=by
 cases c<;>simp only[C.leaf,aa5] at q<;>simp only[fP]
 case rw j =>
  cases p:Nat.beq j k with
  | true=>trivial
  | false=>exact dB f (fun n e=>by
    rcases e with⟨off,e⟩ | ⟨off,e⟩ | e | ⟨a,b,e⟩ | e<;>first | cases e;done | skip
    injection e with e;subst e;exact l j (f9 p)) rfl h
 case elr j a b =>
  cases p:Nat.beq j k with
  | true=>trivial
  | false=>exact dB f (fun n e=>by
    rcases e with⟨off,e⟩ | ⟨off,e⟩ | e | ⟨a,b,e⟩ | e<;>first | cases e;done | skip
    injection e with e;subst e;exact l j (f9 p)) rfl h
 case own j off =>
  refine dB f (fun n e=>?_) rfl h;obtain⟨_,g,t,cs,h1⟩:=h;rcases e with⟨off,e⟩ | ⟨off,e⟩ | e | ⟨a,b,e⟩ | e<;>first | cases e;done | skip
  injection e with e
  subst e;exact l j (by rintro rfl;exact d _ _ _ h1)
 case ownv j off =>
  refine dB f (fun n e=>?_) rfl h;obtain⟨v,_,m⟩:=h;simp only[Rel] at m;obtain⟨g,t,cs,h1,_⟩:=m;rcases e with⟨off,e⟩ | ⟨off,e⟩ | e | ⟨a,b,e⟩ | e<;>first | cases e;done | skip
  injection e with e
  subst e;exact l j (by rintro rfl;exact d _ _ _ h1)
 case mpr j =>
  refine dB f (fun n e=>?_) rfl h;obtain⟨v,_,m⟩:=h;simp only[Rel] at m;obtain⟨g,cs,h1,_⟩:=m;rcases e with⟨off,e⟩ | ⟨off,e⟩ | e | ⟨a,b,e⟩ | e<;>first | cases e;done | skip
  injection e with e
  subst e;exact l j (by rintro rfl;exact d _ _ _ h1)
 all_goals
  exact dB f (fun n e=>by rcases e with⟨off,e⟩ | ⟨off,e⟩ | e | ⟨a,b,e⟩ | e<;>cases e) rfl h
theorem cD.aay {L':Loc}{k:Nat}(a:∀g t cs,L.get k≠some (.box g t cs)) (e:∀j,j≠k->∀o,L.get j=some o->∃o',L'.get j=some o'/\Own.like o o') {F':au}(b:F.le F'):∀{o:TO}{p:Own},cD F L o p->cD F' L' (o.aad (C.kill k)) p
 | .box t cs,.box g d l,r=>⟨r.1,r.2.map fun c _ v h=>Rel.mp (nK a e b) 3 h⟩
 | .row t sz els,.row v d f n xs,r=>⟨r.1,r.2.1,r.2.2.1,r.2.2.2.1,r.2.2.2.2.mono b⟩
 | .box _ _,.row ..,r=>r.elim
 | .row ..,.box ..,r=>r.elim
 | .map _,.row ..,r=>r.elim
 | .map es,.box g d l,r=>⟨r.1,r.2.mono b⟩
theorem TS.aay (b:TS G F L ρ M τ) {k:Nat}{o':Own}(a:∀g t cs,L.get k≠some (.box g t cs)) {to:TO}(n:cD F (L.set k o') to o') :
  TS G F (L.set k o') ρ ((M.aad (C.kill k)).set k to) (fun j=>(τ j).kill k):=by
 have c:∀j,j≠k->∀o,L.get j=some o->∃p,(L.set k o').get j=some p/\Own.like o p:=fun j l o e=>⟨o,by rw[Loc.aac,q9 l];exact e,Own.aah o⟩;refine⟨fun j=>?_,fun j=>aJ.mp (nK a c (au.le_refl F)) (oG a c (au.le_refl F)) 3 (b.env j),fun j g t e=>?_,b.glob⟩
 ·rw[TL.aac,Loc.aac,qe];split
  ·exact n
  ·rcases dQ (b.tl j) with⟨f,d⟩ | ⟨p,q,f,d,m⟩
   ·rw[f,d];trivial
   ·rw[f,d];exact m.aay a c (au.le_refl F)
 ·obtain⟨cs,h⟩:=b.kp j g t e;exact⟨cs,by rw[Loc.aac,q9 (by rintro rfl;exact a _ _ _ h)];exact h⟩
theorem jr {a:Option Addr}{sz b:Nat}{els:List (List C)}(h:gk F a b 0 els) (x:∀es∈els,es.length=sz):∃xs,xs.length=els.length*sz/\(dG F a 0 xs\/(els.length=0/\xs=[]))/\aN F sz els xs:=by
 cases k:els with
 | nil=>exact⟨[],by simp,.inr ⟨rfl,rfl⟩,by simp only[aN]⟩
 | cons s m =>
  rw[k] at h x;have h0:=nE.1 h 0 s (by simp);obtain⟨al,k1,⟨f,e,t,fr,ea,hb,p,_⟩,_,k4⟩:=h0;have u:b=sz:=by rw[<-k1,k4.len,x s (by simp)]
  subst u;subst ea;have key:∀(l:List (List C)) (i:Nat),gk F (some f) b i l->∃xs,aN F b l xs/\∀(j:Nat) v,xs[j]?=some v->e[f.off+i*b+j]?=some v:=by
   intro l
   induction l with
   | nil=>intro i _;exact⟨[],by simp only[aN],by simp⟩
   | cons es l ih =>
    intro i z;simp only[gk] at z;obtain⟨⟨o,q1,⟨ac,y,t',ar,r,c,ab,hv⟩,q3,q4⟩,q5⟩:=z;injection r with r
    subst r;rw[hb] at c;injection c with c
    injection c with r1 r2 r3
    subst r1;obtain⟨xs,n,w⟩:=ih (i+1) q5;refine⟨o++xs,by simp only[aN];exact⟨o,xs,rfl,q1,q3,q4,n⟩,fun j v d=>?_⟩
    by_cases q:j<o.length
    ·rw[abG q] at d;exact hv j v d
    ·rw[abH (by omega)] at d;have:=w _ _ d;rw[show f.off+i*b+j=f.off+(i+1)*b+(j-o.length) by rw[q1,Nat.add_mul];omega];exact this
  obtain⟨xs,n,w⟩:=key (s::m) 0 h;exact⟨xs,hU n,.inl ⟨f,e,t,fr,rfl,hb,p,fun j v d=>by have:=w j v d;simpa using this⟩,n⟩
theorem aN.ones {sz:Nat}:∀{l:List (List C)}{xs:List Value},aN F sz l xs->∀u∈xs,u.oneCell'=true
 | [],xs,h=>by simp only[aN] at h;subst h;simp
 | es::l,xs,h=>by
  simp only[aN] at h;obtain⟨j,e,rfl,f,c,d,b⟩:=h;intro u a;rcases aaX.1 a with a | a
  ·exact nI d c u a
  ·exact aN.ones b u a
theorem aN.set {sz:Nat}:∀{l:List (List C)}{xs:List Value},aN F sz l xs->∀{j:Nat}{es ds:List C}{us:List Value}{off:Nat},l[j]?=some es->off+us.length<=sz->ax F [] ds us->eH ds=true ->
  aN F sz (l.set j (jd es off ds)) (bP xs (j*sz+off) us)
 | [],xs,h,j,es,ds,us,off,e,_,_,_=>by simp at e
 | x::l,xs,h,j,es,ds,us,off,e,q,k,h1=>by
  simp only[aN] at h;obtain⟨b,f,rfl,n,d,o,m⟩:=h;cases j with
  | zero =>
   simp only[aa6,aaO] at e;subst e;simp only[List.set_cons_zero,aN];refine⟨bP b off us,f,?_,?_,?_,mN o k,m⟩
   ·simp only[bP,Nat.zero_mul,Nat.zero_add];rw[List.take_append_of_le_length (by omega),List.drop_append_of_le_length (by omega)];simp
   ·simp only[bP,abJ,abP,List.length_drop];omega
   ·rw[nF] at d h1 ⊢;intro c a;simp only[jd,aaX] at a;rcases a with(a | a) | a
    ·exact d c (List.mem_of_mem_take a)
    ·exact h1 c a
    ·exact d c (List.mem_of_mem_drop a)
  | succ j =>
   simp only[List.set_cons_succ,aN];have p:=aN.set m (j:=j) (by simpa using e) q k h1;refine⟨b,_,?_,n,d,o,p⟩;simp only[bP];rw[show(j+1)*sz+off=b.length+(j*sz+off) by rw[n,Nat.add_mul];omega];rw[List.take_length_add_append,show b.length+(j*sz+off)+us.length=b.length+(j*sz+off+us.length) by omega,List.drop_length_add_append];simp[abM]
end
end Go.Fr.T
