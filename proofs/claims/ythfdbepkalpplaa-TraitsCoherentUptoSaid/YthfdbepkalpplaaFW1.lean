/- Part of the proofs of the statements of this seat. -/
import Derived.Test.YthfdbepkalpplaaFW0
import Derived.Scope
set_option maxRecDepth 10000
set_option linter.unusedVariables false
set_option linter.unusedSimpArgs false
namespace Go.Fr
open Go Go.RowKit
theorem set_comm:∀(L:Loc) {k d:Nat}(o o':Own),k≠d->(L.set k o).set d o'=(L.set d o').set k o:=by
 intro L k d o o' h;have hb:Nat.beq k d=false:=by cases e:Nat.beq k d with | true=>exact fL (aaQ e) h | false=>rfl
 have b:Nat.beq d k=false:=by cases e:Nat.beq d k with | true=>exact fL (aaQ e).symm h | false=>rfl
 have a:∀{i j:Nat},Nat.beq i j=false->(Nat.ble i j=true/\Nat.ble j i=false)\/(Nat.ble i j=false/\Nat.ble j i=true):=by
  intro i j v;have t:=gF v;rcases Nat.lt_or_gt_of_ne t with ab | y
  ·refine .inl ⟨Nat.ble_eq_true_of_le (by omega),?_⟩;cases e:Nat.ble j i with | true=>have:=aa9 e;omega | false=>rfl
  ·refine .inr ⟨?_,Nat.ble_eq_true_of_le (by omega)⟩;cases e:Nat.ble i j with | true=>have:=aa9 e;omega | false=>rfl
 induction L with
 | nil =>
  simp only[Loc.set,hb,b];rcases a hb with⟨h1,n⟩ | ⟨h1,n⟩<;>simp only[h1,n,Loc.set]
 | cons p l ih =>
  obtain⟨j,q⟩:=p;cases m:Nat.beq j k with
  | true =>
   have:=aaQ m;subst this;have c:Nat.beq j j=true:=by simp
   simp only[Loc.set,c,hb,b];rcases a hb with⟨h1,n⟩ | ⟨h1,n⟩
   ·simp only[h1,Loc.set,c]
   ·simp only[h1,n,Loc.set,c,b]
  | false =>
   cases f:Nat.beq j d with
   | true =>
    have:=aaQ f;subst this;have c:Nat.beq j j=true:=by simp
    simp only[Loc.set,c,hb,b];rcases a b with⟨h1,n⟩ | ⟨h1,n⟩
    ·simp only[h1,Loc.set,c]
    ·simp only[h1,n,Loc.set,c,hb]
   | false =>
    simp only[Loc.set,m,f];rcases a m with⟨a1,x⟩ | ⟨a1,x⟩<;>rcases a f with⟨r,w⟩ | ⟨r,w⟩
    ·simp only[a1,r,Loc.set,m,f,ih]
    ·simp only[a1,r,Loc.set,m,f,hb,b];have h1:Nat.ble d k=true:=by
      have x1:=aa9 a1;have z:=aa9 w;exact Nat.ble_eq_true_of_le (by omega)
     simp only[h1]
    ·simp only[a1,r,Loc.set,m,f,hb,b];have h1:Nat.ble k d=true:=by
      have x1:=aa9 r;have z:=aa9 x;exact Nat.ble_eq_true_of_le (by omega)
     simp only[h1]
    ·rcases a hb with⟨s,u⟩ | ⟨s,u⟩
     ·simp only[a1,r,Loc.set,m,f,hb,b,s,u]
     ·simp only[a1,r,Loc.set,m,f,hb,b,s,u]
theorem put_comm {d a:Option Nat}{v u:SV}{ρ:Env}(h:∀k,d=some k->a≠some k):put d v (put a u ρ)=put a u (put d v ρ):=by
 funext t
 simp only[put_eq];cases d with
 | none=>rfl
 | some k =>
  cases a with
  | none=>rfl
  | some c =>
   have:=h k rfl;simp only[];split<;>split
   ·rename_i h1 b;subst h1;subst b;exact fL rfl this
   ·rfl
   ·rfl
   ·rfl
def ct:List X->List Nat
 | []=>[]
 | .t n::l=>n::ct l
 | .mt _ n::l=>n::ct l
 | _::l=>ct l
theorem mg:∀{l:List X}{n:Nat},X.t n∈l->n∈ct l
 | [],n,h=>by cases h
 | .t m::l,n,h=>by
  simp only[ct,aaT];rcases aaT.1 h with h | h
  ·injection h with h;exact .inl h
  ·exact .inr (mg h)
 | .c v::l,n,h=>by
  rcases aaT.1 h with h | h
  ·cases h
  ·exact mg (l:=l) h
 | .fn f::l,n,h=>by
  rcases aaT.1 h with h | h
  ·cases h
  ·exact mg (l:=l) h
 | .mt a m::l,n,h=>by
  simp only[ct,aaT];rcases aaT.1 h with h | h
  ·cases h
  ·exact .inr (mg h)
theorem nL:∀{l:List X}{a:String}{n:Nat},X.mt a n∈l->n∈ct l
 | [],_,n,h=>by cases h
 | .t m::l,a,n,h=>by
  simp only[ct,aaT];rcases aaT.1 h with h | h
  ·cases h
  ·exact .inr (nL h)
 | .c v::l,a,n,h=>by
  rcases aaT.1 h with h | h
  ·cases h
  ·exact nL (l:=l) h
 | .fn f::l,a,n,h=>by
  rcases aaT.1 h with h | h
  ·cases h
  ·exact nL (l:=l) h
 | .mt b m::l,a,n,h=>by
  simp only[ct,aaT];rcases aaT.1 h with h | h
  ·injection h with h1 h2;exact .inl h2
  ·exact .inr (nL h)
theorem fJ {l:List X}{d:Option Nat}{v:SV}{ρ:Env}(h:∀k,d=some k->k∉ct l):∀x∈l,ev (put d v ρ) x=ev ρ x:=by
 intro x a;cases x with
 | t n =>
  simp only[ev,put_eq];cases d with
  | none=>rfl
  | some k =>
   simp only[];rw[fo];intro e;subst e;exact h n rfl (mg a)
 | c v=>rfl
 | fn f=>rfl
 | mt b n =>
  simp only[ev,put_eq];cases d with
  | none=>rfl
  | some k =>
   simp only[];rw[fo];intro e;subst e;exact h n rfl (nL a)
def Vd (L:Loc) (ρ:Env):Prop:=∀t k off,ρ t=.own k off->∃g ty cs,L.get k=some (.box g ty cs)
theorem Vd.ev {L:Loc}{ρ:Env}(h:Vd L ρ) {x:X}{k off:Nat}(e:Fr.ev ρ x=.own k off):∃g ty cs,L.get k=some (.box g ty cs):=by
 cases x with
 | t n=>exact h n k off e
 | c v=>cases e
 | fn f=>cases e
 | mt a n =>
  simp only[Fr.ev,Tp] at e;split at e<;>cases e
def Keeps (L L':Loc):Prop:=∀k g ty cs,L.get k=some (.box g ty cs)->L'.get k=some (.box g ty cs)
theorem Keeps.refl (L:Loc):Keeps L L:=fun _ _ _ _ h=>h
theorem Keeps.trans {L L' L'':Loc}(h:Keeps L L') (a:Keeps L' L''):Keeps L L'':=fun k g ty cs e=>a k g ty cs (h k g ty cs e)
theorem bZ {L:Loc}{k j:Nat}{o:Own}(h:j≠k):(L.set k o).get j=L.get j:=by rw[Loc.aac,fo h]
theorem Keeps.new {L:Loc}{k:Nat}{o:Own}(h:L.get k=none):Keeps L (L.set k o):=fun j g ty cs e=>by
 rw[bZ (fun a=>by rw[a,h] at e;cases e)];exact e
theorem Keeps.row {L:Loc}{k:Nat}{v:Value}{t:TypeId}{sz n:Nat}{xs:List Value}{o:Own}(h:L.get k=some (.row v t sz n xs)):Keeps L (L.set k o):=fun j g ty cs e=>by
 rw[bZ (fun a=>by rw[a,h] at e;cases e)];exact e
section
variable {P:Program}{F:aA}{L:Loc}{ρ:Env}{K:dG}
theorem CallsA.up {f:Nat}{args:Array Value}{F F1:aA}{R:aA->List Own->Value->Prop}{Lin:List Own}(h:CallsA P f args F Lin R) (n:F.le F1) (hg:s6 F):CallsA P f args F1 Lin R:=by
 refine⟨h.ent,h.mono,fun w m=>?_⟩;have r:St F (inp Lin) w:=⟨fun b o e=>m.frz b o (n b o e),m.own,fun k o g e hb=>(by
  cases h1:F g with
  | none=>rfl
  | some o1=>have l:=n g o1 h1;rw[m.off k o g e hb] at l;cases l),m.sep,hg⟩
 refine(h.run w r).mono ?_;rintro e w' ⟨v,F',Lo,rfl,c,a,z⟩;have q:∀b o,F1 b=some o->¬(inp Lin).owns b:=by
  rintro b o u ⟨k,o',e,hb⟩;rw[m.off k o' b e hb] at u;cases u
 have p:∀b o,F1 b=some o->w'.heap[b]?=some o:=fun b o e=>by
  have h1:=m.frz b o e;rw[a.same b (Array.getElem?_eq_some_iff.1 h1).1 (q b o e)];exact h1
 have j:F'.le (fun b=>match F' b with | some o=>some o | none=>F1 b):=fun b o e=>by simp only[e]
 refine⟨v,fun b=>match F' b with | some o=>some o | none=>F1 b,Lo,rfl,⟨fun b o e=>?_,c.own,fun k o g e hb=>?_,c.sep,s6.mono j c.glob⟩,⟨fun b o e=>?_,a.os,a.tape,a.output,a.size,a.same,fun b hb=>?_,a.own⟩,h.mono _ _ _ _ j z⟩
 ·split at e
  ·rename_i o' s;injection e with e
   subst e;exact c.frz b _ s
  ·exact p b o e
 ·have h1:=c.off k o g e hb;simp only[h1];cases l:F1 g with
  | none=>rfl
  | some t =>
   rcases a.own g ⟨k,o,e,hb⟩ with d | d
   ·exact fL d (q g t l)
   ·have:=(Array.getElem?_eq_some_iff.1 (m.frz g t l)).1;omega
 ·cases h1:F' b with
  | none=>exact e
  | some o' =>
   have l:=c.frz b o' h1;rw[p b o e] at l;exact l.symm
 ·cases h1:F' b with
  | none=>rw[h1] at hb;exact .inl hb
  | some o' =>
   rcases a.frz b (by rw[h1];simp) with d | d | d
   ·refine .inl (fun y=>?_);cases x:F b with
    | none=>exact d x
    | some o5=>have:=n b o5 x;rw[y] at this;cases this
   ·exact .inr (.inl d)
   ·exact .inr (.inr d)
theorem Real.glob {F:aA}{L:Loc}(h:Real F L):s6 F:=by obtain⟨w,a⟩:=h;exact a.glob
theorem Real.down {F F':aA}{L L':Loc}(h:Real F' L') (c:F.le F') (f:s6 F) (d:L'.part L):Real F L:=by
 obtain⟨w,a⟩:=h;have a:=a.part d;refine⟨w,⟨fun b o e=>a.frz b o (c b o e),a.own,fun k o g e hb=>?_,a.sep,f⟩⟩;cases hF:F g with
 | none=>rfl
 | some o'=>have h1:=c g o' hF;rw[a.off k o g e hb] at h1;cases h1
theorem J5 {L:Loc}{k:Nat}{o:Own}(h:L.get k=none):(L.set k o).part L:=fun j p e=>by
 rw[bZ (fun a=>by rw[a,h] at e;cases e)];exact e
theorem BW {L L1:Loc}{k:Nat}{o:Own}(h:L1.part L) (b:L.get k=none):(L1.set k o).part (L.set k o):=fun j p e=>by
 rw[Loc.aac] at e ⊢;split
 ·rename_i a;rw[eu a] at e;exact e
 ·rename_i a;rw[fo a] at e;exact h j p e
def Left (d:Option Nat) (L L':Loc):Prop:=L'=L\/(∃k o,d=some k/\L.get k=none/\L'=L.set k o)\/∃k a t sz n xs,L.get k=some (.row a t sz n xs)/\L'=L.set k (.row (.slice none 0 0) t sz 0 [])
theorem Left.keeps {d:Option Nat}{L L':Loc}(h:Left d L L'):Keeps L L':=by
 rcases h with rfl | ⟨k,o,_,a,rfl⟩ | ⟨k,b,t,sz,n,xs,a,rfl⟩
 ·exact Keeps.refl _
 ·exact Keeps.new a
 ·exact Keeps.row a
theorem zV {L L1:Loc}{k:Nat}{o:Own}(h:L1.part L):(L1.set k o).part (L.set k o):=fun j p e=>by
 rw[Loc.aac] at e ⊢;split
 ·rename_i a;rw[eu a] at e;exact e
 ·rename_i a;rw[fo a] at e;exact h j p e
theorem dO.imp {f:Nat}{args:List Value}{F:aA}{L:Loc}{d:Option Nat}{K K':aA->Loc->Value->Prop}(h:dO P f args F L d K) (p:∀F' L' v,F.le F'->Left d L L'->Real F' L'->K F' L' v->K' F' L' v):dO P f args F L d K':=by
 cases h with
 | frz R h1 j=>exact .frz R h1 fun v F' Lo a e=>⟨(j v F' Lo a e).1,fun b=>p F' L v a (.inl rfl) b ((j v F' Lo a e).2 b)⟩
 | own R k h1 u l j =>
  refine .own R k h1 u l fun v F' Lo a e=>?_;obtain⟨o,s,r⟩:=j v F' Lo a e;exact⟨o,s,fun b=>p F' _ v a (.inr (.inl ⟨k,o,u,l,rfl⟩)) b (r b)⟩
 | row R q m t sz n xs h1 c j =>
  refine .row R q m t sz n xs h1 c fun v F' Lo a e=>?_;obtain⟨s,r⟩:=j v F' Lo a e;exact⟨s,fun b=>p F' _ v a (.inr (.inr ⟨q,m,t,sz,n,xs,c,rfl⟩)) b (r b)⟩
 | lent R q m t sz n xs h1 c j=>exact .lent R q m t sz n xs h1 c fun v F' a e b=>p F' L v a (.inl rfl) b (j v F' a e b)
theorem dO.up {f:Nat}{args:List Value}{F F1:aA}{L L1:Loc}{d:Option Nat}{K:aA->Loc->Value->Prop}(h:dO P f args F L d K) (b:F.le F1) (w:s6 F) (q:L1.part L) (y:∀k,d=some k->L.get k=none->L1.get k=none) :
  dO P f args F1 L1 d (fun F' L' v=>F1.le F'/\Real F' L'/\((L'=L1/\K F' L v)\/(∃k o,d=some k/\L.get k=none/\L'=L1.set k o/\K F' (L.set k o) v)\/∃k p t sz n xs,L.get k=some (.row p t sz n xs)/\L'=L1.set k (.row (.slice none 0 0) t sz 0 [])/\K F' (L.set k (.row (.slice none 0 0) t sz 0 [])) v)):=by
 cases h with
 | frz R h1 m =>
  refine .frz R (h1.up b w) fun v F' Lo a l=>?_;obtain⟨u,s⟩:=m v F' Lo (aA.le_trans b a) l;exact⟨u,fun c=>⟨a,c,.inl ⟨rfl,s (c.down (aA.le_refl _) c.glob q)⟩⟩⟩
 | own R k h1 x j m =>
  refine .own R k (h1.up b w) x (y k x j) fun v F' Lo a l=>?_;obtain⟨o,u,s⟩:=m v F' Lo (aA.le_trans b a) l;exact⟨o,u,fun c=>⟨a,c,.inr (.inl ⟨k,o,x,j,rfl,s (c.down (aA.le_refl _) c.glob (BW q j))⟩)⟩⟩
 | row R r p t sz n xs h1 e m =>
  refine .row R r p t sz n xs (h1.up b w) (q r _ e) fun v F' Lo a l=>?_;obtain⟨u,s⟩:=m v F' Lo (aA.le_trans b a) l;exact⟨u,fun c=>⟨a,c,.inr (.inr ⟨r,p,t,sz,n,xs,e,rfl,s (c.down (aA.le_refl _) c.glob (zV q))⟩)⟩⟩
 | lent R r p t sz n xs h1 e m =>
  exact .lent R r p t sz n xs (h1.up b w) (q r _ e) fun v F' a l c=>⟨a,c,.inl ⟨rfl,m v F' (aA.le_trans b a) l (c.down (aA.le_refl _) c.glob q)⟩⟩
theorem dO.some {f:Nat}{args:List Value}{F:aA}{L:Loc}{d:Option Nat}{K:aA->Loc->Value->Prop}(h:dO P f args F L d K) (hr:Real F L):∃F' L' v,F.le F'/\Left d L L'/\Real F' L'/\K F' L' v:=by
 obtain⟨w,s⟩:=hr;have aa:St F (inp []) w:=⟨s.frz,fun k o e=>(by cases e),fun k o g e=>(by cases e),fun k k' o o' g e=>(by cases e),s.glob⟩;cases h with
 | frz R h1 x =>
  obtain⟨e,w',fr,⟨v,F',Lo,_,l,b,u⟩,_⟩:=h1.run w aa [];obtain⟨rfl,y⟩:=x v F' Lo b.le u;have a:Real F' L:=⟨w',(gh (ks:=[]) (ko:=[]) s rfl List.nodup_nil List.nodup_nil (fun _ h=>(by cases h)) l b rfl).1⟩;exact⟨F',L,v,b.le,.inl rfl,a,y a⟩
 | own R k h1 hd z x =>
  obtain⟨e,w',fr,⟨v,F',Lo,_,l,b,u⟩,_⟩:=h1.run w aa [];obtain⟨o,rfl,y⟩:=x v F' Lo b.le u;have a:Real F' (L.set k o):=⟨w',(gh (ks:=[]) (ko:=[k]) s rfl List.nodup_nil (by simp) (fun j r=>.inr (by simp at r;rw[r];exact z)) l b rfl).1⟩;exact⟨F',_,v,b.le,.inr (.inl ⟨k,o,hd,z,rfl⟩),a,y a⟩
 | row R q rv t sz n xs h1 m x =>
  have c:L.sub [q]=Option.some [.row rv t sz n xs]:=by simp only[Loc.sub,m]
  obtain⟨e,w',fr,⟨v,F',Lo,_,l,b,u⟩,_⟩:=h1.run w (s.handed c (by simp)) [];obtain⟨rfl,y⟩:=x v F' Lo b.le u;have hb:=(gh (ks:=[q]) (ko:=[]) s c (by simp) List.nodup_nil (fun _ h=>(by cases h)) l b rfl).1;have a:Real F' (L.set q (.row (.slice none 0 0) t sz 0 [])):=by
   have h5:((L.aae [q]).puts [] []).get q=none:=by simp only[Loc.aae,Loc.puts,Loc.aag,eu]
   have h6:=hb.put h5 (o:=.row (.slice none 0 0) t sz 0 []) (World.ownsRow_nil w' 0 t sz) (fun g hg=>by cases hg);refine⟨w',h6.part fun j p e=>?_⟩;rw[Loc.aac] at e ⊢;split at e
   ·rename_i r;rw[eu r];exact e
   ·rename_i r;rw[fo r];simp only[Loc.aae,Loc.puts,Loc.aag,fo r];exact e
  exact⟨F',_,v,b.le,.inr (.inr ⟨q,rv,t,sz,n,xs,m,rfl⟩),a,y a⟩
 | lent R q rv t sz n xs h1 m x =>
  have c:L.sub [q]=Option.some [.row rv t sz n xs]:=by simp only[Loc.sub,m]
  obtain⟨e,w',fr,⟨v,F',Lo,_,l,b,⟨rfl,u⟩⟩,_⟩:=h1.run w (s.handed c (by simp)) [];have hb:=(gh (ks:=[q]) (ko:=[q]) s c (by simp) (by simp) (fun _ h=>.inl h) l b rfl).1;have a:Real F' L:=by
   refine⟨w',hb.part fun j p e=>?_⟩;simp only[Loc.aae,Loc.puts,Loc.aac,Loc.aag];split
   ·rename_i r;rw[r,m] at e;exact e
   ·exact e
  exact⟨F',L,v,b.le,.inl rfl,a,x v F' b.le u a⟩
theorem pX.imp {F F':aA}{L:Loc}{d:Option Nat}{e sz b:Nat}{s x:Value}{K K':Loc->Value->Prop}(h:pX F L d e sz b s x K) (o:F.le F')
  (y:∀f n xs p j v,(L.get f=some (.row s e sz n xs)\/(d=some f/\L.get f=none))->Real F' (L.set f (.row v e sz p j))->(Real F (L.set f (.row v e sz p j))->K (L.set f (.row v e sz p j)) v)->K' (L.set f (.row v e sz p j)) v):pX F' L d e sz b s x K':=by
 obtain⟨f,n,xs,m,l,h1,⟨q,c,h2,w,k⟩,h5,h6,r,u⟩:=h;refine⟨f,n,xs,m,l,?_,⟨q,c,h2,w,?_⟩,h5,h6,r,fun v hv hr=>y f n xs _ _ v ?_ hr (u v hv)⟩
 ·rcases h1 with h1 | h1 | ⟨h1,a,q,z,q2,t,q4⟩
  ·exact .inl h1
  ·exact .inr (.inl h1)
  ·exact .inr (.inr ⟨h1,a,q,z,q2,t,q4.imp (·.mono o) id⟩)
 ·rcases k with k | k
  ·exact .inl (k.mono o)
  ·exact .inr k
 ·rcases h1 with h1 | ⟨h1,a,_⟩ | ⟨h1,a,_⟩
  ·exact .inl h1
  ·exact .inr ⟨h1,a⟩
  ·exact .inr ⟨h1,a⟩
theorem Ie {L L1:Loc}{k:Nat}{o:Own}(h:L1.part L):(L1.set k o).part (L.set k o):=fun j p e=>by
 rw[Loc.aac] at e ⊢;split
 ·rename_i a;rw[eu a] at e;exact e
 ·rename_i a;rw[fo a] at e;exact h j p e
theorem Dw {e sz b:Nat}{zs:List Value}{s x:X}{d:Option Nat}:evalOp P (.appD e sz b zs s x) d F L ρ K=(match ev ρ s,ev ρ x with
  | .v sv,.v a=>pX F L d e sz b sv a fun L1 v=>K F L1 (put d (.v v) ρ)
  | _,_=>False):=rfl
theorem Real.store {F:aA}{L:Loc}{k g:Nat}{t:TypeId}{cs cs':List Value}(c:t≠0) (m:Real F L) (l:L.get k=Option.some (.box g t cs)):Real F (L.set k (.box g t cs')):=by
 obtain⟨w,j⟩:=m;have a:=tF w g cs'.toArray;refine⟨w.setRow g cs'.toArray,j.turn l ?_ (fun b h f=>a.block b h (fun e=>f (by rw[e];rfl))) (fun n d=>.inl d)⟩;show _=_;have h0:w.heap[g]?=Option.some (.cells cs.toArray t (0,0)):=by rw[<-jy c];exact j.own k _ l
 rw[jy c];exact setRow_heap w g cs.toArray _ t _ h0
theorem pX.some {F:aA}{L:Loc}{d:Option Nat}{e sz b:Nat}{s x:Value}{K:Loc->Value->Prop}(h:pX F L d e sz b s x K) (hr:Real F L) :
  ∃f v n' r,((∃n xs,L.get f=some (.row s e sz n xs))\/(d=some f/\L.get f=none))/\Real F (L.set f (.row v e sz n' r))/\K (L.set f (.row v e sz n' r)) v:=by
 obtain⟨f,n,xs,m,a,h1,⟨ad,c,h2,h3,h4⟩,h5,h6,h7,h8⟩:=h;obtain⟨w,hs⟩:=hr;have o:xs.length=n*sz:=by
  rcases h1 with h1 | ⟨_,_,rfl,rfl,_⟩ | ⟨_,_,_,_,_,q,_⟩
  ·exact(hs.own f _ h1).1
  ·simp
  ·exact q
 have u:=lF w (xs++a) e (n+m) sz h6 (by rw[abI,o,h3,Nat.add_mul]);have z:St F (L.del f) w:=hs.part (fun j p e=>by rw[Loc.aag] at e;split at e;cases e;exact e);have aa:(L.del f).get f=none:=by rw[Loc.aag,eu rfl]
 have ab:=(kx z aa (cs:=(xs++a).toArray) (t:=e) (e:=.row (.slice (Option.some ⟨w.heap.size,0,none⟩) (n+m) (n+m)) e sz (n+m) (xs++a)) rfl u).1;have k:Real F (L.set f (.row (.slice (Option.some ⟨w.heap.size,0,none⟩) (n+m) (n+m)) e sz (n+m) (xs++a))) :=
  ⟨_,ab.part (fun j p e=>by
   rw[Loc.aac] at e ⊢;split
   ·rename_i y;rw[eu y] at e;exact e
   ·rename_i y;rw[fo y] at e;rw[Loc.aag,fo y];exact e)⟩
 refine⟨f,_,n+m,xs++a,?_,k,h8 _ ⟨_,_,rfl,fun e=>(by cases e)⟩ k⟩;rcases h1 with h1 | ⟨h1,l,_⟩ | ⟨h1,l,_⟩
 ·exact .inl ⟨n,xs,h1⟩
 ·exact .inr ⟨h1,l⟩
 ·exact .inr ⟨h1,l⟩
def Ig (o:dX):Bool:=cR o||gY o||eF o||pK o
def okD (o:dX):Bool:=Ig o||iP o
theorem uT {o:dX}{d:Option Nat}{v:SV}(h:∀k,d=some k->k∉ct (bE o)):Alike o L L ρ (put d v ρ) :=
 fun x a=>⟨fJ h x a,fun _ _ _=>rfl⟩
theorem xN {o:dX}(ho:okD o=true) {d y:Option Nat}{u:SV}(h:∀k,y=some k->k∉ct (bE o)) (p:∀k,d=some k->y≠some k)
  (c:evalOp P o d F L ρ (fun F1 L1 ac=>K F1 L1 (put y u ac))):evalOp P o d F L (put y u ρ) K:=by
 by_cases hs:cR o=true
 ·rw[ck hs] at c ⊢;have:=qZ hs (aA.le_refl F) (uT (L:=L) (ρ:=ρ) (v:=u) h) c;refine(eY hs).mono _ _ (fun v r=>?_) this;rw[put_comm p];exact r
 ·have r:∀x∈bE o,val L (put y u ρ) x=val L ρ x:=fun x hx=>by simp only[val,fJ h x hx]
  cases o<;>first | (exfalso;revert hs ho;simp[okD,Ig,cR,gY,eF,pK,iP];done) | skip
  case boxD t x =>
   have e:=r x (by simp[bE]);simp only[evalOp,e] at c ⊢;split at c
   ·rename_i k;split at c
    ·intro g q;have:=c g q;rw[put_comm p];exact this
    ·exact c
   ·exact c
  case allocD t zs =>
   simp only[evalOp] at c ⊢;split at c
   ·rename_i k;split at c
    ·intro g q;have:=c g q;rw[put_comm p];exact this
    ·exact c
   ·exact c
  case mkFD e n sz xs =>
   have m:=mU (sz:=sz) (xs:=xs) r;have z:=cq (xs:=xs) r;simp only[evalOp,m,z] at c ⊢;split at c
   ·intro g F' ad hg q;rw[put_comm p];exact c g F' ad hg q
   ·exact c
  case callD f args =>
   have m:=dw (xs:=args) r;simp only[evalOp,m] at c ⊢;refine c.imp fun F' L' v _ _ _ h=>?_;rw[put_comm p];exact h
  case callVD f args =>
   have w:=fJ (v:=u) (ρ:=ρ) h f (by simp[bE]);have m:=dw (xs:=args) (L:=L) (L':=L) (ρ:=ρ) (ρ':=put y u ρ) (fun x hx=>r x (by simp[bE,hx]));simp only[evalOp,w,m] at c ⊢;split at c
   ·refine c.imp fun F' L' v _ _ _ h=>?_;rw[put_comm p];exact h
   ·exact c
  case appD e sz b zs s x =>
   have w:=fJ (v:=u) (ρ:=ρ) h s (by simp[bE]);have m:=fJ (v:=u) (ρ:=ρ) h x (by simp[bE]);simp only[evalOp,w,m] at c ⊢;split at c
   ·refine c.imp (aA.le_refl F) fun kd n xs n' av v _ q h=>?_;rw[put_comm p];exact h q
   ·exact c
  case makeSD e sz n zs =>
   simp only[evalOp] at c ⊢;split at c
   ·rename_i k;split at c
    ·intro g q;have:=c g q;rw[put_comm p];exact this
    ·exact c
   ·exact c
  case makeSV e sz b zs x =>
   have m:=r x (by simp[bE]);simp only[evalOp,m] at c ⊢;split at c
   ·rename_i k;split at c
    ·intro g q;have:=c g q;rw[put_comm p];exact this
    ·exact c
   ·exact c
  case storeD n a x =>
   obtain⟨n',a',x',k,off,g,t,cs,j,m,z,e3,e4,e5,c⟩:=iQ rfl c;have w:=fJ (v:=u) (ρ:=ρ) h a (by simp[bE]);have l:=r x (by simp[bE]);rcases j with j | j
   ·injection j with q1 q2 q3
    subst q1 q2 q3;exact iC (.inl rfl) (by rw[l];exact m) (by rw[l];exact z) (by rw[w];exact e3) e4 e5 (by rw[l,put_comm p];exact c)
   ·cases j
  case storeK key n a x =>
   obtain⟨n',a',x',k,off,g,t,cs,j,m,z,e3,e4,e5,c⟩:=iQ rfl c;have w:=fJ (v:=u) (ρ:=ρ) h a (by simp[bE]);have l:=r x (by simp[bE]);rcases j with j | j
   ·cases j
   ·injection j with q0 q1 q2 q3
    subst q0 q1 q2 q3;exact iC (.inr rfl) (by rw[l];exact m) (by rw[l];exact z) (by rw[w];exact e3) e4 e5 (by rw[l,put_comm p];exact c)
def uU:dX->dX->Bool
 | .build _ _,_=>true
 | .mkfn _ _ _,_=>true
 | .loadK k _ _ _,.storeK a _ _ _=>match Nat.beq k a with | true=>false | false=>true
 | x,_=>Du x
theorem rQ {x y:dX}(h:uU x y=true):cR x=true:=by
 unfold uU at h;split at h
 ·rfl
 ·rfl
 ·rfl
 ·exact Dv h
theorem AH {x y:dX}{k n:Nat}{a z:X}{L L':Loc}{V:SV->Prop}(h:uU x y=true) (d:y=.storeD n a z\/y=.storeK k n a z) (o:∀sv,conc L' sv=conc L sv) (s:∀j,j≠k->L'.get j=L.get j) (c:aL x F L ρ V):aL x F L' ρ V:=by
 unfold uU at h;split at h
 ·rename_i zs ps;have e:=qj (ps:=ps) (zs:=zs) (L:=L) (L':=L') (ρ:=ρ) (ρ':=ρ) (fun p _=>o _);simp only[aL,e] at c ⊢;exact c
 ·rename_i f a b;have r:=dw (xs:=a) (L:=L) (L':=L') (ρ:=ρ) (ρ':=ρ) (fun _ _=>o _);have q:=dw (xs:=b) (L:=L) (L':=L') (ρ:=ρ) (ρ':=ρ) (fun _ _=>o _);simp only[aL,r,q] at c ⊢;exact c
 ·rename_i k1 w m x v m2 a2 t;rcases d with d | d
  ·cases d
  ·injection d with q0 q1 q2 q3
   subst q0;split at h
   ·cases h
   ·rename_i hb;have hb:=gF hb;simp only[aL] at c ⊢;split at c
    ·rename_i u off e;split at c
     ·rename_i l;have l:=aaQ l;subst l;simp only[s _ hb];exact c
     ·exact c.elim
    ·exact c.elim
 ·exact AF h c
theorem Dx {L:Loc}{k g:Nat}{t:TypeId}{cs cs':List Value}(b:L.get k=some (.box g t cs)) (sv:SV):conc (L.set k (.box g t cs')) sv=conc L sv:=by
 cases sv with
 | v u=>rfl
 | el a j=>rfl
 | own j off =>
  simp only[conc,Loc.aac]
  by_cases e:j=k
  ·subst e;rw[eu rfl,b]
  ·rw[fo e]
def xO (x y:dX):Bool:=(cR x&&Ig y&&(!J2 x||cR y))||(gY x&&eF y)||(pK x&&eF y)||(eF x&&eF y)||(uU x y&&iP y)||(iP x&&uU y x)
inductive Made:dX->Option Nat->aA->Loc->Env->aA->Loc->SV->Prop
 | box {t:TypeId}{x:X}{k:Nat}{F:aA}{L:Loc}{ρ:Env}(g:Nat):Made (.boxD t x) (some k) F L ρ F (L.set k (.box g t (aO (val L ρ x)))) (.own k 0)
 | alloc {t:TypeId}{zs:List Value}{k:Nat}{F:aA}{L:Loc}{ρ:Env}(g:Nat):Made (.allocD t zs) (some k) F L ρ F (L.set k (.box g t zs)) (.own k 0)
 | mkS {e:TypeId}{sz n:Nat}{zs:List Value}{k:Nat}{F:aA}{L:Loc}{ρ:Env}(g:Nat):Made (.makeSD e sz n zs) (some k) F L ρ F (L.set k (.row (.slice (some ⟨g,0,none⟩) n n) e sz n (List.replicate n zs).flatten)) (.v (.slice (some ⟨g,0,none⟩) n n))
 | mkV {e:TypeId}{sz b:Nat}{zs:List Value}{x:X}{k:Nat}{F:aA}{L:Loc}{ρ:Env}(g n:Nat) (hn:n=lX (val L ρ x)):Made (.makeSV e sz b zs x) (some k) F L ρ F (L.set k (.row (.slice (some ⟨g,0,none⟩) n n) e sz n (List.replicate n zs).flatten)) (.v (.slice (some ⟨g,0,none⟩) n n))
 | mkF {e:TypeId}{n sz:Nat}{xs:List X}{d:Option Nat}{F:aA}{L:Loc}{ρ:Env}(g:Nat) (F':aA) (hle:F.le F') (hg:F' g=some (.cells (cellsOf L ρ xs).toArray e (0,0))) :
   Made (.mkFD e n sz xs) d F L ρ F' L (.v (.slice (some ⟨g,0,none⟩) n n))
def bK:dX->Option Nat->Loc->Env->Bool
 | .boxD _ _,some k,L,_=>(L.get k).isNone
 | .allocD _ _,some k,L,_=>(L.get k).isNone
 | .makeSD _ sz n zs,some k,L,_=>match L.get k,ig zs sz,Nat.ble n 9223372036854775807 with | none,true,true=>true | _,_,_=>false
 | .makeSV _ sz b zs x,some k,L,ρ=>match L.get k,ig zs sz,tu b (val L ρ x) with | none,true,true=>true | _,_,_=>false
 | .mkFD _ _ sz xs,_,L,ρ=>ga L ρ sz xs
 | _,_,_,_=>false
theorem bR {o:dX}(h:eF o=true) {d:Option Nat}:evalOp P o d F L ρ K↔bK o d L ρ=true/\∀F' L' v,Made o d F L ρ F' L' v->Real F' L'->K F' L' (put d v ρ):=by
 cases o<;>first | (exfalso;revert h;simp[eF];done) | skip
 case boxD t x =>
  simp only[evalOp];cases d with
  | none=>simp[bK]
  | some k =>
   simp only[bK];cases j:L.get k with
   | none =>
    simp only[Option.isNone_none,true_and];constructor
    ·rintro h F' L' v c a;cases c with
     | box g=>exact h g a
    ·intro h g a;exact h _ _ _ (.box g) a
   | some p=>simp
 case allocD t zs =>
  simp only[evalOp];cases d with
  | none=>simp[bK]
  | some k =>
   simp only[bK];cases j:L.get k with
   | none =>
    simp only[Option.isNone_none,true_and];constructor
    ·rintro h F' L' v c a;cases c with
     | alloc g=>exact h g a
    ·intro h g a;exact h _ _ _ (.alloc g) a
   | some p=>simp
 case makeSD e sz n zs =>
  simp only[evalOp];cases d with
  | none=>simp[bK]
  | some k =>
   simp only[bK];cases j:L.get k with
   | some p=>simp
   | none =>
    cases h1:ig zs sz with
    | false=>simp
    | true =>
     cases m:Nat.ble n 9223372036854775807 with
     | false=>simp
     | true =>
      simp only[true_and];constructor
      ·rintro h F' L' v c a;cases c with
       | mkS g=>exact h g a
      ·intro h g a;exact h _ _ _ (.mkS g) a
 case makeSV e sz b zs x =>
  simp only[evalOp];cases d with
  | none=>simp[bK]
  | some k =>
   simp only[bK];cases j:L.get k with
   | some p=>simp
   | none =>
    cases h1:ig zs sz with
    | false=>simp
    | true =>
     cases m:tu b (val L ρ x) with
     | false=>simp
     | true =>
      simp only[true_and];constructor
      ·rintro h F' L' v c a;cases c with
       | mkV g n q=>subst q;exact h g a
      ·intro h g a;exact h _ _ _ (.mkV g _ rfl) a
 case mkFD e n sz xs =>
  simp only[evalOp,bK];cases r:ga L ρ sz xs with
  | false=>simp
  | true =>
   simp only[true_and];constructor
   ·rintro h F' L' v c a;cases c with
    | mkF g F' f l=>exact h g _ f l a
   ·intro h g F' f l a;exact h _ _ _ (.mkF g F' f l) a
theorem BX:∀{l:List Value}{n:Nat},l.length=n->ig l n=true
 | [],0,_=>rfl
 | _::l,n+1,h=>BX (l:=l) (by simpa using h)
theorem nM {e:TypeId}{sz n k:Nat}{zs:List Value}(h:bK (.makeSD e sz n zs) (some k) L ρ=true):L.get k=none/\zs.length=sz/\n<=maxLen:=by
 simp only[bK] at h;split at h
 ·rename_i h1 b a;exact⟨h1,jN b,aa9 a⟩
 ·cases h
theorem nN {e:TypeId}{sz b k:Nat}{zs:List Value}{x:X}(h:bK (.makeSV e sz b zs x) (some k) L ρ=true):L.get k=none/\zs.length=sz/\lX (val L ρ x)<=maxLen/\tu b (val L ρ x)=true:=by
 simp only[bK] at h;split at h
 ·rename_i h1 c a;exact⟨h1,jN c,HZ a,a⟩
 ·cases h
theorem AJ {o:dX}{d:Option Nat}(u:Real F L) (f:bK o d L ρ=true):∃F' L' v,Made o d F L ρ F' L' v/\F.le F'/\Real F' L':=by
 obtain⟨w,j⟩:=u;have h:∀(e:TypeId) (cs:List Value),∃F',F.le F'/\F' w.heap.size=some (.cells cs.toArray e (0,0))/\Real F' L:=by
  intro e cs;have c:=iA w (.cells cs.toArray e);obtain⟨hf,m⟩:=tD j;exact⟨_,aA.aav (j.alloc (.cells cs.toArray e)) c,eu rfl,⟨_,(j.alloc (.cells cs.toArray e)).freeze c m⟩⟩
 cases o<;>cases d<;>simp only[bK] at f<;>try (cases f;done)
 ·rename_i t x k;rw[Option.isNone_iff_eq_none] at f;refine⟨_,_,_,.box w.heap.size,aA.le_refl F,⟨_,(lY j f (ob:=nj t (aO (val L ρ x))) (e:=.box w.heap.size t (aO (val L ρ x))) rfl ?_).1⟩⟩;show _=_;rw[iA]
 ·rename_i t zs k;rw[Option.isNone_iff_eq_none] at f;refine⟨_,_,_,.alloc w.heap.size,aA.le_refl F,⟨_,(lY j f (ob:=nj t zs) (e:=.box w.heap.size t zs) rfl ?_).1⟩⟩;show _=_;rw[iA]
 ·rename_i e n sz xs;obtain⟨F',h1,s,p⟩:=h e (cellsOf L ρ xs);exact⟨F',L,_,.mkF w.heap.size F' h1 s,h1,p⟩
 ·rename_i e n sz xs k;obtain⟨F',h1,s,p⟩:=h e (cellsOf L ρ xs);exact⟨F',L,_,.mkF w.heap.size F' h1 s,h1,p⟩
 ·rename_i e sz n zs k;obtain⟨q,l,r⟩:=nM (ρ:=ρ) (e:=e) f;have a:=lF w (List.replicate n zs).flatten e n sz r (by rw[List.length_flatten];simp[l]);refine⟨_,_,_,.mkS w.heap.size,aA.le_refl F,⟨_,(kx j q (cs:=((List.replicate n zs).flatten).toArray) (t:=e) (e:=.row (.slice (some ⟨w.heap.size,0,none⟩) n n) e sz n (List.replicate n zs).flatten) rfl a).1⟩⟩
 ·rename_i e sz b zs x k;obtain⟨q,l,r,_⟩:=nN (e:=e) f;have a:=lF w (List.replicate (lX (val L ρ x)) zs).flatten e (lX (val L ρ x)) sz r (by rw[List.length_flatten];simp[l]);refine⟨_,_,_,.mkV w.heap.size _ rfl,aA.le_refl F,⟨_,(kx j q (cs:=((List.replicate (lX (val L ρ x)) zs).flatten).toArray) (t:=e) (e:=.row (.slice (some ⟨w.heap.size,0,none⟩) (lX (val L ρ x)) (lX (val L ρ x))) e sz (lX (val L ρ x)) (List.replicate (lX (val L ρ x)) zs).flatten) rfl a).1⟩⟩
theorem Made.le {o:dX}{d:Option Nat}{F':aA}{L':Loc}{v:SV}(h:Made o d F L ρ F' L' v):F.le F':=by
 cases h with
 | box g=>exact aA.le_refl _
 | alloc g=>exact aA.le_refl _
 | mkS g=>exact aA.le_refl _
 | mkV g n b=>exact aA.le_refl _
 | mkF g F' a c=>exact a
theorem Made.part {o:dX}{d:Option Nat}{F':aA}{L':Loc}{v:SV}(a:bK o d L ρ=true) (h:Made o d F L ρ F' L' v):L'.part L:=by
 intro j p e;cases h with
 | box g =>
  simp only[bK,Option.isNone_iff_eq_none] at a;rw[bZ (fun h=>by rw[h] at e;rw[a] at e;cases e)];exact e
 | alloc g =>
  simp only[bK,Option.isNone_iff_eq_none] at a;rw[bZ (fun h=>by rw[h] at e;rw[a] at e;cases e)];exact e
 | mkS g =>
  have a:=(nM a).1;rw[bZ (fun h=>by rw[h] at e;rw[a] at e;cases e)];exact e
 | mkV g n f =>
  have a:=(nN a).1;rw[bZ (fun h=>by rw[h] at e;rw[a] at e;cases e)];exact e
 | mkF g F' b c=>exact e
theorem Made.get {o:dX}{d:Option Nat}{F':aA}{L':Loc}{v:SV}(a:bK o d L ρ=true) (h:Made o d F L ρ F' L' v):Keeps L L':=by
 cases h with
 | box g =>
  simp only[bK,Option.isNone_iff_eq_none] at a;exact Keeps.new a
 | alloc g =>
  simp only[bK,Option.isNone_iff_eq_none] at a;exact Keeps.new a
 | mkS g=>exact Keeps.new (nM a).1
 | mkV g n c=>exact Keeps.new (nN a).1
 | mkF g F' b e=>exact Keeps.refl _
theorem Made.frame {o:dX}{d:Option Nat}{F':aA}{L':Loc}{v:SV}(h:Made o d F L ρ F' L' v):∀j,d≠some j->L'.get j=L.get j:=by
 intro j a;cases h with
 | box g=>exact bZ (fun e=>a (by rw[e]))
 | alloc g=>exact bZ (fun e=>a (by rw[e]))
 | mkS g=>exact bZ (fun e=>a (by rw[e]))
 | mkV g n f=>exact bZ (fun e=>a (by rw[e]))
 | mkF g F' b c=>rfl
theorem iR {o:dX}{d:Option Nat}{L L':Loc}{ρ ρ':Env}(f:∀x∈bE o,val L' ρ' x=val L ρ x) (c:∀k,d=some k->(L'.get k=none->L.get k=none)) (h:bK o d L' ρ'=true):bK o d L ρ=true:=by
 cases o<;>cases d<;>simp only[bK] at h ⊢<;>try (cases h;done)
 ·rename_i t x k;rw[Option.isNone_iff_eq_none] at h ⊢;exact c k rfl h
 ·rename_i t zs k;rw[Option.isNone_iff_eq_none] at h ⊢;exact c k rfl h
 ·rename_i e n sz xs;rw[<-mU (xs:=xs) f];exact h
 ·rename_i e n sz xs k;rw[<-mU (xs:=xs) f];exact h
 ·rename_i e sz n zs k;obtain⟨h1,j,a⟩:=nM (L:=L') (ρ:=ρ') (e:=e) h;have a:Nat.ble n 9223372036854775807=true:=Nat.ble_eq_true_of_le a;rw[c k rfl h1,BX j,a]
 ·rename_i e sz b zs x k;obtain⟨h1,j,_,a⟩:=nN (L:=L') (ρ:=ρ') (e:=e) h;rw[f x (by simp[bE])] at a;rw[c k rfl h1,BX j,a]
theorem Made.like {o:dX}{d:Option Nat}{ρ ρ':Env}{F':aA}{L':Loc}{v:SV}(b:∀x∈bE o,val L ρ' x=val L ρ x) (h:Made o d F L ρ' F' L' v):Made o d F L ρ F' L' v:=by
 cases h with
 | box g=>rw[b _ (by simp[bE])];exact .box g
 | alloc g=>exact .alloc g
 | mkS g=>exact .mkS g
 | mkV g n e=>exact .mkV g n (by rw[e,b _ (by simp[bE])])
 | mkF g F' a c =>
  rename_i xs;rw[cq (xs:=xs) b] at c;exact .mkF g F' a c
theorem fK {L L':Loc}{ρ:Env}(b:Vd L ρ) (c:Keeps L L') (x:X):val L' ρ x=val L ρ x:=by
 simp only[val];cases e:ev ρ x with
 | v u=>rfl
 | el a j=>rfl
 | own k off =>
  obtain⟨g,ty,cs,h⟩:=b.ev e;simp only[conc,c k g ty cs h,h]
theorem cI {l:List X}{d:Option Nat}{v:SV}(h:∀k,d=some k->k∉ct l):∀x∈l,val L (put d v ρ) x=val L ρ x:=fun x a=>by simp only[val,fJ h x a]
theorem Ih {x y:dX}{dx dy:Option Nat}{F1 F2:aA}{L1 L2:Loc}{v1 v2:SV}(r:bK x dx L ρ=true) (aw:bK y dy L ρ=true) (d:∀k,dx=some k->k∉ct (bE y)) (az:∀k,dy=some k->k∉ct (bE x))
  (c:∀k,dx=some k->dy≠some k) (h:Vd L ρ) (h1:Made y dy F L ρ F1 L1 v1) (h2:Made x dx F1 L1 (put dy v1 ρ) F2 L2 v2) :
  ∃Fa La,Made x dx F L ρ Fa La v2/\Made y dy Fa La (put dx v2 ρ) F2 L2 v1:=by
 have ux:∀z∈bE x,val L1 (put dy v1 ρ) z=val L ρ z:=fun z hz=>by
  rw[cI az z hz,fK h (h1.get aw)]
 cases h2 with
 | box b =>
  rw[ux _ (by simp[bE])];rename_i t z k;have fresh:∀{o:Own},Keeps L (L.set k o):=by
   simp only[bK,Option.isNone_iff_eq_none] at r;exact Keeps.new r
  cases h1 with
  | box a =>
   rename_i t' p k';refine⟨F,_,.box b,?_⟩;rw[set_comm L _ _ (fun e=>c k rfl (by rw[e]))];have e:val (L.set k (.box b t (aO (val L ρ z)))) (put (some k) (.own k 0) ρ) p=val L ρ p:=by
    rw[cI d p (by simp[bE]),fK h (fresh)]
   rw[<-e];exact .box a
  | alloc a =>
   rename_i t' ae k';refine⟨F,_,.box b,?_⟩;rw[set_comm L _ _ (fun e=>c k rfl (by rw[e]))];exact .alloc a
  | mkS a =>
   refine⟨F,_,.box b,?_⟩;rw[set_comm L _ _ (fun e=>c k rfl (by rw[e]))];exact .mkS a
  | mkV a n1 j =>
   refine⟨F,_,.box b,?_⟩;rw[set_comm L _ _ (fun e=>c k rfl (by rw[e]))];refine .mkV a n1 ?_;rw[j,cI d _ (by simp[bE]),fK h fresh]
  | mkF a F' f q =>
   rename_i e' n' ab m;refine⟨F,_,.box b,.mkF a _ f ?_⟩;rw[cq (L:=L) (ρ:=ρ) (xs:=m) (fun u w=>by rw[cI d u (by simpa[bE] using w),fK h fresh])];exact q
 | alloc b =>
  rename_i t zs k;have fresh:∀{o:Own},Keeps L (L.set k o):=by
   simp only[bK,Option.isNone_iff_eq_none] at r;exact Keeps.new r
  cases h1 with
  | box a =>
   rename_i t' p k';refine⟨F,_,.alloc b,?_⟩;rw[set_comm L _ _ (fun e=>c k rfl (by rw[e]))];have e:val (L.set k (.box b t zs)) (put (some k) (.own k 0) ρ) p=val L ρ p:=by
    rw[cI d p (by simp[bE]),fK h (fresh)]
   rw[<-e];exact .box a
  | alloc a =>
   rename_i t' ae k';refine⟨F,_,.alloc b,?_⟩;rw[set_comm L _ _ (fun e=>c k rfl (by rw[e]))];exact .alloc a
  | mkS a =>
   refine⟨F,_,.alloc b,?_⟩;rw[set_comm L _ _ (fun e=>c k rfl (by rw[e]))];exact .mkS a
  | mkV a n1 j =>
   refine⟨F,_,.alloc b,?_⟩;rw[set_comm L _ _ (fun e=>c k rfl (by rw[e]))];refine .mkV a n1 ?_;rw[j,cI d _ (by simp[bE]),fK h fresh]
  | mkF a F' f q =>
   rename_i e' n' ab m;refine⟨F,_,.alloc b,.mkF a _ f ?_⟩;rw[cq (L:=L) (ρ:=ρ) (xs:=m) (fun u w=>by rw[cI d u (by simpa[bE] using w),fK h fresh])];exact q
 | mkS b =>
  rename_i t ag l zs k;have fresh:∀{o:Own},Keeps L (L.set k o):=by
   exact Keeps.new (nM r).1
  cases h1 with
  | box a =>
   rename_i t' p k';refine⟨F,_,.mkS b,?_⟩;rw[set_comm L _ _ (fun e=>c k rfl (by rw[e]))];have e:val (L.set k (.row (.slice (some ⟨b,0,none⟩) l l) t ag l (List.replicate l zs).flatten)) (put (some k) (.v (.slice (some ⟨b,0,none⟩) l l)) ρ) p=val L ρ p:=by
    rw[cI d p (by simp[bE]),fK h (fresh)]
   rw[<-e];exact .box a
  | alloc a =>
   rename_i t' ae k';refine⟨F,_,.mkS b,?_⟩;rw[set_comm L _ _ (fun e=>c k rfl (by rw[e]))];exact .alloc a
  | mkS a =>
   refine⟨F,_,.mkS b,?_⟩;rw[set_comm L _ _ (fun e=>c k rfl (by rw[e]))];exact .mkS a
  | mkV a n1 j =>
   refine⟨F,_,.mkS b,?_⟩;rw[set_comm L _ _ (fun e=>c k rfl (by rw[e]))];refine .mkV a n1 ?_;rw[j,cI d _ (by simp[bE]),fK h fresh]
  | mkF a F' f q =>
   rename_i e' n' ab m;refine⟨F,_,.mkS b,.mkF a _ f ?_⟩;rw[cq (L:=L) (ρ:=ρ) (xs:=m) (fun u w=>by rw[cI d u (by simpa[bE] using w),fK h fresh])];exact q
 | mkV b l ao =>
  rename_i t ag b0 zs x0 k;have s:l=lX (val L ρ x0):=by rw[ao,ux _ (by simp[bE])]
  clear ao
  have fresh:∀{o:Own},Keeps L (L.set k o):=by
   exact Keeps.new (nN r).1
  cases h1 with
  | box a =>
   rename_i t' p k';refine⟨F,_,.mkV b l s,?_⟩;rw[set_comm L _ _ (fun e=>c k rfl (by rw[e]))];have e:val (L.set k (.row (.slice (some ⟨b,0,none⟩) l l) t ag l (List.replicate l zs).flatten)) (put (some k) (.v (.slice (some ⟨b,0,none⟩) l l)) ρ) p=val L ρ p:=by
    rw[cI d p (by simp[bE]),fK h (fresh)]
   rw[<-e];exact .box a
  | alloc a =>
   rename_i t' ae k';refine⟨F,_,.mkV b l s,?_⟩;rw[set_comm L _ _ (fun e=>c k rfl (by rw[e]))];exact .alloc a
  | mkS a =>
   refine⟨F,_,.mkV b l s,?_⟩;rw[set_comm L _ _ (fun e=>c k rfl (by rw[e]))];exact .mkS a
  | mkV a n1 j =>
   refine⟨F,_,.mkV b l s,?_⟩;rw[set_comm L _ _ (fun e=>c k rfl (by rw[e]))];refine .mkV a n1 ?_;rw[j,cI d _ (by simp[bE]),fK h fresh]
  | mkF a F' f q =>
   rename_i e' n' ab m;refine⟨F,_,.mkV b l s,.mkF a _ f ?_⟩;rw[cq (L:=L) (ρ:=ρ) (xs:=m) (fun u w=>by rw[cI d u (by simpa[bE] using w),fK h fresh])];exact q
 | mkF b F' f q =>
  rename_i e n sz xs;have ay:=cq (xs:=xs) ux;rw[ay] at q;cases h1 with
  | box a =>
   rename_i t' p k';refine⟨F2,L,.mkF b _ f q,?_⟩;have e:=cI (L:=L) (ρ:=ρ) (v:=.v (.slice (some ⟨b,0,none⟩) n n)) d p (by simp[bE]);rw[<-e];exact .box a
  | alloc a=>exact⟨F2,L,.mkF b _ f q,.alloc a⟩
  | mkS a=>exact⟨F2,L,.mkF b _ f q,.mkS a⟩
  | mkV a n1 j=>exact⟨F2,L,.mkF b _ f q,.mkV a n1 (by rw[j,cI d _ (by simp[bE])])⟩
  | mkF a F1' an aE =>
   rename_i e' n' ab m;refine⟨F2,L,.mkF b _ (aA.le_trans an f) q,.mkF a _ (aA.le_refl _) ?_⟩;rw[cq (L:=L) (ρ:=ρ) (xs:=m) (fun u w=>by rw[cI d u (by simpa[bE] using w)])];exact f _ _ aE
theorem J6 {x y:dX}{dx dy:Option Nat}(hr:Real F L) (hc:xO x y=true) (aa:∀k,dx=some k->k∉ct (bE y)) (ag:∀k,dy=some k->k∉ct (bE x)) (d:∀k,dx=some k->dy≠some k)
  (av:Vd L ρ) (w:evalOp P x dx F L ρ (fun F1 L1 cd=>evalOp P y dy F1 L1 cd K)):evalOp P y dy F L ρ (fun F1 L1 cd=>evalOp P x dx F1 L1 cd K):=by
 have ed:∀k,dy=some k->dx≠some k:=fun k e e'=>d k e' e;simp only[xO,abn,v5] at hc;rcases hc with((((⟨⟨hx,hy⟩,dn⟩ | ⟨hx,hy⟩) | ⟨hx,hy⟩) | ⟨hx,hy⟩) | ⟨hx,hy⟩) | ⟨hx,hy⟩
 ·rw[ck hx] at w;obtain⟨v,hT,p⟩:=(eY hx).ex _ w
  clear w
  have ae:∀{F':aA}{L':Loc}{u:SV},F.le F'->Keeps L L'->K F' L' (put dy u (put dx v ρ))->(J2 x=false\/L'=L)->evalOp P x dx F' L' (put dy u ρ) K:=by
   intro F' L' u hF hL hk hR;rw[ck hx];have bl:Alike x L L' ρ (put dy u ρ):=fun z q=>⟨fJ ag z q,fun k off e=>by
    obtain⟨g,ty,cs,h⟩:=av.ev e;rw[hL k g ty cs h,h]⟩
   refine(eY hx).mono _ _ (fun v' dj=>?_) (qZ hx hF bl hT hR);subst dj;rw[put_comm d];exact hk
  have hv:=cI (L:=L) (ρ:=ρ) (v:=v) aa
  by_cases bi:cR y=true
  ·rw[ck bi] at p ⊢;have bl:Alike y L L (put dx v ρ) ρ:=fun z q=>⟨(fJ aa z q).symm,fun _ _ _=>rfl⟩;exact(eY bi).mono _ _ (fun u hu=>ae (aA.le_refl F) (Keeps.refl _) hu (.inr rfl)) (qZ bi (aA.le_refl F) bl p)
  ·have bu:J2 x=false:=by
    rcases dn with h | h
    ·cases e:J2 x with
     | false=>rfl
     | true=>rw[e] at h;cases h
    ·exact fL h bi
   by_cases cy:eF y=true
   ·rw[bR cy] at p ⊢;obtain⟨h1,h2⟩:=p;have l:bK y dy L ρ=true:=iR (L':=L) (ρ':=put dx v ρ) hv (fun k _ e=>e) h1;refine⟨l,fun F' L' u hm bj=>ae hm.le (hm.get l) (h2 F' L' u ?_ bj) (.inl bu)⟩;exact hm.like fun z q=>(hv z q).symm
   ·cases y<;>first | (exfalso;revert bi cy hy;simp[Ig,cR,gY,eF,pK];done) | skip
    case callD f args =>
     have e1:=dw (xs:=args) hv;simp only[evalOp,e1] at p ⊢;exact p.imp fun F' L' u bc hl _ h=>ae bc hl.keeps h (.inl bu)
    case callVD f args =>
     have e0:=fJ (v:=v) (ρ:=ρ) aa f (by simp[bE]);have e1:=dw (xs:=args) (L:=L) (L':=L) (ρ:=ρ) (ρ':=put dx v ρ) (fun z q=>hv z (by simp[bE,q]));simp only[evalOp,e0,e1] at p ⊢;split at p
     ·exact p.imp fun F' L' u bc hl _ h=>ae bc hl.keeps h (.inl bu)
     ·exact p.elim
    case appD e sz b zs s z =>
     have e0:=fJ (v:=v) (ρ:=ρ) aa s (by simp[bE]);have e1:=fJ (v:=v) (ρ:=ρ) aa z (by simp[bE]);simp only[evalOp,e0,e1] at p ⊢;split at p
     ·refine p.imp (aA.le_refl F) fun kd n xs n' bo u dC bj h=>ae (aA.le_refl F) ?_ (h bj) (.inl bu);rcases dC with h | ⟨_,h⟩
      ·exact Keeps.row h
      ·exact Keeps.new h
     ·exact p.elim
 ·have al:∀{f:Nat}{args:List Value},dO P f args F L dx (fun F' L' v=>evalOp P y dy F' L' (put dx (.v v) ρ) K) ->
    bK y dy L ρ=true/\∀F' L' u,Made y dy F L ρ F' L' u->dO P f args F' L' dx (fun F2 L2 v=>K F2 L2 (put dx (.v v) (put dy u ρ))):=by
   intro f args hC;have up:∀{L1:Loc},Left dx L L1->∀{u:SV},∀z∈bE y,val L1 (put dx u ρ) z=val L ρ z:=by
    intro L1 hl u z q;rw[cI aa z q,fK av hl.keeps]
   have l:bK y dy L ρ=true:=by
    obtain⟨F',L',v,bc,hl,_,h⟩:=hC.some hr;rw[bR hy] at h;refine iR (L':=L') (ρ':=put dx (.v v) ρ) (up hl) (fun k hk e=>?_) h.1;rcases hl with rfl | ⟨j,o,hj,hn,rfl⟩ | ⟨j,rv,t,sz,n,xs,hj,rfl⟩
    ·exact e
    ·rw[bZ (fun ej=>d j hj (by rw[<-ej];exact hk))] at e;exact e
    ·rw[Loc.aac] at e;split at e
     ·cases e
     ·exact e
   refine⟨l,fun F' L' u hm=>(hC.up hm.le hr.glob (hm.part l) (fun k hk hn=>by rw[hm.frame k (d k hk)];exact hn)).imp fun F2 L2 v bc dt aw h=>?_⟩
   clear dt
   obtain⟨h1,dl,h2⟩:=h
   clear dl
   rw[put_comm d];rcases h2 with⟨rfl,h2⟩ | ⟨k,o,hk,hn,rfl,h2⟩ | ⟨kr,rv,t,sz,n,xs,cw,rfl,h2⟩
   ·rw[bR hy] at h2;refine h2.2 F2 L2 u ?_ aw;have r:=up (L1:=L) (.inl rfl) (u:=.v v)
    clear up h2
    cases hm with
    | box g=>rw[<-r _ (by simp[bE])];exact .box g
    | alloc g=>exact .alloc g
    | mkS g=>exact .mkS g
    | mkV g n hn=>exact .mkV g n (by rw[hn,r _ (by simp[bE])])
    | mkF g F' bb hg =>
     rename_i xs;refine .mkF g _ (aA.le_refl _) ?_;rw[cq (L:=L) (ρ:=ρ) (xs:=xs) (fun z q=>r z (by simpa[bE] using q))];exact h1 _ _ hg
   ·rw[bR hy] at h2;refine h2.2 F2 _ u ?_ aw;have r:=up (L1:=L.set k o) (.inr (.inl ⟨k,o,hk,hn,rfl⟩)) (u:=.v v)
    clear up h2
    cases hm with
    | box g =>
     rw[set_comm L _ _ (fun e=>d k hk (by rw[e])),<-r _ (by simp[bE])];exact .box g
    | alloc g =>
     rw[set_comm L _ _ (fun e=>d k hk (by rw[e]))];exact .alloc g
    | mkS g =>
     rw[set_comm L _ _ (fun e=>d k hk (by rw[e]))];exact .mkS g
    | mkV g n hn =>
     rw[set_comm L _ _ (fun e=>d k hk (by rw[e]))];exact .mkV g n (by rw[hn,r _ (by simp[bE])])
    | mkF g F' bb hg =>
     rename_i xs;refine .mkF g _ (aA.le_refl _) ?_;rw[cq (L:=L) (ρ:=ρ) (xs:=xs) (fun z q=>r z (by simpa[bE] using q))];exact h1 _ _ hg
   ·rw[bR hy] at h2;refine h2.2 F2 _ u ?_ aw;have r:=up (L1:=L.set kr (.row (.slice none 0 0) t sz 0 [])) (.inr (.inr ⟨kr,rv,t,sz,n,xs,cw,rfl⟩)) (u:=.v v);have ax:∀k,dy=some k->eF y=true->bK y dy L ρ=true->(∀e n' ea bo,y≠.mkFD e n' ea bo)->kr≠k:=by
     intro k hk _ hc dr e;subst hk e;cases y<;>simp only[bK,cw,Option.isNone_some,aa2] at hc;exact dr _ _ _ _ rfl
    clear up h2
    cases hm with
    | box g =>
     rw[set_comm L _ _ (ax _ rfl hy l (fun _ _ _ _=>by simp)).symm,<-r _ (by simp[bE])];exact .box g
    | alloc g =>
     rw[set_comm L _ _ (ax _ rfl hy l (fun _ _ _ _=>by simp)).symm];exact .alloc g
    | mkS g =>
     rw[set_comm L _ _ (ax _ rfl hy l (fun _ _ _ _=>by simp)).symm];exact .mkS g
    | mkV g n hn =>
     rw[set_comm L _ _ (ax _ rfl hy l (fun _ _ _ _=>by simp)).symm];exact .mkV g n (by rw[hn,r _ (by simp[bE])])
    | mkF g F' bb hg =>
     rename_i xs;refine .mkF g _ (aA.le_refl _) ?_;rw[cq (L:=L) (ρ:=ρ) (xs:=xs) (fun z q=>r z (by simpa[bE] using q))];exact h1 _ _ hg
  cases x<;>first | (exfalso;revert hx;simp[gY];done) | skip
  case callD f args =>
   simp only[evalOp] at w;obtain⟨h1,h2⟩:=al w;rw[bR hy];refine⟨h1,fun F' L' u hm _=>?_⟩;have e1:bw L' (put dy u ρ) args=bw L ρ args:=dw fun z q=>by rw[cI ag z (by simpa[bE] using q),fK av (hm.get h1)]
   simp only[evalOp,e1];exact h2 F' L' u hm
  case callVD f args =>
   simp only[evalOp] at w;split at w
   case h_2=>exact w.elim
   rename_i eo fi ca hf;obtain⟨h1,h2⟩:=al w;rw[bR hy];refine⟨h1,fun F' L' u hm _=>?_⟩;have e0:=fJ (v:=u) (ρ:=ρ) ag f (by simp[bE]);have e1:bw L' (put dy u ρ) args=bw L ρ args:=dw fun z q=>by rw[cI ag z (by simp[bE,q]),fK av (hm.get h1)]
   simp only[evalOp,e0,e1,hf];exact h2 F' L' u hm
 ·cases x<;>first | (exfalso;revert hx;simp[pK];done) | skip
  case appD e sz b zs s z =>
   rw[Dw] at w;split at w
   case h_2=>exact w.elim
   rename_i sv xv cp cr;have l:bK y dy L ρ=true:=by
    obtain⟨kd,v,n',bo,h1,_,h⟩:=w.some hr;rw[bR hy] at h;have cf:Keeps L (L.set kd (.row v e sz n' bo)):=by
     rcases h1 with⟨n,xs,h1⟩ | ⟨_,h1⟩
     ·exact Keeps.row h1
     ·exact Keeps.new h1
    refine iR (L':=_) (ρ':=put dx (.v v) ρ) (fun u hu=>by rw[cI aa u hu,fK av cf]) (fun k hk e=>?_) h.1;rw[Loc.aac] at e;split at e
    ·cases e
    ·exact e
   rw[bR hy];refine⟨l,fun F' L' u hm dd=>?_⟩
   clear dd
   have e0:=fJ (v:=u) (ρ:=ρ) ag s (by simp[bE]);have e1:=fJ (v:=u) (ρ:=ρ) ag z (by simp[bE]);simp only[evalOp,e0,e1,cp,cr];obtain⟨kd,n,xs,m,cb,h1,⟨ad,c,h2,h3,h4⟩,h5,h6,h7,h8⟩:=w;have cf:∀{o:Own},Keeps L (L.set kd o):=by
    rcases h1 with h1 | ⟨_,h1,_⟩ | ⟨_,h1,_⟩
    ·exact Keeps.row h1
    ·exact Keeps.new h1
    ·exact Keeps.new h1
   have ax:∀k,dy=some k->L.get k=none->kd≠k:=by
    rintro k hk hn rfl;rcases h1 with h1 | ⟨h1,_⟩ | ⟨h1,_⟩
    ·rw[hn] at h1;cases h1
    ·exact d kd h1 hk
    ·exact d kd h1 hk
   refine⟨kd,n,xs,m,cb,?_,⟨ad,c,h2,h3,?_⟩,h5,h6,h7,fun v hv aw=>?_⟩
   ·rcases h1 with h1 | ⟨h0,h1,dk⟩ | ⟨h0,h1,ad,q1,q2,q3,q4⟩
    ·exact .inl (hm.part l kd _ h1)
    ·exact .inr (.inl ⟨h0,by rw[hm.frame kd (d kd h0)];exact h1,dk⟩)
    ·exact .inr (.inr ⟨h0,by rw[hm.frame kd (d kd h0)];exact h1,ad,q1,q2,q3,q4.imp (·.mono hm.le) id⟩)
   ·rcases h4 with h4 | h4
    ·exact .inl (h4.mono hm.le)
    ·exact .inr h4
   ·have h9:=h8 v hv (aw.down hm.le hr.glob (Ie (hm.part l)));rw[bR hy] at h9;rw[put_comm d];refine h9.2 F' _ u ?_ aw;have r:∀z∈bE y,val (L.set kd (.row v e sz (n+m) (xs++cb))) (put dx (.v v) ρ) z=val L ρ z:=fun z q=>by
     rw[cI aa z q,fK av cf]
    clear h8 h9 cp cr e0 e1
    cases hm with
    | box g =>
     rename_i t x k;simp only[bK,Option.isNone_iff_eq_none] at l;rw[set_comm L _ _ (fun e=>ax k rfl l e.symm),<-r _ (by simp[bE])];exact .box g
    | alloc g =>
     rename_i t zs k;simp only[bK,Option.isNone_iff_eq_none] at l;rw[set_comm L _ _ (fun e=>ax k rfl l e.symm)];exact .alloc g
    | mkS g =>
     rename_i e0 dv n0 zs k;rw[set_comm L _ _ (fun e=>ax k rfl (nM l).1 e.symm)];exact .mkS g
    | mkV g n hn =>
     rename_i e0 dv b0 zs x0 k;rw[set_comm L _ _ (fun e=>ax k rfl (nN l).1 e.symm)];exact .mkV g n (by rw[hn,r _ (by simp[bE])])
    | mkF g F' bb hg =>
     rename_i de;refine .mkF g _ bb ?_;rw[cq (L:=L) (ρ:=ρ) (xs:=de) (fun z q=>r z (by simpa[bE] using q))];exact hg
 ·rw[bR hx] at w;obtain⟨be,w⟩:=w;have bv:bK y dy L ρ=true:=by
   obtain⟨F',L',v,hm,bc,bj⟩:=AJ hr be;have h:=w F' L' v hm bj;rw[bR hy] at h;refine iR (L':=L') (ρ':=put dx v ρ) (fun z q=>by rw[cI aa z q,fK av (hm.get be)]) (fun k hk e=>?_) h.1;rw[hm.frame k (fun e'=>d k e' hk)] at e;exact e
  rw[bR hy];refine⟨bv,fun F1 L1 v1 ch eg=>?_⟩;rw[bR hx];refine⟨iR (L':=L) (ρ':=ρ) (fun z q=>by rw[cI ag z q,fK av (ch.get bv)]) (fun k hk e=>by rw[ch.frame k (d k hk)];exact e) be,fun F2 L2 v2 ds aw=>?_⟩;obtain⟨Fa,La,ha,hb⟩:=Ih be bv aa ag d av ch ds;have cz:bK y dy La (put dx v2 ρ)=true :=
   iR (L':=L) (ρ':=ρ) (fun z q=>by rw[cI aa z q,fK av (ha.get be)]) (fun k hk e=>by rw[ha.frame k (fun e'=>d k e' hk)];exact e) bv
  have dE:Real Fa La:=aw.down hb.le (hr.glob.mono ha.le) (hb.part cz);have h:=w Fa La v2 ha dE;rw[bR hy] at h;rw[put_comm d];exact h.2 F2 L2 v1 hb aw
 ·have bk:=rQ hx;rw[ck bk] at w;obtain⟨v,hT,p⟩:=(eY bk).ex _ w
  clear w
  obtain⟨n,a,z,k,off,g,t,cs,ho,e1,e2,e3,e4,e5,w⟩:=iQ hy p;have ha:a∈bE y:=by rcases ho with rfl | rfl<;>simp[bE]
  have q:z∈bE y:=by rcases ho with rfl | rfl<;>simp[bE]
  have q0:=fJ (v:=v) (ρ:=ρ) aa a ha;have q1:=cI (L:=L) (v:=v) (ρ:=ρ) aa z q;rw[q0] at e3;rw[q1] at e1 e2 w;refine iC ho e1 e2 e3 e4 e5 ?_;have h3:=(eY bk).mono _ (fun u=>K F _ (put dx u (put dy (.v undef) ρ))) (fun u hu=>by subst hu;rw[put_comm d];exact w)
   (qZ bk (aA.le_refl F) (uT (L:=L) (ρ:=ρ) (v:=.v undef) ag) hT)
  rw[ck bk];exact AH hx ho (Dx e4) (fun j hj=>bZ hj) h3
 ·have bd:=rQ hy;obtain⟨n,a,z,k,off,g,t,cs,ho,e1,e2,e3,e4,e5,w⟩:=iQ hx w;have ha:a∈bE x:=by rcases ho with rfl | rfl<;>simp[bE]
  have q:z∈bE x:=by rcases ho with rfl | rfl<;>simp[bE]
  rw[ck bd] at w;obtain⟨v,hT,w⟩:=(eY bd).ex _ w;have hT:=AH (L':=L) hy ho (fun sv=>(Dx e4 sv).symm) (fun j hj=>(bZ hj).symm) hT;have bl:Alike y L L (put dx (.v undef) ρ) ρ:=fun u hu=>⟨(fJ aa u hu).symm,fun _ _ _=>rfl⟩;have hT:=qZ bd (aA.le_refl F) bl hT;rw[ck bd];refine(eY bd).mono _ _ (fun u hu=>?_) hT;subst hu;have q0:=fJ (v:=u) (ρ:=ρ) ag a ha;have q1:=cI (L:=L) (v:=u) (ρ:=ρ) ag z q;refine iC ho (by rw[q1];exact e1) (by rw[q1];exact e2) (by rw[q0];exact e3) e4 e5 ?_;rw[q1,put_comm d];exact w
end
section
variable {P:Program}{F:aA}{L:Loc}{ρ:Env}{K K':dG}
theorem Left.none {d:Option Nat}{L L':Loc}(h:Left d L L') {j:Nat}(f:d≠some j) (e:L.get j=none):L'.get j=none:=by
 rcases h with rfl | ⟨k,o,c,b,rfl⟩ | ⟨k,l,t,sz,n,xs,b,rfl⟩
 ·exact e
 ·rw[bZ (fun a=>f (by rw[a];exact c))];exact e
 ·rw[bZ (fun a=>by rw[a,b] at e;cases e)];exact e
theorem ny {o:dX}(ho:okD o=true) {d:Option Nat}(hr:Real F L) (y:Vd L ρ) (l:evalOp P o d F L ρ K)
  (hk:∀F1 L1 q,(∃v,q=put d v ρ)->F.le F1->Real F1 L1->Vd L1 q->(∀j,d≠some j->L.get j=none->L1.get j=none)->K F1 L1 q->K' F1 L1 q):evalOp P o d F L ρ K':=by
 have a:∀{L1:Loc}{v:SV},Keeps L L1->(∀k off,v=.own k off->∃g ty cs,L1.get k=some (.box g ty cs))->Vd L1 (put d v ρ):=by
  intro L1 v hL hv t k off e;have m:ρ t=.own k off->∃g ty cs,L1.get k=some (.box g ty cs):=fun e=>by
   obtain⟨g,ty,cs,h⟩:=y t k off e;exact⟨g,ty,cs,hL k g ty cs h⟩
  rw[put_eq] at e;cases d with
  | none=>exact m e
  | some k' =>
   simp only[] at e;split at e
   ·exact hv k off e
   ·exact m e
 by_cases hs:cR o=true
 ·rw[ck hs] at l ⊢;obtain⟨v,hT,hv⟩:=(eY hs).ex _ l;refine(eY hs).mono _ _ (fun u hu=>?_) hT;subst hu;refine hk _ _ _ ⟨_,rfl⟩ (aA.le_refl F) hr (a (Keeps.refl L) fun k off e=>?_) (fun _ _ h=>h) hv;subst e;obtain⟨x,_,p,hx⟩:=J3 hs hT;exact y.ev hx
 ·by_cases ha:eF o=true
  ·rw[bR ha] at l ⊢;refine⟨l.1,fun F' L' v hm c=>hk _ _ _ ⟨v,rfl⟩ hm.le c (a (hm.get l.1) fun k off e=>?_) (fun j w e=>by rw[hm.frame j w];exact e) (l.2 F' L' v hm c)⟩;cases hm with
   | box g=>injection e with e1 e2;subst e1;exact⟨_,_,_,by rw[Loc.aac,eu rfl]⟩
   | alloc g=>injection e with e1 e2;subst e1;exact⟨_,_,_,by rw[Loc.aac,eu rfl]⟩
   | mkS g=>cases e
   | mkV g n hn=>cases e
   | mkF g F' r hg=>cases e
  ·cases o<;>first | (exfalso;revert hs ha ho;simp[okD,Ig,cR,gY,eF,pK,iP];done) | skip
   case callD f args =>
    simp only[evalOp] at l ⊢;exact l.imp fun F' L' v r hl c h=>hk _ _ _ ⟨_,rfl⟩ r c (a hl.keeps fun k off e=>by cases e) (fun j w e=>hl.none w e) h
   case callVD f args =>
    simp only[evalOp] at l ⊢;split at l
    ·exact l.imp fun F' L' v r hl c h=>hk _ _ _ ⟨_,rfl⟩ r c (a hl.keeps fun k off e=>by cases e) (fun j w e=>hl.none w e) h
    ·exact l.elim
   case appD e sz b zs s z =>
    simp only[evalOp] at l ⊢;split at l
    ·refine l.imp (aA.le_refl F) fun kd n xs n' bm u al c h=>hk _ _ _ ⟨_,rfl⟩ (aA.le_refl F) c (a ?_ fun k off e=>by cases e) ?_ (h c)
     ·rcases al with h | ⟨_,h⟩
      ·exact Keeps.row h
      ·exact Keeps.new h
     ·intro j w e;have an:j≠kd:=by
       rintro rfl;rcases al with h | ⟨h,_⟩
       ·rw[e] at h;cases h
       ·exact w h
      rw[bZ an];exact e
    ·exact l.elim
   all_goals
    obtain⟨n',a',x',k,off,g,ty,cs,av,e1,e2,e3,e4,e5,l⟩:=iQ rfl l;refine iC av e1 e2 e3 e4 e5 (hk _ _ _ ⟨_,rfl⟩ (aA.le_refl F) (Real.store (wN e5) hr e4) ?_ (fun j _ e=>by rw[bZ (fun ej=>by rw[ej,e4] at e;cases e)];exact e) l);intro t k' p e;have m:ρ t=.own k' p->∃g' ty' cs',Loc.get (L.set k (.box g ty (bU cs off (aO (val L ρ x'))))) k'=some (.box g' ty' cs'):=fun e=>by
     obtain⟨g',ty',cs',h⟩:=y t k' p e;rw[Loc.aac];split
     ·exact⟨_,_,_,rfl⟩
     ·exact⟨_,_,_,h⟩
    rw[put_eq] at e;cases d with
    | none=>exact m e
    | some k' =>
     simp only[] at e;split at e
     ·cases e
     ·exact m e
theorem jP {o:dX}(m:okD o=true) {d:Option Nat}(j:Real F L) (b:Vd L ρ) (e:evalOp P o d F L ρ K)
  (h:∀F1 L1 a,(∃v,a=put d v ρ)->F.le F1->Real F1 L1->Vd L1 a->K F1 L1 a->K' F1 L1 a):evalOp P o d F L ρ K' :=
 ny m j b e fun F1 L1 a h1 f c k _ l=>h F1 L1 a h1 f c k l
theorem vP {o:dX}(n:okD o=true) {d:Option Nat}(c:Real F L) (a:evalOp P o d F L ρ K):∃v F1 L1,K F1 L1 (put d v ρ):=by
 by_cases l:cR o=true
 ·rw[ck l] at a;obtain⟨v,_,q⟩:=(eY l).ex _ a;exact⟨v,F,L,q⟩
 ·by_cases m:eF o=true
  ·rw[bR m] at a;obtain⟨F',L',v,r,_,j⟩:=AJ c a.1;exact⟨v,F',L',a.2 F' L' v r j⟩
  ·cases o<;>first | (exfalso;revert l m n;simp[okD,Ig,cR,gY,eF,pK,iP];done) | skip
   case callD f args =>
    simp only[evalOp] at a;obtain⟨F',L',v,_,_,_,h⟩:=a.some c;exact⟨_,F',L',h⟩
   case callVD f args =>
    simp only[evalOp] at a;split at a
    ·obtain⟨F',L',v,_,_,_,h⟩:=a.some c;exact⟨_,F',L',h⟩
    ·exact a.elim
   case appD e sz b zs s z =>
    simp only[evalOp] at a;split at a
    ·obtain⟨kd,v,p,u,_,_,h⟩:=a.some c;exact⟨_,F,_,h⟩
    ·exact a.elim
   all_goals
    obtain⟨p,a',y,k,off,g,ty,cs,t,e1,x,e3,w,e5,a⟩:=iQ rfl a;exact⟨_,F,_,a⟩
def iD:dX:=.mov (.c undef)
def res (g:Option (Nat×Bool)) (ρ:Env) (o:dX):Option dX :=
 match g with
 | none=>some o
 | some (s,a)=>match ρ s with
  | .v (.bool b)=>some (if b=a then o else iD)
  | .v (.tuple _)=>some iD
  | _=>none
theorem fE {d:Option Nat}{o:dX}{g:Option (Nat×Bool)}{c:List ak} :
  aT P (.op d o g::c) F L ρ K↔∃o',res g ρ o=some o'/\evalOp P o' d F L ρ (fun F1 L1 h=>aT P c F1 L1 h K):=by
 cases g with
 | none=>simp only[aT,res,xo,exists_eq_left']
 | some p =>
  obtain⟨s,f⟩:=p;simp only[aT,res];cases e:ρ s with
  | own k off=>simp
  | el a j=>simp
  | v u =>
   cases u<;>simp only[xo,exists_eq_left',reduceCtorEq,false_and,exists_false]
   case bool b =>
    cases b<;>cases f<;>simp[zP,kR e,iD,evalOp,aL,ev]
   case tuple vs=>rfl
def looks (o:dX) (g:Option (Nat×Bool)):List Nat :=
 match g with
 | none=>ct (bE o)
 | some (s,_)=>s::ct (bE o)
def sA (d:Option Nat) (l:List Nat):Bool :=
 match d with
 | none=>true
 | some k=>match fC l k with | true=>false | false=>true
def Dy:Option Nat->Option Nat->Bool
 | some a,some b=>match Nat.beq a b with | true=>false | false=>true
 | _,_=>true
def mh:ak->ak->Bool
 | .op b x d,.op a y c=>okD x&&okD y&&xO x y&&sA b (looks y c)&&sA a (looks x d)&&Dy b a
 | _,_=>false
theorem kC {d:Option Nat}{l:List Nat}(h:sA d l=true):∀k,d=some k->k∉l:=by
 rintro k rfl a;simp only[sA,cQ.2 a] at h;cases h
theorem nO {d a:Option Nat}(h:Dy d a=true):∀k,d=some k->a≠some k:=by
 rintro k rfl e;subst e;simp[Dy] at h
theorem oO {g:Option (Nat×Bool)}{o:dX}{d:Option Nat}{v:SV}(h:∀k,d=some k->k∉looks o g):res g (put d v ρ) o=res g ρ o:=by
 cases g with
 | none=>rfl
 | some p =>
  obtain⟨s,a⟩:=p;have:put d v ρ s=ρ s:=by
   rw[put_eq];cases d with
   | none=>rfl
   | some k =>
    simp only[];rw[fo];intro e;exact h k rfl (by simp[looks,e])
  simp only[res,this]
theorem dA {g:Option (Nat×Bool)}{o o':dX}(h:res g ρ o=some o'):o'=o\/o'=iD:=by
 cases g with
 | none=>simp only[res,xo] at h;exact .inl h.symm
 | some p =>
  obtain⟨s,a⟩:=p;simp only[res] at h;split at h
  ·injection h with h
   split at h
   ·exact .inl h.symm
   ·exact .inr h.symm
  ·injection h with h;exact .inr h.symm
  ·cases h
theorem nP {o:dX}{g:Option (Nat×Bool)}{k:Nat}(h:k∈ct (bE o)):k∈looks o g:=by
 cases g with
 | none=>exact h
 | some p=>exact abg _ h
theorem J7 {x y:ak}{b:List ak}(w:mh x y=true) (hr:Real F L) (t:Vd L ρ) (h:aT P (x::y::b) F L ρ K):aT P (y::x::b) F L ρ K:=by
 cases x with
 | frz k=>exact fL w (by cases y<;>exact aa7)
 | pc d o g=>exact fL w (by cases y<;>exact aa7)
 | op dx x gx =>
  cases y with
  | frz k=>exact fL w aa7
  | pc d o g=>exact fL w aa7
  | op dy y gy =>
   simp only[mh,v5] at w;obtain⟨⟨⟨⟨⟨al,c⟩,hc⟩,h1⟩,h2⟩,z⟩:=w;have h1:=kC h1;have h2:=kC h2;have z:=nO z;have ao:∀k,dy=some k->dx≠some k:=fun k e e'=>z k e' e;rw[fE] at h;obtain⟨x',s,h⟩:=h;have j:okD iD=true:=rfl;have q:okD x'=true:=by rcases dA s with rfl | rfl;exact al;exact j
   -- y's guard
   have hy:∃n,res gy ρ y=some n:=by
    obtain⟨v,F1,L1,f⟩:=vP q hr h;rw[fE] at f;obtain⟨n,a,_⟩:=f;rw[oO h1] at a;exact⟨n,a⟩
   obtain⟨n,a⟩:=hy;have ab:okD n=true:=by rcases dA a with rfl | rfl;exact c;exact j
   have hA:evalOp P x' dx F L ρ (fun F1 L1 m=>evalOp P n dy F1 L1 m (fun F2 L2 p=>aT P b F2 L2 p K)):=by
    refine jP q hr t h ?_;rintro F1 L1 m ⟨v,rfl⟩ _ _ _ f;rw[fE] at f;obtain⟨az,l,f⟩:=f;rw[oO h1,a] at l;injection l with l
    subst l;exact f
   have lx:∀k,dy=some k->k∉ct (bE x'):=by
    intro k e f;rcases dA s with rfl | rfl
    ·exact h2 k e (nP f)
    ·simp[iD,bE,ct] at f
   have ly:∀k,dx=some k->k∉ct (bE n):=by
    intro k e f;rcases dA a with rfl | rfl
    ·exact h1 k e (nP f)
    ·simp[iD,bE,ct] at f
   have hB:evalOp P n dy F L ρ (fun F1 L1 m=>evalOp P x' dx F1 L1 m (fun F2 L2 p=>aT P b F2 L2 p K)):=by
    by_cases r:n=iD
    ·subst r;simp only[iD,evalOp,aL,ev];exact xN (K:=fun F2 L2 p=>aT P b F2 L2 p K) (u:=.v undef) q lx z hA
    ·have ey:n=y:=by rcases dA a with h | h;exact h;exact fL h r
     subst ey;refine J6 hr ?_ ly lx z t hA;rcases dA s with rfl | rfl
     ·exact hc
     ·simp only[okD,abn] at c;rcases c with c | c
      ·simp only[xO,c,ab3,abn];exact .inl (.inl (.inl (.inl (.inl (by rfl)))))
      ·simp only[xO,c,ab3,abn];exact .inl (.inr rfl)
   rw[fE];refine⟨n,a,jP ab hr t hB ?_⟩;rintro F1 L1 m ⟨v,rfl⟩ _ _ _ f;rw[fE];exact⟨x',by rw[oO h2];exact s,f⟩
theorem AK {y:ak}{s:List ak}:∀(p:List ak),(∀x∈p,mh x y=true)->∀{F:aA}{L:Loc}{ρ:Env},Real F L->Vd L ρ->aT P (p++y::s) F L ρ K->aT P (y::(p++s)) F L ρ K
 | [],_,F,L,ρ,_,_,h=>h
 | .frz k::p,b,F,L,ρ,_,_,h=>by
  have:=b (.frz k) (by simp);exact fL this (by cases y<;>exact aa7)
 | .pc d o g::p,b,F,L,ρ,_,_,h=>by
  have:=b (.pc d o g) (by simp);exact fL this (by cases y<;>exact aa7)
 | .op q x t::p,b,F,L,ρ,r,e,h=>by
  have a:=b (.op q x t) (by simp);have w:aT P (.op q x t::y::(p++s)) F L ρ K:=by
   rw[aa1,fE] at h;obtain⟨n,j,h⟩:=h;have m:okD x=true:=by
    cases y with
    | frz k=>exact fL a aa7
    | pc d o g=>exact fL a aa7
    | op dy y gy=>simp only[mh,v5] at a;exact a.1.1.1.1.1
   have f:okD n=true:=by rcases dA j with rfl | rfl;exact m;rfl
   rw[fE];refine⟨n,j,jP f r e h ?_⟩;intro F1 L1 u _ _ l c v;exact AK p (fun z hz=>b z (by simp[hz])) l c v
  exact J7 a r e w
end
def VZ (A:cW):Op->Bool
 | .store _ (.tmp i) _=>fC A.co (1000000+i)
 | .mapUpdate _ (.tmp i) _ _=>fC A.co (1000000+i)
 | _=>false
def BZ (P:Program) (A:cW) (a:Array Oper) (i:Nat):Option ak :=
 match a[i]? with
 | none=>none
 | some o=>match iB a o.guard,iz P (A.owned o.dst) o.op,Qy A.n o.dst with
  | some g,some s,true=>match A.isX o.dst with
   | true=>match g,s with
    | none,.call f l=>some (.pc o.dst (.call f l) none)
    | none,.callV f l=>some (.pc o.dst (.callV f l) none)
    | _,_=>none
   | false=>match A.isO o.dst||VZ A o.op with
    | true=>match xJ s with
     | some s'=>some (.op o.dst s' g)
     | none=>none
    | false=>match uS A.fl A.bk A.bx s with
     | some s'=>match cR s'||gY s'||eF s'||pK s'||iP s' with
      | true=>some (.op o.dst s' g)
      | false=>none
     | none=>none
  | _,_,_=>none
def eO (P:Program) (A:cW) (ops:Array Oper):List Nat->Option (List ak)
 | []=>some []
 | i::is=>match BZ P A ops i,eO P A ops is with
  | some s,some ss=>some (s::ss)
  | _,_=>none
def binding (e:Edge):Bool:=Region.binds .any e
def direct (ops:Array Oper) (i:Nat):List Nat :=
 match ops[i]? with
 | some o=>(o.after.toList.filter binding).map (·.on)
 | none=>[]
def B0:List (List Nat)->Nat->List Nat
 | [],_=>[]
 | l::_,0=>l
 | _::a,n+1=>B0 a n
def B6 (a:List (List Nat)) (x:Nat):List Nat->Bool
 | []=>false
 | z::zs=>match fC (B0 a z) x with | true=>true | false=>B6 a x zs
def Ca (ops:Array Oper) (a:List (List Nat)) (y:Nat):Bool :=
 (direct ops y).all (fun z=>Nat.blt z y)&&(B0 a y).all (fun x=>fC (direct ops y) x||B6 a x (direct ops y))
def J8 (ops:Array Oper) (a:List (List Nat)):Bool:=(List.range ops.size).all (Ca ops a)
def oP (a:List (List Nat)):List (Nat×ak)->Bool
 | []=>true
 | (x,b)::l=>l.all (fun p=>mh b p.2||fC (B0 a p.1) x)&&oP a l
def aS:List Nat->Bool
 | []=>true
 | x::l=>!fC l x&&aS l
def Fb (P:Program) (ops:Array Oper) (is:List Nat) (a:List (List Nat)) (ss:List ak):Bool :=
 P.follows .mixedOrders&&J8 ops a&&aS is&&Nat.beq is.length ops.size&&is.all (fun i=>Nat.blt i ops.size)&&(List.range ops.size).all (fC is)&&oP a (is.zip ss)
theorem cT:∀{l:List Nat},aS l=true->l.Nodup
 | [],_=>List.nodup_nil
 | x::l,h=>by
  simp only[aS,v5,Bool.not_eq_true'] at h;refine List.nodup_cons.2 ⟨fun a=>?_,cT h.2⟩;rw[cQ.2 a] at h;cases h.1
theorem AL {a:List (List Nat)}{x:Nat}:∀{l:List Nat},B6 a x l=true->∃z,z∈l/\x∈B0 a z
 | [],h=>by cases h
 | z::zs,h=>by
  simp only[B6] at h;split at h
  ·rename_i d;exact⟨z,by simp,cQ.1 d⟩
  ·obtain⟨b,h1,c⟩:=AL h;exact⟨b,by simp[h1],c⟩
section
variable {P:Program}{K:dG}{Q:Exit->Act->World->Prop}{ops:Array Oper}
theorem vQ {k:List (List Nat)}(e:J8 ops k=true) {done:Nat->Prop}(a:∀i,i<ops.size->done i->∀z∈direct ops i,done z):∀y,y<ops.size->(∀z∈direct ops y,done z)->∀x∈B0 k y,done x:=by
 intro y
 induction y using Nat.strongRecOn with
 | _ y o =>
  intro m f x n;have h:=aaY.1 e y (List.mem_range.2 m);simp only[Ca,v5] at h;have b:=aaY.1 h.2 x n;simp only[abn] at b;rcases b with b | b
  ·exact f x (cQ.1 b)
  ·obtain⟨z,j,c⟩:=AL b;have d:z<y:=by
    have l:Nat.blt z y=true:=aaY.1 h.1 z j;simpa using l
   exact o z d (by omega) (a z (by omega) (f z j)) x c
theorem qk {A:cW}:∀{is:List Nat}{ss:List ak},eO P A ops is=some ss->ss.length=is.length/\∀p q y,is=p++y::q->∃a b c,ss=a++b::c/\a.length=p.length/\BZ P A ops y=some b/\eO P A ops (p++q)=some (a++c)
 | [],ss,h=>by
  simp only[eO,xo] at h;subst h;refine⟨rfl,fun p q y e=>?_⟩;cases p<;>cases e
 | i::is,ss,h=>by
  simp only[eO] at h;split at h
  case h_2=>cases h
  rename_i s d h1 f;injection h with h
  subst h;obtain⟨m,k⟩:=qk f;refine⟨by simp[m],fun p q y e=>?_⟩;cases p with
  | nil =>
   simp only[abp,List.cons.injEq] at e;obtain⟨rfl,rfl⟩:=e;exact⟨[],s,d,rfl,rfl,h1,by simpa using f⟩
  | cons x p =>
   simp only[aa1,List.cons.injEq] at e;obtain⟨rfl,rfl⟩:=e;obtain⟨a,b,c,o,j,n,l⟩:=k p q y rfl;refine⟨s::a,b,c,by simp[o],by simp[j],n,?_⟩;simp only[aa1,eO,h1,l]
theorem vR {d:List (List Nat)}:∀{p q:List (Nat×ak)}{y:Nat×ak},oP d (p++y::q)=true->oP d (p++q)=true/\∀x∈p,mh x.2 y.2=true\/x.1∈B0 d y.1
 | [],q,y,h=>by
  obtain⟨y1,y2⟩:=y;simp only[abp,oP,v5] at h ⊢;exact⟨h.2,fun x c=>by cases c⟩
 | (l,k)::p,q,y,h=>by
  simp only[aa1,oP,v5] at h ⊢;obtain⟨h1,j⟩:=h;obtain⟨f,e⟩:=vR j;have a:=aaY.1 h1;refine⟨⟨aaY.2 fun z b=>a z ?_,f⟩,fun x c=>?_⟩
  ·rcases aaU.1 b with b | b
   ·exact aaU.2 (.inl b)
   ·exact aaU.2 (.inr (abg _ b))
  ·rcases aaT.1 c with rfl | c
   ·have:=a y (aaU.2 (.inr (by simp)));simp only[abn] at this;rcases this with h | h
    ·exact .inl h
    ·exact .inr (cQ.1 h)
   ·exact e x c
theorem aD.same {L L2:Loc}{ρ:Env}{a:Act}(h:aD L ρ a) (b:L.sameAs L2):aD L2 ρ a:=by
 have c:∀sv,conc L2 sv=conc L sv:=by
  intro sv;cases sv with
  | v x=>rfl
  | el a j=>rfl
  | own k off=>simp only[conc,b k]
 exact⟨fun j=>by rw[c];exact h.eq j,fun j k off e=>by rw[b k];exact h.own j k off e,h.el⟩
theorem Step.aaG {F F':aA}{L L' L2:Loc}{w w':World}(h:Step F L w F' L' w') (a:L'.sameAs L2):Step F L w F' L2 w' :=
 ⟨h.le,h.os,h.tape,h.output,h.size,h.same,h.frz,fun b ⟨k,o,e,hb⟩=>h.own b ⟨k,o,by rw[<-a k];exact e,hb⟩⟩
theorem Dz {A:cW}{i:Nat}{s:ak}{m:List ak}{F:aA}{L:Loc}{ρ:Env}{a:Act}{w:World}{KK:Act->World->Prop}(hi:i<ops.size) (c:BZ P A ops i=some s) (hs:St F L w) (he:aD L ρ a) (hn:a.tmps.size=A.n)
  (l:aT P (s::m) F L ρ K)
  (hQ:∀a' w' F' L' ρ',St F' L' w'->aD L' ρ' a'->a'.tmps.size=A.n->a'.defers=a.defers->Step F L w F' L' w'->(∀j,((ops[i]?).bind (·.dst))≠some j->a'.tmps.getD j undef=a.tmps.getD j undef)->aT P m F' L' ρ' K->KK a' w') :
  wpOp P ops Q i KK a w:=by
 unfold BZ at c;split at c
 case h_1=>cases c
 rename_i o ae;split at c
 case h_2=>cases c
 rename_i g s0 y ac aa;split at c
 ·split at c
  ·injection c with c
   subst c;simp only[aT] at l
  ·injection c with c
   subst c;simp only[aT] at l
  ·cases c
 have ba:∃s',s=.op o.dst s' g/\((∀{F:aA}{L:Loc}{ρ:Env}{K:dG},evalOp P s' o.dst F L ρ K->evalOp P s0 o.dst F L ρ (fun F' L' ρ'=>Real F' L'->K F' L' ρ')) \/
   ∀{F:aA}{L:Loc}{ρ:Env}{K:dG},evalOp P s' o.dst F L ρ K->evalOp P s0 o.dst F L ρ (fun F' L' ρ'=>∃L2,L'.sameAs L2/\(Real F' L2->K F' L2 ρ'))):=by
  split at c
  ·split at c
   case h_2=>cases c
   rename_i s' z;injection c with c
   exact⟨s',c.symm,.inl fun h=>Np z h⟩
  ·split at c
   case h_2=>cases c
   rename_i s' z;split at c
   case h_2=>cases c
   rename_i al;injection c with c
   cases ad:gY s' with
   | true=>exact⟨s',c.symm,.inr fun h=>J4 z ad h⟩
   | false=>exact⟨s',c.symm,.inl fun h=>Nu z al ad h⟩
 obtain⟨s',az,t⟩:=ba;subst az;have hd:∀k,o.dst=some k->k<a.tmps.size:=by
  intro k hk;rw[hk] at aa;rw[hn];have h2:Nat.blt k A.n=true:=aa;simpa using h2
 have bd:(ops[i]?).bind (·.dst)=o.dst:=by rw[ae];rfl
 rw[bd] at hQ;simp only[wpOp,ae];have r:evalOp P s' o.dst F L ρ (fun F' L' ρ'=>aT P m F' L' ρ' K)->o.wp P a w KK Q:=by
  intro l;rcases t with t | t
  ·have h1:=t l;have:=fD (Q:=Q) hs he hd ac h1;refine Oper.wp_mono ?_ (qi (asg:=[]) this);rintro a' w' ⟨⟨F',L',ρ',g1,g2,g3,g4,g5,g6⟩,ab⟩;exact hQ a' w' F' L' ρ' g1 g2 (by rw[g3,hn]) g4 g5 ab (g6 ⟨w',g1⟩)
  ·have h1:=t l;have:=fD (Q:=Q) hs he hd ac h1;refine Oper.wp_mono ?_ (qi (asg:=[]) this);rintro a' w' ⟨⟨F',L',ρ',g1,g2,g3,g4,g5,L2,g6,g7⟩,ab⟩;have s1:St F' L2 w':=g1.part fun k o e=>by rw[<-g6 k];exact e
   exact hQ a' w' F' L2 ρ' s1 (g2.same g6) (by rw[g3,hn]) g4 (g5.aaG g6) ab (g7 ⟨w',s1⟩)
 have skip:aT P m F L (put o.dst (.v undef) ρ) K->KK (a.put o.dst undef) w:=by
  intro l;exact hQ _ w F L _ hs (he.put hd (v:=undef) (x:=.v undef) rfl cC eV (tC L)) (by rw[jK,hn]) (gJ _ _ _) (Step.refl _ _ _) (fun j hj=>kz hj) l
 cases u:o.guard with
 | none =>
  rw[u] at y;simp only[iB,xo] at y;subst y;simp only[aT] at l;rw[eu (by simp[Region.wanted,u])];exact .inl (r l)
 | some p =>
  obtain⟨j,q⟩:=p;rw[u] at y;simp only[iB] at y;split at y
  case h_2=>cases y
  rename_i d am;injection y with y
  subst y;simp only[aT] at l;split at l
  ·rename_i b hb;have f:=he.eq d;rw[hb] at f;have hy:yielded ops a.tmps j=some b:=by
    simp only[yielded,am,Option.bind_some,qX f]
   have hw:Region.wanted o (yielded ops a.tmps)=(b == q):=by
    simp only[Region.wanted,u,hy];cases b<;>cases q<;>rfl
   rw[hw];cases b<;>simp only[zP] at l
   ·rw[kR hb] at l;cases q
    ·exact .inl (r l)
    ·exact skip l
   ·rw[kR hb] at l;cases q
    ·exact skip l
    ·exact .inl (r l)
  ·rename_i vs hb;have f:=he.eq d;rw[hb] at f;have hy:yielded ops a.tmps j=none:=by
    simp only[yielded,am,Option.bind_some];rw[aa6] at f;cases e:a.tmps[d]? with
    | none=>rfl
    | some v=>rw[e] at f;simp only[Option.getD_some,conc] at f;rw[f]
   have hw:Region.wanted o (yielded ops a.tmps)=false:=by
    simp only[Region.wanted,u,hy];rfl
   rw[hw];exact skip l
  ·exact l.elim
theorem aD.vd {L:Loc}{ρ:Env}{a:Act}(he:aD L ρ a):Vd L ρ:=by
 intro t k off e;exact he.own t k off e
theorem tH {l:Array Bool}{z:Nat}(h:z<l.size) (b c:Bool):l.getD z b=l.getD z c:=by
 simp[aa6,h]
theorem min_mem:∀{l:List Nat},l≠[]->∃y,y∈l/\∀z∈l,y<=z
 | [],h=>fL rfl h
 | [x],_=>⟨x,by simp,fun z a=>by simp at a;omega⟩
 | x::c::l,_=>by
  obtain⟨y,h1,b⟩:=min_mem (l:=c::l) (by simp)
  by_cases h:x<=y
  ·exact⟨x,by simp,fun z a=>by
    rcases aaT.1 a with rfl | a
    ·exact aa0 _
    ·exact abv h (b z a)⟩
  ·exact⟨y,abg _ h1,fun z a=>by
    rcases aaT.1 a with rfl | a
    ·omega
    ·exact b z a⟩
theorem oQ {i z:Nat}{o:Oper}(c:ops[i]?=some o):z∈direct ops i↔∃e∈o.after,Region.binds .any e=true/\e.on=z:=by
 simp only[direct,c,abq,List.mem_filter,Array.mem_toList_iff,binding];constructor
 ·rintro⟨e,⟨h1,b⟩,a⟩;exact⟨e,h1,b,a⟩
 ·rintro⟨e,h1,b,a⟩;exact⟨e,⟨h1,b⟩,a⟩
theorem Ii {A:cW}{cl:List (List Nat)}(ba:J8 ops cl=true):∀(m:Nat) (l:List Nat) (ss:List ak) (b:Array Bool) (F:aA) (L:Loc) (ρ:Env) (a:Act) (w:World),
  eO P A ops l=some ss->b.size=ops.size->l.Nodup->(∀i,i∈l↔i<ops.size/\b.getD i true=false)->l.length<=m->oP cl (l.zip ss)=true ->
  (∀i,i<ops.size->b.getD i true=true->∀z∈direct ops i,b.getD z true=true) ->
  St F L w->aD L ρ a->a.tmps.size=A.n->aT P ss F L ρ K ->
  (∀a' w',eJ A.n F L w a (dstsOf ops (List.range ops.size)) K a' w'->Q .normal a' w')->wpAny P .any ops Q m b a w:=by
 have r:∀y z,y<ops.size->z∈direct ops y->z<y:=by
  intro y z hy u;have h:=aaY.1 ba y (List.mem_range.2 hy);simp only[Ca,v5] at h;have h3:Nat.blt z y=true:=aaY.1 h.1 z u;simpa using h3
 intro m
 induction m with
 | zero =>
  intro l ss b F L ρ a w hl an aE d ac hp c hs he hn hK hQ;have:l=[]:=abu (by omega);subst this;simp only[eO,xo] at hl;subst hl;refine⟨?_,hQ a w ⟨F,L,ρ,hs,he,hn,rfl,Step.refl _ _ _,fun _ _=>rfl,hK⟩⟩;apply List.eq_nil_iff_forall_not_mem.2;intro i hi;rw[mem_ready] at hi;obtain⟨h1,o,h2,_⟩:=hi;have:=(d i).2 ⟨(Array.getElem?_eq_some_iff.1 h2).1,h1⟩;cases this
 | succ m ih =>
  intro l ss b F L ρ a w hl an aE d ac hp c hs he hn hK hQ;refine⟨fun hr=>?_,fun y hy=>?_⟩
  ·have:l=[]:=by
    refine Classical.byContradiction fun s=>?_;obtain⟨y,h1,h2⟩:=min_mem s;obtain⟨h3,h4⟩:=(d y).1 h1;have ad:y∈Region.ready .any ops b:=by
     rw[mem_ready];refine⟨h4,ops[y],Array.getElem?_eq_getElem h3,fun e ao al=>?_⟩;have u:e.on∈direct ops y:=(oQ (Array.getElem?_eq_getElem h3)).2 ⟨e,ao,al,rfl⟩;have ca:=r y e.on h3 u;rw[tH (by omega) false true];cases v:b.getD e.on true with
     | true=>rfl
     | false =>
      have:=h2 e.on ((d e.on).2 ⟨by omega,v⟩);omega
    rw[hr] at ad;cases ad
   subst this;simp only[eO,xo] at hl;subst hl;exact hQ a w ⟨F,L,ρ,hs,he,hn,rfl,Step.refl _ _ _,fun _ _=>rfl,hK⟩
  ·rw[mem_ready] at hy;obtain⟨h1,o,ho,av⟩:=hy;have f:=(Array.getElem?_eq_some_iff.1 ho).1;have ar:=(d y).2 ⟨f,h1⟩;obtain⟨p,q,rfl⟩:=List.append_of_mem ar;obtain⟨dj,be⟩:=qk hl;obtain⟨sp,sy,sq,rfl,ae,bz,ch⟩:=be p q y rfl;have bc:(p++y::q).zip (sp++sy::sq)=p.zip sp++(y,sy)::q.zip sq:=by
    rw[List.zip_append ae.symm];rfl
   rw[bc] at hp;obtain⟨bu,bt⟩:=vR hp;have aa:∀z∈direct ops y,b.getD z true=true:=by
    intro z u;have ca:=r y z f u;obtain⟨e,ao,al,rfl⟩:=(oQ ho).1 u;rw[tH (by omega) true false];exact av e ao al
   have t:∀sx∈sp,mh sx sy=true:=by
    intro sx cc;obtain⟨k,hk⟩:=List.getElem?_of_mem cc;have cz:=(aaR.1 hk).1;have bi:p[k]?=some (p[k]'(by omega)):=aaO (by omega);have hm:(p[k]'(by omega),sx)∈p.zip sp:=aaW (i:=k) (by rw[List.getElem?_zip_eq_some];exact⟨bi,hk⟩);rcases bt _ hm with h | h
    ·exact h
    ·exfalso;have v:=vQ ba (done:=fun z=>b.getD z true=true) c y f aa _ h;have bp:p[k]'(by omega)∈p++y::q:=aaU.2 (.inl (aaW bi));have:=((d _).1 bp).2;simp only at v;rw[v] at this;cases this
   have ce:=AK sp t ⟨w,hs⟩ he.vd hK;refine Dz f bz hs he hn ce ?_;intro a' w' F' L' ρ' g1 g2 g3 g4 g5 g6 g7;have ab:(p++q).Nodup/\y∉p++q:=by
    have:=(List.perm_middle.nodup_iff).1 aE;rw[List.nodup_cons] at this;exact⟨this.2,this.1⟩
   have ag:∀i,(b.setIfInBounds y true).getD i true=if i=y then true else b.getD i true:=by
    intro i;simp only[aa6,Array.getElem?_setIfInBounds]
    by_cases hi:y=i
    ·subst hi;rw[eu rfl,eu rfl];simp[an,f]
    ·rw[fo hi,fo (fun h=>hi h.symm)]
   refine ih (p++q) (sp++sq) _ F' L' ρ' a' w' ch (by simp[an]) ab.1 (fun i=>?_) (by simp at ac ⊢;omega) ?_ ?_ g1 g2 g3 g7 ?_
   ·rw[ag];have h0:=d i;constructor
    ·intro hi;have s:i≠y:=fun e=>ab.2 (e▸hi);rw[fo s];refine h0.1 ?_;rcases aaU.1 hi with h | h
     ·exact aaU.2 (.inl h)
     ·exact aaU.2 (.inr (abg _ h))
    ·rintro⟨bv,am⟩;split at am
     ·cases am
     ·rename_i s;have:=h0.2 ⟨bv,am⟩;rcases aaU.1 this with h | h
      ·exact aaU.2 (.inl h)
      ·rcases aaT.1 h with h | h
       ·exact fL h s
       ·exact aaU.2 (.inr h)
   ·rw[List.zip_append ae.symm];exact bu
   ·intro i hi v z u;rw[ag] at v ⊢;split
    ·rfl
    ·split at v
     ·rename_i h;subst h;exact aa z u
     ·exact c i hi v z u
   ·rintro cd bs ⟨F'',L'',bd,k1,k2,k3,k4,k5,k6,k7⟩;refine hQ cd bs ⟨F'',L'',bd,k1,k2,k3,k4.trans g4,g5.trans k5,fun j hj=>?_,k7⟩;rw[k6 j hj,g6 j];intro e;apply hj;have:∀(is:List Nat),y∈is->j∈dstsOf ops is:=by
     intro is
     induction is with
     | nil=>intro h;cases h
     | cons x is az =>
      intro h;simp only[dstsOf];rcases aaT.1 h with rfl | h
      ·rw[e];simp
      ·split
       ·exact abg _ (az h)
       ·exact az h
    exact this _ (List.mem_range.2 f)
theorem xP {A:cW}{r:Nat}{is:List Nat}{v:List (List Nat)}{ss:List ak}{F:aA}{L:Loc}{ρ:Env}{a:Act}{w:World}(k:eO P A ops is=some ss) (j:Fb P ops is v ss=true)
  (o:St F L w) (he:aD L ρ a) (hn:a.tmps.size=A.n) (p:aT P ss F L ρ K) (z:∀a' w',eJ A.n F L w a (dstsOf ops (List.range ops.size)) K a' w'->Q .normal a' w') :
  (Code.region r ops true).wp P Q a w:=by
 simp only[Fb,v5] at j;obtain⟨⟨⟨⟨⟨⟨h1,y⟩,d⟩,f⟩,h5⟩,m⟩,x⟩:=j;have d:=cT d;have f:=aaQ f;have c:∀i∈is,i<ops.size:=fun i hi=>by
  have h:Nat.blt i ops.size=true:=aaY.1 h5 i hi;simpa using h
 refine wp_region_any h1 ?_;show wpAny P .any ops Q ops.size (Array.replicate ops.size false) a w.drew;refine Ii y ops.size is ss _ F L ρ a w.drew k (by simp) d (fun i=>?_) (by omega) x ?_ o.drew he hn p ?_
 ·constructor
  ·intro hi;refine⟨c i hi,?_⟩;simp[aa6,c i hi]
  ·rintro⟨hi,_⟩;exact cQ.1 (aaY.1 m i (List.mem_range.2 hi))
 ·intro i hi e;simp[aa6,hi] at e
 ·rintro a' w' ⟨F',L',ρ',u,g2,q,t,b,s,l⟩;refine z a' w' ⟨F',L',ρ',u,g2,q,t,?_,s,l⟩;exact⟨b.le,b.os,b.tape,b.output,b.size,b.same,b.frz,b.own⟩
end
def kL (L L':Loc):Prop:=∀k g t cs,L.get k=some (.box g t cs)->∃cs',L'.get k=some (.box g t cs')
def xQ (ks:List Nat) (L L':Loc):Prop:=∀k g t cs,L.get k=some (.box g t cs)->∃cs',L'.get k=some (.box g t cs')/\(k∉ks->cs'=cs)
structure fW (P:Program) (PX:aA->Loc->Value->Prop) (f:Nat) (args:List Value) (F:aA) (L:Loc) (K:aA->Loc->Value->Prop):Prop where
 out:∃(ks ko:List Nat) (Lin:List Own) (R:aA->List Own->Value->Prop) (Pp:aA->List Own->Value->Prop),L.sub ks=some Lin/\ks.Nodup/\ko.Nodup/\(∀k,k∈ko->k∈ks\/L.get k=none)/\wM P f args.toArray F Lin R Pp /\
  (∀v F' Lo,F.le F'->ks.length=Lo.length->xQ ks L ((L.aae ks).puts ks Lo)->Pp F' Lo v->PX F' ((L.aae ks).puts ks Lo) v) /\
  ∀v F' Lo,F.le F'->R F' Lo v->ko.length=Lo.length /\
   (∀k g t cs,k∈ks->L.get k=some (.box g t cs)->∃cs',Loc.get ((L.aae ks).puts ko Lo) k=some (.box g t cs')) /\
   K F' ((L.aae ks).puts ko Lo) v
section
variable {P:Program}{F:aA}{L:Loc}{ρ:Env}{a:Act}{w:World}{K:dG}{o:Oper}{Q:Exit->Act->World->Prop}
theorem fW.imp {PX:aA->Loc->Value->Prop}{f:Nat}{args:List Value}{K K':aA->Loc->Value->Prop}(h:fW P PX f args F L K) (k:∀F' L' v,K F' L' v->K' F' L' v):fW P PX f args F L K':=by
 obtain⟨ks,ko,l,R,Pp,h1,p,j,d,q,n,e⟩:=h;exact⟨ks,ko,l,R,Pp,h1,p,j,d,q,n,fun v F' Lo hF m=>let⟨a,b,c⟩:=e v F' Lo hF m;⟨a,b,k _ _ _ c⟩⟩
theorem DA {PX:aA->Loc->Value->Prop}{f:Nat}{args:List Value}(hs:St F L w) (he:aD L ρ a) (hd:∀k,o.dst=some k->k<a.tmps.size)
  (hrun:(∃fn,P.funcs[f]?=some fn/\fn.body.isSome=true/\(fn.name == "runtime.NumGoroutine")=false)->(execOp a.eval o).run P w=.ok (.enter f args.toArray) w)
  (hK:fW P PX f args F L fun F' L' v=>K F' L' (put o.dst (.v v) ρ))
  (hQ:∀v ch w' F' L',rY v ch->St F' L' w'->Step F L w F' L' w'->PX F' L' v->Q (.panic ch) a w'):o.wp P a w (bG F L w a K) Q:=by
 obtain⟨ks,ko,l,R,Pp,hsub,hn,hno,hko,hc,hPX,hK⟩:=hK;unfold Oper.wp;rw[hrun hc.ent];rw[Oper.upon_enter];refine(hc.run w (hs.handed hsub hn)).mono ?_;rintro e w' (⟨v,F',lo,rfl,hs',hst,hR⟩ | ⟨v,ch,F',lo,rfl,hch,hs',hst,hlo,hbx,hp⟩)
 ·obtain⟨hlen,hbox,hK⟩:=hK v F' lo hst.le hR;obtain⟨h1,h2⟩:=gh hs hsub hn hno hko hs' hst hlen;refine⟨F',_,_,h1,he.put hd (x:=.v v) rfl cC eV ?_,jK _ _ _,gJ _ _ _,h2,hK⟩;intro k g ty cs e
  by_cases hk:k∈ks
  ·exact hbox k g ty cs hk e
  ·rcases cU ko lo (L.aae ks) k hno hlen with⟨h1,h2⟩ | ⟨i,h1,h2,h3⟩
   ·rw[h1,eX,fo hk];exact⟨cs,e⟩
   ·rcases hko k (aaW h1) with h | h
    ·exact fL h hk
    ·rw[h] at e;cases e
 ·obtain⟨hl,hg⟩:=cE hsub;have hlen:ks.length=lo.length:=by rw[hlo,hl]
  obtain⟨h1,h2⟩:=gh hs hsub hn hn (fun k hk=>.inl hk) hs' hst hlen;refine hQ v ch w' F' _ hch h1 h2 (hPX v _ _ hst.le hlen ?_ hp);intro k g t cs e;rcases cU ks lo (L.aae ks) k hn hlen with⟨q1,q2⟩ | ⟨i,q1,q2,q3⟩
  ·rw[q1,eX,fo q2];exact⟨cs,e,fun _=>rfl⟩
  ·rw[q2];have:=hg i k q1;rw[e] at this;obtain⟨cs',h⟩:=hbx i g t cs this.symm;exact⟨cs',h,fun h=>fL (aaW q1) h⟩
end
section
variable {P:Program}
theorem nQ {y:Operand}{s:dX}(h:Ap y=some s):∃g,s=.gload g:=by
 cases y with
 | global g =>
  simp only[Ap] at h;split at h
  ·injection h with h;exact⟨_,h.symm⟩
  ·cases h
 | tmp n=>cases h
 | const v=>cases h
 | func f=>cases h
theorem J9 {own:Bool}{op:Op}{f:Nat}{args:List X}(b:iz P own op=some (.call f args)):∃c,op=.call c/\c.callee=.value (.func f)/\gG c.args.toList=some args:=by
 cases op
 case call c =>
  simp only[iz] at b;split at b
  case h_1=>cases b
  rename_i e d;split at b
  ·rename_i f' j;split at b
   case h_2=>cases b
   split at b
   case h_2=>cases b
   injection b with b
   injection b with e1 e2
   subst e1 e2;exact⟨c,rfl,j,d⟩
  all_goals (exfalso;revert b;repeat' split)<;>simp
 all_goals (exfalso;revert b;simp only[iz];repeat' split)<;>first | contradiction | (intro h;obtain⟨k,h⟩:=nQ h;cases h;done) | (simp;done) | (rename_i h0;obtain⟨k,rfl⟩:=nQ h0;simp)
theorem Ij {own:Bool}{op:Op}{x:X}{args:List X}(b:iz P own op=some (.callV x args)):∃c,op=.call c/\gG c.args.toList=some args/\((∃y,c.callee=.value y/\bO y=some x)\/∃n j,x=.mt j n):=by
 cases op
 case call c =>
  simp only[iz] at b;split at b
  case h_1=>cases b
  rename_i e d;split at b
  ·exfalso;revert b;(repeat' split)<;>simp
  ·rename_i y _ f;split at b
   case h_2=>cases b
   rename_i h1;injection b with b
   injection b with e1 e2
   subst e1 e2;exact⟨c,rfl,d,.inl ⟨y,f,h1⟩⟩
  ·rename_i n j f;injection b with b
   injection b with e1 e2
   subst e1 e2;exact⟨c,rfl,d,.inr ⟨_,_,rfl⟩⟩
  all_goals (exfalso;revert b;repeat' split)<;>simp
 all_goals (exfalso;revert b;simp only[iz];repeat' split)<;>first | contradiction | (intro h;obtain⟨k,h⟩:=nQ h;cases h;done) | (simp;done) | (rename_i h0;obtain⟨k,rfl⟩:=nQ h0;simp)
theorem Nv {own:Bool}{op:Op}{x:X}(b:iz P own op=some (.pan x)):∃y,op=.panic y/\bO y=some x:=by
 cases op
 case panic y =>
  simp only[iz] at b;split at b
  case h_2=>cases b
  rename_i h1;injection b with b
  injection b with e1
  subst e1;exact⟨y,rfl,h1⟩
 all_goals (exfalso;revert b;simp only[iz];repeat' split)<;>first | contradiction | (intro h;obtain⟨k,h⟩:=nQ h;cases h;done) | (simp;done) | (rename_i h0;obtain⟨k,rfl⟩:=nQ h0;simp)
end
section
variable {P:Program}{F:aA}{L:Loc}{ρ:Env}{a:Act}{w:World}{K:dG}{o:Oper}{Q:Exit->Act->World->Prop}
theorem vS {PX:aA->Loc->Value->Prop}{own:Bool}{f:Nat}{args:List X}(m:St F L w) (he:aD L ρ a) (l:∀k,o.dst=some k->k<a.tmps.size) (j:iz P own o.op=some (.call f args))
  (n:fW P PX f (bw L ρ args) F L fun F' L' v=>K F' L' (put o.dst (.v v) ρ))
  (s:∀v h w' F' L',rY v h->St F' L' w'->Step F L w F' L' w'->PX F' L' v->Q (.panic h) a w'):o.wp P a w (bG F L w a K) Q:=by
 refine DA m he l (fun d=>?_) n s;obtain⟨c,p,q,r⟩:=J9 j;have e:=gI r he;have b:c.args.map a.eval=(bw L ρ args).toArray:=by apply Array.ext';simpa using e
 simp[execOp,p,resolve,q,Deferred.ofValue,Act.eval,invoke,b,iO d]
theorem tI {PX:aA->Loc->Value->Prop}{own:Bool}{f:Nat}{x:X}{h j:Array Value}{args:List X}(s:St F L w) (he:aD L ρ a) (r:∀k,o.dst=some k->k<a.tmps.size) (q:iz P own o.op=some (.callV x args)) (m:ev ρ x=.v (.func (.func f) h j))
  (t:fW P PX f (h.toList++bw L ρ args++j.toList) F L fun F' L' v=>K F' L' (put o.dst (.v v) ρ))
  (hQ:∀v p w' F' L',rY v p->St F' L' w'->Step F L w F' L' w'->PX F' L' v->Q (.panic p) a w'):o.wp P a w (bG F L w a K) Q:=by
 refine DA s he r (fun e=>?_) t hQ;obtain⟨c,u,ha,⟨y,hc,hy⟩ | ⟨n,nm,rfl⟩⟩:=Ij q
 rotate_left
 ·exfalso
  revert m
  simp only[ev];cases ρ n<;>simp[Tp,undef]
 have z:=aG hy he;have l:=gI ha he;have b:c.args.map a.eval=(bw L ρ args).toArray:=by apply Array.ext';simpa using l
 have d:h++((bw L ρ args).toArray++j)=(h.toList++(bw L ρ args++j.toList)).toArray:=by apply Array.ext';simp
 simp[execOp,u,resolve,hc,Deferred.ofValue,z,cP m,invoke,b];rw[iO e,d]
theorem Ik {PX:aA->Loc->Value->Prop}{own:Bool}{x:X}(e:St F L w) (he:aD L ρ a) (d:iz P own o.op=some (.pan x)) {t:TypeId}{u:Value}(l:val L ρ x=.iface t u) (f:PX F L (.iface t u))
  (m:∀v c w' F' L',rY v c->St F' L' w'->Step F L w F' L' w'->PX F' L' v->Q (.panic c) a w'):o.wp P a w (bG F L w a K) Q:=by
 obtain⟨y,h,k⟩:=Nv d;have j:=aG k he;unfold Oper.wp;have b:(execOp a.eval o).run P w=.halt (.panic (.iface t u)) w:=by
  simp[execOp,h,j,l,Instr.panic,goPanic]
 rw[b];exact m _ _ w F L (rY.one _) e (Step.refl _ _ _) f
end
structure kS (P:Program) (PX:aA->Loc->Value->Prop) (fb:List Nat) (f:Nat) (args:List Value) (F:aA) (L:Loc) (K:aA->Loc->Value->Prop):Prop where
 out:∃(ks:List Nat) (Lin:List Own) (R:aA->List Own->Value->Prop) (Pp:aA->List Own->Value->Prop),L.sub ks=some Lin/\ks.Nodup/\(∀k∈ks,k∉fb)/\wM P f args.toArray F Lin R Pp /\
  (∀v F' L' Lo,F.le F'->L'.sub ks=some Lo->xQ ks L L'->Pp F' Lo v->PX F' L' v) /\
  ∀v F' Lo,F.le F'->R F' Lo v->ks.length=Lo.length/\(∀(i:Nat) g t cs,Lin[i]?=some (.box g t cs)->∃cs',Lo[i]?=some (.box g t cs')) /\
   (Real F' (L.puts ks Lo)->K F' (L.puts ks Lo) v)
def sB (P:Program) (L:Loc) (ρ:Env):dX->Option (Nat×List Value)
 | .call f args=>some (f,bw L ρ args)
 | .callV f args=>match ev ρ f with
  | .v (.func (.func f) a b)=>some (f,a.toList++bw L ρ args++b.toList)
  | _=>none
 | _=>none
def Cb:dX->List Nat
 | .call _ args=>ct args
 | .callV f args=>ct (f::args)
 | _=>[]
def Fc:dX->Bool
 | .call _ _=>true
 | .callV _ _=>true
 | _=>false
def bn (P:Program) (PX:aA->Loc->Value->Prop) (fb:List Nat):List ak->aA->Loc->Env->dG->Prop
 | [],F,L,ρ,K=>K F L ρ
 | .op d o g::a,F,L,ρ,K=>∃o',res g ρ o=some o'/\evalOp P o' d F L ρ fun F' L' ρ'=>bn P PX fb a F' L' ρ' K
 | .frz _::_,_,_,_,_=>False
 | .pc d o g::a,F,L,ρ,K=>match sB P L ρ o,g with
  | some (f,b),none=>kS P PX fb f b F L fun F' L' v=>bn P PX fb a F' L' (put d (.v v) ρ) K
  | _,_=>False
def Ka:dX->Bool
 | .loadF _ _ _=>true
 | .gload _=>true
 | _=>false
def QA:dX->Bool
 | .mkfn _ _ _=>true
 | _=>false
def Ti (o:dX):Bool:=Du o||Ka o||QA o
def Tv (fb:List Nat):dX->Bool
 | .loadK key _ _ _=>fC fb key
 | _=>false
theorem mo {fb:List Nat}{o:dX}(h:(Ti o||Tv fb o)=true):cR o=true:=by cases o<;>first | rfl | (exact fL h (by decide)) | (simp[Ti,Tv,Du,Ka,QA] at h)
def xR:ak->Option Nat
 | .op d (.allocD _ _) none=>d
 | _=>none
def zW:ak->Option Nat
 | .op d _ _=>d
 | .frz _=>none
 | .pc d _ _=>d
def jn (fb:List Nat):ak->ak->Bool
 | .op a x c,.op b y d=>mh (.op a x c) (.op b y d)
 | .op a x c,.pc b y none=>Fc y&&(Ti x||Tv fb x)&&sA a (Cb y)&&sA b (looks x c)&&Dy a b
 | .pc a x none,.op (some k) (.allocD _ _) none=>Fc x&&sA (some k) (Cb x)&&Dy a (some k)
 | _,_=>false
def Tw:ak->Bool
 | .op _ o _=>okD o
 | .pc _ o none=>Fc o
 | _=>false
section
variable {P:Program}{PX:aA->Loc->Value->Prop}{fb:List Nat}{F F':aA}{L L':Loc}{ρ:Env}{K K':dG}
theorem Il {sv:SV}(hb:kL L L') (c:∀k off,sv=.own k off->∃g t cs,L.get k=some (.box g t cs)):conc L' sv=conc L sv:=by
 cases sv with
 | v x=>rfl
 | el a j=>rfl
 | own k off =>
  obtain⟨g,t,cs,e⟩:=c k off rfl;obtain⟨cs',b⟩:=hb k g t cs e;simp only[conc,e,b]
theorem Kb (hb:kL L L') (a:Vd L ρ) (x:X):val L' ρ x=val L ρ x:=Il hb fun k off e=>a.ev e
theorem sD (hb:kL L L') (a:Vd L ρ) (xs:List X):bw L' ρ xs=bw L ρ xs:=dw fun x _=>Kb hb a x
theorem xS {d:Option Nat}{v:SV}{xs:List X}(h:∀k,d=some k->k∉ct xs):bw L (put d v ρ) xs=bw L ρ xs:=dw fun x a=>by simp only[val,fJ h x a]
theorem Nw {o:dX}(h:(Ti o||Tv fb o)=true) (d:∀j∈fb,L'.get j=L.get j) (hF:F.le F') (hb:kL L L') (c:Vd L ρ) {V:SV->Prop}(a:aL o F L ρ V):aL o F' L' ρ V:=by
 simp only[Ti,abn] at h;rcases h with((h | h) | h) | h
 rotate_right
 ·cases o<;>first | (cases h;done) | skip
  rename_i key p n x;have f:=d key (cQ.1 h);simp only[aL] at a ⊢;split at a
  ·rename_i k off e;split at a
   ·rename_i b;have b:=aaQ b;subst b;rw[f];exact a
   ·exact a.elim
  ·exact a.elim
 ·exact AF h a
 ·cases o<;>first | (cases h;done) | skip
  ·simp only[aL] at a ⊢;obtain⟨u,t,m,h1,l⟩:=a;exact⟨u,t,m,hF _ _ h1,l⟩
  ·simp only[aL] at a ⊢;split at a
   ·exact a.up hF
   ·exact a.up hF
   ·exact a.elim
 ·cases o<;>first | (cases h;done) | skip
  simp only[aL,sD hb c] at a ⊢;exact a
theorem kL.vd (hb:kL L L') (a:Vd L ρ):Vd L' ρ:=fun t k off e=>let⟨g,ty,cs,h⟩:=a t k off e;let⟨cs',h'⟩:=hb k g ty cs h;⟨g,ty,cs',h'⟩
theorem Vd.aaK (a:Vd L ρ) (d:Option Nat) (v:Value):Vd L (put d (.v v) ρ):=by
 intro t k off e;rw[put_eq] at e;cases d with
 | none=>exact a t k off e
 | some j =>
  simp only[] at e;split at e
  ·cases e
  ·exact a t k off e
theorem uV {ks:List Nat}{Lin Lo:List Own}(d:L.sub ks=some Lin) (h:ks.Nodup) (b:ks.length=Lo.length) (f:∀(i:Nat) g t cs,Lin[i]?=some (.box g t cs)->∃cs',Lo[i]?=some (.box g t cs')) :
  kL L (L.puts ks Lo)/\(∀j,L.get j=none->(L.puts ks Lo).get j=none)/\∀j,j∉ks->(L.puts ks Lo).get j=L.get j:=by
 obtain⟨o,m⟩:=cE d;refine⟨fun k g t cs e=>?_,fun j e=>?_,fun j n=>?_⟩
 ·rcases cU ks Lo L k h b with⟨a,c⟩ | ⟨i,a,c,l⟩
  ·rw[a];exact⟨cs,e⟩
  ·rw[c];have:=m i k a;rw[e] at this;exact f i g t cs this.symm
 ·rcases cU ks Lo L j h b with⟨a,c⟩ | ⟨i,a,c,l⟩
  ·rw[a];exact e
  ·have:=m i j a;rw[e] at this;have p:=aby.1 this.symm;omega
 ·rcases cU ks Lo L j h b with⟨a,c⟩ | ⟨i,a,c,l⟩
  ·exact a
  ·exact fL (aaW a) n
theorem kS.imp {f:Nat}{args:List Value}{K K':aA->Loc->Value->Prop}(h:kS P PX fb f args F L K)
  (o:∀F' L' v,F.le F'->kL L L'->(∀j,L.get j=none->L'.get j=none)->(∀j∈fb,L'.get j=L.get j)->Real F' L'->K F' L' v->K' F' L' v):kS P PX fb f args F L K':=by
 obtain⟨ks,l,R,Pp,h1,d,h0,n,m,s⟩:=h;refine⟨ks,l,R,Pp,h1,d,h0,n,m,fun v F' Lo hF p=>?_⟩;obtain⟨a,b,c⟩:=s v F' Lo hF p;obtain⟨k1,r,q⟩:=uV h1 d a b;exact⟨a,b,fun e=>o _ _ _ hF k1 r (fun j k=>q j fun h=>h0 j h k) e (c e)⟩
theorem jf {d:Option Nat}{o:dX}{g:Option (Nat×Bool)}{a:List ak} :
  bn P PX fb (.op d o g::a) F L ρ K↔∃o',res g ρ o=some o'/\evalOp P o' d F L ρ (fun F1 L1 b=>bn P PX fb a F1 L1 b K):=Iff.rfl
theorem rR:∀(ks:List Nat) (Lo:List Own) (L:Loc) {k:Nat}{o:Own},k∉ks->(L.set k o).puts ks Lo=(L.puts ks Lo).set k o
 | [],Lo,L,k,o,_=>by cases Lo<;>rfl
 | j::ks,[],L,k,o,_=>rfl
 | j::ks,p::Lo,L,k,o,h=>by
  simp only[Loc.puts];rw[set_comm L o p (fun e=>h (by simp[e])),rR ks Lo (L.set j p) (fun a=>h (by simp[a]))]
theorem Gs:∀{ks:List Nat}{L:Loc}{k:Nat}{o:Own},k∉ks->(L.set k o).sub ks=L.sub ks
 | [],L,k,o,_=>rfl
 | j::ks,L,k,o,h=>by
  simp only[Loc.sub];rw[bZ (fun e=>h (by simp[e])),Gs (fun a=>h (by simp[a]))]
theorem RM {t s:Option Nat}{x y:dX}{gx gy:Option (Nat×Bool)}{b:List ak}(hp:mh (.op t x gx) (.op s y gy)=true) (hr:Real F L) (r:Vd L ρ) (h:bn P PX fb (.op t x gx::.op s y gy::b) F L ρ K):bn P PX fb (.op s y gy::.op t x gx::b) F L ρ K:=by
  simp only[mh,v5] at hp;obtain⟨⟨⟨⟨⟨ae,c⟩,hc⟩,h1⟩,h2⟩,w⟩:=hp;have h1:=kC h1;have h2:=kC h2;have w:=nO w;have an:∀k,s=some k->t≠some k:=fun k e e'=>w k e' e;rw[jf] at h;obtain⟨z,q,h⟩:=h;have f:okD iD=true:=rfl;have o:okD z=true:=by rcases dA q with rfl | rfl;exact ae;exact f
  have hy:∃m,res gy ρ y=some m:=by
   obtain⟨v,F1,L1,d⟩:=vP o hr h;rw[jf] at d;obtain⟨m,a,_⟩:=d;rw[oO h1] at a;exact⟨m,a⟩
  obtain⟨m,a⟩:=hy;have aa:okD m=true:=by rcases dA a with rfl | rfl;exact c;exact f
  have hA:evalOp P z t F L ρ (fun F1 L1 l=>evalOp P m s F1 L1 l (fun F2 L2 n=>bn P PX fb b F2 L2 n K)):=by
   refine jP o hr r h ?_;rintro F1 L1 l ⟨v,rfl⟩ _ _ _ d;rw[jf] at d;obtain⟨ay,j,d⟩:=d;rw[oO h1,a] at j;injection j with j
   subst j;exact d
  have lx:∀k,s=some k->k∉ct (bE z):=by
   intro k e d;rcases dA q with rfl | rfl
   ·exact h2 k e (nP d)
   ·simp[iD,bE,ct] at d
  have ly:∀k,t=some k->k∉ct (bE m):=by
   intro k e d;rcases dA a with rfl | rfl
   ·exact h1 k e (nP d)
   ·simp[iD,bE,ct] at d
  have hB:evalOp P m s F L ρ (fun F1 L1 l=>evalOp P z t F1 L1 l (fun F2 L2 n=>bn P PX fb b F2 L2 n K)):=by
   by_cases p:m=iD
   ·subst p;simp only[iD,evalOp,aL,ev];exact xN (K:=fun F2 L2 n=>bn P PX fb b F2 L2 n K) (u:=.v undef) o lx w hA
   ·have ey:m=y:=by rcases dA a with h | h;exact h;exact fL h p
    subst ey;refine J6 hr ?_ ly lx w r hA;rcases dA q with rfl | rfl
    ·exact hc
    ·simp only[okD,abn] at c;rcases c with c | c
     ·simp only[xO,c,ab3,abn];exact .inl (.inl (.inl (.inl (.inl rfl))))
     ·simp only[xO,c,ab3,abn];exact .inl (.inr rfl)
  rw[jf];refine⟨m,a,jP aa hr r hB ?_⟩;rintro F1 L1 l ⟨v,rfl⟩ _ _ _ d;rw[jf];exact⟨z,by rw[oO h2];exact q,d⟩
theorem Fe {f:X}{args:List X}{k:Nat}(h:k∈ct args):k∈ct (f::args):=by
 cases f<;>simp[ct,h]
theorem DB {d:Option Nat}{v:SV}{o:dX}(h:∀k,d=some k->k∉Cb o):sB P L (put d v ρ) o=sB P L ρ o:=by
 cases o<;>try rfl
 ·rename_i f args;simp only[sB,xS h]
 ·rename_i f args;have h1:∀k,d=some k->k∉ct args:=fun k e b=>h k e (Fe b);have a:ev (put d v ρ) f=ev ρ f:=fJ h f (by simp);simp only[sB,xS h1,a]
theorem Im (hb:kL L L') (a:Vd L ρ) (o:dX):sB P L' ρ o=sB P L ρ o:=by
 cases o<;>try rfl
 ·simp only[sB,sD hb a]
 ·simp only[sB,sD hb a]
theorem RO {n d:Option Nat}{x y:dX}{z:Option (Nat×Bool)}{b:List ak}(hp:jn fb (.op n x z) (.pc d y none)=true) (hr:Real F L) (r:Vd L ρ)
  (h:bn P PX fb (.op n x z::.pc d y none::b) F L ρ K):bn P PX fb (.pc d y none::.op n x z::b) F L ρ K:=by
 simp only[jn,v5] at hp;obtain⟨⟨⟨⟨_,p⟩,h1⟩,o⟩,f⟩:=hp;have h1:=kC h1;have o:=kC o;have f:=nO f;have ad:∀k,d=some k->n≠some k:=fun k e e'=>f k e' e;obtain⟨l,c,h⟩:=h;have a:(Ti l||Tv fb l)=true:=by rcases dA c with rfl | rfl;exact p;rfl
 rw[ck (mo a)] at h;obtain⟨v,hT,m⟩:=(eY (mo a)).ex _ h;simp only[bn,DB h1] at m ⊢;split at m
 case h_2=>exact m.elim
 refine m.imp fun F' L' u s t _ w ab j=>⟨l,by rw[oO o];exact c,?_⟩;rw[ck (mo a)];have lx:∀k,d=some k->k∉ct (bE l):=by
  intro k e j;rcases dA c with rfl | rfl
  ·exact o k e (nP j)
  ·simp[iD,bE,ct] at j
 have q:=qZ (mo a) (aA.le_refl F') (uT (L:=L') (ρ:=ρ) (v:=.v u) lx) (Nw a w s t r hT);refine(eY (mo a)).mono _ _ (fun v' e=>?_) q;subst e;rw[put_comm f];exact j
theorem RP {dx:Option Nat}{k:Nat}{t:TypeId}{zs:List Value}{x:dX}{n:List ak}(hp:jn fb (.pc dx x none) (.op (some k) (.allocD t zs) none)=true) (q:L.get k=none) (hr:Real F L) (y:Vd L ρ)
  (h:bn P PX fb (.pc dx x none::.op (some k) (.allocD t zs) none::n) F L ρ K):bn P PX fb (.op (some k) (.allocD t zs) none::.pc dx x none::n) F L ρ K:=by
 simp only[jn,v5] at hp;have h1:=kC hp.1.2;have h3:=nO hp.2;simp only[bn,res,xo,exists_eq_left',evalOp,q] at h ⊢;intro g ax;split at h
 case h_2=>exact h.elim
 rename_i _ _ f vs z _;obtain⟨ks,l,R,Pp,e1,e2,e0,e3,e4,e5⟩:=h;have u:k∉ks:=by
  intro u;obtain⟨hl,hg⟩:=cE e1;obtain⟨i,hi⟩:=List.getElem?_of_mem u;have:=hg i k hi;rw[q] at this;have h5:=(aaR.1 hi).1;have h6:=aby.1 this.symm;omega
 have o:kL L (L.set k (.box g t zs)):=fun j r s cs e=>⟨cs,Keeps.new q j r s cs e⟩;have ea:sB P (L.set k (.box g t zs)) (put (some k) (.own k 0) ρ) x=some (f,vs):=by
  rw[DB h1,Im o y,z]
 rw[ea];refine⟨ks,l,R,Pp,by rw[Gs u];exact e1,e2,e0,e3,fun v F0 L' Lo hF w hb=>e4 v F0 L' Lo hF w fun j r s cs e=>hb j r s cs (Keeps.new q j r s cs e),fun v F' Lo hF hR=>?_⟩;obtain⟨a,b,c⟩:=e5 v F' Lo hF hR;refine⟨a,b,fun m=>?_⟩;rw[rR ks Lo L u] at m ⊢;obtain⟨k1,k2,_⟩:=uV e1 e2 a b;have p:=k2 k q;have c:=c (m.down (aA.le_refl _) m.glob (J5 p));simp only[p] at c;rw[<-put_comm (d:=some k) (fun j e e'=>h3 j e' e)];exact c g m
theorem Io {x y:ak}{a:List ak}(c:jn fb x y=true) (e:∀k,xR y=some k->L.get k=none) (d:Real F L) (b:Vd L ρ) (h:bn P PX fb (x::y::a) F L ρ K):bn P PX fb (y::x::a) F L ρ K:=by
 unfold jn at c;split at c
 ·exact RM c d b h
 ·exact RO c d b h
 ·exact RP c (e _ rfl) d b h
 ·cases c
theorem DC {y:ak}{k:Nat}(h:xR y=some k):zW y=some k:=by
 unfold xR at h;split at h
 ·exact h
 ·cases h
theorem Kc {x y:ak}(a:jn fb x y=true) {k:Nat}(h:xR y=some k):zW x≠some k:=by
 have b:=DC h;unfold jn at a;split at a
 ·simp only[mh,v5] at a;intro e;exact nO a.2 k e b
 ·simp[xR] at h
 ·simp only[v5] at a;intro e;exact nO a.2 k e b
 ·cases a
theorem zX {x:ak}{c a:List ak}(u:Tw x=true) (y:Real F L) (l:Vd L ρ) (h:bn P PX fb (x::c) F L ρ K)
  (t:∀F1 L1 b,F.le F1->Real F1 L1->Vd L1 b->(∀j,zW x≠some j->L.get j=none->L1.get j=none)->bn P PX fb c F1 L1 b K->bn P PX fb a F1 L1 b K):bn P PX fb (x::a) F L ρ K:=by
 cases x with
 | frz k=>cases u
 | op d o g =>
  obtain⟨o',m,h⟩:=h;have n:okD o'=true:=by rcases dA m with rfl | rfl;exact u;rfl
  exact⟨o',m,ny n y l h fun F1 L1 b _ r q p s w=>t F1 L1 b r q p s w⟩
 | pc d o g =>
  unfold bn at h ⊢;split at h
  ·rename_i f args;refine h.imp fun F' L' v h1 r q _ p s=>t _ _ _ h1 p ((r.vd l).aaK d v) (fun j _ e=>q j e) s
  ·exact h.elim
theorem xT {y:ak}{s:List ak}:∀(p:List ak),(∀x∈p,jn fb x y=true)->(∀x∈p,Tw x=true)->∀{F:aA}{L:Loc}{ρ:Env},(∀k,xR y=some k->L.get k=none)->Real F L->Vd L ρ->bn P PX fb (p++y::s) F L ρ K->bn P PX fb (y::(p++s)) F L ρ K
 | [],_,_,F,L,ρ,_,_,_,h=>h
 | x::p,f,l,F,L,ρ,n,m,b,h=>by
  refine Io (f x (by simp)) n m b ?_;refine zX (l x (by simp)) m b h fun F1 L1 o _ c a j q=>?_;exact xT p (fun z d=>f z (by simp[d])) (fun z d=>l z (by simp[d])) (fun k e=>j k (Kc (f x (by simp)) e) (n k e)) c a q
end
section
variable {P:Program}{PX:aA->Loc->Value->Prop}{fb:List Nat}{K:dG}{Q:Exit->Act->World->Prop}{ops:Array Oper}
theorem AO {ks:List Nat}(b:ks.Nodup) {i j:Nat}{hi:i<ks.length}{c:j<ks.length}(h:ks[i]=ks[j]):i=j:=by
 rw[List.nodup_iff_pairwise_ne,List.pairwise_iff_getElem] at b;rcases Nat.lt_trichotomy i j with a | he | a
 ·exact fL h (b i j hi c a)
 ·exact he
 ·exact fL h.symm (b j i c hi a)
theorem rf {L:Loc}{ks:List Nat}{Lo:List Own}(e:ks.Nodup) (a:ks.length=Lo.length):((L.aae ks).puts ks Lo).sameAs (L.puts ks Lo):=by
 intro j;rcases cU ks Lo L j e a with⟨d,b⟩ | ⟨i,d,b,o⟩<;>rcases cU ks Lo (L.aae ks) j e a with⟨c,h⟩ | ⟨m,c,h,n⟩
 ·rw[d,c,eX,fo b]
 ·exact fL (aaW c) b
 ·exact fL (aaW d) h
 ·have:i=m:=by
   have h1:=(aaR.1 d);have l:=(aaR.1 c);obtain⟨h1,k⟩:=h1;obtain⟨l,f⟩:=l;exact AO e (k.trans f.symm)
  subst this;rw[b,h]
theorem xU:∀{ks:List Nat}{L:Loc}{Lo:List Own},ks.length=Lo.length->(∀(i:Nat) k,ks[i]?=some k->L.get k=Lo[i]?)->L.sub ks=some Lo
 | [],L,[],_,_=>rfl
 | [],L,_::_,h,_=>by simp at h
 | _::_,L,[],h,_=>by simp at h
 | k::ks,L,o::Lo,h,a=>by
  have h0:=a 0 k rfl;have h1:L.sub ks=some Lo:=xU (by simpa using h) fun i j e=>by
   have:=a (i+1) j (by rw[abe];exact e);rw[abe] at this;exact this
  have h0:L.get k=some o:=h0;simp only[Loc.sub,h0,h1]
theorem Ke {L:Loc}{ks:List Nat}{Lo:List Own}(f:ks.Nodup) (a:ks.length=Lo.length):(L.puts ks Lo).sub ks=some Lo:=by
 refine xU a fun i k e=>?_;rcases cU ks Lo L k f a with⟨a1,d⟩ | ⟨j,a1,d,h⟩
 ·exact fL (aaW e) d
 ·have hi:=aaR.1 e;have l:=aaR.1 a1;obtain⟨h1,c⟩:=hi;obtain⟨m,b⟩:=l;have:i=j:=AO f (c.trans b.symm);subst this;rw[d,aaO h]
theorem kS.toX {f:Nat}{args:List Value}{F:aA}{L:Loc}{K:aA->Loc->Value->Prop}(h:kS P PX fb f args F L K):fW P PX f args F L fun F' L' v=>∃L2,L'.sameAs L2/\(Real F' L2->K F' L2 v):=by
 obtain⟨ks,l,R,Pp,h1,d,h0,n,m,r⟩:=h;refine⟨ks,ks,l,R,Pp,h1,d,d,fun k o=>.inl o,n,fun v F' Lo hF j hb q=>m v F' _ Lo hF (Ke d j) hb q,fun v F' Lo hF p=>?_⟩;obtain⟨a,b,c⟩:=r v F' Lo hF p;obtain⟨k1,s,_⟩:=uV h1 d a b;refine⟨a,fun k g t cs _ e=>?_,_,rf d a,c⟩;rw[<-rf d a];exact k1 k g t cs e
theorem DE {own:Bool}{o:Oper}{s:dX}{f:Nat}{j:List Value}{F:aA}{L:Loc}{ρ:Env}{a:Act}{w:World}{K:dG}(e:St F L w) (he:aD L ρ a) (d:∀k,o.dst=some k->k<a.tmps.size) (c:iz P own o.op=some s) (b:sB P L ρ s=some (f,j))
  (h:fW P PX f j F L fun F' L' v=>K F' L' (put o.dst (.v v) ρ))
  (l:∀v m w' F' L',rY v m->St F' L' w'->Step F L w F' L' w'->PX F' L' v->Q (.panic m) a w'):o.wp P a w (bG F L w a K) Q:=by
 cases s with
 | call f' args =>
  simp only[sB,xo,Prod.mk.injEq] at b;obtain⟨rfl,rfl⟩:=b;exact vS e he d c h l
 | callV x args =>
  simp only[sB] at b;split at b
  case h_2=>cases b
  rename_i f' p q n;simp only[xo,Prod.mk.injEq] at b;obtain⟨rfl,rfl⟩:=b;exact tI e he d c n h l
 | _=>cases b
theorem Ip {A:cW}{i:Nat}{s:ak}{l:List ak}{F:aA}{L:Loc}{ρ:Env}{a:Act}{w:World}{KK:Act->World->Prop}(hi:i<ops.size) (c:BZ P A ops i=some s) (hx:Tw s=true) (hs:St F L w) (he:aD L ρ a) (hn:a.tmps.size=A.n)
  (t:bn P PX fb (s::l) F L ρ K)
  (z:∀a' w' F' L' ρ',St F' L' w'->aD L' ρ' a'->a'.tmps.size=A.n->a'.defers=a.defers->Step F L w F' L' w'->(∀j,((ops[i]?).bind (·.dst))≠some j->a'.tmps.getD j undef=a.tmps.getD j undef) ->
   (∀j,zW s≠some j->L.get j=none->L'.get j=none)->bn P PX fb l F' L' ρ' K->KK a' w')
  (hP:∀v ch w' F' L',rY v ch->St F' L' w'->Step F L w F' L' w'->PX F' L' v->Q (.panic ch) a w') :
  wpOp P ops Q i KK a w:=by
 cases s with
 | frz k=>cases hx
 | op d o g =>
  obtain⟨o',u,h⟩:=t;have aw:okD o'=true:=by rcases dA u with rfl | rfl;exact hx;rfl
  have h2:aT P [.op d o g] F L ρ (fun F' L' ρ'=>(∀j,d≠some j->L.get j=none->L'.get j=none)/\bn P PX fb l F' L' ρ' K) :=
   fE.2 ⟨o',u,ny aw ⟨w,hs⟩ he.vd h fun F1 L1 bc _ _ _ _ h5 h6=>⟨h5,h6⟩⟩
  exact Dz hi c hs he hn h2 fun a' w' F' L' ρ' g1 g2 g3 g4 g5 r x=>z a' w' F' L' ρ' g1 g2 g3 g4 g5 r x.1 x.2
 | pc d o g =>
  unfold bn at t;split at t
  case h_2=>exact t.elim
  rename_i f vs ay;unfold BZ at c;split at c
  case h_1=>cases c
  rename_i o q;split at c
  case h_2=>cases c
  rename_i g s0 y ab m;rename_i o0 _ _ _ _ _ _;have ar:o.dst=d/\s0=o0/\g=none:=by
   split at c
   ·split at c
    ·injection c with c
     injection c with q1 q2 q3
     exact⟨q1,q2,rfl⟩
    ·injection c with c
     injection c with q1 q2 q3
     exact⟨q1,q2,rfl⟩
    ·cases c
   ·split at c
    ·split at c
     ·cases c
     ·cases c
    ·split at c
     ·split at c<;>cases c
     ·cases c
  obtain⟨rfl,rfl,rfl⟩:=ar;have hd:∀k,o.dst=some k->k<a.tmps.size:=by
   intro k hk;rw[hk] at m;rw[hn];have h2:Nat.blt k A.n=true:=m;simpa using h2
  have aE:(ops[i]?).bind (·.dst)=o.dst:=by rw[q];rfl
  rw[aE] at z;simp only[wpOp,q];have av:o.guard=none:=by
   cases e:o.guard with
   | none=>rfl
   | some p=>obtain⟨j,b⟩:=p;rw[e] at y;simp only[iB] at y;split at y<;>cases y
  rw[eu (by simp[Region.wanted,av])];refine .inl ?_;have ae:=t.imp (K':=fun F' L' v=>(∀j,L.get j=none->L'.get j=none)/\bn P PX fb l F' L' (put o.dst (.v v) ρ) K) fun F' L' v _ _ h3 _ _ h5=>⟨h3,h5⟩;have:=DE (K:=fun F' L' ρ'=>∃L2,L'.sameAs L2/\(Real F' L2->(∀j,L.get j=none->L2.get j=none)/\bn P PX fb l F' L2 ρ' K)) hs he hd ab ay ae.toX hP;refine Oper.wp_mono ?_ (qi (asg:=[]) this);rintro a' w' ⟨⟨F',L',ρ',g1,g2,g3,g4,g5,L2,r,x⟩,an⟩;have s1:St F' L2 w':=g1.part fun k o e=>by rw[<-r k];exact e
  obtain⟨g8,g9⟩:=x ⟨w',s1⟩;exact z a' w' F' L2 ρ' s1 (g2.same r) (by rw[g3,hn]) g4 (g5.aaG r) an (fun j _ e=>g8 j e) g9
def mq (fb:List Nat) (a:List (List Nat)):List (Nat×ak)->Bool
 | []=>true
 | (x,b)::l=>l.all (fun p=>jn fb b p.2||fC (B0 a p.1) x)&&mq fb a l
def Ff (ss:List ak):List Nat:=ss.filterMap zW
def Nx (ss:List ak):List Nat:=ss.filterMap fun s=>match s with | .op _ (.loadK key _ _ _) _=>some key | _=>none
def Cc (P:Program) (ops:Array Oper) (is:List Nat) (a:List (List Nat)) (ss:List ak):Bool :=
 P.follows .mixedOrders&&J8 ops a&&aS is&&Nat.beq is.length ops.size&&is.all (fun i=>Nat.blt i ops.size)&&(List.range ops.size).all (fC is)&&mq (Nx ss) a (is.zip ss)&&ss.all Tw&&aS (Ff ss)
theorem tJ {d:List (List Nat)}:∀{p q:List (Nat×ak)}{y:Nat×ak},mq fb d (p++y::q)=true->mq fb d (p++q)=true/\∀x∈p,jn fb x.2 y.2=true\/x.1∈B0 d y.1
 | [],q,y,h=>by
  obtain⟨y1,y2⟩:=y;simp only[abp,mq,v5] at h ⊢;exact⟨h.2,fun x c=>by cases c⟩
 | (l,k)::p,q,y,h=>by
  simp only[aa1,mq,v5] at h ⊢;obtain⟨h1,j⟩:=h;obtain⟨f,e⟩:=tJ j;have a:=aaY.1 h1;refine⟨⟨aaY.2 fun z b=>a z ?_,f⟩,fun x c=>?_⟩
  ·rcases aaU.1 b with b | b
   ·exact aaU.2 (.inl b)
   ·exact aaU.2 (.inr (abg _ b))
  ·rcases aaT.1 c with rfl | c
   ·have:=a y (aaU.2 (.inr (by simp)));simp only[abn] at this;rcases this with h | h
    ·exact .inl h
    ·exact .inr (cQ.1 h)
   ·exact e x c
theorem Ny {p q:List ak}{y:ak}(h:(Ff (p++y::q)).Nodup):(Ff (p++q)).Nodup/\∀k,zW y=some k->∀z∈p++q,xR z≠some k:=by
 have e:Ff (p++y::q)=Ff p++((zW y).toList++Ff q):=by
  unfold Ff;rw[List.filterMap_append,List.filterMap_cons];cases zW y<;>rfl
 rw[e] at h;have c:(Ff p++Ff q).Nodup:=by
  refine List.Sublist.nodup ?_ h;exact List.Sublist.append (List.Sublist.refl _) (List.sublist_append_right _ _)
 refine⟨by unfold Ff at c ⊢;rw[List.filterMap_append];exact c,fun k j z a d=>?_⟩;have b:=DC d;rw[j] at h;have f:k∉Ff p++Ff q:=by
  have:(Ff p++k::Ff q).Nodup:=h;have:=(List.perm_middle.nodup_iff).1 this;rw[List.nodup_cons] at this;exact this.1
 apply f;rcases aaU.1 a with a | a
 ·exact aaU.2 (.inl (List.mem_filterMap.2 ⟨z,a,b⟩))
 ·exact aaU.2 (.inr (List.mem_filterMap.2 ⟨z,a,b⟩))
theorem Kf {A:cW}{i:Nat}{s:ak}(a:BZ P A ops i=some s):(ops[i]?).bind (·.dst)=zW s:=by
 unfold BZ at a;split at a
 case h_1=>cases a
 rename_i o b;rw[b];split at a
 case h_2=>cases a
 split at a
 ·split at a
  ·injection a with a;subst a;rfl
  ·injection a with a;subst a;rfl
  ·cases a
 ·split at a
  ·split at a
   ·injection a with a;subst a;rfl
   ·cases a
  ·split at a
   ·split at a
    ·injection a with a;subst a;rfl
    ·cases a
   ·cases a
theorem Fg {A:cW}{cl:List (List Nat)}(bl:J8 ops cl=true):∀(m:Nat) (l:List Nat) (ss:List ak) (b:Array Bool) (F:aA) (L:Loc) (ρ:Env) (a:Act) (w:World),
  eO P A ops l=some ss->b.size=ops.size->l.Nodup->(∀i,i∈l↔i<ops.size/\b.getD i true=false)->l.length<=m->mq fb cl (l.zip ss)=true ->
  (∀i,i<ops.size->b.getD i true=true->∀z∈direct ops i,b.getD z true=true) ->
  (∀s∈ss,Tw s=true)->(Ff ss).Nodup->(∀s∈ss,∀k,xR s=some k->L.get k=none) ->
  St F L w->aD L ρ a->a.tmps.size=A.n->bn P PX fb ss F L ρ K ->
  (∀a' w',eJ A.n F L w a (dstsOf ops (List.range ops.size)) K a' w'->Q .normal a' w') ->
  (∀v ch a' w' F' L',rY v ch->St F' L' w'->Step F L w F' L' w'->a'.tmps.size=A.n->a'.defers=a.defers->(∀j,j∉dstsOf ops (List.range ops.size)->a'.tmps.getD j undef=a.tmps.getD j undef)->PX F' L' v->Q (.panic ch) a' w')->wpAny P .any ops Q m b a w:=by
 have t:∀y z,y<ops.size->z∈direct ops y->z<y:=by
  intro y z hy r;have h:=aaY.1 bl y (List.mem_range.2 hy);simp only[Ca,v5] at h;have h3:Nat.blt z y=true:=aaY.1 h.1 z r;simpa using h3
 intro m
 induction m with
 | zero =>
  intro l ss b F L ρ a w hl ay bk f al hp d ab cb bc hs he hn hK hQ hP;have:l=[]:=abu (by omega);subst this;simp only[eO,xo] at hl;subst hl;refine⟨?_,hQ a w ⟨F,L,ρ,hs,he,hn,rfl,Step.refl _ _ _,fun _ _=>rfl,hK⟩⟩;apply List.eq_nil_iff_forall_not_mem.2;intro i hi;rw[mem_ready] at hi;obtain⟨h1,o,h2,_⟩:=hi;have:=(f i).2 ⟨(Array.getElem?_eq_some_iff.1 h2).1,h1⟩;cases this
 | succ m ih =>
  intro l ss b F L ρ a w hl ay bk f al hp d ab cb bc hs he hn hK hQ hP;refine⟨fun hr=>?_,fun y hy=>?_⟩
  ·have:l=[]:=by
    refine Classical.byContradiction fun aa=>?_;obtain⟨y,h1,h2⟩:=min_mem aa;obtain⟨h3,h4⟩:=(f y).1 h1;have am:y∈Region.ready .any ops b:=by
     rw[mem_ready];refine⟨h4,ops[y],Array.getElem?_eq_getElem h3,fun e az aw=>?_⟩;have r:e.on∈direct ops y:=(oQ (Array.getElem?_eq_getElem h3)).2 ⟨e,az,aw,rfl⟩;have cs:=t y e.on h3 r;rw[tH (by omega) false true];cases hd:b.getD e.on true with
     | true=>rfl
     | false =>
      have:=h2 e.on ((f e.on).2 ⟨by omega,hd⟩);omega
    rw[hr] at am;cases am
   subst this;simp only[eO,xo] at hl;subst hl;exact hQ a w ⟨F,L,ρ,hs,he,hn,rfl,Step.refl _ _ _,fun _ _=>rfl,hK⟩
  ·rw[mem_ready] at hy;obtain⟨h1,o,ho,bb⟩:=hy;have c:=(Array.getElem?_eq_some_iff.1 ho).1;have aE:=(f y).2 ⟨c,h1⟩;obtain⟨p,q,rfl⟩:=List.append_of_mem aE;obtain⟨dz,bz⟩:=qk hl;obtain⟨sp,sy,sq,rfl,an,bp,da⟩:=bz p q y rfl;have bt:(p++y::q).zip (sp++sy::sq)=p.zip sp++(y,sy)::q.zip sq:=by
    rw[List.zip_append an.symm];rfl
   rw[bt] at hp;obtain⟨cp,co⟩:=tJ hp;have ae:∀z∈direct ops y,b.getD z true=true:=by
    intro z r;have cs:=t y z c r;obtain⟨e,az,aw,rfl⟩:=(oQ ho).1 r;rw[tH (by omega) true false];exact bb e az aw
   have ac:∀sx∈sp,jn fb sx sy=true:=by
    intro sx cz;obtain⟨k,hk⟩:=List.getElem?_of_mem cz;have ds:=(aaR.1 hk).1;have ca:p[k]?=some (p[k]'(by omega)):=aaO (by omega);have hm:(p[k]'(by omega),sx)∈p.zip sp:=aaW (i:=k) (by rw[List.getElem?_zip_eq_some];exact⟨ca,hk⟩);rcases co _ hm with h | h
    ·exact h
    ·exfalso;have hd:=vQ bl (done:=fun z=>b.getD z true=true) d y c ae _ h;have ci:p[k]'(by omega)∈p++y::q:=aaU.2 (.inl (aaW ca));have:=((f _).1 ci).2;simp only at hd;rw[hd] at this;cases this
   have cX:=xT sp ac (fun z r=>ab z (by simp[r])) (fun k e=>bc sy (by simp) k e) ⟨w,hs⟩ he.vd hK;obtain⟨cc,cw⟩:=Ny cb;have dC:(ops[y]?).bind (·.dst)=zW sy:=Kf bp;refine Ip c bp (ab sy (by simp)) hs he hn cX ?_ (fun v ch w' F' L' hc h1 h2 h3=>hP v ch a w' F' L' hc h1 h2 hn rfl (fun _ _=>rfl) h3);intro a' w' F' L' ρ' g1 g2 g3 g4 g5 g6 g8 g7;have ag:(p++q).Nodup/\y∉p++q:=by
    have:=(List.perm_middle.nodup_iff).1 bk;rw[List.nodup_cons] at this;exact⟨this.2,this.1⟩
   have ao:∀i,(b.setIfInBounds y true).getD i true=if i=y then true else b.getD i true:=by
    intro i;simp only[aa6,Array.getElem?_setIfInBounds]
    by_cases hi:y=i
    ·subst hi;rw[eu rfl,eu rfl];simp[ay,c]
    ·rw[fo hi,fo (fun h=>hi h.symm)]
   refine ih (p++q) (sp++sq) _ F' L' ρ' a' w' da (by simp[ay]) ag.1 (fun i=>?_) (by simp at al ⊢;omega) ?_ ?_ (fun z r=>ab z (by rcases aaU.1 r with h | h<;>simp[h])) cc (fun z r k e=>g8 k (fun e2=>cw k e2 z r e) (bc z (by rcases aaU.1 r with h | h<;>simp[h]) k e)) g1 g2 g3 g7 ?_ ?_
   ·rw[ao];have h0:=f i;constructor
    ·intro hi;have aa:i≠y:=fun e=>ag.2 (e▸hi);rw[fo aa];refine h0.1 ?_;rcases aaU.1 hi with h | h
     ·exact aaU.2 (.inl h)
     ·exact aaU.2 (.inr (abg _ h))
    ·rintro⟨cr,ax⟩;split at ax
     ·cases ax
     ·rename_i aa;have:=h0.2 ⟨cr,ax⟩;rcases aaU.1 this with h | h
      ·exact aaU.2 (.inl h)
      ·rcases aaT.1 h with h | h
       ·exact fL h aa
       ·exact aaU.2 (.inr h)
   ·rw[List.zip_append an.symm];exact cp
   ·intro i hi hd z r;rw[ao] at hd ⊢;split
    ·rfl
    ·split at hd
     ·rename_i h;subst h;exact ae z r
     ·exact d i hi hd z r
   ·rintro ba av ⟨F'',L'',bu,k1,k2,k3,k4,k5,k6,k7⟩;refine hQ ba av ⟨F'',L'',bu,k1,k2,k3,k4.trans g4,g5.trans k5,fun j hj=>?_,k7⟩;rw[k6 j hj,g6 j];intro e;apply hj;have:∀(is:List Nat),y∈is->j∈dstsOf ops is:=by
     intro is
     induction is with
     | nil=>intro h;cases h
     | cons x is u =>
      intro h;simp only[dstsOf];rcases aaT.1 h with rfl | h
      ·rw[e];simp
      ·split
       ·exact abg _ (u h)
       ·exact u h
    exact this _ (List.mem_range.2 c)
   ·intro v ch ba av F'' L'' kc k1 k2 k3 k4 k5 k6;refine hP v ch ba av F'' L'' kc k1 (g5.trans k2) k3 (k4.trans g4) (fun j hj=>?_) k6;rw[k5 j hj,g6 j];intro e;apply hj;have:∀(is:List Nat),y∈is->j∈dstsOf ops is:=by
     intro is
     induction is with
     | nil=>intro h;cases h
     | cons x is u =>
      intro h;simp only[dstsOf];rcases aaT.1 h with rfl | h
      ·rw[e];simp
      ·split
       ·exact abg _ (u h)
       ·exact u h
    exact this _ (List.mem_range.2 c)
theorem DF {A:cW}{r:Nat}{is:List Nat}{cl:List (List Nat)}{ss:List ak}{F:aA}{L:Loc}{ρ:Env}{a:Act}{w:World}(y:eO P A ops is=some ss) (x:Cc P ops is cl ss=true)
  (hs:St F L w) (he:aD L ρ a) (hn:a.tmps.size=A.n) (t:∀s∈ss,∀k,xR s=some k->L.get k=none) (hK:bn P PX (Nx ss) ss F L ρ K) (hQ:∀a' w',eJ A.n F L w a (dstsOf ops (List.range ops.size)) K a' w'->Q .normal a' w')
  (hP:∀v d a' w' F' L',rY v d->St F' L' w'->Step F L w F' L' w'->a'.tmps.size=A.n->a'.defers=a.defers->(∀j,j∉dstsOf ops (List.range ops.size)->a'.tmps.getD j undef=a.tmps.getD j undef)->PX F' L' v->Q (.panic d) a' w') :
  (Code.region r ops true).wp P Q a w:=by
 simp only[Cc,v5] at x;obtain⟨⟨⟨⟨⟨⟨⟨⟨h1,h2⟩,f⟩,u⟩,h5⟩,z⟩,h6⟩,h8⟩,h9⟩:=x;have f:=cT f;have u:=aaQ u;have c:∀i∈is,i<ops.size:=fun i hi=>by
  have h:Nat.blt i ops.size=true:=aaY.1 h5 i hi;simpa using h
 refine wp_region_any h1 ?_;show wpAny P .any ops Q ops.size (Array.replicate ops.size false) a w.drew;refine Fg h2 ops.size is ss _ F L ρ a w.drew y (by simp) f (fun i=>?_) (by omega) h6 ?_ (aaY.1 h8) (cT h9) t hs.drew he hn hK ?_ ?_
 ·constructor
  ·intro hi;refine⟨c i hi,?_⟩;simp[aa6,c i hi]
  ·rintro⟨hi,_⟩;exact cQ.1 (aaY.1 z i (List.mem_range.2 hi))
 ·intro i hi q;simp[aa6,hi] at q
 ·rintro a' w' ⟨F',L',ρ',p,g2,l,o,b,m,e⟩;refine hQ a' w' ⟨F',L',ρ',p,g2,l,o,?_,m,e⟩;exact⟨b.le,b.os,b.tape,b.output,b.size,b.same,b.frz,b.own⟩
 ·intro v d a' w' F' L' gc p b l o m e;exact hP v d a' w' F' L' gc p ⟨b.le,b.os,b.tape,b.output,b.size,b.same,b.frz,b.own⟩ l o m e
end
def dQ:Code->List Nat
 | .region _ d _=>dstsOf d (List.range d.size)
 | .seq a b=>dQ a++dQ b
 | .cond _ a b=>dQ a++dQ b
 | .block _ c | .loop c | .scope c=>dQ c
 | _=>[]
def Fh:List Nat->au->au
 | [],x=>x
 | k::l,x=>.seq (.reg (.frz k::l.map .frz)) x
def Gt:List ak->Bool
 | []=>true
 | .op _ _ _::l=>Gt l
 | _::_=>false
def low (P:Program) (A:cW):Code->Option au
 | .skip=>some .skip
 | .label _=>some .skip
 | .region r d false=>match qh P A r d (List.range d.size) with | some ss=>some (.reg ss) | none=>none
 | .region r d true=>match J1 A.ord r,eO P A d (Dt A.ord r) with
  | some (is,e),some ss=>match Gt ss with
   | true=>match Fb P d is e ss with
    | true=>some (Fh (J0 A.frz r 0) (.regD ss))
    | false=>none
   | false=>match Cc P d is e ss with
    | true=>some (.regX ss)
    | false=>none
  | _,_=>none
 | .seq a b=>match low P A a,low P A b with | some x,some y=>some (.seq x y) | _,_=>none
 | .cond c a b=>match bO c,low P A a,low P A b with | some c,some x,some y=>some (.cond c x y) | _,_,_=>none
 | .scope c=>low P A c
 | .block id c=>match low P A c with | some x=>some (.block id x) | none=>none
 | .loop c=>match low P A c with | some x=>some (.loop (dQ c) x) | none=>none
 | .exit id=>some (.exit id)
 | .ret=>some .ret
 | _=>none
section
variable {P:Program}{Q:Exit->Act->World->Prop}
def rS (n:Nat) (F:aA) (L:Loc) (w:World) (a:Act) (asg:List Nat) (PX:aA->Loc->Value->Prop) (v:Value) (a':Act) (w':World):Prop :=
 ∃F' L',St F' L' w'/\Step F L w F' L' w'/\a'.tmps.size=n/\a'.defers=a.defers/\(∀j,j∉asg->a'.tmps.getD j undef=a.tmps.getD j undef)/\PX F' L' v
theorem rS.after {n:Nat}{F F1:aA}{L L1:Loc}{w k:World}{a a1:Act}{asg asg1 b:List Nat}{PX PX':aA->Loc->Value->Prop}{v:Value}{a':Act}{w':World}(d:Step F L w F1 L1 k) (c:a1.defers=a.defers) (e:∀j,j∉asg1->a1.tmps.getD j undef=a.tmps.getD j undef)
  (h:rS n F1 L1 k a1 b PX v a' w') (h1:∀j,j∈asg1->j∈asg) (s:∀j,j∈b->j∈asg) (l:∀F L,PX F L v->PX' F L v):rS n F L w a asg PX' v a' w':=by
 obtain⟨F',L',r,t,m,p,q,o⟩:=h;exact⟨F',L',r,d.trans t,m,p.trans c,fun j f=>by rw[q j (fun h=>f (s j h)),e j (fun h=>f (h1 j h))],l _ _ o⟩
theorem rS.mono {n:Nat}{F:aA}{L:Loc}{w:World}{a:Act}{asg b:List Nat}{PX:aA->Loc->Value->Prop}{v:Value}{a':Act}{w':World}(h:rS n F L w a asg PX v a' w') (c:∀j,j∈asg->j∈b):rS n F L w a b PX v a' w':=by
 obtain⟨F',L',m,o,e,k,l,f⟩:=h;exact⟨F',L',m,o,e,k,fun j d=>l j (fun h=>d (c j h)),f⟩
def QQ (n:Nat) (F:aA) (L:Loc) (w:World) (a:Act) (asg:List Nat) (PX:aA->Loc->Value->Prop) (E:Nat->dG) (R N:dG):Exit->Act->World->Prop
 | .normal,a',w'=>eJ n F L w a asg N a' w'
 | .exit j,a',w'=>eJ n F L w a asg (E j) a' w'
 | .ret,a',w'=>eJ n F L w a asg R a' w'
 | .panic b,a',w'=>∃v,rY v b/\rS n F L w a asg PX v a' w'
 | _,_,_=>False
theorem eJ.mono {n:Nat}{F:aA}{L:Loc}{w:World}{a:Act}{asg b:List Nat}{K:dG}{a':Act}{w':World}(h:eJ n F L w a asg K a' w') (c:∀j,j∈asg->j∈b):eJ n F L w a b K a' w':=by
 obtain⟨F',L',ρ',h1,o,l,f,p,m,k⟩:=h;exact⟨F',L',ρ',h1,o,l,f,p,fun j e=>m j (fun d=>e (c j d)),k⟩
theorem eJ.after {n:Nat}{F F1:aA}{L L1:Loc}{w k:World}{a a1:Act}{asg asg1 b:List Nat}{K:dG}{a':Act}{w':World}(d:Step F L w F1 L1 k) (c:a1.defers=a.defers) (e:∀j,j∉asg1->a1.tmps.getD j undef=a.tmps.getD j undef)
  (h:eJ n F1 L1 k a1 b K a' w') (h1:∀j,j∈asg1->j∈asg) (s:∀j,j∈b->j∈asg):eJ n F L w a asg K a' w':=by
 obtain⟨F',L',ρ',r,t,m,p,q,o,l⟩:=h;exact⟨F',L',ρ',r,t,m,p.trans c,d.trans q,fun j f=>by rw[o j (fun h=>f (s j h)),e j (fun h=>f (h1 j h))],l⟩
def mV (P:Program):List ResultVar->Option (List RV)
 | []=>some []
 | .tmp t::l=>match mV P l with | some r=>some ((t,none)::r) | none=>none
 | .cell a t::l=>match P.underlying t,P.info? t,mV P l with
  | some d,some i,some r=>some ((a,some (match eW d with | true=>(true,i.size) | false=>(false,1)))::r)
  | _,_,_=>none
def xV (tmps:Array Value):ResultVar->Sem Value
 | .tmp t=>pure (tmps.getD t undef)
 | .cell a t=>do loadVar t (<-asAddr (tmps.getD a undef))
theorem nR {F:aA}{L:Loc}{ρ:Env}{a:Act}{w:World}(y:St F L w) (he:aD L ρ a):∀{l:List ResultVar}{rs:List RV}{K:List Value->Prop},mV P l=some rs->nH L ρ rs K ->
  ∃x,(l.mapM (xV a.tmps)).run P w=.ok x w/\K x
 | [],rs,K,h,b=>by simp only[mV,xo] at h;subst h;exact⟨[],by simp,b⟩
 | .tmp t::l,rs,K,h,b=>by
  simp only[mV] at h;split at h
  case h_2=>cases h
  rename_i r hr;injection h with h;subst h
  simp only[nH] at b;obtain⟨x,h1,o⟩:=nR y he hr b;refine⟨_,?_,o⟩;simp only[List.mapM_cons,xV,Sem.run_bind,Sem.run_pure,Result.andThen_ok];rw[h1];simp[he.eq t]
 | .cell t ty::l,rs,K,h,b=>by
  simp only[mV] at h;split at h
  case h_2=>cases h
  rename_i d i r hd hi hr;injection h with h;subst h
  generalize c:(match eW d with | true=>(true,i.size) | false=>(false,1):Bool×Nat)=p at b;obtain⟨ag,n⟩:=p;have q:ag=eW d:=by cases e:eW d<;>rw[e] at c<;>injection c with h1 o<;>exact h1.symm
  have hn:n=match eW d with | true=>i.size | false=>1:=by cases e:eW d<;>rw[e] at c<;>injection c with h1 o<;>exact o.symm
  simp only[nH] at b;split at b
  case h_2=>exact b.elim
  rename_i k off aa;split at b
  case h_2=>exact b.elim
  rename_i g ty' cs hk;split at b
  case h_2=>exact b.elim
  rename_i u;have ac:=wN u;have u:=jN (BU u);obtain⟨x,h1,o⟩:=nR y he hr b;refine⟨_,?_,o⟩;have s:=y.own k _ hk;have m:∀j v,((cs.drop off).take n)[j]?=some v->w.cell? ((⟨g,off,none⟩:Addr).add j)=some v:=by
   intro j v z;rw[dm,qf ac s];have hj:j<n:=by
    have:=aaR.1 z;obtain⟨h,_⟩:=this;omega
   rw[List.getElem?_take_of_lt hj,abx] at z;exact z
  have hy:a.tmps.getD t undef=.pointer (some ⟨g,off,none⟩):=by rw[he.eq t];simp only[aa,conc,hk]
  have f:=oL hd hi m u hn;simp only[Instr.loadAt,Instr.sureAddr,Sem.run_bind,Sem.run_pure,Result.andThen_ok] at f;simp only[List.mapM_cons,xV,hy,asAddr,Sem.run_bind,Sem.run_pure,Result.andThen_ok,f];rw[h1,q];simp
theorem oS (fn:Func) (tmps:Array Value):results fn tmps=(do let b <-fn.results.mapM (xV tmps);pure (if h:b.size=1 then b[0] else .tuple b)):=by
 unfold results;have h:(fun(r:ResultVar)=>match r with | .tmp t=>(pure (tmps.getD t undef):Sem Value) | .cell a t=>do loadVar t (<-asAddr (tmps.getD a undef)))=xV tmps:=by
  funext r
  cases r<;>rfl
 rw[<-h];rfl
theorem xW:∀(a:List SV) (k j:Nat),Dh k a j=if k<=j then(a[j-k]?).getD (.v undef) else .v undef
 | [],k,j=>by simp[Dh]
 | v::a,k,j=>by
  simp only[Dh,put_eq]
  by_cases h:j=k
  ·subst h;simp
  ·rw[fo h,xW a (k+1) j]
   by_cases h1:k<=j
   ·rw[eu (by omega),eu h1,show j-k=(j-(k+1))+1 by omega,abe]
   ·rw[fo (by omega),fo h1]
def aF (P:Program) (A:cW) (fn:Func):Option (au×Nat×List RV×Bool) :=
 match fn.body with
 | some c=>match low P A c,mV P fn.results.toList with
  | some sc,some rs=>some (sc,fn.ntmps,rs,fn.name == "runtime.NumGoroutine")
  | _,_=>none
 | none=>none
end
inductive G where
 | int (k:IntKind) (n:Int)
 | bool (b:Bool)
 | str (s:ByteArray)
 | sl (sz:Nat) (l:List G)
 | st (l:List G)
mutual
def Rd (F:aA):G->List Value->Prop
 | .int k n,cs=>cs=[.int k n]/\(Lit.int k n).wf=true
 | .bool b,cs=>cs=[.bool b]
 | .str s,cs=>cs=[.string s]
 | .sl sz l,cs=>∃a c,cs=[.slice a l.length c]/\l.length<=c/\c<=maxLen/\(a=none->l=[]/\c=0)/\tK F a sz 0 l
 | .st l,cs=>mr F l cs
def tK (F:aA) (a:Option Addr) (sz:Nat):Nat->List G->Prop
 | _,[]=>True
 | i,x::l=>(∃es,es.length=sz/\dL F a (i*sz) es/\Rd F x es)/\tK F a sz (i+1) l
def mr (F:aA):List G->List Value->Prop
 | [],cs=>cs=[]
 | x::l,cs=>∃c1 c2,cs=c1++c2/\Rd F x c1/\mr F l c2
end
mutual
theorem Rd.mono {F F':aA}(hle:F.le F'):∀{g:G}{cs:List Value},Rd F g cs->Rd F' g cs
 | .int k n,cs,h=>h
 | .bool b,cs,h=>h
 | .str s,cs,h=>h
 | .sl sz l,cs,h=>by
  simp only[Rd] at h ⊢;obtain⟨a,c,h1,h2,h3,h4,h5⟩:=h;exact⟨a,c,h1,h2,h3,h4,tK.mono hle h5⟩
 | .st l,cs,h=>by
  simp only[Rd] at h ⊢;exact mr.mono hle h
theorem tK.mono {F F':aA}(hle:F.le F') {a:Option Addr}{sz:Nat}:∀{i:Nat}{l:List G},tK F a sz i l->tK F' a sz i l
 | _,[],h=>by simp only[tK]
 | i,x::l,h=>by
  simp only[tK] at h ⊢;obtain⟨⟨es,h1,h2,h3⟩,h4⟩:=h;exact⟨⟨es,h1,h2.mono hle,Rd.mono hle h3⟩,tK.mono hle h4⟩
theorem mr.mono {F F':aA}(hle:F.le F'):∀{l:List G}{cs:List Value},mr F l cs->mr F' l cs
 | [],cs,h=>by simp only[mr] at h ⊢;exact h
 | x::l,cs,h=>by
  simp only[mr] at h ⊢;obtain⟨c1,c2,h1,h2,h3⟩:=h;exact⟨c1,c2,h1,Rd.mono hle h2,mr.mono hle h3⟩
end
theorem xX {F:aA}{a:Option Addr}{sz:Nat}:∀{l:List G}{i:Nat},tK F a sz i l↔∀j x,l[j]?=some x->∃es,es.length=sz/\dL F a ((i+j)*sz) es/\Rd F x es
 | [],i=>by simp[tK]
 | x::l,i=>by
  simp only[tK,xX (l:=l)];constructor
  ·rintro⟨h1,c⟩ j y b;cases j with
   | zero=>simp only[aa3,xo] at b;subst b;simpa using h1
   | succ j =>
    simp only[abe] at b;have:=c j y b
    rwa [show i+1+j=i+(j+1) by omega] at this
  ·intro h;refine⟨by simpa using h 0 x (by simp),fun j y b=>?_⟩;have:=h (j+1) y (by simpa using b)
   rwa [show i+(j+1)=i+1+j by omega] at this
structure Sl (F:aA) (sz:Nat) (l:List G) (a:Option Addr) (c:Nat):Prop where
 cap:l.length<=c
 max:c<=maxLen
 nil:a=none->l=[]/\c=0
 elems:∀j x,l[j]?=some x->∃es,es.length=sz/\dL F a (j*sz) es/\Rd F x es
theorem Sl.mono {F F':aA}{sz:Nat}{l:List G}{a:Option Addr}{c:Nat}(h:Sl F sz l a c) (b:F.le F'):Sl F' sz l a c :=
 ⟨h.cap,h.max,h.nil,fun j x d=>let⟨es,h1,h2,h3⟩:=h.elems j x d;⟨es,h1,h2.mono b,h3.mono b⟩⟩
theorem QB {F:aA}{sz:Nat}{l:List G}{cs:List Value}:Rd F (.sl sz l) cs↔∃a c,cs=[.slice a l.length c]/\Sl F sz l a c:=by
 simp only[Rd];constructor
 ·rintro⟨a,c,h1,b,e,f,h⟩;exact⟨a,c,h1,b,e,f,fun j x d=>by have:=xX.1 h j x d;simpa using this⟩
 ·rintro⟨a,c,h1,b⟩;exact⟨a,c,h1,b.cap,b.max,b.nil,xX.2 fun j x d=>by have:=b.elems j x d;simpa using this⟩
theorem Sl.ne {F:aA}{sz:Nat}{l:List G}{a:Option Addr}{c:Nat}(h:Sl F sz l a c) (b:l≠[]):a≠none:=fun e=>b (h.nil e).1
theorem Sl.load {F F':aA}{L:Loc}{sz:Nat}{l:List G}{a:Option Addr}{c:Nat}{j:Nat}{x:G}{K:List Value->Prop}(h:Sl F sz l a c) (b:F.le F') (f:l[j]?=some x)
  (k:∀es,es.length=sz->Rd F' x es->K es):ku F' L a (j*sz) sz K:=by
 obtain⟨es,h1,e,d⟩:=h.elems j x f;exact⟨es,h1,.inl (e.mono b),k es h1 (d.mono b)⟩
theorem Sl.loadD {F F':aA}{sz:Nat}{l:List G}{a:Option Addr}{c:Nat}{j:Nat}{x:G}{K:List Value->Prop}(h:Sl F sz l a c) (b:F.le F') (d:l[j]?=some x)
  (k:∀es,es.length=sz->Rd F' x es->K es):jm F' a (j*sz) sz K:=by
 obtain⟨es,h1,f,e⟩:=h.elems j x d;exact⟨es,h1,.inl (f.mono b),k es h1 (e.mono b)⟩
theorem aq {b:Bool}{A B:Prop}(h:b=true->A) (k:b=false->B):zP b A B:=by cases b;exact k rfl;exact h rfl
theorem ah {p:Prop}[Decidable p] {A B:Prop}(h:p->A) (k:¬p->B):zP (decide p) A B:=by
 by_cases a:p
 ·simp only[a,decide_true];exact h a
 ·simp only[a,decide_false];exact k a
theorem Fit.aaf {n:Int}{K:Int->Prop}(h1:-9223372036854775808<=n) (a:n<=9223372036854775807) (h:K n):Fit .i64 n K:=by
 refine⟨?_⟩;have:IntKind.wrap .i64 n=n:=by
  simp only[IntKind.wrap,IntKind.bits,IntKind.signed,aaS,aaZ,ge_iff_le,Nat.reduceSub,Int.reducePow];split<;>omega
 rw[this];exact h
def RS (x:Value):aA->List Own->Value->Prop:=fun _ Lo v=>Lo=[]/\v=x
theorem RS.mono {x:Value}:∀F G L v,aA.le F G->RS x F L v->RS x G L v:=fun _ _ _ _ _ h=>h
theorem wf_i64 {n:Int}(h:(Lit.int .i64 n).wf=true):-9223372036854775808<=n/\n<=9223372036854775807:=by
 simpa[Lit.wf,IntKind.min,IntKind.max,IntKind.bits,IntKind.signed] using h
end Go.Fr
namespace Go.Fr.T
open Go Go.RowKit Go.Fr
inductive C where
 | int (k:IntKind) (n:Int)
 | bool (b:Bool)
 | str (s:ByteArray)
 | sl (els:List (List C))
 | slx (els:List (List C))
 | nils
 | rw(k:Nat)
 | own (k off:Nat)
 | ownv (k off:Nat)
 | pt (es:List C) (off:Nat)
 | elr (k j off:Nat)
 | fn (f:Nat) (fi ca:List C)
 | agg (cs:List C)
 | tup (cs:List C)
 | nilp
 | nilf
 | ifc (t:TypeId) (c:C)
 | opq (k:Nat)
 | mval (nm:String) (c:C)
 | mof (t:TypeId) (nm:String)
 | mpr (k:Nat)
 | und
 | any
 deriving Inhabited
inductive TO where
 | box (t:TypeId) (cs:List C)
 | row (t:TypeId) (sz:Nat) (els:List (List C))
 | map (es:List (C×C))
abbrev TL:=List (Nat×TO)
def TL.get:TL->Nat->Option TO
 | [],_=>none
 | (j,o)::l,k=>match Nat.beq j k with | true=>some o | false=>TL.get l k
def TL.set:TL->Nat->TO->TL
 | [],k,o=>[(k,o)]
 | (j,p)::l,k,o=>match Nat.beq j k with
  | true=>(k,o)::l
  | false=>match Nat.ble j k with
   | true=>(j,p)::TL.set l k o
   | false=>(k,o)::(j,p)::l
def TL.del:TL->Nat->TL
 | [],_=>[]
 | (j,o)::l,k=>match Nat.beq j k with | true=>TL.del l k | false=>(j,o)::TL.del l k
def TL.sub (L:TL):List Nat->Option (List TO)
 | []=>some []
 | k::ks=>match L.get k,TL.sub L ks with
  | some o,some l=>some (o::l)
  | _,_=>none
def TL.aae (L:TL):List Nat->TL
 | []=>L
 | k::ks=>TL.aae (L.del k) ks
def TL.puts (L:TL):List Nat->List TO->TL
 | k::ks,o::l=>TL.puts (L.set k o) ks l
 | _,_=>L
def ql:Nat->List TO->TL
 | _,[]=>[]
 | k,o::l=>(k,o)::ql (k+1) l
def cJ (l:List TO):TL:=ql 1000 l
def C.one:C->Bool
 | .int _ _=>true
 | .bool _=>true
 | .str _=>true
 | .sl _=>true
 | .slx _=>true
 | .nils=>true
 | .rw _=>true
 | .own _ _=>true
 | .pt _ _=>true
 | .fn _ _ _=>true
 | .nilp=>true
 | .nilf=>true
 | .ifc _ _=>true
 | .opq _=>true
 | .mval _ _=>true
 | .mof _ _=>true
 | .mpr _=>true
 | _=>false
def eT:List C->Bool
 | []=>true
 | c::l=>match c.one with | true=>eT l | false=>false
def C.aal:C->Bool
 | .int _ _=>true
 | .bool _=>true
 | .str _=>true
 | .sl _=>true
 | .slx _=>true
 | .nils=>true
 | .pt _ _=>true
 | .nilp=>true
 | .nilf=>true
 | .ifc _ _=>true
 | .opq _=>true
 | .mval _ _=>true
 | .mof _ _=>true
 | _=>false
def ju:List C->Bool
 | []=>true
 | c::l=>match c.aal with | true=>ju l | false=>false
def C.pure:C->Bool
 | .fn _ a b=>match ju a with | true=>ju b | false=>false
 | c=>c.aal
def iX:List C->Bool
 | []=>true
 | c::l=>match c.pure with | true=>iX l | false=>false
def C.mp (g:C->C):Nat->C->C
 | _,.int k n=>g (.int k n)
 | _,.bool b=>g (.bool b)
 | _,.str s=>g (.str s)
 | _,.sl els=>g (.sl els)
 | _,.slx els=>g (.slx els)
 | _,.nils=>g .nils
 | _,.rw j=>g (.rw j)
 | _,.own j o=>g (.own j o)
 | _,.ownv j o=>g (.ownv j o)
 | _,.pt es o=>g (.pt es o)
 | _,.elr j a b=>g (.elr j a b)
 | _,.nilp=>g .nilp
 | _,.nilf=>g .nilf
 | _,.ifc t c=>g (.ifc t c)
 | _,.opq k=>g (.opq k)
 | _,.mval d c=>g (.mval d c)
 | _,.mof t d=>g (.mof t d)
 | _,.mpr j=>g (.mpr j)
 | _,.und=>g .und
 | _,.any=>g .any
 | 0,.fn _ _ _=>.any
 | 0,.agg _=>.any
 | 0,.tup _=>.any
 | n+1,.fn f e h=>.fn f (e.map (C.mp g n)) (h.map (C.mp g n))
 | n+1,.agg cs=>.agg (cs.map (C.mp g n))
 | n+1,.tup cs=>.tup (cs.map (C.mp g n))
def gj (k:Nat):C->C
 | .int k n=>.int k n
 | .bool b=>.bool b
 | .str s=>.str s
 | .sl els=>.sl els
 | .slx els=>.slx els
 | .nils=>.nils
 | .rw j=>match Nat.beq j k with | true=>.any | false=>.rw j
 | .own j o=>.own j o
 | .ownv j o=>.ownv j o
 | .pt es o=>.pt es o
 | .elr j a b=>match Nat.beq j k with | true=>.any | false=>.elr j a b
 | .fn f e h=>.fn f e h
 | .agg cs=>.agg cs
 | .tup cs=>.tup cs
 | .nilp=>.nilp
 | .nilf=>.nilf
 | .ifc t c=>.ifc t c
 | .opq k=>.opq k
 | .mval d c=>.mval d c
 | .mof t d=>.mof t d
 | .mpr j=>.mpr j
 | .und=>.und
 | .any=>.any
def C.kill (k:Nat) (c:C):C:=C.mp (gj k) 3 c
def C.kills:List Nat->C->C
 | [],c=>c
 | k::ks,c=>C.kills ks (c.kill k)
def qm:C->C
 | .int k n=>.int k n
 | .bool b=>.bool b
 | .str s=>.str s
 | .sl els=>.sl els
 | .slx els=>.slx els
 | .nils=>.nils
 | .rw j=>.any
 | .own j o=>.own j o
 | .ownv j o=>.ownv j o
 | .pt es o=>.pt es o
 | .elr j a b=>.any
 | .fn f e h=>.fn f e h
 | .agg cs=>.agg cs
 | .tup cs=>.tup cs
 | .nilp=>.nilp
 | .nilf=>.nilf
 | .ifc t c=>.ifc t c
 | .opq k=>.opq k
 | .mval d c=>.mval d c
 | .mof t d=>.mof t d
 | .mpr j=>.mpr j
 | .und=>.und
 | .any=>.any
def C.aaL (c:C):C:=C.mp qm 3 c
def mW (k:Nat) (l:List (List C)):C->C
 | .int k n=>.int k n
 | .bool b=>.bool b
 | .str s=>.str s
 | .sl els=>.sl els
 | .slx els=>.slx els
 | .nils=>.nils
 | .rw j=>match Nat.beq j k with | true=>.sl l | false=>.rw j
 | .own j o=>.own j o
 | .ownv j o=>.ownv j o
 | .pt es o=>.pt es o
 | .elr j a b=>match Nat.beq j k with | true=>.any | false=>.elr j a b
 | .fn f e h=>.fn f e h
 | .agg cs=>.agg cs
 | .tup cs=>.tup cs
 | .nilp=>.nilp
 | .nilf=>.nilf
 | .ifc t c=>.ifc t c
 | .opq k=>.opq k
 | .mval d c=>.mval d c
 | .mof t d=>.mof t d
 | .mpr j=>.mpr j
 | .und=>.und
 | .any=>.any
def C.frz (k:Nat) (els:List (List C)) (c:C):C:=C.mp (mW k els) 3 c
def ri (k:Nat) (es:List C):C->C
 | .int k n=>.int k n
 | .bool b=>.bool b
 | .str s=>.str s
 | .sl els=>.sl els
 | .slx els=>.slx els
 | .nils=>.nils
 | .rw j=>.rw j
 | .own j o=>match Nat.beq j k with | true=>.pt es o | false=>.own j o
 | .ownv j o=>match Nat.beq j k with | true=>.pt es o | false=>.ownv j o
 | .pt es o=>.pt es o
 | .elr j a b=>.elr j a b
 | .fn f e h=>.fn f e h
 | .agg cs=>.agg cs
 | .tup cs=>.tup cs
 | .nilp=>.nilp
 | .nilf=>.nilf
 | .ifc t c=>.ifc t c
 | .opq k=>.opq k
 | .mval d c=>.mval d c
 | .mof t d=>.mof t d
 | .mpr j=>match Nat.beq j k with | true=>.any | false=>.mpr j
 | .und=>.und
 | .any=>.any
def C.frb (k:Nat) (es:List C) (c:C):C:=C.mp (ri k es) 3 c
def wR (r:Nat->Option Nat):C->C
 | .int k n=>.int k n
 | .bool b=>.bool b
 | .str s=>.str s
 | .sl els=>.sl els
 | .slx els=>.slx els
 | .nils=>.nils
 | .rw j=>match r j with | some i=>.rw i | none=>.any
 | .own j o=>match r j with | some i=>.own i o | none=>.any
 | .ownv j o=>match r j with | some i=>.own i o | none=>.any
 | .pt es o=>.pt es o
 | .elr j a b=>.any
 | .fn f e h=>.fn f e h
 | .agg cs=>.agg cs
 | .tup cs=>.tup cs
 | .nilp=>.nilp
 | .nilf=>.nilf
 | .ifc t c=>.ifc t c
 | .opq k=>.opq k
 | .mval d c=>.mval d c
 | .mof t d=>.mof t d
 | .mpr j=>match r j with | some i=>.mpr i | none=>.any
 | .und=>.und
 | .any=>.any
def C.ren (f:Nat->Option Nat) (c:C):C:=C.mp (wR f) 3 c
def TO.aad (g:C->C):TO->TO
 | .box t cs=>.box t (cs.map g)
 | .row t sz els=>.row t sz els
 | .map es=>.map es
def TL.aad (g:C->C):TL->TL
 | []=>[]
 | (k,o)::l=>(k,o.aad g)::TL.aad g l
def bB:List Nat->Nat->Nat->Option Nat
 | [],_,_=>none
 | k::ks,i,j=>match Nat.beq j k with | true=>some i | false=>bB ks (i+1) j
def aJ (ko:List Nat) (j:Nat):Option Nat:=match Nat.ble 1000 j with | true=>ko[j-1000]? | false=>none
def C.can:C->C
 | .int k n=>.int k n
 | .bool b=>.bool b
 | .str s=>.str s
 | .sl els=>.sl els
 | .slx els=>.sl els
 | .nils=>.sl []
 | .rw j=>.rw j
 | .own j o=>.own j o
 | .ownv j o=>.ownv j o
 | .pt es o=>.pt es o
 | .elr j a b=>.elr j a b
 | .fn f e h=>.fn f e h
 | .agg cs=>.agg cs
 | .tup cs=>.tup cs
 | .nilp=>.nilp
 | .nilf=>.nilf
 | .ifc t c=>.ifc t c
 | .opq k=>.opq k
 | .mval d c=>.mval d c
 | .mof t d=>.mof t d
 | .mpr j=>.mpr j
 | .und=>.und
 | .any=>.any
def C.aaj:C->C
 | .int k n=>.int k n
 | .bool b=>.bool b
 | .str s=>.str s
 | .sl els=>.sl els
 | .slx els=>.sl els
 | .nils=>.sl []
 | .rw j=>.rw j
 | .own j o=>.own j o
 | .ownv j o=>.ownv j o
 | .pt es o=>.pt es o
 | .elr j a b=>.elr j a b
 | .fn f e h=>.fn f e h
 | .agg cs=>.agg (cs.map C.can)
 | .tup cs=>.tup cs
 | .nilp=>.nilp
 | .nilf=>.nilf
 | .ifc t c=>.ifc t c
 | .opq k=>.opq k
 | .mval d c=>.mval d c
 | .mof t d=>.mof t d
 | .mpr j=>.mpr j
 | .und=>.und
 | .any=>.any
def C.aat:C->C
 | .int k n=>.int k n
 | .bool b=>.bool b
 | .str s=>.str s
 | .sl els=>.sl els
 | .slx els=>.sl els
 | .nils=>.sl []
 | .rw j=>.rw j
 | .own j o=>.own j o
 | .ownv j o=>.ownv j o
 | .pt es o=>.pt es o
 | .elr j a b=>.elr j a b
 | .fn f e h=>.fn f e h
 | .agg cs=>.agg (cs.map C.can)
 | .tup cs=>.tup (cs.map C.aaj)
 | .nilp=>.nilp
 | .nilf=>.nilf
 | .ifc t c=>.ifc t c
 | .opq k=>.opq k
 | .mval d c=>.mval d c
 | .mof t d=>.mof t d
 | .mpr j=>.mpr j
 | .und=>.und
 | .any=>.any
abbrev aM:=Nat->C
def bA (d:Option Nat) (c:C) (ρ:aM):aM :=
 match d with
 | some d=>fun j=>match Nat.beq j d with | true=>c | false=>ρ j
 | none=>ρ
def rT:Value->C
 | .int k n=>match(Lit.int k n).wf with | true=>.int k n | false=>.any
 | .bool b=>.bool b
 | .string s=>match Nat.ble s.size maxLen with | true=>.str s | false=>.any
 | .slice none 0 0=>.nils
 | .pointer none=>.nilp
 | .nilFunc=>.nilf
 | .nilIface=>.opq 0
 | .func (.methodOf t a) ⟨[]⟩ ⟨[]⟩=>.mof t a
 | _=>.any
def YG (a:String) (c:C):C :=
 match c with
 | .ifc t c=>.mval a (.ifc t c)
 | _=>.any
def cv:Value->C
 | .agg cs=>.agg (cs.toList.map rT)
 | v=>rT v
def cZ (ρ:aM):X->C
 | .t n=>ρ n
 | .c v=>cv v
 | .fn f=>.fn f [] []
 | .mt a n=>YG a (ρ n)
def C.cel:C->C
 | .int k n=>.int k n
 | .bool b=>.bool b
 | .str s=>.str s
 | .sl els=>.sl els
 | .slx els=>.slx els
 | .nils=>.nils
 | .rw j=>.rw j
 | .own j o=>.own j o
 | .ownv j o=>.own j o
 | .pt es o=>.pt es o
 | .elr j a b=>.any
 | .fn f e h=>.fn f e h
 | .agg cs=>.agg cs
 | .tup cs=>.tup cs
 | .nilp=>.nilp
 | .nilf=>.nilf
 | .ifc t c=>.ifc t c
 | .opq k=>.opq k
 | .mval d c=>.mval d c
 | .mof t d=>.mof t d
 | .mpr j=>.mpr j
 | .und=>.und
 | .any=>.any
def C.slt:C->C
 | .int k n=>.int k n
 | .bool b=>.bool b
 | .str s=>.str s
 | .sl els=>.sl els
 | .slx els=>.slx els
 | .nils=>.nils
 | .rw j=>.rw j
 | .own j o=>.ownv j o
 | .ownv j o=>.ownv j o
 | .pt es o=>.pt es o
 | .elr j a b=>.elr j a b
 | .fn f e h=>.fn f e h
 | .agg cs=>.agg cs
 | .tup cs=>.tup cs
 | .nilp=>.nilp
 | .nilf=>.nilf
 | .ifc t c=>.ifc t c
 | .opq k=>.opq k
 | .mval d c=>.mval d c
 | .mof t d=>.mof t d
 | .mpr j=>.mpr j
 | .und=>.und
 | .any=>.any
def C.aaC:C->C
 | .int k n=>.int k n
 | .bool b=>.bool b
 | .str s=>.str s
 | .sl els=>.sl els
 | .slx els=>.slx els
 | .nils=>.nils
 | .rw j=>.rw j
 | .own j o=>.own j o
 | .ownv j o=>.own j o
 | .pt es o=>.pt es o
 | .elr j a b=>.elr j a b
 | .fn f e h=>.fn f e h
 | .agg cs=>.agg cs
 | .tup cs=>.tup cs
 | .nilp=>.nilp
 | .nilf=>.nilf
 | .ifc t c=>.ifc t c
 | .opq k=>.opq k
 | .mval d c=>.mval d c
 | .mof t d=>.mof t d
 | .mpr j=>.mpr j
 | .und=>.und
 | .any=>.any
def C.okc:C->Bool
 | .any=>false
 | .und=>false
 | .elr _ _ _=>false
 | .tup _=>false
 | _=>true
def cO:C->List C
 | .int k n=>[.int k n]
 | .bool b=>[.bool b]
 | .str s=>[.str s]
 | .sl els=>[.sl els]
 | .slx els=>[.slx els]
 | .nils=>[.nils]
 | .rw j=>[.rw j]
 | .own j o=>[.own j o]
 | .ownv j o=>[.own j o]
 | .pt es o=>[.pt es o]
 | .elr j a b=>[.any]
 | .fn f e h=>[.fn f e h]
 | .agg cs=>cs
 | .tup cs=>[.tup cs]
 | .nilp=>[.nilp]
 | .nilf=>[.nilf]
 | .ifc t c=>[.ifc t c]
 | .opq k=>[.opq k]
 | .mval d c=>[.mval d c]
 | .mof t d=>[.mof t d]
 | .mpr j=>[.mpr j]
 | .und=>[.und]
 | .any=>[.any]
def fq:List C->Nat->Bool
 | [],0=>true
 | _::l,n+1=>fq l n
 | _,_=>false
def Fj (agg:Bool) (cs:List C):C :=
 match agg,cs with
 | true,cs=>.agg cs
 | false,[c]=>c.slt
 | false,_=>.any
def fA (ρ:aM):List X->List C
 | []=>[]
 | x::xs=>(cZ ρ x).cel::fA ρ xs
def uW (ρ:aM):List X->List (List C)
 | []=>[]
 | x::xs=>(cO (cZ ρ x)).map C.can::uW ρ xs
def qo (ρ:aM) (sz:Nat):List X->Bool
 | []=>true
 | x::xs=>match(cZ ρ x).okc,fq (cO (cZ ρ x)) sz,eT (cO (cZ ρ x)),iX (cO (cZ ρ x)) with
  | true,true,true,true=>qo ρ sz xs
  | _,_,_,_=>false
def jo (cs:List C) (off:Nat) (a:List C):List C:=cs.take off++a++cs.drop (off+a.length)
def uX (ρ:aM):List C->List (Nat×Nat×X)->Option (List C)
 | zs,[]=>some zs
 | zs,(off,n,x)::ps=>match(cZ ρ x).okc,fq (cO (cZ ρ x)) n with
  | true,true=>uX ρ (jo zs off (cO (cZ ρ x))) ps
  | _,_=>none
def Nz (ρ:aM) (d:Int):Option X->Option Int
 | none=>some d
 | some x=>match cZ ρ x with | .int _ i=>some i | _=>none
def VA (mx:Bool):Int->List C->Option Int
 | a,[]=>some a
 | a,.int _ b::l=>VA mx (match mx with | true=>if b>a then b else a | false=>if b<a then b else a) l
 | _,_=>none
abbrev Kg (b:UInt8):C:=.int .u8 b.toNat
def Fl (a:List UInt8):List (List C):=a.map fun b=>[Kg b]
def fc (c:C) (K:C->Prop):Prop :=
 match c with
 | .int k n=>K (.int k n)
 | .bool b=>K (.bool b)
 | .str s=>K (.str s)
 | .sl els=>K (.sl els)
 | .slx els=>K (.slx els)
 | .nils=>K .nils
 | .rw k=>K (.rw k)
 | .own k off=>K (.own k off)
 | .ownv k off=>K (.ownv k off)
 | .pt es off=>K (.pt es off)
 | .elr k j off=>K (.elr k j off)
 | .fn f d e=>K (.fn f d e)
 | .agg cs=>K (.agg cs)
 | .tup cs=>K (.tup cs)
 | .nilp=>K .nilp
 | .nilf=>K .nilf
 | .ifc t c=>K (.ifc t c)
 | .opq k=>K (.opq k)
 | .mval a c=>K (.mval a c)
 | .mof t a=>K (.mof t a)
 | .mpr j=>K (.mpr j)
 | .und=>K .und
 | .any=>K .any
def fl:List C->(List C->Prop)->Prop
 | [],K=>K []
 | c::cs,K=>fc c fun c=>fl cs fun cs=>K (c::cs)
def fO:TO->(TO->Prop)->Prop
 | .box t cs,K=>fl cs fun cs=>K (.box t cs)
 | .row t sz els,K=>K (.row t sz els)
 | .map es,K=>K (.map es)
def fT:TL->(TL->Prop)->Prop
 | [],K=>K []
 | (k,o)::l,K=>fO o fun o=>fT l fun l=>K ((k,o)::l)
def AP (c:C) (K:C->Prop):Prop :=
 match c with
 | .agg cs=>fl cs fun cs=>K (.agg cs)
 | c=>fc c K
theorem QC {c:C}{K:C->Prop}:fc c K=K c:=by cases c<;>rfl
theorem fu:∀{cs:List C}{K:List C->Prop},fl cs K=K cs
 | [],K=>rfl
 | c::cs,K=>by simp only[fl,QC,fu]
theorem Tx {o:TO}{K:TO->Prop}:fO o K=K o:=by cases o<;>simp only[fO,fu]
theorem gk:∀{L:TL}{K:TL->Prop},fT L K=K L
 | [],K=>rfl
 | (k,o)::l,K=>by simp only[fT,Tx,gk]
theorem eZ {c:C}{K:C->Prop}:AP c K=K c:=by cases c<;>simp only[AP,fu,QC]
mutual
/-- the bounds that all data of the machine keeps -/
def Wf:C->Prop
 | .int k n=>(Lit.int k n).wf=true
 | .str s=>s.size<=maxLen
 | .sl els=>els.length<=maxLen/\xY els
 | .slx els=>els.length<=maxLen/\xY els
 | .pt es _=>uO es
 | .fn _ fi ca=>uO fi/\uO ca
 | .agg cs=>uO cs
 | .tup cs=>uO cs
 | _=>True
def uO:List C->Prop
 | []=>True
 | c::l=>Wf c/\uO l
def xY:List (List C)->Prop
 | []=>True
 | es::l=>uO es/\xY l
end
def V0:List (C×C)->Prop
 | []=>True
 | (k,v)::l=>Wf k/\Wf v/\V0 l
def TO.Wf:TO->Prop
 | .box _ cs=>uO cs
 | .row _ _ els=>xY els
 | .map es=>V0 es
structure uY (els:List (List C)) (i:Int) (sz:Nat) (K:List C->Prop):Prop where
 out:∃es,0<=i/\els[i.toNat]?=some es/\fq es sz=true/\K es
structure Fm (els:List (List C)) (j off n:Nat) (K:List C->Prop):Prop where
 out:∃es,els[j]?=some es/\fq ((es.drop off).take n) n=true/\K ((es.drop off).take n)
structure V1 (els:List (List C)) (K:List UInt8->Prop):Prop where
 out:∃bs,els=Fl bs/\K bs
structure Tz (l h:Int) (els:List (List C)) (sz:Nat) (K:Nat->Nat->Prop):Prop where
 lo:0<=l
 le:l<=h
 hi:h<=els.length
 sizes:∀es∈els,es.length=sz
 out:K l.toNat h.toNat
structure wz (els news:List (List C)) (sz bytes:Nat) (K:Prop):Prop where
 sizes:∀es∈news,es.length=sz
 max:els.length+news.length<=maxLen
 room:(els.length+news.length)*bytes<=140737488355328
 out:K
def jQ:Bool->C->C->Option Bool
 | false,.int .i64 a,.int .i64 b=>some (decide (a=b))
 | true,.str a,.str b=>some (decide (a.data.toList=b.data.toList))
 | _,_,_=>none
def Kh:Bool->C->Bool
 | false,.int .i64 _=>true
 | true,.str _=>true
 | _,_=>false
def vT (str:Bool) (key:C):List (C×C)->Option (Option C)
 | []=>some none
 | (k,v)::l=>match jQ str key k with
  | some true=>some (some v)
  | some false=>vT str key l
  | none=>none
def Fp (str:Bool) (key val:C):List (C×C)->Option (List (C×C))
 | []=>some [(key,val)]
 | (k,v)::l=>match jQ str key k with
  | some true=>some ((key,val)::l)
  | some false=>match Fp str key val l with | some l'=>some ((k,v)::l') | none=>none
  | none=>none
structure xZ (str:Bool) (es:List (C×C)) (key:C) (Y:C->Prop) (N:Prop):Prop where
 out:(∃v,vT str key es=some (some v)/\Y v)\/(vT str key es=some none/\N)
structure QD (str:Bool) (es:List (C×C)) (key val:C) (K:List (C×C)->Prop):Prop where
 out:∃es',Fp str key val es=some es'/\K es'
structure V2 (i:Int) (K:Nat->Prop):Prop where
 out:∃m:Nat,i=m/\K m
def x5:List Nat->TL->aM->List C->(TL->aM->List C->Prop)->Prop
 | [],L,ρ,a,K=>K L ρ a
 | k::ks,L,ρ,a,K=>match L.get k with
  | some (.row _ _ els)=>x5 ks ((L.del k).aad (C.frz k els)) (fun j=>(ρ j).frz k els) (a.map (C.frz k els)) K
  | _=>False
def rj (L:TL):C->Bool
 | .rw k=>match L.get k with | some (.row _ _ _)=>true | _=>false
 | .own k _=>match L.get k with | some (.box _ _)=>true | _=>false
 | .mpr k=>match L.get k with | some (.map _)=>true | _=>false
 | .ownv _ _=>false
 | .elr _ _ _=>false
 | _=>true
def fF (L:TL):Nat->C->Bool
 | n+1,.agg cs=>cs.all (fF L n)
 | n+1,.tup cs=>cs.all (fF L n)
 | n+1,.fn _ a b=>a.all (fF L n)&&b.all (fF L n)
 | 0,.agg _=>false
 | 0,.tup _=>false
 | 0,.fn _ _ _=>false
 | _,c=>rj L c
def NA (L L1:TL) (c a:C):Prop :=
 a=.any\/(c=a/\fF L1 3 a=true)\/(c=.nils/\a=.sl [])\/(c=.nils/\∃k t sz,a=.rw k/\L.get k=none/\L1.get k=some (.row t sz []))\/∃els,c=.slx els/\a=.sl els
def Ki (L L1:TL):List C->List C->Prop
 | [],l=>l=[]
 | c::cs,l=>∃a cs',l=a::cs'/\NA L L1 c a/\Ki L L1 cs cs'
def QE (L1:TL):TO->Bool
 | .box _ cs=>cs.all (fF L1 3)
 | .row _ _ _=>true
 | .map _=>true
def V3 (L L1:TL) (o o':TO):Prop:=(o=o'/\QE L1 o'=true)\/∃t cs cs',o=.box t cs/\o'=.box t cs'/\Ki L L1 cs cs'
def gives (L L1:TL):TL->Prop
 | []=>True
 | (k,o)::l=>((∃p,L.get k=some p/\V3 L L1 p o)\/(L.get k=none/\∃t sz,o=.row t sz []))/\gives L L1 l
def nA (L L1:TL):List Nat->List C->aM->Prop
 | k::ks,v::a,ρ=>NA L L1 (ρ k) v/\nA L L1 ks a ρ
 | _,_,_=>True
def qp:List Nat->List C->aM->aM
 | k::ks,v::a,ρ=>bA (some k) v (qp ks a ρ)
 | _,_,ρ=>ρ
def aS:List Nat->Bool
 | []=>true
 | k::ks=>match fC ks k with | true=>false | false=>aS ks
def NC (F:aA) (b o off:Nat) (d:List Value):Prop :=
 ∃a c t e,F b=some (.cells c t e)/\o=a+off/\∀(i:Nat) (v:Value),d[i]?=some v->c[a+i]?=some v
mutual
def Rel (F:aA):Loc->C->Value->Prop
 | _,.int k n,v=>v=.int k n/\(Lit.int k n).wf=true
 | _,.bool b,v=>v=.bool b
 | _,.str s,v=>v=.string s/\s.size<=maxLen
 | _,.sl els,v=>∃a c,v=.slice a els.length c/\els.length<=c/\els.length<=maxLen/\(a=none->els=[]/\c=0)/\∃sz,gK F a sz 0 els
 | _,.slx els,v=>∃a,v=.slice (some a) els.length els.length/\els.length<=maxLen/\∃sz,gK F (some a) sz 0 els
 | _,.nils,v=>v=.slice none 0 0
 | L,.rw k,v=>∃a c t sz n xs,v=.slice a n c/\L.get k=some (.row v t sz n xs)
 | L,.own k off,v=>∃g t cs,L.get k=some (.box g t cs)/\v=.pointer (some ⟨g,off,none⟩)
 | _,.pt es off,v=>∃b o vs,v=.pointer (some ⟨b,o,none⟩)/\NC F b o off vs/\eT es=true/\aB F [] es vs
 | L,.fn f fi ca,v=>∃fi' ca',v=.func (.func f) fi'.toArray ca'.toArray/\aB F L fi fi'/\aB F L ca ca'
 | L,.agg cs,v=>∃vs,v=.agg vs.toArray/\aB F L cs vs
 | L,.tup cs,v=>∃vs,v=.tuple vs.toArray/\aB F L cs vs
 | _,.nilp,v=>v=.pointer none
 | _,.nilf,v=>v=.nilFunc
 | _,.ifc t c,v=>∃u,v=.iface t u/\Rel F [] c u
 | _,.opq k,v=>gX k F v
 | _,.mval nm c,v=>∃u,v=.func (.method nm) #[u] #[]/\Rel F [] c u
 | _,.mof t nm,v=>v=.func (.methodOf t nm) #[] #[]
 | L,.mpr k,v=>∃g cs,L.get k=some (.box g 0 cs)/\v=.map (some g)
 | _,.und,v=>v=undef
 | _,.any,_=>True
 | _,.ownv _ _,_=>False
 | _,.elr _ _ _,_=>False
def aB (F:aA):Loc->List C->List Value->Prop
 | _,[],vs=>vs=[]
 | L,c::cs,vs=>∃v vs',vs=v::vs'/\Rel F L c v/\aB F L cs vs'
def gK (F:aA) (a:Option Addr) (sz:Nat):Nat->List (List C)->Prop
 | _,[]=>True
 | i,es::l=>(∃vs,vs.length=sz/\dL F a (i*sz) vs/\eT es=true/\aB F [] es vs)/\gK F a sz (i+1) l
end
def aP (F:aA) (sz:Nat):List (List C)->List Value->Prop
 | [],xs=>xs=[]
 | es::l,xs=>∃b a,xs=b++a/\b.length=sz/\eT es=true/\aB F [] es b/\aP F sz l a
def tyOk (t g a:Nat):Prop:=a<1048576/\(t=a\/t=(g+1)*1048576+a)/\a≠0
def fM (F:aA):List (C×C)->List Value->Prop
 | [],b=>b=[]
 | (k,c)::l,b=>∃kv v a,b=.agg #[kv,v]::a/\Rel F [] k kv/\Rel F [] c v/\fM F l a
def cK (F:aA) (L:Loc):TO->Own->Prop
 | .box t cs,.box g b d=>tyOk t g b/\aB F L cs d
 | .row t sz els,.row v b e n xs=>t=b/\sz=e/\n=els.length/\(n<=maxLen/\∃a c,v=.slice a n c/\(a=none->n=0))/\aP F sz els xs
 | .map es,.box g b d=>b=0/\fM F es d
 | _,_=>False
def x7 (F:aA) (L:Loc):Option TO->Option Own->Prop
 | none,none=>True
 | some to,some o=>cK F L to o
 | _,_=>False
def bS (F:aA) (L:Loc) (M:TL):Prop:=∀k,x7 F L (M.get k) (L.get k)
def VB (sv:SV) (v:Value):Prop:=sv=.v v\/∃b o j,sv=.el (some ⟨b,o,none⟩) j/\v=.pointer (some ⟨b,o+j,none⟩)
def aN (F:aA) (L:Loc):C->SV->Prop
 | .own k off,sv=>sv=.own k off/\∃g t cs,L.get k=some (.box g t cs)
 | .pt es off,sv=>∃b o j d,(sv=.v (.pointer (some ⟨b,o,none⟩))/\j=0\/sv=.el (some ⟨b,o,none⟩) j)/\NC F b (o+j) off d/\eT es=true/\aB F [] es d
 | .elr k j off,sv=>∃a t sz n c xs,sv=.el (some a) (j*sz+off)/\L.get k=some (.row (.slice (some a) n c) t sz n xs)
 | .ownv k off,sv=>∃v,VB sv v/\Rel F L (.own k off) v
 | .any,_=>True
 | c,sv=>∃v,sv=.v v/\Rel F L c v
def Kp (G:Nat->Option (Nat×TypeId)) (L:Loc):Prop:=∀k g t,G k=some (g,t)->∃cs,L.get k=some (.box g t cs)
structure TS (G:Nat->Option (Nat×TypeId)) (F:aA) (L:Loc) (ρ:Env) (M:TL) (τ:aM):Prop where
 tl:bS F L M
 env:∀j,aN F L (τ j) (ρ j)
 kp:Kp G L
 glob:s6 F
def Own.like:Own->Own->Prop
 | .box g t _,.box b c _=>g=b/\t=c
 | .row v _ sz n _,.row e _ a d _=>v=e/\sz=a/\n=d
 | _,_=>False
theorem Own.aah:∀o:Own,Own.like o o
 | .box ..=>⟨rfl,rfl⟩
 | .row ..=>⟨rfl,rfl,rfl⟩
theorem NC.mono {F F':aA}(h:F.le F') {b o off:Nat}{e:List Value}(c:NC F b o off e):NC F' b o off e:=by
 obtain⟨a,d,t,j,h1,f⟩:=c;exact⟨a,d,t,j,h _ _ h1,f⟩
mutual
theorem Rel.mono {F F':aA}(h:F.le F'):∀{L:Loc}{c:C}{v:Value},Rel F L c v->Rel F' L c v
 | _,.int k n,v,r=>r
 | _,.bool b,v,r=>r
 | _,.str s,v,r=>r
 | _,.sl els,v,r=>by
  simp only[Rel] at r ⊢;obtain⟨a,c,h1,h2,h3,h4,sz,h5⟩:=r;exact⟨a,c,h1,h2,h3,h4,sz,gK.mono h h5⟩
 | _,.slx els,v,r=>by
  simp only[Rel] at r ⊢;obtain⟨a,h1,h2,sz,h5⟩:=r;exact⟨a,h1,h2,sz,gK.mono h h5⟩
 | _,.nils,v,r=>r
 | L,.rw k,v,r=>by simp only[Rel] at r ⊢;exact r
 | L,.own k off,v,r=>by simp only[Rel] at r ⊢;exact r
 | _,.pt es off,v,r=>by
  simp only[Rel] at r ⊢;obtain⟨b,o,vs,h1,h2,h3,h4⟩:=r;exact⟨b,o,vs,h1,h2.mono h,h3,aB.mono h h4⟩
 | L,.fn f fi ca,v,r=>by
  simp only[Rel] at r ⊢;obtain⟨fi',ca',h1,h2,h3⟩:=r;exact⟨fi',ca',h1,aB.mono h h2,aB.mono h h3⟩
 | L,.agg cs,v,r=>by
  simp only[Rel] at r ⊢;obtain⟨vs,h1,h2⟩:=r;exact⟨vs,h1,aB.mono h h2⟩
 | L,.tup cs,v,r=>by
  simp only[Rel] at r ⊢;obtain⟨vs,h1,h2⟩:=r;exact⟨vs,h1,aB.mono h h2⟩
 | _,.nilp,v,r=>r
 | _,.nilf,v,r=>r
 | _,.ifc t c,v,r=>by
  simp only[Rel] at r ⊢;obtain⟨u,h1,h2⟩:=r;exact⟨u,h1,Rel.mono h h2⟩
 | _,.opq k,v,r=>by
  simp only[Rel] at r ⊢;exact r.mono h
 | _,.mval nm c,v,r=>by
  simp only[Rel] at r ⊢;obtain⟨u,h1,h2⟩:=r;exact⟨u,h1,Rel.mono h h2⟩
 | _,.mof t nm,v,r=>r
 | L,.mpr k,v,r=>by simp only[Rel] at r ⊢;exact r
 | _,.und,v,r=>r
 | _,.any,v,r=>trivial
 | _,.ownv _ _,v,r=>r
 | _,.elr _ _ _,v,r=>r
theorem aB.mono {F F':aA}(h:F.le F'):∀{L:Loc}{cs:List C}{vs:List Value},aB F L cs vs->aB F' L cs vs
 | _,[],vs,r=>by simp only[aB] at r ⊢;exact r
 | L,c::cs,vs,r=>by
  simp only[aB] at r ⊢;obtain⟨v,vs',h1,h2,h3⟩:=r;exact⟨v,vs',h1,Rel.mono h h2,aB.mono h h3⟩
theorem gK.mono {F F':aA}(h:F.le F') {a:Option Addr}{sz:Nat}:∀{i:Nat}{l:List (List C)},gK F a sz i l->gK F' a sz i l
 | _,[],r=>by simp only[gK]
 | i,es::l,r=>by
  simp only[gK] at r ⊢;obtain⟨⟨vs,h1,h2,h3,h4⟩,h5⟩:=r;exact⟨⟨vs,h1,h2.mono h,h3,aB.mono h h4⟩,gK.mono h h5⟩
end
theorem aP.mono {F F':aA}(h:F.le F') {sz:Nat}:∀{l:List (List C)}{xs:List Value},aP F sz l xs->aP F' sz l xs
 | [],xs,r=>r
 | es::l,xs,r=>by
  simp only[aP] at r ⊢;obtain⟨c,a,h1,d,b,e,f⟩:=r;exact⟨c,a,h1,d,b,e.mono h,aP.mono h f⟩
theorem fM.mono {F F':aA}(h:F.le F'):∀{l:List (C×C)}{a:List Value},fM F l a->fM F' l a
 | [],a,r=>r
 | (k,c)::l,a,r=>by
  simp only[fM] at r ⊢;obtain⟨kv,v,b,h1,e,d,f⟩:=r;exact⟨kv,v,b,h1,e.mono h,d.mono h,fM.mono h f⟩
theorem cK.mono {F F':aA}(h:F.le F') {L:Loc}:∀{o:TO}{p:Own},cK F L o p->cK F' L o p
 | .box t cs,.box g a b,r=>⟨r.1,r.2.mono h⟩
 | .row t sz els,.row v a c n xs,r=>⟨r.1,r.2.1,r.2.2.1,r.2.2.2.1,r.2.2.2.2.mono h⟩
 | .box _ _,.row ..,r=>r.elim
 | .row ..,.box ..,r=>r.elim
 | .map _,.row ..,r=>r.elim
 | .map es,.box g a b,r=>⟨r.1,r.2.mono h⟩
theorem bS.mono {F F':aA}(h:F.le F') {L:Loc}{M:TL}(r:bS F L M):bS F' L M:=by
 intro k;have:=r k
 revert this
 cases M.get k<;>cases L.get k<;>simp only[x7]<;>first | exact fun h=>h | exact fun r=>r.mono h
theorem aN.mono {F F':aA}(h:F.le F') {L:Loc}{c:C}{sv:SV}(r:aN F L c sv):aN F' L c sv:=by
 cases c<;>simp only[aN] at r ⊢
 case own=>exact r
 case pt =>
  obtain⟨b,o,j,d,h1,a,e,f⟩:=r;exact⟨b,o,j,d,h1,a.mono h,e,f.mono h⟩
 case elr=>exact r
 all_goals
  obtain⟨v,h1,a⟩:=r;exact⟨v,h1,a.mono h⟩
theorem mA {F:aA}{L:Loc}:∀{cs:List C}{a:List Value},aB F L cs a↔a.length=cs.length/\∀(i:Nat) c v,cs[i]?=some c->a[i]?=some v->Rel F L c v
 | [],a=>by
  simp only[aB];constructor
  ·rintro rfl;simp
  ·rintro⟨h,_⟩;exact List.length_eq_zero_iff.1 (by simpa using h)
 | c::cs,a=>by
  simp only[aB,mA (cs:=cs)];constructor
  ·rintro⟨v,b,rfl,h1,f,l⟩;refine⟨by simp[f],fun i k j d e=>?_⟩;cases i with
   | zero=>simp only[aa3,xo] at d e;subst d e;exact h1
   | succ i=>exact l i k j (by simpa using d) (by simpa using e)
  ·rintro⟨h1,f⟩
   match a,h1 with
   | v::b,h1=>exact⟨v,b,rfl,f 0 c v (by simp) (by simp),by simpa using h1,fun i k j d e=>f (i+1) k j (by simpa using d) (by simpa using e)⟩
theorem aB.len {F:aA}{L:Loc}{cs:List C}{a:List Value}(h:aB F L cs a):a.length=cs.length:=(mA.1 h).1
theorem aB.at {F:aA}{L:Loc}{cs:List C}{a:List Value}(h:aB F L cs a) {i:Nat}{c:C}{v:Value}(b:cs[i]?=some c) (d:a[i]?=some v):Rel F L c v:=(mA.1 h).2 i c v b d
theorem aB.append {F:aA}{L:Loc}{cs ds:List C}{a us:List Value}(h:aB F L cs a) (k:aB F L ds us):aB F L (cs++ds) (a++us):=by
 induction cs generalizing a with
 | nil=>simp only[aB] at h;subst h;exact k
 | cons c cs d =>
  simp only[aB] at h;obtain⟨v,b,rfl,h1,e⟩:=h;simp only[aa1,aB];exact⟨v,_,rfl,h1,d e⟩
theorem aB.drop {F:aA}{L:Loc}{cs:List C}{a:List Value}(h:aB F L cs a) (n:Nat):aB F L (cs.drop n) (a.drop n):=by
 rw[mA] at h ⊢;refine⟨by simp[h.1],fun i c v b d=>?_⟩;rw[abx] at b d;exact h.2 _ _ _ b d
theorem aB.take {F:aA}{L:Loc}{cs:List C}{d:List Value}(h:aB F L cs d) (n:Nat):aB F L (cs.take n) (d.take n):=by
 rw[mA] at h ⊢;refine⟨by simp[h.1],fun i c v a b=>?_⟩;rw[abD] at a b;split at a
 ·rw[eu (by assumption)] at b;exact h.2 _ _ _ a b
 ·cases a
theorem nS {F:aA}{a:Option Addr}{sz:Nat}:∀{l:List (List C)}{i:Nat},gK F a sz i l↔∀(j:Nat) es,l[j]?=some es->∃c,c.length=sz/\dL F a ((i+j)*sz) c/\eT es=true/\aB F [] es c
 | [],i=>by simp[gK]
 | x::l,i=>by
  simp only[gK,nS (l:=l)];constructor
  ·rintro⟨h1,d⟩ j y b;cases j with
   | zero=>simp only[aa3,xo] at b;subst b;simpa using h1
   | succ j =>
    simp only[abe] at b;have:=d j y b
    rwa [show i+1+j=i+(j+1) by omega] at this
  ·intro h;refine⟨by simpa using h 0 x (by simp),fun j y b=>?_⟩;have:=h (j+1) y (by simpa using b)
   rwa [show i+(j+1)=i+1+j by omega] at this
theorem iE {F:aA}{sz:Nat}:∀{l:List (List C)}{xs:List Value},aP F sz l xs->xs.length=l.length*sz
 | [],xs,h=>by simp only[aP] at h;subst h;simp
 | es::l,xs,h=>by
  simp only[aP] at h;obtain⟨d,c,rfl,b,_,_,a⟩:=h;simp only[abI,iE a,b,aa5,Nat.add_mul];omega
theorem aP.append {F:aA}{sz:Nat}:∀{l m:List (List C)}{xs a:List Value},aP F sz l xs->aP F sz m a->aP F sz (l++m) (xs++a)
 | [],m,xs,a,h,k=>by simp only[aP] at h;subst h;exact k
 | es::l,m,xs,a,h,k=>by
  simp only[aP] at h;obtain⟨d,b,rfl,f,c,j,e⟩:=h;simp only[aa1,aP];exact⟨d,b++a,by simp,f,c,j,aP.append e k⟩
theorem aP.at {F:aA}{sz:Nat}:∀{l:List (List C)}{xs:List Value},aP F sz l xs->∀{j:Nat}{es:List C},l[j]?=some es->∃a,a.length=sz/\eT es=true/\aB F [] es a/\∀(i:Nat) v,a[i]?=some v->xs[j*sz+i]?=some v
 | [],xs,h,j,es,e=>by simp at e
 | x::l,xs,h,j,es,e=>by
  simp only[aP] at h;obtain⟨a,n,rfl,c,f,d,p⟩:=h;cases j with
  | zero =>
   simp only[aa3,xo] at e;subst e;refine⟨a,c,f,d,fun i v b=>?_⟩;have:i<a.length:=(aaR.1 b).1;rw[Nat.zero_mul,Nat.zero_add,abF this];exact b
  | succ j =>
   obtain⟨us,k1,m,k,o⟩:=aP.at p (by simpa using e);refine⟨us,k1,m,k,fun i v b=>?_⟩;rw[abG (by rw[c,Nat.add_mul];omega),show(j+1)*sz+i-a.length=j*sz+i by rw[c,Nat.add_mul];omega];exact o i v b
theorem aP.frz {F:aA}{sz:Nat}{l:List (List C)}{xs:List Value}(h:aP F sz l xs) {a:Addr}(hf:dL F (some a) 0 xs):gK F (some a) sz 0 l:=by
 rw[nS];intro j es he;obtain⟨m,h1,p,f,d⟩:=h.at he;refine⟨m,h1,?_,p,f⟩;obtain⟨k,c,t,q,e,hb,b,n⟩:=hf;refine⟨k,c,t,q,e,hb,b,fun i v o=>?_⟩;have:=n (j*sz+i) v (d i v o);simpa[Nat.add_assoc] using this
theorem nT:∀{l:List C},eT l=true↔∀c∈l,c.one=true
 | []=>by simp[eT]
 | c::l=>by
  simp only[eT];cases h:c.one
  ·simp[h]
  ·simp[h,nT]
theorem x9:∀{l:List C},iX l=true↔∀c∈l,c.pure=true
 | []=>by simp[iX]
 | c::l=>by
  simp only[iX];cases h:c.pure
  ·simp[h]
  ·simp[h,x9]
theorem qq:∀{l:List C},ju l=true↔∀c∈l,c.aal=true
 | []=>by simp[ju]
 | c::l=>by
  simp only[ju];cases h:c.aal
  ·simp[h]
  ·simp[h,qq]
theorem Rel.one {F:aA}{L:Loc}{c:C}{v:Value}(h:Rel F L c v) (d:c.one=true):v.oneCell'=true:=by
 cases c<;>simp only[C.one,aa2] at d<;>simp only[Rel] at h
 case int=>obtain⟨rfl,_⟩:=h;rfl
 case bool=>subst h;rfl
 case str=>obtain⟨rfl,_⟩:=h;rfl
 case sl=>obtain⟨a,c,rfl,_⟩:=h;rfl
 case slx=>obtain⟨a,rfl,_⟩:=h;rfl
 case nils=>subst h;rfl
 case own=>obtain⟨g,t,cs,_,rfl⟩:=h;rfl
 case pt=>obtain⟨b,o,e,rfl,_⟩:=h;rfl
 case fn=>obtain⟨a,b,rfl,_⟩:=h;rfl
 case nilp=>subst h;rfl
 case nilf=>subst h;rfl
 case ifc=>obtain⟨u,rfl,_⟩:=h;rfl
 case opq=>exact h.one
 case mval=>obtain⟨u,rfl,_⟩:=h;rfl
 case mof=>subst h;rfl
 case mpr=>obtain⟨g,cs,_,rfl⟩:=h;rfl
 case rw=>obtain⟨a,c,t,sz,n,xs,rfl,_⟩:=h;rfl
mutual
theorem Rel.wf {F:aA}:∀{L:Loc}{c:C}{v:Value},Rel F L c v->Wf c
 | _,.int k n,v,r=>by simp only[Rel] at r;simp only[Wf];exact r.2
 | _,.bool b,v,r=>by simp only[Wf]
 | _,.str s,v,r=>by simp only[Rel] at r;simp only[Wf];exact r.2
 | _,.sl els,v,r=>by
  simp only[Rel] at r;obtain⟨a,c,h1,h2,h3,h4,sz,h5⟩:=r;simp only[Wf];exact⟨h3,gK.wf h5⟩
 | _,.slx els,v,r=>by
  simp only[Rel] at r;obtain⟨a,h1,h2,sz,h5⟩:=r;simp only[Wf];exact⟨h2,gK.wf h5⟩
 | _,.nils,v,r=>by simp only[Wf]
 | L,.rw k,v,r=>by simp only[Wf]
 | L,.own k off,v,r=>by simp only[Wf]
 | _,.pt es off,v,r=>by
  simp only[Rel] at r;obtain⟨b,o,vs,h1,h2,h3,h4⟩:=r;simp only[Wf];exact aB.wf h4
 | L,.fn f fi ca,v,r=>by
  simp only[Rel] at r;obtain⟨fi',ca',h1,h2,h3⟩:=r;simp only[Wf];exact⟨aB.wf h2,aB.wf h3⟩
 | L,.agg cs,v,r=>by
  simp only[Rel] at r;obtain⟨vs,h1,h2⟩:=r;simp only[Wf];exact aB.wf h2
 | L,.tup cs,v,r=>by
  simp only[Rel] at r;obtain⟨vs,h1,h2⟩:=r;simp only[Wf];exact aB.wf h2
 | _,.nilp,v,r=>by simp only[Wf]
 | _,.nilf,v,r=>by simp only[Wf]
 | _,.ifc _ _,v,r=>by simp only[Wf]
 | _,.opq _,v,r=>by simp only[Wf]
 | _,.mval _ _,v,r=>by simp only[Wf]
 | _,.mof _ _,v,r=>by simp only[Wf]
 | _,.mpr _,v,r=>by simp only[Wf]
 | _,.und,v,r=>by simp only[Wf]
 | _,.any,v,r=>by simp only[Wf]
 | _,.ownv _ _,v,r=>by simp only[Wf]
 | _,.elr _ _ _,v,r=>by simp only[Wf]
theorem aB.wf {F:aA}:∀{L:Loc}{cs:List C}{vs:List Value},aB F L cs vs->uO cs
 | _,[],vs,r=>by simp only[uO]
 | L,c::cs,vs,r=>by
  simp only[aB] at r;obtain⟨v,vs',h1,h2,h3⟩:=r;simp only[uO];exact⟨Rel.wf h2,aB.wf h3⟩
theorem gK.wf {F:aA}{a:Option Addr}{sz:Nat}:∀{i:Nat}{l:List (List C)},gK F a sz i l->xY l
 | _,[],r=>by simp only[xY]
 | i,es::l,r=>by
  simp only[gK] at r;obtain⟨⟨vs,h1,h2,h3,h4⟩,h5⟩:=r;simp only[xY];exact⟨aB.wf h4,gK.wf h5⟩
end
theorem aP.wf {F:aA}{sz:Nat}:∀{l:List (List C)}{xs:List Value},aP F sz l xs->xY l
 | [],xs,r=>by simp only[xY]
 | es::l,xs,r=>by
  simp only[aP] at r;obtain⟨e,b,h1,f,d,a,c⟩:=r;simp only[xY];exact⟨a.wf,c.wf⟩
theorem fM.wf {F:aA}:∀{l:List (C×C)}{a:List Value},fM F l a->V0 l
 | [],a,r=>trivial
 | (k,c)::l,a,r=>by
  simp only[fM] at r;obtain⟨kv,v,f,h1,d,b,e⟩:=r;exact⟨d.wf,b.wf,fM.wf e⟩
theorem cK.wf {F:aA}{L:Loc}:∀{o:TO}{p:Own},cK F L o p->o.Wf
 | .box t cs,.box g a b,r=>r.2.wf
 | .row t sz els,.row v a c n xs,r=>r.2.2.2.2.wf
 | .box _ _,.row ..,r=>r.elim
 | .row ..,.box ..,r=>r.elim
 | .map _,.row ..,r=>r.elim
 | .map es,.box g a b,r=>r.2.wf
def C.leaf:C->Bool
 | .fn _ _ _=>false
 | .agg _=>false
 | .tup _=>false
 | _=>true
theorem wS {g:C->C}{n:Nat}{c:C}(h:c.leaf=true):C.mp g n c=g c:=by
 cases c<;>first | (cases n<;>rfl;done) | cases h
theorem aB.map {F F':aA}{L L':Loc}{g:C->C}:∀{cs:List C}{a:List Value},(∀c∈cs,∀v,Rel F L c v->Rel F' L' (g c) v)->aB F L cs a->aB F' L' (cs.map g) a
 | [],a,b,h=>by simp only[aB] at h;subst h;simp only[abC,aB]
 | c::cs,a,b,h=>by
  simp only[aB] at h;obtain⟨v,d,rfl,h1,e⟩:=h;simp only[aaX,aB];exact⟨v,d,rfl,b c (by simp) v h1,aB.map (fun c f=>b c (by simp[f])) e⟩
theorem Rel.mp {F F':aA}{L L':Loc}{g:C->C}(b:∀c v,c.leaf=true->Rel F L c v->Rel F' L' (g c) v):∀(n:Nat) {c:C}{v:Value},Rel F L c v->Rel F' L' (C.mp g n c) v
 | 0,c,v,h=>by
  cases a:c.leaf
  ·cases c<;>simp only[C.leaf,Bool.true_eq_false] at a<;>simp only[C.mp,Rel]
  ·rw[wS a];exact b c v a h
 | n+1,c,v,h=>by
  cases a:c.leaf
  ·cases c<;>simp only[C.leaf,Bool.true_eq_false] at a<;>simp only[Rel] at h<;>simp only[C.mp,Rel]
   ·obtain⟨e,j,h1,d,k⟩:=h;exact⟨e,j,h1,d.map fun c _ v=>Rel.mp b n,k.map fun c _ v=>Rel.mp b n⟩
   ·obtain⟨f,h1,d⟩:=h;exact⟨f,h1,d.map fun c _ v=>Rel.mp b n⟩
   ·obtain⟨f,h1,d⟩:=h;exact⟨f,h1,d.map fun c _ v=>Rel.mp b n⟩
  ·rw[wS a];exact b c v a h
theorem aN.mp {F F':aA}{L L':Loc}{g:C->C}(e:∀c v,c.leaf=true->Rel F L c v->Rel F' L' (g c) v) (b:∀c sv,c.leaf=true->aN F L c sv->aN F' L' (g c) sv) (n:Nat) {c:C}{sv:SV}
  (h:aN F L c sv):aN F' L' (C.mp g n c) sv:=by
 cases a:c.leaf
 ·have d:∃v,sv=.v v/\Rel F L c v:=by cases c<;>simp only[C.leaf,Bool.true_eq_false] at a<;>exact h
  obtain⟨v,rfl,h1⟩:=d;have f:=Rel.mp e n h1;cases n with
  | zero=>cases c<;>simp only[C.leaf,Bool.true_eq_false] at a<;>simp only[C.mp,aN]
  | succ n=>cases c<;>simp only[C.leaf,Bool.true_eq_false] at a<;>exact⟨v,rfl,f⟩
 ·rw[wS a];exact b c sv a h
def Ext (L L':Loc):Prop:=∀k o,L.get k=some o->∃o',L'.get k=some o'/\Own.like o o'
theorem Ext.refl (L:Loc):Ext L L:=fun k o h=>⟨o,h,Own.aah o⟩
theorem bL {F F':aA}{L L':Loc}(hF:F.le F') {c:C}{v:Value}(j:∀k,(∃off,c=.own k off)\/c=.rw k\/c=.mpr k->∀o,L.get k=some o->∃o',L'.get k=some o'/\Own.like o o') (r:c.leaf=true) (h:Rel F L c v):Rel F' L' c v:=by
 cases c<;>simp only[C.leaf,aa2] at r
 case rw k =>
  simp only[Rel] at h ⊢;obtain⟨a,c,t,sz,n,xs,rfl,h⟩:=h;obtain⟨o',h1,d⟩:=j k (.inr (.inl rfl)) _ h;cases o' with
  | box=>exact d.elim
  | row y m w x s=>obtain⟨rfl,rfl,rfl⟩:=d;exact⟨_,_,_,_,_,_,rfl,h1⟩
 case mpr k =>
  simp only[Rel] at h ⊢;obtain⟨g,cs,h,rfl⟩:=h;obtain⟨o',h1,d⟩:=j k (.inr (.inr rfl)) _ h;cases o' with
  | row=>exact d.elim
  | box p m cs'=>obtain⟨rfl,rfl⟩:=d;exact⟨_,_,h1,rfl⟩
 case own k off =>
  simp only[Rel] at h ⊢;obtain⟨g,t,cs,h,rfl⟩:=h;obtain⟨o',h1,d⟩:=j k (.inl ⟨off,rfl⟩) _ h;cases o' with
  | row=>exact d.elim
  | box p m cs'=>obtain⟨rfl,rfl⟩:=d;exact⟨_,_,_,h1,rfl⟩
 case sl =>
  simp only[Rel] at h ⊢;obtain⟨a,c,h1,d,f,e,sz,l⟩:=h;exact⟨a,c,h1,d,f,e,sz,l.mono hF⟩
 case slx =>
  simp only[Rel] at h ⊢;obtain⟨a,h1,d,sz,l⟩:=h;exact⟨a,h1,d,sz,l.mono hF⟩
 case pt =>
  simp only[Rel] at h ⊢;obtain⟨b,o,q,h1,d,f,e⟩:=h;exact⟨b,o,q,h1,d.mono hF,f,e.mono hF⟩
 case ifc =>
  simp only[Rel] at h ⊢;obtain⟨u,h1,d⟩:=h;exact⟨u,h1,d.mono hF⟩
 case opq =>
  simp only[Rel] at h ⊢;exact h.mono hF
 case mval =>
  simp only[Rel] at h ⊢;obtain⟨u,h1,d⟩:=h;exact⟨u,h1,d.mono hF⟩
 all_goals
  first
   | exact h
   | (simp only[Rel] at h ⊢;done)
mutual
theorem Rel.ext {F F':aA}(hF:F.le F') {L L':Loc}(hk:Ext L L'):∀{c:C}{v:Value},Rel F L c v->Rel F' L' c v
 | .fn f fi ca,v,r=>by
  simp only[Rel] at r ⊢;obtain⟨fi',ca',h1,h2,h3⟩:=r;exact⟨fi',ca',h1,aB.ext hF hk h2,aB.ext hF hk h3⟩
 | .agg cs,v,r=>by
  simp only[Rel] at r ⊢;obtain⟨vs,h1,h2⟩:=r;exact⟨vs,h1,aB.ext hF hk h2⟩
 | .tup cs,v,r=>by
  simp only[Rel] at r ⊢;obtain⟨vs,h1,h2⟩:=r;exact⟨vs,h1,aB.ext hF hk h2⟩
 | .int _ _,v,r=>bL hF (fun k _=>hk k) rfl r
 | .bool _,v,r=>bL hF (fun k _=>hk k) rfl r
 | .str _,v,r=>bL hF (fun k _=>hk k) rfl r
 | .sl _,v,r=>bL hF (fun k _=>hk k) rfl r
 | .slx _,v,r=>bL hF (fun k _=>hk k) rfl r
 | .nils,v,r=>bL hF (fun k _=>hk k) rfl r
 | .rw _,v,r=>bL hF (fun k _=>hk k) rfl r
 | .own _ _,v,r=>bL hF (fun k _=>hk k) rfl r
 | .pt _ _,v,r=>bL hF (fun k _=>hk k) rfl r
 | .nilp,v,r=>bL hF (fun k _=>hk k) rfl r
 | .nilf,v,r=>bL hF (fun k _=>hk k) rfl r
 | .ifc _ _,v,r=>bL hF (fun k _=>hk k) rfl r
 | .opq _,v,r=>bL hF (fun k _=>hk k) rfl r
 | .mval _ _,v,r=>bL hF (fun k _=>hk k) rfl r
 | .mof _ _,v,r=>bL hF (fun k _=>hk k) rfl r
 | .mpr _,v,r=>bL hF (fun k _=>hk k) rfl r
 | .und,v,r=>bL hF (fun k _=>hk k) rfl r
 | .any,v,r=>by simp only[Rel]
 | .ownv _ _,v,r=>r.elim
 | .elr _ _ _,v,r=>r.elim
theorem aB.ext {F F':aA}(hF:F.le F') {L L':Loc}(hk:Ext L L'):∀{cs:List C}{vs:List Value},aB F L cs vs->aB F' L' cs vs
 | [],vs,r=>by simp only[aB] at r ⊢;exact r
 | c::cs,vs,r=>by
  simp only[aB] at r ⊢;obtain⟨v,vs',h1,h2,h3⟩:=r;exact⟨v,vs',h1,Rel.ext hF hk h2,aB.ext hF hk h3⟩
end
theorem Ext.nil (L:Loc):Ext [] L:=fun k o h=>by cases h
theorem aB.lift {F:aA}{L:Loc}{cs:List C}{a:List Value}(h:aB F [] cs a):aB F L cs a:=h.ext (aA.le_refl F) (Ext.nil L)
theorem Rel.lift {F:aA}{L:Loc}{c:C}{v:Value}(h:Rel F [] c v):Rel F L c v:=h.ext (aA.le_refl F) (Ext.nil L)
theorem dK {F F':aA}{L L':Loc}(hF:F.le F') {c:C}{sv:SV}(l:∀k,(∃off,c=.own k off)\/(∃off,c=.ownv k off)\/c=.rw k\/(∃j off,c=.elr k j off)\/c=.mpr k->∀o,L.get k=some o->∃o',L'.get k=some o'/\Own.like o o') (u:c.leaf=true) (h:aN F L c sv):aN F' L' c sv:=by
 cases c<;>simp only[C.leaf,aa2] at u
 case own k off =>
  simp only[aN] at h ⊢;obtain⟨rfl,g,t,cs,h⟩:=h;obtain⟨o',h1,d⟩:=l k (.inl ⟨off,rfl⟩) _ h;cases o' with
  | row=>exact d.elim
  | box z r cs'=>exact⟨rfl,_,_,_,h1⟩
 case ownv k off =>
  simp only[aN] at h ⊢;obtain⟨v,w,h⟩:=h;refine⟨v,w,bL hF (fun m a=>l m ?_) rfl h⟩;rcases a with⟨f,e⟩ | e | e
  ·injection e with e1 e2;subst e1;exact .inr (.inl ⟨off,rfl⟩)
  ·cases e
  ·cases e
 case pt =>
  simp only[aN] at h ⊢;obtain⟨b,o,j,s,h1,d,q,p⟩:=h;exact⟨b,o,j,s,h1,d.mono hF,q,p.mono hF⟩
 case elr k j off =>
  simp only[aN] at h ⊢;obtain⟨ad,t,sz,n,c,xs,rfl,h⟩:=h;obtain⟨o',h1,d⟩:=l k (.inr (.inr (.inr (.inl ⟨_,_,rfl⟩)))) _ h;cases o' with
  | box=>exact d.elim
  | row v' r x n' y =>
   obtain⟨rfl,rfl,rfl⟩:=d;exact⟨_,_,_,_,_,_,rfl,h1⟩
 all_goals first | (simp only[aN];done) | skip
 all_goals
  simp only[aN] at h ⊢;obtain⟨v,rfl,h⟩:=h;refine⟨v,rfl,bL hF (fun m a=>l m ?_) rfl h⟩;rcases a with⟨f,e⟩ | e | e
  ·cases e
  ·first | cases e;exact .inr (.inr (.inl rfl)) | cases e
  ·first | cases e;exact .inr (.inr (.inr (.inr rfl))) | cases e
theorem aN.ext {F F':aA}{L L':Loc}(hF:F.le F') (b:Ext L L') {c:C}{sv:SV}(h:aN F L c sv):aN F' L' c sv:=by
 cases a:c.leaf
 ·have e:∃v,sv=.v v/\Rel F L c v:=by cases c<;>simp only[C.leaf,Bool.true_eq_false] at a<;>exact h
  obtain⟨v,rfl,h1⟩:=e;have d:=h1.ext hF b;cases c<;>simp only[C.leaf,Bool.true_eq_false] at a<;>exact⟨v,rfl,d⟩
 ·exact dK hF (fun k _=>b k) a h
theorem cK.ext {F F':aA}{L L':Loc}(hF:F.le F') (b:Ext L L'):∀{o:TO}{p:Own},cK F L o p->cK F' L' o p
 | .box t cs,.box g a c,r=>⟨r.1,r.2.ext hF b⟩
 | .row t sz els,.row v a d n xs,r=>⟨r.1,r.2.1,r.2.2.1,r.2.2.2.1,r.2.2.2.2.mono hF⟩
 | .box _ _,.row ..,r=>r.elim
 | .row ..,.box ..,r=>r.elim
 | .map _,.row ..,r=>r.elim
 | .map es,.box g a c,r=>⟨r.1,r.2.mono hF⟩
def gP (Li:List Own) (R:List TO->C->Prop):aA->List Own->Value->Prop:=fun F Lo v =>
 ∃Mo c,Mo.length=Lo.length/\bS F (inp Lo) (cJ Mo)/\Rel F (inp Lo) c v/\(∀(i:Nat) g t cs,Li[i]?=some (.box g t cs)->∃cs',Lo[i]?=some (.box g t cs'))/\R Mo c
structure CallsT (P:Program) (f:Nat) (args:List C) (Lin:List TO) (R:List TO->C->Prop):Prop where
 out:∀(F:aA) (Li:List Own) (vs:List Value),Li.length=Lin.length->bS F (inp Li) (cJ Lin)->aB F (inp Li) args vs->CallsA P f vs.toArray F Li (gP Li R)
structure CallsTX (P:Program) (f:Nat) (args:List C) (Lin:List TO) (R:List TO->C->Prop) (Pp:Value->Prop):Prop where
 out:∀(F:aA) (Li:List Own) (vs:List Value),Li.length=Lin.length->bS F (inp Li) (cJ Lin)->aB F (inp Li) args vs->oH P f vs.toArray F Li (gP Li R) Pp
theorem CallsT.toX {P:Program}{f:Nat}{args:List C}{Lin:List TO}{R:List TO->C->Prop}{Pp:Value->Prop}(h:CallsT P f args Lin R):CallsTX P f args Lin R Pp:=⟨fun F Li a h1 c b=>(h.out F Li a h1 c b).toX⟩
def aK:List TO->List Nat->List Nat->Bool
 | .box _ _::l,k::ks,a::ko=>match Nat.beq k a with | true=>aK l ks ko | false=>false
 | .box _ _::_,_,_=>false
 | .map _::l,k::ks,a::ko=>match Nat.beq k a with | true=>aK l ks ko | false=>false
 | .map _::_,_,_=>false
 | .row _ _ _::l,_::ks,_::ko=>aK l ks ko
 | .row _ _ _::l,_::ks,[]=>aK l ks []
 | .row _ _ _::_,[],_=>false
 | [],_,_=>true
def jI (L:TL) (ks:List Nat):List Nat->Bool
 | []=>true
 | k::ko=>match fC ks k,L.get k with
  | true,_=>jI L ks ko
  | false,none=>jI L ks ko
  | false,some _=>false
def covers:TL->TL->Bool
 | [],_=>true
 | (k,_)::l,L1=>match L1.get k with | some _=>covers l L1 | none=>false
def oU:TL->TL->Bool
 | [],_=>true
 | (k,.box _ _)::l,L1=>match L1.get k with | some (.box _ _)=>oU l L1 | _=>false
 | (k,.map _)::l,L1=>match L1.get k with | some (.map _)=>oU l L1 | _=>false
 | (_,.row _ _ _)::l,L1=>oU l L1
def TL.kills (ks:List Nat) (L:TL):TL:=match ks with | []=>L | _=>L.aad (C.kills ks)
def dF (ks:List Nat) (ρ:aM):aM:=match ks with | []=>ρ | _=>fun j=>(ρ j).kills ks
def rowsOf (L:TL):List Nat->List Nat
 | []=>[]
 | k::ks=>match L.get k with
  | some (.row _ _ _)=>k::rowsOf L ks
  | _=>rowsOf L ks
def RT (Li Lo:List Own):Prop:=Lo.length=Li.length/\∀(i:Nat) o,Li[i]?=some o->∃o',Lo[i]?=some o'/\Own.like o o'
structure fG (P:Program) (f:Nat) (args:List C) (Lin:List TO) (R:List TO->C->Prop):Prop where
 out:∀(F:aA) (Li:List Own) (vs:List Value),Li.length=Lin.length->bS F (inp Li) (cJ Lin)->aB F (inp Li) args vs->CallsA P f vs.toArray F Li (fun F' Lo v=>gP Li R F' Lo v/\RT Li Lo)
inductive qt (P:Program) (f:Nat) (args:List C) (L:TL) (ρ:aM) (K:TL->aM->C->Prop):Prop
 | mk (out:∃(fz ks ko:List Nat),x5 fz L ρ args fun L ρ args =>
  ∃(L1:TL) (Lin:List TO) (R:List TO->C->Prop),(L1=L\/(gives L L1 L1/\covers L L1=true))/\L1.sub ks=some Lin/\aS ks=true/\aS ko=true/\jI L1 ks ko=true/\aK Lin ks ko=true /\
   CallsT P f (args.map fun c=>c.aaj.ren (bB ks 1000)) (Lin.map (TO.aad (C.ren (bB ks 1000)))) R /\
   ∀v Mo,R Mo v->Wf v->(∀o∈Mo,o.Wf)->ko.length=Mo.length /\
    K (((L1.aae ks).kills (rowsOf L1 ks)).puts ko (Mo.map (TO.aad (C.ren (aJ ko))))) (dF (rowsOf L1 ks) ρ) (v.ren (aJ ko)).slt)
 | inpl (ks:List Nat) (Lin:List TO) (R:List TO->C->Prop) (hs:L.sub ks=some Lin) (hn:aS ks=true) (h:fG P f (args.map fun c=>c.aaj.ren (bB ks 1000)) (Lin.map (TO.aad (C.ren (bB ks 1000)))) R)
   (k:∀v Mo,R Mo v->Wf v->(∀o∈Mo,o.Wf)->ks.length=Mo.length/\K ((L.aae ks).puts ks (Mo.map (TO.aad (C.ren (aJ ks))))) ρ (v.ren (aJ ks)).slt)
structure nU where
 ps:Value->Prop
 hb:List (Nat×Nat):=[]
 st:Option (TL->Value->Prop):=none
def jJ (L:TL) (ks:List Nat):List (Nat×Nat)->Bool
 | []=>true
 | (k,n)::l=>match fC ks k,L.get k with
  | false,some (.box _ cs)=>match fq cs n with | true=>jJ L ks l | false=>false
  | _,_=>false
structure lq (P:Program) (PS:nU) (f:Nat) (args:List C) (L:TL) (ρ:aM) (K:TL->aM->C->Prop):Prop where
 out:∃(fz ks ko:List Nat),x5 fz L ρ args fun L ρ args =>
  ∃(L1:TL) (Lin:List TO) (R:List TO->C->Prop) (Pp:Value->Prop),(L1=L\/(gives L L1 L1/\covers L L1=true))/\L1.sub ks=some Lin/\aS ks=true/\aS ko=true/\jI L1 ks ko=true/\aK Lin ks ko=true/\jJ L1 ks PS.hb=true /\
   CallsTX P f (args.map fun c=>c.aaj.ren (bB ks 1000)) (Lin.map (TO.aad (C.ren (bB ks 1000)))) R Pp/\(∀v,Pp v->PS.ps v) /\
   ∀v Mo,R Mo v->Wf v->(∀o∈Mo,o.Wf)->ko.length=Mo.length /\
    K (((L1.aae ks).kills (rowsOf L1 ks)).puts ko (Mo.map (TO.aad (C.ren (aJ ko))))) (dF (rowsOf L1 ks) ρ) (v.ren (aJ ko)).slt
structure CallsTS (P:Program) (f:Nat) (args:List C) (Lin:List TO) (R:List TO->C->Prop) (Pp:List TO->Value->Prop):Prop where
 out:∀(F:aA) (Li:List Own) (vs:List Value),Li.length=Lin.length->bS F (inp Li) (cJ Lin)->aB F (inp Li) args vs->wM P f vs.toArray F Li (gP Li R) (fun F' Lo v=>∃Mo,Mo.length=Lo.length/\bS F' (inp Lo) (cJ Mo)/\Pp Mo v)
structure Fq (P:Program) (ps:Value->Prop) (hb:List (Nat×Nat)) (st:TL->Value->Prop) (f:Nat) (args:List C) (L:TL) (ρ:aM) (K:TL->aM->C->Prop):Prop where
 out:∃(ks ko:List Nat) (L1:TL) (Lin:List TO) (R:List TO->C->Prop) (Pp:List TO->Value->Prop),(L1=L\/(gives L L1 L1/\covers L L1=true))/\L1.sub ks=some Lin/\aS ks=true/\aS ko=true/\jI L1 ks ko=true/\aK Lin ks ko=true/\jJ L1 ks hb=true /\
   CallsTS P f (args.map fun c=>c.aaj.ren (bB ks 1000)) (Lin.map (TO.aad (C.ren (bB ks 1000)))) R Pp /\
   (∀v Mo,Pp Mo v->(∀o∈Mo,o.Wf)->ks.length=Mo.length->ps v/\st (((L1.aae ks).kills (rowsOf L1 ks)).puts ks (Mo.map (TO.aad (C.ren (aJ ks))))) v) /\
   ∀v Mo,R Mo v->Wf v->(∀o∈Mo,o.Wf)->ko.length=Mo.length /\
    K (((L1.aae ks).kills (rowsOf L1 ks)).puts ko (Mo.map (TO.aad (C.ren (aJ ko))))) (dF (rowsOf L1 ks) ρ) (v.ren (aJ ko)).slt
def yc:List C->Option (List Value)
 | []=>some []
 | .int k n::l=>match yc l with | some vs=>some (.int k n::vs) | none=>none
 | .bool b::l=>match yc l with | some vs=>some (.bool b::vs) | none=>none
 | .str s::l=>match yc l with | some vs=>some (.string s::vs) | none=>none
 | _=>none
def DG:C->Option Value
 | .ifc t (.int k n)=>some (.iface t (.int k n))
 | .ifc t (.bool b)=>some (.iface t (.bool b))
 | .ifc t (.str s)=>some (.iface t (.string s))
 | .ifc t (.agg cs)=>match yc cs with | some vs=>some (.iface t (.agg vs.toArray)) | none=>none
 | _=>none
structure TA (PS:nU) (L:TL) (c:C):Prop where
 out:∃v,DG c=some v/\jJ L [] PS.hb=true/\PS.ps v
structure V4 (ps:Value->Prop) (hb:List (Nat×Nat)) (st:TL->Value->Prop) (L:TL) (c:C):Prop where
 out:∃v,DG c=some v/\jJ L [] hb=true/\ps v/\st L v
inductive Cd (P:Program) (f:Nat) (args:List C) (L:TL) (ρ:aM) (K:TL->aM->C->Prop):Prop
 | mk (out:∃(ks ko:List Nat) (Lin:List TO) (R:List TO->C->Prop),L.sub ks=some Lin/\aS ks=true/\aS ko=true/\jI L ks ko=true/\aK Lin ks ko=true /\
   CallsT P f (args.map fun c=>c.aaj.ren (bB ks 1000)) (Lin.map (TO.aad (C.ren (bB ks 1000)))) R /\
   ∀v Mo,R Mo v->Wf v->(∀o∈Mo,o.Wf)->ko.length=Mo.length /\
    K (((L.aae ks).kills (rowsOf L ks)).puts ko (Mo.map (TO.aad (C.ren (aJ ko))))) (dF (rowsOf L ks) ρ) (v.ren (aJ ko)).slt)
 | inpl (ks:List Nat) (Lin:List TO) (R:List TO->C->Prop) (hs:L.sub ks=some Lin) (hn:aS ks=true) (h:fG P f (args.map fun c=>c.aaj.ren (bB ks 1000)) (Lin.map (TO.aad (C.ren (bB ks 1000)))) R)
   (k:∀v Mo,R Mo v->Wf v->(∀o∈Mo,o.Wf)->ks.length=Mo.length/\K ((L.aae ks).puts ks (Mo.map (TO.aad (C.ren (aJ ks))))) ρ (v.ren (aJ ks)).slt)
def qu:List Nat->List Nat->Bool
 | [],_=>true
 | k::ks,a=>match fC a k with | true=>false | false=>qu ks a
structure oV (P:Program) (PS:nU) (fb:List Nat) (f:Nat) (args:List C) (L:TL) (ρ:aM) (K:TL->aM->C->Prop):Prop where
 out:∃(ks:List Nat) (Lin:List TO) (R:List TO->C->Prop) (Pp:Value->Prop),L.sub ks=some Lin/\aS ks=true/\qu ks fb=true/\aK Lin ks ks=true/\jJ L ks PS.hb=true /\
   CallsTX P f (args.map fun c=>c.aaj.ren (bB ks 1000)) (Lin.map (TO.aad (C.ren (bB ks 1000)))) R Pp/\(∀v,Pp v->PS.ps v) /\
   ∀v Mo,R Mo v->Wf v->(∀o∈Mo,o.Wf)->ks.length=Mo.length /\
    K (((L.aae ks).kills (rowsOf L ks)).puts ks (Mo.map (TO.aad (C.ren (aJ ks))))) (dF (rowsOf L ks) ρ) (v.ren (aJ ks)).slt
structure tL (P:Program) (ps:Value->Prop) (hb:List (Nat×Nat)) (st:TL->Value->Prop) (fb:List Nat) (f:Nat) (args:List C) (L:TL) (ρ:aM) (K:TL->aM->C->Prop):Prop where
 out:∃(ks:List Nat) (Lin:List TO) (R:List TO->C->Prop) (Pp:List TO->Value->Prop),L.sub ks=some Lin/\aS ks=true/\qu ks fb=true/\aK Lin ks ks=true/\jJ L ks hb=true /\
   CallsTS P f (args.map fun c=>c.aaj.ren (bB ks 1000)) (Lin.map (TO.aad (C.ren (bB ks 1000)))) R Pp /\
   (∀v Mo,Pp Mo v->(∀o∈Mo,o.Wf)->ks.length=Mo.length->ps v/\st (TL.puts [] ks (Mo.map (TO.aad (C.ren (aJ ks))))) v) /\
   ∀v Mo,R Mo v->Wf v->(∀o∈Mo,o.Wf)->ks.length=Mo.length /\
    K (((L.aae ks).kills (rowsOf L ks)).puts ks (Mo.map (TO.aad (C.ren (aJ ks))))) (dF (rowsOf L ks) ρ) (v.ren (aJ ks)).slt
def DH (P:Program) (f:Nat):Prop:=∃fn,P.funcs[f]?=some fn/\fn.body.isSome=true/\(fn.name == "runtime.NumGoroutine")=false
structure TB (P:Program) (f:Nat) (args:List C) (t sz:Nat) (els:List (List C)) (x:C):Prop where
 out:∀(F:aA) (rv:Value) (xs vs:List Value),cK F (inp [.row rv t sz els.length xs]) (.row t sz els) (.row rv t sz els.length xs)->aB F (inp [.row rv t sz els.length xs]) args vs ->
  CallsA P f vs.toArray F [.row rv t sz els.length xs] (fun F' Lo v=>Lo=[.row rv t sz els.length xs]/\Rel F' (inp []) x v)
inductive uZ (P:Program) (f:Nat) (args:List C) (L:TL) (ρ:aM) (d:Option Nat) (K:TL->aM->C->Prop):Prop
 | frz (R:List TO->C->Prop) (h:CallsT P f (args.map fun c=>c.aaj.ren (bB [] 1000)) [] R) (k:∀v Mo,R Mo v->Wf v->Mo=[]/\K L ρ v.slt)
 | own (R:List TO->C->Prop) (k:Nat) (h:CallsT P f (args.map fun c=>c.aaj.ren (bB [] 1000)) [] R) (hd:d=some k) (hk:L.get k=none)
   (kk:∀v Mo,R Mo v->Wf v->(∀o∈Mo,o.Wf)->∃o,Mo=[o]/\K (L.set k (o.aad (C.ren (aJ [k])))) ρ (v.ren (aJ [k])).slt)
 | row (R:List TO->C->Prop) (kr t sz:Nat) (els:List (List C)) (he:DH P f) (hk:L.get kr=some (.row t sz els)) (h:CallsT P f (args.map fun c=>(c.frz kr els).aaj.ren (bB [] 1000)) [] R)
   (kk:∀v Mo,R Mo v->Wf v->Mo=[]/\K ((L.aad (C.kill kr)).set kr (.row t sz [])) (fun j=>(ρ j).kill kr) v.slt)
 | lent (kr t sz:Nat) (els:List (List C)) (x:C) (hk:L.get kr=some (.row t sz els)) (h:TB P f (args.map fun c=>c.aaj.ren (bB [kr] 1000)) t sz els x) (k:Wf x->K L ρ x.slt)
def RW:Value->C
 | .int k n=>.int k n
 | .bool b=>.bool b
 | .string s=>.str s
 | _=>.any
def isNil:X->Bool
 | .c (.slice none 0 0)=>true
 | _=>false
def u4:List Bool->List C->List C->Bool->Option Bool
 | [],[],[],c=>some c
 | true::ks,.int k a::l,.int e b::d,c=>match pY k e with | true=>u4 ks l d (c&&decide (a=b)) | false=>none
 | false::ks,.bool a::l,.bool b::d,c=>u4 ks l d (c&&decide (a=b))
 | _,_,_,_=>none
structure RX (P:Program) (t:TypeId) (nm:String) (K:Nat->Prop):Prop where
 out:∃f,tj P t nm=some f/\K f
def QF (P:Program) (t:TypeId):Bool:=match P.underlying t with | some (.interface _)=>true | _=>false
def Ce (ρ:aM):List (Nat×Nat×X)->List C->(List C->Prop)->Prop
 | [],zs,K=>K zs
 | (off,n,x)::ps,zs,K=>match(cZ ρ x).okc,fq (cO (cZ ρ x)) n with
  | true,true=>fl (cO (cZ ρ x)) fun a=>fl (jo zs off a) fun zs=>Ce ρ ps zs K
  | _,_=>False
theorem u5 {ρ:aM}:∀{ps:List (Nat×Nat×X)}{zs:List C}{K:List C->Prop},Ce ρ ps zs K->∃cs,uX ρ zs ps=some cs/\K cs
 | [],zs,K,h=>⟨zs,rfl,h⟩
 | (off,n,x)::ps,zs,K,h=>by
  simp only[Ce] at h;simp only[uX];split at h
  ·rename_i h1 a;rw[fu,fu] at h
   first
   | exact u5 h
   | (rw[h1,a];exact u5 h)
  ·exact h.elim
structure Kj (k:Nat) (K:Nat->Prop):Prop where
 out:∃n,rX k=some n/\n<=9223372036854775807/\K n
def Tj (t:Nat):Bool:=match Nat.beq t 0 with | true=>false | false=>Nat.ble t 1048575
def outT (o:dX) (L:TL) (ρ:aM) (V:C->Prop):Prop :=
 match o with
 | .mov x=>V (cZ ρ x)
 | .pick c a b=>match cZ ρ c with
  | .bool t=>zP t (V (cZ ρ a)) (V (cZ ρ b))
  | _=>False
 | .build zs ps=>fl (zs.map rT) fun zs=>Ce ρ ps zs fun cs=>V (.agg cs)
 | .load agg n x=>match cZ ρ x with
  | .own k off=>match L.get k with
   | some (.box _ cs)=>match fq ((cs.drop off).take n) n with
    | true=>V (Fj agg ((cs.drop off).take n))
    | false=>False
   | _=>False
  | .pt es off=>match fq ((es.drop off).take n) n with
   | true=>V (Fj agg ((es.drop off).take n))
   | false=>False
  | .ownv k off=>match L.get k with
   | some (.box _ cs)=>match fq ((cs.drop off).take n) n with
    | true=>V (Fj agg ((cs.drop off).take n))
    | false=>False
   | _=>False
  | .elr k j off=>match L.get k with
   | some (.row _ _ els)=>Fm els j off n fun cs=>V (Fj agg cs)
   | _=>False
  | _=>False
 | .loadR agg n x=>match cZ ρ x with
  | .own k off=>match L.get k with
   | some (.box _ cs)=>match fq ((cs.drop off).take n) n with
    | true=>V (Fj agg ((cs.drop off).take n))
    | false=>False
   | _=>False
  | .pt es off=>match fq ((es.drop off).take n) n with
   | true=>V (Fj agg ((es.drop off).take n))
   | false=>False
  | .ownv k off=>match L.get k with
   | some (.box _ cs)=>match fq ((cs.drop off).take n) n with
    | true=>V (Fj agg ((cs.drop off).take n))
    | false=>False
   | _=>False
  | .elr k j off=>match L.get k with
   | some (.row _ _ els)=>Fm els j off n fun cs=>V (Fj agg cs)
   | _=>False
  | _=>False
 | .loadD agg n x=>match cZ ρ x with
  | .own k off=>match L.get k with
   | some (.box _ cs)=>match fq ((cs.drop off).take n) n with
    | true=>V (Fj agg ((cs.drop off).take n))
    | false=>False
   | _=>False
  | .pt es off=>match fq ((es.drop off).take n) n with
   | true=>V (Fj agg ((es.drop off).take n))
   | false=>False
  | _=>False
 | .gload g=>match wL g with
  | some k=>V (.opq k)
  | none=>False
 | .loadF agg n x=>match cZ ρ x with
  | .pt es off=>match fq ((es.drop off).take n) n with
   | true=>V (Fj agg ((es.drop off).take n))
   | false=>False
  | _=>False
 | .loadK key agg n x=>match cZ ρ x with
  | .own k off=>match Nat.beq k key with
   | true=>match L.get k with
    | some (.box _ cs)=>match fq ((cs.drop off).take n) n with
     | true=>V (Fj agg ((cs.drop off).take n))
     | false=>False
    | _=>False
   | false=>False
  | _=>False
 | .nilck x=>match cZ ρ x with
  | .own k off=>V (.own k off)
  | .pt es off=>V (.pt es off)
  | .ownv k off=>V (.ownv k off)
  | .fn f d e=>V (.fn f d e)
  | .mval q c=>match c with
   | .ifc t c=>Tq Rn t q=true/\V (.mval q (.ifc t c))
   | _=>False
  | _=>False
 | .bin op x y=>match cZ ρ x,cZ ρ y with
  | .int k a,.int u b=>match JE op with
   | true=>shI op k a b fun v=>V (RW v)
   | false=>match pY k u with
    | true=>binI op k a b fun v=>V (RW v)
    | false=>False
  | .str a,.str b=>binS op a b fun v=>V (RW v)
  | _,_=>False
 | .eqB neg x y=>match cZ ρ x,cZ ρ y with
  | .bool a,.bool b=>V (.bool (tq neg (decide (a=b))))
  | _,_=>False
 | .eqS neg x y=>match isNil y,cZ ρ x with
  | true,.sl els=>∀b,(els≠[]->b=false)->V (.bool (tq neg b))
  | true,.slx _=>V (.bool (tq neg false))
  | true,.nils=>V (.bool (tq neg true))
  | _,_=>False
 | .eqN neg x=>match cZ ρ x with
  | .ifc _ _=>V (.bool (tq neg false))
  | .opq k=>match E0 k with
   | some b=>V (.bool (tq neg b))
   | none=>False
  | _=>False
 | .eqA neg ks x y=>match cZ ρ x,cZ ρ y with
  | .agg cs,.agg ds=>match u4 ks cs ds true with
   | some b=>V (.bool (tq neg b))
   | none=>False
  | _,_=>False
 | .mkif t x=>match cZ ρ x with
  | .int k n=>V (.ifc t (.int k n))
  | .bool b=>V (.ifc t (.bool b))
  | .str s=>V (.ifc t (.str s))
  | .pt es off=>V (.ifc t (.pt es off))
  | .agg cs=>match iX cs with
   | true=>fl cs fun cs=>V (.ifc t (.agg cs))
   | false=>False
  | _=>False
 | .un op x=>match op,cZ ρ x with
  | .not,.bool b=>V (.bool (!b))
  | .neg,.int k n=>Fit k (0-n) fun m=>V (.int k m)
  | .xor,.int k n=>V (.int k (k.wrap (BitVec.ofInt k.bits (if k.signed then -1 else k.max) ^^^ BitVec.ofInt k.bits n).toNat))
  | _,_=>False
 | .conv k x=>match cZ ρ x with
  | .int _ n=>Fit k n fun m=>V (.int k m)
  | _=>False
 | .mkfn f d e=>V (.fn f (fA ρ d) (fA ρ e))
 | .slc sz x lo hi=>match(cZ ρ x).can with
  | .sl els=>match Nz ρ 0 lo,Nz ρ els.length hi with
   | some l,some h=>Tz l h els sz fun l h=>V (.sl ((els.drop l).take (h-l)))
   | _,_=>False
  | _=>False
 | .fieldA off x=>match cZ ρ x with
  | .own k o=>V (.own k (o+off))
  | .pt es o=>V (.pt es (o+off))
  | .elr k j o=>V (.elr k j (o+off))
  | .ownv k o=>V (.ownv k (o+off))
  | _=>False
 | .idxA sz x i=>match(cZ ρ x).can,cZ ρ i with
  | .sl els,.int _ i=>uY els i sz fun es=>V (.pt es 0)
  | .rw k,.int _ i=>match L.get k with
   | some (.row _ p els)=>match Nat.beq sz p with
    | true=>BS i els.length (V (.elr k i.toNat 0))
    | false=>False
   | _=>False
  | _,_=>False
 | .extr x i=>match cZ ρ x with
  | .tup r=>match r[i]? with
   | some v=>V v.slt
   | none=>False
  | _=>False
 | .len x=>match(cZ ρ x).can with
  | .sl els=>V (.int .i64 els.length)
  | .rw k=>match L.get k with
   | some (.row _ _ els)=>V (.int .i64 els.length)
   | _=>False
  | .opq k=>Kj k fun n=>V (.int .i64 n)
  | _=>False
 | .mlook str ok z x i=>match cZ ρ x with
  | .mpr k=>match L.get k with
   | some (.map es)=>xZ str es (cZ ρ i) (fun v=>match ok with | true=>V (.tup [v,.bool true]) | false=>V v.slt) (match ok with | true=>V (.tup [cv z,.bool false]) | false=>V (cv z))
   | _=>False
  | _=>False
 | .mm mx args=>match args.map (cZ ρ) with
  | .int k a::l=>match VA mx a l with
   | some m=>(Lit.int k m).wf=true/\V (.int k m)
   | none=>False
  | _=>False
 | _=>False
abbrev TK:=TL->aM->Prop
def storeT (b:Bool) (n:Nat) (a x:X) (d:Option Nat) (L:TL) (ρ:aM) (K:TK):Prop :=
 match(cZ ρ x).okc,fq (cO (cZ ρ x)) n,eT (cO (cZ ρ x)),cZ ρ a with
 | true,true,true,.own k off=>match L.get k with
  | some (.box t cs)=>match fq ((cs.drop off).take n) n with
   | true=>fl (jo cs off (cO (cZ ρ x))) fun cs=>K (L.set k (.box t cs)) (bA d .und ρ)
   | false=>False
  | _=>False
 | true,true,true,.elr k j off=>match b,L.get k,iX (cO (cZ ρ x)) with
  | false,some (.row t sz els),true=>Nat.ble (off+n) sz=true/\Fm els j off n fun _=>∀es,els[j]?=some es->K (L.set k (.row t sz (els.set j (jo es off ((cO (cZ ρ x)).map C.can))))) (bA d .und ρ)
  | _,_,_=>False
 | _,_,_,_=>False
def ND (e sz bytes:Nat) (s x:C) (d:Option Nat) (L:TL) (ρ:aM) (K:TK):Prop :=
 match s,x.can,d with
 | .rw k,.sl a,_=>match L.get k with
  | some (.row h c els)=>match Nat.beq e h,Nat.beq sz c with
   | true,true=>wz els a sz bytes (fT ((L.aad (C.kill k)).set k (.row e sz (els++a))) fun L=>K L (bA d (.rw k) fun j=>(ρ j).kill k))
   | _,_=>False
  | _=>False
 | .nils,.sl a,some k=>match L.get k with
  | none=>wz [] a sz bytes (fT (L.set k (.row e sz a)) fun L=>K L (bA d (.rw k) ρ))
  | some _=>False
 | .slx els,.sl a,some k=>match L.get k with
  | none=>0<a.length/\(∀es∈els,es.length=sz)/\wz els a sz bytes (fT (L.set k (.row e sz (els++a))) fun L=>K L (bA d (.rw k) ρ))
  | some _=>False
 | .rw k,.rw l,_=>match L.get k,L.get l with
  | some (.row h c els),some (.row f b a)=>match Nat.beq e h,Nat.beq sz c,Nat.beq sz b with
   | true,true,true=>wz els a sz bytes (fT ((L.aad (C.kill k)).set k (.row e sz (els++a))) fun L=>K L (bA d (.rw k) fun j=>(ρ j).kill k))
   | _,_,_=>False
  | _,_=>False
 | .nils,.rw l,some k=>match L.get k,L.get l with
  | none,some (.row f b a)=>match Nat.beq sz b with
   | true=>wz [] a sz bytes (K (L.set k (.row e sz a)) (bA d (.rw k) ρ))
   | false=>False
  | _,_=>False
 | _,_,_=>False
def bT (P:Program) (o:dX) (d:Option Nat) (L:TL) (ρ:aM) (K:TK):Prop :=
 match o with
 | .box t x=>match d with
  | some k=>match L.get k,(cZ ρ x).okc,Tj t with
   | none,true,true=>fl (cO (cZ ρ x)) fun cs=>K (L.set k (.box t cs)) (bA d (.own k 0) ρ)
   | _,_,_=>False
  | none=>False
 | .boxD t x=>match d with
  | some k=>match L.get k,(cZ ρ x).okc,Tj t with
   | none,true,true=>fl (cO (cZ ρ x)) fun cs=>K (L.set k (.box t cs)) (bA d (.own k 0) ρ)
   | _,_,_=>False
  | none=>False
 | .boxF t x=>match(cZ ρ x).okc,eT (cO (cZ ρ x)),iX (cO (cZ ρ x)) with
  | true,true,true=>fl ((cO (cZ ρ x)).map C.can) fun cs=>K L (bA d (.pt cs 0) ρ)
  | _,_,_=>False
 | .alloc t zs=>match d with
  | some k=>match L.get k,Tj t with
   | none,true=>fl (zs.map rT) fun cs=>K (L.set k (.box t cs)) (bA d (.own k 0) ρ)
   | _,_=>False
  | none=>False
 | .allocD t zs=>match d with
  | some k=>match L.get k,Tj t with
   | none,true=>fl (zs.map rT) fun cs=>K (L.set k (.box t cs)) (bA d (.own k 0) ρ)
   | _,_=>False
  | none=>False
 | .mkF e n sz xs=>match qo ρ sz xs,Nat.beq xs.length n,Nat.ble n 9223372036854775807 with
  | true,true,true=>K L (bA d (.slx (uW ρ xs)) ρ)
  | _,_,_=>False
 | .mkFD e n sz xs=>match qo ρ sz xs,Nat.beq xs.length n,Nat.ble n 9223372036854775807 with
  | true,true,true=>K L (bA d (.slx (uW ρ xs)) ρ)
  | _,_,_=>False
 | .mkR e n sz xs=>match qo ρ sz xs,Nat.beq xs.length n,Nat.ble n 9223372036854775807,d with
  | true,true,true,some k=>match L.get k with
   | none=>K (L.set k (.row e sz (uW ρ xs))) (bA d (.rw k) ρ)
   | some _=>False
  | _,_,_,_=>False
 | .makeS e sz bytes zs l c=>match cZ ρ l,cZ ρ c,d with
  | .int _ n,.int _ m,some k=>match L.get k,fq (zs.map rT) sz,eT (zs.map rT) with
   | none,true,true=>nk n m bytes fun n=>K (L.set k (.row e sz (List.replicate n ((zs.map rT).map C.can)))) (bA d (.rw k) ρ)
   | _,_,_=>False
  | _,_,_=>False
 | .makeSD e sz n zs=>match d with
  | some k=>match L.get k,fq (zs.map rT) sz,(Nat.beq n 0||eT (zs.map rT)),Nat.ble n 9223372036854775807 with
   | none,true,true,true=>K (L.set k (.row e sz (List.replicate n ((zs.map rT).map C.can)))) (bA d (.rw k) ρ)
   | _,_,_,_=>False
  | none=>False
 | .makeSV e sz bytes zs x=>match cZ ρ x,d with
  | .int _ n,some k=>match L.get k,fq (zs.map rT) sz,eT (zs.map rT) with
   | none,true,true=>nk n n bytes fun n=>K (L.set k (.row e sz (List.replicate n ((zs.map rT).map C.can)))) (bA d (.rw k) ρ)
   | _,_,_=>False
  | _,_=>False
 | .storeK key n a x=>match cZ ρ a with
  | .own k _=>match Nat.beq k key with
   | true=>storeT true n a x d L ρ K
   | false=>False
  | _=>False
 | .storeX n a x=>storeT false n a x d L ρ K
 | .store n a x=>storeT false n a x d L ρ K
 | .storeD n a x=>storeT true n a x d L ρ K
 | .call f args=>fl (fA ρ args) fun args=>qt P f args L ρ fun L' ρ' v=>fT L' fun L'=>AP v fun v=>K L' (bA d v ρ')
 | .callV f args=>match cZ ρ f with
  | .fn f p r=>fl (p++fA ρ args++r) fun args=>qt P f args L ρ fun L' ρ' v=>fT L' fun L'=>AP v fun v=>K L' (bA d v ρ')
  | .mval q c=>match c with
   | .ifc t c=>RX P t q fun f=>fl (fA ρ args) fun args=>qt P f (c::args) L ρ fun L' ρ' v=>fT L' fun L'=>AP v fun v=>K L' (bA d v ρ')
   | _=>False
  | .mof t q=>match QF P t,fA ρ args with
   | true,.ifc w c::h=>RX P w q fun f=>fl h fun h=>qt P f (c::h) L ρ fun L' ρ' v=>fT L' fun L'=>AP v fun v=>K L' (bA d v ρ')
   | _,_=>False
  | _=>False
 | .callD f args=>fl (fA ρ args) fun args=>uZ P f args L ρ d fun L' ρ' v=>fT L' fun L'=>AP v fun v=>K L' (bA d v ρ')
 | .callVD f args=>match cZ ρ f with
  | .fn f p r=>fl (p++fA ρ args++r) fun args=>uZ P f args L ρ d fun L' ρ' v=>fT L' fun L'=>AP v fun v=>K L' (bA d v ρ')
  | .mval q c=>match c with
   | .ifc t c=>RX P t q fun f=>fl (fA ρ args) fun args=>uZ P f (c::args) L ρ d fun L' ρ' v=>fT L' fun L'=>AP v fun v=>K L' (bA d v ρ')
   | _=>False
  | _=>False
 | .callO f args=>fl (fA ρ args) fun args=>Cd P f args L ρ fun L' ρ' v=>fT L' fun L'=>AP v fun v=>K L' (bA d v ρ')
 | .callVO f args=>match cZ ρ f with
  | .fn f p r=>fl (p++fA ρ args++r) fun args=>Cd P f args L ρ fun L' ρ' v=>fT L' fun L'=>AP v fun v=>K L' (bA d v ρ')
  | _=>False
 | .mkmap=>match d with
  | some k=>match L.get k with
   | none=>K (L.set k (.map [])) (bA d (.mpr k) ρ)
   | some _=>False
  | none=>False
 | .mupd str x i v=>match cZ ρ x with
  | .mpr k=>match L.get k,Kh str (cZ ρ i),(cZ ρ v).okc,iX (cO (cZ ρ v)) with
   | some (.map es),true,true,true=>QD str es (cZ ρ i) ((cZ ρ v).cel.aaj) fun es=>K (L.set k (.map es)) (bA d .und ρ)
   | _,_,_,_=>False
  | _=>False
 | .app e sz bytes _ s x=>ND e sz bytes (cZ ρ s) (cZ ρ x) d L ρ K
 | .appX e sz bytes _ s x=>ND e sz bytes (cZ ρ s) (cZ ρ x) d L ρ K
 | .appD e sz bytes _ s x=>match cZ ρ s,(cZ ρ x).can,d with
  | .rw k,.sl b,_=>match L.get k with
   | some (.row y u els)=>match Nat.beq e y,Nat.beq sz u with
    | true,true=>wz els b sz bytes (fT ((L.aad (C.kill k)).set k (.row e sz (els++b))) fun L=>K L (bA d (.rw k) fun j=>(ρ j).kill k))
    | _,_=>False
   | _=>False
  | .nils,.sl b,some k=>match L.get k with
   | none=>wz [] b sz bytes (fT (L.set k (.row e sz b)) fun L=>K L (bA d (.rw k) ρ))
   | some _=>False
  | .slx els,.sl b,some k=>match L.get k with
   | none=>0<b.length/\(∀es∈els,es.length=sz)/\wz els b sz bytes (fT (L.set k (.row e sz (els++b))) fun L=>K L (bA d (.rw k) ρ))
   | some _=>False
  | _,_,_=>False
 | o=>outT o L ρ fun v=>AP v fun v=>K L (bA d v ρ)
def u6 (P:Program) (PS:nU) (o:dX) (d:Option Nat) (L:TL) (ρ:aM) (K:TK):Prop :=
 match o with
 | .call f args=>fl (fA ρ args) fun args=>match PS.st with
  | none=>lq P PS f args L ρ fun L' ρ' v=>fT L' fun L'=>AP v fun v=>K L' (bA d v ρ')
  | some s=>Fq P PS.ps PS.hb s f args L ρ fun L' ρ' v=>fT L' fun L'=>AP v fun v=>K L' (bA d v ρ')
 | .callV f args=>match cZ ρ f with
  | .fn f a b=>fl (a++fA ρ args++b) fun args=>match PS.st with
   | none=>lq P PS f args L ρ fun L' ρ' v=>fT L' fun L'=>AP v fun v=>K L' (bA d v ρ')
   | some s=>Fq P PS.ps PS.hb s f args L ρ fun L' ρ' v=>fT L' fun L'=>AP v fun v=>K L' (bA d v ρ')
  | _=>False
 | .pan x=>match PS.st with
  | none=>TA PS L (cZ ρ x)
  | some s=>V4 PS.ps PS.hb s L (cZ ρ x)
 | _=>False
def Fs (P:Program) (PS:nU) (a:List Nat) (o:dX) (d:Option Nat) (L:TL) (ρ:aM) (K:TK):Prop :=
 match o with
 | .call f args=>fl (fA ρ args) fun args=>match PS.st with
  | some s=>tL P PS.ps PS.hb s a f args L ρ fun L' ρ' v=>fT L' fun L'=>AP v fun v=>K L' (bA d v ρ')
  | none=>oV P PS a f args L ρ fun L' ρ' v=>fT L' fun L'=>AP v fun v=>K L' (bA d v ρ')
 | .callV f args=>match cZ ρ f with
  | .fn f b c=>fl (b++fA ρ args++c) fun args=>match PS.st with
   | some s=>tL P PS.ps PS.hb s a f args L ρ fun L' ρ' v=>fT L' fun L'=>AP v fun v=>K L' (bA d v ρ')
   | none=>oV P PS a f args L ρ fun L' ρ' v=>fT L' fun L'=>AP v fun v=>K L' (bA d v ρ')
  | _=>False
 | _=>False
def AQ:List ak->TL->Bool
 | [],_=>true
 | s::l,L=>match xR s with
  | none=>AQ l L
  | some k=>match L.get k with | none=>AQ l L | some _=>false
def rU (d:Option Nat) (ρ:aM):aM :=
 match d with
 | some k=>fun j=>match Nat.beq j k with | true=>(ρ k).aaC | false=>ρ j
 | none=>ρ
def Kk (a:Bool) (d:Option Nat) (ρ:aM):aM:=match a with | true=>ρ | false=>rU d ρ
def stepT (P:Program) (PS:nU) (e:Bool) (s:ak) (c:TL->aM->TK->Prop) (L:TL) (ρ:aM) (K:TK):Prop :=
 match s with
 | .op d o none=>bT P o d L ρ fun L' ρ'=>c L' (Kk e d ρ') K
 | .op d o (some (s,a))=>match ρ s with
  | .bool b=>zP b
    (match a with
     | true=>bT P o d L (bA (some s) (.bool true) ρ) fun L' ρ'=>c L' (Kk e d ρ') K
     | false=>c L (bA d .und (bA (some s) (.bool true) ρ)) K)
    (match a with
     | false=>bT P o d L (bA (some s) (.bool false) ρ) fun L' ρ'=>c L' (Kk e d ρ') K
     | true=>c L (bA d .und (bA (some s) (.bool false) ρ)) K)
  | .und=>c L (bA d .und ρ) K
  | _=>False
 | .frz k=>match e,L.get k with
  | false,some (.row _ _ els)=>fT ((L.del k).aad (C.frz k els)) fun L=>c L (fun j=>(ρ j).frz k els) K
  | false,some (.box _ cs)=>match eT cs,iX cs,Nat.blt k 1000,fC (PS.hb.map (·.1)) k with
   | true,true,true,false=>fT ((L.del k).aad (C.frb k cs)) fun L=>c L (fun j=>(ρ j).frb k cs) K
   | _,_,_,_=>False
  | _,_=>False
 | .pc d o none=>match e with
  | true=>False
  | false=>u6 P PS o d L ρ fun L' ρ'=>c L' (rU d ρ') K
 | .pc d o (some (s,a))=>match e,ρ s with
  | false,.bool b=>zP b
    (match a with
     | true=>u6 P PS o d L (bA (some s) (.bool true) ρ) fun L' ρ'=>c L' (rU d ρ') K
     | false=>c L (bA d .und (bA (some s) (.bool true) ρ)) K)
    (match a with
     | false=>u6 P PS o d L (bA (some s) (.bool false) ρ) fun L' ρ'=>c L' (rU d ρ') K
     | true=>c L (bA d .und (bA (some s) (.bool false) ρ)) K)
  | false,.und=>c L (bA d .und ρ) K
  | _,_=>False
def AR (P:Program) (PS:nU) (b:List Nat) (s:ak) (a:TL->aM->TK->Prop) (L:TL) (ρ:aM) (K:TK):Prop :=
 match s with
 | .pc d o none=>Fs P PS b o d L ρ fun L' ρ'=>a L' ρ' K
 | s=>stepT P PS true s a L ρ K
noncomputable def dB (P:Program) (PS:nU) (b:Bool) (ss:List ak):TL->aM->TK->Prop :=
 List.rec (motive:=fun _=>TL->aM->TK->Prop) (fun L ρ K=>K L ρ) (fun s _ a L ρ K=>stepT P PS b s a L ρ K) ss
noncomputable def kD (P:Program) (PS:nU) (b:List Nat) (ss:List ak):TL->aM->TK->Prop :=
 List.rec (motive:=fun _=>TL->aM->TK->Prop) (fun L ρ K=>K L ρ) (fun s _ a L ρ K=>AR P PS b s a L ρ K) ss
theorem jT {P:Program}{PS:nU}{b:List Nat}{s:ak}{a:List ak}{L:TL}{ρ:aM}{K:TK}:kD P PS b (s::a) L ρ K=AR P PS b s (kD P PS b a) L ρ K:=rfl
theorem eU {P:Program}{PS:nU}{b:Bool}{s:ak}{a:List ak}{L:TL}{ρ:aM}{K:TK}:dB P PS b (s::a) L ρ K=stepT P PS b s (dB P PS b a) L ρ K:=rfl
def gQ:List C->C
 | [v]=>v
 | l=>.tup l
def gR (L:TL) (ρ:aM):List RV->(List C->Prop)->Prop
 | [],K=>K []
 | (t,none)::l,K=>gR L ρ l fun a=>K ((ρ t).cel::a)
 | (t,some (agg,n))::l,K=>match ρ t with
  | .own k off=>match L.get k with
   | some (.box _ cs)=>match fq ((cs.drop off).take n) n with
    | true=>gR L ρ l fun a=>K ((Fj agg ((cs.drop off).take n)).cel::a)
    | false=>False
   | _=>False
  | _=>False
structure gD (Lin:List TO) (L:TL) (v:C) (R:List TO->C->Prop):Prop where
 out:∃(fz ko:List Nat),x5 fz L (fun _=>.any) [v] fun L _ vs =>
  ∃(L1:TL) (c c1:C) (Mo:List TO),vs=[c]/\((L1=L/\c1=c)\/(gives L L1 L1/\NA L L1 c c1))/\L1.sub ko=some Mo/\aS ko=true/\aK Lin (List.range' 1000 Lin.length) ko=true /\
   (uO [c1]->R (Mo.map (TO.aad (C.ren (bB ko 1000)))) (c1.aat.ren (bB ko 1000)))
def tM (asg:List Nat) (ρ:aM):aM:=fun j=>match fC asg j with | true=>.any | false=>(ρ j).aaL
structure AU (body:TL->aM->TK->Prop) (asg:List Nat) (L:TL) (ρ:aM):Prop where
 out:∃(σ:Type) (x0:σ) (Inv:σ->Prop) (ls:List Nat) (lv:σ->List C) (Lf:σ->TL) (μ:σ->Nat),
  Inv x0/\nA L (Lf x0) ls (lv x0) ρ/\gives L (Lf x0) (Lf x0)/\(∀x,oU L (Lf x)=true)/\(∀x,(lv x).length=ls.length) /\
  ∀x,Inv x->uO (lv x)->(∀k o,(Lf x).get k=some o->o.Wf)->body (Lf x) (qp ls (lv x) (tM asg ρ)) fun L' ρ' =>
   ∃x',Inv x'/\nA L' (Lf x') ls (lv x') ρ'/\gives L' (Lf x') (Lf x')/\μ x'<μ x
def dD:List ak->List Nat
 | []=>[]
 | .frz k::l=>k::dD l
 | .op _ _ _::l=>dD l
 | .pc _ _ _::l=>dD l
def fZ:au->List Nat
 | .reg d=>dD d
 | .regD d=>dD d
 | .regX d=>dD d
 | .seq a b=>fZ a++fZ b
 | .cond _ a b=>fZ a++fZ b
 | .block _ c=>fZ c
 | .loop _ c=>fZ c
 | _=>[]
def sF (L:TL):List Nat->Bool
 | []=>true
 | k::ks=>match L.get k with | some (.box _ _)=>false | some (.map _)=>false | _=>sF L ks
noncomputable def evalTC (P:Program) (PS:nU) (c:au):(Nat->TK)->TK->TK->TK :=
 au.rec (motive:=fun _=>(Nat->TK)->TK->TK->TK)
  (fun _ _ N L ρ=>N L ρ)
  (fun a _ _ N L ρ=>dB P PS false a L ρ N)
  (fun a _ _ N L ρ=>dB P PS true a L ρ N)
  (fun a _ _ N L ρ=>match AQ a L with | true=>kD P PS (Nx a) a L ρ N | false=>False)
  (fun _ _ b d E R N L ρ=>b E R (fun L ρ=>d E R N L ρ) L ρ)
  (fun c _ _ b d E R N L ρ=>match cZ ρ c with
   | .bool t=>zP t (b E R N L ρ) (d E R N L ρ)
   | _=>False)
  (fun id _ e E R N L ρ=>e (fun j=>match Nat.beq j id with | true=>N | false=>E j) R N L ρ)
  (fun asg c e E R _ L ρ=>match sF L (fZ c) with | true=>AU (fun L ρ K=>e E R K L ρ) asg L ρ | false=>False)
  (fun id E _ _ L ρ=>E id L ρ)
  (fun _ R _ L ρ=>R L ρ) c
section
variable {P:Program}{PS:nU}{E:Nat->TK}{R N:TK}{L:TL}{ρ:aM}
theorem kT:evalTC P PS .skip E R N L ρ=N L ρ:=rfl
theorem mB {a:List ak}:evalTC P PS (.reg a) E R N L ρ=dB P PS false a L ρ N:=rfl
theorem kU {a:List ak}:evalTC P PS (.regD a) E R N L ρ=dB P PS true a L ρ N:=rfl
theorem DI {a:List ak}:evalTC P PS (.regX a) E R N L ρ=(match AQ a L with | true=>kD P PS (Nx a) a L ρ N | false=>False):=rfl
theorem mC {a b:au}:evalTC P PS (.seq a b) E R N L ρ=evalTC P PS a E R (fun L ρ=>evalTC P PS b E R N L ρ) L ρ:=rfl
theorem kV {c:X}{a b:au}:evalTC P PS (.cond c a b) E R N L ρ=(match cZ ρ c with
   | .bool t=>zP t (evalTC P PS a E R N L ρ) (evalTC P PS b E R N L ρ)
   | _=>False):=rfl
theorem jU {id:Nat}{c:au}:evalTC P PS (.block id c) E R N L ρ=evalTC P PS c (fun j=>match Nat.beq j id with | true=>N | false=>E j) R N L ρ:=rfl
theorem kW {asg:List Nat}{c:au}:evalTC P PS (.loop asg c) E R N L ρ=(match sF L (fZ c) with | true=>AU (fun L ρ K=>evalTC P PS c E R K L ρ) asg L ρ | false=>False):=rfl
theorem kX {id:Nat}:evalTC P PS (.exit id) E R N L ρ=E id L ρ:=rfl
theorem mD:evalTC P PS .ret E R N L ρ=R L ρ:=rfl
end
def j5:Nat->List C->aM
 | _,[]=>fun _=>.und
 | k,v::l=>bA (some k) v (j5 (k+1) l)
theorem wf_wrap (k:IntKind) (n:Int):(Lit.int k (k.wrap n)).wf=true:=by
 cases k<;>simp[Lit.wf,IntKind.wrap,IntKind.min,IntKind.max,IntKind.bits,IntKind.signed]<;>(try split)<;>omega
theorem Ft (k:IntKind) (n:Int):(Lit.int k n).wf=true↔k.min<=n/\n<=k.max:=by simp[Lit.wf]
theorem Gu (k:IntKind):k.min<=0:=by cases k<;>simp[IntKind.min,IntKind.bits,IntKind.signed]
theorem Gv (k:IntKind):127<=k.max:=by cases k<;>simp[IntKind.max,IntKind.bits,IntKind.signed]
def okB:Value->Prop
 | .int k n=>(Lit.int k n).wf=true
 | .bool _=>True
 | .string s=>s.size<=maxLen
 | _=>False
section
variable {P:Program}{G:Nat->Option (Nat×TypeId)}{F:aA}{L:Loc}{ρ:Env}{M:TL}{τ:aM}
theorem yd {v:Value}(h:okB v):aN F L (RW v) (.v v):=by
 cases v
 case int k n=>exact⟨.int k n,rfl,by simp only[RW,Rel];exact⟨trivial,h⟩⟩
 case bool b=>exact⟨.bool b,rfl,by simp only[RW,Rel]⟩
 case string b=>exact⟨.string b,rfl,by simp only[RW,Rel];exact⟨trivial,h⟩⟩
 all_goals exact h.elim
theorem NE {k:IntKind}{a b:Int}(h:(Lit.int k a).wf=true):(Lit.int k (a.tmod b)).wf=true:=by
 rw[Ft] at h ⊢;have h0:=Gu k;have h1:=Gv k
 by_cases d:0<=a
 ·have:=Int.tmod_nonneg b d;have c:a.tmod b<=a:=by
   have:(a.tmod b).natAbs<=a.natAbs:=by rw[Int.natAbs_tmod];exact Nat.mod_le _ _
   omega
  omega
 ·have c:(a.tmod b).natAbs<=a.natAbs:=by rw[Int.natAbs_tmod];exact Nat.mod_le _ _
  have e:a.tmod b<=0:=by
   have:=Int.tmod_nonneg b (show 0<=-a by omega);rw[Int.neg_tmod] at this;omega
  omega
theorem NF {k:IntKind}{a:Int}{m:Nat}(h:(Lit.int k a).wf=true):(Lit.int k (a.fdiv (2 ^ m))).wf=true:=by
 rw[Ft] at h ⊢;have h0:=Gu k;have h1:=Gv k;have b:(0:Int)<2 ^ m:=Int.pow_pos (by omega);rw[Int.fdiv_eq_ediv_of_nonneg _ (by omega)]
 by_cases c:0<=a
 ·have e:=Int.ediv_nonneg c (Int.le_of_lt b);have d:=Int.ediv_le_self (2 ^ m) c;omega
 ·have e:a / 2 ^ m<0:=Int.ediv_neg_of_neg_of_pos (by omega) b;have d:a<=a / 2 ^ m:=by
   have:a*1<=a / 2 ^ m:=by
    apply Int.le_ediv_of_mul_le b;rw[Int.mul_one];have:a*2 ^ m<=a*1:=Int.mul_le_mul_of_nonpos_left (by omega) (by omega);omega
   omega
  omega
theorem Iq {op:BinOp}{k:IntKind}{a b:Int}{K K':Value->Prop}(d:(Lit.int k a).wf=true) (h:binI op k a b K) (c:∀v,okB v->K v->K' v):binI op k a b K':=by
 cases op<;>simp only[binI] at h ⊢<;>first
  | exact h.elim
  | exact⟨c _ (wf_wrap _ _) h.out⟩
  | exact⟨h.ne,⟨c _ (wf_wrap _ _) h.out.out⟩⟩
  | exact⟨h.ne,c _ (NE d) h.out⟩
  | exact c _ (wf_wrap _ _) h
  | exact c _ trivial h
theorem Kl {op:BinOp}{k:IntKind}{a b:Int}{K K':Value->Prop}(d:(Lit.int k a).wf=true) (h:shI op k a b K) (c:∀v,okB v->K v->K' v):shI op k a b K':=by
 cases op<;>simp only[shI] at h ⊢<;>first
  | exact h.elim
  | exact⟨h.1,⟨c _ (wf_wrap _ _) h.2.out⟩⟩
  | exact⟨h.1,c _ (NF d) h.2⟩
theorem Ir {op:BinOp}{a b:ByteArray}{K K':Value->Prop}(h:binS op a b K) (c:∀v,okB v->K v->K' v):binS op a b K':=by
 cases op<;>simp only[binS] at h ⊢<;>first
  | exact h.elim
  | exact c _ trivial h
  | exact⟨h.1,c _ (by
    have h1:=h.1;simp[IntKind.max,IntKind.bits,IntKind.signed] at h1;show(a++b).size<=maxLen;rw[ByteArray.size_append];simp only[maxLen];omega) h.2⟩
theorem Cf (v:Value):Rel F L (rT v) v:=by
 unfold rT;split
 ·split
  ·rename_i h;simp only[Rel];exact⟨trivial,h⟩
  ·simp only[Rel]
 ·simp only[Rel]
 ·split
  ·rename_i h;simp only[Rel];exact⟨trivial,aa9 h⟩
  ·simp only[Rel]
 ·simp only[Rel]
 ·simp only[Rel]
 ·simp only[Rel]
 ·simp only[Rel];exact MU
 ·simp only[Rel]
 ·simp only[Rel]
theorem kY:∀a:List Value,aB F L (a.map rT) a
 | []=>by simp only[abC,aB]
 | v::a=>by simp only[aaX,aB];exact⟨v,a,rfl,Cf v,kY a⟩
theorem TD (v:Value):aN F L (rT v) (.v v):=by
 have h:=Cf (F:=F) (L:=L) v
 revert h
 unfold rT;split
 ·split
  ·exact fun h=>⟨_,rfl,h⟩
  ·exact fun h=>trivial
 ·exact fun h=>⟨_,rfl,h⟩
 ·split
  ·exact fun h=>⟨_,rfl,h⟩
  ·exact fun h=>trivial
 ·exact fun h=>⟨_,rfl,h⟩
 ·exact fun h=>⟨_,rfl,h⟩
 ·exact fun h=>⟨_,rfl,h⟩
 ·exact fun h=>⟨_,rfl,h⟩
 ·exact fun h=>⟨_,rfl,h⟩
 ·exact fun h=>trivial
theorem TF (v:Value):aN F L (cv v) (.v v):=by
 unfold cv;split
 ·rename_i cs;exact⟨_,rfl,by simp only[Rel];exact⟨cs.toList,by simp,kY _⟩⟩
 ·exact TD v
theorem dZ (h:∀j,aN F L (τ j) (ρ j)) (x:X):aN F L (cZ τ x) (ev ρ x):=by
 cases x with
 | t n=>exact h n
 | c v=>exact TF v
 | fn f=>exact⟨_,rfl,by simp only[cZ,Rel];exact⟨[],[],by simp,by simp only[aB],by simp only[aB]⟩⟩
 | mt k n =>
  have a:=h n;simp only[cZ,ev,YG];split
  ·rename_i t c e;rw[e] at a;simp only[aN] at a ⊢;obtain⟨v,d,b⟩:=a;rw[d];refine⟨_,rfl,?_⟩;simp only[Rel] at b ⊢;exact⟨v,rfl,b⟩
  ·simp only[aN]
theorem gL {x:X}{k:IntKind}{n:Int}(h:∀j,aN F L (τ j) (ρ j)) (e:cZ τ x=.int k n):ev ρ x=.v (.int k n)/\(Lit.int k n).wf=true:=by
 have:=dZ h x;rw[e] at this;simp only[aN,Rel] at this;obtain⟨v,h1,rfl,a⟩:=this;exact⟨h1,a⟩
theorem jg {x:X}{b:Bool}(h:∀j,aN F L (τ j) (ρ j)) (e:cZ τ x=.bool b):ev ρ x=.v (.bool b):=by
 have:=dZ h x;rw[e] at this;simp only[aN,Rel] at this;obtain⟨v,h1,rfl⟩:=this;exact h1
theorem wT {x:X}{s:ByteArray}(h:∀j,aN F L (τ j) (ρ j)) (e:cZ τ x=.str s):ev ρ x=.v (.string s)/\s.size<=maxLen:=by
 have:=dZ h x;rw[e] at this;simp only[aN,Rel] at this;obtain⟨v,h1,rfl,a⟩:=this;exact⟨h1,a⟩
theorem RY {x:X}{els:List (List C)}(h:∀j,aN F L (τ j) (ρ j)) (e:cZ τ x=.sl els) :
  ∃a c sz,ev ρ x=.v (.slice a els.length c)/\els.length<=c/\els.length<=maxLen/\(a=none->els=[]/\c=0)/\gK F a sz 0 els:=by
 have:=dZ h x;rw[e] at this;simp only[aN,Rel] at this;obtain⟨v,h1,a,c,rfl,d,b,f,sz,k⟩:=this;exact⟨a,c,sz,h1,d,b,f,k⟩
theorem tN {x:X}(h:∀j,aN F L (τ j) (ρ j)) (e:cZ τ x=.nils):ev ρ x=.v (.slice none 0 0):=by
 have:=dZ h x;rw[e] at this;simp only[aN,Rel] at this;obtain⟨v,h1,rfl⟩:=this;exact h1
theorem Fu {x:X}{k:Nat}(h:∀j,aN F L (τ j) (ρ j)) (e:cZ τ x=.rw k):∃a c t sz n xs,ev ρ x=.v (.slice a n c)/\L.get k=some (.row (.slice a n c) t sz n xs):=by
 have:=dZ h x;rw[e] at this;simp only[aN,Rel] at this;obtain⟨v,h1,a,c,t,sz,n,xs,rfl,b⟩:=this;exact⟨a,c,t,sz,n,xs,h1,b⟩
theorem jq {x:X}{k off:Nat}(h:∀j,aN F L (τ j) (ρ j)) (e:cZ τ x=.own k off):ev ρ x=.own k off/\∃g t cs,L.get k=some (.box g t cs):=by
 have:=dZ h x;rw[e] at this;simp only[aN] at this;exact this
theorem tO {x:X}{k off:Nat}(h:∀j,aN F L (τ j) (ρ j)) (e:cZ τ x=.ownv k off):∃g t cs,L.get k=some (.box g t cs)/\VB (ev ρ x) (.pointer (some ⟨g,off,none⟩)):=by
 have:=dZ h x;rw[e] at this;simp only[aN,Rel] at this;obtain⟨v,h1,g,t,cs,a,rfl⟩:=this;exact⟨g,t,cs,a,h1⟩
theorem u7 {x:X}{f:Nat}{c d:List C}(h:∀j,aN F L (τ j) (ρ j)) (e:cZ τ x=.fn f c d):∃a b,ev ρ x=.v (.func (.func f) a.toArray b.toArray)/\aB F L c a/\aB F L d b:=by
 have:=dZ h x;rw[e] at this;simp only[aN,Rel] at this;obtain⟨v,h1,a,b,rfl,l,k⟩:=this;exact⟨a,b,h1,l,k⟩
theorem Cg {x:X}{cs:List C}(h:∀j,aN F L (τ j) (ρ j)) (e:cZ τ x=.agg cs):∃a,ev ρ x=.v (.agg a.toArray)/\aB F L cs a:=by
 have:=dZ h x;rw[e] at this;simp only[aN,Rel] at this;obtain⟨v,h1,a,rfl,b⟩:=this;exact⟨a,h1,b⟩
theorem NG {x:X}{cs:List C}(h:∀j,aN F L (τ j) (ρ j)) (e:cZ τ x=.tup cs):∃a,ev ρ x=.v (.tuple a.toArray)/\aB F L cs a:=by
 have:=dZ h x;rw[e] at this;simp only[aN,Rel] at this;obtain⟨v,h1,a,rfl,b⟩:=this;exact⟨a,h1,b⟩
theorem NH {x:X}{t:TypeId}{c:C}(h:∀j,aN F L (τ j) (ρ j)) (e:cZ τ x=.ifc t c):∃u,ev ρ x=.v (.iface t u)/\Rel F [] c u:=by
 have:=dZ h x;rw[e] at this;simp only[aN,Rel] at this;obtain⟨v,h1,u,rfl,a⟩:=this;exact⟨u,h1,a⟩
theorem Gw {x:X}{k:Nat}(h:∀j,aN F L (τ j) (ρ j)) (e:cZ τ x=.opq k):∃v,ev ρ x=.v v/\gX k F v:=by
 have:=dZ h x;rw[e] at this;simp only[aN,Rel] at this;exact this
theorem ye {x:X}{a:String}{c:C}(h:∀j,aN F L (τ j) (ρ j)) (e:cZ τ x=.mval a c):∃u,ev ρ x=.v (.func (.method a) #[u] #[])/\Rel F [] c u:=by
 have:=dZ h x;rw[e] at this;simp only[aN,Rel] at this;obtain⟨v,h1,u,rfl,b⟩:=this;exact⟨u,h1,b⟩
theorem NI {x:X}{t:TypeId}{a:String}(h:∀j,aN F L (τ j) (ρ j)) (e:cZ τ x=.mof t a):ev ρ x=.v (.func (.methodOf t a) #[] #[]):=by
 have:=dZ h x;rw[e] at this;simp only[aN,Rel] at this;obtain⟨v,h1,rfl⟩:=this;exact h1
theorem sG {x:X}{es:List C}{off:Nat}(h:∀j,aN F L (τ j) (ρ j)) (e:cZ τ x=.pt es off) :
  ∃b o j a,(ev ρ x=.v (.pointer (some ⟨b,o,none⟩))/\j=0\/ev ρ x=.el (some ⟨b,o,none⟩) j)/\NC F b (o+j) off a/\eT es=true/\aB F [] es a:=by
 have:=dZ h x;rw[e] at this;simp only[aN] at this;exact this
theorem wU {x:X}{k j off:Nat}(h:∀j,aN F L (τ j) (ρ j)) (e:cZ τ x=.elr k j off) :
  ∃a t sz n c xs,ev ρ x=.el (some a) (j*sz+off)/\L.get k=some (.row (.slice (some a) n c) t sz n xs):=by
 have:=dZ h x;rw[e] at this;simp only[aN] at this;exact this
theorem lu (h:bS F L M) {k:Nat}{t:TypeId}{cs:List C}(e:M.get k=some (.box t cs)):∃g b a,L.get k=some (.box g b a)/\aB F L cs a/\tyOk t g b:=by
 have:=h k;rw[e] at this;cases c:L.get k with
 | none=>rw[c] at this;exact this.elim
 | some o =>
  rw[c] at this;cases o with
  | row=>exact this.elim
  | box g b a=>obtain⟨h1,d⟩:=this;exact⟨g,b,a,rfl,d,h1⟩
theorem mE (h:bS F L M) {k:Nat}{t:TypeId}{sz:Nat}{els:List (List C)}(e:M.get k=some (.row t sz els)) :
  ∃v xs,L.get k=some (.row v t sz els.length xs)/\(els.length<=maxLen/\∃a c,v=.slice a els.length c/\(a=none->els.length=0))/\aP F sz els xs:=by
 have:=h k;rw[e] at this;cases b:L.get k with
 | none=>rw[b] at this;exact this.elim
 | some o =>
  rw[b] at this;cases o with
  | box=>exact this.elim
  | row v l j n xs=>obtain⟨rfl,rfl,rfl,f,d⟩:=this;exact⟨v,xs,rfl,f,d⟩
theorem cj (h:bS F L M) {k:Nat}(e:M.get k=none):L.get k=none:=by
 have:=h k;rw[e] at this;cases a:L.get k with
 | none=>rfl
 | some o=>rw[a] at this;exact this.elim
theorem cg:∀{l:List C}{n:Nat},fq l n=true->l.length=n
 | [],0,_=>rfl
 | [],n+1,h=>by simp[fq] at h
 | _::l,0,h=>by simp[fq] at h
 | _::l,n+1,h=>by simp only[fq] at h;simp[cg h]
theorem jv:∀{l:List Value}{n:Nat},l.length=n->ig l n=true
 | [],0,_=>rfl
 | [],n+1,h=>by simp at h
 | _::l,0,h=>by simp at h
 | _::l,n+1,h=>by simp only[ig];exact jv (by simpa using h)
theorem kM {c:C}{v:Value}(h:Rel F L c v):aN F L c.slt (.v v):=by
 cases c<;>(try simp only[C.slt])<;>try exact⟨v,rfl,h⟩
 case any=>trivial
 case pt es off =>
  simp only[Rel] at h;obtain⟨b,o,a,rfl,e,d⟩:=h;exact⟨b,o,0,a,.inl ⟨rfl,rfl⟩,e,d⟩
 case own=>exact⟨v,.inl rfl,h⟩
 case ownv=>exact h.elim
 case elr=>exact h.elim
theorem eP {agg:Bool}{cs:List C}{a:List Value}(h:aB F L cs a):aN F L (Fj agg cs) (.v (iy agg a)):=by
 cases agg with
 | true=>exact⟨_,rfl,by simp only[Fj,iy,Rel];exact⟨a,rfl,h⟩⟩
 | false =>
  match cs,a,h with
  | [],a,h=>trivial
  | [c],a,h =>
   simp only[aB] at h;obtain⟨v,b,rfl,h1,rfl⟩:=h;exact kM h1
  | _::_::_,a,h=>trivial
theorem VB.conc {sv:SV}{v:Value}(h:VB sv v):Fr.conc L sv=v:=by
 rcases h with rfl | ⟨b,o,j,rfl,rfl⟩
 ·rfl
 ·simp only[Fr.conc,dm]
theorem NJ {c:C}{sv:SV}(h:aN F L c sv) (n:c.one=true\/(∃k o,c=.ownv k o)\/c=.any\/(∃k j o,c=.elr k j o)\/(∃l,c=.agg l)\/(∃l,c=.tup l)\/c=.und):Rel F L c.cel (conc L sv):=by
 cases c<;>simp only[C.cel]<;>simp only[aN] at h
 case own k off =>
  obtain⟨rfl,g,t,cs,h⟩:=h;simp only[Rel,conc,h];exact⟨g,t,cs,rfl,rfl⟩
 case ownv k off =>
  obtain⟨v,m,h⟩:=h;rw[m.conc];exact h
 case pt es off =>
  obtain⟨b,o,j,e,h1,f,d,a⟩:=h;simp only[Rel];rcases h1 with⟨rfl,rfl⟩ | rfl
  ·exact⟨b,o,e,rfl,f,d,a⟩
  ·exact⟨b,o+j,e,by simp only[conc,dm],f,d,a⟩
 case elr=>simp only[Rel]
 case any=>simp only[Rel]
 all_goals
  obtain⟨v,rfl,h⟩:=h;simpa only[conc] using h
theorem mF {c:C}{sv:SV}(h:aN F L c sv):Rel F L c.cel (conc L sv):=by
 apply NJ h;cases c<;>simp[C.one]
theorem Ch (h:∀j,aN F L (τ j) (ρ j)) (x:X):Rel F L (cZ τ x).cel (val L ρ x):=mF (dZ h x)
theorem dS (h:∀j,aN F L (τ j) (ρ j)):∀xs:List X,aB F L (fA τ xs) (bw L ρ xs)
 | []=>by simp only[fA,bw,aB]
 | x::xs=>by simp only[fA,bw,aB];exact⟨_,_,rfl,Ch h x,dS h xs⟩
theorem Fv {c:C}{sv:SV}(h:aN F L c sv) (d:c.okc=true):aB F L (cO c) (aO (conc L sv)):=by
 have h1:=mF h;cases c<;>simp only[C.okc,aa2] at d<;>simp only[cO]<;>simp only[C.cel] at h1 ⊢
 case agg cs =>
  simp only[Rel] at h1;obtain⟨e,a,b⟩:=h1;rw[a];simpa only[aO] using b
 all_goals
  simp only[aB];refine⟨_,[],?_,h1,rfl⟩
  revert h1
  generalize conc L sv=v;intro h1;simp only[Rel] at h1
  first
   | (have a:=gX.one h1;cases v<;>first | rfl | (exact fL a (by decide)) | (simp[Value.oneCell'] at a))
   | (obtain⟨rfl,_⟩:=h1;rfl)
   | (subst h1;rfl)
   | (obtain⟨_,rfl,_⟩:=h1;rfl)
   | (obtain⟨_,_,rfl,_⟩:=h1;rfl)
   | (obtain⟨_,_,_,rfl,_⟩:=h1;rfl)
   | (obtain⟨_,_,_,_,_,_,rfl,_⟩:=h1;rfl)
   | (obtain⟨_,_,_,_,rfl⟩:=h1;rfl)
theorem iF (h:∀j,aN F L (τ j) (ρ j)) {x:X}(a:(cZ τ x).okc=true):aB F L (cO (cZ τ x)) (aO (val L ρ x)):=Fv (dZ h x) a
theorem mX {cs:List C}{a:List Value}{off:Nat}{ds:List C}{us:List Value}(h:aB F L cs a) (k:aB F L ds us):aB F L (jo cs off ds) (bU a off us):=by
 simp only[jo,bU];rw[<-k.len];exact((h.take off).append k).append (h.drop _)
theorem AV (h:∀j,aN F L (τ j) (ρ j)):∀(ps:List (Nat×Nat×X)) {zs:List C}{a:List Value}{cs:List C},aB F L zs a->uX τ zs ps=some cs->∃us,built L ρ a ps=some us/\aB F L cs us
 | [],zs,a,cs,b,hb=>by
  simp only[uX,xo] at hb;subst hb;exact⟨a,rfl,b⟩
 | (off,n,x)::ps,zs,a,cs,b,hb=>by
  simp only[uX] at hb;split at hb
  case h_2=>cases hb
  rename_i h1 e;have c:=iF h h1;have d:ig (aO (val L ρ x)) n=true:=jv (by rw[c.len];exact cg e);simp only[built,d];exact AV h ps (mX b c) hb
theorem Gx (h:∀j,aN F L (τ j) (ρ j)) {d i:Int}{x:Option X}(e:Nz τ d x=some i):nG ρ d x=some i:=by
 cases x with
 | none=>exact e
 | some x =>
  simp only[Nz] at e;split at e
  case h_2=>cases e
  rename_i k j a;injection e with e
  subst e;simp only[nG,(gL h a).1]
theorem Km (h:∀j,aN F L (τ j) (ρ j)) (mx:Bool):∀(args:List X) {a m:Int},VA mx a (args.map (cZ τ))=some m->Qv mx a (args.map (ev ρ))=some m
 | [],a,m,e=>e
 | x::args,a,m,e=>by
  simp only[aaX] at e ⊢;cases b:cZ τ x<;>rw[b] at e<;>simp only[VA,reduceCtorEq] at e;rw[(gL h b).1];exact Km h mx args e
theorem Ko {a:Option Addr}{sz:Nat}{els:List (List C)}{c l h:Nat}(k:gK F a sz 0 els) (hn:a=none->els=[]/\c=0) (x:l<=h) (z:h<=els.length) (hc:els.length<=c) :
  gK F (if c=l then a else a.map (·.add (l*sz))) sz 0 ((els.drop l).take (h-l)):=by
 rw[nS] at k ⊢;intro j es he;rw[abD] at he;split at he
 case isFalse=>cases he
 rename_i y;rw[abx] at he;obtain⟨q,h1,u,n,m⟩:=k _ es he;have s:l+j<els.length:=(aaR.1 he).1;rw[fo (by omega)];refine⟨q,h1,?_,n,m⟩;obtain⟨p,f,t,w,e,hb,d,r⟩:=u;subst e;obtain⟨b,o,sp⟩:=p;simp only at d;subst d;refine⟨⟨b,o+l*sz,none⟩,f,t,w,by simp only[abo,dm],hb,rfl,fun i v hi=>?_⟩;have:=r i v hi;simp only[Nat.zero_add,Nat.add_mul] at this ⊢;rw[show o+l*sz+j*sz+i=o+(l*sz+j*sz)+i by omega];exact this
theorem kZ {b o j off n:Nat}{es:List C}{d:List Value}(l:NC F b (o+j) off d):dL F (some ⟨b,o,none⟩) j ((d.drop off).take n):=by
 obtain⟨e,a,t,h,h1,k,f⟩:=l;refine⟨_,a,t,h,rfl,h1,rfl,fun i v c=>?_⟩;rw[abD] at c;split at c
 case isFalse=>cases c
 rw[abx] at c;have:=f _ _ c;show a[o+j+i]?=_;rw[k,Nat.add_assoc];exact this
theorem jA {L':Loc}{cs:List C}{e:List Value}(p:iX cs=true) (h:aB F L cs e):aB F L' cs e:=by
 have b:∀(c:C) (v:Value),c.aal=true->Rel F L c v->Rel F L' c v:=by
  intro c v d h;cases c<;>simp only[C.aal,aa2] at d<;>simp only[Rel] at h ⊢<;>exact h
 have a:∀(cs:List C) (e:List Value),ju cs=true->aB F L cs e->aB F L' cs e:=by
  intro cs e d h;rw[mA] at h ⊢;exact⟨h.1,fun i c v h1 l=>b c v (qq.1 d c (aaW h1)) (h.2 i c v h1 l)⟩
 rw[mA] at h ⊢;refine⟨h.1,fun i c v h1 l=>?_⟩;have d:=x9.1 p c (aaW h1);have m:=h.2 i c v h1 l;cases c<;>first
  | exact b _ _ d m
  | (simp only[C.pure,C.aal,aa2] at d;done)
  | (simp only[C.pure] at d
     split at d
     case h_2=>cases d
     rename_i k;simp only[Rel] at m ⊢;obtain⟨j,f,o,n,q⟩:=m;exact⟨j,f,o,a _ _ k n,a _ _ d q⟩)
theorem u9 {els:List (List C)}{v:Value}(h:Rel F L (.slx els) v):Rel F L (.sl els) v:=by
 simp only[Rel] at h ⊢;obtain⟨a,h1,c,sz,b⟩:=h;exact⟨some a,els.length,h1,aa0 _,c,fun e=>(by cases e),sz,b⟩
theorem tP {c:C}{v:Value}(h:Rel F L c v):Rel F L c.can v:=by
 cases c<;>first
  | exact h
  | exact u9 h
  | (simp only[Rel] at h
     subst h;simp only[C.can,Rel];exact⟨none,0,by simp,by simp,by simp,fun _=>by simp,0,by simp only[gK]⟩)
theorem ld {cs:List C}{a:List Value}(h:aB F L cs a):aB F L (cs.map C.can) a:=h.map fun c _ v=>tP
theorem jh {c:C}{v:Value}(h:Rel F L c v):Rel F L c.aaj v:=by
 cases c<;>first
  | exact h
  | exact tP (c:=.nils) h
  | exact u9 h
  | (simp only[Rel] at h
     obtain⟨a,h1,b⟩:=h;simp only[C.aaj,Rel];exact⟨a,h1,ld b⟩)
theorem Kq {c:C}{sv:SV}(h:aN F L c sv):aN F L c.can sv:=by
 cases c<;>first
  | exact h
  | (obtain⟨v,e,a⟩:=h;exact⟨v,e,u9 a⟩)
  | (obtain⟨v,e,a⟩:=h;exact⟨v,e,tP (c:=.nils) a⟩)
theorem lG {x:X}{els:List (List C)}(h:∀j,aN F L (τ j) (ρ j)) (e:(cZ τ x).can=.sl els) :
  ∃a c sz,ev ρ x=.v (.slice a els.length c)/\els.length<=c/\els.length<=maxLen/\(a=none->els=[]/\c=0)/\gK F a sz 0 els:=by
 have:=Kq (dZ h x);rw[e] at this;simp only[aN,Rel] at this;obtain⟨v,h1,a,c,rfl,d,b,f,sz,k⟩:=this;exact⟨a,c,sz,h1,d,b,f,k⟩
theorem NK {c:C}{k:Nat}(e:c.can=.opq k):c=.opq k:=by cases c<;>simp only[C.can,reduceCtorEq] at e<;>exact e
theorem Ci {c:C}{k:Nat}(e:c.can=.rw k):c=.rw k:=by cases c<;>simp only[C.can,reduceCtorEq] at e<;>exact e
theorem Cj {x:X}{els:List (List C)}(h:∀j,aN F L (τ j) (ρ j)) (e:cZ τ x=.slx els) :
  ∃a sz,ev ρ x=.v (.slice (some a) els.length els.length)/\els.length<=maxLen/\gK F (some a) sz 0 els:=by
 have:=dZ h x;rw[e] at this;simp only[aN,Rel] at this;obtain⟨v,h1,a,rfl,c,sz,b⟩:=this;exact⟨a,sz,h1,c,b⟩
theorem NM {c:C}(h:c.one=true):c.can.one=true:=by cases c<;>first | exact h | rfl
theorem nV {cs:List C}(h:eT cs=true):eT (cs.map C.can)=true:=by
 rw[nT] at h ⊢;intro c b;obtain⟨d,a,rfl⟩:=abq.1 b;exact NM (h d a)
theorem nW {cs:List C}{b:List Value}(h:aB F L cs b) (e:eT cs=true):∀u∈b,u.oneCell'=true:=by
 intro u d;obtain⟨i,hi⟩:=abf.1 d;have a:i<cs.length:=by rw[<-h.len];exact(aaR.1 hi).1
 have c:=h.at (aaO a) hi;exact c.one (nT.1 e _ (List.getElem_mem a))
theorem wV:∀{a:List Value},(∀u∈a,u.oneCell'=true)->j9 a=true
 | [],_=>rfl
 | v::a,h=>by simp only[j9,h v (by simp)];exact wV fun u b=>h u (by simp[b])
end
section
variable {P:Program}{G:Nat->Option (Nat×TypeId)}{F:aA}{L:Loc}{ρ:Env}{M:TL}{τ:aM}
theorem mG {k:IntKind}{n:Int}(h:(Lit.int k n).wf=true):aN F L (.int k n) (.v (.int k n)):=⟨_,rfl,by simp only[Rel];exact⟨trivial,h⟩⟩
theorem gq {b:Bool}:aN F L (.bool b) (.v (.bool b)):=⟨_,rfl,by simp only[Rel]⟩
theorem Kr {es:List C}{e:List Value}{c:Addr}{j:Nat}{a:Array Value}{t:TypeId}{f:Nat×Nat}(hb:F c.block=some (.cells a t f)) (d:c.spot=none)
  (k:∀(i:Nat) v,e[i]?=some v->a[c.off+j+i]?=some v) (h1:eT es=true) (h:aB F [] es e):aN F L (.pt es 0) (.el (some c) j):=by
 obtain⟨b,o,l⟩:=c;simp only at d;subst d;exact⟨b,o,j,e,.inr rfl,⟨o+j,a,t,f,hb,rfl,k⟩,h1,h⟩
theorem NN {els:List (List C)}{a:Option Addr}{c sz:Nat}(h1:els.length<=c) (d:els.length<=maxLen) (b:a=none->els=[]/\c=0) (e:gK F a sz 0 els):aN F L (.sl els) (.v (.slice a els.length c)) :=
 ⟨_,rfl,by simp only[Rel];exact⟨a,c,rfl,h1,d,b,sz,e⟩⟩
set_option maxHeartbeats 1000000 in
theorem NP:∀{ks:List Bool}{cs ds:List C}{d b:Bool}{e us:List Value},u4 ks cs ds d=some b->aB F L cs e->aB F L ds us->je ks e.toArray.toList us.toArray.toList d=some b:=by
 intro ks
 induction ks with
 | nil =>
  intro cs ds d b e us h h1 a;cases cs with
  | cons c cs=>simp[u4] at h
  | nil =>
   cases ds with
   | cons c cs=>simp[u4] at h
   | nil =>
    simp only[aB] at h1 a;subst h1 a;simpa[je,u4] using h
 | cons k ks l =>
  intro cs ds d b e us h h1 a;cases cs with
  | nil=>cases k<;>simp[u4] at h
  | cons c cs =>
   cases ds with
   | nil=>cases k<;>cases c<;>simp[u4] at h
   | cons n ds =>
    cases k<;>cases c<;>try (simp[u4] at h;done)
    all_goals cases n<;>try (simp[u4] at h;done)
    all_goals simp only[aB,Rel] at h1 a
    ·obtain⟨v,f,rfl,rfl,h1⟩:=h1;obtain⟨u,j,rfl,rfl,a⟩:=a;simp only[u4] at h;have:=l h h1 a;simp only[je];exact this
    ·obtain⟨v,f,rfl,⟨rfl,_⟩,h1⟩:=h1;obtain⟨u,j,rfl,⟨rfl,_⟩,a⟩:=a;simp only[u4] at h;split at h
     case h_2=>cases h
     rename_i m;have:=l h h1 a;simp only[je,m];exact this
theorem RZ (v:Value):Rel F L (cv v) v:=by
 unfold cv;split
 ·rename_i cs;simp only[Rel];exact⟨cs.toList,by simp,kY _⟩
 ·exact Cf v
theorem Gy {x:X}{k:Nat}(h:∀j,aN F L (τ j) (ρ j)) (e:cZ τ x=.mpr k):∃g cs,ev ρ x=.v (.map (some g))/\L.get k=some (.box g 0 cs):=by
 have:=dZ h x;rw[e] at this;simp only[aN,Rel] at this;obtain⟨v,h1,g,cs,a,rfl⟩:=this;exact⟨g,cs,h1,a⟩
theorem Ks (h:bS F L M) {k:Nat}{es:List (C×C)}(e:M.get k=some (.map es)):∃g a,L.get k=some (.box g 0 a)/\fM F es a:=by
 have:=h k;rw[e] at this;cases b:L.get k with
 | none=>rw[b] at this;exact this.elim
 | some o =>
  rw[b] at this;cases o with
  | row=>exact this.elim
  | box g d a=>obtain⟨rfl,c⟩:=this;exact⟨g,a,rfl,c⟩
theorem fM.isMap {es:List (C×C)}{a:List Value}(h:fM F es a):lC a=true:=by
 cases es with
 | nil=>simp only[fM] at h;subst h;rfl
 | cons p l =>
  obtain⟨k,c⟩:=p;simp only[fM] at h;obtain⟨kv,v,b,rfl,_⟩:=h;rfl
theorem fM.len:∀{es:List (C×C)}{a:List Value},fM F es a->a.length=es.length
 | [],a,h=>by simp only[fM] at h;subst h;rfl
 | (k,c)::l,a,h=>by
  simp only[fM] at h;obtain⟨kv,v,b,rfl,_,_,h⟩:=h;simp[fM.len h]
theorem qw {str:Bool}{a b:C}{u v:Value}{r:Bool}{L':Loc}(h:jQ str a b=some r) (c:Rel F L a u) (hb:Rel F L' b v):fj str u v=some r:=by
 unfold jQ at h;split at h
 ·simp only[Rel] at c hb;rw[c.1,hb.1];exact h
 ·simp only[Rel] at c hb;rw[c.1,hb.1];exact h
 ·cases h
theorem yg {str:Bool}{key:C}{kv:Value}(f:∀b v r,jQ str key b=some r->Rel F [] b v->fj str kv v=some r):∀{es:List (C×C)}{a:List Value}{o:Option C}(i:Nat),fM F es a->vT str key es=some o ->
  match o with | some c=>∃j v,lW str kv a i=some (some (j,v))/\Rel F [] c v | none=>lW str kv a i=some none
 | [],a,o,i,h,e=>by
  simp only[fM] at h;subst h;simp only[vT,xo] at e;subst e;rfl
 | (k,c)::l,a,o,i,h,e=>by
  simp only[fM] at h;obtain⟨u,v,n,rfl,h1,p,m⟩:=h;simp only[vT] at e;split at e
  ·rename_i d;injection e with e
   subst e;exact⟨i,v,by simp only[lW,f _ _ _ d h1],p⟩
  ·rename_i d;have:=yg f (i+1) m e;simp only[lW,f _ _ _ d h1];exact this
  ·cases e
theorem AW {c:C}{v:Value}{b:Bool}(h:Rel F L c v):aN F L (.tup [c,.bool b]) (.v (.tuple #[v,.bool b])) :=
 ⟨_,rfl,by simp only[Rel,aB];exact⟨[v,.bool b],rfl,v,_,rfl,h,_,[],rfl,rfl,rfl⟩⟩
theorem Gz (h:∀j,aN F L (τ j) (ρ j)) {str:Bool}{x:X}:∀b v r,jQ str (cZ τ x) b=some r->Rel F [] b v->fj str (val L ρ x) v=some r:=by
 intro b v r a hb;refine qw (F:=F) (L:=L) a ?_ hb;have:=Ch h x
 revert this
 cases c:cZ τ x<;>rw[c] at a<;>cases str<;>simp only[jQ,reduceCtorEq] at a<;>simp only[C.cel]<;>exact fun h=>h
theorem V5 {o:dX}{V:C->Prop}(ht:TS G F L ρ M τ) (h:outT o M τ V):aL o F L ρ (fun sv=>∃c,aN F L c sv/\V c):=by
 have he:=ht.env;cases o<;>simp only[outT] at h<;>simp only[aL]
 case mov x=>exact⟨_,dZ he x,h⟩
 case pick c a b =>
  split at h
  case h_2=>exact h.elim
  rename_i t hc;rw[jg he hc];cases t
  ·exact⟨_,dZ he b,h⟩
  ·exact⟨_,dZ he a,h⟩
 case build zs ps =>
  rw[fu] at h;obtain⟨cs,hc,h⟩:=u5 h;obtain⟨us,h1,h2⟩:=AV he ps (kY zs) hc;rw[h1];exact⟨.agg cs,⟨_,rfl,by simp only[Rel];exact⟨us,rfl,h2⟩⟩,h⟩
 case load agg n x =>
  split at h
  ·rename_i k off p;obtain⟨d,_⟩:=jq he p;rw[d];split at h
   case h_2=>exact h.elim
   rename_i t cs hk;obtain⟨g,ty,vs,hL,hr,an⟩:=lu ht.tl hk;split at h
   case h_2=>exact h.elim
   rename_i hl;have w:=(hr.drop off).take n;simp only[hL];rw[oJ an.2.2 (jv (by rw[w.len];exact cg hl))];exact⟨_,eP w,h⟩
  ·rename_i es off p;split at h
   case h_2=>exact h.elim
   rename_i hl;obtain⟨b,o,j,vs,d,hp,ho,hr⟩:=sG he p;have w:aB F L ((es.drop off).take n) ((vs.drop off).take n):=((hr.drop off).take n).lift;rcases d with⟨d,rfl⟩ | d
   ·rw[d];exact⟨_,by rw[w.len];exact cg hl,.inl (kZ (es:=es) hp),_,eP w,h⟩
   ·rw[d];exact⟨_,by rw[w.len];exact cg hl,.inl (kZ (es:=es) hp),_,eP w,h⟩
  ·rename_i k off p;split at h
   case h_2=>exact h.elim
   rename_i t cs hk;obtain⟨g',ty',cX,d,bo⟩:=tO he p;obtain⟨g,ty,vs,hL,hr,an⟩:=lu ht.tl hk;rw[hL] at d;injection d with d
   injection d with q1 q2 q3
   subst q1 q2 q3;split at h
   case h_2=>exact h.elim
   rename_i hl;have w:=(hr.drop off).take n;have am:((vs.drop off).take n).length=n:=by rw[w.len];exact cg hl
   have be:∀(i:Nat) (u:Value),((vs.drop off).take n)[i]?=some u->vs[off+i]?=some u:=by
    intro i u hu;rw[abD] at hu;split at hu
    case isFalse=>cases hu
    rwa [abx] at hu
   rcases bo with e2 | ⟨b,o,j,e2,e3⟩
   ·rw[e2];exact⟨_,am,.inr (.inr (.inr ⟨k,g,ty,vs,off,hL,an.2.2,rfl,fun i u hu=>by rw[Nat.add_zero];exact be i u hu⟩)),_,eP w,h⟩
   ·injection e3 with e3
    injection e3 with e3
    injection e3 with q1 q2 q3
    subst q1 q2;rw[e2];exact⟨_,am,.inr (.inr (.inr ⟨k,g,ty,vs,o,hL,an.2.2,rfl,fun i u hu=>be i u hu⟩)),_,eP w,h⟩
  ·rename_i k j off p;split at h
   case h_2=>exact h.elim
   rename_i t sz els hk;obtain⟨es,h1,h2,h3⟩:=h;obtain⟨ad,t',aw,m,c,bs,d,e2⟩:=wU he p;obtain⟨v,xs,e3,_,hr⟩:=mE ht.tl hk;rw[e2] at e3;injection e3 with e3
   injection e3 with q1 q2 q3 q4 q5
   subst q2 q3 q5;obtain⟨vs,k1,k2,k3,k4⟩:=hr.at h1;have w:aB F L ((es.drop off).take n) ((vs.drop off).take n):=((k3.drop off).take n).lift;rw[d];refine⟨_,by rw[w.len];exact cg h2,.inr (.inl ⟨k,_,_,_,_,_,ad,c,e2,rfl,rfl,fun i u hu=>?_⟩),_,eP w,h3⟩;rw[abD] at hu;split at hu
   case isFalse=>cases hu
   rw[abx] at hu;rw[Nat.add_assoc];exact k4 _ _ hu
  ·exact h.elim
 case loadR agg n x =>
  split at h
  ·rename_i k off p;obtain⟨d,_⟩:=jq he p;rw[d];split at h
   case h_2=>exact h.elim
   rename_i t cs hk;obtain⟨g,ty,vs,hL,hr,an⟩:=lu ht.tl hk;split at h
   case h_2=>exact h.elim
   rename_i hl;have w:=(hr.drop off).take n;simp only[hL];rw[oJ an.2.2 (jv (by rw[w.len];exact cg hl))];exact⟨_,eP w,h⟩
  ·rename_i es off p;split at h
   case h_2=>exact h.elim
   rename_i hl;obtain⟨b,o,j,vs,d,hp,ho,hr⟩:=sG he p;have w:aB F L ((es.drop off).take n) ((vs.drop off).take n):=((hr.drop off).take n).lift;rcases d with⟨d,rfl⟩ | d
   ·rw[d];exact⟨_,by rw[w.len];exact cg hl,.inl (kZ (es:=es) hp),_,eP w,h⟩
   ·rw[d];exact⟨_,by rw[w.len];exact cg hl,.inl (kZ (es:=es) hp),_,eP w,h⟩
  ·rename_i k off p;split at h
   case h_2=>exact h.elim
   rename_i t cs hk;obtain⟨g',ty',cX,d,bo⟩:=tO he p;obtain⟨g,ty,vs,hL,hr,an⟩:=lu ht.tl hk;rw[hL] at d;injection d with d
   injection d with q1 q2 q3
   subst q1 q2 q3;split at h
   case h_2=>exact h.elim
   rename_i hl;have w:=(hr.drop off).take n;have am:((vs.drop off).take n).length=n:=by rw[w.len];exact cg hl
   have be:∀(i:Nat) (u:Value),((vs.drop off).take n)[i]?=some u->vs[off+i]?=some u:=by
    intro i u hu;rw[abD] at hu;split at hu
    case isFalse=>cases hu
    rwa [abx] at hu
   rcases bo with e2 | ⟨b,o,j,e2,e3⟩
   ·rw[e2];exact⟨_,am,.inr (.inr (.inr ⟨k,g,ty,vs,off,hL,an.2.2,rfl,fun i u hu=>by rw[Nat.add_zero];exact be i u hu⟩)),_,eP w,h⟩
   ·injection e3 with e3
    injection e3 with e3
    injection e3 with q1 q2 q3
    subst q1 q2;rw[e2];exact⟨_,am,.inr (.inr (.inr ⟨k,g,ty,vs,o,hL,an.2.2,rfl,fun i u hu=>be i u hu⟩)),_,eP w,h⟩
  ·rename_i k j off p;split at h
   case h_2=>exact h.elim
   rename_i t sz els hk;obtain⟨es,h1,h2,h3⟩:=h;obtain⟨ad,t',aw,m,c,bs,d,e2⟩:=wU he p;obtain⟨v,xs,e3,_,hr⟩:=mE ht.tl hk;rw[e2] at e3;injection e3 with e3
   injection e3 with q1 q2 q3 q4 q5
   subst q2 q3 q5;obtain⟨vs,k1,k2,k3,k4⟩:=hr.at h1;have w:aB F L ((es.drop off).take n) ((vs.drop off).take n):=((k3.drop off).take n).lift;rw[d];refine⟨_,by rw[w.len];exact cg h2,.inr (.inl ⟨k,_,_,_,_,_,ad,c,e2,rfl,rfl,fun i u hu=>?_⟩),_,eP w,h3⟩;rw[abD] at hu;split at hu
   case isFalse=>cases hu
   rw[abx] at hu;rw[Nat.add_assoc];exact k4 _ _ hu
  ·exact h.elim
 case loadD agg n x =>
  split at h
  ·rename_i k off p;obtain⟨d,_⟩:=jq he p;rw[d];split at h
   case h_2=>exact h.elim
   rename_i t cs hk;obtain⟨g,ty,vs,hL,hr,an⟩:=lu ht.tl hk;split at h
   case h_2=>exact h.elim
   rename_i hl;have w:=(hr.drop off).take n;simp only[hL];rw[oJ an.2.2 (jv (by rw[w.len];exact cg hl))];exact⟨_,eP w,h⟩
  ·rename_i es off p;split at h
   case h_2=>exact h.elim
   rename_i hl;obtain⟨b,o,j,vs,d,hp,ho,hr⟩:=sG he p;have w:aB F L ((es.drop off).take n) ((vs.drop off).take n):=((hr.drop off).take n).lift;rcases d with⟨d,rfl⟩ | d
   ·rw[d];exact⟨_,by rw[w.len];exact cg hl,.inl (kZ (es:=es) hp),_,eP w,h⟩
   ·rw[d];exact⟨_,by rw[w.len];exact cg hl,.inl (kZ (es:=es) hp),_,eP w,h⟩
  ·exact h.elim
 case gload g =>
  split at h
  case h_2=>exact h.elim
  rename_i k hg;obtain⟨v,t,fr,h1,h2⟩:=JA ht.glob hg;exact⟨v,t,fr,h1,.opq k,⟨_,rfl,by simp only[Rel];exact h2⟩,h⟩
 case loadF agg n x =>
  split at h
  ·rename_i es off p;split at h
   case h_2=>exact h.elim
   rename_i hl;obtain⟨b,o,j,vs,d,hp,ho,hr⟩:=sG he p;have w:aB F L ((es.drop off).take n) ((vs.drop off).take n):=((hr.drop off).take n).lift;rcases d with⟨d,rfl⟩ | d
   ·rw[d];exact⟨_,by rw[w.len];exact cg hl,.inl (kZ (es:=es) hp),_,eP w,h⟩
   ·rw[d];exact⟨_,by rw[w.len];exact cg hl,.inl (kZ (es:=es) hp),_,eP w,h⟩
  ·exact h.elim
 case loadK key agg n x =>
  split at h
  ·rename_i k off p;obtain⟨d,_⟩:=jq he p;rw[d];split at h
   case h_2=>exact h.elim
   rename_i hb;simp only[hb];split at h
   case h_2=>exact h.elim
   rename_i t cs hk;obtain⟨g,ty,vs,hL,hr,an⟩:=lu ht.tl hk;split at h
   case h_2=>exact h.elim
   rename_i hl;have w:=(hr.drop off).take n;simp only[hL];rw[oJ an.2.2 (jv (by rw[w.len];exact cg hl))];exact⟨_,eP w,h⟩
  ·exact h.elim
 case mkif t x =>
  split at h
  ·rename_i k n p;obtain⟨d,e2⟩:=gL he p;rw[d];exact⟨.ifc t (.int k n),⟨_,rfl,by simp only[Rel];exact⟨_,rfl,rfl,e2⟩⟩,h⟩
  ·rename_i b p;rw[jg he p];exact⟨.ifc t (.bool b),⟨_,rfl,by simp only[Rel];exact⟨_,rfl,rfl⟩⟩,h⟩
  ·rename_i s p;obtain⟨d,e2⟩:=wT he p;rw[d];exact⟨.ifc t (.str s),⟨_,rfl,by simp only[Rel];exact⟨_,rfl,rfl,e2⟩⟩,h⟩
  ·rename_i es off p;obtain⟨b,o,j,vs,d,hp,ho,hr⟩:=sG he p;rcases d with⟨d,rfl⟩ | d
   ·rw[d];exact⟨.ifc t (.pt es off),⟨_,rfl,by simp only[Rel];exact⟨_,rfl,b,o,vs,rfl,hp,ho,hr⟩⟩,h⟩
   ·rw[d];exact⟨.ifc t (.pt es off),⟨_,rfl,by simp only[Rel];exact⟨_,rfl,b,o+j,vs,by rw[dm],hp,ho,hr⟩⟩,h⟩
  ·rename_i cs p;split at h
   case h_2=>exact h.elim
   rename_i hp;rw[fu] at h;obtain⟨vs,d,e2⟩:=Cg he p;rw[d];exact⟨.ifc t (.agg cs),⟨_,rfl,by simp only[Rel];exact⟨_,rfl,vs,rfl,jA hp e2⟩⟩,h⟩
  ·exact h.elim
 case nilck x =>
  split at h
  ·rename_i k off p;obtain⟨d,e2⟩:=jq he p;rw[d];exact⟨.own k off,⟨rfl,e2⟩,h⟩
  ·rename_i es off p;obtain⟨b,o,j,vs,d,hp,ho,hr⟩:=sG he p;rcases d with⟨d,rfl⟩ | d
   ·rw[d];exact⟨.pt es off,⟨b,o,0,vs,.inl ⟨rfl,rfl⟩,hp,ho,hr⟩,h⟩
   ·rw[d];exact⟨by simp,.pt es off,⟨b,o,j,vs,.inr rfl,hp,ho,hr⟩,h⟩
  ·rename_i k off p;obtain⟨g,t,cs,d,e2⟩:=tO he p;rcases e2 with e2 | ⟨b,o,j,e2,e3⟩
   ·rw[e2];exact⟨.ownv k off,⟨_,.inl rfl,by simp only[Rel];exact⟨g,t,cs,d,rfl⟩⟩,h⟩
   ·rw[e2];exact⟨by simp,.ownv k off,⟨_,.inr ⟨b,o,j,rfl,rfl⟩,by simp only[Rel];exact⟨g,t,cs,d,e3.symm⟩⟩,h⟩
  ·rename_i f fi ca p;obtain⟨co,cw,d,h1,h2⟩:=u7 he p;rw[d];exact⟨.fn f fi ca,⟨_,rfl,by simp only[Rel];exact⟨co,cw,rfl,h1,h2⟩⟩,h⟩
  ·rename_i nm c p;split at h
   case h_2=>exact h.elim
   rename_i t c;obtain⟨u,d,hr⟩:=ye he p;have dj:=hr;simp only[Rel] at hr;obtain⟨u',rfl,hu⟩:=hr;rw[d];exact⟨h.1,.mval nm (.ifc t c),⟨_,rfl,by simp only[Rel];exact⟨_,rfl,_,rfl,hu⟩⟩,h.2⟩
  ·exact h.elim
 case bin op x y =>
  split at h
  ·rename_i k a k' b p hy;obtain⟨d,w1⟩:=gL he p;obtain⟨e2,w2⟩:=gL he hy;rw[d,e2];split at h
   ·rename_i bp;simp only[bp];exact Kl w1 h fun v hv hV=>⟨_,yd hv,hV⟩
   ·rename_i bp;simp only[bp];split at h
    case h_2=>exact h.elim
    rename_i hk;simp only[hk];exact Iq w1 h fun v hv hV=>⟨_,yd hv,hV⟩
  ·rename_i a b p hy;rw[(wT he p).1,(wT he hy).1];exact Ir h fun v hv hV=>⟨_,yd hv,hV⟩
  ·exact h.elim
 case eqB neg x y =>
  split at h
  case h_2=>exact h.elim
  rename_i a b p hy;rw[jg he p,jg he hy];exact⟨_,gq,h⟩
 case eqS neg x y =>
  have hy:isNil y=true->ev ρ y=.v (.slice none 0 0):=by
   unfold isNil;split
   ·intro _;rfl
   ·intro e;cases e
  split at h
  ·rename_i els h1 p;obtain⟨a,c,sz,d,e2,e3,e4,e5⟩:=RY he p;rw[d,hy h1];refine⟨_,gq,h _ fun ba=>?_⟩;cases a with
   | none=>exact fL (e4 rfl).1 ba
   | some a=>rfl
  ·rename_i els h1 p;obtain⟨a,sz,d,_⟩:=Cj he p;rw[d,hy h1];exact⟨_,gq,h⟩
  ·rename_i h1 p;rw[tN he p,hy h1];exact⟨_,gq,h⟩
  ·exact h.elim
 case eqN neg x =>
  split at h
  ·rename_i t c p;obtain⟨u,d,_⟩:=NH he p;rw[d];exact⟨_,gq,h⟩
  ·rename_i k p;split at h
   case h_2=>exact h.elim
   rename_i b hb;obtain⟨v,d,h1⟩:=Gw he p;rw[d];obtain⟨q1,q2⟩:=JB h1 hb;cases b with
   | true=>rw[q1 rfl];exact⟨_,gq,h⟩
   | false=>obtain⟨t,u,rfl⟩:=q2 rfl;exact⟨_,gq,h⟩
  ·exact h.elim
 case eqA neg ks x y =>
  split at h
  case h_2=>exact h.elim
  rename_i cs ds p hy;split at h
  case h_2=>exact h.elim
  rename_i b hb;obtain⟨vs,d,h1⟩:=Cg he p;obtain⟨us,e2,h2⟩:=Cg he hy;simp only[d,e2];rw[NP hb h1 h2];exact⟨_,gq,h⟩
 case un op x =>
  split at h
  ·rename_i b p;rw[jg he p];exact⟨_,gq,h⟩
  ·rename_i k n p;rw[(gL he p).1];exact⟨⟨_,mG (wf_wrap _ _),h.out⟩⟩
  ·rename_i k n p;rw[(gL he p).1];exact⟨_,mG (wf_wrap _ _),h⟩
  ·exact h.elim
 case conv k x =>
  split at h
  case h_2=>exact h.elim
  rename_i k' n p;rw[(gL he p).1];exact⟨⟨_,mG (wf_wrap _ _),h.out⟩⟩
 case mkfn f fi ca=>exact⟨.fn f _ _,⟨_,rfl,by simp only[Rel];exact⟨_,_,rfl,dS he fi,dS he ca⟩⟩,h⟩
 case slc sz x lo hi =>
  split at h
  case h_2=>exact h.elim
  rename_i els p;split at h
  case h_2=>exact h.elim
  rename_i l r hl hh;obtain⟨h1,h2,h3,h4,h5⟩:=h;obtain⟨a,c,aw,d,e2,e3,e4,e5⟩:=lG he p;rw[d];simp only[Gx he hl,Gx he hh];refine⟨h1,h2,by omega,_,?_,h5⟩;have am:((els.drop l.toNat).take (r.toNat-l.toNat)).length=r.toNat-l.toNat:=by simp;omega
  have hs:els≠[]->aw=sz:=by
   intro ba;obtain⟨es,cd⟩:=List.exists_mem_of_ne_nil _ ba;obtain⟨i,hi⟩:=abf.1 cd;obtain⟨vs,k1,_,_,k4⟩:=nS.1 e5 i es hi;rw[<-k1,k4.len,h4 es cd]
  have key:=Ko (l:=l.toNat) (h:=r.toNat) e5 e4 (by omega) (by omega) e2;unfold r9;have:=NN (F:=F) (L:=L) (els:=(els.drop l.toNat).take (r.toNat-l.toNat)) (a:=if c=l.toNat then a else a.map (·.add (l.toNat*sz))) (c:=c-l.toNat) (sz:=sz) (by rw[am];omega) (by rw[am];omega) ?_ ?_
  ·rw[am] at this;exact this
  ·intro hn;have ha:a=none:=by
    split at hn
    ·exact hn
    ·cases a with
     | none=>rfl
     | some a=>simp at hn
   obtain⟨q1,q2⟩:=e4 ha;subst q1;simp;omega
  ·by_cases ba:els=[]
   ·subst ba;simp only[List.drop_nil,List.take_nil,gK]
   ·rw[hs ba] at key;exact key
 case fieldA off x =>
  split at h
  ·rename_i k o p;obtain⟨d,e2⟩:=jq he p;rw[d];exact⟨.own k (o+off),⟨rfl,e2⟩,h⟩
  ·rename_i es o p;obtain⟨b,q,j,vs,d,hp,ho,hr⟩:=sG he p;have cc:∀j',q+j'=q+j+off->NC F b (q+j') (o+off) vs:=by
    intro j' hj;obtain⟨ch,ce,t,fr,k1,k2,k3⟩:=hp;exact⟨ch,ce,t,fr,k1,by omega,k3⟩
   rcases d with⟨d,rfl⟩ | d
   ·rw[d];exact⟨.pt es (o+off),⟨b,q,off,vs,.inr rfl,cc _ (by omega),ho,hr⟩,h⟩
   ·rw[d];exact⟨.pt es (o+off),⟨b,q,j+off,vs,.inr rfl,cc _ (by omega),ho,hr⟩,h⟩
  ·rename_i k j o p;obtain⟨ad,t,sz,n,c,xs,d,e2⟩:=wU he p;rw[d];exact⟨.elr k j (o+off),⟨ad,t,sz,n,c,xs,by rw[Nat.add_assoc],e2⟩,h⟩
  ·rename_i k o p;obtain⟨g,t,cs,d,e2⟩:=tO he p;rcases e2 with e2 | ⟨b,q,j,e2,e3⟩
   ·rw[e2];exact⟨.ownv k (o+off),⟨_,.inr ⟨g,o,off,rfl,rfl⟩,by simp only[Rel];exact⟨g,t,cs,d,rfl⟩⟩,h⟩
   ·rw[e2];injection e3 with e3
    injection e3 with e3
    injection e3 with e4 e5
    subst e4;exact⟨.ownv k (o+off),⟨_,.inr ⟨g,q,j+off,rfl,rfl⟩,by simp only[Rel];exact⟨g,t,cs,d,by rw[e5,Nat.add_assoc]⟩⟩,h⟩
  ·exact h.elim
 case idxA sz x i =>
  split at h
  ·rename_i els k i p hi;obtain⟨es,h1,h2,h3,h4⟩:=h;obtain⟨a,c,aw,d,e2,e3,e4,e5⟩:=lG he p;rw[d,(gL he hi).1];have bt:i.toNat<els.length:=(aaR.1 h2).1;obtain⟨vs,k1,⟨ad,ce,t,fr,e,hb,cr,hv⟩,k3,k4⟩:=nS.1 e5 _ _ h2;have hs:aw=sz:=by rw[<-k1,k4.len,cg h3]
   subst hs;subst e;refine⟨by simp,h1,by omega,_,Kr hb cr (fun i v hi=>?_) k3 k4,h4⟩;have:=hv i v hi;simpa using this
  ·rename_i k i' i p hi;split at h
   case h_2=>exact h.elim
   rename_i t aw els hk;split at h
   case h_2=>exact h.elim
   rename_i cx;have:=aaQ cx;subst this;obtain⟨h1,h2,h3⟩:=h;obtain⟨a,c,t',aw,n,bs,d,e2⟩:=Fu he (Ci p);obtain⟨v,xs,e3,⟨_,a',c',q6,q7⟩,hr⟩:=mE ht.tl hk;rw[e2] at e3;injection e3 with e3
   injection e3 with q1 q2 q3 q4 q5
   subst q2 q3 q4;rw[d,(gL he hi).1];cases a with
   | none =>
    rw[<-q1] at q6;injection q6 with q6
    have:=q7 q6.symm;omega
   | some ad=>exact⟨by simp,h1,h2,.elr k i.toNat 0,⟨ad,_,_,_,c,_,by simp,e2⟩,h3⟩
  ·exact h.elim
 case extr x i =>
  split at h
  case h_2=>exact h.elim
  rename_i cs p;split at h
  case h_2=>exact h.elim
  rename_i v hv;obtain⟨vs,d,hr⟩:=NG he p;rw[d];have bt:i<vs.length:=by rw[hr.len];exact(aaR.1 hv).1
  simp only[aaO bt];exact⟨_,kM (hr.at hv (aaO bt)),h⟩
 case len x =>
  have wl:∀n:Nat,n<=maxLen->(Lit.int .i64 (n:Int)).wf=true:=by
   intro n hn;simp only[maxLen] at hn;simp[Lit.wf,IntKind.min,IntKind.max,IntKind.bits,IntKind.signed];omega
  split at h
  ·rename_i els p;obtain⟨a,c,aw,d,e2,e3,e4,e5⟩:=lG he p;rw[d];exact⟨_,mG (wl _ e3),h⟩
  ·rename_i k p;split at h
   case h_2=>exact h.elim
   rename_i t aw els hk;obtain⟨a,c,t',aw,n,bs,d,e2⟩:=Fu he (Ci p);obtain⟨v,xs,e3,⟨hm,_⟩,hr⟩:=mE ht.tl hk;rw[e2] at e3;injection e3 with e3
   injection e3 with q1 q2 q3 q4 q5
   subst q4;rw[d];exact⟨_,mG (wl _ hm),h⟩
  ·rename_i k p;obtain⟨n,h1,h2,h3⟩:=h;obtain⟨v,d,e2⟩:=Gw he (NK p);obtain⟨a,c,rfl⟩:=MV e2 h1;rw[d];exact⟨_,mG (wl _ (by simpa[maxLen] using h2)),h3⟩
  ·exact h.elim
 case mlook str ok z x i =>
  split at h
  case h_2=>exact h.elim
  rename_i k p;split at h
  case h_2=>exact h.elim
  rename_i es hk;obtain⟨g,cs,d,e2⟩:=Gy he p;obtain⟨g',vs,e3,hE⟩:=Ks ht.tl hk;rw[e2] at e3;injection e3 with e3
  injection e3 with q1 q2 q3
  subst q1 q3;rw[d];refine⟨k,cs,e2,hE.isMap,⟨?_⟩⟩;rcases h.out with⟨c,h1,h2⟩ | ⟨h1,h2⟩
  ·obtain⟨j,v,h3,h4⟩:=yg (Gz he) 0 hE h1;refine .inl ⟨j,v,h3,?_⟩;have h5:Rel F L c v:=h4.lift;cases ok with
   | true=>exact⟨_,AW h5,h2⟩
   | false=>exact⟨_,kM h5,h2⟩
  ·refine .inr ⟨yg (Gz he) 0 hE h1,?_⟩;have h5:Rel F L (cv z) z:=RZ z;cases ok with
   | true=>exact⟨_,AW h5,h2⟩
   | false=>exact⟨_,TF z,h2⟩
 case mm mx args =>
  split at h
  case h_2=>exact h.elim
  rename_i k a l hl;split at h
  case h_2=>exact h.elim
  rename_i m hm
  match args,hl with
  | x::args,hl =>
   simp only[aaX,List.cons.injEq] at hl;obtain⟨p,rfl⟩:=hl;simp only[aaX,(gL he p).1,Km he mx args hm];exact⟨_,mG h.1,h.2⟩
end
theorem TL.aac (L:TL) (k:Nat) (o:TO) (j:Nat):(L.set k o).get j=if j=k then some o else L.get j:=by
 induction L with
 | nil =>
  simp only[TL.set,TL.get];cases h:Nat.beq k j with
  | true=>have:=aaQ h;simp[this]
  | false=>have:=gF h;simp;omega
 | cons p l b =>
  obtain⟨i,q⟩:=p;simp only[TL.set];cases h:Nat.beq i k with
  | true =>
   have e:=aaQ h;subst e;simp only[TL.get];cases a:Nat.beq i j with
   | true=>have:=aaQ a;simp[this]
   | false=>have:=gF a;simp;omega
  | false =>
   have c:=gF h;simp only[];cases d:Nat.ble i k with
   | true =>
    simp only[TL.get];cases a:Nat.beq i j with
    | true=>have:=aaQ a;simp;omega
    | false=>simpa using b
   | false =>
    simp only[TL.get];cases a:Nat.beq k j with
    | true=>have:=aaQ a;simp[this]
    | false =>
     have:=gF a;simp only[];rw[fo (by omega)]
theorem TL.aag (L:TL) (k j:Nat):(L.del k).get j=if j=k then none else L.get j:=by
 induction L with
 | nil=>simp[TL.del,TL.get]
 | cons p l c =>
  obtain⟨i,q⟩:=p;simp only[TL.del];cases h:Nat.beq i k with
  | true =>
   have e:=aaQ h;subst e;simp only[TL.get,c]
   by_cases a:j=i
   ·simp[a]
   ·have:Nat.beq i j=false:=by cases b:Nat.beq i j with | true=>exact fL (aaQ b).symm a | false=>rfl
    simp[a,this]
  | false =>
   have d:=gF h;simp only[TL.get];cases b:Nat.beq i j with
   | true=>have:=aaQ b;simp;omega
   | false=>simpa using c
theorem tQ:∀(l:List TO) (k j:Nat),TL.get (ql k l) j=if k<=j then l[j-k]? else none
 | [],k,j=>by simp[ql,TL.get]
 | o::l,k,j=>by
  simp only[ql,TL.get];cases h:Nat.beq k j with
  | true=>have:=aaQ h;subst this;simp
  | false =>
   have a:=gF h;simp only[tQ l (k+1) j]
   by_cases h1:k<=j
   ·rw[eu (by omega),eu h1,show j-k=(j-(k+1))+1 by omega,abe]
   ·rw[fo (by omega),fo h1]
theorem cA (l:List TO) (j:Nat):TL.get (cJ l) j=if 1000<=j then l[j-1000]? else none:=tQ l 1000 j
theorem yh:∀{L:TL}{ks:List Nat}{l:List TO},L.sub ks=some l->l.length=ks.length/\∀(i:Nat) (k:Nat),ks[i]?=some k->L.get k=l[i]?
 | L,[],l,h=>by simp only[TL.sub,xo] at h;subst h;simp
 | L,k::ks,l,h=>by
  simp only[TL.sub] at h;split at h
  case h_2=>cases h
  rename_i o e h1 c;injection h with h
  subst h;obtain⟨d,a⟩:=yh c;refine⟨by simp[d],fun i b hi=>?_⟩;cases i with
  | zero=>simp at hi;subst hi;simpa using h1
  | succ i=>simp at hi;simpa using a i b hi
theorem rm:∀(ks:List Nat) (L:TL) (j:Nat),(L.aae ks).get j=if j∈ks then none else L.get j
 | [],L,j=>by simp[TL.aae]
 | k::ks,L,j=>by
  simp only[TL.aae,rm ks,TL.aag,aaT]
  by_cases h1:j=k<;>by_cases a:j∈ks<;>simp[h1,a]
theorem nX:∀(ko:List Nat) (l:List TO) (L:TL) (j:Nat),ko.Nodup->ko.length=l.length ->
  ((L.puts ko l).get j=L.get j/\j∉ko)\/∃i,ko[i]?=some j/\(L.puts ko l).get j=l[i]?/\i<l.length
 | [],l,L,j,_,h=>by
  refine .inl ⟨?_,by simp⟩;cases l<;>rfl
 | k::ko,[],L,j,_,h=>by simp at h
 | k::ko,o::l,L,j,c,h=>by
  simp only[aa5,Nat.add_right_cancel_iff] at h;rw[List.nodup_cons] at c;simp only[TL.puts];rcases nX ko l (L.set k o) j c.2 h with⟨h1,a⟩ | ⟨i,h1,a,d⟩
  ·rw[TL.aac] at h1
   by_cases b:j=k
   ·subst b;rw[eu rfl] at h1;exact .inr ⟨0,by simp,by simpa using h1,by simp⟩
   ·rw[fo b] at h1;exact .inl ⟨h1,by simp[b,a]⟩
  ·exact .inr ⟨i+1,by simpa using h1,by simpa using a,by simp;omega⟩
theorem qx (g:C->C):∀(L:TL) (k:Nat),(TL.aad g L).get k=(L.get k).map (TO.aad g)
 | [],k=>rfl
 | (j,o)::l,k=>by
  simp only[TL.aad,TL.get];cases h:Nat.beq j k with
  | true=>rfl
  | false=>exact qx g l k
section
variable {P:Program}{G:Nat->Option (Nat×TypeId)}{F:aA}{L:Loc}{ρ:Env}{M:TL}{τ:aM}
theorem Ck (d:Option Nat) (c:C) (τ:aM) (t:Nat):bA d c τ t=match d with | some k=>if t=k then c else τ t | none=>τ t:=by
 cases d with
 | none=>rfl
 | some k =>
  simp only[bA];cases h:Nat.beq t k with
  | true=>have:=aaQ h;simp[this]
  | false=>have:=gF h;simp[this]
theorem NQ {F:aA}{L:Loc}{τ:aM}{ρ:Env}(h:∀j,aN F L (τ j) (ρ j)) {c:C}{sv:SV}(a:aN F L c sv) (d:Option Nat):∀j,aN F L (bA d c τ j) (put d sv ρ j):=by
 intro j;rw[Ck,put_eq];cases d with
 | none=>exact h j
 | some k =>
  simp only[];split
  ·exact a
  ·exact h j
theorem TS.put (a:TS G F L ρ M τ) {c:C}{sv:SV}(b:aN F L c sv) (d:Option Nat):TS G F L (put d sv ρ) M (bA d c τ):=⟨a.tl,NQ a.env b d,a.kp,a.glob⟩
theorem d9 {F:aA}{L:Loc}{a:Option TO}{b:Option Own}(h:x7 F L a b):(a=none/\b=none)\/∃o p,a=some o/\b=some p/\cK F L o p:=by
 cases a<;>cases b<;>simp only[x7] at h
 ·exact .inl ⟨rfl,rfl⟩
 ·exact .inr ⟨_,_,rfl,rfl,h⟩
theorem TS.new {F':aA}(hF:F.le F') (b:TS G F L ρ M τ) {k:Nat}(f:L.get k=none) {o:Own}{to:TO}(l:cK F' (L.set k o) to o):TS G F' (L.set k o) ρ (M.set k to) τ:=by
 have a:Ext L (L.set k o):=by
  intro j p e;refine⟨p,?_,Own.aah p⟩;rw[Loc.aac,fo (by rintro rfl;rw[f] at e;cases e)];exact e
 refine⟨fun j=>?_,fun j=>(b.env j).ext hF a,fun j g t e=>?_,b.glob.mono hF⟩
 ·rw[TL.aac,Loc.aac];split
  ·exact l
  ·rcases d9 (b.tl j) with⟨d,c⟩ | ⟨p,q,d,c,m⟩
   ·rw[d,c];trivial
   ·rw[d,c];exact m.ext hF a
 ·obtain⟨cs,h⟩:=b.kp j g t e;exact⟨cs,by rw[Loc.aac,fo (by rintro rfl;rw[f] at h;cases h)];exact h⟩
theorem TS.mono {F':aA}(hF:F.le F') (a:TS G F L ρ M τ):TS G F' L ρ M τ:=⟨a.tl.mono hF,fun j=>(a.env j).mono hF,a.kp,a.glob.mono hF⟩
theorem TS.turn (c:TS G F L ρ M τ) {k:Nat}{o o':Own}(m:L.get k=some o) (n:Own.like o o') (b:∀g t cs,o=.box g t cs->∃cs',o'=.box g t cs') {to:TO}(r:∀L',Ext L L'->cK F L' to o') :
  TS G F (L.set k o') ρ (M.set k to) τ:=by
 have a:Ext L (L.set k o'):=by
  intro j p e;rw[Loc.aac];split
  ·rename_i d;subst d;rw[m] at e;injection e with e
   subst e;exact⟨o',rfl,n⟩
  ·exact⟨p,e,Own.aah p⟩
 refine⟨fun j=>?_,fun j=>(c.env j).ext (aA.le_refl F) a,fun j g t e=>?_,c.glob⟩
 ·rw[TL.aac,Loc.aac];split
  ·exact r _ a
  ·rcases d9 (c.tl j) with⟨l,f⟩ | ⟨p,q,l,f,u⟩
   ·rw[l,f];trivial
   ·rw[l,f];exact u.ext (aA.le_refl F) a
 ·obtain⟨cs,h⟩:=c.kp j g t e;rw[Loc.aac];split
  ·rename_i d;subst d;rw[m] at h;injection h with h
   obtain⟨cs',s⟩:=b g t cs h;exact⟨cs',by rw[s]⟩
  ·exact⟨cs,h⟩
theorem nY {L':Loc}{k:Nat}(a:∀g t cs,L.get k≠some (.box g t cs)) (b:∀j,j≠k->∀o,L.get j=some o->∃o',L'.get j=some o'/\Own.like o o') {F':aA}(hF:F.le F') (c:C) (v:Value) (l:c.leaf=true)
  (h:Rel F L c v):Rel F' L' (gj k c) v:=by
 cases c<;>simp only[C.leaf,aa2] at l<;>simp only[gj]
 case rw j =>
  cases f:Nat.beq j k with
  | true=>simp only[Rel]
  | false=>exact bL hF (fun d e=>by
    rcases e with⟨off,e⟩ | e | e
    ·cases e
    ·injection e with e;subst e;exact b j (gF f)
    ·cases e) rfl h
 case own j off =>
  refine bL hF (fun d e=>?_) rfl h;rcases e with⟨off,e⟩ | e | e
  ·injection e with e e2
   subst e;simp only[Rel] at h;obtain⟨g,t,cs,h1,_⟩:=h;exact b j (by rintro rfl;exact a _ _ _ h1)
  ·cases e
  ·cases e
 case elr=>exact h.elim
 case mpr j =>
  refine bL hF (fun d e=>?_) rfl h;rcases e with⟨off,e⟩ | e | e
  ·cases e
  ·cases e
  ·injection e with e
   subst e;simp only[Rel] at h;obtain⟨g,cs,h1,_⟩:=h;exact b j (by rintro rfl;exact a _ _ _ h1)
 all_goals
  exact bL hF (fun d e=>by rcases e with⟨off,e⟩ | e | e<;>cases e) rfl h
theorem oW {L':Loc}{k:Nat}(d:∀g t cs,L.get k≠some (.box g t cs)) (f:∀j,j≠k->∀o,L.get j=some o->∃o',L'.get j=some o'/\Own.like o o') {F':aA}(hF:F.le F') (c:C) (sv:SV) (p:c.leaf=true)
  (h:aN F L c sv):aN F' L' (gj k c) sv:=by
 cases c<;>simp only[C.leaf,aa2] at p<;>simp only[gj]
 case rw j =>
  cases n:Nat.beq j k with
  | true=>trivial
  | false=>exact dK hF (fun l e=>by
    rcases e with⟨off,e⟩ | ⟨off,e⟩ | e | ⟨a,b,e⟩ | e<;>first | cases e;done | skip
    injection e with e;subst e;exact f j (gF n)) rfl h
 case elr j a b =>
  cases n:Nat.beq j k with
  | true=>trivial
  | false=>exact dK hF (fun l e=>by
    rcases e with⟨off,e⟩ | ⟨off,e⟩ | e | ⟨a,b,e⟩ | e<;>first | cases e;done | skip
    injection e with e;subst e;exact f j (gF n)) rfl h
 case own j off =>
  refine dK hF (fun l e=>?_) rfl h;obtain⟨_,g,t,cs,h1⟩:=h;rcases e with⟨off,e⟩ | ⟨off,e⟩ | e | ⟨a,b,e⟩ | e<;>first | cases e;done | skip
  injection e with e
  subst e;exact f j (by rintro rfl;exact d _ _ _ h1)
 case ownv j off =>
  refine dK hF (fun l e=>?_) rfl h;obtain⟨v,_,m⟩:=h;simp only[Rel] at m;obtain⟨g,t,cs,h1,_⟩:=m;rcases e with⟨off,e⟩ | ⟨off,e⟩ | e | ⟨a,b,e⟩ | e<;>first | cases e;done | skip
  injection e with e
  subst e;exact f j (by rintro rfl;exact d _ _ _ h1)
 case mpr j =>
  refine dK hF (fun l e=>?_) rfl h;obtain⟨v,_,m⟩:=h;simp only[Rel] at m;obtain⟨g,cs,h1,_⟩:=m;rcases e with⟨off,e⟩ | ⟨off,e⟩ | e | ⟨a,b,e⟩ | e<;>first | cases e;done | skip
  injection e with e
  subst e;exact f j (by rintro rfl;exact d _ _ _ h1)
 all_goals
  exact dK hF (fun l e=>by rcases e with⟨off,e⟩ | ⟨off,e⟩ | e | ⟨a,b,e⟩ | e<;>cases e) rfl h
theorem cK.aay {L':Loc}{k:Nat}(a:∀g t cs,L.get k≠some (.box g t cs)) (d:∀j,j≠k->∀o,L.get j=some o->∃o',L'.get j=some o'/\Own.like o o') {F':aA}(hF:F.le F'):∀{o:TO}{p:Own},cK F L o p->cK F' L' (o.aad (C.kill k)) p
 | .box t cs,.box g b e,r=>⟨r.1,r.2.map fun c _ v h=>Rel.mp (nY a d hF) 3 h⟩
 | .row t sz els,.row v b f n xs,r=>⟨r.1,r.2.1,r.2.2.1,r.2.2.2.1,r.2.2.2.2.mono hF⟩
 | .box _ _,.row ..,r=>r.elim
 | .row ..,.box ..,r=>r.elim
 | .map _,.row ..,r=>r.elim
 | .map es,.box g b e,r=>⟨r.1,r.2.mono hF⟩
theorem TS.aay (b:TS G F L ρ M τ) {k:Nat}{o':Own}(a:∀g t cs,L.get k≠some (.box g t cs)) {to:TO}(m:cK F (L.set k o') to o') :
  TS G F (L.set k o') ρ ((M.aad (C.kill k)).set k to) (fun j=>(τ j).kill k):=by
 have d:∀j,j≠k->∀o,L.get j=some o->∃p,(L.set k o').get j=some p/\Own.like o p:=fun j l o e=>⟨o,by rw[Loc.aac,fo l];exact e,Own.aah o⟩;refine⟨fun j=>?_,fun j=>aN.mp (nY a d (aA.le_refl F)) (oW a d (aA.le_refl F)) 3 (b.env j),fun j g t e=>?_,b.glob⟩
 ·rw[TL.aac,Loc.aac,qx];split
  ·exact m
  ·rcases d9 (b.tl j) with⟨f,c⟩ | ⟨p,q,f,c,n⟩
   ·rw[f,c];trivial
   ·rw[f,c];exact n.aay a d (aA.le_refl F)
 ·obtain⟨cs,h⟩:=b.kp j g t e;exact⟨cs,by rw[Loc.aac,fo (by rintro rfl;exact a _ _ _ h)];exact h⟩
theorem jE {a:Option Addr}{sz b:Nat}{els:List (List C)}(h:gK F a b 0 els) (x:∀es∈els,es.length=sz):∃xs,xs.length=els.length*sz/\(dL F a 0 xs\/(els.length=0/\xs=[]))/\aP F sz els xs:=by
 cases m:els with
 | nil=>exact⟨[],by simp,.inr ⟨rfl,rfl⟩,by simp only[aP]⟩
 | cons s e =>
  rw[m] at h x;have h0:=nS.1 h 0 s (by simp);obtain⟨ar,k1,⟨f,k,t,fr,ea,hb,p,_⟩,_,k4⟩:=h0;have q:b=sz:=by rw[<-k1,k4.len,x s (by simp)]
  subst q;subst ea;have key:∀(l:List (List C)) (i:Nat),gK F (some f) b i l->∃xs,aP F b l xs/\∀(j:Nat) v,xs[j]?=some v->k[f.off+i*b+j]?=some v:=by
   intro l
   induction l with
   | nil=>intro i _;exact⟨[],by simp only[aP],by simp⟩
   | cons es l ih =>
    intro i hr;simp only[gK] at hr;obtain⟨⟨n,y,⟨ag,ab,t',ac,u,c,z,hv⟩,q3,q4⟩,q5⟩:=hr;injection u with u
    subst u;rw[hb] at c;injection c with c
    injection c with r1 r2 r3
    subst r1;obtain⟨xs,o,r⟩:=ih (i+1) q5;refine⟨n++xs,by simp only[aP];exact⟨n,xs,rfl,y,q3,q4,o⟩,fun j v d=>?_⟩
    by_cases w:j<n.length
    ·rw[abF w] at d;exact hv j v d
    ·rw[abG (by omega)] at d;have:=r _ _ d;rw[show f.off+i*b+j=f.off+(i+1)*b+(j-n.length) by rw[y,Nat.add_mul];omega];exact this
  obtain⟨xs,o,r⟩:=key (s::e) 0 h;exact⟨xs,iE o,.inl ⟨f,k,t,fr,rfl,hb,p,fun j v d=>by have:=r j v d;simpa using this⟩,o⟩
theorem aP.ones {sz:Nat}:∀{l:List (List C)}{xs:List Value},aP F sz l xs->∀u∈xs,u.oneCell'=true
 | [],xs,h=>by simp only[aP] at h;subst h;simp
 | es::l,xs,h=>by
  simp only[aP] at h;obtain⟨f,e,rfl,j,b,d,c⟩:=h;intro u a;rcases aaU.1 a with a | a
  ·exact nW d b u a
  ·exact aP.ones c u a
theorem aP.set {sz:Nat}:∀{l:List (List C)}{xs:List Value},aP F sz l xs->∀{j:Nat}{es ds:List C}{us:List Value}{off:Nat},l[j]?=some es->off+us.length<=sz->aB F [] ds us->eT ds=true ->
  aP F sz (l.set j (jo es off ds)) (bU xs (j*sz+off) us)
 | [],xs,h,j,es,ds,us,off,e,_,_,_=>by simp at e
 | x::l,xs,h,j,es,ds,us,off,e,p,n,h1=>by
  simp only[aP] at h;obtain⟨b,f,rfl,m,d,k,o⟩:=h;cases j with
  | zero =>
   simp only[aa3,xo] at e;subst e;simp only[List.set_cons_zero,aP];refine⟨bU b off us,f,?_,?_,?_,mX k n,o⟩
   ·simp only[bU,Nat.zero_mul,Nat.zero_add];rw[List.take_append_of_le_length (by omega),List.drop_append_of_le_length (by omega)];simp
   ·simp only[bU,abI,abJ,List.length_drop];omega
   ·rw[nT] at d h1 ⊢;intro c a;simp only[jo,aaU] at a;rcases a with(a | a) | a
    ·exact d c (List.mem_of_mem_take a)
    ·exact h1 c a
    ·exact d c (List.mem_of_mem_drop a)
  | succ j =>
   simp only[List.set_cons_succ,aP];have q:=aP.set o (j:=j) (by simpa using e) p n h1;refine⟨b,_,?_,m,d,k,q⟩;simp only[bU];rw[show(j+1)*sz+off=b.length+(j*sz+off) by rw[m,Nat.add_mul];omega];rw[List.take_length_add_append,show b.length+(j*sz+off)+us.length=b.length+(j*sz+off+us.length) by omega,List.drop_length_add_append];simp[abK]
end
end Go.Fr.T
