/- Part of the proofs of the statements of this seat. -/
import Derived.Test.YthfdbepkalpplaaFW0
import Derived.Scope
set_option maxRecDepth 10000
set_option linter.unusedVariables false
set_option linter.unusedSimpArgs false
namespace Go.Fr
open Go Go.RowKit
theorem set_comm:∀(L:Loc) {k d:Nat}(o o':Own),k≠d->(L.set k o).set d o'=(L.set d o').set k o:=by
 intro L k d o o' h;have hb:Nat.beq k d=false:=by cases e:Nat.beq k d with | true=>exact o5 (aaO e) h | false=>rfl
 have b:Nat.beq d k=false:=by cases e:Nat.beq d k with | true=>exact o5 (aaO e).symm h | false=>rfl
 have a:∀{i j:Nat},Nat.beq i j=false->(Nat.ble i j=true/\Nat.ble j i=false)\/(Nat.ble i j=false/\Nat.ble j i=true):=by
  intro i j s;have t:=gb s;rcases Nat.lt_or_gt_of_ne t with ac | aa
  ·refine .inl ⟨Nat.ble_eq_true_of_le (by omega),?_⟩;cases e:Nat.ble j i with | true=>have:=aa6 e;omega | false=>rfl
  ·refine .inr ⟨?_,Nat.ble_eq_true_of_le (by omega)⟩;cases e:Nat.ble i j with | true=>have:=aa6 e;omega | false=>rfl
 induction L with
 | nil =>
  simp only[Loc.set,hb,b];rcases a hb with⟨h1,f⟩ | ⟨h1,f⟩<;>simp only[h1,f,Loc.set]
 | cons p l y =>
  obtain⟨j,q⟩:=p;cases m:Nat.beq j k with
  | true =>
   have:=aaO m;subst this;have c:Nat.beq j j=true:=by simp
   simp only[Loc.set,c,hb,b];rcases a hb with⟨h1,f⟩ | ⟨h1,f⟩
   ·simp only[h1,Loc.set,c]
   ·simp only[h1,f,Loc.set,c,b]
  | false =>
   cases n:Nat.beq j d with
   | true =>
    have:=aaO n;subst this;have c:Nat.beq j j=true:=by simp
    simp only[Loc.set,c,hb,b];rcases a b with⟨h1,f⟩ | ⟨h1,f⟩
    ·simp only[h1,Loc.set,c]
    ·simp only[h1,f,Loc.set,c,hb]
   | false =>
    simp only[Loc.set,m,n];rcases a m with⟨a1,x⟩ | ⟨a1,x⟩<;>rcases a n with⟨r,w⟩ | ⟨r,w⟩
    ·simp only[a1,r,Loc.set,m,n,y]
    ·simp only[a1,r,Loc.set,m,n,hb,b];have h1:Nat.ble d k=true:=by
      have z:=aa6 a1;have x2:=aa6 w;exact Nat.ble_eq_true_of_le (by omega)
     simp only[h1]
    ·simp only[a1,r,Loc.set,m,n,hb,b];have h1:Nat.ble k d=true:=by
      have z:=aa6 r;have x2:=aa6 x;exact Nat.ble_eq_true_of_le (by omega)
     simp only[h1]
    ·rcases a hb with⟨v,u⟩ | ⟨v,u⟩
     ·simp only[a1,r,Loc.set,m,n,hb,b,v,u]
     ·simp only[a1,r,Loc.set,m,n,hb,b,v,u]
theorem put_comm {d a:Option Nat}{v u:SV}{ρ:Env}(h:∀k,d=some k->a≠some k):put d v (put a u ρ)=put a u (put d v ρ):=by
 funext t
 simp only[put_eq];cases d with
 | none=>rfl
 | some k =>
  cases a with
  | none=>rfl
  | some c =>
   have:=h k rfl;simp only[];split<;>split
   ·rename_i h1 b;subst h1;subst b;exact o5 rfl this
   ·rfl
   ·rfl
   ·rfl
def cj:List X->List Nat
 | []=>[]
 | .t n::l=>n::cj l
 | .mt _ n::l=>n::cj l
 | _::l=>cj l
theorem lO:∀{l:List X}{n:Nat},X.t n∈l->n∈cj l
 | [],n,h=>by cases h
 | .t m::l,n,h=>by
  simp only[cj,aaT];rcases aaT.1 h with h | h
  ·injection h with h;exact .inl h
  ·exact .inr (lO h)
 | .c v::l,n,h=>by
  rcases aaT.1 h with h | h
  ·cases h
  ·exact lO (l:=l) h
 | .fn f::l,n,h=>by
  rcases aaT.1 h with h | h
  ·cases h
  ·exact lO (l:=l) h
 | .mt a m::l,n,h=>by
  simp only[cj,aaT];rcases aaT.1 h with h | h
  ·cases h
  ·exact .inr (lO h)
theorem m9:∀{l:List X}{a:String}{n:Nat},X.mt a n∈l->n∈cj l
 | [],_,n,h=>by cases h
 | .t m::l,a,n,h=>by
  simp only[cj,aaT];rcases aaT.1 h with h | h
  ·cases h
  ·exact .inr (m9 h)
 | .c v::l,a,n,h=>by
  rcases aaT.1 h with h | h
  ·cases h
  ·exact m9 (l:=l) h
 | .fn f::l,a,n,h=>by
  rcases aaT.1 h with h | h
  ·cases h
  ·exact m9 (l:=l) h
 | .mt b m::l,a,n,h=>by
  simp only[cj,aaT];rcases aaT.1 h with h | h
  ·injection h with h1 h2;exact .inl h2
  ·exact .inr (m9 h)
theorem fA {l:List X}{d:Option Nat}{v:SV}{ρ:Env}(h:∀k,d=some k->k∉cj l):∀x∈l,ev (put d v ρ) x=ev ρ x:=by
 intro x a;cases x with
 | t n =>
  simp only[ev,put_eq];cases d with
  | none=>rfl
  | some k =>
   simp only[];rw[fL];intro e;subst e;exact h n rfl (lO a)
 | c v=>rfl
 | fn f=>rfl
 | mt b n =>
  simp only[ev,put_eq];cases d with
  | none=>rfl
  | some k =>
   simp only[];rw[fL];intro e;subst e;exact h n rfl (m9 a)
def Vd (L:Loc) (ρ:Env):Prop:=∀t k off,ρ t=.own k off->∃g ty cs,L.get k=some (.box g ty cs)
theorem Vd.ev {L:Loc}{ρ:Env}(h:Vd L ρ) {x:X}{k off:Nat}(e:Fr.ev ρ x=.own k off):∃g ty cs,L.get k=some (.box g ty cs):=by
 cases x with
 | t n=>exact h n k off e
 | c v=>cases e
 | fn f=>cases e
 | mt a n =>
  simp only[Fr.ev,R5] at e;split at e<;>cases e
def Keeps (L L':Loc):Prop:=∀k g ty cs,L.get k=some (.box g ty cs)->L'.get k=some (.box g ty cs)
theorem Keeps.refl (L:Loc):Keeps L L:=fun _ _ _ _ h=>h
theorem Keeps.trans {L L' L'':Loc}(h:Keeps L L') (a:Keeps L' L''):Keeps L L'':=fun k g ty cs e=>a k g ty cs (h k g ty cs e)
theorem bV {L:Loc}{k j:Nat}{o:Own}(h:j≠k):(L.set k o).get j=L.get j:=by rw[Loc.aac,fL h]
theorem Keeps.new {L:Loc}{k:Nat}{o:Own}(h:L.get k=none):Keeps L (L.set k o):=fun j g ty cs e=>by
 rw[bV (fun a=>by rw[a,h] at e;cases e)];exact e
theorem Keeps.row {L:Loc}{k:Nat}{v:Value}{t:TypeId}{sz n:Nat}{xs:List Value}{o:Own}(h:L.get k=some (.row v t sz n xs)):Keeps L (L.set k o):=fun j g ty cs e=>by
 rw[bV (fun a=>by rw[a,h] at e;cases e)];exact e
section
variable {P:Program}{F:au}{L:Loc}{ρ:Env}{K:dm}
theorem CallsA.up {f:Nat}{args:Array Value}{F F1:au}{R:au->List Own->Value->Prop}{Lin:List Own}(h:CallsA P f args F Lin R) (n:F.le F1) (hg:sG F):CallsA P f args F1 Lin R:=by
 refine⟨h.ent,h.mono,fun w m=>?_⟩;have s:St F (inp Lin) w:=⟨fun b o e=>m.frz b o (n b o e),m.own,fun k o g e hb=>(by
  cases h1:F g with
  | none=>rfl
  | some o1=>have d:=n g o1 h1;rw[m.off k o g e hb] at d;cases d),m.sep,hg⟩
 refine(h.run w s).mono ?_;rintro e w' ⟨v,F',Lo,rfl,c,a,z⟩;have q:∀b o,F1 b=some o->¬(inp Lin).owns b:=by
  rintro b o x ⟨k,o',e,hb⟩;rw[m.off k o' b e hb] at x;cases x
 have p:∀b o,F1 b=some o->w'.heap[b]?=some o:=fun b o e=>by
  have h1:=m.frz b o e;rw[a.same b (Array.getElem?_eq_some_iff.1 h1).1 (q b o e)];exact h1
 have j:F'.le (fun b=>match F' b with | some o=>some o | none=>F1 b):=fun b o e=>by simp only[e]
 refine⟨v,fun b=>match F' b with | some o=>some o | none=>F1 b,Lo,rfl,⟨fun b o e=>?_,c.own,fun k o g e hb=>?_,c.sep,sG.mono j c.glob⟩,⟨fun b o e=>?_,a.os,a.tape,a.output,a.size,a.same,fun b hb=>?_,a.own⟩,h.mono _ _ _ _ j z⟩
 ·split at e
  ·rename_i o' r;injection e with e
   subst e;exact c.frz b _ r
  ·exact p b o e
 ·have h1:=c.off k o g e hb;simp only[h1];cases d:F1 g with
  | none=>rfl
  | some t =>
   rcases a.own g ⟨k,o,e,hb⟩ with l | l
   ·exact o5 l (q g t d)
   ·have:=(Array.getElem?_eq_some_iff.1 (m.frz g t d)).1;omega
 ·cases h1:F' b with
  | none=>exact e
  | some o' =>
   have d:=c.frz b o' h1;rw[p b o e] at d;exact d.symm
 ·cases h1:F' b with
  | none=>rw[h1] at hb;exact .inl hb
  | some o' =>
   rcases a.frz b (by rw[h1];simp) with l | l | l
   ·refine .inl (fun h4=>?_);cases u:F b with
    | none=>exact l u
    | some y=>have:=n b y u;rw[h4] at this;cases this
   ·exact .inr (.inl l)
   ·exact .inr (.inr l)
theorem Real.glob {F:au}{L:Loc}(h:Real F L):sG F:=by obtain⟨w,a⟩:=h;exact a.glob
theorem Real.down {F F':au}{L L':Loc}(h:Real F' L') (c:F.le F') (j:sG F) (d:L'.part L):Real F L:=by
 obtain⟨w,a⟩:=h;have a:=a.part d;refine⟨w,⟨fun b o e=>a.frz b o (c b o e),a.own,fun k o g e hb=>?_,a.sep,j⟩⟩;cases f:F g with
 | none=>rfl
 | some o'=>have h1:=c g o' f;rw[a.off k o g e hb] at h1;cases h1
theorem Jk {L:Loc}{k:Nat}{o:Own}(h:L.get k=none):(L.set k o).part L:=fun j p e=>by
 rw[bV (fun a=>by rw[a,h] at e;cases e)];exact e
theorem Bf {L L1:Loc}{k:Nat}{o:Own}(h:L1.part L) (b:L.get k=none):(L1.set k o).part (L.set k o):=fun j p e=>by
 rw[Loc.aac] at e ⊢;split
 ·rename_i a;rw[fo a] at e;exact e
 ·rename_i a;rw[fL a] at e;exact h j p e
def Left (d:Option Nat) (L L':Loc):Prop:=L'=L\/(∃k o,d=some k/\L.get k=none/\L'=L.set k o)\/∃k a t sz n xs,L.get k=some (.row a t sz n xs)/\L'=L.set k (.row (.slice none 0 0) t sz 0 [])
theorem Left.keeps {d:Option Nat}{L L':Loc}(h:Left d L L'):Keeps L L':=by
 rcases h with rfl | ⟨k,o,_,a,rfl⟩ | ⟨k,b,t,sz,n,xs,a,rfl⟩
 ·exact Keeps.refl _
 ·exact Keeps.new a
 ·exact Keeps.row a
theorem zb {L L1:Loc}{k:Nat}{o:Own}(h:L1.part L):(L1.set k o).part (L.set k o):=fun j p e=>by
 rw[Loc.aac] at e ⊢;split
 ·rename_i a;rw[fo a] at e;exact e
 ·rename_i a;rw[fL a] at e;exact h j p e
theorem dH.imp {f:Nat}{args:List Value}{F:au}{L:Loc}{d:Option Nat}{K K':au->Loc->Value->Prop}(h:dH P f args F L d K) (q:∀F' L' v,F.le F'->Left d L L'->Real F' L'->K F' L' v->K' F' L' v):dH P f args F L d K':=by
 cases h with
 | frz R h1 e=>exact .frz R h1 fun v F' Lo a j=>⟨(e v F' Lo a j).1,fun b=>q F' L v a (.inl rfl) b ((e v F' Lo a j).2 b)⟩
 | own R k h1 u l e =>
  refine .own R k h1 u l fun v F' Lo a j=>?_;obtain⟨o,r,s⟩:=e v F' Lo a j;exact⟨o,r,fun b=>q F' _ v a (.inr (.inl ⟨k,o,u,l,rfl⟩)) b (s b)⟩
 | row R p m t sz n xs h1 c e =>
  refine .row R p m t sz n xs h1 c fun v F' Lo a j=>?_;obtain⟨r,s⟩:=e v F' Lo a j;exact⟨r,fun b=>q F' _ v a (.inr (.inr ⟨p,m,t,sz,n,xs,c,rfl⟩)) b (s b)⟩
 | lent R p m t sz n xs h1 c e=>exact .lent R p m t sz n xs h1 c fun v F' a j b=>q F' L v a (.inl rfl) b (e v F' a j b)
theorem dH.up {f:Nat}{args:List Value}{F F1:au}{L L1:Loc}{d:Option Nat}{K:au->Loc->Value->Prop}(h:dH P f args F L d K) (b:F.le F1) (w:sG F) (r:L1.part L) (y:∀k,d=some k->L.get k=none->L1.get k=none) :
  dH P f args F1 L1 d (fun F' L' v=>F1.le F'/\Real F' L'/\((L'=L1/\K F' L v)\/(∃k o,d=some k/\L.get k=none/\L'=L1.set k o/\K F' (L.set k o) v)\/∃k p t sz n xs,L.get k=some (.row p t sz n xs)/\L'=L1.set k (.row (.slice none 0 0) t sz 0 [])/\K F' (L.set k (.row (.slice none 0 0) t sz 0 [])) v)):=by
 cases h with
 | frz R h1 j =>
  refine .frz R (h1.up b w) fun v F' Lo a l=>?_;obtain⟨s,u⟩:=j v F' Lo (au.le_trans b a) l;exact⟨s,fun c=>⟨a,c,.inl ⟨rfl,u (c.down (au.le_refl _) c.glob r)⟩⟩⟩
 | own R k h1 x m j =>
  refine .own R k (h1.up b w) x (y k x m) fun v F' Lo a l=>?_;obtain⟨o,s,u⟩:=j v F' Lo (au.le_trans b a) l;exact⟨o,s,fun c=>⟨a,c,.inr (.inl ⟨k,o,x,m,rfl,u (c.down (au.le_refl _) c.glob (Bf r m))⟩)⟩⟩
 | row R q p t sz n xs h1 e j =>
  refine .row R q p t sz n xs (h1.up b w) (r q _ e) fun v F' Lo a l=>?_;obtain⟨s,u⟩:=j v F' Lo (au.le_trans b a) l;exact⟨s,fun c=>⟨a,c,.inr (.inr ⟨q,p,t,sz,n,xs,e,rfl,u (c.down (au.le_refl _) c.glob (zb r))⟩)⟩⟩
 | lent R q p t sz n xs h1 e j =>
  exact .lent R q p t sz n xs (h1.up b w) (r q _ e) fun v F' a l c=>⟨a,c,.inl ⟨rfl,j v F' (au.le_trans b a) l (c.down (au.le_refl _) c.glob r)⟩⟩
theorem dH.some {f:Nat}{args:List Value}{F:au}{L:Loc}{d:Option Nat}{K:au->Loc->Value->Prop}(h:dH P f args F L d K) (hr:Real F L):∃F' L' v,F.le F'/\Left d L L'/\Real F' L'/\K F' L' v:=by
 obtain⟨w,s⟩:=hr;have aa:St F (inp []) w:=⟨s.frz,fun k o e=>(by cases e),fun k o g e=>(by cases e),fun k k' o o' g e=>(by cases e),s.glob⟩;cases h with
 | frz R h1 u =>
  obtain⟨e,w',fr,⟨v,F',Lo,_,l,b,x⟩,_⟩:=h1.run w aa [];obtain⟨rfl,y⟩:=u v F' Lo b.le x;have a:Real F' L:=⟨w',(fS (ks:=[]) (ko:=[]) s rfl List.nodup_nil List.nodup_nil (fun _ h=>(by cases h)) l b rfl).1⟩;exact⟨F',L,v,b.le,.inl rfl,a,y a⟩
 | own R k h1 hd z u =>
  obtain⟨e,w',fr,⟨v,F',Lo,_,l,b,x⟩,_⟩:=h1.run w aa [];obtain⟨o,rfl,y⟩:=u v F' Lo b.le x;have a:Real F' (L.set k o):=⟨w',(fS (ks:=[]) (ko:=[k]) s rfl List.nodup_nil (by simp) (fun j r=>.inr (by simp at r;rw[r];exact z)) l b rfl).1⟩;exact⟨F',_,v,b.le,.inr (.inl ⟨k,o,hd,z,rfl⟩),a,y a⟩
 | row R q rv t sz n xs h1 m u =>
  have c:L.sub [q]=Option.some [.row rv t sz n xs]:=by simp only[Loc.sub,m]
  obtain⟨e,w',fr,⟨v,F',Lo,_,l,b,x⟩,_⟩:=h1.run w (s.handed c (by simp)) [];obtain⟨rfl,y⟩:=u v F' Lo b.le x;have hb:=(fS (ks:=[q]) (ko:=[]) s c (by simp) List.nodup_nil (fun _ h=>(by cases h)) l b rfl).1;have a:Real F' (L.set q (.row (.slice none 0 0) t sz 0 [])):=by
   have h5:((L.aae [q]).puts [] []).get q=none:=by simp only[Loc.aae,Loc.puts,Loc.aaf,fo]
   have h6:=hb.put h5 (o:=.row (.slice none 0 0) t sz 0 []) (World.ownsRow_nil w' 0 t sz) (fun g hg=>by cases hg);refine⟨w',h6.part fun j p e=>?_⟩;rw[Loc.aac] at e ⊢;split at e
   ·rename_i r;rw[fo r];exact e
   ·rename_i r;rw[fL r];simp only[Loc.aae,Loc.puts,Loc.aaf,fL r];exact e
  exact⟨F',_,v,b.le,.inr (.inr ⟨q,rv,t,sz,n,xs,m,rfl⟩),a,y a⟩
 | lent R q rv t sz n xs h1 m u =>
  have c:L.sub [q]=Option.some [.row rv t sz n xs]:=by simp only[Loc.sub,m]
  obtain⟨e,w',fr,⟨v,F',Lo,_,l,b,⟨rfl,x⟩⟩,_⟩:=h1.run w (s.handed c (by simp)) [];have hb:=(fS (ks:=[q]) (ko:=[q]) s c (by simp) (by simp) (fun _ h=>.inl h) l b rfl).1;have a:Real F' L:=by
   refine⟨w',hb.part fun j p e=>?_⟩;simp only[Loc.aae,Loc.puts,Loc.aac,Loc.aaf];split
   ·rename_i r;rw[r,m] at e;exact e
   ·exact e
  exact⟨F',L,v,b.le,.inl rfl,a,u v F' b.le x a⟩
theorem pA.imp {F F':au}{L:Loc}{d:Option Nat}{e sz b:Nat}{s x:Value}{K K':Loc->Value->Prop}(h:pA F L d e sz b s x K) (l:F.le F')
  (hk:∀f n xs p j v,(L.get f=some (.row s e sz n xs)\/(d=some f/\L.get f=none))->Real F' (L.set f (.row v e sz p j))->(Real F (L.set f (.row v e sz p j))->K (L.set f (.row v e sz p j)) v)->K' (L.set f (.row v e sz p j)) v):pA F' L d e sz b s x K':=by
 obtain⟨f,n,xs,m,k,h1,⟨q,c,w,h3,o⟩,y,h6,h7,t⟩:=h;refine⟨f,n,xs,m,k,?_,⟨q,c,w,h3,?_⟩,y,h6,h7,fun v u hr=>hk f n xs _ _ v ?_ hr (t v u)⟩
 ·rcases h1 with h1 | h1 | ⟨h1,a,q,q1,z,q3,r⟩
  ·exact .inl h1
  ·exact .inr (.inl h1)
  ·exact .inr (.inr ⟨h1,a,q,q1,z,q3,r.imp (·.mono l) id⟩)
 ·rcases o with o | o
  ·exact .inl (o.mono l)
  ·exact .inr o
 ·rcases h1 with h1 | ⟨h1,a,_⟩ | ⟨h1,a,_⟩
  ·exact .inl h1
  ·exact .inr ⟨h1,a⟩
  ·exact .inr ⟨h1,a⟩
theorem G9 {L L1:Loc}{k:Nat}{o:Own}(h:L1.part L):(L1.set k o).part (L.set k o):=fun j p e=>by
 rw[Loc.aac] at e ⊢;split
 ·rename_i a;rw[fo a] at e;exact e
 ·rename_i a;rw[fL a] at e;exact h j p e
theorem CR {e sz b:Nat}{zs:List Value}{s x:X}{d:Option Nat}:evalOp P (.appD e sz b zs s x) d F L ρ K=(match ev ρ s,ev ρ x with
  | .v sv,.v a=>pA F L d e sz b sv a fun L1 v=>K F L1 (put d (.v v) ρ)
  | _,_=>False):=rfl
theorem Real.store {F:au}{L:Loc}{k g:Nat}{t:TypeId}{cs cs':List Value}(c:t≠0) (m:Real F L) (l:L.get k=Option.some (.box g t cs)):Real F (L.set k (.box g t cs')):=by
 obtain⟨w,j⟩:=m;have a:=sO w g cs'.toArray;refine⟨w.setRow g cs'.toArray,j.turn l ?_ (fun b h f=>a.block b h (fun e=>f (by rw[e];rfl))) (fun n d=>.inl d)⟩;show _=_;have h0:w.heap[g]?=Option.some (.cells cs.toArray t (0,0)):=by rw[<-jg c];exact j.own k _ l
 rw[jg c];exact setRow_heap w g cs.toArray _ t _ h0
theorem pA.some {F:au}{L:Loc}{d:Option Nat}{e sz b:Nat}{s x:Value}{K:Loc->Value->Prop}(h:pA F L d e sz b s x K) (hr:Real F L) :
  ∃f v n' r,((∃n xs,L.get f=some (.row s e sz n xs))\/(d=some f/\L.get f=none))/\Real F (L.set f (.row v e sz n' r))/\K (L.set f (.row v e sz n' r)) v:=by
 obtain⟨f,n,xs,m,a,h1,⟨ad,c,h2,h3,h4⟩,h5,h6,h7,h8⟩:=h;obtain⟨w,hs⟩:=hr;have u:xs.length=n*sz:=by
  rcases h1 with h1 | ⟨_,_,rfl,rfl,_⟩ | ⟨_,_,_,_,_,q,_⟩
  ·exact(hs.own f _ h1).1
  ·simp
  ·exact q
 have o:=lf w (xs++a) e (n+m) sz h6 (by rw[abG,u,h3,Nat.add_mul]);have aa:St F (L.del f) w:=hs.part (fun j p e=>by rw[Loc.aaf] at e;split at e;cases e;exact e);have z:(L.del f).get f=none:=by rw[Loc.aaf,fo rfl]
 have ab:=(jW aa z (cs:=(xs++a).toArray) (t:=e) (e:=.row (.slice (Option.some ⟨w.heap.size,0,none⟩) (n+m) (n+m)) e sz (n+m) (xs++a)) rfl o).1;have k:Real F (L.set f (.row (.slice (Option.some ⟨w.heap.size,0,none⟩) (n+m) (n+m)) e sz (n+m) (xs++a))) :=
  ⟨_,ab.part (fun j p e=>by
   rw[Loc.aac] at e ⊢;split
   ·rename_i y;rw[fo y] at e;exact e
   ·rename_i y;rw[fL y] at e;rw[Loc.aaf,fL y];exact e)⟩
 refine⟨f,_,n+m,xs++a,?_,k,h8 _ ⟨_,_,rfl,fun e=>(by cases e)⟩ k⟩;rcases h1 with h1 | ⟨h1,l,_⟩ | ⟨h1,l,_⟩
 ·exact .inl ⟨n,xs,h1⟩
 ·exact .inr ⟨h1,l⟩
 ·exact .inr ⟨h1,l⟩
def He (o:dO):Bool:=cO o||gM o||dV o||oZ o
def okD (o:dO):Bool:=He o||iz o
theorem ur {o:dO}{d:Option Nat}{v:SV}(h:∀k,d=some k->k∉cj (bn o)):Alike o L L ρ (put d v ρ) :=
 fun x a=>⟨fA h x a,fun _ _ _=>rfl⟩
theorem wR {o:dO}(ho:okD o=true) {d y:Option Nat}{u:SV}(h:∀k,y=some k->k∉cj (bn o)) (p:∀k,d=some k->y≠some k)
  (c:evalOp P o d F L ρ (fun F1 L1 ab=>K F1 L1 (put y u ab))):evalOp P o d F L (put y u ρ) K:=by
 by_cases hs:cO o=true
 ·rw[bZ hs] at c ⊢;have:=qA hs (au.le_refl F) (ur (L:=L) (ρ:=ρ) (v:=u) h) c;refine(eM hs).mono _ _ (fun v r=>?_) this;rw[put_comm p];exact r
 ·have r:∀x∈bn o,val L (put y u ρ) x=val L ρ x:=fun x hx=>by simp only[val,fA h x hx]
  cases o<;>first | (exfalso;revert hs ho;simp[okD,He,cO,gM,dV,oZ,iz];done) | skip
  case boxD t x =>
   have e:=r x (by simp[bn]);simp only[evalOp,e] at c ⊢;split at c
   ·rename_i k;split at c
    ·intro g q;have:=c g q;rw[put_comm p];exact this
    ·exact c
   ·exact c
  case allocD t zs =>
   simp only[evalOp] at c ⊢;split at c
   ·rename_i k;split at c
    ·intro g q;have:=c g q;rw[put_comm p];exact this
    ·exact c
   ·exact c
  case mkFD e n sz xs =>
   have m:=mE (sz:=sz) (xs:=xs) r;have z:=cg (xs:=xs) r;simp only[evalOp,m,z] at c ⊢;split at c
   ·intro g F' ad hg q;rw[put_comm p];exact c g F' ad hg q
   ·exact c
  case callD f args =>
   have m:=cV (xs:=args) r;simp only[evalOp,m] at c ⊢;refine c.imp fun F' L' v _ _ _ h=>?_;rw[put_comm p];exact h
  case callVD f args =>
   have w:=fA (v:=u) (ρ:=ρ) h f (by simp[bn]);have m:=cV (xs:=args) (L:=L) (L':=L) (ρ:=ρ) (ρ':=put y u ρ) (fun x hx=>r x (by simp[bn,hx]));simp only[evalOp,w,m] at c ⊢;split at c
   ·refine c.imp fun F' L' v _ _ _ h=>?_;rw[put_comm p];exact h
   ·exact c
  case appD e sz b zs s x =>
   have w:=fA (v:=u) (ρ:=ρ) h s (by simp[bn]);have m:=fA (v:=u) (ρ:=ρ) h x (by simp[bn]);simp only[evalOp,w,m] at c ⊢;split at c
   ·refine c.imp (au.le_refl F) fun kd n xs n' ao v _ q h=>?_;rw[put_comm p];exact h q
   ·exact c
  case makeSD e sz n zs =>
   simp only[evalOp] at c ⊢;split at c
   ·rename_i k;split at c
    ·intro g q;have:=c g q;rw[put_comm p];exact this
    ·exact c
   ·exact c
  case makeSV e sz b zs x =>
   have m:=r x (by simp[bn]);simp only[evalOp,m] at c ⊢;split at c
   ·rename_i k;split at c
    ·intro g q;have:=c g q;rw[put_comm p];exact this
    ·exact c
   ·exact c
  case storeD n a x =>
   obtain⟨n',a',x',k,off,g,t,cs,j,m,z,e3,e4,e5,c⟩:=iA rfl c;have w:=fA (v:=u) (ρ:=ρ) h a (by simp[bn]);have l:=r x (by simp[bn]);rcases j with j | j
   ·injection j with q1 q2 q3
    subst q1 q2 q3;exact gX (.inl rfl) (by rw[l];exact m) (by rw[l];exact z) (by rw[w];exact e3) e4 e5 (by rw[l,put_comm p];exact c)
   ·cases j
  case storeK key n a x =>
   obtain⟨n',a',x',k,off,g,t,cs,j,m,z,e3,e4,e5,c⟩:=iA rfl c;have w:=fA (v:=u) (ρ:=ρ) h a (by simp[bn]);have l:=r x (by simp[bn]);rcases j with j | j
   ·cases j
   ·injection j with q0 q1 q2 q3
    subst q0 q1 q2 q3;exact gX (.inr rfl) (by rw[l];exact m) (by rw[l];exact z) (by rw[w];exact e3) e4 e5 (by rw[l,put_comm p];exact c)
def uw:dO->dO->Bool
 | .build _ _,_=>true
 | .mkfn _ _ _,_=>true
 | .loadK k _ _ _,.storeK a _ _ _=>match Nat.beq k a with | true=>false | false=>true
 | x,_=>CP x
theorem rp {x y:dO}(h:uw x y=true):cO x=true:=by
 unfold uw at h;split at h
 ·rfl
 ·rfl
 ·rfl
 ·exact CQ h
theorem zP {x y:dO}{k n:Nat}{a z:X}{L L':Loc}{V:SV->Prop}(h:uw x y=true) (d:y=.storeD n a z\/y=.storeK k n a z) (l:∀sv,conc L' sv=conc L sv) (r:∀j,j≠k->L'.get j=L.get j) (c:aJ x F L ρ V):aJ x F L' ρ V:=by
 unfold uw at h;split at h
 ·rename_i zs ps;have e:=pL (ps:=ps) (zs:=zs) (L:=L) (L':=L') (ρ:=ρ) (ρ':=ρ) (fun p _=>l _);simp only[aJ,e] at c ⊢;exact c
 ·rename_i f a b;have q:=cV (xs:=a) (L:=L) (L':=L') (ρ:=ρ) (ρ':=ρ) (fun _ _=>l _);have s:=cV (xs:=b) (L:=L) (L':=L') (ρ:=ρ) (ρ':=ρ) (fun _ _=>l _);simp only[aJ,q,s] at c ⊢;exact c
 ·rename_i k1 w m x u m2 v x2;rcases d with d | d
  ·cases d
  ·injection d with q0 q1 q2 q3
   subst q0;split at h
   ·cases h
   ·rename_i hb;have hb:=gb hb;simp only[aJ] at c ⊢;split at c
    ·rename_i t off e;split at c
     ·rename_i o;have o:=aaO o;subst o;simp only[r _ hb];exact c
     ·exact c.elim
    ·exact c.elim
 ·exact zN h c
theorem CS {L:Loc}{k g:Nat}{t:TypeId}{cs cs':List Value}(b:L.get k=some (.box g t cs)) (sv:SV):conc (L.set k (.box g t cs')) sv=conc L sv:=by
 cases sv with
 | v u=>rfl
 | el a j=>rfl
 | own j off =>
  simp only[conc,Loc.aac]
  by_cases e:j=k
  ·subst e;rw[fo rfl,b]
  ·rw[fL e]
def wS (x y:dO):Bool:=(cO x&&He y&&(!Jh x||cO y))||(gM x&&dV y)||(oZ x&&dV y)||(dV x&&dV y)||(uw x y&&iz y)||(iz x&&uw y x)
inductive Made:dO->Option Nat->au->Loc->Env->au->Loc->SV->Prop
 | box {t:TypeId}{x:X}{k:Nat}{F:au}{L:Loc}{ρ:Env}(g:Nat):Made (.boxD t x) (some k) F L ρ F (L.set k (.box g t (aM (val L ρ x)))) (.own k 0)
 | alloc {t:TypeId}{zs:List Value}{k:Nat}{F:au}{L:Loc}{ρ:Env}(g:Nat):Made (.allocD t zs) (some k) F L ρ F (L.set k (.box g t zs)) (.own k 0)
 | mkS {e:TypeId}{sz n:Nat}{zs:List Value}{k:Nat}{F:au}{L:Loc}{ρ:Env}(g:Nat):Made (.makeSD e sz n zs) (some k) F L ρ F (L.set k (.row (.slice (some ⟨g,0,none⟩) n n) e sz n (List.replicate n zs).flatten)) (.v (.slice (some ⟨g,0,none⟩) n n))
 | mkV {e:TypeId}{sz b:Nat}{zs:List Value}{x:X}{k:Nat}{F:au}{L:Loc}{ρ:Env}(g n:Nat) (hn:n=lJ (val L ρ x)):Made (.makeSV e sz b zs x) (some k) F L ρ F (L.set k (.row (.slice (some ⟨g,0,none⟩) n n) e sz n (List.replicate n zs).flatten)) (.v (.slice (some ⟨g,0,none⟩) n n))
 | mkF {e:TypeId}{n sz:Nat}{xs:List X}{d:Option Nat}{F:au}{L:Loc}{ρ:Env}(g:Nat) (F':au) (hle:F.le F') (hg:F' g=some (.cells (cellsOf L ρ xs).toArray e (0,0))) :
   Made (.mkFD e n sz xs) d F L ρ F' L (.v (.slice (some ⟨g,0,none⟩) n n))
def bB:dO->Option Nat->Loc->Env->Bool
 | .boxD _ _,some k,L,_=>(L.get k).isNone
 | .allocD _ _,some k,L,_=>(L.get k).isNone
 | .makeSD _ sz n zs,some k,L,_=>match L.get k,gQ zs sz,Nat.ble n 9223372036854775807 with | none,true,true=>true | _,_,_=>false
 | .makeSV _ sz b zs x,some k,L,ρ=>match L.get k,gQ zs sz,sJ b (val L ρ x) with | none,true,true=>true | _,_,_=>false
 | .mkFD _ _ sz xs,_,L,ρ=>fQ L ρ sz xs
 | _,_,_,_=>false
theorem bI {o:dO}(h:dV o=true) {d:Option Nat}:evalOp P o d F L ρ K↔bB o d L ρ=true/\∀F' L' v,Made o d F L ρ F' L' v->Real F' L'->K F' L' (put d v ρ):=by
 cases o<;>first | (exfalso;revert h;simp[dV];done) | skip
 case boxD t x =>
  simp only[evalOp];cases d with
  | none=>simp[bB]
  | some k =>
   simp only[bB];cases l:L.get k with
   | none =>
    simp only[Option.isNone_none,true_and];constructor
    ·rintro h F' L' v c a;cases c with
     | box g=>exact h g a
    ·intro h g a;exact h _ _ _ (.box g) a
   | some p=>simp
 case allocD t zs =>
  simp only[evalOp];cases d with
  | none=>simp[bB]
  | some k =>
   simp only[bB];cases l:L.get k with
   | none =>
    simp only[Option.isNone_none,true_and];constructor
    ·rintro h F' L' v c a;cases c with
     | alloc g=>exact h g a
    ·intro h g a;exact h _ _ _ (.alloc g) a
   | some p=>simp
 case makeSD e sz n zs =>
  simp only[evalOp];cases d with
  | none=>simp[bB]
  | some k =>
   simp only[bB];cases l:L.get k with
   | some p=>simp
   | none =>
    cases h1:gQ zs sz with
    | false=>simp
    | true =>
     cases q:Nat.ble n 9223372036854775807 with
     | false=>simp
     | true =>
      simp only[true_and];constructor
      ·rintro h F' L' v c a;cases c with
       | mkS g=>exact h g a
      ·intro h g a;exact h _ _ _ (.mkS g) a
 case makeSV e sz b zs x =>
  simp only[evalOp];cases d with
  | none=>simp[bB]
  | some k =>
   simp only[bB];cases l:L.get k with
   | some p=>simp
   | none =>
    cases h1:gQ zs sz with
    | false=>simp
    | true =>
     cases q:sJ b (val L ρ x) with
     | false=>simp
     | true =>
      simp only[true_and];constructor
      ·rintro h F' L' v c a;cases c with
       | mkV g n m=>subst m;exact h g a
      ·intro h g a;exact h _ _ _ (.mkV g _ rfl) a
 case mkFD e n sz xs =>
  simp only[evalOp,bB];cases r:fQ L ρ sz xs with
  | false=>simp
  | true =>
   simp only[true_and];constructor
   ·rintro h F' L' v c a;cases c with
    | mkF g F' f j=>exact h g _ f j a
   ·intro h g F' f j a;exact h _ _ _ (.mkF g F' f j) a
theorem Bg:∀{l:List Value}{n:Nat},l.length=n->gQ l n=true
 | [],0,_=>rfl
 | _::l,n+1,h=>Bg (l:=l) (by simpa using h)
theorem ni {e:TypeId}{sz n k:Nat}{zs:List Value}(h:bB (.makeSD e sz n zs) (some k) L ρ=true):L.get k=none/\zs.length=sz/\n<=maxLen:=by
 simp only[bB] at h;split at h
 ·rename_i h1 a b;exact⟨h1,jx a,aa6 b⟩
 ·cases h
theorem nj {e:TypeId}{sz b k:Nat}{zs:List Value}{x:X}(h:bB (.makeSV e sz b zs x) (some k) L ρ=true):L.get k=none/\zs.length=sz/\lJ (val L ρ x)<=maxLen/\sJ b (val L ρ x)=true:=by
 simp only[bB] at h;split at h
 ·rename_i h1 c a;exact⟨h1,jx c,GX a,a⟩
 ·cases h
theorem zQ {o:dO}{d:Option Nat}(u:Real F L) (f:bB o d L ρ=true):∃F' L' v,Made o d F L ρ F' L' v/\F.le F'/\Real F' L':=by
 obtain⟨w,j⟩:=u;have c:∀(e:TypeId) (cs:List Value),∃F',F.le F'/\F' w.heap.size=some (.cells cs.toArray e (0,0))/\Real F' L:=by
  intro e cs;have h:=gV w (.cells cs.toArray e);obtain⟨y,r⟩:=sM j;exact⟨_,au.aav (j.alloc (.cells cs.toArray e)) h,fo rfl,⟨_,(j.alloc (.cells cs.toArray e)).freeze h r⟩⟩
 cases o<;>cases d<;>simp only[bB] at f<;>try (cases f;done)
 ·rename_i t x k;rw[Option.isNone_iff_eq_none] at f;refine⟨_,_,_,.box w.heap.size,au.le_refl F,⟨_,(lK j f (ob:=mO t (aM (val L ρ x))) (e:=.box w.heap.size t (aM (val L ρ x))) rfl ?_).1⟩⟩;show _=_;rw[gV]
 ·rename_i t zs k;rw[Option.isNone_iff_eq_none] at f;refine⟨_,_,_,.alloc w.heap.size,au.le_refl F,⟨_,(lK j f (ob:=mO t zs) (e:=.box w.heap.size t zs) rfl ?_).1⟩⟩;show _=_;rw[gV]
 ·rename_i e n sz xs;obtain⟨F',h1,l,p⟩:=c e (cellsOf L ρ xs);exact⟨F',L,_,.mkF w.heap.size F' h1 l,h1,p⟩
 ·rename_i e n sz xs k;obtain⟨F',h1,l,p⟩:=c e (cellsOf L ρ xs);exact⟨F',L,_,.mkF w.heap.size F' h1 l,h1,p⟩
 ·rename_i e sz n zs k;obtain⟨s,q,m⟩:=ni (ρ:=ρ) (e:=e) f;have a:=lf w (List.replicate n zs).flatten e n sz m (by rw[List.length_flatten];simp[q]);refine⟨_,_,_,.mkS w.heap.size,au.le_refl F,⟨_,(jW j s (cs:=((List.replicate n zs).flatten).toArray) (t:=e) (e:=.row (.slice (some ⟨w.heap.size,0,none⟩) n n) e sz n (List.replicate n zs).flatten) rfl a).1⟩⟩
 ·rename_i e sz b zs x k;obtain⟨s,q,m,_⟩:=nj (e:=e) f;have a:=lf w (List.replicate (lJ (val L ρ x)) zs).flatten e (lJ (val L ρ x)) sz m (by rw[List.length_flatten];simp[q]);refine⟨_,_,_,.mkV w.heap.size _ rfl,au.le_refl F,⟨_,(jW j s (cs:=((List.replicate (lJ (val L ρ x)) zs).flatten).toArray) (t:=e) (e:=.row (.slice (some ⟨w.heap.size,0,none⟩) (lJ (val L ρ x)) (lJ (val L ρ x))) e sz (lJ (val L ρ x)) (List.replicate (lJ (val L ρ x)) zs).flatten) rfl a).1⟩⟩
theorem Made.le {o:dO}{d:Option Nat}{F':au}{L':Loc}{v:SV}(h:Made o d F L ρ F' L' v):F.le F':=by
 cases h with
 | box g=>exact au.le_refl _
 | alloc g=>exact au.le_refl _
 | mkS g=>exact au.le_refl _
 | mkV g n c=>exact au.le_refl _
 | mkF g F' a b=>exact a
theorem Made.part {o:dO}{d:Option Nat}{F':au}{L':Loc}{v:SV}(a:bB o d L ρ=true) (h:Made o d F L ρ F' L' v):L'.part L:=by
 intro j p e;cases h with
 | box g =>
  simp only[bB,Option.isNone_iff_eq_none] at a;rw[bV (fun h=>by rw[h] at e;rw[a] at e;cases e)];exact e
 | alloc g =>
  simp only[bB,Option.isNone_iff_eq_none] at a;rw[bV (fun h=>by rw[h] at e;rw[a] at e;cases e)];exact e
 | mkS g =>
  have a:=(ni a).1;rw[bV (fun h=>by rw[h] at e;rw[a] at e;cases e)];exact e
 | mkV g n c =>
  have a:=(nj a).1;rw[bV (fun h=>by rw[h] at e;rw[a] at e;cases e)];exact e
 | mkF g F' b f=>exact e
theorem Made.get {o:dO}{d:Option Nat}{F':au}{L':Loc}{v:SV}(a:bB o d L ρ=true) (h:Made o d F L ρ F' L' v):Keeps L L':=by
 cases h with
 | box g =>
  simp only[bB,Option.isNone_iff_eq_none] at a;exact Keeps.new a
 | alloc g =>
  simp only[bB,Option.isNone_iff_eq_none] at a;exact Keeps.new a
 | mkS g=>exact Keeps.new (ni a).1
 | mkV g n e=>exact Keeps.new (nj a).1
 | mkF g F' b c=>exact Keeps.refl _
theorem Made.frame {o:dO}{d:Option Nat}{F':au}{L':Loc}{v:SV}(h:Made o d F L ρ F' L' v):∀j,d≠some j->L'.get j=L.get j:=by
 intro j a;cases h with
 | box g=>exact bV (fun e=>a (by rw[e]))
 | alloc g=>exact bV (fun e=>a (by rw[e]))
 | mkS g=>exact bV (fun e=>a (by rw[e]))
 | mkV g n c=>exact bV (fun e=>a (by rw[e]))
 | mkF g F' b f=>rfl
theorem iB {o:dO}{d:Option Nat}{L L':Loc}{ρ ρ':Env}(f:∀x∈bn o,val L' ρ' x=val L ρ x) (c:∀k,d=some k->(L'.get k=none->L.get k=none)) (h:bB o d L' ρ'=true):bB o d L ρ=true:=by
 cases o<;>cases d<;>simp only[bB] at h ⊢<;>try (cases h;done)
 ·rename_i t x k;rw[Option.isNone_iff_eq_none] at h ⊢;exact c k rfl h
 ·rename_i t zs k;rw[Option.isNone_iff_eq_none] at h ⊢;exact c k rfl h
 ·rename_i e n sz xs;rw[<-mE (xs:=xs) f];exact h
 ·rename_i e n sz xs k;rw[<-mE (xs:=xs) f];exact h
 ·rename_i e sz n zs k;obtain⟨h1,j,a⟩:=ni (L:=L') (ρ:=ρ') (e:=e) h;have a:Nat.ble n 9223372036854775807=true:=Nat.ble_eq_true_of_le a;rw[c k rfl h1,Bg j,a]
 ·rename_i e sz b zs x k;obtain⟨h1,j,_,a⟩:=nj (L:=L') (ρ:=ρ') (e:=e) h;rw[f x (by simp[bn])] at a;rw[c k rfl h1,Bg j,a]
theorem Made.like {o:dO}{d:Option Nat}{ρ ρ':Env}{F':au}{L':Loc}{v:SV}(a:∀x∈bn o,val L ρ' x=val L ρ x) (h:Made o d F L ρ' F' L' v):Made o d F L ρ F' L' v:=by
 cases h with
 | box g=>rw[a _ (by simp[bn])];exact .box g
 | alloc g=>exact .alloc g
 | mkS g=>exact .mkS g
 | mkV g n e=>exact .mkV g n (by rw[e,a _ (by simp[bn])])
 | mkF g F' b c =>
  rename_i xs;rw[cg (xs:=xs) a] at c;exact .mkF g F' b c
theorem fB {L L':Loc}{ρ:Env}(b:Vd L ρ) (c:Keeps L L') (x:X):val L' ρ x=val L ρ x:=by
 simp only[val];cases e:ev ρ x with
 | v u=>rfl
 | el a j=>rfl
 | own k off =>
  obtain⟨g,ty,cs,h⟩:=b.ev e;simp only[conc,c k g ty cs h,h]
theorem cC {l:List X}{d:Option Nat}{v:SV}(h:∀k,d=some k->k∉cj l):∀x∈l,val L (put d v ρ) x=val L ρ x:=fun x a=>by simp only[val,fA h x a]
theorem Hf {x y:dO}{dx dy:Option Nat}{F1 F2:au}{L1 L2:Loc}{v1 v2:SV}(r:bB x dx L ρ=true) (aw:bB y dy L ρ=true) (d:∀k,dx=some k->k∉cj (bn y)) (ba:∀k,dy=some k->k∉cj (bn x))
  (c:∀k,dx=some k->dy≠some k) (h:Vd L ρ) (h1:Made y dy F L ρ F1 L1 v1) (h2:Made x dx F1 L1 (put dy v1 ρ) F2 L2 v2) :
  ∃Fa La,Made x dx F L ρ Fa La v2/\Made y dy Fa La (put dx v2 ρ) F2 L2 v1:=by
 have ux:∀z∈bn x,val L1 (put dy v1 ρ) z=val L ρ z:=fun z hz=>by
  rw[cC ba z hz,fB h (h1.get aw)]
 cases h2 with
 | box b =>
  rw[ux _ (by simp[bn])];rename_i t z k;have fresh:∀{o:Own},Keeps L (L.set k o):=by
   simp only[bB,Option.isNone_iff_eq_none] at r;exact Keeps.new r
  cases h1 with
  | box a =>
   rename_i t' p k';refine⟨F,_,.box b,?_⟩;rw[set_comm L _ _ (fun e=>c k rfl (by rw[e]))];have e:val (L.set k (.box b t (aM (val L ρ z)))) (put (some k) (.own k 0) ρ) p=val L ρ p:=by
    rw[cC d p (by simp[bn]),fB h (fresh)]
   rw[<-e];exact .box a
  | alloc a =>
   rename_i t' ag k';refine⟨F,_,.box b,?_⟩;rw[set_comm L _ _ (fun e=>c k rfl (by rw[e]))];exact .alloc a
  | mkS a =>
   refine⟨F,_,.box b,?_⟩;rw[set_comm L _ _ (fun e=>c k rfl (by rw[e]))];exact .mkS a
  | mkV a w l =>
   refine⟨F,_,.box b,?_⟩;rw[set_comm L _ _ (fun e=>c k rfl (by rw[e]))];refine .mkV a w ?_;rw[l,cC d _ (by simp[bn]),fB h fresh]
  | mkF a F' f q =>
   rename_i e' n' ab m;refine⟨F,_,.box b,.mkF a _ f ?_⟩;rw[cg (L:=L) (ρ:=ρ) (xs:=m) (fun u hu=>by rw[cC d u (by simpa[bn] using hu),fB h fresh])];exact q
 | alloc b =>
  rename_i t zs k;have fresh:∀{o:Own},Keeps L (L.set k o):=by
   simp only[bB,Option.isNone_iff_eq_none] at r;exact Keeps.new r
  cases h1 with
  | box a =>
   rename_i t' p k';refine⟨F,_,.alloc b,?_⟩;rw[set_comm L _ _ (fun e=>c k rfl (by rw[e]))];have e:val (L.set k (.box b t zs)) (put (some k) (.own k 0) ρ) p=val L ρ p:=by
    rw[cC d p (by simp[bn]),fB h (fresh)]
   rw[<-e];exact .box a
  | alloc a =>
   rename_i t' ag k';refine⟨F,_,.alloc b,?_⟩;rw[set_comm L _ _ (fun e=>c k rfl (by rw[e]))];exact .alloc a
  | mkS a =>
   refine⟨F,_,.alloc b,?_⟩;rw[set_comm L _ _ (fun e=>c k rfl (by rw[e]))];exact .mkS a
  | mkV a w l =>
   refine⟨F,_,.alloc b,?_⟩;rw[set_comm L _ _ (fun e=>c k rfl (by rw[e]))];refine .mkV a w ?_;rw[l,cC d _ (by simp[bn]),fB h fresh]
  | mkF a F' f q =>
   rename_i e' n' ab m;refine⟨F,_,.alloc b,.mkF a _ f ?_⟩;rw[cg (L:=L) (ρ:=ρ) (xs:=m) (fun u hu=>by rw[cC d u (by simpa[bn] using hu),fB h fresh])];exact q
 | mkS b =>
  rename_i t ae j zs k;have fresh:∀{o:Own},Keeps L (L.set k o):=by
   exact Keeps.new (ni r).1
  cases h1 with
  | box a =>
   rename_i t' p k';refine⟨F,_,.mkS b,?_⟩;rw[set_comm L _ _ (fun e=>c k rfl (by rw[e]))];have e:val (L.set k (.row (.slice (some ⟨b,0,none⟩) j j) t ae j (List.replicate j zs).flatten)) (put (some k) (.v (.slice (some ⟨b,0,none⟩) j j)) ρ) p=val L ρ p:=by
    rw[cC d p (by simp[bn]),fB h (fresh)]
   rw[<-e];exact .box a
  | alloc a =>
   rename_i t' ag k';refine⟨F,_,.mkS b,?_⟩;rw[set_comm L _ _ (fun e=>c k rfl (by rw[e]))];exact .alloc a
  | mkS a =>
   refine⟨F,_,.mkS b,?_⟩;rw[set_comm L _ _ (fun e=>c k rfl (by rw[e]))];exact .mkS a
  | mkV a w l =>
   refine⟨F,_,.mkS b,?_⟩;rw[set_comm L _ _ (fun e=>c k rfl (by rw[e]))];refine .mkV a w ?_;rw[l,cC d _ (by simp[bn]),fB h fresh]
  | mkF a F' f q =>
   rename_i e' n' ab m;refine⟨F,_,.mkS b,.mkF a _ f ?_⟩;rw[cg (L:=L) (ρ:=ρ) (xs:=m) (fun u hu=>by rw[cC d u (by simpa[bn] using hu),fB h fresh])];exact q
 | mkV b j ao =>
  rename_i t ae b0 zs x0 k;have s:j=lJ (val L ρ x0):=by rw[ao,ux _ (by simp[bn])]
  clear ao
  have fresh:∀{o:Own},Keeps L (L.set k o):=by
   exact Keeps.new (nj r).1
  cases h1 with
  | box a =>
   rename_i t' p k';refine⟨F,_,.mkV b j s,?_⟩;rw[set_comm L _ _ (fun e=>c k rfl (by rw[e]))];have e:val (L.set k (.row (.slice (some ⟨b,0,none⟩) j j) t ae j (List.replicate j zs).flatten)) (put (some k) (.v (.slice (some ⟨b,0,none⟩) j j)) ρ) p=val L ρ p:=by
    rw[cC d p (by simp[bn]),fB h (fresh)]
   rw[<-e];exact .box a
  | alloc a =>
   rename_i t' ag k';refine⟨F,_,.mkV b j s,?_⟩;rw[set_comm L _ _ (fun e=>c k rfl (by rw[e]))];exact .alloc a
  | mkS a =>
   refine⟨F,_,.mkV b j s,?_⟩;rw[set_comm L _ _ (fun e=>c k rfl (by rw[e]))];exact .mkS a
  | mkV a w l =>
   refine⟨F,_,.mkV b j s,?_⟩;rw[set_comm L _ _ (fun e=>c k rfl (by rw[e]))];refine .mkV a w ?_;rw[l,cC d _ (by simp[bn]),fB h fresh]
  | mkF a F' f q =>
   rename_i e' n' ab m;refine⟨F,_,.mkV b j s,.mkF a _ f ?_⟩;rw[cg (L:=L) (ρ:=ρ) (xs:=m) (fun u hu=>by rw[cC d u (by simpa[bn] using hu),fB h fresh])];exact q
 | mkF b F' f q =>
  rename_i e n sz xs;have az:=cg (xs:=xs) ux;rw[az] at q;cases h1 with
  | box a =>
   rename_i t' p k';refine⟨F2,L,.mkF b _ f q,?_⟩;have e:=cC (L:=L) (ρ:=ρ) (v:=.v (.slice (some ⟨b,0,none⟩) n n)) d p (by simp[bn]);rw[<-e];exact .box a
  | alloc a=>exact⟨F2,L,.mkF b _ f q,.alloc a⟩
  | mkS a=>exact⟨F2,L,.mkF b _ f q,.mkS a⟩
  | mkV a w l=>exact⟨F2,L,.mkF b _ f q,.mkV a w (by rw[l,cC d _ (by simp[bn])])⟩
  | mkF a F1' an aE =>
   rename_i e' n' ab m;refine⟨F2,L,.mkF b _ (au.le_trans an f) q,.mkF a _ (au.le_refl _) ?_⟩;rw[cg (L:=L) (ρ:=ρ) (xs:=m) (fun u hu=>by rw[cC d u (by simpa[bn] using hu)])];exact f _ _ aE
theorem Jl {x y:dO}{dx dy:Option Nat}(hr:Real F L) (hc:wS x y=true) (ab:∀k,dx=some k->k∉cj (bn y)) (ag:∀k,dy=some k->k∉cj (bn x)) (d:∀k,dx=some k->dy≠some k)
  (ar:Vd L ρ) (r:evalOp P x dx F L ρ (fun F1 L1 ci=>evalOp P y dy F1 L1 ci K)):evalOp P y dy F L ρ (fun F1 L1 ci=>evalOp P x dx F1 L1 ci K):=by
 have ei:∀k,dy=some k->dx≠some k:=fun k e e'=>d k e' e;simp only[wS,abn,xo] at hc;rcases hc with((((⟨⟨hx,hy⟩,dn⟩ | ⟨hx,hy⟩) | ⟨hx,hy⟩) | ⟨hx,hy⟩) | ⟨hx,hy⟩) | ⟨hx,hy⟩
 ·rw[bZ hx] at r;obtain⟨v,hT,q⟩:=(eM hx).ex _ r
  clear r
  have ae:∀{F':au}{L':Loc}{u:SV},F.le F'->Keeps L L'->K F' L' (put dy u (put dx v ρ))->(Jh x=false\/L'=L)->evalOp P x dx F' L' (put dy u ρ) K:=by
   intro F' L' u hF hL hk hR;rw[bZ hx];have bi:Alike x L L' ρ (put dy u ρ):=fun z p=>⟨fA ag z p,fun k off e=>by
    obtain⟨g,ty,cs,h⟩:=ar.ev e;rw[hL k g ty cs h,h]⟩
   refine(eM hx).mono _ _ (fun v' dg=>?_) (qA hx hF bi hT hR);subst dg;rw[put_comm d];exact hk
  have hv:=cC (L:=L) (ρ:=ρ) (v:=v) ab
  by_cases bl:cO y=true
  ·rw[bZ bl] at q ⊢;have bi:Alike y L L (put dx v ρ) ρ:=fun z p=>⟨(fA ab z p).symm,fun _ _ _=>rfl⟩;exact(eM bl).mono _ _ (fun u hu=>ae (au.le_refl F) (Keeps.refl _) hu (.inr rfl)) (qA bl (au.le_refl F) bi q)
  ·have bu:Jh x=false:=by
    rcases dn with h | h
    ·cases e:Jh x with
     | false=>rfl
     | true=>rw[e] at h;cases h
    ·exact o5 h bl
   by_cases cz:dV y=true
   ·rw[bI cz] at q ⊢;obtain⟨h1,h2⟩:=q;have l:bB y dy L ρ=true:=iB (L':=L) (ρ':=put dx v ρ) hv (fun k _ e=>e) h1;refine⟨l,fun F' L' u hm bo=>ae hm.le (hm.get l) (h2 F' L' u ?_ bo) (.inl bu)⟩;exact hm.like fun z p=>(hv z p).symm
   ·cases y<;>first | (exfalso;revert bl cz hy;simp[He,cO,gM,dV,oZ];done) | skip
    case callD f args =>
     have e1:=cV (xs:=args) hv;simp only[evalOp,e1] at q ⊢;exact q.imp fun F' L' u be hl _ h=>ae be hl.keeps h (.inl bu)
    case callVD f args =>
     have e0:=fA (v:=v) (ρ:=ρ) ab f (by simp[bn]);have e1:=cV (xs:=args) (L:=L) (L':=L) (ρ:=ρ) (ρ':=put dx v ρ) (fun z p=>hv z (by simp[bn,p]));simp only[evalOp,e0,e1] at q ⊢;split at q
     ·exact q.imp fun F' L' u be hl _ h=>ae be hl.keeps h (.inl bu)
     ·exact q.elim
    case appD e sz b zs s z =>
     have e0:=fA (v:=v) (ρ:=ρ) ab s (by simp[bn]);have e1:=fA (v:=v) (ρ:=ρ) ab z (by simp[bn]);simp only[evalOp,e0,e1] at q ⊢;split at q
     ·refine q.imp (au.le_refl F) fun kd n xs n' bz u dk bo h=>ae (au.le_refl F) ?_ (h bo) (.inl bu);rcases dk with h | ⟨_,h⟩
      ·exact Keeps.row h
      ·exact Keeps.new h
     ·exact q.elim
 ·have am:∀{f:Nat}{args:List Value},dH P f args F L dx (fun F' L' v=>evalOp P y dy F' L' (put dx (.v v) ρ) K) ->
    bB y dy L ρ=true/\∀F' L' u,Made y dy F L ρ F' L' u->dH P f args F' L' dx (fun F2 L2 v=>K F2 L2 (put dx (.v v) (put dy u ρ))):=by
   intro f args hC;have up:∀{L1:Loc},Left dx L L1->∀{u:SV},∀z∈bn y,val L1 (put dx u ρ) z=val L ρ z:=by
    intro L1 hl u z p;rw[cC ab z p,fB ar hl.keeps]
   have l:bB y dy L ρ=true:=by
    obtain⟨F',L',v,be,hl,_,h⟩:=hC.some hr;rw[bI hy] at h;refine iB (L':=L') (ρ':=put dx (.v v) ρ) (up hl) (fun k hk e=>?_) h.1;rcases hl with rfl | ⟨j,o,hj,hn,rfl⟩ | ⟨j,rv,t,sz,n,xs,hj,rfl⟩
    ·exact e
    ·rw[bV (fun ej=>d j hj (by rw[<-ej];exact hk))] at e;exact e
    ·rw[Loc.aac] at e;split at e
     ·cases e
     ·exact e
   refine⟨l,fun F' L' u hm=>(hC.up hm.le hr.glob (hm.part l) (fun k hk hn=>by rw[hm.frame k (d k hk)];exact hn)).imp fun F2 L2 v be dv az h=>?_⟩
   clear dv
   obtain⟨h1,ds,h2⟩:=h
   clear ds
   rw[put_comm d];rcases h2 with⟨rfl,h2⟩ | ⟨k,o,hk,hn,rfl,h2⟩ | ⟨kr,rv,t,sz,n,xs,cM,rfl,h2⟩
   ·rw[bI hy] at h2;refine h2.2 F2 L2 u ?_ az;have w:=up (L1:=L) (.inl rfl) (u:=.v v)
    clear up h2
    cases hm with
    | box g=>rw[<-w _ (by simp[bn])];exact .box g
    | alloc g=>exact .alloc g
    | mkS g=>exact .mkS g
    | mkV g n hn=>exact .mkV g n (by rw[hn,w _ (by simp[bn])])
    | mkF g F' bc hg =>
     rename_i xs;refine .mkF g _ (au.le_refl _) ?_;rw[cg (L:=L) (ρ:=ρ) (xs:=xs) (fun z p=>w z (by simpa[bn] using p))];exact h1 _ _ hg
   ·rw[bI hy] at h2;refine h2.2 F2 _ u ?_ az;have w:=up (L1:=L.set k o) (.inr (.inl ⟨k,o,hk,hn,rfl⟩)) (u:=.v v)
    clear up h2
    cases hm with
    | box g =>
     rw[set_comm L _ _ (fun e=>d k hk (by rw[e])),<-w _ (by simp[bn])];exact .box g
    | alloc g =>
     rw[set_comm L _ _ (fun e=>d k hk (by rw[e]))];exact .alloc g
    | mkS g =>
     rw[set_comm L _ _ (fun e=>d k hk (by rw[e]))];exact .mkS g
    | mkV g n hn =>
     rw[set_comm L _ _ (fun e=>d k hk (by rw[e]))];exact .mkV g n (by rw[hn,w _ (by simp[bn])])
    | mkF g F' bc hg =>
     rename_i xs;refine .mkF g _ (au.le_refl _) ?_;rw[cg (L:=L) (ρ:=ρ) (xs:=xs) (fun z p=>w z (by simpa[bn] using p))];exact h1 _ _ hg
   ·rw[bI hy] at h2;refine h2.2 F2 _ u ?_ az;have w:=up (L1:=L.set kr (.row (.slice none 0 0) t sz 0 [])) (.inr (.inr ⟨kr,rv,t,sz,n,xs,cM,rfl⟩)) (u:=.v v);have aw:∀k,dy=some k->dV y=true->bB y dy L ρ=true->(∀e n' ed bz,y≠.mkFD e n' ed bz)->kr≠k:=by
     intro k hk _ hc du e;subst hk e;cases y<;>simp only[bB,cM,Option.isNone_some,aa1] at hc;exact du _ _ _ _ rfl
    clear up h2
    cases hm with
    | box g =>
     rw[set_comm L _ _ (aw _ rfl hy l (fun _ _ _ _=>by simp)).symm,<-w _ (by simp[bn])];exact .box g
    | alloc g =>
     rw[set_comm L _ _ (aw _ rfl hy l (fun _ _ _ _=>by simp)).symm];exact .alloc g
    | mkS g =>
     rw[set_comm L _ _ (aw _ rfl hy l (fun _ _ _ _=>by simp)).symm];exact .mkS g
    | mkV g n hn =>
     rw[set_comm L _ _ (aw _ rfl hy l (fun _ _ _ _=>by simp)).symm];exact .mkV g n (by rw[hn,w _ (by simp[bn])])
    | mkF g F' bc hg =>
     rename_i xs;refine .mkF g _ (au.le_refl _) ?_;rw[cg (L:=L) (ρ:=ρ) (xs:=xs) (fun z p=>w z (by simpa[bn] using p))];exact h1 _ _ hg
  cases x<;>first | (exfalso;revert hx;simp[gM];done) | skip
  case callD f args =>
   simp only[evalOp] at r;obtain⟨h1,h2⟩:=am r;rw[bI hy];refine⟨h1,fun F' L' u hm _=>?_⟩;have e1:aZ L' (put dy u ρ) args=aZ L ρ args:=cV fun z p=>by rw[cC ag z (by simpa[bn] using p),fB ar (hm.get h1)]
   simp only[evalOp,e1];exact h2 F' L' u hm
  case callVD f args =>
   simp only[evalOp] at r;split at r
   case h_2=>exact r.elim
   rename_i es fi ca hf;obtain⟨h1,h2⟩:=am r;rw[bI hy];refine⟨h1,fun F' L' u hm _=>?_⟩;have e0:=fA (v:=u) (ρ:=ρ) ag f (by simp[bn]);have e1:aZ L' (put dy u ρ) args=aZ L ρ args:=cV fun z p=>by rw[cC ag z (by simp[bn,p]),fB ar (hm.get h1)]
   simp only[evalOp,e0,e1,hf];exact h2 F' L' u hm
 ·cases x<;>first | (exfalso;revert hx;simp[oZ];done) | skip
  case appD e sz b zs s z =>
   rw[CR] at r;split at r
   case h_2=>exact r.elim
   rename_i sv xv cY cw;have l:bB y dy L ρ=true:=by
    obtain⟨kd,v,n',bz,h1,_,h⟩:=r.some hr;rw[bI hy] at h;have cl:Keeps L (L.set kd (.row v e sz n' bz)):=by
     rcases h1 with⟨n,xs,h1⟩ | ⟨_,h1⟩
     ·exact Keeps.row h1
     ·exact Keeps.new h1
    refine iB (L':=_) (ρ':=put dx (.v v) ρ) (fun u hu=>by rw[cC ab u hu,fB ar cl]) (fun k hk e=>?_) h.1;rw[Loc.aac] at e;split at e
    ·cases e
    ·exact e
   rw[bI hy];refine⟨l,fun F' L' u hm dl=>?_⟩
   clear dl
   have e0:=fA (v:=u) (ρ:=ρ) ag s (by simp[bn]);have e1:=fA (v:=u) (ρ:=ρ) ag z (by simp[bn]);simp only[evalOp,e0,e1,cY,cw];obtain⟨kd,n,xs,m,ce,h1,⟨ad,c,h2,h3,h4⟩,h5,h6,h7,h8⟩:=r;have cl:∀{o:Own},Keeps L (L.set kd o):=by
    rcases h1 with h1 | ⟨_,h1,_⟩ | ⟨_,h1,_⟩
    ·exact Keeps.row h1
    ·exact Keeps.new h1
    ·exact Keeps.new h1
   have aw:∀k,dy=some k->L.get k=none->kd≠k:=by
    rintro k hk hn rfl;rcases h1 with h1 | ⟨h1,_⟩ | ⟨h1,_⟩
    ·rw[hn] at h1;cases h1
    ·exact d kd h1 hk
    ·exact d kd h1 hk
   refine⟨kd,n,xs,m,ce,?_,⟨ad,c,h2,h3,?_⟩,h5,h6,h7,fun v hv az=>?_⟩
   ·rcases h1 with h1 | ⟨h0,h1,dE⟩ | ⟨h0,h1,ad,q1,q2,q3,q4⟩
    ·exact .inl (hm.part l kd _ h1)
    ·exact .inr (.inl ⟨h0,by rw[hm.frame kd (d kd h0)];exact h1,dE⟩)
    ·exact .inr (.inr ⟨h0,by rw[hm.frame kd (d kd h0)];exact h1,ad,q1,q2,q3,q4.imp (·.mono hm.le) id⟩)
   ·rcases h4 with h4 | h4
    ·exact .inl (h4.mono hm.le)
    ·exact .inr h4
   ·have h9:=h8 v hv (az.down hm.le hr.glob (G9 (hm.part l)));rw[bI hy] at h9;rw[put_comm d];refine h9.2 F' _ u ?_ az;have w:∀z∈bn y,val (L.set kd (.row v e sz (n+m) (xs++ce))) (put dx (.v v) ρ) z=val L ρ z:=fun z p=>by
     rw[cC ab z p,fB ar cl]
    clear h8 h9 cY cw e0 e1
    cases hm with
    | box g =>
     rename_i t x k;simp only[bB,Option.isNone_iff_eq_none] at l;rw[set_comm L _ _ (fun e=>aw k rfl l e.symm),<-w _ (by simp[bn])];exact .box g
    | alloc g =>
     rename_i t zs k;simp only[bB,Option.isNone_iff_eq_none] at l;rw[set_comm L _ _ (fun e=>aw k rfl l e.symm)];exact .alloc g
    | mkS g =>
     rename_i e0 dT n0 zs k;rw[set_comm L _ _ (fun e=>aw k rfl (ni l).1 e.symm)];exact .mkS g
    | mkV g n hn =>
     rename_i e0 dT b0 zs x0 k;rw[set_comm L _ _ (fun e=>aw k rfl (nj l).1 e.symm)];exact .mkV g n (by rw[hn,w _ (by simp[bn])])
    | mkF g F' bc hg =>
     rename_i dp;refine .mkF g _ bc ?_;rw[cg (L:=L) (ρ:=ρ) (xs:=dp) (fun z p=>w z (by simpa[bn] using p))];exact hg
 ·rw[bI hx] at r;obtain⟨bj,r⟩:=r;have bv:bB y dy L ρ=true:=by
   obtain⟨F',L',v,hm,be,bo⟩:=zQ hr bj;have h:=r F' L' v hm bo;rw[bI hy] at h;refine iB (L':=L') (ρ':=put dx v ρ) (fun z p=>by rw[cC ab z p,fB ar (hm.get bj)]) (fun k hk e=>?_) h.1;rw[hm.frame k (fun e'=>d k e' hk)] at e;exact e
  rw[bI hy];refine⟨bv,fun F1 L1 v1 cm eu=>?_⟩;rw[bI hx];refine⟨iB (L':=L) (ρ':=ρ) (fun z p=>by rw[cC ag z p,fB ar (cm.get bv)]) (fun k hk e=>by rw[cm.frame k (d k hk)];exact e) bj,fun F2 L2 v2 dz az=>?_⟩;obtain⟨Fa,La,ha,hb⟩:=Hf bj bv ab ag d ar cm dz;have da:bB y dy La (put dx v2 ρ)=true :=
   iB (L':=L) (ρ':=ρ) (fun z p=>by rw[cC ab z p,fB ar (ha.get bj)]) (fun k hk e=>by rw[ha.frame k (fun e'=>d k e' hk)];exact e) bv
  have dt:Real Fa La:=az.down hb.le (hr.glob.mono ha.le) (hb.part da);have h:=r Fa La v2 ha dt;rw[bI hy] at h;rw[put_comm d];exact h.2 F2 L2 v1 hb az
 ·have bm:=rp hx;rw[bZ bm] at r;obtain⟨v,hT,q⟩:=(eM bm).ex _ r
  clear r
  obtain⟨n,a,z,k,off,g,t,cs,ho,e1,e2,e3,e4,e5,r⟩:=iA hy q;have ha:a∈bn y:=by rcases ho with rfl | rfl<;>simp[bn]
  have p:z∈bn y:=by rcases ho with rfl | rfl<;>simp[bn]
  have q0:=fA (v:=v) (ρ:=ρ) ab a ha;have q1:=cC (L:=L) (v:=v) (ρ:=ρ) ab z p;rw[q0] at e3;rw[q1] at e1 e2 r;refine gX ho e1 e2 e3 e4 e5 ?_;have h3:=(eM bm).mono _ (fun u=>K F _ (put dx u (put dy (.v undef) ρ))) (fun u hu=>by subst hu;rw[put_comm d];exact r)
   (qA bm (au.le_refl F) (ur (L:=L) (ρ:=ρ) (v:=.v undef) ag) hT)
  rw[bZ bm];exact zP hx ho (CS e4) (fun j hj=>bV hj) h3
 ·have bk:=rp hy;obtain⟨n,a,z,k,off,g,t,cs,ho,e1,e2,e3,e4,e5,r⟩:=iA hx r;have ha:a∈bn x:=by rcases ho with rfl | rfl<;>simp[bn]
  have p:z∈bn x:=by rcases ho with rfl | rfl<;>simp[bn]
  rw[bZ bk] at r;obtain⟨v,hT,r⟩:=(eM bk).ex _ r;have hT:=zP (L':=L) hy ho (fun sv=>(CS e4 sv).symm) (fun j hj=>(bV hj).symm) hT;have bi:Alike y L L (put dx (.v undef) ρ) ρ:=fun u hu=>⟨(fA ab u hu).symm,fun _ _ _=>rfl⟩;have hT:=qA bk (au.le_refl F) bi hT;rw[bZ bk];refine(eM bk).mono _ _ (fun u hu=>?_) hT;subst hu;have q0:=fA (v:=u) (ρ:=ρ) ag a ha;have q1:=cC (L:=L) (v:=u) (ρ:=ρ) ag z p;refine gX ho (by rw[q1];exact e1) (by rw[q1];exact e2) (by rw[q0];exact e3) e4 e5 ?_;rw[q1,put_comm d];exact r
end
section
variable {P:Program}{F:au}{L:Loc}{ρ:Env}{K K':dm}
theorem Left.none {d:Option Nat}{L L':Loc}(h:Left d L L') {j:Nat}(c:d≠some j) (e:L.get j=none):L'.get j=none:=by
 rcases h with rfl | ⟨k,o,f,b,rfl⟩ | ⟨k,l,t,sz,n,xs,b,rfl⟩
 ·exact e
 ·rw[bV (fun a=>c (by rw[a];exact f))];exact e
 ·rw[bV (fun a=>by rw[a,b] at e;cases e)];exact e
theorem mR {o:dO}(ho:okD o=true) {d:Option Nat}(hr:Real F L) (y:Vd L ρ) (c:evalOp P o d F L ρ K)
  (hk:∀F1 L1 q,(∃v,q=put d v ρ)->F.le F1->Real F1 L1->Vd L1 q->(∀j,d≠some j->L.get j=none->L1.get j=none)->K F1 L1 q->K' F1 L1 q):evalOp P o d F L ρ K':=by
 have a:∀{L1:Loc}{v:SV},Keeps L L1->(∀k off,v=.own k off->∃g ty cs,L1.get k=some (.box g ty cs))->Vd L1 (put d v ρ):=by
  intro L1 v hL hv t k off e;have m:ρ t=.own k off->∃g ty cs,L1.get k=some (.box g ty cs):=fun e=>by
   obtain⟨g,ty,cs,h⟩:=y t k off e;exact⟨g,ty,cs,hL k g ty cs h⟩
  rw[put_eq] at e;cases d with
  | none=>exact m e
  | some k' =>
   simp only[] at e;split at e
   ·exact hv k off e
   ·exact m e
 by_cases hs:cO o=true
 ·rw[bZ hs] at c ⊢;obtain⟨v,hT,hv⟩:=(eM hs).ex _ c;refine(eM hs).mono _ _ (fun u hu=>?_) hT;subst hu;refine hk _ _ _ ⟨_,rfl⟩ (au.le_refl F) hr (a (Keeps.refl L) fun k off e=>?_) (fun _ _ h=>h) hv;subst e;obtain⟨x,_,p,hx⟩:=Ji hs hT;exact y.ev hx
 ·by_cases ha:dV o=true
  ·rw[bI ha] at c ⊢;refine⟨c.1,fun F' L' v hm l=>hk _ _ _ ⟨v,rfl⟩ hm.le l (a (hm.get c.1) fun k off e=>?_) (fun j w e=>by rw[hm.frame j w];exact e) (c.2 F' L' v hm l)⟩;cases hm with
   | box g=>injection e with e1 e2;subst e1;exact⟨_,_,_,by rw[Loc.aac,fo rfl]⟩
   | alloc g=>injection e with e1 e2;subst e1;exact⟨_,_,_,by rw[Loc.aac,fo rfl]⟩
   | mkS g=>cases e
   | mkV g n hn=>cases e
   | mkF g F' r hg=>cases e
  ·cases o<;>first | (exfalso;revert hs ha ho;simp[okD,He,cO,gM,dV,oZ,iz];done) | skip
   case callD f args =>
    simp only[evalOp] at c ⊢;exact c.imp fun F' L' v r hl l h=>hk _ _ _ ⟨_,rfl⟩ r l (a hl.keeps fun k off e=>by cases e) (fun j w e=>hl.none w e) h
   case callVD f args =>
    simp only[evalOp] at c ⊢;split at c
    ·exact c.imp fun F' L' v r hl l h=>hk _ _ _ ⟨_,rfl⟩ r l (a hl.keeps fun k off e=>by cases e) (fun j w e=>hl.none w e) h
    ·exact c.elim
   case appD e sz b zs s z =>
    simp only[evalOp] at c ⊢;split at c
    ·refine c.imp (au.le_refl F) fun kd n xs n' bj u al l h=>hk _ _ _ ⟨_,rfl⟩ (au.le_refl F) l (a ?_ fun k off e=>by cases e) ?_ (h l)
     ·rcases al with h | ⟨_,h⟩
      ·exact Keeps.row h
      ·exact Keeps.new h
     ·intro j w e;have ar:j≠kd:=by
       rintro rfl;rcases al with h | ⟨h,_⟩
       ·rw[e] at h;cases h
       ·exact w h
      rw[bV ar];exact e
    ·exact c.elim
   all_goals
    obtain⟨n',a',x',k,off,g,ty,cs,an,e1,e2,e3,e4,e5,c⟩:=iA rfl c;refine gX an e1 e2 e3 e4 e5 (hk _ _ _ ⟨_,rfl⟩ (au.le_refl F) (Real.store (vX e5) hr e4) ?_ (fun j _ e=>by rw[bV (fun ej=>by rw[ej,e4] at e;cases e)];exact e) c);intro t k' p e;have m:ρ t=.own k' p->∃g' ty' cs',Loc.get (L.set k (.box g ty (bO cs off (aM (val L ρ x'))))) k'=some (.box g' ty' cs'):=fun e=>by
     obtain⟨g',ty',cs',h⟩:=y t k' p e;rw[Loc.aac];split
     ·exact⟨_,_,_,rfl⟩
     ·exact⟨_,_,_,h⟩
    rw[put_eq] at e;cases d with
    | none=>exact m e
    | some k' =>
     simp only[] at e;split at e
     ·cases e
     ·exact m e
theorem jz {o:dO}(c:okD o=true) {d:Option Nat}(m:Real F L) (b:Vd L ρ) (e:evalOp P o d F L ρ K)
  (k:∀F1 L1 a,(∃v,a=put d v ρ)->F.le F1->Real F1 L1->Vd L1 a->K F1 L1 a->K' F1 L1 a):evalOp P o d F L ρ K' :=
 mR c m b e fun F1 L1 a h1 f h l _ j=>k F1 L1 a h1 f h l j
theorem vn {o:dO}(u:okD o=true) {d:Option Nat}(c:Real F L) (a:evalOp P o d F L ρ K):∃v F1 L1,K F1 L1 (put d v ρ):=by
 by_cases j:cO o=true
 ·rw[bZ j] at a;obtain⟨v,_,n⟩:=(eM j).ex _ a;exact⟨v,F,L,n⟩
 ·by_cases m:dV o=true
  ·rw[bI m] at a;obtain⟨F',L',v,q,_,l⟩:=zQ c a.1;exact⟨v,F',L',a.2 F' L' v q l⟩
  ·cases o<;>first | (exfalso;revert j m u;simp[okD,He,cO,gM,dV,oZ,iz];done) | skip
   case callD f args =>
    simp only[evalOp] at a;obtain⟨F',L',v,_,_,_,h⟩:=a.some c;exact⟨_,F',L',h⟩
   case callVD f args =>
    simp only[evalOp] at a;split at a
    ·obtain⟨F',L',v,_,_,_,h⟩:=a.some c;exact⟨_,F',L',h⟩
    ·exact a.elim
   case appD e sz b zs s z =>
    simp only[evalOp] at a;split at a
    ·obtain⟨y,v,r,t,_,_,h⟩:=a.some c;exact⟨_,F,_,h⟩
    ·exact a.elim
   all_goals
    obtain⟨r,a',w,k,off,g,ty,cs,p,e1,e2,e3,x,e5,a⟩:=iA rfl a;exact⟨_,F,_,a⟩
def gY:dO:=.mov (.c undef)
def res (g:Option (Nat×Bool)) (ρ:Env) (o:dO):Option dO :=
 match g with
 | none=>some o
 | some (s,a)=>match ρ s with
  | .v (.bool b)=>some (if b=a then o else gY)
  | .v (.tuple _)=>some gY
  | _=>none
theorem fk {d:Option Nat}{o:dO}{g:Option (Nat×Bool)}{c:List ai} :
  aQ P (.op d o g::c) F L ρ K↔∃o',res g ρ o=some o'/\evalOp P o' d F L ρ (fun F1 L1 h=>aQ P c F1 L1 h K):=by
 cases g with
 | none=>simp only[aQ,res,vz,exists_eq_left']
 | some p =>
  obtain⟨s,f⟩:=p;simp only[aQ,res];cases e:ρ s with
  | own k off=>simp
  | el a j=>simp
  | v u =>
   cases u<;>simp only[vz,exists_eq_left',reduceCtorEq,false_and,exists_false]
   case bool b =>
    cases b<;>cases f<;>simp[yX,kE e,gY,evalOp,aJ,ev]
   case tuple vs=>rfl
def looks (o:dO) (g:Option (Nat×Bool)):List Nat :=
 match g with
 | none=>cj (bn o)
 | some (s,_)=>s::cj (bn o)
def rM (d:Option Nat) (l:List Nat):Bool :=
 match d with
 | none=>true
 | some k=>match fe l k with | true=>false | false=>true
def CT:Option Nat->Option Nat->Bool
 | some a,some b=>match Nat.beq a b with | true=>false | false=>true
 | _,_=>true
def lQ:ai->ai->Bool
 | .op a x c,.op b y d=>okD x&&okD y&&wS x y&&rM a (looks y d)&&rM b (looks x c)&&CT a b
 | _,_=>false
theorem jZ {d:Option Nat}{l:List Nat}(h:rM d l=true):∀k,d=some k->k∉l:=by
 rintro k rfl a;simp only[rM,cN.2 a] at h;cases h
theorem nk {d a:Option Nat}(h:CT d a=true):∀k,d=some k->a≠some k:=by
 rintro k rfl e;subst e;simp[CT] at h
theorem oh {g:Option (Nat×Bool)}{o:dO}{d:Option Nat}{v:SV}(h:∀k,d=some k->k∉looks o g):res g (put d v ρ) o=res g ρ o:=by
 cases g with
 | none=>rfl
 | some p =>
  obtain⟨s,a⟩:=p;have:put d v ρ s=ρ s:=by
   rw[put_eq];cases d with
   | none=>rfl
   | some k =>
    simp only[];rw[fL];intro e;exact h k rfl (by simp[looks,e])
  simp only[res,this]
theorem cW {g:Option (Nat×Bool)}{o o':dO}(h:res g ρ o=some o'):o'=o\/o'=gY:=by
 cases g with
 | none=>simp only[res,vz] at h;exact .inl h.symm
 | some p =>
  obtain⟨s,a⟩:=p;simp only[res] at h;split at h
  ·injection h with h
   split at h
   ·exact .inl h.symm
   ·exact .inr h.symm
  ·injection h with h;exact .inr h.symm
  ·cases h
theorem nu {o:dO}{g:Option (Nat×Bool)}{k:Nat}(h:k∈cj (bn o)):k∈looks o g:=by
 cases g with
 | none=>exact h
 | some p=>exact abf _ h
theorem Jm {x y:ai}{b:List ai}(w:lQ x y=true) (hr:Real F L) (t:Vd L ρ) (h:aQ P (x::y::b) F L ρ K):aQ P (y::x::b) F L ρ K:=by
 cases x with
 | frz k=>exact o5 w (by cases y<;>exact aa8)
 | pc d o g=>exact o5 w (by cases y<;>exact aa8)
 | op dx x gx =>
  cases y with
  | frz k=>exact o5 w aa8
  | pc d o g=>exact o5 w aa8
  | op dy y gy =>
   simp only[lQ,xo] at w;obtain⟨⟨⟨⟨⟨al,c⟩,hc⟩,h1⟩,h2⟩,h3⟩:=w;have h1:=jZ h1;have h2:=jZ h2;have h3:=nk h3;have ar:∀k,dy=some k->dx≠some k:=fun k e e'=>h3 k e' e;rw[fk] at h;obtain⟨z,s,h⟩:=h;have j:okD gY=true:=rfl;have n:okD z=true:=by rcases cW s with rfl | rfl;exact al;exact j
   -- y's guard
   have hy:∃p,res gy ρ y=some p:=by
    obtain⟨v,F1,L1,f⟩:=vn n hr h;rw[fk] at f;obtain⟨p,a,_⟩:=f;rw[oh h1] at a;exact⟨p,a⟩
   obtain⟨p,a⟩:=hy;have aa:okD p=true:=by rcases cW a with rfl | rfl;exact c;exact j
   have hA:evalOp P z dx F L ρ (fun F1 L1 m=>evalOp P p dy F1 L1 m (fun F2 L2 q=>aQ P b F2 L2 q K)):=by
    refine jz n hr t h ?_;rintro F1 L1 m ⟨v,rfl⟩ _ _ _ f;rw[fk] at f;obtain⟨an,l,f⟩:=f;rw[oh h1,a] at l;injection l with l
    subst l;exact f
   have lx:∀k,dy=some k->k∉cj (bn z):=by
    intro k e f;rcases cW s with rfl | rfl
    ·exact h2 k e (nu f)
    ·simp[gY,bn,cj] at f
   have ly:∀k,dx=some k->k∉cj (bn p):=by
    intro k e f;rcases cW a with rfl | rfl
    ·exact h1 k e (nu f)
    ·simp[gY,bn,cj] at f
   have hB:evalOp P p dy F L ρ (fun F1 L1 m=>evalOp P z dx F1 L1 m (fun F2 L2 q=>aQ P b F2 L2 q K)):=by
    by_cases r:p=gY
    ·subst r;simp only[gY,evalOp,aJ,ev];exact wR (K:=fun F2 L2 q=>aQ P b F2 L2 q K) (u:=.v undef) n lx h3 hA
    ·have ey:p=y:=by rcases cW a with h | h;exact h;exact o5 h r
     subst ey;refine Jl hr ?_ ly lx h3 t hA;rcases cW s with rfl | rfl
     ·exact hc
     ·simp only[okD,abn] at c;rcases c with c | c
      ·simp only[wS,c,ab2,abn];exact .inl (.inl (.inl (.inl (.inl (by rfl)))))
      ·simp only[wS,c,ab2,abn];exact .inl (.inr rfl)
   rw[fk];refine⟨p,a,jz aa hr t hB ?_⟩;rintro F1 L1 m ⟨v,rfl⟩ _ _ _ f;rw[fk];exact⟨z,by rw[oh h2];exact s,f⟩
theorem zR {y:ai}{s:List ai}:∀(p:List ai),(∀x∈p,lQ x y=true)->∀{F:au}{L:Loc}{ρ:Env},Real F L->Vd L ρ->aQ P (p++y::s) F L ρ K->aQ P (y::(p++s)) F L ρ K
 | [],_,F,L,ρ,_,_,h=>h
 | .frz k::p,b,F,L,ρ,_,_,h=>by
  have:=b (.frz k) (by simp);exact o5 this (by cases y<;>exact aa8)
 | .pc d o g::p,b,F,L,ρ,_,_,h=>by
  have:=b (.pc d o g) (by simp);exact o5 this (by cases y<;>exact aa8)
 | .op t x q::p,b,F,L,ρ,r,j,h=>by
  have a:=b (.op t x q) (by simp);have w:aQ P (.op t x q::y::(p++s)) F L ρ K:=by
   rw[aa2,fk] at h;obtain⟨n,e,h⟩:=h;have l:okD x=true:=by
    cases y with
    | frz k=>exact o5 a aa8
    | pc d o g=>exact o5 a aa8
    | op dy y gy=>simp only[lQ,xo] at a;exact a.1.1.1.1.1
   have c:okD n=true:=by rcases cW e with rfl | rfl;exact l;rfl
   rw[fk];refine⟨n,e,jz c r j h ?_⟩;intro F1 L1 u _ _ m f hk;exact zR p (fun z v=>b z (by simp[v])) m f hk
  exact Jm a r j w
end
def UL (A:cT):Op->Bool
 | .store _ (.tmp i) _=>fe A.co (1000000+i)
 | .mapUpdate _ (.tmp i) _ _=>fe A.co (1000000+i)
 | _=>false
def Bh (P:Program) (A:cT) (a:Array Oper) (i:Nat):Option ai :=
 match a[i]? with
 | none=>none
 | some o=>match gW a o.guard,gU P (A.owned o.dst) o.op,O8 A.n o.dst with
  | some g,some s,true=>match A.isX o.dst with
   | true=>match g,s with
    | none,.call f l=>some (.pc o.dst (.call f l) none)
    | none,.callV f l=>some (.pc o.dst (.callV f l) none)
    | _,_=>none
   | false=>match A.isO o.dst||UL A o.op with
    | true=>match wN s with
     | some s'=>some (.op o.dst s' g)
     | none=>none
    | false=>match uq A.fl A.bk A.bx s with
     | some s'=>match cO s'||gM s'||dV s'||oZ s'||iz s' with
      | true=>some (.op o.dst s' g)
      | false=>none
     | none=>none
  | _,_,_=>none
def ef (P:Program) (A:cT) (ops:Array Oper):List Nat->Option (List ai)
 | []=>some []
 | i::is=>match Bh P A ops i,ef P A ops is with
  | some s,some ss=>some (s::ss)
  | _,_=>none
def binding (e:Edge):Bool:=Region.binds .any e
def direct (ops:Array Oper) (i:Nat):List Nat :=
 match ops[i]? with
 | some o=>(o.after.toList.filter binding).map (·.on)
 | none=>[]
def Bj:List (List Nat)->Nat->List Nat
 | [],_=>[]
 | l::_,0=>l
 | _::a,n+1=>Bj a n
def Bk (a:List (List Nat)) (x:Nat):List Nat->Bool
 | []=>false
 | z::zs=>match fe (Bj a z) x with | true=>true | false=>Bk a x zs
def Bl (ops:Array Oper) (a:List (List Nat)) (y:Nat):Bool :=
 (direct ops y).all (fun z=>Nat.blt z y)&&(Bj a y).all (fun x=>fe (direct ops y) x||Bk a x (direct ops y))
def Jo (ops:Array Oper) (a:List (List Nat)):Bool:=(List.range ops.size).all (Bl ops a)
def ol (a:List (List Nat)):List (Nat×ai)->Bool
 | []=>true
 | (x,b)::l=>l.all (fun p=>lQ b p.2||fe (Bj a p.1) x)&&ol a l
def aP:List Nat->Bool
 | []=>true
 | x::l=>!fe l x&&aP l
def Er (P:Program) (ops:Array Oper) (is:List Nat) (a:List (List Nat)) (ss:List ai):Bool :=
 P.follows .mixedOrders&&Jo ops a&&aP is&&Nat.beq is.length ops.size&&is.all (fun i=>Nat.blt i ops.size)&&(List.range ops.size).all (fe is)&&ol a (is.zip ss)
theorem cP:∀{l:List Nat},aP l=true->l.Nodup
 | [],_=>List.nodup_nil
 | x::l,h=>by
  simp only[aP,xo,Bool.not_eq_true'] at h;refine List.nodup_cons.2 ⟨fun a=>?_,cP h.2⟩;rw[cN.2 a] at h;cases h.1
theorem zS {a:List (List Nat)}{x:Nat}:∀{l:List Nat},Bk a x l=true->∃z,z∈l/\x∈Bj a z
 | [],h=>by cases h
 | z::zs,h=>by
  simp only[Bk] at h;split at h
  ·rename_i d;exact⟨z,by simp,cN.1 d⟩
  ·obtain⟨b,h1,c⟩:=zS h;exact⟨b,by simp[h1],c⟩
section
variable {P:Program}{K:dm}{Q:Exit->Act->World->Prop}{ops:Array Oper}
theorem vo {k:List (List Nat)}(c:Jo ops k=true) {done:Nat->Prop}(a:∀i,i<ops.size->done i->∀z∈direct ops i,done z):∀y,y<ops.size->(∀z∈direct ops y,done z)->∀x∈Bj k y,done x:=by
 intro y
 induction y using Nat.strongRecOn with
 | _ y l =>
  intro m f x o;have h:=aaY.1 c y (List.mem_range.2 m);simp only[Bl,xo] at h;have b:=aaY.1 h.2 x o;simp only[abn] at b;rcases b with b | b
  ·exact f x (cN.1 b)
  ·obtain⟨z,j,d⟩:=zS b;have e:z<y:=by
    have n:Nat.blt z y=true:=aaY.1 h.1 z j;simpa using n
   exact l z e (by omega) (a z (by omega) (f z j)) x d
theorem pM {A:cT}:∀{is:List Nat}{ss:List ai},ef P A ops is=some ss->ss.length=is.length/\∀p q y,is=p++y::q->∃a b c,ss=a++b::c/\a.length=p.length/\Bh P A ops y=some b/\ef P A ops (p++q)=some (a++c)
 | [],ss,h=>by
  simp only[ef,vz] at h;subst h;refine⟨rfl,fun p q y e=>?_⟩;cases p<;>cases e
 | i::is,ss,h=>by
  simp only[ef] at h;split at h
  case h_2=>cases h
  rename_i s d h1 f;injection h with h
  subst h;obtain⟨m,j⟩:=pM f;refine⟨by simp[m],fun p q y e=>?_⟩;cases p with
  | nil =>
   simp only[abp,List.cons.injEq] at e;obtain⟨rfl,rfl⟩:=e;exact⟨[],s,d,rfl,rfl,h1,by simpa using f⟩
  | cons x p =>
   simp only[aa2,List.cons.injEq] at e;obtain⟨rfl,rfl⟩:=e;obtain⟨a,b,c,o,l,n,k⟩:=j p q y rfl;refine⟨s::a,b,c,by simp[o],by simp[l],n,?_⟩;simp only[aa2,ef,h1,k]
theorem vp {d:List (List Nat)}:∀{p q:List (Nat×ai)}{y:Nat×ai},ol d (p++y::q)=true->ol d (p++q)=true/\∀x∈p,lQ x.2 y.2=true\/x.1∈Bj d y.1
 | [],q,y,h=>by
  obtain⟨y1,y2⟩:=y;simp only[abp,ol,xo] at h ⊢;exact⟨h.2,fun x c=>by cases c⟩
 | (k,l)::p,q,y,h=>by
  simp only[aa2,ol,xo] at h ⊢;obtain⟨h1,e⟩:=h;obtain⟨f,j⟩:=vp e;have a:=aaY.1 h1;refine⟨⟨aaY.2 fun z b=>a z ?_,f⟩,fun x c=>?_⟩
  ·rcases aaU.1 b with b | b
   ·exact aaU.2 (.inl b)
   ·exact aaU.2 (.inr (abf _ b))
  ·rcases aaT.1 c with rfl | c
   ·have:=a y (aaU.2 (.inr (by simp)));simp only[abn] at this;rcases this with h | h
    ·exact .inl h
    ·exact .inr (cN.1 h)
   ·exact j x c
theorem aA.same {L L2:Loc}{ρ:Env}{a:Act}(h:aA L ρ a) (b:L.sameAs L2):aA L2 ρ a:=by
 have c:∀sv,conc L2 sv=conc L sv:=by
  intro sv;cases sv with
  | v x=>rfl
  | el a j=>rfl
  | own k off=>simp only[conc,b k]
 exact⟨fun j=>by rw[c];exact h.eq j,fun j k off e=>by rw[b k];exact h.own j k off e,h.el⟩
theorem Step.aaG {F F':au}{L L' L2:Loc}{w w':World}(h:Step F L w F' L' w') (a:L'.sameAs L2):Step F L w F' L2 w' :=
 ⟨h.le,h.os,h.tape,h.output,h.size,h.same,h.frz,fun b ⟨k,o,e,hb⟩=>h.own b ⟨k,o,by rw[<-a k];exact e,hb⟩⟩
theorem CU {A:cT}{i:Nat}{s:ai}{q:List ai}{F:au}{L:Loc}{ρ:Env}{a:Act}{w:World}{KK:Act->World->Prop}(hi:i<ops.size) (c:Bh P A ops i=some s) (hs:St F L w) (he:aA L ρ a) (hn:a.tmps.size=A.n)
  (l:aQ P (s::q) F L ρ K)
  (hQ:∀a' w' F' L' ρ',St F' L' w'->aA L' ρ' a'->a'.tmps.size=A.n->a'.defers=a.defers->Step F L w F' L' w'->(∀j,((ops[i]?).bind (·.dst))≠some j->a'.tmps.getD j undef=a.tmps.getD j undef)->aQ P q F' L' ρ' K->KK a' w') :
  wpOp P ops Q i KK a w:=by
 unfold Bh at c;split at c
 case h_1=>cases c
 rename_i o al;split at c
 case h_2=>cases c
 rename_i g s0 y ae aa;split at c
 ·split at c
  ·injection c with c
   subst c;simp only[aQ] at l
  ·injection c with c
   subst c;simp only[aQ] at l
  ·cases c
 have bc:∃s',s=.op o.dst s' g/\((∀{F:au}{L:Loc}{ρ:Env}{K:dm},evalOp P s' o.dst F L ρ K->evalOp P s0 o.dst F L ρ (fun F' L' ρ'=>Real F' L'->K F' L' ρ')) \/
   ∀{F:au}{L:Loc}{ρ:Env}{K:dm},evalOp P s' o.dst F L ρ K->evalOp P s0 o.dst F L ρ (fun F' L' ρ'=>∃L2,L'.sameAs L2/\(Real F' L2->K F' L2 ρ'))):=by
  split at c
  ·split at c
   case h_2=>cases c
   rename_i s' z;injection c with c
   exact⟨s',c.symm,.inl fun h=>Ma z h⟩
  ·split at c
   case h_2=>cases c
   rename_i s' z;split at c
   case h_2=>cases c
   rename_i ac;injection c with c
   cases ag:gM s' with
   | true=>exact⟨s',c.symm,.inr fun h=>Jj z ag h⟩
   | false=>exact⟨s',c.symm,.inl fun h=>Mf z ac ag h⟩
 obtain⟨s',be,t⟩:=bc;subst be;have hd:∀k,o.dst=some k->k<a.tmps.size:=by
  intro k hk;rw[hk] at aa;rw[hn];have h2:Nat.blt k A.n=true:=aa;simpa using h2
 have bi:(ops[i]?).bind (·.dst)=o.dst:=by rw[al];rfl
 rw[bi] at hQ;simp only[wpOp,al];have r:evalOp P s' o.dst F L ρ (fun F' L' ρ'=>aQ P q F' L' ρ' K)->o.wp P a w KK Q:=by
  intro l;rcases t with t | t
  ·have h1:=t l;have:=fj (Q:=Q) hs he hd ae h1;refine Oper.wp_mono ?_ (pK (asg:=[]) this);rintro a' w' ⟨⟨F',L',ρ',g1,g2,g3,g4,g5,g6⟩,ab⟩;exact hQ a' w' F' L' ρ' g1 g2 (by rw[g3,hn]) g4 g5 ab (g6 ⟨w',g1⟩)
  ·have h1:=t l;have:=fj (Q:=Q) hs he hd ae h1;refine Oper.wp_mono ?_ (pK (asg:=[]) this);rintro a' w' ⟨⟨F',L',ρ',g1,g2,g3,g4,g5,L2,g6,g7⟩,ab⟩;have s1:St F' L2 w':=g1.part fun k o e=>by rw[<-g6 k];exact e
   exact hQ a' w' F' L2 ρ' s1 (g2.same g6) (by rw[g3,hn]) g4 (g5.aaG g6) ab (g7 ⟨w',s1⟩)
 have skip:aQ P q F L (put o.dst (.v undef) ρ) K->KK (a.put o.dst undef) w:=by
  intro l;exact hQ _ w F L _ hs (he.put hd (v:=undef) (x:=.v undef) rfl cq eI (sL L)) (by rw[jv,hn]) (gq _ _ _) (Step.refl _ _ _) (fun j hj=>jY hj) l
 cases u:o.guard with
 | none =>
  rw[u] at y;simp only[gW,vz] at y;subst y;simp only[aQ] at l;rw[fo (by simp[Region.wanted,u])];exact .inl (r l)
 | some p =>
  obtain⟨j,m⟩:=p;rw[u] at y;simp only[gW] at y;split at y
  case h_2=>cases y
  rename_i d ad;injection y with y
  subst y;simp only[aQ] at l;split at l
  ·rename_i b hb;have f:=he.eq d;rw[hb] at f;have hy:yielded ops a.tmps j=some b:=by
    simp only[yielded,ad,Option.bind_some,qy f]
   have hw:Region.wanted o (yielded ops a.tmps)=(b == m):=by
    simp only[Region.wanted,u,hy];cases b<;>cases m<;>rfl
   rw[hw];cases b<;>simp only[yX] at l
   ·rw[kE hb] at l;cases m
    ·exact .inl (r l)
    ·exact skip l
   ·rw[kE hb] at l;cases m
    ·exact skip l
    ·exact .inl (r l)
  ·rename_i vs hb;have f:=he.eq d;rw[hb] at f;have hy:yielded ops a.tmps j=none:=by
    simp only[yielded,ad,Option.bind_some];rw[aa4] at f;cases e:a.tmps[d]? with
    | none=>rfl
    | some v=>rw[e] at f;simp only[Option.getD_some,conc] at f;rw[f]
   have hw:Region.wanted o (yielded ops a.tmps)=false:=by
    simp only[Region.wanted,u,hy];rfl
   rw[hw];exact skip l
  ·exact l.elim
theorem aA.vd {L:Loc}{ρ:Env}{a:Act}(b:aA L ρ a):Vd L ρ:=by
 intro t k off e;exact b.own t k off e
theorem sQ {l:Array Bool}{z:Nat}(h:z<l.size) (b c:Bool):l.getD z b=l.getD z c:=by
 simp[aa4,h]
theorem min_mem:∀{l:List Nat},l≠[]->∃y,y∈l/\∀z∈l,y<=z
 | [],h=>o5 rfl h
 | [x],_=>⟨x,by simp,fun z a=>by simp at a;omega⟩
 | x::c::l,_=>by
  obtain⟨y,h1,b⟩:=min_mem (l:=c::l) (by simp)
  by_cases h:x<=y
  ·exact⟨x,by simp,fun z a=>by
    rcases aaT.1 a with rfl | a
    ·exact aa0 _
    ·exact abz h (b z a)⟩
  ·exact⟨y,abf _ h1,fun z a=>by
    rcases aaT.1 a with rfl | a
    ·omega
    ·exact b z a⟩
theorem om {i z:Nat}{o:Oper}(c:ops[i]?=some o):z∈direct ops i↔∃e∈o.after,Region.binds .any e=true/\e.on=z:=by
 simp only[direct,c,abq,List.mem_filter,Array.mem_toList_iff,binding];constructor
 ·rintro⟨e,⟨h1,a⟩,b⟩;exact⟨e,h1,a,b⟩
 ·rintro⟨e,h1,a,b⟩;exact⟨e,⟨h1,a⟩,b⟩
theorem Hg {A:cT}{cl:List (List Nat)}(bd:Jo ops cl=true):∀(m:Nat) (l:List Nat) (ss:List ai) (b:Array Bool) (F:au) (L:Loc) (ρ:Env) (a:Act) (w:World),
  ef P A ops l=some ss->b.size=ops.size->l.Nodup->(∀i,i∈l↔i<ops.size/\b.getD i true=false)->l.length<=m->ol cl (l.zip ss)=true ->
  (∀i,i<ops.size->b.getD i true=true->∀z∈direct ops i,b.getD z true=true) ->
  St F L w->aA L ρ a->a.tmps.size=A.n->aQ P ss F L ρ K ->
  (∀a' w',dY A.n F L w a (dstsOf ops (List.range ops.size)) K a' w'->Q .normal a' w')->wpAny P .any ops Q m b a w:=by
 have r:∀y z,y<ops.size->z∈direct ops y->z<y:=by
  intro y z hy t;have h:=aaY.1 bd y (List.mem_range.2 hy);simp only[Bl,xo] at h;have h3:Nat.blt z y=true:=aaY.1 h.1 z t;simpa using h3
 intro m
 induction m with
 | zero =>
  intro l ss b F L ρ a w hl av bc c ae hp d hs he hn hK hQ;have:l=[]:=abE (by omega);subst this;simp only[ef,vz] at hl;subst hl;refine⟨?_,hQ a w ⟨F,L,ρ,hs,he,hn,rfl,Step.refl _ _ _,fun _ _=>rfl,hK⟩⟩;apply List.eq_nil_iff_forall_not_mem.2;intro i hi;rw[mem_ready] at hi;obtain⟨h1,o,h2,_⟩:=hi;have:=(c i).2 ⟨(Array.getElem?_eq_some_iff.1 h2).1,h1⟩;cases this
 | succ m ih =>
  intro l ss b F L ρ a w hl av bc c ae hp d hs he hn hK hQ;refine⟨fun hr=>?_,fun y hy=>?_⟩
  ·have:l=[]:=by
    refine Classical.byContradiction fun s=>?_;obtain⟨y,h1,h2⟩:=min_mem s;obtain⟨h3,h4⟩:=(c y).1 h1;have aa:y∈Region.ready .any ops b:=by
     rw[mem_ready];refine⟨h4,ops[y],Array.getElem?_eq_getElem h3,fun e ao am=>?_⟩;have t:e.on∈direct ops y:=(om (Array.getElem?_eq_getElem h3)).2 ⟨e,ao,am,rfl⟩;have cp:=r y e.on h3 t;rw[sQ (by omega) false true];cases hd:b.getD e.on true with
     | true=>rfl
     | false =>
      have:=h2 e.on ((c e.on).2 ⟨by omega,hd⟩);omega
    rw[hr] at aa;cases aa
   subst this;simp only[ef,vz] at hl;subst hl;exact hQ a w ⟨F,L,ρ,hs,he,hn,rfl,Step.refl _ _ _,fun _ _=>rfl,hK⟩
  ·rw[mem_ready] at hy;obtain⟨h1,o,ho,ar⟩:=hy;have f:=(Array.getElem?_eq_some_iff.1 ho).1;have al:=(c y).2 ⟨f,h1⟩;obtain⟨p,q,rfl⟩:=List.append_of_mem al;obtain⟨cX,bi⟩:=pM hl;obtain⟨sp,sy,sq,rfl,ad,ce,cm⟩:=bi p q y rfl;have bl:(p++y::q).zip (sp++sy::sq)=p.zip sp++(y,sy)::q.zip sq:=by
    rw[List.zip_append ad.symm];rfl
   rw[bl] at hp;obtain⟨bt,cr⟩:=vp hp;have ac:∀z∈direct ops y,b.getD z true=true:=by
    intro z t;have cp:=r y z f t;obtain⟨e,ao,am,rfl⟩:=(om ho).1 t;rw[sQ (by omega) true false];exact ar e ao am
   have u:∀sx∈sp,lQ sx sy=true:=by
    intro sx ca;obtain⟨k,hk⟩:=List.getElem?_of_mem ca;have df:=(aaR.1 hk).1;have aE:p[k]?=some (p[k]'(by omega)):=aaN (by omega);have hm:(p[k]'(by omega),sx)∈p.zip sp:=aaX (i:=k) (by rw[List.getElem?_zip_eq_some];exact⟨aE,hk⟩);rcases cr _ hm with h | h
    ·exact h
    ·exfalso;have hd:=vo bd (done:=fun z=>b.getD z true=true) d y f ac _ h;have ch:p[k]'(by omega)∈p++y::q:=aaU.2 (.inl (aaX aE));have:=((c _).1 ch).2;simp only at hd;rw[hd] at this;cases this
   have co:=zR sp u ⟨w,hs⟩ he.vd hK;refine CU f ce hs he hn co ?_;intro a' w' F' L' ρ' g1 g2 g3 g4 g5 g6 g7;have v:(p++q).Nodup/\y∉p++q:=by
    have:=(List.perm_middle.nodup_iff).1 bc;rw[List.nodup_cons] at this;exact⟨this.2,this.1⟩
   have ag:∀i,(b.setIfInBounds y true).getD i true=if i=y then true else b.getD i true:=by
    intro i;simp only[aa4,Array.getElem?_setIfInBounds]
    by_cases hi:y=i
    ·subst hi;rw[fo rfl,fo rfl];simp[av,f]
    ·rw[fL hi,fL (fun h=>hi h.symm)]
   refine ih (p++q) (sp++sq) _ F' L' ρ' a' w' cm (by simp[av]) v.1 (fun i=>?_) (by simp at ae ⊢;omega) ?_ ?_ g1 g2 g3 g7 ?_
   ·rw[ag];have h0:=c i;constructor
    ·intro hi;have s:i≠y:=fun e=>v.2 (e▸hi);rw[fL s];refine h0.1 ?_;rcases aaU.1 hi with h | h
     ·exact aaU.2 (.inl h)
     ·exact aaU.2 (.inr (abf _ h))
    ·rintro⟨cb,an⟩;split at an
     ·cases an
     ·rename_i s;have:=h0.2 ⟨cb,an⟩;rcases aaU.1 this with h | h
      ·exact aaU.2 (.inl h)
      ·rcases aaT.1 h with h | h
       ·exact o5 h s
       ·exact aaU.2 (.inr h)
   ·rw[List.zip_append ad.symm];exact bt
   ·intro i hi hd z t;rw[ag] at hd ⊢;split
    ·rfl
    ·split at hd
     ·rename_i h;subst h;exact ac z t
     ·exact d i hi hd z t
   ·rintro cc cf ⟨F'',L'',bk,k1,k2,k3,k4,k5,k6,k7⟩;refine hQ cc cf ⟨F'',L'',bk,k1,k2,k3,k4.trans g4,g5.trans k5,fun j hj=>?_,k7⟩;rw[k6 j hj,g6 j];intro e;apply hj;have:∀(is:List Nat),y∈is->j∈dstsOf ops is:=by
     intro is
     induction is with
     | nil=>intro h;cases h
     | cons x is bb =>
      intro h;simp only[dstsOf];rcases aaT.1 h with rfl | h
      ·rw[e];simp
      ·split
       ·exact abf _ (bb h)
       ·exact bb h
    exact this _ (List.mem_range.2 f)
theorem wT {A:cT}{r:Nat}{is:List Nat}{q:List (List Nat)}{ss:List ai}{F:au}{L:Loc}{ρ:Env}{a:Act}{w:World}(u:ef P A ops is=some ss) (f:Er P ops is q ss=true)
  (s:St F L w) (he:aA L ρ a) (k:a.tmps.size=A.n) (t:aQ P ss F L ρ K) (hQ:∀a' w',dY A.n F L w a (dstsOf ops (List.range ops.size)) K a' w'->Q .normal a' w') :
  (Code.region r ops true).wp P Q a w:=by
 simp only[Er,xo] at f;obtain⟨⟨⟨⟨⟨⟨h1,o⟩,d⟩,j⟩,p⟩,h7⟩,x⟩:=f;have d:=cP d;have j:=aaO j;have c:∀i∈is,i<ops.size:=fun i hi=>by
  have h:Nat.blt i ops.size=true:=aaY.1 p i hi;simpa using h
 refine wp_region_any h1 ?_;show wpAny P .any ops Q ops.size (Array.replicate ops.size false) a w.drew;refine Hg o ops.size is ss _ F L ρ a w.drew u (by simp) d (fun i=>?_) (by omega) x ?_ s.drew he k t ?_
 ·constructor
  ·intro hi;refine⟨c i hi,?_⟩;simp[aa4,c i hi]
  ·rintro⟨hi,_⟩;exact cN.1 (aaY.1 h7 i (List.mem_range.2 hi))
 ·intro i hi e;simp[aa4,hi] at e
 ·rintro a' w' ⟨F',L',ρ',v,g2,z,l,b,y,m⟩;refine hQ a' w' ⟨F',L',ρ',v,g2,z,l,?_,y,m⟩;exact⟨b.le,b.os,b.tape,b.output,b.size,b.same,b.frz,b.own⟩
end
def ku (L L':Loc):Prop:=∀k g t cs,L.get k=some (.box g t cs)->∃cs',L'.get k=some (.box g t cs')
def wU (ks:List Nat) (L L':Loc):Prop:=∀k g t cs,L.get k=some (.box g t cs)->∃cs',L'.get k=some (.box g t cs')/\(k∉ks->cs'=cs)
structure fJ (P:Program) (PX:au->Loc->Value->Prop) (f:Nat) (args:List Value) (F:au) (L:Loc) (K:au->Loc->Value->Prop):Prop where
 out:∃(ks ko:List Nat) (Lin:List Own) (R:au->List Own->Value->Prop) (Pp:au->List Own->Value->Prop),L.sub ks=some Lin/\ks.Nodup/\ko.Nodup/\(∀k,k∈ko->k∈ks\/L.get k=none)/\vW P f args.toArray F Lin R Pp /\
  (∀v F' Lo,F.le F'->ks.length=Lo.length->wU ks L ((L.aae ks).puts ks Lo)->Pp F' Lo v->PX F' ((L.aae ks).puts ks Lo) v) /\
  ∀v F' Lo,F.le F'->R F' Lo v->ko.length=Lo.length /\
   (∀k g t cs,k∈ks->L.get k=some (.box g t cs)->∃cs',Loc.get ((L.aae ks).puts ko Lo) k=some (.box g t cs')) /\
   K F' ((L.aae ks).puts ko Lo) v
section
variable {P:Program}{F:au}{L:Loc}{ρ:Env}{a:Act}{w:World}{K:dm}{o:Oper}{Q:Exit->Act->World->Prop}
theorem fJ.imp {PX:au->Loc->Value->Prop}{f:Nat}{args:List Value}{K K':au->Loc->Value->Prop}(h:fJ P PX f args F L K) (q:∀F' L' v,K F' L' v->K' F' L' v):fJ P PX f args F L K':=by
 obtain⟨ks,ko,l,R,Pp,h1,d,k,n,e,p,r⟩:=h;exact⟨ks,ko,l,R,Pp,h1,d,k,n,e,p,fun v F' Lo m j=>let⟨a,b,c⟩:=r v F' Lo m j;⟨a,b,q _ _ _ c⟩⟩
theorem CV {PX:au->Loc->Value->Prop}{f:Nat}{args:List Value}(hs:St F L w) (he:aA L ρ a) (hd:∀k,o.dst=some k->k<a.tmps.size)
  (hrun:(∃fn,P.funcs[f]?=some fn/\fn.body.isSome=true/\(fn.name == "runtime.NumGoroutine")=false)->(execOp a.eval o).run P w=.ok (.enter f args.toArray) w)
  (hK:fJ P PX f args F L fun F' L' v=>K F' L' (put o.dst (.v v) ρ))
  (hQ:∀v ch w' F' L',rD v ch->St F' L' w'->Step F L w F' L' w'->PX F' L' v->Q (.panic ch) a w'):o.wp P a w (br F L w a K) Q:=by
 obtain⟨ks,ko,l,R,Pp,hsub,hn,hno,hko,hc,hPX,hK⟩:=hK;unfold Oper.wp;rw[hrun hc.ent];rw[Oper.upon_enter];refine(hc.run w (hs.handed hsub hn)).mono ?_;rintro e w' (⟨v,F',lo,rfl,hs',hst,hR⟩ | ⟨v,ch,F',lo,rfl,hch,hs',hst,hlo,hbx,hp⟩)
 ·obtain⟨hlen,hbox,hK⟩:=hK v F' lo hst.le hR;obtain⟨h1,h2⟩:=fS hs hsub hn hno hko hs' hst hlen;refine⟨F',_,_,h1,he.put hd (x:=.v v) rfl cq eI ?_,jv _ _ _,gq _ _ _,h2,hK⟩;intro k g ty cs e
  by_cases hk:k∈ks
  ·exact hbox k g ty cs hk e
  ·rcases cQ ko lo (L.aae ks) k hno hlen with⟨h1,h2⟩ | ⟨i,h1,h2,h3⟩
   ·rw[h1,eL,fL hk];exact⟨cs,e⟩
   ·rcases hko k (aaX h1) with h | h
    ·exact o5 h hk
    ·rw[h] at e;cases e
 ·obtain⟨hl,hg⟩:=cu hsub;have hlen:ks.length=lo.length:=by rw[hlo,hl]
  obtain⟨h1,h2⟩:=fS hs hsub hn hn (fun k hk=>.inl hk) hs' hst hlen;refine hQ v ch w' F' _ hch h1 h2 (hPX v _ _ hst.le hlen ?_ hp);intro k g t cs e;rcases cQ ks lo (L.aae ks) k hn hlen with⟨q1,q2⟩ | ⟨i,q1,q2,q3⟩
  ·rw[q1,eL,fL q2];exact⟨cs,e,fun _=>rfl⟩
  ·rw[q2];have:=hg i k q1;rw[e] at this;obtain⟨cs',h⟩:=hbx i g t cs this.symm;exact⟨cs',h,fun h=>o5 (aaX q1) h⟩
end
section
variable {P:Program}
theorem ny {y:Operand}{s:dO}(h:zC y=some s):∃g,s=.gload g:=by
 cases y with
 | global g =>
  simp only[zC] at h;split at h
  ·injection h with h;exact⟨_,h.symm⟩
  ·cases h
 | tmp n=>cases h
 | const v=>cases h
 | func f=>cases h
theorem Jp {own:Bool}{op:Op}{f:Nat}{args:List X}(b:gU P own op=some (.call f args)):∃c,op=.call c/\c.callee=.value (.func f)/\gh c.args.toList=some args:=by
 cases op
 case call c =>
  simp only[gU] at b;split at b
  case h_1=>cases b
  rename_i e d;split at b
  ·rename_i l j;split at b
   case h_2=>cases b
   split at b
   case h_2=>cases b
   injection b with b
   injection b with e1 e2
   subst e1 e2;exact⟨c,rfl,j,d⟩
  all_goals (exfalso;revert b;repeat' split)<;>simp
 all_goals (exfalso;revert b;simp only[gU];repeat' split)<;>first | contradiction | (intro h;obtain⟨k,h⟩:=ny h;cases h;done) | (simp;done) | (rename_i h0;obtain⟨k,rfl⟩:=ny h0;simp)
theorem Hh {own:Bool}{op:Op}{x:X}{args:List X}(b:gU P own op=some (.callV x args)):∃c,op=.call c/\gh c.args.toList=some args/\((∃y,c.callee=.value y/\bE y=some x)\/∃n j,x=.mt j n):=by
 cases op
 case call c =>
  simp only[gU] at b;split at b
  case h_1=>cases b
  rename_i e d;split at b
  ·exfalso;revert b;(repeat' split)<;>simp
  ·rename_i y _ f;split at b
   case h_2=>cases b
   rename_i h1;injection b with b
   injection b with e1 e2
   subst e1 e2;exact⟨c,rfl,d,.inl ⟨y,f,h1⟩⟩
  ·rename_i n j f;injection b with b
   injection b with e1 e2
   subst e1 e2;exact⟨c,rfl,d,.inr ⟨_,_,rfl⟩⟩
  all_goals (exfalso;revert b;repeat' split)<;>simp
 all_goals (exfalso;revert b;simp only[gU];repeat' split)<;>first | contradiction | (intro h;obtain⟨k,h⟩:=ny h;cases h;done) | (simp;done) | (rename_i h0;obtain⟨k,rfl⟩:=ny h0;simp)
theorem Mg {own:Bool}{op:Op}{x:X}(b:gU P own op=some (.pan x)):∃y,op=.panic y/\bE y=some x:=by
 cases op
 case panic y =>
  simp only[gU] at b;split at b
  case h_2=>cases b
  rename_i h1;injection b with b
  injection b with e1
  subst e1;exact⟨y,rfl,h1⟩
 all_goals (exfalso;revert b;simp only[gU];repeat' split)<;>first | contradiction | (intro h;obtain⟨k,h⟩:=ny h;cases h;done) | (simp;done) | (rename_i h0;obtain⟨k,rfl⟩:=ny h0;simp)
end
section
variable {P:Program}{F:au}{L:Loc}{ρ:Env}{a:Act}{w:World}{K:dm}{o:Oper}{Q:Exit->Act->World->Prop}
theorem vq {PX:au->Loc->Value->Prop}{own:Bool}{f:Nat}{args:List X}(p:St F L w) (h:aA L ρ a) (l:∀k,o.dst=some k->k<a.tmps.size) (r:gU P own o.op=some (.call f args))
  (q:fJ P PX f (aZ L ρ args) F L fun F' L' v=>K F' L' (put o.dst (.v v) ρ))
  (t:∀v j w' F' L',rD v j->St F' L' w'->Step F L w F' L' w'->PX F' L' v->Q (.panic j) a w'):o.wp P a w (br F L w a K) Q:=by
 refine CV p h l (fun d=>?_) q t;obtain⟨c,s,n,m⟩:=Jp r;have e:=gk m h;have b:c.args.map a.eval=(aZ L ρ args).toArray:=by apply Array.ext';simpa using e
 simp[execOp,s,resolve,n,Deferred.ofValue,Act.eval,invoke,b,iy d]
theorem sS {PX:au->Loc->Value->Prop}{own:Bool}{f:Nat}{x:X}{j h:Array Value}{args:List X}(z:St F L w) (m:aA L ρ a) (r:∀k,o.dst=some k->k<a.tmps.size) (hl:gU P own o.op=some (.callV x args)) (p:ev ρ x=.v (.func (.func f) j h))
  (hK:fJ P PX f (j.toList++aZ L ρ args++h.toList) F L fun F' L' v=>K F' L' (put o.dst (.v v) ρ))
  (hQ:∀v q w' F' L',rD v q->St F' L' w'->Step F L w F' L' w'->PX F' L' v->Q (.panic q) a w'):o.wp P a w (br F L w a K) Q:=by
 refine CV z m r (fun e=>?_) hK hQ;obtain⟨c,ho,s,⟨y,t,hy⟩ | ⟨n,nm,rfl⟩⟩:=Hh hl
 rotate_left
 ·exfalso
  revert p
  simp only[ev];cases ρ n<;>simp[R5,undef]
 have u:=aD hy m;have l:=gk s m;have b:c.args.map a.eval=(aZ L ρ args).toArray:=by apply Array.ext';simpa using l
 have d:j++((aZ L ρ args).toArray++h)=(j.toList++(aZ L ρ args++h.toList)).toArray:=by apply Array.ext';simp
 simp[execOp,ho,resolve,t,Deferred.ofValue,u,cL p,invoke,b];rw[iy e,d]
theorem Hj {PX:au->Loc->Value->Prop}{own:Bool}{x:X}(e:St F L w) (l:aA L ρ a) (j:gU P own o.op=some (.pan x)) {t:TypeId}{u:Value}(m:val L ρ x=.iface t u) (h:PX F L (.iface t u))
  (n:∀v c w' F' L',rD v c->St F' L' w'->Step F L w F' L' w'->PX F' L' v->Q (.panic c) a w'):o.wp P a w (br F L w a K) Q:=by
 obtain⟨y,k,f⟩:=Mg j;have d:=aD f l;unfold Oper.wp;have b:(execOp a.eval o).run P w=.halt (.panic (.iface t u)) w:=by
  simp[execOp,k,d,m,Instr.panic,goPanic]
 rw[b];exact n _ _ w F L (rD.one _) e (Step.refl _ _ _) h
end
structure kF (P:Program) (PX:au->Loc->Value->Prop) (fb:List Nat) (f:Nat) (args:List Value) (F:au) (L:Loc) (K:au->Loc->Value->Prop):Prop where
 out:∃(ks:List Nat) (Lin:List Own) (R:au->List Own->Value->Prop) (Pp:au->List Own->Value->Prop),L.sub ks=some Lin/\ks.Nodup/\(∀k∈ks,k∉fb)/\vW P f args.toArray F Lin R Pp /\
  (∀v F' L' Lo,F.le F'->L'.sub ks=some Lo->wU ks L L'->Pp F' Lo v->PX F' L' v) /\
  ∀v F' Lo,F.le F'->R F' Lo v->ks.length=Lo.length/\(∀(i:Nat) g t cs,Lin[i]?=some (.box g t cs)->∃cs',Lo[i]?=some (.box g t cs')) /\
   (Real F' (L.puts ks Lo)->K F' (L.puts ks Lo) v)
def rN (P:Program) (L:Loc) (ρ:Env):dO->Option (Nat×List Value)
 | .call f args=>some (f,aZ L ρ args)
 | .callV f args=>match ev ρ f with
  | .v (.func (.func f) b a)=>some (f,b.toList++aZ L ρ args++a.toList)
  | _=>none
 | _=>none
def Bm:dO->List Nat
 | .call _ args=>cj args
 | .callV f args=>cj (f::args)
 | _=>[]
def Es:dO->Bool
 | .call _ _=>true
 | .callV _ _=>true
 | _=>false
def aX (P:Program) (PX:au->Loc->Value->Prop) (fb:List Nat):List ai->au->Loc->Env->dm->Prop
 | [],F,L,ρ,K=>K F L ρ
 | .op d o g::a,F,L,ρ,K=>∃o',res g ρ o=some o'/\evalOp P o' d F L ρ fun F' L' ρ'=>aX P PX fb a F' L' ρ' K
 | .frz _::_,_,_,_,_=>False
 | .pc d o g::a,F,L,ρ,K=>match rN P L ρ o,g with
  | some (f,b),none=>kF P PX fb f b F L fun F' L' v=>aX P PX fb a F' L' (put d (.v v) ρ) K
  | _,_=>False
def Jq:dO->Bool
 | .loadF _ _ _=>true
 | .gload _=>true
 | _=>false
def Pb:dO->Bool
 | .mkfn _ _ _=>true
 | _=>false
def RY (o:dO):Bool:=CP o||Jq o||Pb o
def R9 (fb:List Nat):dO->Bool
 | .loadK key _ _ _=>fe fb key
 | _=>false
theorem lR {fb:List Nat}{o:dO}(h:(RY o||R9 fb o)=true):cO o=true:=by cases o<;>first | rfl | (exact o5 h (by decide)) | (simp[RY,R9,CP,Jq,Pb] at h)
def wV:ai->Option Nat
 | .op d (.allocD _ _) none=>d
 | _=>none
def ze:ai->Option Nat
 | .op d _ _=>d
 | .frz _=>none
 | .pc d _ _=>d
def iW (fb:List Nat):ai->ai->Bool
 | .op a x c,.op b y d=>lQ (.op a x c) (.op b y d)
 | .op a x c,.pc b y none=>Es y&&(RY x||R9 fb x)&&rM a (Bm y)&&rM b (looks x c)&&CT a b
 | .pc a x none,.op (some k) (.allocD _ _) none=>Es x&&rM (some k) (Bm x)&&CT a (some k)
 | _,_=>false
def Sb:ai->Bool
 | .op _ o _=>okD o
 | .pc _ o none=>Es o
 | _=>false
section
variable {P:Program}{PX:au->Loc->Value->Prop}{fb:List Nat}{F F':au}{L L':Loc}{ρ:Env}{K K':dm}
theorem Hl {sv:SV}(hb:ku L L') (c:∀k off,sv=.own k off->∃g t cs,L.get k=some (.box g t cs)):conc L' sv=conc L sv:=by
 cases sv with
 | v x=>rfl
 | el a j=>rfl
 | own k off =>
  obtain⟨g,t,cs,e⟩:=c k off rfl;obtain⟨cs',b⟩:=hb k g t cs e;simp only[conc,e,b]
theorem Jr (hb:ku L L') (a:Vd L ρ) (x:X):val L' ρ x=val L ρ x:=Hl hb fun k off e=>a.ev e
theorem rO (hb:ku L L') (a:Vd L ρ) (xs:List X):aZ L' ρ xs=aZ L ρ xs:=cV fun x _=>Jr hb a x
theorem wW {d:Option Nat}{v:SV}{xs:List X}(h:∀k,d=some k->k∉cj xs):aZ L (put d v ρ) xs=aZ L ρ xs:=cV fun x a=>by simp only[val,fA h x a]
theorem Mi {o:dO}(h:(RY o||R9 fb o)=true) (c:∀j∈fb,L'.get j=L.get j) (d:F.le F') (hb:ku L L') (f:Vd L ρ) {V:SV->Prop}(a:aJ o F L ρ V):aJ o F' L' ρ V:=by
 simp only[RY,abn] at h;rcases h with((h | h) | h) | h
 rotate_right
 ·cases o<;>first | (cases h;done) | skip
  rename_i key q n x;have p:=c key (cN.1 h);simp only[aJ] at a ⊢;split at a
  ·rename_i k off e;split at a
   ·rename_i b;have b:=aaO b;subst b;rw[p];exact a
   ·exact a.elim
  ·exact a.elim
 ·exact zN h a
 ·cases o<;>first | (cases h;done) | skip
  ·simp only[aJ] at a ⊢;obtain⟨u,t,l,h1,m⟩:=a;exact⟨u,t,l,d _ _ h1,m⟩
  ·simp only[aJ] at a ⊢;split at a
   ·exact a.up d
   ·exact a.up d
   ·exact a.elim
 ·cases o<;>first | (cases h;done) | skip
  simp only[aJ,rO hb f] at a ⊢;exact a
theorem ku.vd (hb:ku L L') (a:Vd L ρ):Vd L' ρ:=fun t k off e=>let⟨g,ty,cs,h⟩:=a t k off e;let⟨cs',h'⟩:=hb k g ty cs h;⟨g,ty,cs',h'⟩
theorem Vd.aaK (a:Vd L ρ) (d:Option Nat) (v:Value):Vd L (put d (.v v) ρ):=by
 intro t k off e;rw[put_eq] at e;cases d with
 | none=>exact a t k off e
 | some j =>
  simp only[] at e;split at e
  ·cases e
  ·exact a t k off e
theorem uy {ks:List Nat}{Lin Lo:List Own}(d:L.sub ks=some Lin) (h:ks.Nodup) (b:ks.length=Lo.length) (f:∀(i:Nat) g t cs,Lin[i]?=some (.box g t cs)->∃cs',Lo[i]?=some (.box g t cs')) :
  ku L (L.puts ks Lo)/\(∀j,L.get j=none->(L.puts ks Lo).get j=none)/\∀j,j∉ks->(L.puts ks Lo).get j=L.get j:=by
 obtain⟨p,l⟩:=cu d;refine⟨fun k g t cs e=>?_,fun j e=>?_,fun j n=>?_⟩
 ·rcases cQ ks Lo L k h b with⟨a,c⟩ | ⟨i,a,c,m⟩
  ·rw[a];exact⟨cs,e⟩
  ·rw[c];have:=l i k a;rw[e] at this;exact f i g t cs this.symm
 ·rcases cQ ks Lo L j h b with⟨a,c⟩ | ⟨i,a,c,m⟩
  ·rw[a];exact e
  ·have:=l i j a;rw[e] at this;have o:=abx.1 this.symm;omega
 ·rcases cQ ks Lo L j h b with⟨a,c⟩ | ⟨i,a,c,m⟩
  ·exact a
  ·exact o5 (aaX a) n
theorem kF.imp {f:Nat}{args:List Value}{K K':au->Loc->Value->Prop}(h:kF P PX fb f args F L K)
  (t:∀F' L' v,F.le F'->ku L L'->(∀j,L.get j=none->L'.get j=none)->(∀j∈fb,L'.get j=L.get j)->Real F' L'->K F' L' v->K' F' L' v):kF P PX fb f args F L K':=by
 obtain⟨ks,l,R,Pp,h1,d,h0,r,s,p⟩:=h;refine⟨ks,l,R,Pp,h1,d,h0,r,s,fun v F' Lo e q=>?_⟩;obtain⟨a,b,c⟩:=p v F' Lo e q;obtain⟨k1,n,m⟩:=uy h1 d a b;exact⟨a,b,fun k=>t _ _ _ e k1 n (fun j o=>m j fun h=>h0 j h o) k (c k)⟩
theorem iP {d:Option Nat}{o:dO}{g:Option (Nat×Bool)}{a:List ai} :
  aX P PX fb (.op d o g::a) F L ρ K↔∃o',res g ρ o=some o'/\evalOp P o' d F L ρ (fun F1 L1 b=>aX P PX fb a F1 L1 b K):=Iff.rfl
theorem rq:∀(ks:List Nat) (Lo:List Own) (L:Loc) {k:Nat}{o:Own},k∉ks->(L.set k o).puts ks Lo=(L.puts ks Lo).set k o
 | [],Lo,L,k,o,_=>by cases Lo<;>rfl
 | j::ks,[],L,k,o,_=>rfl
 | j::ks,p::Lo,L,k,o,h=>by
  simp only[Loc.puts];rw[set_comm L o p (fun e=>h (by simp[e])),rq ks Lo (L.set j p) (fun a=>h (by simp[a]))]
theorem FC:∀{ks:List Nat}{L:Loc}{k:Nat}{o:Own},k∉ks->(L.set k o).sub ks=L.sub ks
 | [],L,k,o,_=>rfl
 | j::ks,L,k,o,h=>by
  simp only[Loc.sub];rw[bV (fun e=>h (by simp[e])),FC (fun a=>h (by simp[a]))]
theorem Ql {t r:Option Nat}{x y:dO}{gx gy:Option (Nat×Bool)}{b:List ai}(hp:lQ (.op t x gx) (.op r y gy)=true) (hr:Real F L) (s:Vd L ρ) (h:aX P PX fb (.op t x gx::.op r y gy::b) F L ρ K):aX P PX fb (.op r y gy::.op t x gx::b) F L ρ K:=by
  simp only[lQ,xo] at hp;obtain⟨⟨⟨⟨⟨ae,c⟩,hc⟩,h1⟩,h2⟩,h3⟩:=hp;have h1:=jZ h1;have h2:=jZ h2;have h3:=nk h3;have ao:∀k,r=some k->t≠some k:=fun k e e'=>h3 k e' e;rw[iP] at h;obtain⟨w,q,h⟩:=h;have f:okD gY=true:=rfl;have m:okD w=true:=by rcases cW q with rfl | rfl;exact ae;exact f
  have hy:∃n,res gy ρ y=some n:=by
   obtain⟨v,F1,L1,d⟩:=vn m hr h;rw[iP] at d;obtain⟨n,a,_⟩:=d;rw[oh h1] at a;exact⟨n,a⟩
  obtain⟨n,a⟩:=hy;have z:okD n=true:=by rcases cW a with rfl | rfl;exact c;exact f
  have hA:evalOp P w t F L ρ (fun F1 L1 l=>evalOp P n r F1 L1 l (fun F2 L2 o=>aX P PX fb b F2 L2 o K)):=by
   refine jz m hr s h ?_;rintro F1 L1 l ⟨v,rfl⟩ _ _ _ d;rw[iP] at d;obtain⟨an,j,d⟩:=d;rw[oh h1,a] at j;injection j with j
   subst j;exact d
  have lx:∀k,r=some k->k∉cj (bn w):=by
   intro k e d;rcases cW q with rfl | rfl
   ·exact h2 k e (nu d)
   ·simp[gY,bn,cj] at d
  have ly:∀k,t=some k->k∉cj (bn n):=by
   intro k e d;rcases cW a with rfl | rfl
   ·exact h1 k e (nu d)
   ·simp[gY,bn,cj] at d
  have hB:evalOp P n r F L ρ (fun F1 L1 l=>evalOp P w t F1 L1 l (fun F2 L2 o=>aX P PX fb b F2 L2 o K)):=by
   by_cases p:n=gY
   ·subst p;simp only[gY,evalOp,aJ,ev];exact wR (K:=fun F2 L2 o=>aX P PX fb b F2 L2 o K) (u:=.v undef) m lx h3 hA
   ·have ey:n=y:=by rcases cW a with h | h;exact h;exact o5 h p
    subst ey;refine Jl hr ?_ ly lx h3 s hA;rcases cW q with rfl | rfl
    ·exact hc
    ·simp only[okD,abn] at c;rcases c with c | c
     ·simp only[wS,c,ab2,abn];exact .inl (.inl (.inl (.inl (.inl rfl))))
     ·simp only[wS,c,ab2,abn];exact .inl (.inr rfl)
  rw[iP];refine⟨n,a,jz z hr s hB ?_⟩;rintro F1 L1 l ⟨v,rfl⟩ _ _ _ d;rw[iP];exact⟨w,by rw[oh h2];exact q,d⟩
theorem Et {f:X}{args:List X}{k:Nat}(h:k∈cj args):k∈cj (f::args):=by
 cases f<;>simp[cj,h]
theorem CW {d:Option Nat}{v:SV}{o:dO}(h:∀k,d=some k->k∉Bm o):rN P L (put d v ρ) o=rN P L ρ o:=by
 cases o<;>try rfl
 ·rename_i f args;simp only[rN,wW h]
 ·rename_i f args;have h1:∀k,d=some k->k∉cj args:=fun k e b=>h k e (Et b);have a:ev (put d v ρ) f=ev ρ f:=fA h f (by simp);simp only[rN,wW h1,a]
theorem Ho (hb:ku L L') (a:Vd L ρ) (o:dO):rN P L' ρ o=rN P L ρ o:=by
 cases o<;>try rfl
 ·simp only[rN,rO hb a]
 ·simp only[rN,rO hb a]
theorem Qm {o d:Option Nat}{x y:dO}{p:Option (Nat×Bool)}{b:List ai}(hp:iW fb (.op o x p) (.pc d y none)=true) (hr:Real F L) (z:Vd L ρ)
  (h:aX P PX fb (.op o x p::.pc d y none::b) F L ρ K):aX P PX fb (.pc d y none::.op o x p::b) F L ρ K:=by
 simp only[iW,xo] at hp;obtain⟨⟨⟨⟨_,q⟩,h1⟩,l⟩,m⟩:=hp;have h1:=jZ h1;have l:=jZ l;have m:=nk m;have ac:∀k,d=some k->o≠some k:=fun k e e'=>m k e' e;obtain⟨f,c,h⟩:=h;have a:(RY f||R9 fb f)=true:=by rcases cW c with rfl | rfl;exact q;rfl
 rw[bZ (lR a)] at h;obtain⟨v,hT,j⟩:=(eM (lR a)).ex _ h;simp only[aX,CW h1] at j ⊢;split at j
 case h_2=>exact j.elim
 refine j.imp fun F' L' u s w _ r ad n=>⟨f,by rw[oh l];exact c,?_⟩;rw[bZ (lR a)];have lx:∀k,d=some k->k∉cj (bn f):=by
  intro k e n;rcases cW c with rfl | rfl
  ·exact l k e (nu n)
  ·simp[gY,bn,cj] at n
 have t:=qA (lR a) (au.le_refl F') (ur (L:=L') (ρ:=ρ) (v:=.v u) lx) (Mi a r s w z hT);refine(eM (lR a)).mono _ _ (fun v' e=>?_) t;subst e;rw[put_comm m];exact n
theorem Qn {dx:Option Nat}{k:Nat}{t:TypeId}{zs:List Value}{x:dO}{n:List ai}(w:iW fb (.pc dx x none) (.op (some k) (.allocD t zs) none)=true) (p:L.get k=none) (hr:Real F L) (ad:Vd L ρ)
  (h:aX P PX fb (.pc dx x none::.op (some k) (.allocD t zs) none::n) F L ρ K):aX P PX fb (.op (some k) (.allocD t zs) none::.pc dx x none::n) F L ρ K:=by
 simp only[iW,xo] at w;have h1:=jZ w.1.2;have h3:=nk w.2;simp only[aX,res,vz,exists_eq_left',evalOp,p] at h ⊢;intro g am;split at h
 case h_2=>exact h.elim
 rename_i _ _ f vs z _;obtain⟨ks,l,R,Pp,e1,e2,e0,e3,e4,e5⟩:=h;have s:k∉ks:=by
  intro s;obtain⟨hl,hg⟩:=cu e1;obtain⟨i,hi⟩:=List.getElem?_of_mem s;have:=hg i k hi;rw[p] at this;have h5:=(aaR.1 hi).1;have h6:=abx.1 this.symm;omega
 have o:ku L (L.set k (.box g t zs)):=fun j r u cs e=>⟨cs,Keeps.new p j r u cs e⟩;have ea:rN P (L.set k (.box g t zs)) (put (some k) (.own k 0) ρ) x=some (f,vs):=by
  rw[CW h1,Ho o ad,z]
 rw[ea];refine⟨ks,l,R,Pp,by rw[FC s];exact e1,e2,e0,e3,fun v F0 L' Lo hF y hb=>e4 v F0 L' Lo hF y fun j r u cs e=>hb j r u cs (Keeps.new p j r u cs e),fun v F' Lo hF hR=>?_⟩;obtain⟨a,b,c⟩:=e5 v F' Lo hF hR;refine⟨a,b,fun m=>?_⟩;rw[rq ks Lo L s] at m ⊢;obtain⟨k1,k2,_⟩:=uy e1 e2 a b;have q:=k2 k p;have c:=c (m.down (au.le_refl _) m.glob (Jk q));simp only[q] at c;rw[<-put_comm (d:=some k) (fun j e e'=>h3 j e' e)];exact c g m
theorem Hp {x y:ai}{a:List ai}(c:iW fb x y=true) (e:∀k,wV y=some k->L.get k=none) (d:Real F L) (b:Vd L ρ) (h:aX P PX fb (x::y::a) F L ρ K):aX P PX fb (y::x::a) F L ρ K:=by
 unfold iW at c;split at c
 ·exact Ql c d b h
 ·exact Qm c d b h
 ·exact Qn c (e _ rfl) d b h
 ·cases c
theorem CX {y:ai}{k:Nat}(h:wV y=some k):ze y=some k:=by
 unfold wV at h;split at h
 ·exact h
 ·cases h
theorem Js {x y:ai}(a:iW fb x y=true) {k:Nat}(h:wV y=some k):ze x≠some k:=by
 have b:=CX h;unfold iW at a;split at a
 ·simp only[lQ,xo] at a;intro e;exact nk a.2 k e b
 ·simp[wV] at h
 ·simp only[xo] at a;intro e;exact nk a.2 k e b
 ·cases a
theorem zf {x:ai}{c b:List ai}(t:Sb x=true) (y:Real F L) (m:Vd L ρ) (h:aX P PX fb (x::c) F L ρ K)
  (u:∀F1 L1 a,F.le F1->Real F1 L1->Vd L1 a->(∀j,ze x≠some j->L.get j=none->L1.get j=none)->aX P PX fb c F1 L1 a K->aX P PX fb b F1 L1 a K):aX P PX fb (x::b) F L ρ K:=by
 cases x with
 | frz k=>cases t
 | op d o g =>
  obtain⟨o',l,h⟩:=h;have n:okD o'=true:=by rcases cW l with rfl | rfl;exact t;rfl
  exact⟨o',l,mR n y m h fun F1 L1 a _ p r s q w=>u F1 L1 a p r s q w⟩
 | pc d o g =>
  unfold aX at h ⊢;split at h
  ·rename_i f args;refine h.imp fun F' L' v h1 p r _ s q=>u _ _ _ h1 s ((p.vd m).aaK d v) (fun j _ e=>r j e) q
  ·exact h.elim
theorem wX {y:ai}{s:List ai}:∀(p:List ai),(∀x∈p,iW fb x y=true)->(∀x∈p,Sb x=true)->∀{F:au}{L:Loc}{ρ:Env},(∀k,wV y=some k->L.get k=none)->Real F L->Vd L ρ->aX P PX fb (p++y::s) F L ρ K->aX P PX fb (y::(p++s)) F L ρ K
 | [],_,_,F,L,ρ,_,_,_,h=>h
 | x::p,d,n,F,L,ρ,l,m,b,h=>by
  refine Hp (d x (by simp)) l m b ?_;refine zf (n x (by simp)) m b h fun F1 L1 o _ j a f q=>?_;exact wX p (fun z c=>d z (by simp[c])) (fun z c=>n z (by simp[c])) (fun k e=>f k (Js (d x (by simp)) e) (l k e)) j a q
end
section
variable {P:Program}{PX:au->Loc->Value->Prop}{fb:List Nat}{K:dm}{Q:Exit->Act->World->Prop}{ops:Array Oper}
theorem zU {ks:List Nat}(b:ks.Nodup) {i j:Nat}{hi:i<ks.length}{c:j<ks.length}(h:ks[i]=ks[j]):i=j:=by
 rw[List.nodup_iff_pairwise_ne,List.pairwise_iff_getElem] at b;rcases Nat.lt_trichotomy i j with a | d | a
 ·exact o5 h (b i j hi c a)
 ·exact d
 ·exact o5 h.symm (b j i c hi a)
theorem qB {L:Loc}{ks:List Nat}{Lo:List Own}(k:ks.Nodup) (a:ks.length=Lo.length):((L.aae ks).puts ks Lo).sameAs (L.puts ks Lo):=by
 intro j;rcases cQ ks Lo L j k a with⟨b,d⟩ | ⟨i,b,d,o⟩<;>rcases cQ ks Lo (L.aae ks) j k a with⟨c,h⟩ | ⟨m,c,h,n⟩
 ·rw[b,c,eL,fL d]
 ·exact o5 (aaX c) d
 ·exact o5 (aaX b) h
 ·have:i=m:=by
   have h1:=(aaR.1 b);have l:=(aaR.1 c);obtain⟨h1,e⟩:=h1;obtain⟨l,f⟩:=l;exact zU k (e.trans f.symm)
  subst this;rw[d,h]
theorem wY:∀{ks:List Nat}{L:Loc}{Lo:List Own},ks.length=Lo.length->(∀(i:Nat) k,ks[i]?=some k->L.get k=Lo[i]?)->L.sub ks=some Lo
 | [],L,[],_,_=>rfl
 | [],L,_::_,h,_=>by simp at h
 | _::_,L,[],h,_=>by simp at h
 | k::ks,L,o::Lo,h,a=>by
  have h0:=a 0 k rfl;have h1:L.sub ks=some Lo:=wY (by simpa using h) fun i j e=>by
   have:=a (i+1) j (by rw[abk];exact e);rw[abk] at this;exact this
  have h0:L.get k=some o:=h0;simp only[Loc.sub,h0,h1]
theorem Jt {L:Loc}{ks:List Nat}{Lo:List Own}(f:ks.Nodup) (a:ks.length=Lo.length):(L.puts ks Lo).sub ks=some Lo:=by
 refine wY a fun i k e=>?_;rcases cQ ks Lo L k f a with⟨a1,b⟩ | ⟨j,a1,b,l⟩
 ·exact o5 (aaX e) b
 ·have hi:=aaR.1 e;have h:=aaR.1 a1;obtain⟨h1,c⟩:=hi;obtain⟨m,d⟩:=h;have:i=j:=zU f (c.trans d.symm);subst this;rw[b,aaN l]
theorem kF.toX {f:Nat}{args:List Value}{F:au}{L:Loc}{K:au->Loc->Value->Prop}(h:kF P PX fb f args F L K):fJ P PX f args F L fun F' L' v=>∃L2,L'.sameAs L2/\(Real F' L2->K F' L2 v):=by
 obtain⟨ks,l,R,Pp,h1,d,h0,q,r,n⟩:=h;refine⟨ks,ks,l,R,Pp,h1,d,d,fun k s=>.inl s,q,fun v F' Lo m j hb o=>r v F' _ Lo m (Jt d j) hb o,fun v F' Lo m p=>?_⟩;obtain⟨a,b,c⟩:=n v F' Lo m p;obtain⟨k1,u,_⟩:=uy h1 d a b;refine⟨a,fun k g t cs _ e=>?_,_,qB d a,c⟩;rw[<-qB d a];exact k1 k g t cs e
theorem CY {own:Bool}{o:Oper}{s:dO}{f:Nat}{e:List Value}{F:au}{L:Loc}{ρ:Env}{a:Act}{w:World}{K:dm}(d:St F L w) (l:aA L ρ a) (c:∀k,o.dst=some k->k<a.tmps.size) (j:gU P own o.op=some s) (b:rN P L ρ s=some (f,e))
  (h:fJ P PX f e F L fun F' L' v=>K F' L' (put o.dst (.v v) ρ))
  (m:∀v n w' F' L',rD v n->St F' L' w'->Step F L w F' L' w'->PX F' L' v->Q (.panic n) a w'):o.wp P a w (br F L w a K) Q:=by
 cases s with
 | call p args =>
  simp only[rN,vz,Prod.mk.injEq] at b;obtain⟨rfl,rfl⟩:=b;exact vq d l c j h m
 | callV x args =>
  simp only[rN] at b;split at b
  case h_2=>cases b
  rename_i p t r q;simp only[vz,Prod.mk.injEq] at b;obtain⟨rfl,rfl⟩:=b;exact sS d l c j q h m
 | _=>cases b
theorem Hq {A:cT}{i:Nat}{s:ai}{l:List ai}{F:au}{L:Loc}{ρ:Env}{a:Act}{w:World}{KK:Act->World->Prop}(hi:i<ops.size) (c:Bh P A ops i=some s) (hx:Sb s=true) (hs:St F L w) (he:aA L ρ a) (hn:a.tmps.size=A.n)
  (q:aX P PX fb (s::l) F L ρ K)
  (hQ:∀a' w' F' L' ρ',St F' L' w'->aA L' ρ' a'->a'.tmps.size=A.n->a'.defers=a.defers->Step F L w F' L' w'->(∀j,((ops[i]?).bind (·.dst))≠some j->a'.tmps.getD j undef=a.tmps.getD j undef) ->
   (∀j,ze s≠some j->L.get j=none->L'.get j=none)->aX P PX fb l F' L' ρ' K->KK a' w')
  (hP:∀v ch w' F' L',rD v ch->St F' L' w'->Step F L w F' L' w'->PX F' L' v->Q (.panic ch) a w') :
  wpOp P ops Q i KK a w:=by
 cases s with
 | frz k=>cases hx
 | op d o g =>
  obtain⟨o',t,h⟩:=q;have z:okD o'=true:=by rcases cW t with rfl | rfl;exact hx;rfl
  have h2:aQ P [.op d o g] F L ρ (fun F' L' ρ'=>(∀j,d≠some j->L.get j=none->L'.get j=none)/\aX P PX fb l F' L' ρ' K) :=
   fk.2 ⟨o',t,mR z ⟨w,hs⟩ he.vd h fun F1 L1 bp _ _ _ _ h5 h6=>⟨h5,h6⟩⟩
  exact CU hi c hs he hn h2 fun a' w' F' L' ρ' g1 g2 g3 g4 g5 u y=>hQ a' w' F' L' ρ' g1 g2 g3 g4 g5 u y.1 y.2
 | pc d o g =>
  unfold aX at q;split at q
  case h_2=>exact q.elim
  rename_i f vs aw;unfold Bh at c;split at c
  case h_1=>cases c
  rename_i o r;split at c
  case h_2=>cases c
  rename_i g s0 x ar m;rename_i o0 _ _ _ _ _ _;have ag:o.dst=d/\s0=o0/\g=none:=by
   split at c
   ·split at c
    ·injection c with c
     injection c with q1 q2 q3
     exact⟨q1,q2,rfl⟩
    ·injection c with c
     injection c with q1 q2 q3
     exact⟨q1,q2,rfl⟩
    ·cases c
   ·split at c
    ·split at c
     ·cases c
     ·cases c
    ·split at c
     ·split at c<;>cases c
     ·cases c
  obtain⟨rfl,rfl,rfl⟩:=ag;have hd:∀k,o.dst=some k->k<a.tmps.size:=by
   intro k hk;rw[hk] at m;rw[hn];have h2:Nat.blt k A.n=true:=m;simpa using h2
  have ac:(ops[i]?).bind (·.dst)=o.dst:=by rw[r];rfl
  rw[ac] at hQ;simp only[wpOp,r];have ad:o.guard=none:=by
   cases e:o.guard with
   | none=>rfl
   | some p=>obtain⟨j,b⟩:=p;rw[e] at x;simp only[gW] at x;split at x<;>cases x
  rw[fo (by simp[Region.wanted,ad])];refine .inl ?_;have bb:=q.imp (K':=fun F' L' v=>(∀j,L.get j=none->L'.get j=none)/\aX P PX fb l F' L' (put o.dst (.v v) ρ) K) fun F' L' v _ _ h3 _ _ h5=>⟨h3,h5⟩;have:=CY (K:=fun F' L' ρ'=>∃L2,L'.sameAs L2/\(Real F' L2->(∀j,L.get j=none->L2.get j=none)/\aX P PX fb l F' L2 ρ' K)) hs he hd ar aw bb.toX hP;refine Oper.wp_mono ?_ (pK (asg:=[]) this);rintro a' w' ⟨⟨F',L',ρ',g1,g2,g3,g4,g5,L2,u,y⟩,ab⟩;have s1:St F' L2 w':=g1.part fun k o e=>by rw[<-u k];exact e
  obtain⟨g8,g9⟩:=y ⟨w',s1⟩;exact hQ a' w' F' L2 ρ' s1 (g2.same u) (by rw[g3,hn]) g4 (g5.aaG u) ab (fun j _ e=>g8 j e) g9
def lS (fb:List Nat) (a:List (List Nat)):List (Nat×ai)->Bool
 | []=>true
 | (x,b)::l=>l.all (fun p=>iW fb b p.2||fe (Bj a p.1) x)&&lS fb a l
def Eu (ss:List ai):List Nat:=ss.filterMap ze
def Mj (ss:List ai):List Nat:=ss.filterMap fun s=>match s with | .op _ (.loadK key _ _ _) _=>some key | _=>none
def Bn (P:Program) (ops:Array Oper) (is:List Nat) (a:List (List Nat)) (ss:List ai):Bool :=
 P.follows .mixedOrders&&Jo ops a&&aP is&&Nat.beq is.length ops.size&&is.all (fun i=>Nat.blt i ops.size)&&(List.range ops.size).all (fe is)&&lS (Mj ss) a (is.zip ss)&&ss.all Sb&&aP (Eu ss)
theorem sU {d:List (List Nat)}:∀{p q:List (Nat×ai)}{y:Nat×ai},lS fb d (p++y::q)=true->lS fb d (p++q)=true/\∀x∈p,iW fb x.2 y.2=true\/x.1∈Bj d y.1
 | [],q,y,h=>by
  obtain⟨y1,y2⟩:=y;simp only[abp,lS,xo] at h ⊢;exact⟨h.2,fun x c=>by cases c⟩
 | (k,l)::p,q,y,h=>by
  simp only[aa2,lS,xo] at h ⊢;obtain⟨h1,e⟩:=h;obtain⟨f,j⟩:=sU e;have a:=aaY.1 h1;refine⟨⟨aaY.2 fun z b=>a z ?_,f⟩,fun x c=>?_⟩
  ·rcases aaU.1 b with b | b
   ·exact aaU.2 (.inl b)
   ·exact aaU.2 (.inr (abf _ b))
  ·rcases aaT.1 c with rfl | c
   ·have:=a y (aaU.2 (.inr (by simp)));simp only[abn] at this;rcases this with h | h
    ·exact .inl h
    ·exact .inr (cN.1 h)
   ·exact j x c
theorem Mk {p q:List ai}{y:ai}(h:(Eu (p++y::q)).Nodup):(Eu (p++q)).Nodup/\∀k,ze y=some k->∀z∈p++q,wV z≠some k:=by
 have e:Eu (p++y::q)=Eu p++((ze y).toList++Eu q):=by
  unfold Eu;rw[List.filterMap_append,List.filterMap_cons];cases ze y<;>rfl
 rw[e] at h;have b:(Eu p++Eu q).Nodup:=by
  refine List.Sublist.nodup ?_ h;exact List.Sublist.append (List.Sublist.refl _) (List.sublist_append_right _ _)
 refine⟨by unfold Eu at b ⊢;rw[List.filterMap_append];exact b,fun k f z a j=>?_⟩;have c:=CX j;rw[f] at h;have d:k∉Eu p++Eu q:=by
  have:(Eu p++k::Eu q).Nodup:=h;have:=(List.perm_middle.nodup_iff).1 this;rw[List.nodup_cons] at this;exact this.1
 apply d;rcases aaU.1 a with a | a
 ·exact aaU.2 (.inl (List.mem_filterMap.2 ⟨z,a,c⟩))
 ·exact aaU.2 (.inr (List.mem_filterMap.2 ⟨z,a,c⟩))
theorem Ju {A:cT}{i:Nat}{s:ai}(a:Bh P A ops i=some s):(ops[i]?).bind (·.dst)=ze s:=by
 unfold Bh at a;split at a
 case h_1=>cases a
 rename_i o b;rw[b];split at a
 case h_2=>cases a
 split at a
 ·split at a
  ·injection a with a;subst a;rfl
  ·injection a with a;subst a;rfl
  ·cases a
 ·split at a
  ·split at a
   ·injection a with a;subst a;rfl
   ·cases a
  ·split at a
   ·split at a
    ·injection a with a;subst a;rfl
    ·cases a
   ·cases a
theorem Ev {A:cT}{cl:List (List Nat)}(bt:Jo ops cl=true):∀(m:Nat) (l:List Nat) (ss:List ai) (b:Array Bool) (F:au) (L:Loc) (ρ:Env) (a:Act) (w:World),
  ef P A ops l=some ss->b.size=ops.size->l.Nodup->(∀i,i∈l↔i<ops.size/\b.getD i true=false)->l.length<=m->lS fb cl (l.zip ss)=true ->
  (∀i,i<ops.size->b.getD i true=true->∀z∈direct ops i,b.getD z true=true) ->
  (∀s∈ss,Sb s=true)->(Eu ss).Nodup->(∀s∈ss,∀k,wV s=some k->L.get k=none) ->
  St F L w->aA L ρ a->a.tmps.size=A.n->aX P PX fb ss F L ρ K ->
  (∀a' w',dY A.n F L w a (dstsOf ops (List.range ops.size)) K a' w'->Q .normal a' w') ->
  (∀v ch a' w' F' L',rD v ch->St F' L' w'->Step F L w F' L' w'->a'.tmps.size=A.n->a'.defers=a.defers->(∀j,j∉dstsOf ops (List.range ops.size)->a'.tmps.getD j undef=a.tmps.getD j undef)->PX F' L' v->Q (.panic ch) a' w')->wpAny P .any ops Q m b a w:=by
 have t:∀y z,y<ops.size->z∈direct ops y->z<y:=by
  intro y z hy r;have h:=aaY.1 bt y (List.mem_range.2 hy);simp only[Bl,xo] at h;have h3:Nat.blt z y=true:=aaY.1 h.1 z r;simpa using h3
 intro m
 induction m with
 | zero =>
  intro l ss b F L ρ a w hl be bs c an hp d ab bo av hs he hn hK hQ hP;have:l=[]:=abE (by omega);subst this;simp only[ef,vz] at hl;subst hl;refine⟨?_,hQ a w ⟨F,L,ρ,hs,he,hn,rfl,Step.refl _ _ _,fun _ _=>rfl,hK⟩⟩;apply List.eq_nil_iff_forall_not_mem.2;intro i hi;rw[mem_ready] at hi;obtain⟨h1,o,h2,_⟩:=hi;have:=(c i).2 ⟨(Array.getElem?_eq_some_iff.1 h2).1,h1⟩;cases this
 | succ m ih =>
  intro l ss b F L ρ a w hl be bs c an hp d ab bo av hs he hn hK hQ hP;refine⟨fun hr=>?_,fun y hy=>?_⟩
  ·have:l=[]:=by
    refine Classical.byContradiction fun aa=>?_;obtain⟨y,h1,h2⟩:=min_mem aa;obtain⟨h3,h4⟩:=(c y).1 h1;have ae:y∈Region.ready .any ops b:=by
     rw[mem_ready];refine⟨h4,ops[y],Array.getElem?_eq_getElem h3,fun e ba aw=>?_⟩;have r:e.on∈direct ops y:=(om (Array.getElem?_eq_getElem h3)).2 ⟨e,ba,aw,rfl⟩;have df:=t y e.on h3 r;rw[sQ (by omega) false true];cases hd:b.getD e.on true with
     | true=>rfl
     | false =>
      have:=h2 e.on ((c e.on).2 ⟨by omega,hd⟩);omega
    rw[hr] at ae;cases ae
   subst this;simp only[ef,vz] at hl;subst hl;exact hQ a w ⟨F,L,ρ,hs,he,hn,rfl,Step.refl _ _ _,fun _ _=>rfl,hK⟩
  ·rw[mem_ready] at hy;obtain⟨h1,o,ho,bc⟩:=hy;have f:=(Array.getElem?_eq_some_iff.1 ho).1;have ar:=(c y).2 ⟨f,h1⟩;obtain⟨p,q,rfl⟩:=List.append_of_mem ar;obtain⟨du,cb⟩:=pM hl;obtain⟨sp,sy,sq,rfl,am,bv,db⟩:=cb p q y rfl;have cf:(p++y::q).zip (sp++sy::sq)=p.zip sp++(y,sy)::q.zip sq:=by
    rw[List.zip_append am.symm];rfl
   rw[cf] at hp;obtain⟨cp,dg⟩:=sU hp;have al:∀z∈direct ops y,b.getD z true=true:=by
    intro z r;have df:=t y z f r;obtain⟨e,ba,aw,rfl⟩:=(om ho).1 r;rw[sQ (by omega) true false];exact bc e ba aw
   have ac:∀sx∈sp,iW fb sx sy=true:=by
    intro sx cz;obtain⟨k,hk⟩:=List.getElem?_of_mem cz;have dE:=(aaR.1 hk).1;have bm:p[k]?=some (p[k]'(by omega)):=aaN (by omega);have hm:(p[k]'(by omega),sx)∈p.zip sp:=aaX (i:=k) (by rw[List.getElem?_zip_eq_some];exact⟨bm,hk⟩);rcases dg _ hm with h | h
    ·exact h
    ·exfalso;have hd:=vo bt (done:=fun z=>b.getD z true=true) d y f al _ h;have cY:p[k]'(by omega)∈p++y::q:=aaU.2 (.inl (aaX bm));have:=((c _).1 cY).2;simp only at hd;rw[hd] at this;cases this
   have de:=wX sp ac (fun z r=>ab z (by simp[r])) (fun k e=>av sy (by simp) k e) ⟨w,hs⟩ he.vd hK;obtain⟨ca,dj⟩:=Mk bo;have dv:(ops[y]?).bind (·.dst)=ze sy:=Ju bv;refine Hq f bv (ab sy (by simp)) hs he hn de ?_ (fun v ch w' F' L' hc h1 h2 h3=>hP v ch a w' F' L' hc h1 h2 hn rfl (fun _ _=>rfl) h3);intro a' w' F' L' ρ' g1 g2 g3 g4 g5 g6 g8 g7;have ad:(p++q).Nodup/\y∉p++q:=by
    have:=(List.perm_middle.nodup_iff).1 bs;rw[List.nodup_cons] at this;exact⟨this.2,this.1⟩
   have ao:∀i,(b.setIfInBounds y true).getD i true=if i=y then true else b.getD i true:=by
    intro i;simp only[aa4,Array.getElem?_setIfInBounds]
    by_cases hi:y=i
    ·subst hi;rw[fo rfl,fo rfl];simp[be,f]
    ·rw[fL hi,fL (fun h=>hi h.symm)]
   refine ih (p++q) (sp++sq) _ F' L' ρ' a' w' db (by simp[be]) ad.1 (fun i=>?_) (by simp at an ⊢;omega) ?_ ?_ (fun z r=>ab z (by rcases aaU.1 r with h | h<;>simp[h])) ca (fun z r k e=>g8 k (fun e2=>dj k e2 z r e) (av z (by rcases aaU.1 r with h | h<;>simp[h]) k e)) g1 g2 g3 g7 ?_ ?_
   ·rw[ao];have h0:=c i;constructor
    ·intro hi;have aa:i≠y:=fun e=>ad.2 (e▸hi);rw[fL aa];refine h0.1 ?_;rcases aaU.1 hi with h | h
     ·exact aaU.2 (.inl h)
     ·exact aaU.2 (.inr (abf _ h))
    ·rintro⟨cM,aE⟩;split at aE
     ·cases aE
     ·rename_i aa;have:=h0.2 ⟨cM,aE⟩;rcases aaU.1 this with h | h
      ·exact aaU.2 (.inl h)
      ·rcases aaT.1 h with h | h
       ·exact o5 h aa
       ·exact aaU.2 (.inr h)
   ·rw[List.zip_append am.symm];exact cp
   ·intro i hi hd z r;rw[ao] at hd ⊢;split
    ·rfl
    ·split at hd
     ·rename_i h;subst h;exact al z r
     ·exact d i hi hd z r
   ·rintro bb bd ⟨F'',L'',ce,k1,k2,k3,k4,k5,k6,k7⟩;refine hQ bb bd ⟨F'',L'',ce,k1,k2,k3,k4.trans g4,g5.trans k5,fun j hj=>?_,k7⟩;rw[k6 j hj,g6 j];intro e;apply hj;have:∀(is:List Nat),y∈is->j∈dstsOf ops is:=by
     intro is
     induction is with
     | nil=>intro h;cases h
     | cons x is u =>
      intro h;simp only[dstsOf];rcases aaT.1 h with rfl | h
      ·rw[e];simp
      ·split
       ·exact abf _ (u h)
       ·exact u h
    exact this _ (List.mem_range.2 f)
   ·intro v ch bb bd F'' L'' kc k1 k2 k3 k4 k5 k6;refine hP v ch bb bd F'' L'' kc k1 (g5.trans k2) k3 (k4.trans g4) (fun j hj=>?_) k6;rw[k5 j hj,g6 j];intro e;apply hj;have:∀(is:List Nat),y∈is->j∈dstsOf ops is:=by
     intro is
     induction is with
     | nil=>intro h;cases h
     | cons x is u =>
      intro h;simp only[dstsOf];rcases aaT.1 h with rfl | h
      ·rw[e];simp
      ·split
       ·exact abf _ (u h)
       ·exact u h
    exact this _ (List.mem_range.2 f)
theorem CZ {A:cT}{r:Nat}{is:List Nat}{cl:List (List Nat)}{ss:List ai}{F:au}{L:Loc}{ρ:Env}{a:Act}{w:World}(hl:ef P A ops is=some ss) (u:Bn P ops is cl ss=true)
  (hs:St F L w) (he:aA L ρ a) (z:a.tmps.size=A.n) (l:∀s∈ss,∀k,wV s=some k->L.get k=none) (hK:aX P PX (Mj ss) ss F L ρ K) (hQ:∀a' w',dY A.n F L w a (dstsOf ops (List.range ops.size)) K a' w'->Q .normal a' w')
  (hP:∀v d a' w' F' L',rD v d->St F' L' w'->Step F L w F' L' w'->a'.tmps.size=A.n->a'.defers=a.defers->(∀j,j∉dstsOf ops (List.range ops.size)->a'.tmps.getD j undef=a.tmps.getD j undef)->PX F' L' v->Q (.panic d) a' w') :
  (Code.region r ops true).wp P Q a w:=by
 simp only[Bn,xo] at u;obtain⟨⟨⟨⟨⟨⟨⟨⟨h1,h2⟩,m⟩,x⟩,h5⟩,h7⟩,h6⟩,y⟩,h9⟩:=u;have m:=cP m;have x:=aaO x;have c:∀i∈is,i<ops.size:=fun i hi=>by
  have h:Nat.blt i ops.size=true:=aaY.1 h5 i hi;simpa using h
 refine wp_region_any h1 ?_;show wpAny P .any ops Q ops.size (Array.replicate ops.size false) a w.drew;refine Ev h2 ops.size is ss _ F L ρ a w.drew hl (by simp) m (fun i=>?_) (by omega) h6 ?_ (aaY.1 y) (cP h9) l hs.drew he z hK ?_ ?_
 ·constructor
  ·intro hi;refine⟨c i hi,?_⟩;simp[aa4,c i hi]
  ·rintro⟨hi,_⟩;exact cN.1 (aaY.1 h7 i (List.mem_range.2 hi))
 ·intro i hi t;simp[aa4,hi] at t
 ·rintro a' w' ⟨F',L',ρ',o,g2,q,e,b,p,f⟩;refine hQ a' w' ⟨F',L',ρ',o,g2,q,e,?_,p,f⟩;exact⟨b.le,b.os,b.tape,b.output,b.size,b.same,b.frz,b.own⟩
 ·intro v d a' w' F' L' gc o b q e p f;exact hP v d a' w' F' L' gc o ⟨b.le,b.os,b.tape,b.output,b.size,b.same,b.frz,b.own⟩ q e p f
end
def dI:Code->List Nat
 | .region _ d _=>dstsOf d (List.range d.size)
 | .seq a b=>dI a++dI b
 | .cond _ a b=>dI a++dI b
 | .block _ c | .loop c | .scope c=>dI c
 | _=>[]
def Ew:List Nat->ax->ax
 | [],x=>x
 | k::l,x=>.seq (.reg (.frz k::l.map .frz)) x
def FD:List ai->Bool
 | []=>true
 | .op _ _ _::l=>FD l
 | _::_=>false
def low (P:Program) (A:cT):Code->Option ax
 | .skip=>some .skip
 | .label _=>some .skip
 | .region r d false=>match pJ P A r d (List.range d.size) with | some ss=>some (.reg ss) | none=>none
 | .region r d true=>match Jg A.ord r,ef P A d (CO A.ord r) with
  | some (is,e),some ss=>match FD ss with
   | true=>match Er P d is e ss with
    | true=>some (Ew (Jf A.frz r 0) (.regD ss))
    | false=>none
   | false=>match Bn P d is e ss with
    | true=>some (.regX ss)
    | false=>none
  | _,_=>none
 | .seq a b=>match low P A a,low P A b with | some x,some y=>some (.seq x y) | _,_=>none
 | .cond c a b=>match bE c,low P A a,low P A b with | some c,some x,some y=>some (.cond c x y) | _,_,_=>none
 | .scope c=>low P A c
 | .block id c=>match low P A c with | some x=>some (.block id x) | none=>none
 | .loop c=>match low P A c with | some x=>some (.loop (dI c) x) | none=>none
 | .exit id=>some (.exit id)
 | .ret=>some .ret
 | _=>none
section
variable {P:Program}{Q:Exit->Act->World->Prop}
def ru (n:Nat) (F:au) (L:Loc) (w:World) (a:Act) (asg:List Nat) (PX:au->Loc->Value->Prop) (v:Value) (a':Act) (w':World):Prop :=
 ∃F' L',St F' L' w'/\Step F L w F' L' w'/\a'.tmps.size=n/\a'.defers=a.defers/\(∀j,j∉asg->a'.tmps.getD j undef=a.tmps.getD j undef)/\PX F' L' v
theorem ru.after {n:Nat}{F F1:au}{L L1:Loc}{w f:World}{a a1:Act}{asg asg1 b:List Nat}{PX PX':au->Loc->Value->Prop}{v:Value}{a':Act}{w':World}(d:Step F L w F1 L1 f) (c:a1.defers=a.defers) (e:∀j,j∉asg1->a1.tmps.getD j undef=a.tmps.getD j undef)
  (h:ru n F1 L1 f a1 b PX v a' w') (h1:∀j,j∈asg1->j∈asg) (o:∀j,j∈b->j∈asg) (t:∀F L,PX F L v->PX' F L v):ru n F L w a asg PX' v a' w':=by
 obtain⟨F',L',p,s,r,m,l,q⟩:=h;exact⟨F',L',p,d.trans s,r,m.trans c,fun j k=>by rw[l j (fun h=>k (o j h)),e j (fun h=>k (h1 j h))],t _ _ q⟩
theorem ru.mono {n:Nat}{F:au}{L:Loc}{w:World}{a:Act}{asg b:List Nat}{PX:au->Loc->Value->Prop}{v:Value}{a':Act}{w':World}(h:ru n F L w a asg PX v a' w') (c:∀j,j∈asg->j∈b):ru n F L w a b PX v a' w':=by
 obtain⟨F',L',k,o,m,e,d,l⟩:=h;exact⟨F',L',k,o,m,e,fun j f=>d j (fun h=>f (c j h)),l⟩
def QQ (n:Nat) (F:au) (L:Loc) (w:World) (a:Act) (asg:List Nat) (PX:au->Loc->Value->Prop) (E:Nat->dm) (R N:dm):Exit->Act->World->Prop
 | .normal,a',w'=>dY n F L w a asg N a' w'
 | .exit j,a',w'=>dY n F L w a asg (E j) a' w'
 | .ret,a',w'=>dY n F L w a asg R a' w'
 | .panic b,a',w'=>∃v,rD v b/\ru n F L w a asg PX v a' w'
 | _,_,_=>False
theorem dY.mono {n:Nat}{F:au}{L:Loc}{w:World}{a:Act}{asg b:List Nat}{K:dm}{a':Act}{w':World}(h:dY n F L w a asg K a' w') (c:∀j,j∈asg->j∈b):dY n F L w a b K a' w':=by
 obtain⟨F',L',ρ',h1,f,l,m,k,o,p⟩:=h;exact⟨F',L',ρ',h1,f,l,m,k,fun j e=>o j (fun d=>e (c j d)),p⟩
theorem dY.after {n:Nat}{F F1:au}{L L1:Loc}{w f:World}{a a1:Act}{asg asg1 b:List Nat}{K:dm}{a':Act}{w':World}(d:Step F L w F1 L1 f) (c:a1.defers=a.defers) (e:∀j,j∉asg1->a1.tmps.getD j undef=a.tmps.getD j undef)
  (h:dY n F1 L1 f a1 b K a' w') (h1:∀j,j∈asg1->j∈asg) (p:∀j,j∈b->j∈asg):dY n F L w a asg K a' w':=by
 obtain⟨F',L',ρ',q,t,s,m,l,r,o⟩:=h;exact⟨F',L',ρ',q,t,s,m.trans c,d.trans l,fun j k=>by rw[r j (fun h=>k (p j h)),e j (fun h=>k (h1 j h))],o⟩
def mF (P:Program):List ResultVar->Option (List RV)
 | []=>some []
 | .tmp t::l=>match mF P l with | some r=>some ((t,none)::r) | none=>none
 | .cell a t::l=>match P.underlying t,P.info? t,mF P l with
  | some d,some i,some r=>some ((a,some (match eK d with | true=>(true,i.size) | false=>(false,1)))::r)
  | _,_,_=>none
def wZ (tmps:Array Value):ResultVar->Sem Value
 | .tmp t=>pure (tmps.getD t undef)
 | .cell a t=>do loadVar t (<-asAddr (tmps.getD a undef))
theorem nA {F:au}{L:Loc}{ρ:Env}{a:Act}{w:World}(hs:St F L w) (y:aA L ρ a):∀{l:List ResultVar}{rs:List RV}{K:List Value->Prop},mF P l=some rs->mW L ρ rs K ->
  ∃u,(l.mapM (wZ a.tmps)).run P w=.ok u w/\K u
 | [],rs,K,h,b=>by simp only[mF,vz] at h;subst h;exact⟨[],by simp,b⟩
 | .tmp t::l,rs,K,h,b=>by
  simp only[mF] at h;split at h
  case h_2=>cases h
  rename_i r hr;injection h with h;subst h
  simp only[mW] at b;obtain⟨u,h1,o⟩:=nA hs y hr b;refine⟨_,?_,o⟩;simp only[List.mapM_cons,wZ,Sem.run_bind,Sem.run_pure,Result.andThen_ok];rw[h1];simp[y.eq t]
 | .cell t ty::l,rs,K,h,b=>by
  simp only[mF] at h;split at h
  case h_2=>cases h
  rename_i d i r hd hi hr;injection h with h;subst h
  generalize c:(match eK d with | true=>(true,i.size) | false=>(false,1):Bool×Nat)=p at b;obtain⟨ag,n⟩:=p;have q:ag=eK d:=by cases e:eK d<;>rw[e] at c<;>injection c with h1 o<;>exact h1.symm
  have hn:n=match eK d with | true=>i.size | false=>1:=by cases e:eK d<;>rw[e] at c<;>injection c with h1 o<;>exact o.symm
  simp only[mW] at b;split at b
  case h_2=>exact b.elim
  rename_i k off ad;split at b
  case h_2=>exact b.elim
  rename_i g ty' cs hk;split at b
  case h_2=>exact b.elim
  rename_i x;have ab:=vX x;have x:=jx (Bd x);obtain⟨u,h1,o⟩:=nA hs y hr b;refine⟨_,?_,o⟩;have s:=hs.own k _ hk;have m:∀j v,((cs.drop off).take n)[j]?=some v->w.cell? ((⟨g,off,none⟩:Addr).add j)=some v:=by
   intro j v z;rw[cU,pH ab s];have hj:j<n:=by
    have:=aaR.1 z;obtain⟨h,_⟩:=this;omega
   rw[List.getElem?_take_of_lt hj,abw] at z;exact z
  have hy:a.tmps.getD t undef=.pointer (some ⟨g,off,none⟩):=by rw[y.eq t];simp only[ad,conc,hk]
  have f:=n9 hd hi m x hn;simp only[Instr.loadAt,Instr.sureAddr,Sem.run_bind,Sem.run_pure,Result.andThen_ok] at f;simp only[List.mapM_cons,wZ,hy,asAddr,Sem.run_bind,Sem.run_pure,Result.andThen_ok,f];rw[h1,q];simp
theorem oq (fn:Func) (tmps:Array Value):results fn tmps=(do let b <-fn.results.mapM (wZ tmps);pure (if h:b.size=1 then b[0] else .tuple b)):=by
 unfold results;have h:(fun(r:ResultVar)=>match r with | .tmp t=>(pure (tmps.getD t undef):Sem Value) | .cell a t=>do loadVar t (<-asAddr (tmps.getD a undef)))=wZ tmps:=by
  funext r
  cases r<;>rfl
 rw[<-h];rfl
theorem w9:∀(a:List SV) (k j:Nat),CC k a j=if k<=j then(a[j-k]?).getD (.v undef) else .v undef
 | [],k,j=>by simp[CC]
 | v::a,k,j=>by
  simp only[CC,put_eq]
  by_cases h:j=k
  ·subst h;simp
  ·rw[fL h,w9 a (k+1) j]
   by_cases h1:k<=j
   ·rw[fo (by omega),fo h1,show j-k=(j-(k+1))+1 by omega,abk]
   ·rw[fL (by omega),fL h1]
def aB (P:Program) (A:cT) (fn:Func):Option (ax×Nat×List RV×Bool) :=
 match fn.body with
 | some c=>match low P A c,mF P fn.results.toList with
  | some sc,some rs=>some (sc,fn.ntmps,rs,fn.name == "runtime.NumGoroutine")
  | _,_=>none
 | none=>none
end
inductive G where
 | int (k:IntKind) (n:Int)
 | bool (b:Bool)
 | str (s:ByteArray)
 | sl (sz:Nat) (l:List G)
 | st (l:List G)
mutual
def Rd (F:au):G->List Value->Prop
 | .int k n,cs=>cs=[.int k n]/\(Lit.int k n).wf=true
 | .bool b,cs=>cs=[.bool b]
 | .str s,cs=>cs=[.string s]
 | .sl sz l,cs=>∃a c,cs=[.slice a l.length c]/\l.length<=c/\c<=maxLen/\(a=none->l=[]/\c=0)/\sV F a sz 0 l
 | .st l,cs=>lT F l cs
def sV (F:au) (a:Option Addr) (sz:Nat):Nat->List G->Prop
 | _,[]=>True
 | i,x::l=>(∃es,es.length=sz/\dG F a (i*sz) es/\Rd F x es)/\sV F a sz (i+1) l
def lT (F:au):List G->List Value->Prop
 | [],cs=>cs=[]
 | x::l,cs=>∃c1 c2,cs=c1++c2/\Rd F x c1/\lT F l c2
end
mutual
theorem Rd.mono {F F':au}(hle:F.le F'):∀{g:G}{cs:List Value},Rd F g cs->Rd F' g cs
 | .int k n,cs,h=>h
 | .bool b,cs,h=>h
 | .str s,cs,h=>h
 | .sl sz l,cs,h=>by
  simp only[Rd] at h ⊢;obtain⟨a,c,h1,h2,h3,h4,h5⟩:=h;exact⟨a,c,h1,h2,h3,h4,sV.mono hle h5⟩
 | .st l,cs,h=>by
  simp only[Rd] at h ⊢;exact lT.mono hle h
theorem sV.mono {F F':au}(hle:F.le F') {a:Option Addr}{sz:Nat}:∀{i:Nat}{l:List G},sV F a sz i l->sV F' a sz i l
 | _,[],h=>by simp only[sV]
 | i,x::l,h=>by
  simp only[sV] at h ⊢;obtain⟨⟨es,h1,h2,h3⟩,h4⟩:=h;exact⟨⟨es,h1,h2.mono hle,Rd.mono hle h3⟩,sV.mono hle h4⟩
theorem lT.mono {F F':au}(hle:F.le F'):∀{l:List G}{cs:List Value},lT F l cs->lT F' l cs
 | [],cs,h=>by simp only[lT] at h ⊢;exact h
 | x::l,cs,h=>by
  simp only[lT] at h ⊢;obtain⟨c1,c2,h1,h2,h3⟩:=h;exact⟨c1,c2,h1,Rd.mono hle h2,lT.mono hle h3⟩
end
theorem xg {F:au}{a:Option Addr}{sz:Nat}:∀{l:List G}{i:Nat},sV F a sz i l↔∀j x,l[j]?=some x->∃es,es.length=sz/\dG F a ((i+j)*sz) es/\Rd F x es
 | [],i=>by simp[sV]
 | x::l,i=>by
  simp only[sV,xg (l:=l)];constructor
  ·rintro⟨h1,c⟩ j y b;cases j with
   | zero=>simp only[aa3,vz] at b;subst b;simpa using h1
   | succ j =>
    simp only[abk] at b;have:=c j y b
    rwa [show i+1+j=i+(j+1) by omega] at this
  ·intro h;refine⟨by simpa using h 0 x (by simp),fun j y b=>?_⟩;have:=h (j+1) y (by simpa using b)
   rwa [show i+(j+1)=i+1+j by omega] at this
structure Sl (F:au) (sz:Nat) (l:List G) (a:Option Addr) (c:Nat):Prop where
 cap:l.length<=c
 max:c<=maxLen
 nil:a=none->l=[]/\c=0
 elems:∀j x,l[j]?=some x->∃es,es.length=sz/\dG F a (j*sz) es/\Rd F x es
theorem Sl.mono {F F':au}{sz:Nat}{l:List G}{a:Option Addr}{c:Nat}(h:Sl F sz l a c) (b:F.le F'):Sl F' sz l a c :=
 ⟨h.cap,h.max,h.nil,fun j x d=>let⟨es,h1,h2,h3⟩:=h.elems j x d;⟨es,h1,h2.mono b,h3.mono b⟩⟩
theorem Pc {F:au}{sz:Nat}{l:List G}{cs:List Value}:Rd F (.sl sz l) cs↔∃a c,cs=[.slice a l.length c]/\Sl F sz l a c:=by
 simp only[Rd];constructor
 ·rintro⟨a,c,h1,b,e,h,f⟩;exact⟨a,c,h1,b,e,h,fun j x d=>by have:=xg.1 f j x d;simpa using this⟩
 ·rintro⟨a,c,h1,b⟩;exact⟨a,c,h1,b.cap,b.max,b.nil,xg.2 fun j x d=>by have:=b.elems j x d;simpa using this⟩
theorem Sl.ne {F:au}{sz:Nat}{l:List G}{a:Option Addr}{c:Nat}(h:Sl F sz l a c) (b:l≠[]):a≠none:=fun e=>b (h.nil e).1
theorem Sl.load {F F':au}{L:Loc}{sz:Nat}{l:List G}{a:Option Addr}{c:Nat}{j:Nat}{x:G}{K:List Value->Prop}(h:Sl F sz l a c) (b:F.le F') (k:l[j]?=some x)
  (d:∀es,es.length=sz->Rd F' x es->K es):jV F' L a (j*sz) sz K:=by
 obtain⟨es,h1,e,f⟩:=h.elems j x k;exact⟨es,h1,.inl (e.mono b),d es h1 (f.mono b)⟩
theorem Sl.loadD {F F':au}{sz:Nat}{l:List G}{a:Option Addr}{c:Nat}{j:Nat}{x:G}{K:List Value->Prop}(h:Sl F sz l a c) (b:F.le F') (k:l[j]?=some x)
  (d:∀es,es.length=sz->Rd F' x es->K es):iV F' a (j*sz) sz K:=by
 obtain⟨es,h1,e,f⟩:=h.elems j x k;exact⟨es,h1,.inl (e.mono b),d es h1 (f.mono b)⟩
theorem aq {b:Bool}{A B:Prop}(h:b=true->A) (k:b=false->B):yX b A B:=by cases b;exact k rfl;exact h rfl
theorem ah {p:Prop}[Decidable p] {A B:Prop}(h:p->A) (k:¬p->B):yX (decide p) A B:=by
 by_cases a:p
 ·simp only[a,decide_true];exact h a
 ·simp only[a,decide_false];exact k a
theorem Fit.aag {n:Int}{K:Int->Prop}(h1:-9223372036854775808<=n) (a:n<=9223372036854775807) (h:K n):Fit .i64 n K:=by
 refine⟨?_⟩;have:IntKind.wrap .i64 n=n:=by
  simp only[IntKind.wrap,IntKind.bits,IntKind.signed,aaS,aaZ,ge_iff_le,Nat.reduceSub,Int.reducePow];split<;>omega
 rw[this];exact h
def Qo (x:Value):au->List Own->Value->Prop:=fun _ Lo v=>Lo=[]/\v=x
theorem Qo.mono {x:Value}:∀F G L v,au.le F G->Qo x F L v->Qo x G L v:=fun _ _ _ _ _ h=>h
theorem wf_i64 {n:Int}(h:(Lit.int .i64 n).wf=true):-9223372036854775808<=n/\n<=9223372036854775807:=by
 simpa[Lit.wf,IntKind.min,IntKind.max,IntKind.bits,IntKind.signed] using h
end Go.Fr
namespace Go.Fr.T
open Go Go.RowKit Go.Fr
inductive C where
 | int (k:IntKind) (n:Int)
 | bool (b:Bool)
 | str (s:ByteArray)
 | sl (els:List (List C))
 | slx (els:List (List C))
 | nils
 | rw(k:Nat)
 | own (k off:Nat)
 | ownv (k off:Nat)
 | pt (es:List C) (off:Nat)
 | elr (k j off:Nat)
 | fn (f:Nat) (fi ca:List C)
 | agg (cs:List C)
 | tup (cs:List C)
 | nilp
 | nilf
 | ifc (t:TypeId) (c:C)
 | opq (k:Nat)
 | mval (nm:String) (c:C)
 | mof (t:TypeId) (nm:String)
 | mpr (k:Nat)
 | und
 | any
 deriving Inhabited
inductive TO where
 | box (t:TypeId) (cs:List C)
 | row (t:TypeId) (sz:Nat) (els:List (List C))
 | map (es:List (C×C))
abbrev TL:=List (Nat×TO)
def TL.get:TL->Nat->Option TO
 | [],_=>none
 | (j,o)::l,k=>match Nat.beq j k with | true=>some o | false=>TL.get l k
def TL.set:TL->Nat->TO->TL
 | [],k,o=>[(k,o)]
 | (j,p)::l,k,o=>match Nat.beq j k with
  | true=>(k,o)::l
  | false=>match Nat.ble j k with
   | true=>(j,p)::TL.set l k o
   | false=>(k,o)::(j,p)::l
def TL.del:TL->Nat->TL
 | [],_=>[]
 | (j,o)::l,k=>match Nat.beq j k with | true=>TL.del l k | false=>(j,o)::TL.del l k
def TL.sub (L:TL):List Nat->Option (List TO)
 | []=>some []
 | k::ks=>match L.get k,TL.sub L ks with
  | some o,some l=>some (o::l)
  | _,_=>none
def TL.aae (L:TL):List Nat->TL
 | []=>L
 | k::ks=>TL.aae (L.del k) ks
def TL.puts (L:TL):List Nat->List TO->TL
 | k::ks,o::l=>TL.puts (L.set k o) ks l
 | _,_=>L
def pO:Nat->List TO->TL
 | _,[]=>[]
 | k,o::l=>(k,o)::pO (k+1) l
def cD (l:List TO):TL:=pO 1000 l
def C.one:C->Bool
 | .int _ _=>true
 | .bool _=>true
 | .str _=>true
 | .sl _=>true
 | .slx _=>true
 | .nils=>true
 | .rw _=>true
 | .own _ _=>true
 | .pt _ _=>true
 | .fn _ _ _=>true
 | .nilp=>true
 | .nilf=>true
 | .ifc _ _=>true
 | .opq _=>true
 | .mval _ _=>true
 | .mof _ _=>true
 | .mpr _=>true
 | _=>false
def eG:List C->Bool
 | []=>true
 | c::l=>match c.one with | true=>eG l | false=>false
def C.aal:C->Bool
 | .int _ _=>true
 | .bool _=>true
 | .str _=>true
 | .sl _=>true
 | .slx _=>true
 | .nils=>true
 | .pt _ _=>true
 | .nilp=>true
 | .nilf=>true
 | .ifc _ _=>true
 | .opq _=>true
 | .mval _ _=>true
 | .mof _ _=>true
 | _=>false
def ja:List C->Bool
 | []=>true
 | c::l=>match c.aal with | true=>ja l | false=>false
def C.pure:C->Bool
 | .fn _ b a=>match ja b with | true=>ja a | false=>false
 | c=>c.aal
def iF:List C->Bool
 | []=>true
 | c::l=>match c.pure with | true=>iF l | false=>false
def C.mp (g:C->C):Nat->C->C
 | _,.int k n=>g (.int k n)
 | _,.bool b=>g (.bool b)
 | _,.str s=>g (.str s)
 | _,.sl els=>g (.sl els)
 | _,.slx els=>g (.slx els)
 | _,.nils=>g .nils
 | _,.rw j=>g (.rw j)
 | _,.own j o=>g (.own j o)
 | _,.ownv j o=>g (.ownv j o)
 | _,.pt es o=>g (.pt es o)
 | _,.elr j a b=>g (.elr j a b)
 | _,.nilp=>g .nilp
 | _,.nilf=>g .nilf
 | _,.ifc t c=>g (.ifc t c)
 | _,.opq k=>g (.opq k)
 | _,.mval d c=>g (.mval d c)
 | _,.mof t d=>g (.mof t d)
 | _,.mpr j=>g (.mpr j)
 | _,.und=>g .und
 | _,.any=>g .any
 | 0,.fn _ _ _=>.any
 | 0,.agg _=>.any
 | 0,.tup _=>.any
 | n+1,.fn f h e=>.fn f (h.map (C.mp g n)) (e.map (C.mp g n))
 | n+1,.agg cs=>.agg (cs.map (C.mp g n))
 | n+1,.tup cs=>.tup (cs.map (C.mp g n))
def fU (k:Nat):C->C
 | .int k n=>.int k n
 | .bool b=>.bool b
 | .str s=>.str s
 | .sl els=>.sl els
 | .slx els=>.slx els
 | .nils=>.nils
 | .rw j=>match Nat.beq j k with | true=>.any | false=>.rw j
 | .own j o=>.own j o
 | .ownv j o=>.ownv j o
 | .pt es o=>.pt es o
 | .elr j a b=>match Nat.beq j k with | true=>.any | false=>.elr j a b
 | .fn f h e=>.fn f h e
 | .agg cs=>.agg cs
 | .tup cs=>.tup cs
 | .nilp=>.nilp
 | .nilf=>.nilf
 | .ifc t c=>.ifc t c
 | .opq k=>.opq k
 | .mval d c=>.mval d c
 | .mof t d=>.mof t d
 | .mpr j=>.mpr j
 | .und=>.und
 | .any=>.any
def C.kill (k:Nat) (c:C):C:=C.mp (fU k) 3 c
def C.kills:List Nat->C->C
 | [],c=>c
 | k::ks,c=>C.kills ks (c.kill k)
def pQ:C->C
 | .int k n=>.int k n
 | .bool b=>.bool b
 | .str s=>.str s
 | .sl els=>.sl els
 | .slx els=>.slx els
 | .nils=>.nils
 | .rw j=>.any
 | .own j o=>.own j o
 | .ownv j o=>.ownv j o
 | .pt es o=>.pt es o
 | .elr j a b=>.any
 | .fn f h e=>.fn f h e
 | .agg cs=>.agg cs
 | .tup cs=>.tup cs
 | .nilp=>.nilp
 | .nilf=>.nilf
 | .ifc t c=>.ifc t c
 | .opq k=>.opq k
 | .mval d c=>.mval d c
 | .mof t d=>.mof t d
 | .mpr j=>.mpr j
 | .und=>.und
 | .any=>.any
def C.aaL (c:C):C:=C.mp pQ 3 c
def mG (k:Nat) (l:List (List C)):C->C
 | .int k n=>.int k n
 | .bool b=>.bool b
 | .str s=>.str s
 | .sl els=>.sl els
 | .slx els=>.slx els
 | .nils=>.nils
 | .rw j=>match Nat.beq j k with | true=>.sl l | false=>.rw j
 | .own j o=>.own j o
 | .ownv j o=>.ownv j o
 | .pt es o=>.pt es o
 | .elr j a b=>match Nat.beq j k with | true=>.any | false=>.elr j a b
 | .fn f h e=>.fn f h e
 | .agg cs=>.agg cs
 | .tup cs=>.tup cs
 | .nilp=>.nilp
 | .nilf=>.nilf
 | .ifc t c=>.ifc t c
 | .opq k=>.opq k
 | .mval d c=>.mval d c
 | .mof t d=>.mof t d
 | .mpr j=>.mpr j
 | .und=>.und
 | .any=>.any
def C.frz (k:Nat) (els:List (List C)) (c:C):C:=C.mp (mG k els) 3 c
def qC (k:Nat) (es:List C):C->C
 | .int k n=>.int k n
 | .bool b=>.bool b
 | .str s=>.str s
 | .sl els=>.sl els
 | .slx els=>.slx els
 | .nils=>.nils
 | .rw j=>.rw j
 | .own j o=>match Nat.beq j k with | true=>.pt es o | false=>.own j o
 | .ownv j o=>match Nat.beq j k with | true=>.pt es o | false=>.ownv j o
 | .pt es o=>.pt es o
 | .elr j a b=>.elr j a b
 | .fn f h e=>.fn f h e
 | .agg cs=>.agg cs
 | .tup cs=>.tup cs
 | .nilp=>.nilp
 | .nilf=>.nilf
 | .ifc t c=>.ifc t c
 | .opq k=>.opq k
 | .mval d c=>.mval d c
 | .mof t d=>.mof t d
 | .mpr j=>match Nat.beq j k with | true=>.any | false=>.mpr j
 | .und=>.und
 | .any=>.any
def C.frb (k:Nat) (es:List C) (c:C):C:=C.mp (qC k es) 3 c
def wg (r:Nat->Option Nat):C->C
 | .int k n=>.int k n
 | .bool b=>.bool b
 | .str s=>.str s
 | .sl els=>.sl els
 | .slx els=>.slx els
 | .nils=>.nils
 | .rw j=>match r j with | some i=>.rw i | none=>.any
 | .own j o=>match r j with | some i=>.own i o | none=>.any
 | .ownv j o=>match r j with | some i=>.own i o | none=>.any
 | .pt es o=>.pt es o
 | .elr j a b=>.any
 | .fn f h e=>.fn f h e
 | .agg cs=>.agg cs
 | .tup cs=>.tup cs
 | .nilp=>.nilp
 | .nilf=>.nilf
 | .ifc t c=>.ifc t c
 | .opq k=>.opq k
 | .mval d c=>.mval d c
 | .mof t d=>.mof t d
 | .mpr j=>match r j with | some i=>.mpr i | none=>.any
 | .und=>.und
 | .any=>.any
def C.ren (f:Nat->Option Nat) (c:C):C:=C.mp (wg f) 3 c
def TO.aad (g:C->C):TO->TO
 | .box t cs=>.box t (cs.map g)
 | .row t sz els=>.row t sz els
 | .map es=>.map es
def TL.aad (g:C->C):TL->TL
 | []=>[]
 | (k,o)::l=>(k,o.aad g)::TL.aad g l
def bh:List Nat->Nat->Nat->Option Nat
 | [],_,_=>none
 | k::ks,i,j=>match Nat.beq j k with | true=>some i | false=>bh ks (i+1) j
def aH (ko:List Nat) (j:Nat):Option Nat:=match Nat.ble 1000 j with | true=>ko[j-1000]? | false=>none
def C.can:C->C
 | .int k n=>.int k n
 | .bool b=>.bool b
 | .str s=>.str s
 | .sl els=>.sl els
 | .slx els=>.sl els
 | .nils=>.sl []
 | .rw j=>.rw j
 | .own j o=>.own j o
 | .ownv j o=>.ownv j o
 | .pt es o=>.pt es o
 | .elr j a b=>.elr j a b
 | .fn f h e=>.fn f h e
 | .agg cs=>.agg cs
 | .tup cs=>.tup cs
 | .nilp=>.nilp
 | .nilf=>.nilf
 | .ifc t c=>.ifc t c
 | .opq k=>.opq k
 | .mval d c=>.mval d c
 | .mof t d=>.mof t d
 | .mpr j=>.mpr j
 | .und=>.und
 | .any=>.any
def C.aaj:C->C
 | .int k n=>.int k n
 | .bool b=>.bool b
 | .str s=>.str s
 | .sl els=>.sl els
 | .slx els=>.sl els
 | .nils=>.sl []
 | .rw j=>.rw j
 | .own j o=>.own j o
 | .ownv j o=>.ownv j o
 | .pt es o=>.pt es o
 | .elr j a b=>.elr j a b
 | .fn f h e=>.fn f h e
 | .agg cs=>.agg (cs.map C.can)
 | .tup cs=>.tup cs
 | .nilp=>.nilp
 | .nilf=>.nilf
 | .ifc t c=>.ifc t c
 | .opq k=>.opq k
 | .mval d c=>.mval d c
 | .mof t d=>.mof t d
 | .mpr j=>.mpr j
 | .und=>.und
 | .any=>.any
def C.aat:C->C
 | .int k n=>.int k n
 | .bool b=>.bool b
 | .str s=>.str s
 | .sl els=>.sl els
 | .slx els=>.sl els
 | .nils=>.sl []
 | .rw j=>.rw j
 | .own j o=>.own j o
 | .ownv j o=>.ownv j o
 | .pt es o=>.pt es o
 | .elr j a b=>.elr j a b
 | .fn f h e=>.fn f h e
 | .agg cs=>.agg (cs.map C.can)
 | .tup cs=>.tup (cs.map C.aaj)
 | .nilp=>.nilp
 | .nilf=>.nilf
 | .ifc t c=>.ifc t c
 | .opq k=>.opq k
 | .mval d c=>.mval d c
 | .mof t d=>.mof t d
 | .mpr j=>.mpr j
 | .und=>.und
 | .any=>.any
abbrev aK:=Nat->C
def bg (d:Option Nat) (c:C) (ρ:aK):aK :=
 match d with
 | some d=>fun j=>match Nat.beq j d with | true=>c | false=>ρ j
 | none=>ρ
def rz:Value->C
 | .int k n=>match(Lit.int k n).wf with | true=>.int k n | false=>.any
 | .bool b=>.bool b
 | .string s=>match Nat.ble s.size maxLen with | true=>.str s | false=>.any
 | .slice none 0 0=>.nils
 | .pointer none=>.nilp
 | .nilFunc=>.nilf
 | .nilIface=>.opq 0
 | .func (.methodOf t a) ⟨[]⟩ ⟨[]⟩=>.mof t a
 | _=>.any
def Xv (a:String) (c:C):C :=
 match c with
 | .ifc t c=>.mval a (.ifc t c)
 | _=>.any
def cv:Value->C
 | .agg cs=>.agg (cs.toList.map rz)
 | v=>rz v
def cS (ρ:aK):X->C
 | .t n=>ρ n
 | .c v=>cv v
 | .fn f=>.fn f [] []
 | .mt a n=>Xv a (ρ n)
def C.cel:C->C
 | .int k n=>.int k n
 | .bool b=>.bool b
 | .str s=>.str s
 | .sl els=>.sl els
 | .slx els=>.slx els
 | .nils=>.nils
 | .rw j=>.rw j
 | .own j o=>.own j o
 | .ownv j o=>.own j o
 | .pt es o=>.pt es o
 | .elr j a b=>.any
 | .fn f h e=>.fn f h e
 | .agg cs=>.agg cs
 | .tup cs=>.tup cs
 | .nilp=>.nilp
 | .nilf=>.nilf
 | .ifc t c=>.ifc t c
 | .opq k=>.opq k
 | .mval d c=>.mval d c
 | .mof t d=>.mof t d
 | .mpr j=>.mpr j
 | .und=>.und
 | .any=>.any
def C.slt:C->C
 | .int k n=>.int k n
 | .bool b=>.bool b
 | .str s=>.str s
 | .sl els=>.sl els
 | .slx els=>.slx els
 | .nils=>.nils
 | .rw j=>.rw j
 | .own j o=>.ownv j o
 | .ownv j o=>.ownv j o
 | .pt es o=>.pt es o
 | .elr j a b=>.elr j a b
 | .fn f h e=>.fn f h e
 | .agg cs=>.agg cs
 | .tup cs=>.tup cs
 | .nilp=>.nilp
 | .nilf=>.nilf
 | .ifc t c=>.ifc t c
 | .opq k=>.opq k
 | .mval d c=>.mval d c
 | .mof t d=>.mof t d
 | .mpr j=>.mpr j
 | .und=>.und
 | .any=>.any
def C.aaC:C->C
 | .int k n=>.int k n
 | .bool b=>.bool b
 | .str s=>.str s
 | .sl els=>.sl els
 | .slx els=>.slx els
 | .nils=>.nils
 | .rw j=>.rw j
 | .own j o=>.own j o
 | .ownv j o=>.own j o
 | .pt es o=>.pt es o
 | .elr j a b=>.elr j a b
 | .fn f h e=>.fn f h e
 | .agg cs=>.agg cs
 | .tup cs=>.tup cs
 | .nilp=>.nilp
 | .nilf=>.nilf
 | .ifc t c=>.ifc t c
 | .opq k=>.opq k
 | .mval d c=>.mval d c
 | .mof t d=>.mof t d
 | .mpr j=>.mpr j
 | .und=>.und
 | .any=>.any
def C.okc:C->Bool
 | .any=>false
 | .und=>false
 | .elr _ _ _=>false
 | .tup _=>false
 | _=>true
def cJ:C->List C
 | .int k n=>[.int k n]
 | .bool b=>[.bool b]
 | .str s=>[.str s]
 | .sl els=>[.sl els]
 | .slx els=>[.slx els]
 | .nils=>[.nils]
 | .rw j=>[.rw j]
 | .own j o=>[.own j o]
 | .ownv j o=>[.own j o]
 | .pt es o=>[.pt es o]
 | .elr j a b=>[.any]
 | .fn f h e=>[.fn f h e]
 | .agg cs=>cs
 | .tup cs=>[.tup cs]
 | .nilp=>[.nilp]
 | .nilf=>[.nilf]
 | .ifc t c=>[.ifc t c]
 | .opq k=>[.opq k]
 | .mval d c=>[.mval d c]
 | .mof t d=>[.mof t d]
 | .mpr j=>[.mpr j]
 | .und=>[.und]
 | .any=>[.any]
def eW:List C->Nat->Bool
 | [],0=>true
 | _::l,n+1=>eW l n
 | _,_=>false
def Ey (agg:Bool) (cs:List C):C :=
 match agg,cs with
 | true,cs=>.agg cs
 | false,[c]=>c.slt
 | false,_=>.any
def eY (ρ:aK):List X->List C
 | []=>[]
 | x::xs=>(cS ρ x).cel::eY ρ xs
def uz (ρ:aK):List X->List (List C)
 | []=>[]
 | x::xs=>(cJ (cS ρ x)).map C.can::uz ρ xs
def pR (ρ:aK) (sz:Nat):List X->Bool
 | []=>true
 | x::xs=>match(cS ρ x).okc,eW (cJ (cS ρ x)) sz,eG (cJ (cS ρ x)),iF (cJ (cS ρ x)) with
  | true,true,true,true=>pR ρ sz xs
  | _,_,_,_=>false
def iX (cs:List C) (off:Nat) (a:List C):List C:=cs.take off++a++cs.drop (off+a.length)
def uD (ρ:aK):List C->List (Nat×Nat×X)->Option (List C)
 | zs,[]=>some zs
 | zs,(off,n,x)::ps=>match(cS ρ x).okc,eW (cJ (cS ρ x)) n with
  | true,true=>uD ρ (iX zs off (cJ (cS ρ x))) ps
  | _,_=>none
def Ml (ρ:aK) (d:Int):Option X->Option Int
 | none=>some d
 | some x=>match cS ρ x with | .int _ i=>some i | _=>none
def Ur (mx:Bool):Int->List C->Option Int
 | a,[]=>some a
 | a,.int _ b::l=>Ur mx (match mx with | true=>if b>a then b else a | false=>if b<a then b else a) l
 | _,_=>none
abbrev Jv (b:UInt8):C:=.int .u8 b.toNat
def Ez (a:List UInt8):List (List C):=a.map fun b=>[Jv b]
def fc (c:C) (K:C->Prop):Prop :=
 match c with
 | .int k n=>K (.int k n)
 | .bool b=>K (.bool b)
 | .str s=>K (.str s)
 | .sl els=>K (.sl els)
 | .slx els=>K (.slx els)
 | .nils=>K .nils
 | .rw k=>K (.rw k)
 | .own k off=>K (.own k off)
 | .ownv k off=>K (.ownv k off)
 | .pt es off=>K (.pt es off)
 | .elr k j off=>K (.elr k j off)
 | .fn f e d=>K (.fn f e d)
 | .agg cs=>K (.agg cs)
 | .tup cs=>K (.tup cs)
 | .nilp=>K .nilp
 | .nilf=>K .nilf
 | .ifc t c=>K (.ifc t c)
 | .opq k=>K (.opq k)
 | .mval a c=>K (.mval a c)
 | .mof t a=>K (.mof t a)
 | .mpr j=>K (.mpr j)
 | .und=>K .und
 | .any=>K .any
def fl:List C->(List C->Prop)->Prop
 | [],K=>K []
 | c::cs,K=>fc c fun c=>fl cs fun cs=>K (c::cs)
def fO:TO->(TO->Prop)->Prop
 | .box t cs,K=>fl cs fun cs=>K (.box t cs)
 | .row t sz els,K=>K (.row t sz els)
 | .map es,K=>K (.map es)
def fT:TL->(TL->Prop)->Prop
 | [],K=>K []
 | (k,o)::l,K=>fO o fun o=>fT l fun l=>K ((k,o)::l)
def zV (c:C) (K:C->Prop):Prop :=
 match c with
 | .agg cs=>fl cs fun cs=>K (.agg cs)
 | c=>fc c K
theorem Pd {c:C}{K:C->Prop}:fc c K=K c:=by cases c<;>rfl
theorem eX:∀{cs:List C}{K:List C->Prop},fl cs K=K cs
 | [],K=>rfl
 | c::cs,K=>by simp only[fl,Pd,eX]
theorem Sc {o:TO}{K:TO->Prop}:fO o K=K o:=by cases o<;>simp only[fO,eX]
theorem fV:∀{L:TL}{K:TL->Prop},fT L K=K L
 | [],K=>rfl
 | (k,o)::l,K=>by simp only[fT,Sc,fV]
theorem eO {c:C}{K:C->Prop}:zV c K=K c:=by cases c<;>simp only[zV,eX,Pd]
mutual
/-- the bounds that all data of the machine keeps -/
def Wf:C->Prop
 | .int k n=>(Lit.int k n).wf=true
 | .str s=>s.size<=maxLen
 | .sl els=>els.length<=maxLen/\xh els
 | .slx els=>els.length<=maxLen/\xh els
 | .pt es _=>ul es
 | .fn _ fi ca=>ul fi/\ul ca
 | .agg cs=>ul cs
 | .tup cs=>ul cs
 | _=>True
def ul:List C->Prop
 | []=>True
 | c::l=>Wf c/\ul l
def xh:List (List C)->Prop
 | []=>True
 | es::l=>ul es/\xh l
end
def UM:List (C×C)->Prop
 | []=>True
 | (k,v)::l=>Wf k/\Wf v/\UM l
def TO.Wf:TO->Prop
 | .box _ cs=>ul cs
 | .row _ _ els=>xh els
 | .map es=>UM es
structure uE (els:List (List C)) (i:Int) (sz:Nat) (K:List C->Prop):Prop where
 out:∃es,0<=i/\els[i.toNat]?=some es/\eW es sz=true/\K es
structure EA (els:List (List C)) (j off n:Nat) (K:List C->Prop):Prop where
 out:∃es,els[j]?=some es/\eW ((es.drop off).take n) n=true/\K ((es.drop off).take n)
structure UN (els:List (List C)) (K:List UInt8->Prop):Prop where
 out:∃bs,els=Ez bs/\K bs
structure Se (l h:Int) (els:List (List C)) (sz:Nat) (K:Nat->Nat->Prop):Prop where
 lo:0<=l
 le:l<=h
 hi:h<=els.length
 sizes:∀es∈els,es.length=sz
 out:K l.toNat h.toNat
structure xj (els news:List (List C)) (sz bytes:Nat) (K:Prop):Prop where
 sizes:∀es∈news,es.length=sz
 max:els.length+news.length<=maxLen
 room:(els.length+news.length)*bytes<=140737488355328
 out:K
def jA:Bool->C->C->Option Bool
 | false,.int .i64 a,.int .i64 b=>some (decide (a=b))
 | true,.str a,.str b=>some (decide (a.data.toList=b.data.toList))
 | _,_,_=>none
def Jw:Bool->C->Bool
 | false,.int .i64 _=>true
 | true,.str _=>true
 | _,_=>false
def vu (str:Bool) (key:C):List (C×C)->Option (Option C)
 | []=>some none
 | (k,v)::l=>match jA str key k with
  | some true=>some (some v)
  | some false=>vu str key l
  | none=>none
def EB (str:Bool) (key val:C):List (C×C)->Option (List (C×C))
 | []=>some [(key,val)]
 | (k,v)::l=>match jA str key k with
  | some true=>some ((key,val)::l)
  | some false=>match EB str key val l with | some l'=>some ((k,v)::l') | none=>none
  | none=>none
structure xk (str:Bool) (es:List (C×C)) (key:C) (Y:C->Prop) (N:Prop):Prop where
 out:(∃v,vu str key es=some (some v)/\Y v)\/(vu str key es=some none/\N)
structure Pe (str:Bool) (es:List (C×C)) (key val:C) (K:List (C×C)->Prop):Prop where
 out:∃es',EB str key val es=some es'/\K es'
structure UO (i:Int) (K:Nat->Prop):Prop where
 out:∃m:Nat,i=m/\K m
def xq:List Nat->TL->aK->List C->(TL->aK->List C->Prop)->Prop
 | [],L,ρ,a,K=>K L ρ a
 | k::ks,L,ρ,a,K=>match L.get k with
  | some (.row _ _ els)=>xq ks ((L.del k).aad (C.frz k els)) (fun j=>(ρ j).frz k els) (a.map (C.frz k els)) K
  | _=>False
def qD (L:TL):C->Bool
 | .rw k=>match L.get k with | some (.row _ _ _)=>true | _=>false
 | .own k _=>match L.get k with | some (.box _ _)=>true | _=>false
 | .mpr k=>match L.get k with | some (.map _)=>true | _=>false
 | .ownv _ _=>false
 | .elr _ _ _=>false
 | _=>true
def fp (L:TL):Nat->C->Bool
 | n+1,.agg cs=>cs.all (fp L n)
 | n+1,.tup cs=>cs.all (fp L n)
 | n+1,.fn _ b a=>b.all (fp L n)&&a.all (fp L n)
 | 0,.agg _=>false
 | 0,.tup _=>false
 | 0,.fn _ _ _=>false
 | _,c=>qD L c
def Mn (L L1:TL) (c a:C):Prop :=
 a=.any\/(c=a/\fp L1 3 a=true)\/(c=.nils/\a=.sl [])\/(c=.nils/\∃k t sz,a=.rw k/\L.get k=none/\L1.get k=some (.row t sz []))\/∃els,c=.slx els/\a=.sl els
def Jy (L L1:TL):List C->List C->Prop
 | [],l=>l=[]
 | c::cs,l=>∃a cs',l=a::cs'/\Mn L L1 c a/\Jy L L1 cs cs'
def Pf (L1:TL):TO->Bool
 | .box _ cs=>cs.all (fp L1 3)
 | .row _ _ _=>true
 | .map _=>true
def UQ (L L1:TL) (o o':TO):Prop:=(o=o'/\Pf L1 o'=true)\/∃t cs cs',o=.box t cs/\o'=.box t cs'/\Jy L L1 cs cs'
def gives (L L1:TL):TL->Prop
 | []=>True
 | (k,o)::l=>((∃p,L.get k=some p/\UQ L L1 p o)\/(L.get k=none/\∃t sz,o=.row t sz []))/\gives L L1 l
def mS (L L1:TL):List Nat->List C->aK->Prop
 | k::ks,v::a,ρ=>Mn L L1 (ρ k) v/\mS L L1 ks a ρ
 | _,_,_=>True
def pT:List Nat->List C->aK->aK
 | k::ks,v::a,ρ=>bg (some k) v (pT ks a ρ)
 | _,_,ρ=>ρ
def aP:List Nat->Bool
 | []=>true
 | k::ks=>match fe ks k with | true=>false | false=>aP ks
def Mp (F:au) (b o off:Nat) (e:List Value):Prop :=
 ∃a c t d,F b=some (.cells c t d)/\o=a+off/\∀(i:Nat) (v:Value),e[i]?=some v->c[a+i]?=some v
mutual
def Rel (F:au):Loc->C->Value->Prop
 | _,.int k n,v=>v=.int k n/\(Lit.int k n).wf=true
 | _,.bool b,v=>v=.bool b
 | _,.str s,v=>v=.string s/\s.size<=maxLen
 | _,.sl els,v=>∃a c,v=.slice a els.length c/\els.length<=c/\els.length<=maxLen/\(a=none->els=[]/\c=0)/\∃sz,gu F a sz 0 els
 | _,.slx els,v=>∃a,v=.slice (some a) els.length els.length/\els.length<=maxLen/\∃sz,gu F (some a) sz 0 els
 | _,.nils,v=>v=.slice none 0 0
 | L,.rw k,v=>∃a c t sz n xs,v=.slice a n c/\L.get k=some (.row v t sz n xs)
 | L,.own k off,v=>∃g t cs,L.get k=some (.box g t cs)/\v=.pointer (some ⟨g,off,none⟩)
 | _,.pt es off,v=>∃b o vs,v=.pointer (some ⟨b,o,none⟩)/\Mp F b o off vs/\eG es=true/\ay F [] es vs
 | L,.fn f fi ca,v=>∃fi' ca',v=.func (.func f) fi'.toArray ca'.toArray/\ay F L fi fi'/\ay F L ca ca'
 | L,.agg cs,v=>∃vs,v=.agg vs.toArray/\ay F L cs vs
 | L,.tup cs,v=>∃vs,v=.tuple vs.toArray/\ay F L cs vs
 | _,.nilp,v=>v=.pointer none
 | _,.nilf,v=>v=.nilFunc
 | _,.ifc t c,v=>∃u,v=.iface t u/\Rel F [] c u
 | _,.opq k,v=>gL k F v
 | _,.mval nm c,v=>∃u,v=.func (.method nm) #[u] #[]/\Rel F [] c u
 | _,.mof t nm,v=>v=.func (.methodOf t nm) #[] #[]
 | L,.mpr k,v=>∃g cs,L.get k=some (.box g 0 cs)/\v=.map (some g)
 | _,.und,v=>v=undef
 | _,.any,_=>True
 | _,.ownv _ _,_=>False
 | _,.elr _ _ _,_=>False
def ay (F:au):Loc->List C->List Value->Prop
 | _,[],vs=>vs=[]
 | L,c::cs,vs=>∃v vs',vs=v::vs'/\Rel F L c v/\ay F L cs vs'
def gu (F:au) (a:Option Addr) (sz:Nat):Nat->List (List C)->Prop
 | _,[]=>True
 | i,es::l=>(∃vs,vs.length=sz/\dG F a (i*sz) vs/\eG es=true/\ay F [] es vs)/\gu F a sz (i+1) l
end
def aN (F:au) (sz:Nat):List (List C)->List Value->Prop
 | [],xs=>xs=[]
 | es::l,xs=>∃b a,xs=b++a/\b.length=sz/\eG es=true/\ay F [] es b/\aN F sz l a
def tyOk (t g a:Nat):Prop:=a<1048576/\(t=a\/t=(g+1)*1048576+a)/\a≠0
def fC (F:au):List (C×C)->List Value->Prop
 | [],b=>b=[]
 | (k,c)::l,b=>∃kv v a,b=.agg #[kv,v]::a/\Rel F [] k kv/\Rel F [] c v/\fC F l a
def cE (F:au) (L:Loc):TO->Own->Prop
 | .box t cs,.box g b e=>tyOk t g b/\ay F L cs e
 | .row t sz els,.row v b d n xs=>t=b/\sz=d/\n=els.length/\(n<=maxLen/\∃a c,v=.slice a n c/\(a=none->n=0))/\aN F sz els xs
 | .map es,.box g b e=>b=0/\fC F es e
 | _,_=>False
def xu (F:au) (L:Loc):Option TO->Option Own->Prop
 | none,none=>True
 | some to,some o=>cE F L to o
 | _,_=>False
def bK (F:au) (L:Loc) (M:TL):Prop:=∀k,xu F L (M.get k) (L.get k)
def Us (sv:SV) (v:Value):Prop:=sv=.v v\/∃b o j,sv=.el (some ⟨b,o,none⟩) j/\v=.pointer (some ⟨b,o+j,none⟩)
def aL (F:au) (L:Loc):C->SV->Prop
 | .own k off,sv=>sv=.own k off/\∃g t cs,L.get k=some (.box g t cs)
 | .pt es off,sv=>∃b o j a,(sv=.v (.pointer (some ⟨b,o,none⟩))/\j=0\/sv=.el (some ⟨b,o,none⟩) j)/\Mp F b (o+j) off a/\eG es=true/\ay F [] es a
 | .elr k j off,sv=>∃d t sz n c xs,sv=.el (some d) (j*sz+off)/\L.get k=some (.row (.slice (some d) n c) t sz n xs)
 | .ownv k off,sv=>∃v,Us sv v/\Rel F L (.own k off) v
 | .any,_=>True
 | c,sv=>∃v,sv=.v v/\Rel F L c v
def Kp (G:Nat->Option (Nat×TypeId)) (L:Loc):Prop:=∀k g t,G k=some (g,t)->∃cs,L.get k=some (.box g t cs)
structure TS (G:Nat->Option (Nat×TypeId)) (F:au) (L:Loc) (ρ:Env) (M:TL) (τ:aK):Prop where
 tl:bK F L M
 env:∀j,aL F L (τ j) (ρ j)
 kp:Kp G L
 glob:sG F
def Own.like:Own->Own->Prop
 | .box g t _,.box e c _=>g=e/\t=c
 | .row v _ sz n _,.row d _ a b _=>v=d/\sz=a/\n=b
 | _,_=>False
theorem Own.aah:∀o:Own,Own.like o o
 | .box ..=>⟨rfl,rfl⟩
 | .row ..=>⟨rfl,rfl,rfl⟩
theorem Mp.mono {F F':au}(h:F.le F') {b o off:Nat}{e:List Value}(c:Mp F b o off e):Mp F' b o off e:=by
 obtain⟨a,d,t,j,h1,f⟩:=c;exact⟨a,d,t,j,h _ _ h1,f⟩
mutual
theorem Rel.mono {F F':au}(h:F.le F'):∀{L:Loc}{c:C}{v:Value},Rel F L c v->Rel F' L c v
 | _,.int k n,v,r=>r
 | _,.bool b,v,r=>r
 | _,.str s,v,r=>r
 | _,.sl els,v,r=>by
  simp only[Rel] at r ⊢;obtain⟨a,c,h1,h2,h3,h4,sz,h5⟩:=r;exact⟨a,c,h1,h2,h3,h4,sz,gu.mono h h5⟩
 | _,.slx els,v,r=>by
  simp only[Rel] at r ⊢;obtain⟨a,h1,h2,sz,h5⟩:=r;exact⟨a,h1,h2,sz,gu.mono h h5⟩
 | _,.nils,v,r=>r
 | L,.rw k,v,r=>by simp only[Rel] at r ⊢;exact r
 | L,.own k off,v,r=>by simp only[Rel] at r ⊢;exact r
 | _,.pt es off,v,r=>by
  simp only[Rel] at r ⊢;obtain⟨b,o,vs,h1,h2,h3,h4⟩:=r;exact⟨b,o,vs,h1,h2.mono h,h3,ay.mono h h4⟩
 | L,.fn f fi ca,v,r=>by
  simp only[Rel] at r ⊢;obtain⟨fi',ca',h1,h2,h3⟩:=r;exact⟨fi',ca',h1,ay.mono h h2,ay.mono h h3⟩
 | L,.agg cs,v,r=>by
  simp only[Rel] at r ⊢;obtain⟨vs,h1,h2⟩:=r;exact⟨vs,h1,ay.mono h h2⟩
 | L,.tup cs,v,r=>by
  simp only[Rel] at r ⊢;obtain⟨vs,h1,h2⟩:=r;exact⟨vs,h1,ay.mono h h2⟩
 | _,.nilp,v,r=>r
 | _,.nilf,v,r=>r
 | _,.ifc t c,v,r=>by
  simp only[Rel] at r ⊢;obtain⟨u,h1,h2⟩:=r;exact⟨u,h1,Rel.mono h h2⟩
 | _,.opq k,v,r=>by
  simp only[Rel] at r ⊢;exact r.mono h
 | _,.mval nm c,v,r=>by
  simp only[Rel] at r ⊢;obtain⟨u,h1,h2⟩:=r;exact⟨u,h1,Rel.mono h h2⟩
 | _,.mof t nm,v,r=>r
 | L,.mpr k,v,r=>by simp only[Rel] at r ⊢;exact r
 | _,.und,v,r=>r
 | _,.any,v,r=>trivial
 | _,.ownv _ _,v,r=>r
 | _,.elr _ _ _,v,r=>r
theorem ay.mono {F F':au}(h:F.le F'):∀{L:Loc}{cs:List C}{vs:List Value},ay F L cs vs->ay F' L cs vs
 | _,[],vs,r=>by simp only[ay] at r ⊢;exact r
 | L,c::cs,vs,r=>by
  simp only[ay] at r ⊢;obtain⟨v,vs',h1,h2,h3⟩:=r;exact⟨v,vs',h1,Rel.mono h h2,ay.mono h h3⟩
theorem gu.mono {F F':au}(h:F.le F') {a:Option Addr}{sz:Nat}:∀{i:Nat}{l:List (List C)},gu F a sz i l->gu F' a sz i l
 | _,[],r=>by simp only[gu]
 | i,es::l,r=>by
  simp only[gu] at r ⊢;obtain⟨⟨vs,h1,h2,h3,h4⟩,h5⟩:=r;exact⟨⟨vs,h1,h2.mono h,h3,ay.mono h h4⟩,gu.mono h h5⟩
end
theorem aN.mono {F F':au}(h:F.le F') {sz:Nat}:∀{l:List (List C)}{xs:List Value},aN F sz l xs->aN F' sz l xs
 | [],xs,r=>r
 | es::l,xs,r=>by
  simp only[aN] at r ⊢;obtain⟨f,a,h1,b,c,e,d⟩:=r;exact⟨f,a,h1,b,c,e.mono h,aN.mono h d⟩
theorem fC.mono {F F':au}(h:F.le F'):∀{l:List (C×C)}{a:List Value},fC F l a->fC F' l a
 | [],a,r=>r
 | (k,c)::l,a,r=>by
  simp only[fC] at r ⊢;obtain⟨kv,v,b,h1,d,e,f⟩:=r;exact⟨kv,v,b,h1,d.mono h,e.mono h,fC.mono h f⟩
theorem cE.mono {F F':au}(h:F.le F') {L:Loc}:∀{o:TO}{p:Own},cE F L o p->cE F' L o p
 | .box t cs,.box g a b,r=>⟨r.1,r.2.mono h⟩
 | .row t sz els,.row v a c n xs,r=>⟨r.1,r.2.1,r.2.2.1,r.2.2.2.1,r.2.2.2.2.mono h⟩
 | .box _ _,.row ..,r=>r.elim
 | .row ..,.box ..,r=>r.elim
 | .map _,.row ..,r=>r.elim
 | .map es,.box g a b,r=>⟨r.1,r.2.mono h⟩
theorem bK.mono {F F':au}(h:F.le F') {L:Loc}{M:TL}(r:bK F L M):bK F' L M:=by
 intro k;have:=r k
 revert this
 cases M.get k<;>cases L.get k<;>simp only[xu]<;>first | exact fun h=>h | exact fun r=>r.mono h
theorem aL.mono {F F':au}(h:F.le F') {L:Loc}{c:C}{sv:SV}(r:aL F L c sv):aL F' L c sv:=by
 cases c<;>simp only[aL] at r ⊢
 case own=>exact r
 case pt =>
  obtain⟨b,o,j,f,h1,a,d,e⟩:=r;exact⟨b,o,j,f,h1,a.mono h,d,e.mono h⟩
 case elr=>exact r
 all_goals
  obtain⟨v,h1,a⟩:=r;exact⟨v,h1,a.mono h⟩
theorem lU {F:au}{L:Loc}:∀{cs:List C}{a:List Value},ay F L cs a↔a.length=cs.length/\∀(i:Nat) c v,cs[i]?=some c->a[i]?=some v->Rel F L c v
 | [],a=>by
  simp only[ay];constructor
  ·rintro rfl;simp
  ·rintro⟨h,_⟩;exact List.length_eq_zero_iff.1 (by simpa using h)
 | c::cs,a=>by
  simp only[ay,lU (cs:=cs)];constructor
  ·rintro⟨v,e,rfl,h1,f,l⟩;refine⟨by simp[f],fun i k j d b=>?_⟩;cases i with
   | zero=>simp only[aa3,vz] at d b;subst d b;exact h1
   | succ i=>exact l i k j (by simpa using d) (by simpa using b)
  ·rintro⟨h1,f⟩
   match a,h1 with
   | v::e,h1=>exact⟨v,e,rfl,f 0 c v (by simp) (by simp),by simpa using h1,fun i k j d b=>f (i+1) k j (by simpa using d) (by simpa using b)⟩
theorem ay.len {F:au}{L:Loc}{cs:List C}{a:List Value}(h:ay F L cs a):a.length=cs.length:=(lU.1 h).1
theorem ay.at {F:au}{L:Loc}{cs:List C}{a:List Value}(h:ay F L cs a) {i:Nat}{c:C}{v:Value}(b:cs[i]?=some c) (d:a[i]?=some v):Rel F L c v:=(lU.1 h).2 i c v b d
theorem ay.append {F:au}{L:Loc}{cs ds:List C}{a us:List Value}(h:ay F L cs a) (k:ay F L ds us):ay F L (cs++ds) (a++us):=by
 induction cs generalizing a with
 | nil=>simp only[ay] at h;subst h;exact k
 | cons c cs e =>
  simp only[ay] at h;obtain⟨v,d,rfl,h1,b⟩:=h;simp only[aa2,ay];exact⟨v,_,rfl,h1,e b⟩
theorem ay.drop {F:au}{L:Loc}{cs:List C}{b:List Value}(h:ay F L cs b) (n:Nat):ay F L (cs.drop n) (b.drop n):=by
 rw[lU] at h ⊢;refine⟨by simp[h.1],fun i c v a d=>?_⟩;rw[abw] at a d;exact h.2 _ _ _ a d
theorem ay.take {F:au}{L:Loc}{cs:List C}{d:List Value}(h:ay F L cs d) (n:Nat):ay F L (cs.take n) (d.take n):=by
 rw[lU] at h ⊢;refine⟨by simp[h.1],fun i c v a b=>?_⟩;rw[abH] at a b;split at a
 ·rw[fo (by assumption)] at b;exact h.2 _ _ _ a b
 ·cases a
theorem nB {F:au}{a:Option Addr}{sz:Nat}:∀{l:List (List C)}{i:Nat},gu F a sz i l↔∀(j:Nat) es,l[j]?=some es->∃c,c.length=sz/\dG F a ((i+j)*sz) c/\eG es=true/\ay F [] es c
 | [],i=>by simp[gu]
 | x::l,i=>by
  simp only[gu,nB (l:=l)];constructor
  ·rintro⟨h1,d⟩ j y b;cases j with
   | zero=>simp only[aa3,vz] at b;subst b;simpa using h1
   | succ j =>
    simp only[abk] at b;have:=d j y b
    rwa [show i+1+j=i+(j+1) by omega] at this
  ·intro h;refine⟨by simpa using h 0 x (by simp),fun j y b=>?_⟩;have:=h (j+1) y (by simpa using b)
   rwa [show i+(j+1)=i+1+j by omega] at this
theorem gZ {F:au}{sz:Nat}:∀{l:List (List C)}{xs:List Value},aN F sz l xs->xs.length=l.length*sz
 | [],xs,h=>by simp only[aN] at h;subst h;simp
 | es::l,xs,h=>by
  simp only[aN] at h;obtain⟨d,c,rfl,a,_,_,b⟩:=h;simp only[abG,gZ b,a,aa7,Nat.add_mul];omega
theorem aN.append {F:au}{sz:Nat}:∀{l m:List (List C)}{xs a:List Value},aN F sz l xs->aN F sz m a->aN F sz (l++m) (xs++a)
 | [],m,xs,a,h,k=>by simp only[aN] at h;subst h;exact k
 | es::l,m,xs,a,h,k=>by
  simp only[aN] at h;obtain⟨j,b,rfl,c,d,f,e⟩:=h;simp only[aa2,aN];exact⟨j,b++a,by simp,c,d,f,aN.append e k⟩
theorem aN.at {F:au}{sz:Nat}:∀{l:List (List C)}{xs:List Value},aN F sz l xs->∀{j:Nat}{es:List C},l[j]?=some es->∃a,a.length=sz/\eG es=true/\ay F [] es a/\∀(i:Nat) v,a[i]?=some v->xs[j*sz+i]?=some v
 | [],xs,h,j,es,e=>by simp at e
 | x::l,xs,h,j,es,e=>by
  simp only[aN] at h;obtain⟨a,p,rfl,c,n,o,m⟩:=h;cases j with
  | zero =>
   simp only[aa3,vz] at e;subst e;refine⟨a,c,n,o,fun i v b=>?_⟩;have:i<a.length:=(aaR.1 b).1;rw[Nat.zero_mul,Nat.zero_add,abB this];exact b
  | succ j =>
   obtain⟨us,k1,f,d,k⟩:=aN.at m (by simpa using e);refine⟨us,k1,f,d,fun i v b=>?_⟩;rw[abC (by rw[c,Nat.add_mul];omega),show(j+1)*sz+i-a.length=j*sz+i by rw[c,Nat.add_mul];omega];exact k i v b
theorem aN.frz {F:au}{sz:Nat}{l:List (List C)}{xs:List Value}(h:aN F sz l xs) {a:Addr}(q:dG F (some a) 0 xs):gu F (some a) sz 0 l:=by
 rw[nB];intro j es s;obtain⟨n,h1,m,o,r⟩:=h.at s;refine⟨n,h1,?_,m,o⟩;obtain⟨p,c,t,d,e,hb,b,k⟩:=q;refine⟨p,c,t,d,e,hb,b,fun i v f=>?_⟩;have:=k (j*sz+i) v (r i v f);simpa[Nat.add_assoc] using this
theorem nC:∀{l:List C},eG l=true↔∀c∈l,c.one=true
 | []=>by simp[eG]
 | c::l=>by
  simp only[eG];cases h:c.one
  ·simp[h]
  ·simp[h,nC]
theorem xw:∀{l:List C},iF l=true↔∀c∈l,c.pure=true
 | []=>by simp[iF]
 | c::l=>by
  simp only[iF];cases h:c.pure
  ·simp[h]
  ·simp[h,xw]
theorem pU:∀{l:List C},ja l=true↔∀c∈l,c.aal=true
 | []=>by simp[ja]
 | c::l=>by
  simp only[ja];cases h:c.aal
  ·simp[h]
  ·simp[h,pU]
theorem Rel.one {F:au}{L:Loc}{c:C}{v:Value}(h:Rel F L c v) (d:c.one=true):v.oneCell'=true:=by
 cases c<;>simp only[C.one,aa1] at d<;>simp only[Rel] at h
 case int=>obtain⟨rfl,_⟩:=h;rfl
 case bool=>subst h;rfl
 case str=>obtain⟨rfl,_⟩:=h;rfl
 case sl=>obtain⟨a,c,rfl,_⟩:=h;rfl
 case slx=>obtain⟨a,rfl,_⟩:=h;rfl
 case nils=>subst h;rfl
 case own=>obtain⟨g,t,cs,_,rfl⟩:=h;rfl
 case pt=>obtain⟨b,o,e,rfl,_⟩:=h;rfl
 case fn=>obtain⟨a,b,rfl,_⟩:=h;rfl
 case nilp=>subst h;rfl
 case nilf=>subst h;rfl
 case ifc=>obtain⟨u,rfl,_⟩:=h;rfl
 case opq=>exact h.one
 case mval=>obtain⟨u,rfl,_⟩:=h;rfl
 case mof=>subst h;rfl
 case mpr=>obtain⟨g,cs,_,rfl⟩:=h;rfl
 case rw=>obtain⟨a,c,t,sz,n,xs,rfl,_⟩:=h;rfl
mutual
theorem Rel.wf {F:au}:∀{L:Loc}{c:C}{v:Value},Rel F L c v->Wf c
 | _,.int k n,v,r=>by simp only[Rel] at r;simp only[Wf];exact r.2
 | _,.bool b,v,r=>by simp only[Wf]
 | _,.str s,v,r=>by simp only[Rel] at r;simp only[Wf];exact r.2
 | _,.sl els,v,r=>by
  simp only[Rel] at r;obtain⟨a,c,h1,h2,h3,h4,sz,h5⟩:=r;simp only[Wf];exact⟨h3,gu.wf h5⟩
 | _,.slx els,v,r=>by
  simp only[Rel] at r;obtain⟨a,h1,h2,sz,h5⟩:=r;simp only[Wf];exact⟨h2,gu.wf h5⟩
 | _,.nils,v,r=>by simp only[Wf]
 | L,.rw k,v,r=>by simp only[Wf]
 | L,.own k off,v,r=>by simp only[Wf]
 | _,.pt es off,v,r=>by
  simp only[Rel] at r;obtain⟨b,o,vs,h1,h2,h3,h4⟩:=r;simp only[Wf];exact ay.wf h4
 | L,.fn f fi ca,v,r=>by
  simp only[Rel] at r;obtain⟨fi',ca',h1,h2,h3⟩:=r;simp only[Wf];exact⟨ay.wf h2,ay.wf h3⟩
 | L,.agg cs,v,r=>by
  simp only[Rel] at r;obtain⟨vs,h1,h2⟩:=r;simp only[Wf];exact ay.wf h2
 | L,.tup cs,v,r=>by
  simp only[Rel] at r;obtain⟨vs,h1,h2⟩:=r;simp only[Wf];exact ay.wf h2
 | _,.nilp,v,r=>by simp only[Wf]
 | _,.nilf,v,r=>by simp only[Wf]
 | _,.ifc _ _,v,r=>by simp only[Wf]
 | _,.opq _,v,r=>by simp only[Wf]
 | _,.mval _ _,v,r=>by simp only[Wf]
 | _,.mof _ _,v,r=>by simp only[Wf]
 | _,.mpr _,v,r=>by simp only[Wf]
 | _,.und,v,r=>by simp only[Wf]
 | _,.any,v,r=>by simp only[Wf]
 | _,.ownv _ _,v,r=>by simp only[Wf]
 | _,.elr _ _ _,v,r=>by simp only[Wf]
theorem ay.wf {F:au}:∀{L:Loc}{cs:List C}{vs:List Value},ay F L cs vs->ul cs
 | _,[],vs,r=>by simp only[ul]
 | L,c::cs,vs,r=>by
  simp only[ay] at r;obtain⟨v,vs',h1,h2,h3⟩:=r;simp only[ul];exact⟨Rel.wf h2,ay.wf h3⟩
theorem gu.wf {F:au}{a:Option Addr}{sz:Nat}:∀{i:Nat}{l:List (List C)},gu F a sz i l->xh l
 | _,[],r=>by simp only[xh]
 | i,es::l,r=>by
  simp only[gu] at r;obtain⟨⟨vs,h1,h2,h3,h4⟩,h5⟩:=r;simp only[xh];exact⟨ay.wf h4,gu.wf h5⟩
end
theorem aN.wf {F:au}{sz:Nat}:∀{l:List (List C)}{xs:List Value},aN F sz l xs->xh l
 | [],xs,r=>by simp only[xh]
 | es::l,xs,r=>by
  simp only[aN] at r;obtain⟨f,c,h1,d,e,b,a⟩:=r;simp only[xh];exact⟨b.wf,a.wf⟩
theorem fC.wf {F:au}:∀{l:List (C×C)}{a:List Value},fC F l a->UM l
 | [],a,r=>trivial
 | (k,c)::l,a,r=>by
  simp only[fC] at r;obtain⟨kv,v,d,h1,b,e,f⟩:=r;exact⟨b.wf,e.wf,fC.wf f⟩
theorem cE.wf {F:au}{L:Loc}:∀{o:TO}{p:Own},cE F L o p->o.Wf
 | .box t cs,.box g a c,r=>r.2.wf
 | .row t sz els,.row v a b n xs,r=>r.2.2.2.2.wf
 | .box _ _,.row ..,r=>r.elim
 | .row ..,.box ..,r=>r.elim
 | .map _,.row ..,r=>r.elim
 | .map es,.box g a c,r=>r.2.wf
def C.leaf:C->Bool
 | .fn _ _ _=>false
 | .agg _=>false
 | .tup _=>false
 | _=>true
theorem wh {g:C->C}{n:Nat}{c:C}(h:c.leaf=true):C.mp g n c=g c:=by
 cases c<;>first | (cases n<;>rfl;done) | cases h
theorem ay.map {F F':au}{L L':Loc}{g:C->C}:∀{cs:List C}{a:List Value},(∀c∈cs,∀v,Rel F L c v->Rel F' L' (g c) v)->ay F L cs a->ay F' L' (cs.map g) a
 | [],a,d,h=>by simp only[ay] at h;subst h;simp only[abv,ay]
 | c::cs,a,d,h=>by
  simp only[ay] at h;obtain⟨v,b,rfl,h1,f⟩:=h;simp only[aaW,ay];exact⟨v,b,rfl,d c (by simp) v h1,ay.map (fun c e=>d c (by simp[e])) f⟩
theorem Rel.mp {F F':au}{L L':Loc}{g:C->C}(b:∀c v,c.leaf=true->Rel F L c v->Rel F' L' (g c) v):∀(n:Nat) {c:C}{v:Value},Rel F L c v->Rel F' L' (C.mp g n c) v
 | 0,c,v,h=>by
  cases a:c.leaf
  ·cases c<;>simp only[C.leaf,Bool.true_eq_false] at a<;>simp only[C.mp,Rel]
  ·rw[wh a];exact b c v a h
 | n+1,c,v,h=>by
  cases a:c.leaf
  ·cases c<;>simp only[C.leaf,Bool.true_eq_false] at a<;>simp only[Rel] at h<;>simp only[C.mp,Rel]
   ·obtain⟨f,e,h1,d,k⟩:=h;exact⟨f,e,h1,d.map fun c _ v=>Rel.mp b n,k.map fun c _ v=>Rel.mp b n⟩
   ·obtain⟨j,h1,d⟩:=h;exact⟨j,h1,d.map fun c _ v=>Rel.mp b n⟩
   ·obtain⟨j,h1,d⟩:=h;exact⟨j,h1,d.map fun c _ v=>Rel.mp b n⟩
  ·rw[wh a];exact b c v a h
theorem aL.mp {F F':au}{L L':Loc}{g:C->C}(f:∀c v,c.leaf=true->Rel F L c v->Rel F' L' (g c) v) (d:∀c sv,c.leaf=true->aL F L c sv->aL F' L' (g c) sv) (n:Nat) {c:C}{sv:SV}
  (h:aL F L c sv):aL F' L' (C.mp g n c) sv:=by
 cases a:c.leaf
 ·have e:∃v,sv=.v v/\Rel F L c v:=by cases c<;>simp only[C.leaf,Bool.true_eq_false] at a<;>exact h
  obtain⟨v,rfl,h1⟩:=e;have b:=Rel.mp f n h1;cases n with
  | zero=>cases c<;>simp only[C.leaf,Bool.true_eq_false] at a<;>simp only[C.mp,aL]
  | succ n=>cases c<;>simp only[C.leaf,Bool.true_eq_false] at a<;>exact⟨v,rfl,b⟩
 ·rw[wh a];exact d c sv a h
def Ext (L L':Loc):Prop:=∀k o,L.get k=some o->∃o',L'.get k=some o'/\Own.like o o'
theorem Ext.refl (L:Loc):Ext L L:=fun k o h=>⟨o,h,Own.aah o⟩
theorem bD {F F':au}{L L':Loc}(e:F.le F') {c:C}{v:Value}(m:∀k,(∃off,c=.own k off)\/c=.rw k\/c=.mpr k->∀o,L.get k=some o->∃o',L'.get k=some o'/\Own.like o o') (q:c.leaf=true) (h:Rel F L c v):Rel F' L' c v:=by
 cases c<;>simp only[C.leaf,aa1] at q
 case rw k =>
  simp only[Rel] at h ⊢;obtain⟨a,c,t,sz,n,xs,rfl,h⟩:=h;obtain⟨o',h1,d⟩:=m k (.inr (.inl rfl)) _ h;cases o' with
  | box=>exact d.elim
  | row y p w z s=>obtain⟨rfl,rfl,rfl⟩:=d;exact⟨_,_,_,_,_,_,rfl,h1⟩
 case mpr k =>
  simp only[Rel] at h ⊢;obtain⟨g,cs,h,rfl⟩:=h;obtain⟨o',h1,d⟩:=m k (.inr (.inr rfl)) _ h;cases o' with
  | row=>exact d.elim
  | box x p cs'=>obtain⟨rfl,rfl⟩:=d;exact⟨_,_,h1,rfl⟩
 case own k off =>
  simp only[Rel] at h ⊢;obtain⟨g,t,cs,h,rfl⟩:=h;obtain⟨o',h1,d⟩:=m k (.inl ⟨off,rfl⟩) _ h;cases o' with
  | row=>exact d.elim
  | box x p cs'=>obtain⟨rfl,rfl⟩:=d;exact⟨_,_,_,h1,rfl⟩
 case sl =>
  simp only[Rel] at h ⊢;obtain⟨a,c,h1,d,j,l,sz,f⟩:=h;exact⟨a,c,h1,d,j,l,sz,f.mono e⟩
 case slx =>
  simp only[Rel] at h ⊢;obtain⟨a,h1,d,sz,f⟩:=h;exact⟨a,h1,d,sz,f.mono e⟩
 case pt =>
  simp only[Rel] at h ⊢;obtain⟨b,o,r,h1,d,j,l⟩:=h;exact⟨b,o,r,h1,d.mono e,j,l.mono e⟩
 case ifc =>
  simp only[Rel] at h ⊢;obtain⟨u,h1,d⟩:=h;exact⟨u,h1,d.mono e⟩
 case opq =>
  simp only[Rel] at h ⊢;exact h.mono e
 case mval =>
  simp only[Rel] at h ⊢;obtain⟨u,h1,d⟩:=h;exact⟨u,h1,d.mono e⟩
 all_goals
  first
   | exact h
   | (simp only[Rel] at h ⊢;done)
mutual
theorem Rel.ext {F F':au}(hF:F.le F') {L L':Loc}(hk:Ext L L'):∀{c:C}{v:Value},Rel F L c v->Rel F' L' c v
 | .fn f fi ca,v,r=>by
  simp only[Rel] at r ⊢;obtain⟨fi',ca',h1,h2,h3⟩:=r;exact⟨fi',ca',h1,ay.ext hF hk h2,ay.ext hF hk h3⟩
 | .agg cs,v,r=>by
  simp only[Rel] at r ⊢;obtain⟨vs,h1,h2⟩:=r;exact⟨vs,h1,ay.ext hF hk h2⟩
 | .tup cs,v,r=>by
  simp only[Rel] at r ⊢;obtain⟨vs,h1,h2⟩:=r;exact⟨vs,h1,ay.ext hF hk h2⟩
 | .int _ _,v,r=>bD hF (fun k _=>hk k) rfl r
 | .bool _,v,r=>bD hF (fun k _=>hk k) rfl r
 | .str _,v,r=>bD hF (fun k _=>hk k) rfl r
 | .sl _,v,r=>bD hF (fun k _=>hk k) rfl r
 | .slx _,v,r=>bD hF (fun k _=>hk k) rfl r
 | .nils,v,r=>bD hF (fun k _=>hk k) rfl r
 | .rw _,v,r=>bD hF (fun k _=>hk k) rfl r
 | .own _ _,v,r=>bD hF (fun k _=>hk k) rfl r
 | .pt _ _,v,r=>bD hF (fun k _=>hk k) rfl r
 | .nilp,v,r=>bD hF (fun k _=>hk k) rfl r
 | .nilf,v,r=>bD hF (fun k _=>hk k) rfl r
 | .ifc _ _,v,r=>bD hF (fun k _=>hk k) rfl r
 | .opq _,v,r=>bD hF (fun k _=>hk k) rfl r
 | .mval _ _,v,r=>bD hF (fun k _=>hk k) rfl r
 | .mof _ _,v,r=>bD hF (fun k _=>hk k) rfl r
 | .mpr _,v,r=>bD hF (fun k _=>hk k) rfl r
 | .und,v,r=>bD hF (fun k _=>hk k) rfl r
 | .any,v,r=>by simp only[Rel]
 | .ownv _ _,v,r=>r.elim
 | .elr _ _ _,v,r=>r.elim
theorem ay.ext {F F':au}(hF:F.le F') {L L':Loc}(hk:Ext L L'):∀{cs:List C}{vs:List Value},ay F L cs vs->ay F' L' cs vs
 | [],vs,r=>by simp only[ay] at r ⊢;exact r
 | c::cs,vs,r=>by
  simp only[ay] at r ⊢;obtain⟨v,vs',h1,h2,h3⟩:=r;exact⟨v,vs',h1,Rel.ext hF hk h2,ay.ext hF hk h3⟩
end
theorem Ext.nil (L:Loc):Ext [] L:=fun k o h=>by cases h
theorem ay.lift {F:au}{L:Loc}{cs:List C}{a:List Value}(h:ay F [] cs a):ay F L cs a:=h.ext (au.le_refl F) (Ext.nil L)
theorem Rel.lift {F:au}{L:Loc}{c:C}{v:Value}(h:Rel F [] c v):Rel F L c v:=h.ext (au.le_refl F) (Ext.nil L)
theorem dB {F F':au}{L L':Loc}(l:F.le F') {c:C}{sv:SV}(m:∀k,(∃off,c=.own k off)\/(∃off,c=.ownv k off)\/c=.rw k\/(∃j off,c=.elr k j off)\/c=.mpr k->∀o,L.get k=some o->∃o',L'.get k=some o'/\Own.like o o') (r:c.leaf=true) (h:aL F L c sv):aL F' L' c sv:=by
 cases c<;>simp only[C.leaf,aa1] at r
 case own k off =>
  simp only[aL] at h ⊢;obtain⟨rfl,g,t,cs,h⟩:=h;obtain⟨o',h1,d⟩:=m k (.inl ⟨off,rfl⟩) _ h;cases o' with
  | row=>exact d.elim
  | box g' z cs'=>exact⟨rfl,_,_,_,h1⟩
 case ownv k off =>
  simp only[aL] at h ⊢;obtain⟨v,q,h⟩:=h;refine⟨v,q,bD l (fun p a=>m p ?_) rfl h⟩;rcases a with⟨f,e⟩ | e | e
  ·injection e with e1 e2;subst e1;exact .inr (.inl ⟨off,rfl⟩)
  ·cases e
  ·cases e
 case pt =>
  simp only[aL] at h ⊢;obtain⟨b,o,j,s,h1,d,u,w⟩:=h;exact⟨b,o,j,s,h1,d.mono l,u,w.mono l⟩
 case elr k j off =>
  simp only[aL] at h ⊢;obtain⟨ad,t,sz,n,c,xs,rfl,h⟩:=h;obtain⟨o',h1,d⟩:=m k (.inr (.inr (.inr (.inl ⟨_,_,rfl⟩)))) _ h;cases o' with
  | box=>exact d.elim
  | row v' z y n' x =>
   obtain⟨rfl,rfl,rfl⟩:=d;exact⟨_,_,_,_,_,_,rfl,h1⟩
 all_goals first | (simp only[aL];done) | skip
 all_goals
  simp only[aL] at h ⊢;obtain⟨v,rfl,h⟩:=h;refine⟨v,rfl,bD l (fun p a=>m p ?_) rfl h⟩;rcases a with⟨f,e⟩ | e | e
  ·cases e
  ·first | cases e;exact .inr (.inr (.inl rfl)) | cases e
  ·first | cases e;exact .inr (.inr (.inr (.inr rfl))) | cases e
theorem aL.ext {F F':au}{L L':Loc}(b:F.le F') (d:Ext L L') {c:C}{sv:SV}(h:aL F L c sv):aL F' L' c sv:=by
 cases a:c.leaf
 ·have f:∃v,sv=.v v/\Rel F L c v:=by cases c<;>simp only[C.leaf,Bool.true_eq_false] at a<;>exact h
  obtain⟨v,rfl,h1⟩:=f;have e:=h1.ext b d;cases c<;>simp only[C.leaf,Bool.true_eq_false] at a<;>exact⟨v,rfl,e⟩
 ·exact dB b (fun k _=>d k) a h
theorem cE.ext {F F':au}{L L':Loc}(a:F.le F') (e:Ext L L'):∀{o:TO}{p:Own},cE F L o p->cE F' L' o p
 | .box t cs,.box g b c,r=>⟨r.1,r.2.ext a e⟩
 | .row t sz els,.row v b d n xs,r=>⟨r.1,r.2.1,r.2.2.1,r.2.2.2.1,r.2.2.2.2.mono a⟩
 | .box _ _,.row ..,r=>r.elim
 | .row ..,.box ..,r=>r.elim
 | .map _,.row ..,r=>r.elim
 | .map es,.box g b c,r=>⟨r.1,r.2.mono a⟩
def gC (Li:List Own) (R:List TO->C->Prop):au->List Own->Value->Prop:=fun F Lo v =>
 ∃Mo c,Mo.length=Lo.length/\bK F (inp Lo) (cD Mo)/\Rel F (inp Lo) c v/\(∀(i:Nat) g t cs,Li[i]?=some (.box g t cs)->∃cs',Lo[i]?=some (.box g t cs'))/\R Mo c
structure CallsT (P:Program) (f:Nat) (args:List C) (Lin:List TO) (R:List TO->C->Prop):Prop where
 out:∀(F:au) (Li:List Own) (vs:List Value),Li.length=Lin.length->bK F (inp Li) (cD Lin)->ay F (inp Li) args vs->CallsA P f vs.toArray F Li (gC Li R)
structure CallsTX (P:Program) (f:Nat) (args:List C) (Lin:List TO) (R:List TO->C->Prop) (Pp:Value->Prop):Prop where
 out:∀(F:au) (Li:List Own) (vs:List Value),Li.length=Lin.length->bK F (inp Li) (cD Lin)->ay F (inp Li) args vs->nX P f vs.toArray F Li (gC Li R) Pp
theorem CallsT.toX {P:Program}{f:Nat}{args:List C}{Lin:List TO}{R:List TO->C->Prop}{Pp:Value->Prop}(h:CallsT P f args Lin R):CallsTX P f args Lin R Pp:=⟨fun F Li c h1 a b=>(h.out F Li c h1 a b).toX⟩
def aI:List TO->List Nat->List Nat->Bool
 | .box _ _::l,k::ks,a::ko=>match Nat.beq k a with | true=>aI l ks ko | false=>false
 | .box _ _::_,_,_=>false
 | .map _::l,k::ks,a::ko=>match Nat.beq k a with | true=>aI l ks ko | false=>false
 | .map _::_,_,_=>false
 | .row _ _ _::l,_::ks,_::ko=>aI l ks ko
 | .row _ _ _::l,_::ks,[]=>aI l ks []
 | .row _ _ _::_,[],_=>false
 | [],_,_=>true
def jt (L:TL) (ks:List Nat):List Nat->Bool
 | []=>true
 | k::ko=>match fe ks k,L.get k with
  | true,_=>jt L ks ko
  | false,none=>jt L ks ko
  | false,some _=>false
def covers:TL->TL->Bool
 | [],_=>true
 | (k,_)::l,L1=>match L1.get k with | some _=>covers l L1 | none=>false
def ou:TL->TL->Bool
 | [],_=>true
 | (k,.box _ _)::l,L1=>match L1.get k with | some (.box _ _)=>ou l L1 | _=>false
 | (k,.map _)::l,L1=>match L1.get k with | some (.map _)=>ou l L1 | _=>false
 | (_,.row _ _ _)::l,L1=>ou l L1
def TL.kills (ks:List Nat) (L:TL):TL:=match ks with | []=>L | _=>L.aad (C.kills ks)
def dh (ks:List Nat) (ρ:aK):aK:=match ks with | []=>ρ | _=>fun j=>(ρ j).kills ks
def rowsOf (L:TL):List Nat->List Nat
 | []=>[]
 | k::ks=>match L.get k with
  | some (.row _ _ _)=>k::rowsOf L ks
  | _=>rowsOf L ks
def Qp (Li Lo:List Own):Prop:=Lo.length=Li.length/\∀(i:Nat) o,Li[i]?=some o->∃o',Lo[i]?=some o'/\Own.like o o'
structure fq (P:Program) (f:Nat) (args:List C) (Lin:List TO) (R:List TO->C->Prop):Prop where
 out:∀(F:au) (Li:List Own) (vs:List Value),Li.length=Lin.length->bK F (inp Li) (cD Lin)->ay F (inp Li) args vs->CallsA P f vs.toArray F Li (fun F' Lo v=>gC Li R F' Lo v/\Qp Li Lo)
inductive pV (P:Program) (f:Nat) (args:List C) (L:TL) (ρ:aK) (K:TL->aK->C->Prop):Prop
 | mk (out:∃(fz ks ko:List Nat),xq fz L ρ args fun L ρ args =>
  ∃(L1:TL) (Lin:List TO) (R:List TO->C->Prop),(L1=L\/(gives L L1 L1/\covers L L1=true))/\L1.sub ks=some Lin/\aP ks=true/\aP ko=true/\jt L1 ks ko=true/\aI Lin ks ko=true /\
   CallsT P f (args.map fun c=>c.aaj.ren (bh ks 1000)) (Lin.map (TO.aad (C.ren (bh ks 1000)))) R /\
   ∀v Mo,R Mo v->Wf v->(∀o∈Mo,o.Wf)->ko.length=Mo.length /\
    K (((L1.aae ks).kills (rowsOf L1 ks)).puts ko (Mo.map (TO.aad (C.ren (aH ko))))) (dh (rowsOf L1 ks) ρ) (v.ren (aH ko)).slt)
 | inpl (ks:List Nat) (Lin:List TO) (R:List TO->C->Prop) (hs:L.sub ks=some Lin) (hn:aP ks=true) (h:fq P f (args.map fun c=>c.aaj.ren (bh ks 1000)) (Lin.map (TO.aad (C.ren (bh ks 1000)))) R)
   (k:∀v Mo,R Mo v->Wf v->(∀o∈Mo,o.Wf)->ks.length=Mo.length/\K ((L.aae ks).puts ks (Mo.map (TO.aad (C.ren (aH ks))))) ρ (v.ren (aH ks)).slt)
structure nD where
 ps:Value->Prop
 hb:List (Nat×Nat):=[]
 st:Option (TL->Value->Prop):=none
def ju (L:TL) (ks:List Nat):List (Nat×Nat)->Bool
 | []=>true
 | (k,n)::l=>match fe ks k,L.get k with
  | false,some (.box _ cs)=>match eW cs n with | true=>ju L ks l | false=>false
  | _,_=>false
structure kR (P:Program) (PS:nD) (f:Nat) (args:List C) (L:TL) (ρ:aK) (K:TL->aK->C->Prop):Prop where
 out:∃(fz ks ko:List Nat),xq fz L ρ args fun L ρ args =>
  ∃(L1:TL) (Lin:List TO) (R:List TO->C->Prop) (Pp:Value->Prop),(L1=L\/(gives L L1 L1/\covers L L1=true))/\L1.sub ks=some Lin/\aP ks=true/\aP ko=true/\jt L1 ks ko=true/\aI Lin ks ko=true/\ju L1 ks PS.hb=true /\
   CallsTX P f (args.map fun c=>c.aaj.ren (bh ks 1000)) (Lin.map (TO.aad (C.ren (bh ks 1000)))) R Pp/\(∀v,Pp v->PS.ps v) /\
   ∀v Mo,R Mo v->Wf v->(∀o∈Mo,o.Wf)->ko.length=Mo.length /\
    K (((L1.aae ks).kills (rowsOf L1 ks)).puts ko (Mo.map (TO.aad (C.ren (aH ko))))) (dh (rowsOf L1 ks) ρ) (v.ren (aH ko)).slt
structure CallsTS (P:Program) (f:Nat) (args:List C) (Lin:List TO) (R:List TO->C->Prop) (Pp:List TO->Value->Prop):Prop where
 out:∀(F:au) (Li:List Own) (vs:List Value),Li.length=Lin.length->bK F (inp Li) (cD Lin)->ay F (inp Li) args vs->vW P f vs.toArray F Li (gC Li R) (fun F' Lo v=>∃Mo,Mo.length=Lo.length/\bK F' (inp Lo) (cD Mo)/\Pp Mo v)
structure EC (P:Program) (ps:Value->Prop) (hb:List (Nat×Nat)) (st:TL->Value->Prop) (f:Nat) (args:List C) (L:TL) (ρ:aK) (K:TL->aK->C->Prop):Prop where
 out:∃(ks ko:List Nat) (L1:TL) (Lin:List TO) (R:List TO->C->Prop) (Pp:List TO->Value->Prop),(L1=L\/(gives L L1 L1/\covers L L1=true))/\L1.sub ks=some Lin/\aP ks=true/\aP ko=true/\jt L1 ks ko=true/\aI Lin ks ko=true/\ju L1 ks hb=true /\
   CallsTS P f (args.map fun c=>c.aaj.ren (bh ks 1000)) (Lin.map (TO.aad (C.ren (bh ks 1000)))) R Pp /\
   (∀v Mo,Pp Mo v->(∀o∈Mo,o.Wf)->ks.length=Mo.length->ps v/\st (((L1.aae ks).kills (rowsOf L1 ks)).puts ks (Mo.map (TO.aad (C.ren (aH ks))))) v) /\
   ∀v Mo,R Mo v->Wf v->(∀o∈Mo,o.Wf)->ko.length=Mo.length /\
    K (((L1.aae ks).kills (rowsOf L1 ks)).puts ko (Mo.map (TO.aad (C.ren (aH ko))))) (dh (rowsOf L1 ks) ρ) (v.ren (aH ko)).slt
def xA:List C->Option (List Value)
 | []=>some []
 | .int k n::l=>match xA l with | some vs=>some (.int k n::vs) | none=>none
 | .bool b::l=>match xA l with | some vs=>some (.bool b::vs) | none=>none
 | .str s::l=>match xA l with | some vs=>some (.string s::vs) | none=>none
 | _=>none
def C0:C->Option Value
 | .ifc t (.int k n)=>some (.iface t (.int k n))
 | .ifc t (.bool b)=>some (.iface t (.bool b))
 | .ifc t (.str s)=>some (.iface t (.string s))
 | .ifc t (.agg cs)=>match xA cs with | some vs=>some (.iface t (.agg vs.toArray)) | none=>none
 | _=>none
structure Sf (PS:nD) (L:TL) (c:C):Prop where
 out:∃v,C0 c=some v/\ju L [] PS.hb=true/\PS.ps v
structure UU (ps:Value->Prop) (hb:List (Nat×Nat)) (st:TL->Value->Prop) (L:TL) (c:C):Prop where
 out:∃v,C0 c=some v/\ju L [] hb=true/\ps v/\st L v
inductive Bo (P:Program) (f:Nat) (args:List C) (L:TL) (ρ:aK) (K:TL->aK->C->Prop):Prop
 | mk (out:∃(ks ko:List Nat) (Lin:List TO) (R:List TO->C->Prop),L.sub ks=some Lin/\aP ks=true/\aP ko=true/\jt L ks ko=true/\aI Lin ks ko=true /\
   CallsT P f (args.map fun c=>c.aaj.ren (bh ks 1000)) (Lin.map (TO.aad (C.ren (bh ks 1000)))) R /\
   ∀v Mo,R Mo v->Wf v->(∀o∈Mo,o.Wf)->ko.length=Mo.length /\
    K (((L.aae ks).kills (rowsOf L ks)).puts ko (Mo.map (TO.aad (C.ren (aH ko))))) (dh (rowsOf L ks) ρ) (v.ren (aH ko)).slt)
 | inpl (ks:List Nat) (Lin:List TO) (R:List TO->C->Prop) (hs:L.sub ks=some Lin) (hn:aP ks=true) (h:fq P f (args.map fun c=>c.aaj.ren (bh ks 1000)) (Lin.map (TO.aad (C.ren (bh ks 1000)))) R)
   (k:∀v Mo,R Mo v->Wf v->(∀o∈Mo,o.Wf)->ks.length=Mo.length/\K ((L.aae ks).puts ks (Mo.map (TO.aad (C.ren (aH ks))))) ρ (v.ren (aH ks)).slt)
def pW:List Nat->List Nat->Bool
 | [],_=>true
 | k::ks,a=>match fe a k with | true=>false | false=>pW ks a
structure oC (P:Program) (PS:nD) (fb:List Nat) (f:Nat) (args:List C) (L:TL) (ρ:aK) (K:TL->aK->C->Prop):Prop where
 out:∃(ks:List Nat) (Lin:List TO) (R:List TO->C->Prop) (Pp:Value->Prop),L.sub ks=some Lin/\aP ks=true/\pW ks fb=true/\aI Lin ks ks=true/\ju L ks PS.hb=true /\
   CallsTX P f (args.map fun c=>c.aaj.ren (bh ks 1000)) (Lin.map (TO.aad (C.ren (bh ks 1000)))) R Pp/\(∀v,Pp v->PS.ps v) /\
   ∀v Mo,R Mo v->Wf v->(∀o∈Mo,o.Wf)->ks.length=Mo.length /\
    K (((L.aae ks).kills (rowsOf L ks)).puts ks (Mo.map (TO.aad (C.ren (aH ks))))) (dh (rowsOf L ks) ρ) (v.ren (aH ks)).slt
structure sW (P:Program) (ps:Value->Prop) (hb:List (Nat×Nat)) (st:TL->Value->Prop) (fb:List Nat) (f:Nat) (args:List C) (L:TL) (ρ:aK) (K:TL->aK->C->Prop):Prop where
 out:∃(ks:List Nat) (Lin:List TO) (R:List TO->C->Prop) (Pp:List TO->Value->Prop),L.sub ks=some Lin/\aP ks=true/\pW ks fb=true/\aI Lin ks ks=true/\ju L ks hb=true /\
   CallsTS P f (args.map fun c=>c.aaj.ren (bh ks 1000)) (Lin.map (TO.aad (C.ren (bh ks 1000)))) R Pp /\
   (∀v Mo,Pp Mo v->(∀o∈Mo,o.Wf)->ks.length=Mo.length->ps v/\st (TL.puts [] ks (Mo.map (TO.aad (C.ren (aH ks))))) v) /\
   ∀v Mo,R Mo v->Wf v->(∀o∈Mo,o.Wf)->ks.length=Mo.length /\
    K (((L.aae ks).kills (rowsOf L ks)).puts ks (Mo.map (TO.aad (C.ren (aH ks))))) (dh (rowsOf L ks) ρ) (v.ren (aH ks)).slt
def C2 (P:Program) (f:Nat):Prop:=∃fn,P.funcs[f]?=some fn/\fn.body.isSome=true/\(fn.name == "runtime.NumGoroutine")=false
structure Sg (P:Program) (f:Nat) (args:List C) (t sz:Nat) (els:List (List C)) (x:C):Prop where
 out:∀(F:au) (rv:Value) (xs vs:List Value),cE F (inp [.row rv t sz els.length xs]) (.row t sz els) (.row rv t sz els.length xs)->ay F (inp [.row rv t sz els.length xs]) args vs ->
  CallsA P f vs.toArray F [.row rv t sz els.length xs] (fun F' Lo v=>Lo=[.row rv t sz els.length xs]/\Rel F' (inp []) x v)
inductive uF (P:Program) (f:Nat) (args:List C) (L:TL) (ρ:aK) (d:Option Nat) (K:TL->aK->C->Prop):Prop
 | frz (R:List TO->C->Prop) (h:CallsT P f (args.map fun c=>c.aaj.ren (bh [] 1000)) [] R) (k:∀v Mo,R Mo v->Wf v->Mo=[]/\K L ρ v.slt)
 | own (R:List TO->C->Prop) (k:Nat) (h:CallsT P f (args.map fun c=>c.aaj.ren (bh [] 1000)) [] R) (hd:d=some k) (hk:L.get k=none)
   (kk:∀v Mo,R Mo v->Wf v->(∀o∈Mo,o.Wf)->∃o,Mo=[o]/\K (L.set k (o.aad (C.ren (aH [k])))) ρ (v.ren (aH [k])).slt)
 | row (R:List TO->C->Prop) (kr t sz:Nat) (els:List (List C)) (he:C2 P f) (hk:L.get kr=some (.row t sz els)) (h:CallsT P f (args.map fun c=>(c.frz kr els).aaj.ren (bh [] 1000)) [] R)
   (kk:∀v Mo,R Mo v->Wf v->Mo=[]/\K ((L.aad (C.kill kr)).set kr (.row t sz [])) (fun j=>(ρ j).kill kr) v.slt)
 | lent (kr t sz:Nat) (els:List (List C)) (x:C) (hk:L.get kr=some (.row t sz els)) (h:Sg P f (args.map fun c=>c.aaj.ren (bh [kr] 1000)) t sz els x) (k:Wf x->K L ρ x.slt)
def Qq:Value->C
 | .int k n=>.int k n
 | .bool b=>.bool b
 | .string s=>.str s
 | _=>.any
def isNil:X->Bool
 | .c (.slice none 0 0)=>true
 | _=>false
def uG:List Bool->List C->List C->Bool->Option Bool
 | [],[],[],c=>some c
 | true::ks,.int k a::l,.int e b::d,c=>match pB k e with | true=>uG ks l d (c&&decide (a=b)) | false=>none
 | false::ks,.bool a::l,.bool b::d,c=>uG ks l d (c&&decide (a=b))
 | _,_,_,_=>none
structure Qr (P:Program) (t:TypeId) (nm:String) (K:Nat->Prop):Prop where
 out:∃f,sI P t nm=some f/\K f
def Pg (P:Program) (t:TypeId):Bool:=match P.underlying t with | some (.interface _)=>true | _=>false
def Bp (ρ:aK):List (Nat×Nat×X)->List C->(List C->Prop)->Prop
 | [],zs,K=>K zs
 | (off,n,x)::ps,zs,K=>match(cS ρ x).okc,eW (cJ (cS ρ x)) n with
  | true,true=>fl (cJ (cS ρ x)) fun a=>fl (iX zs off a) fun zs=>Bp ρ ps zs K
  | _,_=>False
theorem uH {ρ:aK}:∀{ps:List (Nat×Nat×X)}{zs:List C}{K:List C->Prop},Bp ρ ps zs K->∃cs,uD ρ zs ps=some cs/\K cs
 | [],zs,K,h=>⟨zs,rfl,h⟩
 | (off,n,x)::ps,zs,K,h=>by
  simp only[Bp] at h;simp only[uD];split at h
  ·rename_i h1 a;rw[eX,eX] at h
   first
   | exact uH h
   | (rw[h1,a];exact uH h)
  ·exact h.elim
structure Jz (k:Nat) (K:Nat->Prop):Prop where
 out:∃n,rC k=some n/\n<=9223372036854775807/\K n
def RZ (t:Nat):Bool:=match Nat.beq t 0 with | true=>false | false=>Nat.ble t 1048575
def outT (o:dO) (L:TL) (ρ:aK) (V:C->Prop):Prop :=
 match o with
 | .mov x=>V (cS ρ x)
 | .pick c a b=>match cS ρ c with
  | .bool t=>yX t (V (cS ρ a)) (V (cS ρ b))
  | _=>False
 | .build zs ps=>fl (zs.map rz) fun zs=>Bp ρ ps zs fun cs=>V (.agg cs)
 | .load agg n x=>match cS ρ x with
  | .own k off=>match L.get k with
   | some (.box _ cs)=>match eW ((cs.drop off).take n) n with
    | true=>V (Ey agg ((cs.drop off).take n))
    | false=>False
   | _=>False
  | .pt es off=>match eW ((es.drop off).take n) n with
   | true=>V (Ey agg ((es.drop off).take n))
   | false=>False
  | .ownv k off=>match L.get k with
   | some (.box _ cs)=>match eW ((cs.drop off).take n) n with
    | true=>V (Ey agg ((cs.drop off).take n))
    | false=>False
   | _=>False
  | .elr k j off=>match L.get k with
   | some (.row _ _ els)=>EA els j off n fun cs=>V (Ey agg cs)
   | _=>False
  | _=>False
 | .loadR agg n x=>match cS ρ x with
  | .own k off=>match L.get k with
   | some (.box _ cs)=>match eW ((cs.drop off).take n) n with
    | true=>V (Ey agg ((cs.drop off).take n))
    | false=>False
   | _=>False
  | .pt es off=>match eW ((es.drop off).take n) n with
   | true=>V (Ey agg ((es.drop off).take n))
   | false=>False
  | .ownv k off=>match L.get k with
   | some (.box _ cs)=>match eW ((cs.drop off).take n) n with
    | true=>V (Ey agg ((cs.drop off).take n))
    | false=>False
   | _=>False
  | .elr k j off=>match L.get k with
   | some (.row _ _ els)=>EA els j off n fun cs=>V (Ey agg cs)
   | _=>False
  | _=>False
 | .loadD agg n x=>match cS ρ x with
  | .own k off=>match L.get k with
   | some (.box _ cs)=>match eW ((cs.drop off).take n) n with
    | true=>V (Ey agg ((cs.drop off).take n))
    | false=>False
   | _=>False
  | .pt es off=>match eW ((es.drop off).take n) n with
   | true=>V (Ey agg ((es.drop off).take n))
   | false=>False
  | _=>False
 | .gload g=>match vV g with
  | some k=>V (.opq k)
  | none=>False
 | .loadF agg n x=>match cS ρ x with
  | .pt es off=>match eW ((es.drop off).take n) n with
   | true=>V (Ey agg ((es.drop off).take n))
   | false=>False
  | _=>False
 | .loadK key agg n x=>match cS ρ x with
  | .own k off=>match Nat.beq k key with
   | true=>match L.get k with
    | some (.box _ cs)=>match eW ((cs.drop off).take n) n with
     | true=>V (Ey agg ((cs.drop off).take n))
     | false=>False
    | _=>False
   | false=>False
  | _=>False
 | .nilck x=>match cS ρ x with
  | .own k off=>V (.own k off)
  | .pt es off=>V (.pt es off)
  | .ownv k off=>V (.ownv k off)
  | .fn f e d=>V (.fn f e d)
  | .mval q c=>match c with
   | .ifc t c=>R6 P4 t q=true/\V (.mval q (.ifc t c))
   | _=>False
  | _=>False
 | .bin op x y=>match cS ρ x,cS ρ y with
  | .int k a,.int u b=>match IJ op with
   | true=>shI op k a b fun v=>V (Qq v)
   | false=>match pB k u with
    | true=>binI op k a b fun v=>V (Qq v)
    | false=>False
  | .str a,.str b=>binS op a b fun v=>V (Qq v)
  | _,_=>False
 | .eqB neg x y=>match cS ρ x,cS ρ y with
  | .bool a,.bool b=>V (.bool (rF neg (decide (a=b))))
  | _,_=>False
 | .eqS neg x y=>match isNil y,cS ρ x with
  | true,.sl els=>∀b,(els≠[]->b=false)->V (.bool (rF neg b))
  | true,.slx _=>V (.bool (rF neg false))
  | true,.nils=>V (.bool (rF neg true))
  | _,_=>False
 | .eqN neg x=>match cS ρ x with
  | .ifc _ _=>V (.bool (rF neg false))
  | .opq k=>match Ej k with
   | some b=>V (.bool (rF neg b))
   | none=>False
  | _=>False
 | .eqA neg ks x y=>match cS ρ x,cS ρ y with
  | .agg cs,.agg ds=>match uG ks cs ds true with
   | some b=>V (.bool (rF neg b))
   | none=>False
  | _,_=>False
 | .mkif t x=>match cS ρ x with
  | .int k n=>V (.ifc t (.int k n))
  | .bool b=>V (.ifc t (.bool b))
  | .str s=>V (.ifc t (.str s))
  | .pt es off=>V (.ifc t (.pt es off))
  | .agg cs=>match iF cs with
   | true=>fl cs fun cs=>V (.ifc t (.agg cs))
   | false=>False
  | _=>False
 | .un op x=>match op,cS ρ x with
  | .not,.bool b=>V (.bool (!b))
  | .neg,.int k n=>Fit k (0-n) fun m=>V (.int k m)
  | .xor,.int k n=>V (.int k (k.wrap (BitVec.ofInt k.bits (if k.signed then -1 else k.max) ^^^ BitVec.ofInt k.bits n).toNat))
  | _,_=>False
 | .conv k x=>match cS ρ x with
  | .int _ n=>Fit k n fun m=>V (.int k m)
  | _=>False
 | .mkfn f e d=>V (.fn f (eY ρ e) (eY ρ d))
 | .slc sz x lo hi=>match(cS ρ x).can with
  | .sl els=>match Ml ρ 0 lo,Ml ρ els.length hi with
   | some l,some h=>Se l h els sz fun l h=>V (.sl ((els.drop l).take (h-l)))
   | _,_=>False
  | _=>False
 | .fieldA off x=>match cS ρ x with
  | .own k o=>V (.own k (o+off))
  | .pt es o=>V (.pt es (o+off))
  | .elr k j o=>V (.elr k j (o+off))
  | .ownv k o=>V (.ownv k (o+off))
  | _=>False
 | .idxA sz x i=>match(cS ρ x).can,cS ρ i with
  | .sl els,.int _ i=>uE els i sz fun es=>V (.pt es 0)
  | .rw k,.int _ i=>match L.get k with
   | some (.row _ p els)=>match Nat.beq sz p with
    | true=>Bc i els.length (V (.elr k i.toNat 0))
    | false=>False
   | _=>False
  | _,_=>False
 | .extr x i=>match cS ρ x with
  | .tup r=>match r[i]? with
   | some v=>V v.slt
   | none=>False
  | _=>False
 | .len x=>match(cS ρ x).can with
  | .sl els=>V (.int .i64 els.length)
  | .rw k=>match L.get k with
   | some (.row _ _ els)=>V (.int .i64 els.length)
   | _=>False
  | .opq k=>Jz k fun n=>V (.int .i64 n)
  | _=>False
 | .mlook str ok z x i=>match cS ρ x with
  | .mpr k=>match L.get k with
   | some (.map es)=>xk str es (cS ρ i) (fun v=>match ok with | true=>V (.tup [v,.bool true]) | false=>V v.slt) (match ok with | true=>V (.tup [cv z,.bool false]) | false=>V (cv z))
   | _=>False
  | _=>False
 | .mm mx args=>match args.map (cS ρ) with
  | .int k a::l=>match Ur mx a l with
   | some m=>(Lit.int k m).wf=true/\V (.int k m)
   | none=>False
  | _=>False
 | _=>False
abbrev TK:=TL->aK->Prop
def storeT (b:Bool) (n:Nat) (a x:X) (d:Option Nat) (L:TL) (ρ:aK) (K:TK):Prop :=
 match(cS ρ x).okc,eW (cJ (cS ρ x)) n,eG (cJ (cS ρ x)),cS ρ a with
 | true,true,true,.own k off=>match L.get k with
  | some (.box t cs)=>match eW ((cs.drop off).take n) n with
   | true=>fl (iX cs off (cJ (cS ρ x))) fun cs=>K (L.set k (.box t cs)) (bg d .und ρ)
   | false=>False
  | _=>False
 | true,true,true,.elr k j off=>match b,L.get k,iF (cJ (cS ρ x)) with
  | false,some (.row t sz els),true=>Nat.ble (off+n) sz=true/\EA els j off n fun _=>∀es,els[j]?=some es->K (L.set k (.row t sz (els.set j (iX es off ((cJ (cS ρ x)).map C.can))))) (bg d .und ρ)
  | _,_,_=>False
 | _,_,_,_=>False
def Mq (e sz bytes:Nat) (s x:C) (d:Option Nat) (L:TL) (ρ:aK) (K:TK):Prop :=
 match s,x.can,d with
 | .rw k,.sl a,_=>match L.get k with
  | some (.row l c els)=>match Nat.beq e l,Nat.beq sz c with
   | true,true=>xj els a sz bytes (fT ((L.aad (C.kill k)).set k (.row e sz (els++a))) fun L=>K L (bg d (.rw k) fun j=>(ρ j).kill k))
   | _,_=>False
  | _=>False
 | .nils,.sl a,some k=>match L.get k with
  | none=>xj [] a sz bytes (fT (L.set k (.row e sz a)) fun L=>K L (bg d (.rw k) ρ))
  | some _=>False
 | .slx els,.sl a,some k=>match L.get k with
  | none=>0<a.length/\(∀es∈els,es.length=sz)/\xj els a sz bytes (fT (L.set k (.row e sz (els++a))) fun L=>K L (bg d (.rw k) ρ))
  | some _=>False
 | .rw k,.rw h,_=>match L.get k,L.get h with
  | some (.row l c els),some (.row f b a)=>match Nat.beq e l,Nat.beq sz c,Nat.beq sz b with
   | true,true,true=>xj els a sz bytes (fT ((L.aad (C.kill k)).set k (.row e sz (els++a))) fun L=>K L (bg d (.rw k) fun j=>(ρ j).kill k))
   | _,_,_=>False
  | _,_=>False
 | .nils,.rw h,some k=>match L.get k,L.get h with
  | none,some (.row f b a)=>match Nat.beq sz b with
   | true=>xj [] a sz bytes (K (L.set k (.row e sz a)) (bg d (.rw k) ρ))
   | false=>False
  | _,_=>False
 | _,_,_=>False
def bN (P:Program) (o:dO) (d:Option Nat) (L:TL) (ρ:aK) (K:TK):Prop :=
 match o with
 | .box t x=>match d with
  | some k=>match L.get k,(cS ρ x).okc,RZ t with
   | none,true,true=>fl (cJ (cS ρ x)) fun cs=>K (L.set k (.box t cs)) (bg d (.own k 0) ρ)
   | _,_,_=>False
  | none=>False
 | .boxD t x=>match d with
  | some k=>match L.get k,(cS ρ x).okc,RZ t with
   | none,true,true=>fl (cJ (cS ρ x)) fun cs=>K (L.set k (.box t cs)) (bg d (.own k 0) ρ)
   | _,_,_=>False
  | none=>False
 | .boxF t x=>match(cS ρ x).okc,eG (cJ (cS ρ x)),iF (cJ (cS ρ x)) with
  | true,true,true=>fl ((cJ (cS ρ x)).map C.can) fun cs=>K L (bg d (.pt cs 0) ρ)
  | _,_,_=>False
 | .alloc t zs=>match d with
  | some k=>match L.get k,RZ t with
   | none,true=>fl (zs.map rz) fun cs=>K (L.set k (.box t cs)) (bg d (.own k 0) ρ)
   | _,_=>False
  | none=>False
 | .allocD t zs=>match d with
  | some k=>match L.get k,RZ t with
   | none,true=>fl (zs.map rz) fun cs=>K (L.set k (.box t cs)) (bg d (.own k 0) ρ)
   | _,_=>False
  | none=>False
 | .mkF e n sz xs=>match pR ρ sz xs,Nat.beq xs.length n,Nat.ble n 9223372036854775807 with
  | true,true,true=>K L (bg d (.slx (uz ρ xs)) ρ)
  | _,_,_=>False
 | .mkFD e n sz xs=>match pR ρ sz xs,Nat.beq xs.length n,Nat.ble n 9223372036854775807 with
  | true,true,true=>K L (bg d (.slx (uz ρ xs)) ρ)
  | _,_,_=>False
 | .mkR e n sz xs=>match pR ρ sz xs,Nat.beq xs.length n,Nat.ble n 9223372036854775807,d with
  | true,true,true,some k=>match L.get k with
   | none=>K (L.set k (.row e sz (uz ρ xs))) (bg d (.rw k) ρ)
   | some _=>False
  | _,_,_,_=>False
 | .makeS e sz bytes zs l c=>match cS ρ l,cS ρ c,d with
  | .int _ n,.int _ m,some k=>match L.get k,eW (zs.map rz) sz,eG (zs.map rz) with
   | none,true,true=>mP n m bytes fun n=>K (L.set k (.row e sz (List.replicate n ((zs.map rz).map C.can)))) (bg d (.rw k) ρ)
   | _,_,_=>False
  | _,_,_=>False
 | .makeSD e sz n zs=>match d with
  | some k=>match L.get k,eW (zs.map rz) sz,(Nat.beq n 0||eG (zs.map rz)),Nat.ble n 9223372036854775807 with
   | none,true,true,true=>K (L.set k (.row e sz (List.replicate n ((zs.map rz).map C.can)))) (bg d (.rw k) ρ)
   | _,_,_,_=>False
  | none=>False
 | .makeSV e sz bytes zs x=>match cS ρ x,d with
  | .int _ n,some k=>match L.get k,eW (zs.map rz) sz,eG (zs.map rz) with
   | none,true,true=>mP n n bytes fun n=>K (L.set k (.row e sz (List.replicate n ((zs.map rz).map C.can)))) (bg d (.rw k) ρ)
   | _,_,_=>False
  | _,_=>False
 | .storeK key n a x=>match cS ρ a with
  | .own k _=>match Nat.beq k key with
   | true=>storeT true n a x d L ρ K
   | false=>False
  | _=>False
 | .storeX n a x=>storeT false n a x d L ρ K
 | .store n a x=>storeT false n a x d L ρ K
 | .storeD n a x=>storeT true n a x d L ρ K
 | .call f args=>fl (eY ρ args) fun args=>pV P f args L ρ fun L' ρ' v=>fT L' fun L'=>zV v fun v=>K L' (bg d v ρ')
 | .callV f args=>match cS ρ f with
  | .fn f r q=>fl (r++eY ρ args++q) fun args=>pV P f args L ρ fun L' ρ' v=>fT L' fun L'=>zV v fun v=>K L' (bg d v ρ')
  | .mval p c=>match c with
   | .ifc t c=>Qr P t p fun f=>fl (eY ρ args) fun args=>pV P f (c::args) L ρ fun L' ρ' v=>fT L' fun L'=>zV v fun v=>K L' (bg d v ρ')
   | _=>False
  | .mof t p=>match Pg P t,eY ρ args with
   | true,.ifc w c::h=>Qr P w p fun f=>fl h fun h=>pV P f (c::h) L ρ fun L' ρ' v=>fT L' fun L'=>zV v fun v=>K L' (bg d v ρ')
   | _,_=>False
  | _=>False
 | .callD f args=>fl (eY ρ args) fun args=>uF P f args L ρ d fun L' ρ' v=>fT L' fun L'=>zV v fun v=>K L' (bg d v ρ')
 | .callVD f args=>match cS ρ f with
  | .fn f r q=>fl (r++eY ρ args++q) fun args=>uF P f args L ρ d fun L' ρ' v=>fT L' fun L'=>zV v fun v=>K L' (bg d v ρ')
  | .mval p c=>match c with
   | .ifc t c=>Qr P t p fun f=>fl (eY ρ args) fun args=>uF P f (c::args) L ρ d fun L' ρ' v=>fT L' fun L'=>zV v fun v=>K L' (bg d v ρ')
   | _=>False
  | _=>False
 | .callO f args=>fl (eY ρ args) fun args=>Bo P f args L ρ fun L' ρ' v=>fT L' fun L'=>zV v fun v=>K L' (bg d v ρ')
 | .callVO f args=>match cS ρ f with
  | .fn f r q=>fl (r++eY ρ args++q) fun args=>Bo P f args L ρ fun L' ρ' v=>fT L' fun L'=>zV v fun v=>K L' (bg d v ρ')
  | _=>False
 | .mkmap=>match d with
  | some k=>match L.get k with
   | none=>K (L.set k (.map [])) (bg d (.mpr k) ρ)
   | some _=>False
  | none=>False
 | .mupd str x i v=>match cS ρ x with
  | .mpr k=>match L.get k,Jw str (cS ρ i),(cS ρ v).okc,iF (cJ (cS ρ v)) with
   | some (.map es),true,true,true=>Pe str es (cS ρ i) ((cS ρ v).cel.aaj) fun es=>K (L.set k (.map es)) (bg d .und ρ)
   | _,_,_,_=>False
  | _=>False
 | .app e sz bytes _ s x=>Mq e sz bytes (cS ρ s) (cS ρ x) d L ρ K
 | .appX e sz bytes _ s x=>Mq e sz bytes (cS ρ s) (cS ρ x) d L ρ K
 | .appD e sz bytes _ s x=>match cS ρ s,(cS ρ x).can,d with
  | .rw k,.sl b,_=>match L.get k with
   | some (.row y u els)=>match Nat.beq e y,Nat.beq sz u with
    | true,true=>xj els b sz bytes (fT ((L.aad (C.kill k)).set k (.row e sz (els++b))) fun L=>K L (bg d (.rw k) fun j=>(ρ j).kill k))
    | _,_=>False
   | _=>False
  | .nils,.sl b,some k=>match L.get k with
   | none=>xj [] b sz bytes (fT (L.set k (.row e sz b)) fun L=>K L (bg d (.rw k) ρ))
   | some _=>False
  | .slx els,.sl b,some k=>match L.get k with
   | none=>0<b.length/\(∀es∈els,es.length=sz)/\xj els b sz bytes (fT (L.set k (.row e sz (els++b))) fun L=>K L (bg d (.rw k) ρ))
   | some _=>False
  | _,_,_=>False
 | o=>outT o L ρ fun v=>zV v fun v=>K L (bg d v ρ)
def uI (P:Program) (PS:nD) (o:dO) (d:Option Nat) (L:TL) (ρ:aK) (K:TK):Prop :=
 match o with
 | .call f args=>fl (eY ρ args) fun args=>match PS.st with
  | none=>kR P PS f args L ρ fun L' ρ' v=>fT L' fun L'=>zV v fun v=>K L' (bg d v ρ')
  | some s=>EC P PS.ps PS.hb s f args L ρ fun L' ρ' v=>fT L' fun L'=>zV v fun v=>K L' (bg d v ρ')
 | .callV f args=>match cS ρ f with
  | .fn f b a=>fl (b++eY ρ args++a) fun args=>match PS.st with
   | none=>kR P PS f args L ρ fun L' ρ' v=>fT L' fun L'=>zV v fun v=>K L' (bg d v ρ')
   | some s=>EC P PS.ps PS.hb s f args L ρ fun L' ρ' v=>fT L' fun L'=>zV v fun v=>K L' (bg d v ρ')
  | _=>False
 | .pan x=>match PS.st with
  | none=>Sf PS L (cS ρ x)
  | some s=>UU PS.ps PS.hb s L (cS ρ x)
 | _=>False
def ED (P:Program) (PS:nD) (a:List Nat) (o:dO) (d:Option Nat) (L:TL) (ρ:aK) (K:TK):Prop :=
 match o with
 | .call f args=>fl (eY ρ args) fun args=>match PS.st with
  | some s=>sW P PS.ps PS.hb s a f args L ρ fun L' ρ' v=>fT L' fun L'=>zV v fun v=>K L' (bg d v ρ')
  | none=>oC P PS a f args L ρ fun L' ρ' v=>fT L' fun L'=>zV v fun v=>K L' (bg d v ρ')
 | .callV f args=>match cS ρ f with
  | .fn f c b=>fl (c++eY ρ args++b) fun args=>match PS.st with
   | some s=>sW P PS.ps PS.hb s a f args L ρ fun L' ρ' v=>fT L' fun L'=>zV v fun v=>K L' (bg d v ρ')
   | none=>oC P PS a f args L ρ fun L' ρ' v=>fT L' fun L'=>zV v fun v=>K L' (bg d v ρ')
  | _=>False
 | _=>False
def zW:List ai->TL->Bool
 | [],_=>true
 | s::l,L=>match wV s with
  | none=>zW l L
  | some k=>match L.get k with | none=>zW l L | some _=>false
def rA (d:Option Nat) (ρ:aK):aK :=
 match d with
 | some k=>fun j=>match Nat.beq j k with | true=>(ρ k).aaC | false=>ρ j
 | none=>ρ
def JA (a:Bool) (d:Option Nat) (ρ:aK):aK:=match a with | true=>ρ | false=>rA d ρ
def stepT (P:Program) (PS:nD) (e:Bool) (s:ai) (c:TL->aK->TK->Prop) (L:TL) (ρ:aK) (K:TK):Prop :=
 match s with
 | .op d o none=>bN P o d L ρ fun L' ρ'=>c L' (JA e d ρ') K
 | .op d o (some (s,a))=>match ρ s with
  | .bool b=>yX b
    (match a with
     | true=>bN P o d L (bg (some s) (.bool true) ρ) fun L' ρ'=>c L' (JA e d ρ') K
     | false=>c L (bg d .und (bg (some s) (.bool true) ρ)) K)
    (match a with
     | false=>bN P o d L (bg (some s) (.bool false) ρ) fun L' ρ'=>c L' (JA e d ρ') K
     | true=>c L (bg d .und (bg (some s) (.bool false) ρ)) K)
  | .und=>c L (bg d .und ρ) K
  | _=>False
 | .frz k=>match e,L.get k with
  | false,some (.row _ _ els)=>fT ((L.del k).aad (C.frz k els)) fun L=>c L (fun j=>(ρ j).frz k els) K
  | false,some (.box _ cs)=>match eG cs,iF cs,Nat.blt k 1000,fe (PS.hb.map (·.1)) k with
   | true,true,true,false=>fT ((L.del k).aad (C.frb k cs)) fun L=>c L (fun j=>(ρ j).frb k cs) K
   | _,_,_,_=>False
  | _,_=>False
 | .pc d o none=>match e with
  | true=>False
  | false=>uI P PS o d L ρ fun L' ρ'=>c L' (rA d ρ') K
 | .pc d o (some (s,a))=>match e,ρ s with
  | false,.bool b=>yX b
    (match a with
     | true=>uI P PS o d L (bg (some s) (.bool true) ρ) fun L' ρ'=>c L' (rA d ρ') K
     | false=>c L (bg d .und (bg (some s) (.bool true) ρ)) K)
    (match a with
     | false=>uI P PS o d L (bg (some s) (.bool false) ρ) fun L' ρ'=>c L' (rA d ρ') K
     | true=>c L (bg d .und (bg (some s) (.bool false) ρ)) K)
  | false,.und=>c L (bg d .und ρ) K
  | _,_=>False
def zX (P:Program) (PS:nD) (b:List Nat) (s:ai) (a:TL->aK->TK->Prop) (L:TL) (ρ:aK) (K:TK):Prop :=
 match s with
 | .pc d o none=>ED P PS b o d L ρ fun L' ρ'=>a L' ρ' K
 | s=>stepT P PS true s a L ρ K
noncomputable def cZ (P:Program) (PS:nD) (b:Bool) (ss:List ai):TL->aK->TK->Prop :=
 List.rec (motive:=fun _=>TL->aK->TK->Prop) (fun L ρ K=>K L ρ) (fun s _ a L ρ K=>stepT P PS b s a L ρ K) ss
noncomputable def j3 (P:Program) (PS:nD) (a:List Nat) (ss:List ai):TL->aK->TK->Prop :=
 List.rec (motive:=fun _=>TL->aK->TK->Prop) (fun L ρ K=>K L ρ) (fun s _ b L ρ K=>zX P PS a s b L ρ K) ss
theorem jE {P:Program}{PS:nD}{b:List Nat}{s:ai}{a:List ai}{L:TL}{ρ:aK}{K:TK}:j3 P PS b (s::a) L ρ K=zX P PS b s (j3 P PS b a) L ρ K:=rfl
theorem eH {P:Program}{PS:nD}{b:Bool}{s:ai}{a:List ai}{L:TL}{ρ:aK}{K:TK}:cZ P PS b (s::a) L ρ K=stepT P PS b s (cZ P PS b a) L ρ K:=rfl
def gD:List C->C
 | [v]=>v
 | l=>.tup l
def gF (L:TL) (ρ:aK):List RV->(List C->Prop)->Prop
 | [],K=>K []
 | (t,none)::l,K=>gF L ρ l fun a=>K ((ρ t).cel::a)
 | (t,some (agg,n))::l,K=>match ρ t with
  | .own k off=>match L.get k with
   | some (.box _ cs)=>match eW ((cs.drop off).take n) n with
    | true=>gF L ρ l fun a=>K ((Ey agg ((cs.drop off).take n)).cel::a)
    | false=>False
   | _=>False
  | _=>False
structure f9 (Lin:List TO) (L:TL) (v:C) (R:List TO->C->Prop):Prop where
 out:∃(fz ko:List Nat),xq fz L (fun _=>.any) [v] fun L _ vs =>
  ∃(L1:TL) (c c1:C) (Mo:List TO),vs=[c]/\((L1=L/\c1=c)\/(gives L L1 L1/\Mn L L1 c c1))/\L1.sub ko=some Mo/\aP ko=true/\aI Lin (List.range' 1000 Lin.length) ko=true /\
   (ul [c1]->R (Mo.map (TO.aad (C.ren (bh ko 1000)))) (c1.aat.ren (bh ko 1000)))
def sZ (asg:List Nat) (ρ:aK):aK:=fun j=>match fe asg j with | true=>.any | false=>(ρ j).aaL
structure zY (body:TL->aK->TK->Prop) (asg:List Nat) (L:TL) (ρ:aK):Prop where
 out:∃(σ:Type) (x0:σ) (Inv:σ->Prop) (ls:List Nat) (lv:σ->List C) (Lf:σ->TL) (μ:σ->Nat),
  Inv x0/\mS L (Lf x0) ls (lv x0) ρ/\gives L (Lf x0) (Lf x0)/\(∀x,ou L (Lf x)=true)/\(∀x,(lv x).length=ls.length) /\
  ∀x,Inv x->ul (lv x)->(∀k o,(Lf x).get k=some o->o.Wf)->body (Lf x) (pT ls (lv x) (sZ asg ρ)) fun L' ρ' =>
   ∃x',Inv x'/\mS L' (Lf x') ls (lv x') ρ'/\gives L' (Lf x') (Lf x')/\μ x'<μ x
def dc:List ai->List Nat
 | []=>[]
 | .frz k::l=>k::dc l
 | .op _ _ _::l=>dc l
 | .pc _ _ _::l=>dc l
def fK:ax->List Nat
 | .reg d=>dc d
 | .regD d=>dc d
 | .regX d=>dc d
 | .seq a b=>fK a++fK b
 | .cond _ a b=>fK a++fK b
 | .block _ c=>fK c
 | .loop _ c=>fK c
 | _=>[]
def rP (L:TL):List Nat->Bool
 | []=>true
 | k::ks=>match L.get k with | some (.box _ _)=>false | some (.map _)=>false | _=>rP L ks
noncomputable def evalTC (P:Program) (PS:nD) (c:ax):(Nat->TK)->TK->TK->TK :=
 ax.rec (motive:=fun _=>(Nat->TK)->TK->TK->TK)
  (fun _ _ N L ρ=>N L ρ)
  (fun a _ _ N L ρ=>cZ P PS false a L ρ N)
  (fun a _ _ N L ρ=>cZ P PS true a L ρ N)
  (fun a _ _ N L ρ=>match zW a L with | true=>j3 P PS (Mj a) a L ρ N | false=>False)
  (fun _ _ b d E R N L ρ=>b E R (fun L ρ=>d E R N L ρ) L ρ)
  (fun c _ _ b d E R N L ρ=>match cS ρ c with
   | .bool t=>yX t (b E R N L ρ) (d E R N L ρ)
   | _=>False)
  (fun id _ e E R N L ρ=>e (fun j=>match Nat.beq j id with | true=>N | false=>E j) R N L ρ)
  (fun asg c e E R _ L ρ=>match rP L (fK c) with | true=>zY (fun L ρ K=>e E R K L ρ) asg L ρ | false=>False)
  (fun id E _ _ L ρ=>E id L ρ)
  (fun _ R _ L ρ=>R L ρ) c
section
variable {P:Program}{PS:nD}{E:Nat->TK}{R N:TK}{L:TL}{ρ:aK}
theorem kG:evalTC P PS .skip E R N L ρ=N L ρ:=rfl
theorem lV {a:List ai}:evalTC P PS (.reg a) E R N L ρ=cZ P PS false a L ρ N:=rfl
theorem kH {a:List ai}:evalTC P PS (.regD a) E R N L ρ=cZ P PS true a L ρ N:=rfl
theorem C3 {a:List ai}:evalTC P PS (.regX a) E R N L ρ=(match zW a L with | true=>j3 P PS (Mj a) a L ρ N | false=>False):=rfl
theorem lW {a b:ax}:evalTC P PS (.seq a b) E R N L ρ=evalTC P PS a E R (fun L ρ=>evalTC P PS b E R N L ρ) L ρ:=rfl
theorem kI {c:X}{a b:ax}:evalTC P PS (.cond c a b) E R N L ρ=(match cS ρ c with
   | .bool t=>yX t (evalTC P PS a E R N L ρ) (evalTC P PS b E R N L ρ)
   | _=>False):=rfl
theorem jF {id:Nat}{c:ax}:evalTC P PS (.block id c) E R N L ρ=evalTC P PS c (fun j=>match Nat.beq j id with | true=>N | false=>E j) R N L ρ:=rfl
theorem kJ {asg:List Nat}{c:ax}:evalTC P PS (.loop asg c) E R N L ρ=(match rP L (fK c) with | true=>zY (fun L ρ K=>evalTC P PS c E R K L ρ) asg L ρ | false=>False):=rfl
theorem kK {id:Nat}:evalTC P PS (.exit id) E R N L ρ=E id L ρ:=rfl
theorem lX:evalTC P PS .ret E R N L ρ=R L ρ:=rfl
end
def jM:Nat->List C->aK
 | _,[]=>fun _=>.und
 | k,v::l=>bg (some k) v (jM (k+1) l)
theorem wf_wrap (k:IntKind) (n:Int):(Lit.int k (k.wrap n)).wf=true:=by
 cases k<;>simp[Lit.wf,IntKind.wrap,IntKind.min,IntKind.max,IntKind.bits,IntKind.signed]<;>(try split)<;>omega
theorem EF (k:IntKind) (n:Int):(Lit.int k n).wf=true↔k.min<=n/\n<=k.max:=by simp[Lit.wf]
theorem FE (k:IntKind):k.min<=0:=by cases k<;>simp[IntKind.min,IntKind.bits,IntKind.signed]
theorem FG (k:IntKind):127<=k.max:=by cases k<;>simp[IntKind.max,IntKind.bits,IntKind.signed]
def okB:Value->Prop
 | .int k n=>(Lit.int k n).wf=true
 | .bool _=>True
 | .string s=>s.size<=maxLen
 | _=>False
section
variable {P:Program}{G:Nat->Option (Nat×TypeId)}{F:au}{L:Loc}{ρ:Env}{M:TL}{τ:aK}
theorem xB {v:Value}(h:okB v):aL F L (Qq v) (.v v):=by
 cases v
 case int k n=>exact⟨.int k n,rfl,by simp only[Qq,Rel];exact⟨trivial,h⟩⟩
 case bool b=>exact⟨.bool b,rfl,by simp only[Qq,Rel]⟩
 case string b=>exact⟨.string b,rfl,by simp only[Qq,Rel];exact⟨trivial,h⟩⟩
 all_goals exact h.elim
theorem Mr {k:IntKind}{a b:Int}(h:(Lit.int k a).wf=true):(Lit.int k (a.tmod b)).wf=true:=by
 rw[EF] at h ⊢;have h0:=FE k;have h1:=FG k
 by_cases d:0<=a
 ·have:=Int.tmod_nonneg b d;have c:a.tmod b<=a:=by
   have:(a.tmod b).natAbs<=a.natAbs:=by rw[Int.natAbs_tmod];exact Nat.mod_le _ _
   omega
  omega
 ·have c:(a.tmod b).natAbs<=a.natAbs:=by rw[Int.natAbs_tmod];exact Nat.mod_le _ _
  have e:a.tmod b<=0:=by
   have:=Int.tmod_nonneg b (show 0<=-a by omega);rw[Int.neg_tmod] at this;omega
  omega
theorem Ms {k:IntKind}{a:Int}{m:Nat}(h:(Lit.int k a).wf=true):(Lit.int k (a.fdiv (2 ^ m))).wf=true:=by
 rw[EF] at h ⊢;have h0:=FE k;have h1:=FG k;have b:(0:Int)<2 ^ m:=Int.pow_pos (by omega);rw[Int.fdiv_eq_ediv_of_nonneg _ (by omega)]
 by_cases c:0<=a
 ·have d:=Int.ediv_nonneg c (Int.le_of_lt b);have e:=Int.ediv_le_self (2 ^ m) c;omega
 ·have d:a / 2 ^ m<0:=Int.ediv_neg_of_neg_of_pos (by omega) b;have e:a<=a / 2 ^ m:=by
   have:a*1<=a / 2 ^ m:=by
    apply Int.le_ediv_of_mul_le b;rw[Int.mul_one];have:a*2 ^ m<=a*1:=Int.mul_le_mul_of_nonpos_left (by omega) (by omega);omega
   omega
  omega
theorem Hr {op:BinOp}{k:IntKind}{a b:Int}{K K':Value->Prop}(d:(Lit.int k a).wf=true) (h:binI op k a b K) (c:∀v,okB v->K v->K' v):binI op k a b K':=by
 cases op<;>simp only[binI] at h ⊢<;>first
  | exact h.elim
  | exact⟨c _ (wf_wrap _ _) h.out⟩
  | exact⟨h.ne,⟨c _ (wf_wrap _ _) h.out.out⟩⟩
  | exact⟨h.ne,c _ (Mr d) h.out⟩
  | exact c _ (wf_wrap _ _) h
  | exact c _ trivial h
theorem JB {op:BinOp}{k:IntKind}{a b:Int}{K K':Value->Prop}(d:(Lit.int k a).wf=true) (h:shI op k a b K) (c:∀v,okB v->K v->K' v):shI op k a b K':=by
 cases op<;>simp only[shI] at h ⊢<;>first
  | exact h.elim
  | exact⟨h.1,⟨c _ (wf_wrap _ _) h.2.out⟩⟩
  | exact⟨h.1,c _ (Ms d) h.2⟩
theorem Hs {op:BinOp}{a b:ByteArray}{K K':Value->Prop}(h:binS op a b K) (c:∀v,okB v->K v->K' v):binS op a b K':=by
 cases op<;>simp only[binS] at h ⊢<;>first
  | exact h.elim
  | exact c _ trivial h
  | exact⟨h.1,c _ (by
    have h1:=h.1;simp[IntKind.max,IntKind.bits,IntKind.signed] at h1;show(a++b).size<=maxLen;rw[ByteArray.size_append];simp only[maxLen];omega) h.2⟩
theorem Bq (v:Value):Rel F L (rz v) v:=by
 unfold rz;split
 ·split
  ·rename_i h;simp only[Rel];exact⟨trivial,h⟩
  ·simp only[Rel]
 ·simp only[Rel]
 ·split
  ·rename_i h;simp only[Rel];exact⟨trivial,aa6 h⟩
  ·simp only[Rel]
 ·simp only[Rel]
 ·simp only[Rel]
 ·simp only[Rel]
 ·simp only[Rel];exact LF
 ·simp only[Rel]
 ·simp only[Rel]
theorem kL:∀a:List Value,ay F L (a.map rz) a
 | []=>by simp only[abv,ay]
 | v::a=>by simp only[aaW,ay];exact⟨v,a,rfl,Bq v,kL a⟩
theorem Sh (v:Value):aL F L (rz v) (.v v):=by
 have h:=Bq (F:=F) (L:=L) v
 revert h
 unfold rz;split
 ·split
  ·exact fun h=>⟨_,rfl,h⟩
  ·exact fun h=>trivial
 ·exact fun h=>⟨_,rfl,h⟩
 ·split
  ·exact fun h=>⟨_,rfl,h⟩
  ·exact fun h=>trivial
 ·exact fun h=>⟨_,rfl,h⟩
 ·exact fun h=>⟨_,rfl,h⟩
 ·exact fun h=>⟨_,rfl,h⟩
 ·exact fun h=>⟨_,rfl,h⟩
 ·exact fun h=>⟨_,rfl,h⟩
 ·exact fun h=>trivial
theorem Si (v:Value):aL F L (cv v) (.v v):=by
 unfold cv;split
 ·rename_i cs;exact⟨_,rfl,by simp only[Rel];exact⟨cs.toList,by simp,kL _⟩⟩
 ·exact Sh v
theorem dQ (h:∀j,aL F L (τ j) (ρ j)) (x:X):aL F L (cS τ x) (ev ρ x):=by
 cases x with
 | t n=>exact h n
 | c v=>exact Si v
 | fn f=>exact⟨_,rfl,by simp only[cS,Rel];exact⟨[],[],by simp,by simp only[ay],by simp only[ay]⟩⟩
 | mt k n =>
  have a:=h n;simp only[cS,ev,Xv];split
  ·rename_i t c e;rw[e] at a;simp only[aL] at a ⊢;obtain⟨v,d,b⟩:=a;rw[d];refine⟨_,rfl,?_⟩;simp only[Rel] at b ⊢;exact⟨v,rfl,b⟩
  ·simp only[aL]
theorem gA {x:X}{k:IntKind}{n:Int}(h:∀j,aL F L (τ j) (ρ j)) (e:cS τ x=.int k n):ev ρ x=.v (.int k n)/\(Lit.int k n).wf=true:=by
 have:=dQ h x;rw[e] at this;simp only[aL,Rel] at this;obtain⟨v,h1,rfl,a⟩:=this;exact⟨h1,a⟩
theorem iQ {x:X}{b:Bool}(h:∀j,aL F L (τ j) (ρ j)) (e:cS τ x=.bool b):ev ρ x=.v (.bool b):=by
 have:=dQ h x;rw[e] at this;simp only[aL,Rel] at this;obtain⟨v,h1,rfl⟩:=this;exact h1
theorem wj {x:X}{s:ByteArray}(h:∀j,aL F L (τ j) (ρ j)) (e:cS τ x=.str s):ev ρ x=.v (.string s)/\s.size<=maxLen:=by
 have:=dQ h x;rw[e] at this;simp only[aL,Rel] at this;obtain⟨v,h1,rfl,a⟩:=this;exact⟨h1,a⟩
theorem Qs {x:X}{els:List (List C)}(h:∀j,aL F L (τ j) (ρ j)) (e:cS τ x=.sl els) :
  ∃a c sz,ev ρ x=.v (.slice a els.length c)/\els.length<=c/\els.length<=maxLen/\(a=none->els=[]/\c=0)/\gu F a sz 0 els:=by
 have:=dQ h x;rw[e] at this;simp only[aL,Rel] at this;obtain⟨v,h1,a,c,rfl,b,d,k,sz,f⟩:=this;exact⟨a,c,sz,h1,b,d,k,f⟩
theorem s5 {x:X}(h:∀j,aL F L (τ j) (ρ j)) (e:cS τ x=.nils):ev ρ x=.v (.slice none 0 0):=by
 have:=dQ h x;rw[e] at this;simp only[aL,Rel] at this;obtain⟨v,h1,rfl⟩:=this;exact h1
theorem EG {x:X}{k:Nat}(h:∀j,aL F L (τ j) (ρ j)) (e:cS τ x=.rw k):∃a c t sz n xs,ev ρ x=.v (.slice a n c)/\L.get k=some (.row (.slice a n c) t sz n xs):=by
 have:=dQ h x;rw[e] at this;simp only[aL,Rel] at this;obtain⟨v,h1,a,c,t,sz,n,xs,rfl,b⟩:=this;exact⟨a,c,t,sz,n,xs,h1,b⟩
theorem iY {x:X}{k off:Nat}(h:∀j,aL F L (τ j) (ρ j)) (e:cS τ x=.own k off):ev ρ x=.own k off/\∃g t cs,L.get k=some (.box g t cs):=by
 have:=dQ h x;rw[e] at this;simp only[aL] at this;exact this
theorem s6 {x:X}{k off:Nat}(h:∀j,aL F L (τ j) (ρ j)) (e:cS τ x=.ownv k off):∃g t cs,L.get k=some (.box g t cs)/\Us (ev ρ x) (.pointer (some ⟨g,off,none⟩)):=by
 have:=dQ h x;rw[e] at this;simp only[aL,Rel] at this;obtain⟨v,h1,g,t,cs,a,rfl⟩:=this;exact⟨g,t,cs,a,h1⟩
theorem uJ {x:X}{f:Nat}{d c:List C}(h:∀j,aL F L (τ j) (ρ j)) (e:cS τ x=.fn f d c):∃b a,ev ρ x=.v (.func (.func f) b.toArray a.toArray)/\ay F L d b/\ay F L c a:=by
 have:=dQ h x;rw[e] at this;simp only[aL,Rel] at this;obtain⟨v,h1,b,a,rfl,k,l⟩:=this;exact⟨b,a,h1,k,l⟩
theorem Br {x:X}{cs:List C}(h:∀j,aL F L (τ j) (ρ j)) (e:cS τ x=.agg cs):∃a,ev ρ x=.v (.agg a.toArray)/\ay F L cs a:=by
 have:=dQ h x;rw[e] at this;simp only[aL,Rel] at this;obtain⟨v,h1,a,rfl,b⟩:=this;exact⟨a,h1,b⟩
theorem Mt {x:X}{cs:List C}(h:∀j,aL F L (τ j) (ρ j)) (e:cS τ x=.tup cs):∃a,ev ρ x=.v (.tuple a.toArray)/\ay F L cs a:=by
 have:=dQ h x;rw[e] at this;simp only[aL,Rel] at this;obtain⟨v,h1,a,rfl,b⟩:=this;exact⟨a,h1,b⟩
theorem Mu {x:X}{t:TypeId}{c:C}(h:∀j,aL F L (τ j) (ρ j)) (e:cS τ x=.ifc t c):∃u,ev ρ x=.v (.iface t u)/\Rel F [] c u:=by
 have:=dQ h x;rw[e] at this;simp only[aL,Rel] at this;obtain⟨v,h1,u,rfl,a⟩:=this;exact⟨u,h1,a⟩
theorem FH {x:X}{k:Nat}(h:∀j,aL F L (τ j) (ρ j)) (e:cS τ x=.opq k):∃v,ev ρ x=.v v/\gL k F v:=by
 have:=dQ h x;rw[e] at this;simp only[aL,Rel] at this;exact this
theorem xC {x:X}{a:String}{c:C}(h:∀j,aL F L (τ j) (ρ j)) (e:cS τ x=.mval a c):∃u,ev ρ x=.v (.func (.method a) #[u] #[])/\Rel F [] c u:=by
 have:=dQ h x;rw[e] at this;simp only[aL,Rel] at this;obtain⟨v,h1,u,rfl,b⟩:=this;exact⟨u,h1,b⟩
theorem Mv {x:X}{t:TypeId}{a:String}(h:∀j,aL F L (τ j) (ρ j)) (e:cS τ x=.mof t a):ev ρ x=.v (.func (.methodOf t a) #[] #[]):=by
 have:=dQ h x;rw[e] at this;simp only[aL,Rel] at this;obtain⟨v,h1,rfl⟩:=this;exact h1
theorem rQ {x:X}{es:List C}{off:Nat}(h:∀j,aL F L (τ j) (ρ j)) (e:cS τ x=.pt es off) :
  ∃b o j a,(ev ρ x=.v (.pointer (some ⟨b,o,none⟩))/\j=0\/ev ρ x=.el (some ⟨b,o,none⟩) j)/\Mp F b (o+j) off a/\eG es=true/\ay F [] es a:=by
 have:=dQ h x;rw[e] at this;simp only[aL] at this;exact this
theorem wk {x:X}{k j off:Nat}(h:∀j,aL F L (τ j) (ρ j)) (e:cS τ x=.elr k j off) :
  ∃a t sz n c xs,ev ρ x=.el (some a) (j*sz+off)/\L.get k=some (.row (.slice (some a) n c) t sz n xs):=by
 have:=dQ h x;rw[e] at this;simp only[aL] at this;exact this
theorem kS (h:bK F L M) {k:Nat}{t:TypeId}{cs:List C}(e:M.get k=some (.box t cs)):∃g a b,L.get k=some (.box g a b)/\ay F L cs b/\tyOk t g a:=by
 have:=h k;rw[e] at this;cases c:L.get k with
 | none=>rw[c] at this;exact this.elim
 | some o =>
  rw[c] at this;cases o with
  | row=>exact this.elim
  | box g a b=>obtain⟨h1,d⟩:=this;exact⟨g,a,b,rfl,d,h1⟩
theorem lY (h:bK F L M) {k:Nat}{t:TypeId}{sz:Nat}{els:List (List C)}(e:M.get k=some (.row t sz els)) :
  ∃v xs,L.get k=some (.row v t sz els.length xs)/\(els.length<=maxLen/\∃a c,v=.slice a els.length c/\(a=none->els.length=0))/\aN F sz els xs:=by
 have:=h k;rw[e] at this;cases b:L.get k with
 | none=>rw[b] at this;exact this.elim
 | some o =>
  rw[b] at this;cases o with
  | box=>exact this.elim
  | row v l j n xs=>obtain⟨rfl,rfl,rfl,d,f⟩:=this;exact⟨v,xs,rfl,d,f⟩
theorem bY (h:bK F L M) {k:Nat}(e:M.get k=none):L.get k=none:=by
 have:=h k;rw[e] at this;cases a:L.get k with
 | none=>rfl
 | some o=>rw[a] at this;exact this.elim
theorem bW:∀{l:List C}{n:Nat},eW l n=true->l.length=n
 | [],0,_=>rfl
 | [],n+1,h=>by simp[eW] at h
 | _::l,0,h=>by simp[eW] at h
 | _::l,n+1,h=>by simp only[eW] at h;simp[bW h]
theorem jc:∀{l:List Value}{n:Nat},l.length=n->gQ l n=true
 | [],0,_=>rfl
 | [],n+1,h=>by simp at h
 | _::l,0,h=>by simp at h
 | _::l,n+1,h=>by simp only[gQ];exact jc (by simpa using h)
theorem kx {c:C}{v:Value}(h:Rel F L c v):aL F L c.slt (.v v):=by
 cases c<;>(try simp only[C.slt])<;>try exact⟨v,rfl,h⟩
 case any=>trivial
 case pt es off =>
  simp only[Rel] at h;obtain⟨b,o,e,rfl,a,d⟩:=h;exact⟨b,o,0,e,.inl ⟨rfl,rfl⟩,a,d⟩
 case own=>exact⟨v,.inl rfl,h⟩
 case ownv=>exact h.elim
 case elr=>exact h.elim
theorem eC {agg:Bool}{cs:List C}{a:List Value}(h:ay F L cs a):aL F L (Ey agg cs) (.v (gT agg a)):=by
 cases agg with
 | true=>exact⟨_,rfl,by simp only[Ey,gT,Rel];exact⟨a,rfl,h⟩⟩
 | false =>
  match cs,a,h with
  | [],a,h=>trivial
  | [c],a,h =>
   simp only[ay] at h;obtain⟨v,b,rfl,h1,rfl⟩:=h;exact kx h1
  | _::_::_,a,h=>trivial
theorem Us.conc {sv:SV}{v:Value}(h:Us sv v):Fr.conc L sv=v:=by
 rcases h with rfl | ⟨b,o,j,rfl,rfl⟩
 ·rfl
 ·simp only[Fr.conc,cU]
theorem Mw {c:C}{sv:SV}(h:aL F L c sv) (n:c.one=true\/(∃k o,c=.ownv k o)\/c=.any\/(∃k j o,c=.elr k j o)\/(∃l,c=.agg l)\/(∃l,c=.tup l)\/c=.und):Rel F L c.cel (conc L sv):=by
 cases c<;>simp only[C.cel]<;>simp only[aL] at h
 case own k off =>
  obtain⟨rfl,g,t,cs,h⟩:=h;simp only[Rel,conc,h];exact⟨g,t,cs,rfl,rfl⟩
 case ownv k off =>
  obtain⟨v,m,h⟩:=h;rw[m.conc];exact h
 case pt es off =>
  obtain⟨b,o,j,d,h1,a,e,f⟩:=h;simp only[Rel];rcases h1 with⟨rfl,rfl⟩ | rfl
  ·exact⟨b,o,d,rfl,a,e,f⟩
  ·exact⟨b,o+j,d,by simp only[conc,cU],a,e,f⟩
 case elr=>simp only[Rel]
 case any=>simp only[Rel]
 all_goals
  obtain⟨v,rfl,h⟩:=h;simpa only[conc] using h
theorem lZ {c:C}{sv:SV}(h:aL F L c sv):Rel F L c.cel (conc L sv):=by
 apply Mw h;cases c<;>simp[C.one]
theorem Bs (h:∀j,aL F L (τ j) (ρ j)) (x:X):Rel F L (cS τ x).cel (val L ρ x):=lZ (dQ h x)
theorem dL (h:∀j,aL F L (τ j) (ρ j)):∀xs:List X,ay F L (eY τ xs) (aZ L ρ xs)
 | []=>by simp only[eY,aZ,ay]
 | x::xs=>by simp only[eY,aZ,ay];exact⟨_,_,rfl,Bs h x,dL h xs⟩
theorem EH {c:C}{sv:SV}(h:aL F L c sv) (b:c.okc=true):ay F L (cJ c) (aM (conc L sv)):=by
 have h1:=lZ h;cases c<;>simp only[C.okc,aa1] at b<;>simp only[cJ]<;>simp only[C.cel] at h1 ⊢
 case agg cs =>
  simp only[Rel] at h1;obtain⟨e,a,d⟩:=h1;rw[a];simpa only[aM] using d
 all_goals
  simp only[ay];refine⟨_,[],?_,h1,rfl⟩
  revert h1
  generalize conc L sv=v;intro h1;simp only[Rel] at h1
  first
   | (have a:=gL.one h1;cases v<;>first | rfl | (exact o5 a (by decide)) | (simp[Value.oneCell'] at a))
   | (obtain⟨rfl,_⟩:=h1;rfl)
   | (subst h1;rfl)
   | (obtain⟨_,rfl,_⟩:=h1;rfl)
   | (obtain⟨_,_,rfl,_⟩:=h1;rfl)
   | (obtain⟨_,_,_,rfl,_⟩:=h1;rfl)
   | (obtain⟨_,_,_,_,_,_,rfl,_⟩:=h1;rfl)
   | (obtain⟨_,_,_,_,rfl⟩:=h1;rfl)
theorem hU (h:∀j,aL F L (τ j) (ρ j)) {x:X}(a:(cS τ x).okc=true):ay F L (cJ (cS τ x)) (aM (val L ρ x)):=EH (dQ h x) a
theorem mH {cs:List C}{a:List Value}{off:Nat}{ds:List C}{us:List Value}(h:ay F L cs a) (k:ay F L ds us):ay F L (iX cs off ds) (bO a off us):=by
 simp only[iX,bO];rw[<-k.len];exact((h.take off).append k).append (h.drop _)
theorem zZ (h:∀j,aL F L (τ j) (ρ j)):∀(ps:List (Nat×Nat×X)) {zs:List C}{a:List Value}{cs:List C},ay F L zs a->uD τ zs ps=some cs->∃us,built L ρ a ps=some us/\ay F L cs us
 | [],zs,a,cs,b,hb=>by
  simp only[uD,vz] at hb;subst hb;exact⟨a,rfl,b⟩
 | (off,n,x)::ps,zs,a,cs,b,hb=>by
  simp only[uD] at hb;split at hb
  case h_2=>cases hb
  rename_i h1 d;have c:=hU h h1;have e:gQ (aM (val L ρ x)) n=true:=jc (by rw[c.len];exact bW d);simp only[built,e];exact zZ h ps (mH b c) hb
theorem FI (h:∀j,aL F L (τ j) (ρ j)) {d i:Int}{x:Option X}(e:Ml τ d x=some i):mV ρ d x=some i:=by
 cases x with
 | none=>exact e
 | some x =>
  simp only[Ml] at e;split at e
  case h_2=>cases e
  rename_i k j a;injection e with e
  subst e;simp only[mV,(gA h a).1]
theorem JC (h:∀j,aL F L (τ j) (ρ j)) (mx:Bool):∀(args:List X) {a m:Int},Ur mx a (args.map (cS τ))=some m->O5 mx a (args.map (ev ρ))=some m
 | [],a,m,e=>e
 | x::args,a,m,e=>by
  simp only[aaW] at e ⊢;cases b:cS τ x<;>rw[b] at e<;>simp only[Ur,reduceCtorEq] at e;rw[(gA h b).1];exact JC h mx args e
theorem JD {a:Option Addr}{sz:Nat}{els:List (List C)}{c l h:Nat}(m:gu F a sz 0 els) (y:a=none->els=[]/\c=0) (hl:l<=h) (hh:h<=els.length) (z:els.length<=c) :
  gu F (if c=l then a else a.map (·.add (l*sz))) sz 0 ((els.drop l).take (h-l)):=by
 rw[nB] at m ⊢;intro j es d;rw[abH] at d;split at d
 case isFalse=>cases d
 rename_i hj;rw[abw] at d;obtain⟨r,h1,q,s,w⟩:=m _ es d;have x:l+j<els.length:=(aaR.1 d).1;rw[fL (by omega)];refine⟨r,h1,?_,s,w⟩;obtain⟨u,k,t,n,e,hb,f,p⟩:=q;subst e;obtain⟨b,o,sp⟩:=u;simp only at f;subst f;refine⟨⟨b,o+l*sz,none⟩,k,t,n,by simp only[abl,cU],hb,rfl,fun i v hi=>?_⟩;have:=p i v hi;simp only[Nat.zero_add,Nat.add_mul] at this ⊢;rw[show o+l*sz+j*sz+i=o+(l*sz+j*sz)+i by omega];exact this
theorem kM {b o j off n:Nat}{es:List C}{e:List Value}(l:Mp F b (o+j) off e):dG F (some ⟨b,o,none⟩) j ((e.drop off).take n):=by
 obtain⟨d,a,t,k,h1,f,h⟩:=l;refine⟨_,a,t,k,rfl,h1,rfl,fun i v c=>?_⟩;rw[abH] at c;split at c
 case isFalse=>cases c
 rw[abw] at c;have:=h _ _ c;show a[o+j+i]?=_;rw[f,Nat.add_assoc];exact this
theorem ji {L':Loc}{cs:List C}{e:List Value}(n:iF cs=true) (h:ay F L cs e):ay F L' cs e:=by
 have b:∀(c:C) (v:Value),c.aal=true->Rel F L c v->Rel F L' c v:=by
  intro c v d h;cases c<;>simp only[C.aal,aa1] at d<;>simp only[Rel] at h ⊢<;>exact h
 have a:∀(cs:List C) (e:List Value),ja cs=true->ay F L cs e->ay F L' cs e:=by
  intro cs e d h;rw[lU] at h ⊢;exact⟨h.1,fun i c v h1 f=>b c v (pU.1 d c (aaX h1)) (h.2 i c v h1 f)⟩
 rw[lU] at h ⊢;refine⟨h.1,fun i c v h1 f=>?_⟩;have d:=xw.1 n c (aaX h1);have l:=h.2 i c v h1 f;cases c<;>first
  | exact b _ _ d l
  | (simp only[C.pure,C.aal,aa1] at d;done)
  | (simp only[C.pure] at d
     split at d
     case h_2=>cases d
     rename_i j;simp only[Rel] at l ⊢;obtain⟨m,k,o,q,p⟩:=l;exact⟨m,k,o,a _ _ j q,a _ _ d p⟩)
theorem uK {els:List (List C)}{v:Value}(h:Rel F L (.slx els) v):Rel F L (.sl els) v:=by
 simp only[Rel] at h ⊢;obtain⟨a,h1,b,sz,c⟩:=h;exact⟨some a,els.length,h1,aa0 _,b,fun e=>(by cases e),sz,c⟩
theorem s9 {c:C}{v:Value}(h:Rel F L c v):Rel F L c.can v:=by
 cases c<;>first
  | exact h
  | exact uK h
  | (simp only[Rel] at h
     subst h;simp only[C.can,Rel];exact⟨none,0,by simp,by simp,by simp,fun _=>by simp,0,by simp only[gu]⟩)
theorem kN {cs:List C}{a:List Value}(h:ay F L cs a):ay F L (cs.map C.can) a:=h.map fun c _ v=>s9
theorem iR {c:C}{v:Value}(h:Rel F L c v):Rel F L c.aaj v:=by
 cases c<;>first
  | exact h
  | exact s9 (c:=.nils) h
  | exact uK h
  | (simp only[Rel] at h
     obtain⟨b,h1,a⟩:=h;simp only[C.aaj,Rel];exact⟨b,h1,kN a⟩)
theorem JE {c:C}{sv:SV}(h:aL F L c sv):aL F L c.can sv:=by
 cases c<;>first
  | exact h
  | (obtain⟨v,e,a⟩:=h;exact⟨v,e,uK a⟩)
  | (obtain⟨v,e,a⟩:=h;exact⟨v,e,s9 (c:=.nils) a⟩)
theorem lg {x:X}{els:List (List C)}(h:∀j,aL F L (τ j) (ρ j)) (e:(cS τ x).can=.sl els) :
  ∃a c sz,ev ρ x=.v (.slice a els.length c)/\els.length<=c/\els.length<=maxLen/\(a=none->els=[]/\c=0)/\gu F a sz 0 els:=by
 have:=JE (dQ h x);rw[e] at this;simp only[aL,Rel] at this;obtain⟨v,h1,a,c,rfl,b,d,k,sz,f⟩:=this;exact⟨a,c,sz,h1,b,d,k,f⟩
theorem Mx {c:C}{k:Nat}(e:c.can=.opq k):c=.opq k:=by cases c<;>simp only[C.can,reduceCtorEq] at e<;>exact e
theorem Bt {c:C}{k:Nat}(e:c.can=.rw k):c=.rw k:=by cases c<;>simp only[C.can,reduceCtorEq] at e<;>exact e
theorem Bu {x:X}{els:List (List C)}(h:∀j,aL F L (τ j) (ρ j)) (e:cS τ x=.slx els) :
  ∃a sz,ev ρ x=.v (.slice (some a) els.length els.length)/\els.length<=maxLen/\gu F (some a) sz 0 els:=by
 have:=dQ h x;rw[e] at this;simp only[aL,Rel] at this;obtain⟨v,h1,a,rfl,b,sz,c⟩:=this;exact⟨a,sz,h1,b,c⟩
theorem My {c:C}(h:c.one=true):c.can.one=true:=by cases c<;>first | exact h | rfl
theorem nE {cs:List C}(h:eG cs=true):eG (cs.map C.can)=true:=by
 rw[nC] at h ⊢;intro c a;obtain⟨d,b,rfl⟩:=abq.1 a;exact My (h d b)
theorem nF {cs:List C}{b:List Value}(h:ay F L cs b) (c:eG cs=true):∀u∈b,u.oneCell'=true:=by
 intro u d;obtain⟨i,hi⟩:=abb.1 d;have a:i<cs.length:=by rw[<-h.len];exact(aaR.1 hi).1
 have e:=h.at (aaN a) hi;exact e.one (nC.1 c _ (List.getElem_mem a))
theorem wm:∀{a:List Value},(∀u∈a,u.oneCell'=true)->jQ a=true
 | [],_=>rfl
 | v::a,h=>by simp only[jQ,h v (by simp)];exact wm fun u b=>h u (by simp[b])
end
section
variable {P:Program}{G:Nat->Option (Nat×TypeId)}{F:au}{L:Loc}{ρ:Env}{M:TL}{τ:aK}
theorem l9 {k:IntKind}{n:Int}(h:(Lit.int k n).wf=true):aL F L (.int k n) (.v (.int k n)):=⟨_,rfl,by simp only[Rel];exact⟨trivial,h⟩⟩
theorem fW {b:Bool}:aL F L (.bool b) (.v (.bool b)):=⟨_,rfl,by simp only[Rel]⟩
theorem JF {es:List C}{e:List Value}{c:Addr}{j:Nat}{a:Array Value}{t:TypeId}{f:Nat×Nat}(hb:F c.block=some (.cells a t f)) (d:c.spot=none)
  (h:∀(i:Nat) v,e[i]?=some v->a[c.off+j+i]?=some v) (h1:eG es=true) (k:ay F [] es e):aL F L (.pt es 0) (.el (some c) j):=by
 obtain⟨b,o,l⟩:=c;simp only at d;subst d;exact⟨b,o,j,e,.inr rfl,⟨o+j,a,t,f,hb,rfl,h⟩,h1,k⟩
theorem Mz {els:List (List C)}{a:Option Addr}{c sz:Nat}(h1:els.length<=c) (b:els.length<=maxLen) (d:a=none->els=[]/\c=0) (e:gu F a sz 0 els):aL F L (.sl els) (.v (.slice a els.length c)) :=
 ⟨_,rfl,by simp only[Rel];exact⟨a,c,rfl,h1,b,d,sz,e⟩⟩
set_option maxHeartbeats 1000000 in
theorem MA:∀{ks:List Bool}{cs ds:List C}{d b:Bool}{e us:List Value},uG ks cs ds d=some b->ay F L cs e->ay F L ds us->iO ks e.toArray.toList us.toArray.toList d=some b:=by
 intro ks
 induction ks with
 | nil =>
  intro cs ds d b e us h h1 a;cases cs with
  | cons c cs=>simp[uG] at h
  | nil =>
   cases ds with
   | cons c cs=>simp[uG] at h
   | nil =>
    simp only[ay] at h1 a;subst h1 a;simpa[iO,uG] using h
 | cons k ks l =>
  intro cs ds d b e us h h1 a;cases cs with
  | nil=>cases k<;>simp[uG] at h
  | cons c cs =>
   cases ds with
   | nil=>cases k<;>cases c<;>simp[uG] at h
   | cons m ds =>
    cases k<;>cases c<;>try (simp[uG] at h;done)
    all_goals cases m<;>try (simp[uG] at h;done)
    all_goals simp only[ay,Rel] at h1 a
    ·obtain⟨v,f,rfl,rfl,h1⟩:=h1;obtain⟨u,j,rfl,rfl,a⟩:=a;simp only[uG] at h;have:=l h h1 a;simp only[iO];exact this
    ·obtain⟨v,f,rfl,⟨rfl,_⟩,h1⟩:=h1;obtain⟨u,j,rfl,⟨rfl,_⟩,a⟩:=a;simp only[uG] at h;split at h
     case h_2=>cases h
     rename_i n;have:=l h h1 a;simp only[iO,n];exact this
theorem Qt (v:Value):Rel F L (cv v) v:=by
 unfold cv;split
 ·rename_i cs;simp only[Rel];exact⟨cs.toList,by simp,kL _⟩
 ·exact Bq v
theorem FJ {x:X}{k:Nat}(h:∀j,aL F L (τ j) (ρ j)) (e:cS τ x=.mpr k):∃g cs,ev ρ x=.v (.map (some g))/\L.get k=some (.box g 0 cs):=by
 have:=dQ h x;rw[e] at this;simp only[aL,Rel] at this;obtain⟨v,h1,g,cs,a,rfl⟩:=this;exact⟨g,cs,h1,a⟩
theorem JG (h:bK F L M) {k:Nat}{es:List (C×C)}(e:M.get k=some (.map es)):∃g a,L.get k=some (.box g 0 a)/\fC F es a:=by
 have:=h k;rw[e] at this;cases b:L.get k with
 | none=>rw[b] at this;exact this.elim
 | some o =>
  rw[b] at this;cases o with
  | row=>exact this.elim
  | box g d a=>obtain⟨rfl,c⟩:=this;exact⟨g,a,rfl,c⟩
theorem fC.isMap {es:List (C×C)}{a:List Value}(h:fC F es a):kZ a=true:=by
 cases es with
 | nil=>simp only[fC] at h;subst h;rfl
 | cons p l =>
  obtain⟨k,c⟩:=p;simp only[fC] at h;obtain⟨kv,v,b,rfl,_⟩:=h;rfl
theorem fC.len:∀{es:List (C×C)}{a:List Value},fC F es a->a.length=es.length
 | [],a,h=>by simp only[fC] at h;subst h;rfl
 | (k,c)::l,a,h=>by
  simp only[fC] at h;obtain⟨kv,v,b,rfl,_,_,h⟩:=h;simp[fC.len h]
theorem pX {str:Bool}{a b:C}{u v:Value}{r:Bool}{L':Loc}(h:jA str a b=some r) (c:Rel F L a u) (hb:Rel F L' b v):eS str u v=some r:=by
 unfold jA at h;split at h
 ·simp only[Rel] at c hb;rw[c.1,hb.1];exact h
 ·simp only[Rel] at c hb;rw[c.1,hb.1];exact h
 ·cases h
theorem xD {str:Bool}{key:C}{kv:Value}(f:∀b v r,jA str key b=some r->Rel F [] b v->eS str kv v=some r):∀{es:List (C×C)}{a:List Value}{o:Option C}(i:Nat),fC F es a->vu str key es=some o ->
  match o with | some c=>∃j v,lI str kv a i=some (some (j,v))/\Rel F [] c v | none=>lI str kv a i=some none
 | [],a,o,i,h,e=>by
  simp only[fC] at h;subst h;simp only[vu,vz] at e;subst e;rfl
 | (k,c)::l,a,o,i,h,e=>by
  simp only[fC] at h;obtain⟨u,v,p,rfl,h1,m,n⟩:=h;simp only[vu] at e;split at e
  ·rename_i d;injection e with e
   subst e;exact⟨i,v,by simp only[lI,f _ _ _ d h1],m⟩
  ·rename_i d;have:=xD f (i+1) n e;simp only[lI,f _ _ _ d h1];exact this
  ·cases e
theorem z5 {c:C}{v:Value}{b:Bool}(h:Rel F L c v):aL F L (.tup [c,.bool b]) (.v (.tuple #[v,.bool b])) :=
 ⟨_,rfl,by simp only[Rel,ay];exact⟨[v,.bool b],rfl,v,_,rfl,h,_,[],rfl,rfl,rfl⟩⟩
theorem FK (h:∀j,aL F L (τ j) (ρ j)) {str:Bool}{x:X}:∀b v r,jA str (cS τ x) b=some r->Rel F [] b v->eS str (val L ρ x) v=some r:=by
 intro b v r a hb;refine pX (F:=F) (L:=L) a ?_ hb;have:=Bs h x
 revert this
 cases c:cS τ x<;>rw[c] at a<;>cases str<;>simp only[jA,reduceCtorEq] at a<;>simp only[C.cel]<;>exact fun h=>h
theorem UW {o:dO}{V:C->Prop}(ht:TS G F L ρ M τ) (h:outT o M τ V):aJ o F L ρ (fun sv=>∃c,aL F L c sv/\V c):=by
 have he:=ht.env;cases o<;>simp only[outT] at h<;>simp only[aJ]
 case mov x=>exact⟨_,dQ he x,h⟩
 case pick c a b =>
  split at h
  case h_2=>exact h.elim
  rename_i t hc;rw[iQ he hc];cases t
  ·exact⟨_,dQ he b,h⟩
  ·exact⟨_,dQ he a,h⟩
 case build zs ps =>
  rw[eX] at h;obtain⟨cs,hc,h⟩:=uH h;obtain⟨us,h1,h2⟩:=zZ he ps (kL zs) hc;rw[h1];exact⟨.agg cs,⟨_,rfl,by simp only[Rel];exact⟨us,rfl,h2⟩⟩,h⟩
 case load agg n x =>
  split at h
  ·rename_i k off p;obtain⟨d,_⟩:=iY he p;rw[d];split at h
   case h_2=>exact h.elim
   rename_i t cs hk;obtain⟨g,ty,vs,hL,hr,ao⟩:=kS ht.tl hk;split at h
   case h_2=>exact h.elim
   rename_i hl;have w:=(hr.drop off).take n;simp only[hL];rw[nZ ao.2.2 (jc (by rw[w.len];exact bW hl))];exact⟨_,eC w,h⟩
  ·rename_i es off p;split at h
   case h_2=>exact h.elim
   rename_i hl;obtain⟨b,o,j,vs,d,hp,ho,hr⟩:=rQ he p;have w:ay F L ((es.drop off).take n) ((vs.drop off).take n):=((hr.drop off).take n).lift;rcases d with⟨d,rfl⟩ | d
   ·rw[d];exact⟨_,by rw[w.len];exact bW hl,.inl (kM (es:=es) hp),_,eC w,h⟩
   ·rw[d];exact⟨_,by rw[w.len];exact bW hl,.inl (kM (es:=es) hp),_,eC w,h⟩
  ·rename_i k off p;split at h
   case h_2=>exact h.elim
   rename_i t cs hk;obtain⟨g',ty',cM,d,bz⟩:=s6 he p;obtain⟨g,ty,vs,hL,hr,ao⟩:=kS ht.tl hk;rw[hL] at d;injection d with d
   injection d with q1 q2 q3
   subst q1 q2 q3;split at h
   case h_2=>exact h.elim
   rename_i hl;have w:=(hr.drop off).take n;have an:((vs.drop off).take n).length=n:=by rw[w.len];exact bW hl
   have bk:∀(i:Nat) (u:Value),((vs.drop off).take n)[i]?=some u->vs[off+i]?=some u:=by
    intro i u hu;rw[abH] at hu;split at hu
    case isFalse=>cases hu
    rwa [abw] at hu
   rcases bz with e2 | ⟨b,o,j,e2,e3⟩
   ·rw[e2];exact⟨_,an,.inr (.inr (.inr ⟨k,g,ty,vs,off,hL,ao.2.2,rfl,fun i u hu=>by rw[Nat.add_zero];exact bk i u hu⟩)),_,eC w,h⟩
   ·injection e3 with e3
    injection e3 with e3
    injection e3 with q1 q2 q3
    subst q1 q2;rw[e2];exact⟨_,an,.inr (.inr (.inr ⟨k,g,ty,vs,o,hL,ao.2.2,rfl,fun i u hu=>bk i u hu⟩)),_,eC w,h⟩
  ·rename_i k j off p;split at h
   case h_2=>exact h.elim
   rename_i t sz els hk;obtain⟨es,h1,h2,h3⟩:=h;obtain⟨ad,t',az,m,c,bv,d,e2⟩:=wk he p;obtain⟨v,xs,e3,_,hr⟩:=lY ht.tl hk;rw[e2] at e3;injection e3 with e3
   injection e3 with q1 q2 q3 q4 q5
   subst q2 q3 q5;obtain⟨vs,k1,k2,k3,k4⟩:=hr.at h1;have w:ay F L ((es.drop off).take n) ((vs.drop off).take n):=((k3.drop off).take n).lift;rw[d];refine⟨_,by rw[w.len];exact bW h2,.inr (.inl ⟨k,_,_,_,_,_,ad,c,e2,rfl,rfl,fun i u hu=>?_⟩),_,eC w,h3⟩;rw[abH] at hu;split at hu
   case isFalse=>cases hu
   rw[abw] at hu;rw[Nat.add_assoc];exact k4 _ _ hu
  ·exact h.elim
 case loadR agg n x =>
  split at h
  ·rename_i k off p;obtain⟨d,_⟩:=iY he p;rw[d];split at h
   case h_2=>exact h.elim
   rename_i t cs hk;obtain⟨g,ty,vs,hL,hr,ao⟩:=kS ht.tl hk;split at h
   case h_2=>exact h.elim
   rename_i hl;have w:=(hr.drop off).take n;simp only[hL];rw[nZ ao.2.2 (jc (by rw[w.len];exact bW hl))];exact⟨_,eC w,h⟩
  ·rename_i es off p;split at h
   case h_2=>exact h.elim
   rename_i hl;obtain⟨b,o,j,vs,d,hp,ho,hr⟩:=rQ he p;have w:ay F L ((es.drop off).take n) ((vs.drop off).take n):=((hr.drop off).take n).lift;rcases d with⟨d,rfl⟩ | d
   ·rw[d];exact⟨_,by rw[w.len];exact bW hl,.inl (kM (es:=es) hp),_,eC w,h⟩
   ·rw[d];exact⟨_,by rw[w.len];exact bW hl,.inl (kM (es:=es) hp),_,eC w,h⟩
  ·rename_i k off p;split at h
   case h_2=>exact h.elim
   rename_i t cs hk;obtain⟨g',ty',cM,d,bz⟩:=s6 he p;obtain⟨g,ty,vs,hL,hr,ao⟩:=kS ht.tl hk;rw[hL] at d;injection d with d
   injection d with q1 q2 q3
   subst q1 q2 q3;split at h
   case h_2=>exact h.elim
   rename_i hl;have w:=(hr.drop off).take n;have an:((vs.drop off).take n).length=n:=by rw[w.len];exact bW hl
   have bk:∀(i:Nat) (u:Value),((vs.drop off).take n)[i]?=some u->vs[off+i]?=some u:=by
    intro i u hu;rw[abH] at hu;split at hu
    case isFalse=>cases hu
    rwa [abw] at hu
   rcases bz with e2 | ⟨b,o,j,e2,e3⟩
   ·rw[e2];exact⟨_,an,.inr (.inr (.inr ⟨k,g,ty,vs,off,hL,ao.2.2,rfl,fun i u hu=>by rw[Nat.add_zero];exact bk i u hu⟩)),_,eC w,h⟩
   ·injection e3 with e3
    injection e3 with e3
    injection e3 with q1 q2 q3
    subst q1 q2;rw[e2];exact⟨_,an,.inr (.inr (.inr ⟨k,g,ty,vs,o,hL,ao.2.2,rfl,fun i u hu=>bk i u hu⟩)),_,eC w,h⟩
  ·rename_i k j off p;split at h
   case h_2=>exact h.elim
   rename_i t sz els hk;obtain⟨es,h1,h2,h3⟩:=h;obtain⟨ad,t',az,m,c,bv,d,e2⟩:=wk he p;obtain⟨v,xs,e3,_,hr⟩:=lY ht.tl hk;rw[e2] at e3;injection e3 with e3
   injection e3 with q1 q2 q3 q4 q5
   subst q2 q3 q5;obtain⟨vs,k1,k2,k3,k4⟩:=hr.at h1;have w:ay F L ((es.drop off).take n) ((vs.drop off).take n):=((k3.drop off).take n).lift;rw[d];refine⟨_,by rw[w.len];exact bW h2,.inr (.inl ⟨k,_,_,_,_,_,ad,c,e2,rfl,rfl,fun i u hu=>?_⟩),_,eC w,h3⟩;rw[abH] at hu;split at hu
   case isFalse=>cases hu
   rw[abw] at hu;rw[Nat.add_assoc];exact k4 _ _ hu
  ·exact h.elim
 case loadD agg n x =>
  split at h
  ·rename_i k off p;obtain⟨d,_⟩:=iY he p;rw[d];split at h
   case h_2=>exact h.elim
   rename_i t cs hk;obtain⟨g,ty,vs,hL,hr,ao⟩:=kS ht.tl hk;split at h
   case h_2=>exact h.elim
   rename_i hl;have w:=(hr.drop off).take n;simp only[hL];rw[nZ ao.2.2 (jc (by rw[w.len];exact bW hl))];exact⟨_,eC w,h⟩
  ·rename_i es off p;split at h
   case h_2=>exact h.elim
   rename_i hl;obtain⟨b,o,j,vs,d,hp,ho,hr⟩:=rQ he p;have w:ay F L ((es.drop off).take n) ((vs.drop off).take n):=((hr.drop off).take n).lift;rcases d with⟨d,rfl⟩ | d
   ·rw[d];exact⟨_,by rw[w.len];exact bW hl,.inl (kM (es:=es) hp),_,eC w,h⟩
   ·rw[d];exact⟨_,by rw[w.len];exact bW hl,.inl (kM (es:=es) hp),_,eC w,h⟩
  ·exact h.elim
 case gload g =>
  split at h
  case h_2=>exact h.elim
  rename_i k hg;obtain⟨v,t,fr,h1,h2⟩:=IB ht.glob hg;exact⟨v,t,fr,h1,.opq k,⟨_,rfl,by simp only[Rel];exact h2⟩,h⟩
 case loadF agg n x =>
  split at h
  ·rename_i es off p;split at h
   case h_2=>exact h.elim
   rename_i hl;obtain⟨b,o,j,vs,d,hp,ho,hr⟩:=rQ he p;have w:ay F L ((es.drop off).take n) ((vs.drop off).take n):=((hr.drop off).take n).lift;rcases d with⟨d,rfl⟩ | d
   ·rw[d];exact⟨_,by rw[w.len];exact bW hl,.inl (kM (es:=es) hp),_,eC w,h⟩
   ·rw[d];exact⟨_,by rw[w.len];exact bW hl,.inl (kM (es:=es) hp),_,eC w,h⟩
  ·exact h.elim
 case loadK key agg n x =>
  split at h
  ·rename_i k off p;obtain⟨d,_⟩:=iY he p;rw[d];split at h
   case h_2=>exact h.elim
   rename_i hb;simp only[hb];split at h
   case h_2=>exact h.elim
   rename_i t cs hk;obtain⟨g,ty,vs,hL,hr,ao⟩:=kS ht.tl hk;split at h
   case h_2=>exact h.elim
   rename_i hl;have w:=(hr.drop off).take n;simp only[hL];rw[nZ ao.2.2 (jc (by rw[w.len];exact bW hl))];exact⟨_,eC w,h⟩
  ·exact h.elim
 case mkif t x =>
  split at h
  ·rename_i k n p;obtain⟨d,e2⟩:=gA he p;rw[d];exact⟨.ifc t (.int k n),⟨_,rfl,by simp only[Rel];exact⟨_,rfl,rfl,e2⟩⟩,h⟩
  ·rename_i b p;rw[iQ he p];exact⟨.ifc t (.bool b),⟨_,rfl,by simp only[Rel];exact⟨_,rfl,rfl⟩⟩,h⟩
  ·rename_i s p;obtain⟨d,e2⟩:=wj he p;rw[d];exact⟨.ifc t (.str s),⟨_,rfl,by simp only[Rel];exact⟨_,rfl,rfl,e2⟩⟩,h⟩
  ·rename_i es off p;obtain⟨b,o,j,vs,d,hp,ho,hr⟩:=rQ he p;rcases d with⟨d,rfl⟩ | d
   ·rw[d];exact⟨.ifc t (.pt es off),⟨_,rfl,by simp only[Rel];exact⟨_,rfl,b,o,vs,rfl,hp,ho,hr⟩⟩,h⟩
   ·rw[d];exact⟨.ifc t (.pt es off),⟨_,rfl,by simp only[Rel];exact⟨_,rfl,b,o+j,vs,by rw[cU],hp,ho,hr⟩⟩,h⟩
  ·rename_i cs p;split at h
   case h_2=>exact h.elim
   rename_i hp;rw[eX] at h;obtain⟨vs,d,e2⟩:=Br he p;rw[d];exact⟨.ifc t (.agg cs),⟨_,rfl,by simp only[Rel];exact⟨_,rfl,vs,rfl,ji hp e2⟩⟩,h⟩
  ·exact h.elim
 case nilck x =>
  split at h
  ·rename_i k off p;obtain⟨d,e2⟩:=iY he p;rw[d];exact⟨.own k off,⟨rfl,e2⟩,h⟩
  ·rename_i es off p;obtain⟨b,o,j,vs,d,hp,ho,hr⟩:=rQ he p;rcases d with⟨d,rfl⟩ | d
   ·rw[d];exact⟨.pt es off,⟨b,o,0,vs,.inl ⟨rfl,rfl⟩,hp,ho,hr⟩,h⟩
   ·rw[d];exact⟨by simp,.pt es off,⟨b,o,j,vs,.inr rfl,hp,ho,hr⟩,h⟩
  ·rename_i k off p;obtain⟨g,t,cs,d,e2⟩:=s6 he p;rcases e2 with e2 | ⟨b,o,j,e2,e3⟩
   ·rw[e2];exact⟨.ownv k off,⟨_,.inl rfl,by simp only[Rel];exact⟨g,t,cs,d,rfl⟩⟩,h⟩
   ·rw[e2];exact⟨by simp,.ownv k off,⟨_,.inr ⟨b,o,j,rfl,rfl⟩,by simp only[Rel];exact⟨g,t,cs,d,e3.symm⟩⟩,h⟩
  ·rename_i f fi ca p;obtain⟨cX,cx,d,h1,h2⟩:=uJ he p;rw[d];exact⟨.fn f fi ca,⟨_,rfl,by simp only[Rel];exact⟨cX,cx,rfl,h1,h2⟩⟩,h⟩
  ·rename_i nm c p;split at h
   case h_2=>exact h.elim
   rename_i t c;obtain⟨u,d,hr⟩:=xC he p;have dv:=hr;simp only[Rel] at hr;obtain⟨u',rfl,hu⟩:=hr;rw[d];exact⟨h.1,.mval nm (.ifc t c),⟨_,rfl,by simp only[Rel];exact⟨_,rfl,_,rfl,hu⟩⟩,h.2⟩
  ·exact h.elim
 case bin op x y =>
  split at h
  ·rename_i k a k' b p hy;obtain⟨d,w1⟩:=gA he p;obtain⟨e2,w2⟩:=gA he hy;rw[d,e2];split at h
   ·rename_i bu;simp only[bu];exact JB w1 h fun v hv hV=>⟨_,xB hv,hV⟩
   ·rename_i bu;simp only[bu];split at h
    case h_2=>exact h.elim
    rename_i hk;simp only[hk];exact Hr w1 h fun v hv hV=>⟨_,xB hv,hV⟩
  ·rename_i a b p hy;rw[(wj he p).1,(wj he hy).1];exact Hs h fun v hv hV=>⟨_,xB hv,hV⟩
  ·exact h.elim
 case eqB neg x y =>
  split at h
  case h_2=>exact h.elim
  rename_i a b p hy;rw[iQ he p,iQ he hy];exact⟨_,fW,h⟩
 case eqS neg x y =>
  have hy:isNil y=true->ev ρ y=.v (.slice none 0 0):=by
   unfold isNil;split
   ·intro _;rfl
   ·intro e;cases e
  split at h
  ·rename_i els h1 p;obtain⟨a,c,sz,d,e2,e3,e4,e5⟩:=Qs he p;rw[d,hy h1];refine⟨_,fW,h _ fun bd=>?_⟩;cases a with
   | none=>exact o5 (e4 rfl).1 bd
   | some a=>rfl
  ·rename_i els h1 p;obtain⟨a,sz,d,_⟩:=Bu he p;rw[d,hy h1];exact⟨_,fW,h⟩
  ·rename_i h1 p;rw[s5 he p,hy h1];exact⟨_,fW,h⟩
  ·exact h.elim
 case eqN neg x =>
  split at h
  ·rename_i t c p;obtain⟨u,d,_⟩:=Mu he p;rw[d];exact⟨_,fW,h⟩
  ·rename_i k p;split at h
   case h_2=>exact h.elim
   rename_i b hb;obtain⟨v,d,h1⟩:=FH he p;rw[d];obtain⟨q1,q2⟩:=IE h1 hb;cases b with
   | true=>rw[q1 rfl];exact⟨_,fW,h⟩
   | false=>obtain⟨t,u,rfl⟩:=q2 rfl;exact⟨_,fW,h⟩
  ·exact h.elim
 case eqA neg ks x y =>
  split at h
  case h_2=>exact h.elim
  rename_i cs ds p hy;split at h
  case h_2=>exact h.elim
  rename_i b hb;obtain⟨vs,d,h1⟩:=Br he p;obtain⟨us,e2,h2⟩:=Br he hy;simp only[d,e2];rw[MA hb h1 h2];exact⟨_,fW,h⟩
 case un op x =>
  split at h
  ·rename_i b p;rw[iQ he p];exact⟨_,fW,h⟩
  ·rename_i k n p;rw[(gA he p).1];exact⟨⟨_,l9 (wf_wrap _ _),h.out⟩⟩
  ·rename_i k n p;rw[(gA he p).1];exact⟨_,l9 (wf_wrap _ _),h⟩
  ·exact h.elim
 case conv k x =>
  split at h
  case h_2=>exact h.elim
  rename_i k' n p;rw[(gA he p).1];exact⟨⟨_,l9 (wf_wrap _ _),h.out⟩⟩
 case mkfn f fi ca=>exact⟨.fn f _ _,⟨_,rfl,by simp only[Rel];exact⟨_,_,rfl,dL he fi,dL he ca⟩⟩,h⟩
 case slc sz x lo hi =>
  split at h
  case h_2=>exact h.elim
  rename_i els p;split at h
  case h_2=>exact h.elim
  rename_i l r hl hh;obtain⟨h1,h2,h3,h4,h5⟩:=h;obtain⟨a,c,az,d,e2,e3,e4,e5⟩:=lg he p;rw[d];simp only[FI he hl,FI he hh];refine⟨h1,h2,by omega,_,?_,h5⟩;have an:((els.drop l.toNat).take (r.toNat-l.toNat)).length=r.toNat-l.toNat:=by simp;omega
  have hs:els≠[]->az=sz:=by
   intro bd;obtain⟨es,ce⟩:=List.exists_mem_of_ne_nil _ bd;obtain⟨i,hi⟩:=abb.1 ce;obtain⟨vs,k1,_,_,k4⟩:=nB.1 e5 i es hi;rw[<-k1,k4.len,h4 es ce]
  have key:=JD (l:=l.toNat) (h:=r.toNat) e5 e4 (by omega) (by omega) e2;unfold rG;have:=Mz (F:=F) (L:=L) (els:=(els.drop l.toNat).take (r.toNat-l.toNat)) (a:=if c=l.toNat then a else a.map (·.add (l.toNat*sz))) (c:=c-l.toNat) (sz:=sz) (by rw[an];omega) (by rw[an];omega) ?_ ?_
  ·rw[an] at this;exact this
  ·intro hn;have ha:a=none:=by
    split at hn
    ·exact hn
    ·cases a with
     | none=>rfl
     | some a=>simp at hn
   obtain⟨q1,q2⟩:=e4 ha;subst q1;simp;omega
  ·by_cases bd:els=[]
   ·subst bd;simp only[List.drop_nil,List.take_nil,gu]
   ·rw[hs bd] at key;exact key
 case fieldA off x =>
  split at h
  ·rename_i k o p;obtain⟨d,e2⟩:=iY he p;rw[d];exact⟨.own k (o+off),⟨rfl,e2⟩,h⟩
  ·rename_i es o p;obtain⟨b,q,j,vs,d,hp,ho,hr⟩:=rQ he p;have cm:∀j',q+j'=q+j+off->Mp F b (q+j') (o+off) vs:=by
    intro j' hj;obtain⟨cl,ci,t,fr,k1,k2,k3⟩:=hp;exact⟨cl,ci,t,fr,k1,by omega,k3⟩
   rcases d with⟨d,rfl⟩ | d
   ·rw[d];exact⟨.pt es (o+off),⟨b,q,off,vs,.inr rfl,cm _ (by omega),ho,hr⟩,h⟩
   ·rw[d];exact⟨.pt es (o+off),⟨b,q,j+off,vs,.inr rfl,cm _ (by omega),ho,hr⟩,h⟩
  ·rename_i k j o p;obtain⟨ad,t,sz,n,c,xs,d,e2⟩:=wk he p;rw[d];exact⟨.elr k j (o+off),⟨ad,t,sz,n,c,xs,by rw[Nat.add_assoc],e2⟩,h⟩
  ·rename_i k o p;obtain⟨g,t,cs,d,e2⟩:=s6 he p;rcases e2 with e2 | ⟨b,q,j,e2,e3⟩
   ·rw[e2];exact⟨.ownv k (o+off),⟨_,.inr ⟨g,o,off,rfl,rfl⟩,by simp only[Rel];exact⟨g,t,cs,d,rfl⟩⟩,h⟩
   ·rw[e2];injection e3 with e3
    injection e3 with e3
    injection e3 with e4 e5
    subst e4;exact⟨.ownv k (o+off),⟨_,.inr ⟨g,q,j+off,rfl,rfl⟩,by simp only[Rel];exact⟨g,t,cs,d,by rw[e5,Nat.add_assoc]⟩⟩,h⟩
  ·exact h.elim
 case idxA sz x i =>
  split at h
  ·rename_i els k i p hi;obtain⟨es,h1,h2,h3,h4⟩:=h;obtain⟨a,c,az,d,e2,e3,e4,e5⟩:=lg he p;rw[d,(gA he hi).1];have cb:i.toNat<els.length:=(aaR.1 h2).1;obtain⟨vs,k1,⟨ad,ci,t,fr,e,hb,cr,hv⟩,k3,k4⟩:=nB.1 e5 _ _ h2;have hs:az=sz:=by rw[<-k1,k4.len,bW h3]
   subst hs;subst e;refine⟨by simp,h1,by omega,_,JF hb cr (fun i v hi=>?_) k3 k4,h4⟩;have:=hv i v hi;simpa using this
  ·rename_i k i' i p hi;split at h
   case h_2=>exact h.elim
   rename_i t az els hk;split at h
   case h_2=>exact h.elim
   rename_i de;have:=aaO de;subst this;obtain⟨h1,h2,h3⟩:=h;obtain⟨a,c,t',az,n,bv,d,e2⟩:=EG he (Bt p);obtain⟨v,xs,e3,⟨_,a',c',q6,q7⟩,hr⟩:=lY ht.tl hk;rw[e2] at e3;injection e3 with e3
   injection e3 with q1 q2 q3 q4 q5
   subst q2 q3 q4;rw[d,(gA he hi).1];cases a with
   | none =>
    rw[<-q1] at q6;injection q6 with q6
    have:=q7 q6.symm;omega
   | some ad=>exact⟨by simp,h1,h2,.elr k i.toNat 0,⟨ad,_,_,_,c,_,by simp,e2⟩,h3⟩
  ·exact h.elim
 case extr x i =>
  split at h
  case h_2=>exact h.elim
  rename_i cs p;split at h
  case h_2=>exact h.elim
  rename_i v hv;obtain⟨vs,d,hr⟩:=Mt he p;rw[d];have cb:i<vs.length:=by rw[hr.len];exact(aaR.1 hv).1
  simp only[aaN cb];exact⟨_,kx (hr.at hv (aaN cb)),h⟩
 case len x =>
  have wl:∀n:Nat,n<=maxLen->(Lit.int .i64 (n:Int)).wf=true:=by
   intro n hn;simp only[maxLen] at hn;simp[Lit.wf,IntKind.min,IntKind.max,IntKind.bits,IntKind.signed];omega
  split at h
  ·rename_i els p;obtain⟨a,c,az,d,e2,e3,e4,e5⟩:=lg he p;rw[d];exact⟨_,l9 (wl _ e3),h⟩
  ·rename_i k p;split at h
   case h_2=>exact h.elim
   rename_i t az els hk;obtain⟨a,c,t',az,n,bv,d,e2⟩:=EG he (Bt p);obtain⟨v,xs,e3,⟨hm,_⟩,hr⟩:=lY ht.tl hk;rw[e2] at e3;injection e3 with e3
   injection e3 with q1 q2 q3 q4 q5
   subst q4;rw[d];exact⟨_,l9 (wl _ hm),h⟩
  ·rename_i k p;obtain⟨n,h1,h2,h3⟩:=h;obtain⟨v,d,e2⟩:=FH he (Mx p);obtain⟨a,c,rfl⟩:=LG e2 h1;rw[d];exact⟨_,l9 (wl _ (by simpa[maxLen] using h2)),h3⟩
  ·exact h.elim
 case mlook str ok z x i =>
  split at h
  case h_2=>exact h.elim
  rename_i k p;split at h
  case h_2=>exact h.elim
  rename_i es hk;obtain⟨g,cs,d,e2⟩:=FJ he p;obtain⟨g',vs,e3,hE⟩:=JG ht.tl hk;rw[e2] at e3;injection e3 with e3
  injection e3 with q1 q2 q3
  subst q1 q3;rw[d];refine⟨k,cs,e2,hE.isMap,⟨?_⟩⟩;rcases h.out with⟨c,h1,h2⟩ | ⟨h1,h2⟩
  ·obtain⟨j,v,h3,h4⟩:=xD (FK he) 0 hE h1;refine .inl ⟨j,v,h3,?_⟩;have h5:Rel F L c v:=h4.lift;cases ok with
   | true=>exact⟨_,z5 h5,h2⟩
   | false=>exact⟨_,kx h5,h2⟩
  ·refine .inr ⟨xD (FK he) 0 hE h1,?_⟩;have h5:Rel F L (cv z) z:=Qt z;cases ok with
   | true=>exact⟨_,z5 h5,h2⟩
   | false=>exact⟨_,Si z,h2⟩
 case mm mx args =>
  split at h
  case h_2=>exact h.elim
  rename_i k a l hl;split at h
  case h_2=>exact h.elim
  rename_i m hm
  match args,hl with
  | x::args,hl =>
   simp only[aaW,List.cons.injEq] at hl;obtain⟨p,rfl⟩:=hl;simp only[aaW,(gA he p).1,JC he mx args hm];exact⟨_,l9 h.1,h.2⟩
end
theorem TL.aac (L:TL) (k:Nat) (o:TO) (j:Nat):(L.set k o).get j=if j=k then some o else L.get j:=by
 induction L with
 | nil =>
  simp only[TL.set,TL.get];cases h:Nat.beq k j with
  | true=>have:=aaO h;simp[this]
  | false=>have:=gb h;simp;omega
 | cons p l c =>
  obtain⟨i,q⟩:=p;simp only[TL.set];cases h:Nat.beq i k with
  | true =>
   have e:=aaO h;subst e;simp only[TL.get];cases a:Nat.beq i j with
   | true=>have:=aaO a;simp[this]
   | false=>have:=gb a;simp;omega
  | false =>
   have b:=gb h;simp only[];cases d:Nat.ble i k with
   | true =>
    simp only[TL.get];cases a:Nat.beq i j with
    | true=>have:=aaO a;simp;omega
    | false=>simpa using c
   | false =>
    simp only[TL.get];cases a:Nat.beq k j with
    | true=>have:=aaO a;simp[this]
    | false =>
     have:=gb a;simp only[];rw[fL (by omega)]
theorem TL.aaf (L:TL) (k j:Nat):(L.del k).get j=if j=k then none else L.get j:=by
 induction L with
 | nil=>simp[TL.del,TL.get]
 | cons p l c =>
  obtain⟨i,q⟩:=p;simp only[TL.del];cases h:Nat.beq i k with
  | true =>
   have e:=aaO h;subst e;simp only[TL.get,c]
   by_cases a:j=i
   ·simp[a]
   ·have:Nat.beq i j=false:=by cases b:Nat.beq i j with | true=>exact o5 (aaO b).symm a | false=>rfl
    simp[a,this]
  | false =>
   have d:=gb h;simp only[TL.get];cases b:Nat.beq i j with
   | true=>have:=aaO b;simp;omega
   | false=>simpa using c
theorem tj:∀(l:List TO) (k j:Nat),TL.get (pO k l) j=if k<=j then l[j-k]? else none
 | [],k,j=>by simp[pO,TL.get]
 | o::l,k,j=>by
  simp only[pO,TL.get];cases h:Nat.beq k j with
  | true=>have:=aaO h;subst this;simp
  | false =>
   have a:=gb h;simp only[tj l (k+1) j]
   by_cases h1:k<=j
   ·rw[fo (by omega),fo h1,show j-k=(j-(k+1))+1 by omega,abk]
   ·rw[fL (by omega),fL h1]
theorem ck (l:List TO) (j:Nat):TL.get (cD l) j=if 1000<=j then l[j-1000]? else none:=tj l 1000 j
theorem xE:∀{L:TL}{ks:List Nat}{l:List TO},L.sub ks=some l->l.length=ks.length/\∀(i:Nat) (k:Nat),ks[i]?=some k->L.get k=l[i]?
 | L,[],l,h=>by simp only[TL.sub,vz] at h;subst h;simp
 | L,k::ks,l,h=>by
  simp only[TL.sub] at h;split at h
  case h_2=>cases h
  rename_i o e h1 a;injection h with h
  subst h;obtain⟨b,d⟩:=xE a;refine⟨by simp[b],fun i c hi=>?_⟩;cases i with
  | zero=>simp at hi;subst hi;simpa using h1
  | succ i=>simp at hi;simpa using d i c hi
theorem qE:∀(ks:List Nat) (L:TL) (j:Nat),(L.aae ks).get j=if j∈ks then none else L.get j
 | [],L,j=>by simp[TL.aae]
 | k::ks,L,j=>by
  simp only[TL.aae,qE ks,TL.aaf,aaT]
  by_cases h1:j=k<;>by_cases a:j∈ks<;>simp[h1,a]
theorem nG:∀(ko:List Nat) (l:List TO) (L:TL) (j:Nat),ko.Nodup->ko.length=l.length ->
  ((L.puts ko l).get j=L.get j/\j∉ko)\/∃i,ko[i]?=some j/\(L.puts ko l).get j=l[i]?/\i<l.length
 | [],l,L,j,_,h=>by
  refine .inl ⟨?_,by simp⟩;cases l<;>rfl
 | k::ko,[],L,j,_,h=>by simp at h
 | k::ko,o::l,L,j,c,h=>by
  simp only[aa7,Nat.add_right_cancel_iff] at h;rw[List.nodup_cons] at c;simp only[TL.puts];rcases nG ko l (L.set k o) j c.2 h with⟨h1,b⟩ | ⟨i,h1,b,d⟩
  ·rw[TL.aac] at h1
   by_cases a:j=k
   ·subst a;rw[fo rfl] at h1;exact .inr ⟨0,by simp,by simpa using h1,by simp⟩
   ·rw[fL a] at h1;exact .inl ⟨h1,by simp[a,b]⟩
  ·exact .inr ⟨i+1,by simpa using h1,by simpa using b,by simp;omega⟩
theorem pY (g:C->C):∀(L:TL) (k:Nat),(TL.aad g L).get k=(L.get k).map (TO.aad g)
 | [],k=>rfl
 | (j,o)::l,k=>by
  simp only[TL.aad,TL.get];cases h:Nat.beq j k with
  | true=>rfl
  | false=>exact pY g l k
section
variable {P:Program}{G:Nat->Option (Nat×TypeId)}{F:au}{L:Loc}{ρ:Env}{M:TL}{τ:aK}
theorem Bv (d:Option Nat) (c:C) (τ:aK) (t:Nat):bg d c τ t=match d with | some k=>if t=k then c else τ t | none=>τ t:=by
 cases d with
 | none=>rfl
 | some k =>
  simp only[bg];cases h:Nat.beq t k with
  | true=>have:=aaO h;simp[this]
  | false=>have:=gb h;simp[this]
theorem MC {F:au}{L:Loc}{τ:aK}{ρ:Env}(h:∀j,aL F L (τ j) (ρ j)) {c:C}{sv:SV}(a:aL F L c sv) (d:Option Nat):∀j,aL F L (bg d c τ j) (put d sv ρ j):=by
 intro j;rw[Bv,put_eq];cases d with
 | none=>exact h j
 | some k =>
  simp only[];split
  ·exact a
  ·exact h j
theorem TS.put (a:TS G F L ρ M τ) {c:C}{sv:SV}(b:aL F L c sv) (d:Option Nat):TS G F L (put d sv ρ) M (bg d c τ):=⟨a.tl,MC a.env b d,a.kp,a.glob⟩
theorem dR {F:au}{L:Loc}{a:Option TO}{b:Option Own}(h:xu F L a b):(a=none/\b=none)\/∃o p,a=some o/\b=some p/\cE F L o p:=by
 cases a<;>cases b<;>simp only[xu] at h
 ·exact .inl ⟨rfl,rfl⟩
 ·exact .inr ⟨_,_,rfl,rfl,h⟩
theorem TS.new {F':au}(c:F.le F') (b:TS G F L ρ M τ) {k:Nat}(l:L.get k=none) {o:Own}{to:TO}(n:cE F' (L.set k o) to o):TS G F' (L.set k o) ρ (M.set k to) τ:=by
 have a:Ext L (L.set k o):=by
  intro j p e;refine⟨p,?_,Own.aah p⟩;rw[Loc.aac,fL (by rintro rfl;rw[l] at e;cases e)];exact e
 refine⟨fun j=>?_,fun j=>(b.env j).ext c a,fun j g t e=>?_,b.glob.mono c⟩
 ·rw[TL.aac,Loc.aac];split
  ·exact n
  ·rcases dR (b.tl j) with⟨d,f⟩ | ⟨p,q,d,f,m⟩
   ·rw[d,f];trivial
   ·rw[d,f];exact m.ext c a
 ·obtain⟨cs,h⟩:=b.kp j g t e;exact⟨cs,by rw[Loc.aac,fL (by rintro rfl;rw[l] at h;cases h)];exact h⟩
theorem TS.mono {F':au}(b:F.le F') (a:TS G F L ρ M τ):TS G F' L ρ M τ:=⟨a.tl.mono b,fun j=>(a.env j).mono b,a.kp,a.glob.mono b⟩
theorem TS.turn (c:TS G F L ρ M τ) {k:Nat}{o o':Own}(m:L.get k=some o) (n:Own.like o o') (b:∀g t cs,o=.box g t cs->∃cs',o'=.box g t cs') {to:TO}(s:∀L',Ext L L'->cE F L' to o') :
  TS G F (L.set k o') ρ (M.set k to) τ:=by
 have a:Ext L (L.set k o'):=by
  intro j p e;rw[Loc.aac];split
  ·rename_i d;subst d;rw[m] at e;injection e with e
   subst e;exact⟨o',rfl,n⟩
  ·exact⟨p,e,Own.aah p⟩
 refine⟨fun j=>?_,fun j=>(c.env j).ext (au.le_refl F) a,fun j g t e=>?_,c.glob⟩
 ·rw[TL.aac,Loc.aac];split
  ·exact s _ a
  ·rcases dR (c.tl j) with⟨f,l⟩ | ⟨p,q,f,l,r⟩
   ·rw[f,l];trivial
   ·rw[f,l];exact r.ext (au.le_refl F) a
 ·obtain⟨cs,h⟩:=c.kp j g t e;rw[Loc.aac];split
  ·rename_i d;subst d;rw[m] at h;injection h with h
   obtain⟨cs',u⟩:=b g t cs h;exact⟨cs',by rw[u]⟩
  ·exact⟨cs,h⟩
theorem nH {L':Loc}{k:Nat}(a:∀g t cs,L.get k≠some (.box g t cs)) (f:∀j,j≠k->∀o,L.get j=some o->∃o',L'.get j=some o'/\Own.like o o') {F':au}(b:F.le F') (c:C) (v:Value) (l:c.leaf=true)
  (h:Rel F L c v):Rel F' L' (fU k c) v:=by
 cases c<;>simp only[C.leaf,aa1] at l<;>simp only[fU]
 case rw j =>
  cases m:Nat.beq j k with
  | true=>simp only[Rel]
  | false=>exact bD b (fun d e=>by
    rcases e with⟨off,e⟩ | e | e
    ·cases e
    ·injection e with e;subst e;exact f j (gb m)
    ·cases e) rfl h
 case own j off =>
  refine bD b (fun d e=>?_) rfl h;rcases e with⟨off,e⟩ | e | e
  ·injection e with e e2
   subst e;simp only[Rel] at h;obtain⟨g,t,cs,h1,_⟩:=h;exact f j (by rintro rfl;exact a _ _ _ h1)
  ·cases e
  ·cases e
 case elr=>exact h.elim
 case mpr j =>
  refine bD b (fun d e=>?_) rfl h;rcases e with⟨off,e⟩ | e | e
  ·cases e
  ·cases e
  ·injection e with e
   subst e;simp only[Rel] at h;obtain⟨g,cs,h1,_⟩:=h;exact f j (by rintro rfl;exact a _ _ _ h1)
 all_goals
  exact bD b (fun d e=>by rcases e with⟨off,e⟩ | e | e<;>cases e) rfl h
theorem oD {L':Loc}{k:Nat}(d:∀g t cs,L.get k≠some (.box g t cs)) (n:∀j,j≠k->∀o,L.get j=some o->∃o',L'.get j=some o'/\Own.like o o') {F':au}(f:F.le F') (c:C) (sv:SV) (q:c.leaf=true)
  (h:aL F L c sv):aL F' L' (fU k c) sv:=by
 cases c<;>simp only[C.leaf,aa1] at q<;>simp only[fU]
 case rw j =>
  cases p:Nat.beq j k with
  | true=>trivial
  | false=>exact dB f (fun l e=>by
    rcases e with⟨off,e⟩ | ⟨off,e⟩ | e | ⟨a,b,e⟩ | e<;>first | cases e;done | skip
    injection e with e;subst e;exact n j (gb p)) rfl h
 case elr j a b =>
  cases p:Nat.beq j k with
  | true=>trivial
  | false=>exact dB f (fun l e=>by
    rcases e with⟨off,e⟩ | ⟨off,e⟩ | e | ⟨a,b,e⟩ | e<;>first | cases e;done | skip
    injection e with e;subst e;exact n j (gb p)) rfl h
 case own j off =>
  refine dB f (fun l e=>?_) rfl h;obtain⟨_,g,t,cs,h1⟩:=h;rcases e with⟨off,e⟩ | ⟨off,e⟩ | e | ⟨a,b,e⟩ | e<;>first | cases e;done | skip
  injection e with e
  subst e;exact n j (by rintro rfl;exact d _ _ _ h1)
 case ownv j off =>
  refine dB f (fun l e=>?_) rfl h;obtain⟨v,_,m⟩:=h;simp only[Rel] at m;obtain⟨g,t,cs,h1,_⟩:=m;rcases e with⟨off,e⟩ | ⟨off,e⟩ | e | ⟨a,b,e⟩ | e<;>first | cases e;done | skip
  injection e with e
  subst e;exact n j (by rintro rfl;exact d _ _ _ h1)
 case mpr j =>
  refine dB f (fun l e=>?_) rfl h;obtain⟨v,_,m⟩:=h;simp only[Rel] at m;obtain⟨g,cs,h1,_⟩:=m;rcases e with⟨off,e⟩ | ⟨off,e⟩ | e | ⟨a,b,e⟩ | e<;>first | cases e;done | skip
  injection e with e
  subst e;exact n j (by rintro rfl;exact d _ _ _ h1)
 all_goals
  exact dB f (fun l e=>by rcases e with⟨off,e⟩ | ⟨off,e⟩ | e | ⟨a,b,e⟩ | e<;>cases e) rfl h
theorem cE.aay {L':Loc}{k:Nat}(a:∀g t cs,L.get k≠some (.box g t cs)) (l:∀j,j≠k->∀o,L.get j=some o->∃o',L'.get j=some o'/\Own.like o o') {F':au}(b:F.le F'):∀{o:TO}{p:Own},cE F L o p->cE F' L' (o.aad (C.kill k)) p
 | .box t cs,.box g d e,r=>⟨r.1,r.2.map fun c _ v h=>Rel.mp (nH a l b) 3 h⟩
 | .row t sz els,.row v d f n xs,r=>⟨r.1,r.2.1,r.2.2.1,r.2.2.2.1,r.2.2.2.2.mono b⟩
 | .box _ _,.row ..,r=>r.elim
 | .row ..,.box ..,r=>r.elim
 | .map _,.row ..,r=>r.elim
 | .map es,.box g d e,r=>⟨r.1,r.2.mono b⟩
theorem TS.aay (b:TS G F L ρ M τ) {k:Nat}{o':Own}(a:∀g t cs,L.get k≠some (.box g t cs)) {to:TO}(n:cE F (L.set k o') to o') :
  TS G F (L.set k o') ρ ((M.aad (C.kill k)).set k to) (fun j=>(τ j).kill k):=by
 have d:∀j,j≠k->∀o,L.get j=some o->∃p,(L.set k o').get j=some p/\Own.like o p:=fun j l o e=>⟨o,by rw[Loc.aac,fL l];exact e,Own.aah o⟩;refine⟨fun j=>?_,fun j=>aL.mp (nH a d (au.le_refl F)) (oD a d (au.le_refl F)) 3 (b.env j),fun j g t e=>?_,b.glob⟩
 ·rw[TL.aac,Loc.aac,pY];split
  ·exact n
  ·rcases dR (b.tl j) with⟨c,f⟩ | ⟨p,q,c,f,m⟩
   ·rw[c,f];trivial
   ·rw[c,f];exact m.aay a d (au.le_refl F)
 ·obtain⟨cs,h⟩:=b.kp j g t e;exact⟨cs,by rw[Loc.aac,fL (by rintro rfl;exact a _ _ _ h)];exact h⟩
theorem jl {a:Option Addr}{sz b:Nat}{els:List (List C)}(h:gu F a b 0 els) (x:∀es∈els,es.length=sz):∃xs,xs.length=els.length*sz/\(dG F a 0 xs\/(els.length=0/\xs=[]))/\aN F sz els xs:=by
 cases m:els with
 | nil=>exact⟨[],by simp,.inr ⟨rfl,rfl⟩,by simp only[aN]⟩
 | cons u f =>
  rw[m] at h x;have h0:=nB.1 h 0 u (by simp);obtain⟨az,k1,⟨e,k,t,fr,ea,hb,p,_⟩,_,k4⟩:=h0;have q:b=sz:=by rw[<-k1,k4.len,x u (by simp)]
  subst q;subst ea;have key:∀(l:List (List C)) (i:Nat),gu F (some e) b i l->∃xs,aN F b l xs/\∀(j:Nat) v,xs[j]?=some v->k[e.off+i*b+j]?=some v:=by
   intro l
   induction l with
   | nil=>intro i _;exact⟨[],by simp only[aN],by simp⟩
   | cons es l ih =>
    intro i hr;simp only[gu] at hr;obtain⟨⟨o,y,⟨ae,z,t',av,w,c,ab,hv⟩,q3,q4⟩,q5⟩:=hr;injection w with w
    subst w;rw[hb] at c;injection c with c
    injection c with r1 r2 r3
    subst r1;obtain⟨xs,n,s⟩:=ih (i+1) q5;refine⟨o++xs,by simp only[aN];exact⟨o,xs,rfl,y,q3,q4,n⟩,fun j v d=>?_⟩
    by_cases r:j<o.length
    ·rw[abB r] at d;exact hv j v d
    ·rw[abC (by omega)] at d;have:=s _ _ d;rw[show e.off+i*b+j=e.off+(i+1)*b+(j-o.length) by rw[y,Nat.add_mul];omega];exact this
  obtain⟨xs,n,s⟩:=key (u::f) 0 h;exact⟨xs,gZ n,.inl ⟨e,k,t,fr,rfl,hb,p,fun j v d=>by have:=s j v d;simpa using this⟩,n⟩
theorem aN.ones {sz:Nat}:∀{l:List (List C)}{xs:List Value},aN F sz l xs->∀u∈xs,u.oneCell'=true
 | [],xs,h=>by simp only[aN] at h;subst h;simp
 | es::l,xs,h=>by
  simp only[aN] at h;obtain⟨j,e,rfl,f,b,d,c⟩:=h;intro u a;rcases aaU.1 a with a | a
  ·exact nF d b u a
  ·exact aN.ones c u a
theorem aN.set {sz:Nat}:∀{l:List (List C)}{xs:List Value},aN F sz l xs->∀{j:Nat}{es ds:List C}{us:List Value}{off:Nat},l[j]?=some es->off+us.length<=sz->ay F [] ds us->eG ds=true ->
  aN F sz (l.set j (iX es off ds)) (bO xs (j*sz+off) us)
 | [],xs,h,j,es,ds,us,off,e,_,_,_=>by simp at e
 | x::l,xs,h,j,es,ds,us,off,e,q,o,h1=>by
  simp only[aN] at h;obtain⟨b,f,rfl,k,d,n,m⟩:=h;cases j with
  | zero =>
   simp only[aa3,vz] at e;subst e;simp only[List.set_cons_zero,aN];refine⟨bO b off us,f,?_,?_,?_,mH n o,m⟩
   ·simp only[bO,Nat.zero_mul,Nat.zero_add];rw[List.take_append_of_le_length (by omega),List.drop_append_of_le_length (by omega)];simp
   ·simp only[bO,abG,abL,List.length_drop];omega
   ·rw[nC] at d h1 ⊢;intro c a;simp only[iX,aaU] at a;rcases a with(a | a) | a
    ·exact d c (List.mem_of_mem_take a)
    ·exact h1 c a
    ·exact d c (List.mem_of_mem_drop a)
  | succ j =>
   simp only[List.set_cons_succ,aN];have p:=aN.set m (j:=j) (by simpa using e) q o h1;refine⟨b,_,?_,k,d,n,p⟩;simp only[bO];rw[show(j+1)*sz+off=b.length+(j*sz+off) by rw[k,Nat.add_mul];omega];rw[List.take_length_add_append,show b.length+(j*sz+off)+us.length=b.length+(j*sz+off+us.length) by omega,List.drop_length_add_append];simp[abM]
end
end Go.Fr.T
